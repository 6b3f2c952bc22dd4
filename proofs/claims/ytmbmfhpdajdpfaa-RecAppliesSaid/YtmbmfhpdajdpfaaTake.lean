/- The contract of rec.Reader's Take: it takes a number of so many bytes off the front; where there are too few it empties the reader and marks it bad. -/
import Derived.Test.YtmbmfhpdajdpfaaPlain
namespace Go.Proofs.Ytmbmfhpdajdpfaa
open Go.RowKit

theorem shl_or_val (n c : Nat) (hn : n < 72057594037927936) (hc : c < 256) : bits .or .u64 (IntKind.u64.wrap ((n : Int) * 256)) (c : Int) = ((n * 256 + c : Nat) : Int) := by
  rw [IntKind.wrap_u64, show ((n : Int) * 256 % 18446744073709551616) = ((n * 256 : Nat) : Int) by omega, u64_or_nat _ _ (by omega) (by omega)]
  have := Nat.two_pow_add_eq_or_of_lt (i := 8) (b := c) (by omega) n
  rw [Nat.mul_comm] at this
  exact congrArg (fun x : Nat => (x : Int)) this.symm
theorem unB_take_lt (bs : List UInt8) (k : Nat) (h : k ≤ 7) : unB (bs.take k) < 72057594037927936 :=
  Nat.lt_of_lt_of_le (unB_lt _) (Nat.le_trans (Nat.pow_le_pow_right (by omega) (by rw [List.length_take]; omega : (bs.take k).length ≤ 7)) (by decide))

set_option maxHeartbeats 400000 in
set_option maxRecDepth 100000 in
theorem take_ok (p : Nat) (A : Option Addr) (c n : Nat) (bs : List UInt8) (bad : Bool) (S : Nat → Prop) (long : Nat) (w : World)
    (hp : Bk w p 83 #[.slice A n c, .bool bad]) (hr : RdB w S A n bs) (hS : ¬ S p) (h0 : 0 < long) (hl : long ≤ 8) (hle : long ≤ n) (hc : n ≤ c) (hcm : c ≤ maxLen) :
    Calls Try.prog 45 #[.pointer (some ⟨p, 0, none⟩), .int .i64 long] w fun e w' => e = .returned (.int .u64 (unB (bs.take long) : Nat)) ∧
      w' = w.setCell ⟨p, 0, none⟩ (.slice (if c = long then A else A.map (·.add (long * 1))) (n - long) (c - long)) := by
  obtain rfl := hr.len
  have hc0 : w.cell? ⟨p, 0, none⟩ = some (.slice A bs.length c) := hp.cell 0 rfl
  have hf0 := hp.free 0
  unfold maxLen at hcm
  obtain ⟨b, off, rfl, hb, hlt, hx0⟩ := hr.plain (by omega)
  have hx := Hid.mk hx0
  clear hx0
  have HH := Hid.mk (And.intro hp (And.intro hr hS))
  clear hp hr hS
  have hd : decide (bs.length < long) = false := by simpa using hle
  go_enter Try.func45, Try.ntmps45
  go_wp2_with fail
  go_loop [5, 28] (fun n i => ∃ k : Nat, k ≤ long ∧ i = .int .i64 k ∧ n = .int .u64 (unB (bs.take k) : Nat)) (fun _ i => long - (intOf i).toNat)
  case atStart => exact ⟨0, Nat.zero_le _, rfl, rfl⟩
  case round =>
    obtain ⟨k, hk, rfl, rfl⟩ := hrel
    by_cases hlt : k < long
    · have hkb : k < bs.length := by omega
      have hcell := RdB.byte hx.out hkb
      have hs := unB_take bs k hkb
      have hN := unB_take_lt bs k (by omega)
      have h256 := bs[k].toNat_lt
      have hv := shl_or_val _ _ hN h256
      generalize bs[k].toNat = d at *
      generalize unB (bs.take k) = N at *
      have HV := Hid.mk (And.intro hv (And.intro hs hN))
      clear hv hs hN
      go_wp2_with fail
      go_round
      case rel => exact ⟨k + 1, by omega, by go_num, by rw [HV.out.1, HV.out.2.1]⟩
      case measure => simp [intOf]; omega
    · have : k = long := by omega
      subst this
      go_wp2
      all_goals (go_ret; exact ⟨rfl, rfl⟩)

theorem take_any (p : Nat) (A : Option Addr) (c n : Nat) (bs : List UInt8) (bad : Bool) (S : Nat → Prop) (long : Nat) (w : World)
    (hp : Bk w p 83 #[.slice A n c, .bool bad]) (hr : RdB w S A n bs) (hS : ¬ S p) (h0 : 0 < long) (hl : long ≤ 8) (hle : long ≤ n) (hc : n ≤ c) (hcm : c ≤ maxLen) :
    Calls Try.prog 45 #[.pointer (some ⟨p, 0, none⟩), .int .i64 long] w fun e w' => e = .returned (.int .u64 (unB (bs.take long) : Nat)) ∧
      Chg (· = p) w w' ∧ ∃ A', Bk w' p 83 #[.slice A' (n - long) (c - long), .bool bad] ∧ RdB w' S A' (n - long) (bs.drop long) := by
  refine (take_ok p A c n bs bad S long w hp hr hS h0 hl hle hc hcm).mono fun e w' ⟨he, hw⟩ => ⟨he, ?_⟩
  subst hw
  have hch : Chg (· = p) w (w.setCell ⟨p, 0, none⟩ (.slice (if c = long then A else A.map (·.add (long * 1))) (n - long) (c - long))) :=
    (Chg.refl (· = p) w).setCell (p := ⟨p, 0, none⟩) (fun _ => rfl) _
  refine ⟨hch, (if c = long then A else A.map (·.add (long * 1))), hp.set 0 _, ?_⟩
  have h := (hr.part (k := long) (m := n) (c := c = long) hle (Nat.le_refl _) (by omega)).keep hch (fun k hs hk => hS (hk ▸ hs))
  rwa [List.take_of_length_le (by rw [List.length_drop, hr.len]; exact Nat.le_refl _)] at h

set_option maxHeartbeats 400000 in
set_option maxRecDepth 100000 in
theorem take_short (p : Nat) (A : Option Addr) (c n : Nat) (bad : Bool) (long : Nat) (w : World)
    (hp : Bk w p 83 #[.slice A n c, .bool bad]) (hle : n < long) :
    Calls Try.prog 45 #[.pointer (some ⟨p, 0, none⟩), .int .i64 long] w fun e w' => e = .returned (.int .u64 0) ∧
      Chg (· = p) w w' ∧ Bk w' p 83 #[.slice none 0 0, .bool true] := by
  have hc0 : w.cell? ⟨p, 0, none⟩ = some (.slice A n c) := hp.cell 0 rfl
  have hc1 : w.cell? ⟨p, 1, none⟩ = some (.bool bad) := hp.cell 1 rfl
  have hf0 := hp.free 0
  have hf1 := hp.free 1
  have hfin := Hid.mk (And.intro (((Chg.refl (· = p) w).setCell (p := ⟨p, 0, none⟩) (fun _ => rfl) (.slice none 0 0)).setCell (p := ⟨p, 1, none⟩) (fun _ => rfl) (.bool true)) ((hp.set 0 (.slice none 0 0)).set 1 (.bool true)))
  clear hp
  go_enter Try.func45, Try.ntmps45
  go_wp2
  go_ret
  exact ⟨rfl, hfin.out.1, hfin.out.2⟩
end Go.Proofs.Ytmbmfhpdajdpfaa
