/- The contract of rec.Number: it appends a number's bytes, the highest first, to a row of the call's own. -/
import Derived.Test.YtmbmfhpdajdpfaaBase
namespace Go.Proofs.Ytmbmfhpdajdpfaa
open Go.RowKit

/-- A number in so many bytes, the highest first. -/
def numB (n : Nat) : Nat → List UInt8
  | 0 => []
  | k + 1 => UInt8.ofNat (n / 256 ^ k) :: numB n k

theorem numB_len (n k : Nat) : (numB n k).length = k := by
  induction k with
  | zero => rfl
  | succ k ih => simp [numB, ih]

/-- The first j of them. -/
theorem numB_take (n k j : Nat) (h : j < k) : (numB n k).take (j + 1) = (numB n k).take j ++ [UInt8.ofNat (n / 256 ^ (k - 1 - j))] := by
  induction k generalizing j with
  | zero => omega
  | succ k ih =>
    cases j with
    | zero => simp [numB]
    | succ j =>
      simp only [numB, List.take_succ_cons, List.cons_append]
      rw [ih j (by omega)]
      rw [show k + 1 - 1 - (j + 1) = k - 1 - j by omega]

theorem bv_ofNat (m : Nat) : bv (UInt8.ofNat m) = .int .u8 ((m % 256 : Nat) : Int) := by
  simp [bv]
theorem numB_val (N j : Nat) : Value.int .u8 ((N : Int) / 2 ^ (8 * j) % 256) = bv (UInt8.ofNat (N / 256 ^ j)) := by
  rw [bv_ofNat, show (256 : Nat) ^ j = 2 ^ (8 * j) by rw [Nat.pow_mul]]
  simp

theorem Try.infoByte : (Try.prog.info? 5).map (fun i => (i.zero, i.size, i.bytes)) = some (some (.int .u8 0), 1, 1) := by kernel_rfl

set_option maxHeartbeats 400000 in
set_option maxRecDepth 100000 in
theorem number_any (base : Nat) (v : Value) (n : Nat) (xs : List Value) (N long : Nat) (w : World) (hl : long ≤ 8) (hN : N < 18446744073709551616) (hn : n ≤ 1000000)
    (hown : w.ownsRow base 5 1 v n xs) (hb : base ≤ w.heap.size) :
    Calls Try.prog 36 #[v, .int .u64 N, .int .i64 long] w fun e w' => ∃ v', e = .returned v' ∧ w'.ownsRow base 5 1 v' (n + long) (xs ++ (numB N long).map bv) ∧ Grew w v w' v' := by
  obtain ⟨i0, hi, hz0, hz1, hz2⟩ := info_parts Try.infoByte
  have HN := Hid.mk hN
  clear hN
  go_enter Try.func36, Try.ntmps36
  go_wp2
  go_loopw [0, 7] (fun vv i wr => ∃ k : Nat, k ≤ long ∧ i = .int .i64 ((long : Int) - 1 - k) ∧ wr.ownsRow base 5 1 vv (n + k) (xs ++ ((numB N long).take k).map bv) ∧ Grew w v wr vv) (fun _ i _ => (intOf i + 1).toNat)
  case atStart => exact ⟨0, Nat.zero_le _, by simp, by simpa using hown, Grew.refl w v⟩
  case round =>
    obtain ⟨k, hk, rfl, hwr, hgr⟩ := hrel
    by_cases hlt : k < long
    · have h0 : (0 : Int) ≤ (long : Int) - 1 - k := by omega
      have h63 : n + k + 1 ≤ maxLen := by simp only [maxLen]; omega
      have HH := Hid.mk (And.intro hgr (And.intro hown hb))
      clear hgr hown hb
      go_wp2_with (at_builtin; refine wpl_append rfl (.tmp 14) (.tmp 21) 30 rfl base 5 i0 _ 1 1 Try.underlying30 hi hz0 hz1 hz2 rfl (by omega) _ (n + k) _ rfl (hwr.alloc _) _ (some ⟨wr.heap.size, 0, none⟩) 1 1 _ rfl (rds_one _ _ _) ?c1 ?c2 ?c3 ?c4 ?_)
      case c1 => intro u hu; simp at hu; subst hu; rfl
      case c2 => exact h63
      case c3 => omega
      case c4 => have := HH.out.1.chg.size; have := HH.out.2.2; simp; omega
      rintro v' w' hown' hg'
      rw [numB_val] at hown' hg'
      have G := Hid.mk (HH.out.1.trans hg'.alloc_left)
      have O := Hid.mk hown'
      clear hown' hg' hwr
      go_wp2
      go_roundw
      case rel =>
        refine ⟨k + 1, by omega, by go_num, ?_, G.out⟩
        have h := O.out
        rw [numB_take _ _ _ hlt, List.map_append, ← List.append_assoc]
        simpa [Nat.add_assoc] using h
      case measure => simp [intOf]; omega
    · have : k = long := by omega
      subst this
      have HH := Hid.mk (And.intro hgr (And.intro hown hwr))
      clear hgr hown hwr
      go_wp2
      go_ret
      refine ⟨_, rfl, ?_, HH.out.1⟩
      have h := HH.out.2.2
      rwa [List.take_of_length_le (by rw [numB_len]; exact Nat.le_refl _)] at h
end Go.Proofs.Ytmbmfhpdajdpfaa
