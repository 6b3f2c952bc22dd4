/- The walk of DiskParts: it returns true, whatever the input. -/
import Derived.Test.YtbaaoldcecefcaaLive2
import Derived.Test.YtbaaoldcecefcaaCells
import Derived.Test.YtbaaoldcecefcaaDLent
namespace Go.Proofs.Ytbaaoldcecefcaa
open Go.RowKit

theorem called_zero {d : Dp} (h : d.stop = 0) : d.called = d := by rw [Dp.called, if_neg (by omega)]
/-- The second disk behind k writes of one byte. -/
def PartsInv (w w' : World) (g : Nat) (M R : Nat → Prop) (d : Dp) (g' P : Nat) (c : List UInt8) : Prop :=
  ∃ M' R' d', Live2 w w' g M R d g' M' R' d' ∧ d'.now.length = 400 ∧ d'.lasts = (Dp.new 400).lasts ∧ d'.waits = singles P c ∧ d'.dead = false ∧ d'.stop = 0

set_option maxHeartbeats 1000000 in
set_option maxRecDepth 100000 in
theorem parts_walk (A : Option Addr) (n c : Nat) (b : List UInt8) (p keep : Int) (S : Nat → Prop) (w : World) (hr : RdB w S A n b) (hnc : n ≤ c) :
    Calls Try.prog 4 #[.slice A n c, .int .i64 p, .int .i64 keep] w fun e w' => e = .returned (.bool true) ∧ Chg Nil w w' := by
  obtain rfl := hr.len
  have HR := Hid.mk hr
  clear hr
  go_enter Try.func4, Try.ntmps4
  go_wp2_with fail
  refine (dnew_any 400 w).mono ?_
  rintro e w1 ⟨g, M, R, rfl, hc1, h1, hlow⟩
  have L1 := Hid.mk (Live.mk hc1 h1 hlow)
  clear hc1 h1 hlow
  go_wp2_with fail
  refine (dnew_any 400 w1).mono ?_
  rintro e w2 ⟨g', M', R', rfl, hc2, h2, hlow2⟩
  have L2 := Hid.mk (Live2.new L1.out hc2 h2 hlow2)
  clear hc2 h2 hlow2
  by_cases h200 : 200 < b.length
  · have d2 : decide ((b.length : Int) > 200) = true := by simp; omega
    go_wp2_with fail
    refine (awakeD_any _).mono ?_
    rintro e w3 ⟨rfl, hc3⟩
    have L3 := Hid.mk (L2.out.nil hc3)
    clear hc3
    go_wp2_with fail
    go_ret
    exact ⟨rfl, L3.out.one.chg⟩
  · have d2 : decide ((b.length : Int) > 200) = false := by simp; omega
    have hand := i64_and_127 p
    have hP : (p % 128).toNat ≤ 127 := by omega
    generalize (p % 128).toNat = P at hand hP
    have hand2 := i64_and_255 keep
    have hK : (keep % 256).toNat ≤ 255 := by omega
    generalize (keep % 256).toNat = K at hand2 hK
    have hr2 : RdB w2 (fun k => S k ∧ k < w.heap.size) A b.length b := HR.out.here.keep L2.out.one.chg (fun _ _ h => h)
    go_wp2_with fail
    refine (dwrite_ok L2.out.one.dk P A b.length c b hr2 (fun k hk hm => by have := L2.out.one.low k (.inl hm); omega) (by rw [show (Dp.new 400).now.length = 400 from dnew_now 400 (by omega)]; omega) rfl (Nat.zero_le _)).mono ?_
    rintro e w3 ⟨M3, R3, rfl, hw3, h3⟩
    have L3 := Hid.mk (L2.out.went hw3 h3)
    clear hw3 h3 hr2
    go_wp2_with fail
    go_loopw [9] (fun i wr => ∃ k : Nat, k ≤ b.length ∧ i = .int .i64 (k : Int) ∧ PartsInv w wr g M3 R3 ((Dp.new 400).write P b) g' P (b.take k)) (fun i _ => b.length - (intOf i).toNat)
    case atStart => exact ⟨0, Nat.zero_le _, rfl, M', R', Dp.new 400, L3.out, dnew_now 400 (by omega), rfl, rfl, rfl, rfl⟩
    case round =>
      obtain ⟨k, hk, rfl, M4, R4, d4, hl4, hn4, hla4, hwa4, hd4, hs4⟩ := hrel
      by_cases hlt : k < b.length
      · have hrk : RdB wr (fun k => S k ∧ k < w.heap.size) A b.length b := HR.out.here.keep hl4.one.chg (fun _ _ h => h)
        have hrp := hrk.part (k := k) (m := k + 1) (c := c = k) (by omega) (by omega) (by omega)
        rw [if_neg (show ¬ c = k by omega)] at hrp
        have HK := Hid.mk (And.intro hl4 hrp)
        clear hl4 hrk hrp
        have hb1 : (b.drop k).take (k + 1 - k) = [b[k]] := by
          rw [show k + 1 - k = 1 by omega, List.drop_eq_getElem_cons hlt]
          rfl
        have hrw : RdB wr (fun k => S k ∧ k < w.heap.size) (Option.map (fun x => x.add k) A) 1 [b[k]] := by
          have h := HK.out.2
          rw [hb1] at h
          simpa using h
        have HW := Hid.mk hrw
        clear hrw
        go_wp2_with fail
        rw [show (P : Int) + (k : Int) = ((P + k : Nat) : Int) by omega]
        refine (dwrite_ok HK.out.1.two.dk (P + k) _ 1 (c - k) [b[k]] HW.out (fun i hk hm => by have := HK.out.1.two.low i (.inl hm); omega) (by rw [hn4]; omega) hd4 (by rw [hwa4, singles_len, List.length_take]; omega)).mono ?_
        rintro e w5 ⟨M5, R5, rfl, hw5, h5⟩
        have L5 := Hid.mk (HK.out.1.went' hw5 h5)
        clear hw5 h5
        go_wp2_with fail
        go_roundw
        case rel =>
          refine ⟨k + 1, by omega, by go_num, M5, R5, _, L5.out, ?_, ?_, ?_, ?_, ?_⟩
          · rw [Dp.write]
            show (splice d4.now (P + k) [b[k]]).length = 400
            rw [splice_len _ _ _ (by rw [hn4]; simp; omega)]
            exact hn4
          · rw [Dp.write, called_zero hs4]
            exact hla4
          · rw [Dp.write, hwa4, List.take_succ_eq_append_getElem hlt, singles_snoc, List.length_take, Nat.min_eq_left hk]
          · rw [Dp.write, called_zero hs4]
            exact hd4
          · rw [Dp.write, called_zero hs4]
            exact hs4
        case measure => simp [intOf]; omega
      · have : k = b.length := by omega
        subst this
        rw [List.take_length] at hwa4
        have h300 : (Dp.new 400).lasts.length = 400 := dnew_lasts 400 (by omega)
        have HL := Hid.mk hl4
        clear hl4
        go_wp2_with fail
        refine (dwaits_any HL.out.one.dk (by show (1 : Nat) ≤ 1000000; omega)).mono ?_
        rintro e w5 ⟨rfl, hc5⟩
        rw [show sumW ((Dp.new 400).write P b).waits = b.length from Nat.add_zero _]
        have L5 := Hid.mk (HL.out.nil hc5)
        clear hc5
        go_wp2_with fail
        refine (dwaits_any L5.out.two.dk (by rw [hwa4, singles_len]; omega)).mono ?_
        rintro e w6 ⟨rfl, hc6⟩
        rw [hwa4, singles_sum]
        have L6 := Hid.mk (L5.out.nil hc6)
        clear hc6
        go_wp2_with fail
        refine (dcrash_any L6.out.one.dk (K : Int) (by omega) (by omega) (by show (1 : Nat) ≤ 1000000; omega)).mono ?_
        rintro e w7 ⟨⟨v7, rfl⟩, hc7, h7⟩
        have L7 := Hid.mk (L6.out.step hc7 h7)
        clear hc7 h7
        go_wp2_with fail
        refine (dcrash_any L7.out.two.dk (K : Int) (by omega) (by omega) (by rw [hwa4, singles_len]; omega)).mono ?_
        rintro e w8 ⟨⟨v8, rfl⟩, hc8, h8⟩
        have L8 := Hid.mk (L7.out.step' hc8 h8)
        clear hc8 h8
        have hX1 : (((Dp.new 400).write P b).crash (K : Int)).now = splice (Dp.new 400).lasts P (b.take K) := crash_one _ _ _ _
        have hX2 : (d4.crash (K : Int)).now = splice (Dp.new 400).lasts P (b.take K) := by
          rw [Dp.crash, hwa4, hla4]
          exact crash_singles _ _ _ _ (by rw [h300]; omega)
        have hXl : (splice (Dp.new 400).lasts P (b.take K)).length = 400 := by
          rw [splice_len _ _ _ (by rw [h300, List.length_take]; omega)]
          exact h300
        generalize splice (Dp.new 400).lasts P (b.take K) = X at hX1 hX2 hXl
        go_wp2_with fail
        refine (dread_ok L8.out.one.dk 0 400 (by rw [hX1]; omega) rfl).mono ?_
        rintro e w9 ⟨v9, rfl, o9, hc9⟩
        rw [hX1, List.drop_zero, List.take_of_length_le (by omega)] at o9
        obtain ⟨A9, c9, rfl, hx9, hy9⟩ := own_form o9
        have L9 := Hid.mk (L8.out.nil hc9)
        have O9 := Hid.mk o9
        clear o9 hc9
        go_wp2_with fail
        refine (dread_ok L9.out.two.dk 0 400 (by rw [hX2]; omega) rfl).mono ?_
        rintro e w10 ⟨v10, rfl, o10, hc10⟩
        rw [hX2, List.drop_zero, List.take_of_length_le (by omega)] at o10
        obtain ⟨A10, c10, rfl, hx10, hy10⟩ := own_form o10
        have hcv10 := run_bytes_str (P := Try.prog) (c := c10) (Rds.of_own o10 : RdB w10 _ A10 400 X) 22 9 5 Try.underlying22 Try.underlying5 Try.underlying9
        have hcv9 := run_bytes_str (P := Try.prog) (c := c9) ((Rds.of_own O9.out : RdB w9 _ A9 400 X).keep hc10 (fun _ _ h => h)) 22 9 5 Try.underlying22 Try.underlying5 Try.underlying9
        have L10 := Hid.mk (L9.out.nil hc10)
        clear o10 hc10
        go_wp2_with fail
        refine (dwaits_any L10.out.one.dk (Nat.zero_le _)).mono ?_
        rintro e w11 ⟨rfl, hc11⟩
        rw [show sumW (((Dp.new 400).write P b).crash (K : Int)).waits = 0 from rfl]
        have L11 := Hid.mk (L10.out.nil hc11)
        clear hc11
        go_wp2_with fail
        refine (awakeD_any _).mono ?_
        rintro e w12 ⟨rfl, hc12⟩
        have L12 := Hid.mk (L11.out.nil hc12)
        clear hc12
        go_wp2_with fail
        go_ret
        exact ⟨rfl, L12.out.one.chg⟩
theorem parts_law (A : Option Addr) (n c : Nat) (b : List UInt8) (p keep : Int) (S : Nat → Prop) (w : World) (hr : RdB w S A n b) (hnc : n ≤ c) :
    Calls Try.prog 4 #[.slice A n c, .int .i64 p, .int .i64 keep] w fun e w' => e = .returned (.bool true) ∧ Below w.heap.size w w' :=
  (parts_walk A n c b p keep S w hr hnc).mono fun _ _ h => ⟨h.1, h.2.below_nil⟩
end Go.Proofs.Ytbaaoldcecefcaa
