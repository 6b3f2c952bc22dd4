/- The statements' 'awake' of layer 12 is true. -/
import Derived.Test.YtbaaoldcecefcaaDkG
import Derived.Lib.SlBytesConst
namespace Go.Proofs.Ytbaaoldcecefcaa
open Go.RowKit

/-- A disk of the call's own, from w0 on. -/
structure Live (w0 w : World) (g : Nat) (M R : Nat → Prop) (d : Dp) : Prop where
  chg : Chg Nil w0 w
  dk : Dk w g M R d
  low : ∀ k, M k ∨ R k → w0.heap.size ≤ k
section
variable {w0 w w' : World} {g : Nat} {M R M' R' : Nat → Prop} {d d' : Dp}
theorem Live.nil (h : Live w0 w g M R d) (hc : Chg Nil w w') : Live w0 w' g M R d := ⟨h.chg.trans hc (fun _ _ h => h), h.dk.keep_nil hc, h.low⟩
theorem Live.far {S : Nat → Prop} (h : Live w0 w g M R d) (hc : Chg S w w') (hl : ∀ k, S k → w0.heap.size ≤ k) (hs : ∀ k, M k ∨ R k → ¬ S k) : Live w0 w' g M R d :=
  ⟨h.chg.trans hc (fun i hi hm => by have := hl i hm; omega), h.dk.keep hc (fun k hk => hs k (.inl hk)) (fun k hk => hs k (.inr hk)), h.low⟩
theorem Live.went (h : Live w0 w g M R d) (hw : Went w w' M R M' R') (hd : Dk w' g M' R' d') : Live w0 w' g M' R' d' :=
  ⟨h.chg.trans hw.chg (fun i hi hm => by have := h.low i (.inl hm); omega), hd, fun k hk => by
    rcases Nat.lt_or_ge k w.heap.size with hlt | hge
    · rcases hk with hk | hk
      · exact h.low k (.inl (hw.m k hlt hk))
      · exact h.low k (.inr (hw.r k hlt hk))
    · have := h.chg.size; omega⟩
theorem Live.step (h : Live w0 w g M R d) (hc : Chg M w w') (hd : Dk w' g M R d') : Live w0 w' g M R d' := h.went (Went.of_chg hc) hd
end
theorem chg_g {w w' : World} {g : Nat} {M R : Nat → Prop} {d : Dp} (h : Dk w g M R d) (hc : Chg (· = g) w w') : Chg M w w' := by
  obtain ⟨_, _, _, _, h⟩ := h
  exact hc.wider fun k _ hk => hk ▸ h.mg

theorem awd1 : ((Dp.new 4).write 0 [97, 98]).waits.length = 1 := by decide
theorem awd2 : (((((Dp.new 4).write 0 [97, 98]).crash 1).now.drop 0).take 2) = [97, 0] := by decide
theorem awd3 : (((Dp.new 4).write 0 [97, 98]).crash 1).now.length = 4 := by decide
theorem awd4 : (((Dp.new 4).write 0 [97, 98]).crash 1).dead = false := by decide
theorem awd5 : (((Dp.new 4).write 0 [97, 98]).crash 1).waits = [] := by decide
theorem awd6 : (Dp.new 4).now.length = 4 := by decide

set_option maxHeartbeats 1000000 in
set_option maxRecDepth 100000 in
theorem awakeD_any (w : World) : Calls Try.prog 10 #[] w fun e w' => e = .returned (.bool true) ∧ Chg Nil w w' := by
  have kc := fun (W : World) (C : Array Value) (n c : Nat) => Lib.run_convert_bytes_const (P := Try.prog) W 22 5 C n c Try.underlying22 Try.underlying5
  go_enter Try.func10, Try.ntmps10
  go_wp2_with fail
  refine (dnew_any 4 w).mono ?_
  rintro e w1 ⟨g, M, R, rfl, hc1, h1, hlow⟩
  have L1 := Hid.mk (Live.mk hc1 h1 hlow)
  clear hc1 h1 hlow
  go_wp2_with fail
  have hA : Chg Nil w1 (w1.alloc (.cells #[.int .u8 97, .int .u8 98] 5 (2, 3))) := (Chg.refl Nil w1).alloc _
  have hr : RdB (w1.alloc (.cells #[.int .u8 97, .int .u8 98] 5 (2, 3))) (fun k => k = w1.heap.size) (some ⟨w1.heap.size, 0, none⟩) 2 [97, 98] :=
    RdB.of_cells rfl rfl (fun j u hu => (cell_of_row _ w1.heap.size (0 + j) #[.int .u8 97, .int .u8 98] 5 (2, 3) (heap_alloc_new w1 _)).trans (by
      match j, hu with
      | 0, hu => simpa [bv] using hu
      | 1, hu => simpa [bv] using hu
      | j + 2, hu => simp at hu))
  have L1' := Hid.mk (L1.out.nil hA)
  have hlt := L1.out.dk.lt
  refine (dwrite_ok L1'.out.dk 0 _ 2 2 [97, 98] hr (fun k hk hm => by have := hlt k (.inl hm); omega) (by rw [awd6]; omega) rfl (by decide)).mono ?_
  rintro e w2 ⟨M2, R2, rfl, hw, h2⟩
  have L2 := Hid.mk (L1'.out.went hw h2)
  clear hA hr hlt hw h2
  go_wp2_with fail
  refine (dcrash_any L2.out.dk 1 (by omega) (by omega) (by rw [awd1]; omega)).mono ?_
  rintro e w3 ⟨⟨v, rfl⟩, hc3, h3⟩
  have L3 := Hid.mk (L2.out.step hc3 h3)
  clear hc3 h3
  go_wp2_with fail
  refine (dread_ok L3.out.dk 0 2 (by rw [awd3]; omega) awd4).mono ?_
  rintro e w4 ⟨v4, rfl, o4, hc4⟩
  obtain ⟨A4, c4, rfl, hx4, hy4⟩ := own_form o4
  rw [awd2] at o4
  have hr4 : RdB w4 (Own (.slice A4 2 c4)) A4 2 [97, 0] := Rds.of_own o4
  have hcv := run_bytes_str (P := Try.prog) (c := c4) hr4 22 9 5 Try.underlying22 Try.underlying5 Try.underlying9
  have L4 := Hid.mk (L3.out.nil hc4)
  clear o4 hr4 hc4
  go_wp2_with fail
  refine (size_any L4.out.dk).mono ?_
  rintro e w5 ⟨rfl, rfl⟩
  rw [awd3]
  go_wp2_with fail
  refine (dwaits_any L4.out.dk (by rw [awd5]; exact Nat.zero_le _)).mono ?_
  rintro e w6 ⟨rfl, hc6⟩
  rw [awd5, sumW]
  have L6 := Hid.mk (L4.out.nil hc6)
  clear hc6
  go_wp2_with fail
  go_ret
  exact ⟨rfl, L6.out.chg⟩
end Go.Proofs.Ytbaaoldcecefcaa
