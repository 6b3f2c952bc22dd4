/- The statements' 'awake' of layer 13 is true. -/
import Derived.Test.YtmbmfhpdajdpfaaText
import Derived.Lib.SlBytesConst
namespace Go.Proofs.Ytmbmfhpdajdpfaa
open Go.RowKit

theorem scan_zero : scanA 1 (List.replicate 40 (0 : UInt8)) = ([], 0) := by decide
theorem scan_x : scanA 1 (recB 1 [120]) = ([[120]], 14) := by decide

set_option maxHeartbeats 1000000 in
set_option maxRecDepth 100000 in
theorem awakeR_any (w : World) : Calls Try.prog 13 #[] w fun e w' => e = .returned (.bool true) ∧ Below w.heap.size w w' := by
  obtain ⟨i0, hi, hz0, hz1, hz2⟩ := info_parts Try.infoByte
  have kc := fun (W : World) (C : Array Value) (n c : Nat) => Lib.run_convert_bytes_const (P := Try.prog) W 30 5 C n c Try.underlying30 Try.underlying5
  have hx : RdB (w.alloc (.cells #[.int .u8 120] 5 (1, 2))) (fun k => k = w.heap.size) (some ⟨w.heap.size, 0, none⟩) 1 [120] :=
    RdB.of_cells rfl rfl (fun j u hu => (cell_of_row _ w.heap.size (0 + j) #[.int .u8 120] 5 (1, 2) (heap_alloc_new w _)).trans (by
      match j, hu with
      | 0, hu => simpa [bv] using hu
      | j + 1, hu => simp at hu))
  have HX := Hid.mk hx
  have HB := Hid.mk ((Below.refl w.heap.size w).alloc (Nat.le_refl _) (.cells #[.int .u8 120] 5 (1, 2)))
  clear hx
  go_enter Try.func13, Try.ntmps13
  go_wp2_with fail
  refine (put_ok 1 (some ⟨w.heap.size, 0, none⟩) 1 1 [120] _ _ HX.out (by omega) (by omega) (by omega)).mono ?_
  rintro e w1 ⟨v1, rfl, o1, b1⟩
  have bw1 : Below w.heap.size w w1 := HB.out.trans (b1.mono HB.out.size)
  obtain ⟨A1, c1, rfl, hc1, hm1⟩ := own_form o1
  have H1 := Hid.mk (And.intro (own_base o1 (base' := w.heap.size) (fun k hk => Nat.le_trans HB.out.size (own_ge o1 k hk))) (And.intro bw1 (And.intro hc1 hm1)))
  clear o1 b1 bw1 hc1 hm1
  clear kc
  go_wp2_with (first
    | (at_make; refine wpl_make rfl (.const (.int .i64 40)) (.const (.int .i64 40)) 30 rfl 5 i0 _ 1 Try.underlying30 hi hz0 hz1 hz2 rfl 40 rfl rfl (by omega) (by simp only [maxLen]; omega) ?_; intro w2 o2 ch2 l2; have H2 := Hid.mk (And.intro o2 ch2); clear o2 ch2)
    | fail)
  have r2 : RdB w2 (Own (.slice (some ⟨w1.heap.size, 0, none⟩) 40 40)) (some ⟨w1.heap.size, 0, none⟩) 40 (List.replicate 40 (0 : UInt8)) := by
    have h := Rds.of_own H2.out.1
    unfold RdB
    simpa [bv] using h
  refine (scan_any 1 _ 40 40 _ _ w2 r2 (by omega) (by simp only [maxLen]; omega) (by omega)).mono ?_
  rintro e w3 ⟨h3, b3⟩
  rw [scan_zero] at h3
  obtain ⟨v3, vs3, rfl, o3, _⟩ := h3
  obtain ⟨A3, c3, rfl, hc3, hm3⟩ := own_form o3
  have ch13 : Chg Nil w1 w3 := H2.out.2.trans (Chg.of_below' b3) (fun _ _ h => h)
  have r3 : RdB w3 (Own (.slice A1 14 c1)) A1 14 (recB 1 [120]) := (show RdB w1 (Own (.slice A1 14 c1)) A1 14 (recB 1 [120]) from Rds.of_own H1.out.1).keep ch13 (fun _ _ h => h)
  have H3 := Hid.mk (And.intro r3 (ch13.below H1.out.2.1 H1.out.2.1.size (fun _ _ h => h.elim)))
  clear o3 b3 r2 r3 ch13 hc3 hm3
  go_wp2_with fail
  refine (scan_any 1 A1 c1 14 _ _ w3 H3.out.1 (by have := H1.out.2.2.1; simpa using this) H1.out.2.2.2 (by omega)).mono ?_
  rintro e w4 ⟨h4, b4⟩
  rw [scan_x] at h4
  obtain ⟨v4, vs4, rfl, o4, _⟩ := h4
  obtain ⟨A4, c4, rfl, hc4, hm4⟩ := own_form o4
  have H4 := Hid.mk b4
  clear o4 b4 hc4 hm4
  go_wp2_with fail
  go_ret
  exact ⟨rfl, H3.out.2.trans (H4.out.mono H3.out.2.size)⟩
end Go.Proofs.Ytmbmfhpdajdpfaa
