/- Joined for this seat from: XEput. -/
import Derived.Test.YtkemmffdiclloaaGreatDoorAp
set_option linter.unusedVariables false
set_option linter.unusedSimpArgs false
namespace Go.Proofs.YtkemmffdiclloaaGreatDoor
open Go.RowKit
theorem or_add (m i y : Nat) (hy : y < 2 ^ i) : (m * 2 ^ i) ||| y = m * 2 ^ i + y := by
  have h := Nat.shiftLeft_add_eq_or_of_lt hy m
  rw [Nat.shiftLeft_eq] at h
  exact h.symm
theorem or_add64 (m i y : Nat) (hy : y < 2 ^ i) (hm : m * 2 ^ i < 18446744073709551616) (hy2 : y < 18446744073709551616) : bits .or .u64 ((m * 2 ^ i : Nat) : Int) (y : Int) = ((m * 2 ^ i + y : Nat) : Int) := by
  rw [u64_or_nat _ _ hm hy2, or_add m i y hy]
theorem castmul (d k : Nat) (Q : Int) (h : (k : Int) = Q) : ((d * k : Nat) : Int) = (d : Int) * Q := by rw [← h]; exact Int.natCast_mul d k
theorem pow28 (j : Nat) : 2 ^ (3 * (j + 1)) = 8 ^ j * 8 := by
  rw [Nat.pow_mul]
  exact Nat.pow_succ 8 j
theorem or_put (m d j : Nat) (hd : d < 8) (hj : j ≤ 11) (hm : m < 33554432 * 8 ^ (11 - j)) : bits .or .u64 ((m * 8 ^ (j + 1) : Nat) : Int) ((d * 8 ^ j : Nat) : Int) = (((8 * m + d) * 8 ^ j : Nat) : Int) := by
  have hp : 0 < 8 ^ j := Nat.pow_pos (by decide)
  have e : 8 ^ (j + 1) = 2 ^ (3 * (j + 1)) := by rw [pow28]; exact Nat.pow_succ 8 j
  have hq : 33554432 * 8 ^ (11 - j) * 8 ^ (j + 1) = 2305843009213693952 := by
    rw [Nat.mul_assoc, ← Nat.pow_add, show 11 - j + (j + 1) = 12 by omega]
  have h1 : m * 8 ^ (j + 1) < 33554432 * 8 ^ (11 - j) * 8 ^ (j + 1) := Nat.mul_lt_mul_of_pos_right hm (Nat.pow_pos (by decide))
  have h2 : d * 8 ^ j < 8 ^ (j + 1) := by rw [Nat.pow_succ, Nat.mul_comm (8 ^ j)]; exact Nat.mul_lt_mul_of_pos_right hd hp
  have h3 : 8 ^ (j + 1) ≤ 8 ^ 12 := Nat.pow_le_pow_right (by decide) (by omega)
  have h3' : 8 ^ (j + 1) ≤ 68719476736 := h3
  have h0 := or_add64 m (3 * (j + 1)) (d * 8 ^ j) (by rw [← e]; exact h2) (by rw [← e]; omega) (by omega)
  rw [← e] at h0
  rw [h0, Nat.pow_succ, Nat.add_mul, Nat.mul_comm 8 m, Nat.mul_assoc m 8, Nat.mul_comm 8 (8 ^ j)]
set_option maxHeartbeats 4000000 in
theorem put_any (g m d r : Nat) (hr : 1 ≤ r ∧ r ≤ 12) (hd : d < 8) (hm : m < 33554432 * 8 ^ (r - 1)) (w : World) (hb : Bk w g 78 #[.int .u64 ((m * 8 ^ (13 - r) : Nat) : Int)]) :
    Calls Tryz.prog 28 #[.pointer (some ⟨g, 0, none⟩), .int .i64 (r : Int), .int .u64 (d : Int)] w fun e w' => e = .returned (.tuple #[]) ∧ Bk w' g 78 #[.int .u64 (((8 * m + d) * 8 ^ (12 - r) : Nat) : Int)] ∧ Chg (fun k => k = g) w w' := by
  have y0 := hb.cell 0 rfl
  have f0 := fun j => hb.free j
  have H := Hid.mk hb
  clear hb
  have h12 : r = 1 ∨ r = 2 ∨ r = 3 ∨ r = 4 ∨ r = 5 ∨ r = 6 ∨ r = 7 ∨ r = 8 ∨ r = 9 ∨ r = 10 ∨ r = 11 ∨ r = 12 := by omega
  rcases h12 with rfl | rfl | rfl | rfl | rfl | rfl | rfl | rfl | rfl | rfl | rfl | rfl
  · have e0 := or_put m d 11 hd (by decide) hm
    rw [castmul m (8 ^ (11 + 1)) 68719476736 rfl] at e0
    rw [castmul d (8 ^ 11) 8589934592 rfl] at e0
    generalize hV : (((8 * m + d) * 8 ^ 11 : Nat) : Int) = V at e0
    have HV := Hid.mk hV
    clear hV
    go_enter Tryz.func28, Tryz.ntmps28
    go_wp2_with fail
    go_end0
    exact ⟨rfl, by have h := H.out.set 0 (.int .u64 V); rw [← HV.out] at h ⊢; exact h, (Chg.refl (fun k => k = g) w).setCell (fun _ => rfl) _⟩
  · have e0 := or_put m d 10 hd (by decide) hm
    rw [castmul m (8 ^ (10 + 1)) 8589934592 rfl] at e0
    rw [castmul d (8 ^ 10) 1073741824 rfl] at e0
    generalize hV : (((8 * m + d) * 8 ^ 10 : Nat) : Int) = V at e0
    have HV := Hid.mk hV
    clear hV
    go_enter Tryz.func28, Tryz.ntmps28
    go_wp2_with fail
    go_end0
    exact ⟨rfl, by have h := H.out.set 0 (.int .u64 V); rw [← HV.out] at h ⊢; exact h, (Chg.refl (fun k => k = g) w).setCell (fun _ => rfl) _⟩
  · have e0 := or_put m d 9 hd (by decide) hm
    rw [castmul m (8 ^ (9 + 1)) 1073741824 rfl] at e0
    rw [castmul d (8 ^ 9) 134217728 rfl] at e0
    generalize hV : (((8 * m + d) * 8 ^ 9 : Nat) : Int) = V at e0
    have HV := Hid.mk hV
    clear hV
    go_enter Tryz.func28, Tryz.ntmps28
    go_wp2_with fail
    go_end0
    exact ⟨rfl, by have h := H.out.set 0 (.int .u64 V); rw [← HV.out] at h ⊢; exact h, (Chg.refl (fun k => k = g) w).setCell (fun _ => rfl) _⟩
  · have e0 := or_put m d 8 hd (by decide) hm
    rw [castmul m (8 ^ (8 + 1)) 134217728 rfl] at e0
    rw [castmul d (8 ^ 8) 16777216 rfl] at e0
    generalize hV : (((8 * m + d) * 8 ^ 8 : Nat) : Int) = V at e0
    have HV := Hid.mk hV
    clear hV
    go_enter Tryz.func28, Tryz.ntmps28
    go_wp2_with fail
    go_end0
    exact ⟨rfl, by have h := H.out.set 0 (.int .u64 V); rw [← HV.out] at h ⊢; exact h, (Chg.refl (fun k => k = g) w).setCell (fun _ => rfl) _⟩
  · have e0 := or_put m d 7 hd (by decide) hm
    rw [castmul m (8 ^ (7 + 1)) 16777216 rfl] at e0
    rw [castmul d (8 ^ 7) 2097152 rfl] at e0
    generalize hV : (((8 * m + d) * 8 ^ 7 : Nat) : Int) = V at e0
    have HV := Hid.mk hV
    clear hV
    go_enter Tryz.func28, Tryz.ntmps28
    go_wp2_with fail
    go_end0
    exact ⟨rfl, by have h := H.out.set 0 (.int .u64 V); rw [← HV.out] at h ⊢; exact h, (Chg.refl (fun k => k = g) w).setCell (fun _ => rfl) _⟩
  · have e0 := or_put m d 6 hd (by decide) hm
    rw [castmul m (8 ^ (6 + 1)) 2097152 rfl] at e0
    rw [castmul d (8 ^ 6) 262144 rfl] at e0
    generalize hV : (((8 * m + d) * 8 ^ 6 : Nat) : Int) = V at e0
    have HV := Hid.mk hV
    clear hV
    go_enter Tryz.func28, Tryz.ntmps28
    go_wp2_with fail
    go_end0
    exact ⟨rfl, by have h := H.out.set 0 (.int .u64 V); rw [← HV.out] at h ⊢; exact h, (Chg.refl (fun k => k = g) w).setCell (fun _ => rfl) _⟩
  · have e0 := or_put m d 5 hd (by decide) hm
    rw [castmul m (8 ^ (5 + 1)) 262144 rfl] at e0
    rw [castmul d (8 ^ 5) 32768 rfl] at e0
    generalize hV : (((8 * m + d) * 8 ^ 5 : Nat) : Int) = V at e0
    have HV := Hid.mk hV
    clear hV
    go_enter Tryz.func28, Tryz.ntmps28
    go_wp2_with fail
    go_end0
    exact ⟨rfl, by have h := H.out.set 0 (.int .u64 V); rw [← HV.out] at h ⊢; exact h, (Chg.refl (fun k => k = g) w).setCell (fun _ => rfl) _⟩
  · have e0 := or_put m d 4 hd (by decide) hm
    rw [castmul m (8 ^ (4 + 1)) 32768 rfl] at e0
    rw [castmul d (8 ^ 4) 4096 rfl] at e0
    generalize hV : (((8 * m + d) * 8 ^ 4 : Nat) : Int) = V at e0
    have HV := Hid.mk hV
    clear hV
    go_enter Tryz.func28, Tryz.ntmps28
    go_wp2_with fail
    go_end0
    exact ⟨rfl, by have h := H.out.set 0 (.int .u64 V); rw [← HV.out] at h ⊢; exact h, (Chg.refl (fun k => k = g) w).setCell (fun _ => rfl) _⟩
  · have e0 := or_put m d 3 hd (by decide) hm
    rw [castmul m (8 ^ (3 + 1)) 4096 rfl] at e0
    rw [castmul d (8 ^ 3) 512 rfl] at e0
    generalize hV : (((8 * m + d) * 8 ^ 3 : Nat) : Int) = V at e0
    have HV := Hid.mk hV
    clear hV
    go_enter Tryz.func28, Tryz.ntmps28
    go_wp2_with fail
    go_end0
    exact ⟨rfl, by have h := H.out.set 0 (.int .u64 V); rw [← HV.out] at h ⊢; exact h, (Chg.refl (fun k => k = g) w).setCell (fun _ => rfl) _⟩
  · have e0 := or_put m d 2 hd (by decide) hm
    rw [castmul m (8 ^ (2 + 1)) 512 rfl] at e0
    rw [castmul d (8 ^ 2) 64 rfl] at e0
    generalize hV : (((8 * m + d) * 8 ^ 2 : Nat) : Int) = V at e0
    have HV := Hid.mk hV
    clear hV
    go_enter Tryz.func28, Tryz.ntmps28
    go_wp2_with fail
    go_end0
    exact ⟨rfl, by have h := H.out.set 0 (.int .u64 V); rw [← HV.out] at h ⊢; exact h, (Chg.refl (fun k => k = g) w).setCell (fun _ => rfl) _⟩
  · have e0 := or_put m d 1 hd (by decide) hm
    rw [castmul m (8 ^ (1 + 1)) 64 rfl] at e0
    rw [castmul d (8 ^ 1) 8 rfl] at e0
    generalize hV : (((8 * m + d) * 8 ^ 1 : Nat) : Int) = V at e0
    have HV := Hid.mk hV
    clear hV
    go_enter Tryz.func28, Tryz.ntmps28
    go_wp2_with fail
    go_end0
    exact ⟨rfl, by have h := H.out.set 0 (.int .u64 V); rw [← HV.out] at h ⊢; exact h, (Chg.refl (fun k => k = g) w).setCell (fun _ => rfl) _⟩
  · have e0 := or_put m d 0 hd (by decide) hm
    rw [castmul m (8 ^ (0 + 1)) 8 rfl] at e0
    rw [Nat.pow_zero, Nat.mul_one] at e0
    generalize hV : (((8 * m + d) * 8 ^ 0 : Nat) : Int) = V at e0
    have HV := Hid.mk hV
    clear hV
    go_enter Tryz.func28, Tryz.ntmps28
    go_wp2_with fail
    go_end0
    exact ⟨rfl, by have h := H.out.set 0 (.int .u64 V); rw [← HV.out] at h ⊢; exact h, (Chg.refl (fun k => k = g) w).setCell (fun _ => rfl) _⟩

end Go.Proofs.YtkemmffdiclloaaGreatDoor
