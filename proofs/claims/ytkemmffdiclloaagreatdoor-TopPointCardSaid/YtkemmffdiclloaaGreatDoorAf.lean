/- Joined for this seat from: XEd XEe. -/
import Derived.Deep.DeepCutAuto
import Derived.Test.YtkemmffdiclloaaGreatDoorAe
set_option linter.unusedVariables false
set_option linter.unusedSimpArgs false
namespace Go.Proofs.YtkemmffdiclloaaGreatDoor
open Go.RowKit
theorem floor_facts (a b : Int) (hb : 0 < b) : (a.tmod b < 0 → a / b = a.tdiv b - 1 ∧ a % b = a.tmod b + b) ∧ (0 ≤ a.tmod b → a / b = a.tdiv b ∧ a % b = a.tmod b) := by
  have h1 := Int.tmod_add_mul_tdiv a b
  have h2 := Int.tmod_lt_of_pos a hb
  have h3 := Int.lt_tmod_of_pos a hb
  refine ⟨fun h => (Int.ediv_emod_unique hb).2 ⟨?_, by omega, by omega⟩, fun h => (Int.ediv_emod_unique hb).2 ⟨h1, h, h2⟩⟩
  rw [Int.mul_sub]
  omega
set_option maxHeartbeats 1000000 in
theorem floor_any (a b : Int) (ha : -2305843009213693952 ≤ a) (ha2 : a ≤ 2305843009213693952) (hb : 0 < b) (hb2 : b ≤ 2305843009213693952) (w : World) :
    Calls Tryz.prog 78 #[.int .i64 a, .int .i64 b] w fun e w' => e = .returned (.tuple #[.int .i64 (a / b), .int .i64 (a % b), .bool true]) ∧ Chg Nil w w' := by
  have hb0 : (b == 0) = false := by rw [beq_eq_false_iff_ne]; omega
  have hbm : (b == -1) = false := by rw [beq_eq_false_iff_ne]; omega
  have hbn : b ≠ 0 := by omega
  go_enter Tryz.func78, Tryz.ntmps78
  go_upto_region 3 with fail
  go_region
  all_goals go_wp2_with fail
  · obtain ⟨e1, e2⟩ := (floor_facts a b hb).1 (by assumption)
    have hm := Int.lt_tmod_of_pos a hb
    have hq : -2305843009213693952 ≤ a / b ∧ a / b ≤ 2305843009213693952 := ⟨Int.le_ediv_of_mul_le hb (by omega), Int.ediv_le_of_le_mul hb (by omega)⟩
    exact bodyPost_ret (v := .tuple #[.int .i64 (a / b), .int .i64 (a % b), .bool true]) (by rw [e1, e2]; have w1 : wrap64 (a.tdiv b - 1) = a.tdiv b - 1 := (by unfold wrap64; omega); have w2 : wrap64 (a.tmod b + b) = a.tmod b + b := (by unfold wrap64; omega); simp [results, Tryz.results78, go_sem, w1, w2]) rfl ⟨rfl, (Chg.refl _ _).drew⟩
  · obtain ⟨e1, e2⟩ := (floor_facts a b hb).2 (by assumption)
    exact bodyPost_ret (v := .tuple #[.int .i64 (a / b), .int .i64 (a % b), .bool true]) (by rw [e1, e2]; simp [results, Tryz.results78, go_sem]) rfl ⟨rfl, (Chg.refl _ _).drew⟩
def unitA (k : Nat) : Int := [1, 0, -1, -1, 0, 1].getD k 0
def unitB (k : Nat) : Int := [0, 1, 1, 0, -1, -1].getD k 0
set_option maxHeartbeats 2000000 in
theorem unit_any (k : Nat) (hk : k < 6) (w : World) :
    Calls Tryz.prog 32 #[.int .i64 (k : Int)] w fun e w' => e = .returned (eV (unitA k) (unitB k)) ∧ Chg Nil w w' := by
  have h6 : k = 0 ∨ k = 1 ∨ k = 2 ∨ k = 3 ∨ k = 4 ∨ k = 5 := by omega
  unfold eV
  rcases h6 with rfl | rfl | rfl | rfl | rfl | rfl
  · go_enter Tryz.func32, Tryz.ntmps32
    go_wp2_with fail
    exact bodyPost_ret (v := .agg #[.int .i64 (1), .int .i64 (0)]) (by simp [results, Tryz.results32, go_sem]) rfl ⟨rfl, (by repeat (first | exact Chg.refl _ _ | refine Chg.alloc ?_ _ | refine Chg.setCell ?_ (fun h => absurd h (by simp)) _))⟩
  · go_enter Tryz.func32, Tryz.ntmps32
    go_wp2_with fail
    exact bodyPost_ret (v := .agg #[.int .i64 (0), .int .i64 (1)]) (by simp [results, Tryz.results32, go_sem]) rfl ⟨rfl, (by repeat (first | exact Chg.refl _ _ | refine Chg.alloc ?_ _ | refine Chg.setCell ?_ (fun h => absurd h (by simp)) _))⟩
  · go_enter Tryz.func32, Tryz.ntmps32
    go_wp2_with fail
    exact bodyPost_ret (v := .agg #[.int .i64 (-1), .int .i64 (1)]) (by simp [results, Tryz.results32, go_sem]) rfl ⟨rfl, (by repeat (first | exact Chg.refl _ _ | refine Chg.alloc ?_ _ | refine Chg.setCell ?_ (fun h => absurd h (by simp)) _))⟩
  · go_enter Tryz.func32, Tryz.ntmps32
    go_wp2_with fail
    exact bodyPost_ret (v := .agg #[.int .i64 (-1), .int .i64 (0)]) (by simp [results, Tryz.results32, go_sem]) rfl ⟨rfl, (by repeat (first | exact Chg.refl _ _ | refine Chg.alloc ?_ _ | refine Chg.setCell ?_ (fun h => absurd h (by simp)) _))⟩
  · go_enter Tryz.func32, Tryz.ntmps32
    go_wp2_with fail
    exact bodyPost_ret (v := .agg #[.int .i64 (0), .int .i64 (-1)]) (by simp [results, Tryz.results32, go_sem]) rfl ⟨rfl, (by repeat (first | exact Chg.refl _ _ | refine Chg.alloc ?_ _ | refine Chg.setCell ?_ (fun h => absurd h (by simp)) _))⟩
  · go_enter Tryz.func32, Tryz.ntmps32
    go_wp2_with fail
    exact bodyPost_ret (v := .agg #[.int .i64 (1), .int .i64 (-1)]) (by simp [results, Tryz.results32, go_sem]) rfl ⟨rfl, (by repeat (first | exact Chg.refl _ _ | refine Chg.alloc ?_ _ | refine Chg.setCell ?_ (fun h => absurd h (by simp)) _))⟩

end Go.Proofs.YtkemmffdiclloaaGreatDoor
namespace Go.Proofs.YtkemmffdiclloaaGreatDoor
open Go.RowKit
theorem beta_bd (k : Nat) (hk : k ≤ 12) : -4194304 ≤ (betaP k).1 ∧ (betaP k).1 ≤ 4194304 ∧ -4194304 ≤ (betaP k).2 ∧ (betaP k).2 ≤ 4194304 := by
  have h : ∀ j : Fin 13, -4194304 ≤ (betaP j.1).1 ∧ (betaP j.1).1 ≤ 4194304 ∧ -4194304 ≤ (betaP j.1).2 ∧ (betaP j.1).2 ≤ 4194304 := by decide +kernel
  exact h ⟨k, by omega⟩
set_option maxHeartbeats 2000000 in
theorem beta_any (k : Nat) (hk : k ≤ 12) (w : World) :
    Calls Tryz.prog 35 #[.int .i64 (k : Int)] w fun e w' => e = .returned (.tuple #[eV (betaP k).1 (betaP k).2, .bool true]) ∧ Chg Nil w w' := by
  have hM := fun (j : Nat) (hj : j < k) W => eMul_any (betaP j).1 (betaP j).2 2 1 (by have := beta_bd j (by omega); unfold Half; omega) (by have := beta_bd j (by omega); unfold Half; omega) (by unfold Half; omega) (by unfold Half; omega)
    (by have := beta_bd j (by omega); omega) (by have := beta_bd j (by omega); omega) (by have := beta_bd j (by omega); omega) (by have := beta_bd j (by omega); omega) W
  have HM := Hid.mk hM
  clear hM
  unfold eV at *
  go_enter Tryz.func35, Tryz.ntmps35
  go_wp2_with fail
  have hB := box2 w 25 25 #[.int .i64 0, .int .i64 0] #[.int .i64 1, .int .i64 0]
  have HB := Hid.mk hB
  clear hB
  go_loopw [5, 15] (fun v5 v15 wr => ∃ j : Nat, j ≤ k ∧ v15 = .int .i64 (j : Int) ∧ v5 = .bool true ∧ Hid (Bk wr w.heap.size 25 #[.int .i64 0, .int .i64 0] ∧ Bk wr (w.heap.size + 1) 25 #[.int .i64 (betaP j).1, .int .i64 (betaP j).2] ∧ Chg Nil w wr)) (fun _ v15 _ => k - (intOf v15).toNat)
  case atStart => exact ⟨0, by omega, rfl, rfl, HB⟩
  case round =>
    obtain ⟨j, hj, rfl, rfl, HR⟩ := hrel
    have hb0 := HR.out.1
    have hb1 := HR.out.2.1
    have y0 := hb1.cell 0 rfl
    have y1 := hb1.cell 1 rfl
    by_cases hjk : j < k
    · have hMj := fun W => HM.out j hjk W
      have e1 : (betaP j).1 * 2 - (betaP j).2 * 1 = (betaP (j + 1)).1 := by show _ = 2 * (betaP j).1 - (betaP j).2; omega
      have e2 : (betaP j).1 * 1 + (betaP j).2 * 2 + (betaP j).2 * 1 = (betaP (j + 1)).2 := by show _ = (betaP j).1 + 3 * (betaP j).2; omega
      rw [e1, e2] at hMj
      clear e1 e2 hb0 hb1
      go_wp2_with fail
      refine (hMj _).mono ?_
      rintro e w1 ⟨rfl, c1⟩
      have hb1 := HR.out.2.1.keep c1 (fun h => h)
      have fz := fun i => hb1.free i
      have z0 := hb1.cell 0 rfl
      have z1 := hb1.cell 1 rfl
      have H1 := Hid.mk (And.intro (HR.out.1.keep c1 (fun h => h)) (And.intro hb1 (HR.out.2.2.trans c1 (fun _ _ h => h))))
      clear c1 hb1 y0 y1 hMj
      go_wp2_with fail
      go_roundw
      case rel =>
        refine ⟨j + 1, by omega, by go_num, rfl, Hid.mk ⟨?_, ?_, ?_⟩⟩
        · exact (H1.out.1.far (by simp) _).far (by simp) _
        · have h := (H1.out.2.1.set 0 (.int .i64 (betaP (j + 1)).1)).set 1 (.int .i64 (betaP (j + 1)).2)
          exact h
        · exact (H1.out.2.2.setCell (fun h => by simp at h; omega) _).setCell (fun h => by simp at h; omega) _
      case measure => simp [intOf]; omega
    · obtain rfl : j = k := by omega
      have fz := fun i => hb0.free i
      have z0 := hb0.cell 0 rfl
      have z1 := hb0.cell 1 rfl
      have H1 := Hid.mk HR.out.2.2
      clear hb0 hb1
      go_wp2_with fail
      exact bodyPost_ret (v := .tuple #[.agg #[.int .i64 (betaP j).1, .int .i64 (betaP j).2], .bool true]) (by simp [results, Tryz.results35, go_sem, z0, z1]) rfl ⟨rfl, (H1.out.setCell (fun h => by simp at h) _).setCell (fun h => by simp at h) _⟩

end Go.Proofs.YtkemmffdiclloaaGreatDoor
