/- Joined for this seat from: XEh. -/
import Derived.Test.YtkemmffdiclloaaGreatDoorAh
set_option linter.unusedVariables false
set_option linter.unusedSimpArgs false
namespace Go.Proofs.YtkemmffdiclloaaGreatDoor
open Go.RowKit
/-- What a call that makes memory alone leaves: rules for the walk. -/
theorem Chg.rules {W w1 : World} (h : Chg Nil W w1) : (∀ b o, b < W.heap.size → w1.cell? ⟨b, o, none⟩ = W.cell? ⟨b, o, none⟩) ∧ (∀ b o, b < W.heap.size → w1.frozen? ⟨b, o, none⟩ = W.frozen? ⟨b, o, none⟩) ∧ W.heap.size ≤ w1.heap.size :=
  ⟨fun b o hb => by unfold World.cell?; rw [h.old b hb (fun h => h)], fun b o hb => by unfold World.frozen?; rw [h.old b hb (fun h => h)], h.size⟩
theorem Chg.then {a b c : World} (h : Chg Nil a b) (k : Chg Nil b c) : Chg Nil a c := h.trans k (fun _ _ h => h)
def World_ (x y : Int) : Prop := 0 ≤ x ∧ x < 1073741824 ∧ 0 ≤ y ∧ y < 1073741824
theorem planeOk_any (x y : Int) (h : World_ x y) (w : World) : Calls Tryz.prog 26 #[.int .i64 x, .int .i64 y] w fun e w' => e = .returned (.bool true) ∧ w' = w := by
  obtain ⟨h1, h2, h3, h4⟩ := h
  go_enter Tryz.func26, Tryz.ntmps26
  go_wp2_with fail
  go_ret
  exact ⟨rfl, rfl⟩
theorem isRes_any (r : Nat) (h : r ≤ 12) (w : World) : Calls Tryz.prog 34 #[.int .i64 (r : Int)] w fun e w' => e = .returned (.bool true) ∧ w' = w := by
  have k : decide ((r : Int) ≤ 12) = true := decide_eq_true (by omega)
  go_enter Tryz.func34, Tryz.ntmps34
  go_wp2_with fail
  go_ret
  exact ⟨rfl, rfl⟩
set_option maxHeartbeats 1000000 in
theorem axial_any (x y : Int) (h : World_ x y) (w : World) : Calls Tryz.prog 33 #[.int .i64 x, .int .i64 y] w fun e w' => e = .returned (.tuple #[eV (45 * x - 26 * y) (52 * y), .bool true]) ∧ Chg Nil w w' := by
  have hc := fun W => planeOk_any x y h W
  obtain ⟨h1, h2, h3, h4⟩ := h
  unfold eV
  go_enter Tryz.func33, Tryz.ntmps33
  go_wp2_with fail
  refine (hc _).mono ?_
  rintro e w1 ⟨rfl, rfl⟩
  go_wp2_with fail
  exact bodyPost_ret (v := .tuple #[.agg #[.int .i64 (45 * x - 26 * y), .int .i64 (52 * y)], .bool true]) (by simp [results, Tryz.results33, go_sem]) rfl ⟨rfl, (Chg.refl _ _).alloc _⟩
theorem near_bd (x y : Int) (k : Nat) (hk : k ≤ 12) (h : World_ x y) :
    -1152921504606846976 ≤ (mulZ (axial x y) (conjZ (betaP k))).1 ∧ (mulZ (axial x y) (conjZ (betaP k))).1 ≤ 1152921504606846976 ∧ -1152921504606846976 ≤ (mulZ (axial x y) (conjZ (betaP k))).2 ∧ (mulZ (axial x y) (conjZ (betaP k))).2 ≤ 1152921504606846976 := by
  unfold World_ at h
  rw [beta_eq ⟨k, by omega⟩]
  rcases thirteen hk with rfl | rfl | rfl | rfl | rfl | rfl | rfl | rfl | rfl | rfl | rfl | rfl | rfl
  all_goals
    simp only [mulZ, conjZ, axial, betaN]
    refine ⟨?_, ?_, ?_, ?_⟩ <;> omega
set_option maxHeartbeats 2000000 in
theorem near_any (x y : Int) (r : Nat) (hr : r ≤ 12) (h : World_ x y) (w : World) :
    Calls Tryz.prog 10 #[.int .i64 x, .int .i64 y, .int .i64 (r : Int)] w fun e w' => e = .returned (.tuple #[eV (nearZ x y r).1 (nearZ x y r).2, .bool true]) ∧ Chg Nil w w' := by
  have h1 := fun W => axial_any x y h W
  have h2 := fun W => isRes_any r hr W
  have h3 := fun W => beta_any (12 - r) (by omega) W
  have hb := beta_bd (12 - r) (by omega)
  have h4 := fun W => eConj_any (betaP (12 - r)).1 (betaP (12 - r)).2 (by unfold Big; omega) (by unfold Big; omega) W
  have h5 := fun W => pow7_any (12 - r) (by omega) W
  have hn := near_bd x y (12 - r) (by omega) h
  have hp := powS_bd (12 - r) (by omega)
  have hp0 := pow_pos (12 - r)
  unfold World_ at h
  have h6 := fun W => eMul_any (45 * x - 26 * y) (52 * y) ((betaP (12 - r)).1 + (betaP (12 - r)).2) (-(betaP (12 - r)).2) (by unfold Half; omega) (by unfold Half; omega) (by unfold Half; omega) (by unfold Half; omega) (by unfold mulZ axial conjZ at hn; dsimp only at hn; omega) (by unfold mulZ axial conjZ at hn; dsimp only at hn; omega) (by unfold mulZ axial conjZ at hn; dsimp only at hn; omega) (by unfold mulZ axial conjZ at hn; dsimp only at hn; omega) W
  have h7 := fun W => round_any (mulZ (axial x y) (conjZ (betaP (12 - r)))).1 (mulZ (axial x y) (conjZ (betaP (12 - r)))).2 (2340 * powS (12 - r)) hn.1 hn.2.1 hn.2.2.1 hn.2.2.2 (by omega) (by omega) W
  have e6 : (45 * x - 26 * y) * ((betaP (12 - r)).1 + (betaP (12 - r)).2) - 52 * y * -(betaP (12 - r)).2 = (mulZ (axial x y) (conjZ (betaP (12 - r)))).1 := rfl
  have e7 : (45 * x - 26 * y) * -(betaP (12 - r)).2 + 52 * y * ((betaP (12 - r)).1 + (betaP (12 - r)).2) + 52 * y * -(betaP (12 - r)).2 = (mulZ (axial x y) (conjZ (betaP (12 - r)))).2 := rfl
  rw [e6, e7] at h6
  have e8 : roundZ ((mulZ (axial x y) (conjZ (betaP (12 - r)))).1, (mulZ (axial x y) (conjZ (betaP (12 - r)))).2) (2340 * powS (12 - r)) = nearZ x y r := rfl
  rw [e8] at h7
  clear e6 e7 e8 hn hb
  have hs : ((12 - r : Nat) : Int) = 12 - (r : Int) := by omega
  rw [hs] at h3 h5
  clear hs
  unfold eV at *
  go_enter Tryz.func10, Tryz.ntmps10
  go_wp2_with fail
  refine (h1 _).mono ?_
  rintro e w1 ⟨rfl, c1⟩
  have K1 := ((Chg.refl Nil w).alloc _).then c1
  have b_o := (Bk.new w 25 #[.int .i64 0, .int .i64 0]).keep c1 (fun h => h)
  have H_o1 := Hid.mk b_o
  clear b_o
  have C1 := Hid.mk K1
  clear c1 K1
  clear h1
  go_wp2_with fail
  refine (h2 _).mono ?_
  rintro e w2 ⟨rfl, rfl⟩
  clear h2
  go_wp2_with fail
  refine (h3 _).mono ?_
  rintro e w2 ⟨rfl, c2⟩
  have K2 := ((Chg.refl Nil w1).alloc _).then c2
  have b_u := (Bk.new w1 25 #[.int .i64 (45 * x - 26 * y), .int .i64 (52 * y)]).keep c2 (fun h => h)
  have b_o := H_o1.out.keep K2 (fun h => h)
  clear H_o1
  have H_o2 := Hid.mk b_o
  clear b_o
  have H_u2 := Hid.mk b_u
  clear b_u
  have C2 := Hid.mk (C1.out.then K2)
  clear C1
  clear c2 K2
  clear h3
  go_wp2_with fail
  refine (h4 _).mono ?_
  rintro e w3 ⟨rfl, c3⟩
  have K3 := ((Chg.refl Nil w2).alloc _).then c3
  have b_b := (Bk.new w2 25 #[.int .i64 (betaP (12 - r)).1, .int .i64 (betaP (12 - r)).2]).keep c3 (fun h => h)
  have b_o := H_o2.out.keep K3 (fun h => h)
  clear H_o2
  have b_u := H_u2.out.keep K3 (fun h => h)
  clear H_u2
  clear b_b
  have H_o3 := Hid.mk b_o
  clear b_o
  have H_u3 := Hid.mk b_u
  clear b_u
  have C3 := Hid.mk (C2.out.then K3)
  clear C2
  clear c3 K3
  clear h4
  go_wp2_with fail
  refine (h5 _).mono ?_
  rintro e w4 ⟨rfl, c4⟩
  have K4 := ((Chg.refl Nil w3).alloc _).then c4
  have b_c := (Bk.new w3 25 #[.int .i64 ((betaP (12 - r)).1 + (betaP (12 - r)).2), .int .i64 (-(betaP (12 - r)).2)]).keep c4 (fun h => h)
  have b_o := H_o3.out.keep K4 (fun h => h)
  clear H_o3
  have b_u := H_u3.out.keep K4 (fun h => h)
  clear H_u3
  have y_u0 := b_u.cell 0 rfl
  have y_u1 := b_u.cell 1 rfl
  have y_c0 := b_c.cell 0 rfl
  have y_c1 := b_c.cell 1 rfl
  have H_o4 := Hid.mk b_o
  clear b_o
  have H_u4 := Hid.mk b_u
  clear b_u
  have H_c4 := Hid.mk b_c
  clear b_c
  have C4 := Hid.mk (C3.out.then K4)
  clear C3
  clear c4 K4
  clear h5
  go_wp2_with fail
  refine (h6 _).mono ?_
  rintro e w5 ⟨rfl, c5⟩
  have K5 := c5
  have b_o := H_o4.out.keep K5 (fun h => h)
  clear H_o4
  clear H_u4
  clear H_c4
  clear y_u0
  clear y_u1
  clear y_c0
  clear y_c1
  have H_o5 := Hid.mk b_o
  clear b_o
  have C5 := Hid.mk (C4.out.then K5)
  clear C4
  clear c5 K5
  clear h6
  go_wp2_with fail
  refine (h7 _).mono ?_
  rintro e w6 ⟨rfl, c6⟩
  have K6 := ((Chg.refl Nil w5).alloc _).then c6
  have b_m := (Bk.new w5 25 #[.int .i64 (mulZ (axial x y) (conjZ (betaP (12 - r)))).1, .int .i64 (mulZ (axial x y) (conjZ (betaP (12 - r)))).2]).keep c6 (fun h => h)
  have b_o := H_o5.out.keep K6 (fun h => h)
  clear H_o5
  clear b_m
  have y_o0 := b_o.cell 0 rfl
  have y_o1 := b_o.cell 1 rfl
  have fz_o := fun j => b_o.free j
  have H_o6 := Hid.mk b_o
  clear b_o
  have C6 := Hid.mk (C5.out.then K6)
  clear C5
  clear c6 K6
  clear h7
  go_wp2_with fail
  exact bodyPost_ret (v := .tuple #[.agg #[.int .i64 (nearZ x y r).1, .int .i64 (nearZ x y r).2], .bool true]) (by simp [results, Tryz.results10, go_sem, y_o0, y_o1]) rfl ⟨rfl, ((C6.out.setCell (fun h => by simp at h; try omega) _).setCell (fun h => by simp at h; try omega) _)⟩

end Go.Proofs.YtkemmffdiclloaaGreatDoor
