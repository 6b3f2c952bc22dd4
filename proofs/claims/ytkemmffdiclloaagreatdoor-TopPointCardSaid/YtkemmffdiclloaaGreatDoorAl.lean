/- Joined for this seat from: XEk. -/
import Derived.Test.YtkemmffdiclloaaGreatDoorAk
set_option linter.unusedVariables false
set_option linter.unusedSimpArgs false
namespace Go.Proofs.YtkemmffdiclloaaGreatDoor
open Go.RowKit
theorem bodyPost_gen {P : Program} {fn : Func} {R : Ending → World → Prop} {e : Exit} {a : Act} {W : World} (h : ∀ W', W' = W → bodyPost P fn R e a W') : bodyPost P fn R e a W := h W rfl
def cV (R : Nat) (z : Int × Int) : Value := .agg #[.int .i64 (R : Int), .int .i64 z.1, .int .i64 z.2]
set_option maxHeartbeats 1000000 in
theorem shape_any (R : Nat) (z : Int × Int) (hR : R ≤ 12) (ha : -1073741824 ≤ z.1 ∧ z.1 ≤ 1073741824) (hb : -1073741824 ≤ z.2 ∧ z.2 ≤ 1073741824) (w : World) :
    Calls Tryz.prog 63 #[cV R z] w fun e w' => e = .returned (.bool true) ∧ Chg Nil w w' := by
  obtain ⟨a, b⟩ := z
  have h1 := fun W => within_any a 1073741824 (by omega) (by omega) W
  have h2 := fun W => within_any b 1073741824 (by omega) (by omega) W
  have k1 : decide ((R : Int) ≤ 12) = true := decide_eq_true (by omega)
  unfold cV
  go_enter Tryz.func63, Tryz.ntmps63
  go_wp2_with fail
  refine (h1 _).mono ?_
  rintro e w1 ⟨rfl, c1⟩
  have K1 := ((Chg.refl Nil w).alloc _).then c1
  have b_c := (Bk.new w 27 #[.int .i64 (R : Int), .int .i64 a, .int .i64 b]).keep c1 (fun h => h)
  have y_c2 := b_c.cell 2 rfl
  have l_c := b_c.lt
  have H_c1 := Hid.mk b_c
  clear b_c
  have C1 := Hid.mk K1
  clear c1 K1
  clear h1
  go_wp2_with fail
  refine (h2 _).mono ?_
  rintro e w2 ⟨rfl, c2⟩
  have K2 := c2
  clear H_c1
  clear y_c2
  clear l_c
  have C2 := Hid.mk (C1.out.then K2)
  clear C1
  clear c2 K2
  clear h2
  go_wp2_with fail
  go_ret
  exact ⟨rfl, C2.out⟩
theorem upZ_bd (a b : Int) (M : Nat) (ha : a.natAbs ≤ M) (hb : b.natAbs ≤ M) : (upZ (a, b)).1.natAbs ≤ M + 2 ∧ (upZ (a, b)).2.natAbs ≤ M + 2 := by
  have := up_bd (a, b) M (by omega) (by simp only; omega) (by simp only; omega)
  omega
set_option maxHeartbeats 2000000 in
theorem split_any (a b : Int) (ha : a.natAbs ≤ 4294967296) (hb : b.natAbs ≤ 4294967296) (w : World) :
    Calls Tryz.prog 64 #[eV a b] w fun e w' => e = .returned (.tuple #[eV (upZ (a, b)).1 (upZ (a, b)).2, eV (leftZ (a, b)).1 (leftZ (a, b)).2]) ∧ Chg Nil w w' := by
  have hu := upZ_bd a b 4294967296 ha hb
  have h1 : ∀ W, Calls Tryz.prog 36 #[eV 2 1] W fun e w' => e = .returned (.tuple #[eV 3 (-1), .bool true]) ∧ Chg Nil W w' := fun W => eConj_any 2 1 (by unfold Big; omega) (by unfold Big; omega) W
  have h2 : ∀ W, Calls Tryz.prog 30 #[eV a b, eV 3 (-1)] W fun e w' => e = .returned (.tuple #[eV (mulZ (a, b) (3, -1)).1 (mulZ (a, b) (3, -1)).2, .bool true]) ∧ Chg Nil W w' := fun W => eMul_any a b 3 (-1) (by unfold Half; omega) (by unfold Half; omega) (by unfold Half; omega) (by unfold Half; omega) (by omega) (by omega) (by omega) (by omega) W
  have h3 : ∀ W, Calls Tryz.prog 38 #[eV (mulZ (a, b) (3, -1)).1 (mulZ (a, b) (3, -1)).2, .int .i64 7] W fun e w' => e = .returned (.tuple #[eV (upZ (a, b)).1 (upZ (a, b)).2, .bool true]) ∧ Chg Nil W w' := fun W => round_any (mulZ (a, b) (3, -1)).1 (mulZ (a, b) (3, -1)).2 7 (by simp only [mulZ]; omega) (by simp only [mulZ]; omega) (by simp only [mulZ]; omega) (by simp only [mulZ]; omega) (by omega) (by omega) W
  have h4 : ∀ W, Calls Tryz.prog 30 #[eV (upZ (a, b)).1 (upZ (a, b)).2, eV 2 1] W fun e w' => e = .returned (.tuple #[eV (mulZ (upZ (a, b)) (2, 1)).1 (mulZ (upZ (a, b)) (2, 1)).2, .bool true]) ∧ Chg Nil W w' := fun W => eMul_any (upZ (a, b)).1 (upZ (a, b)).2 2 1 (by unfold Half; omega) (by unfold Half; omega) (by unfold Half; omega) (by unfold Half; omega) (by omega) (by omega) (by omega) (by omega) W
  have h5 : ∀ W, Calls Tryz.prog 126 #[eV a b, eV (mulZ (upZ (a, b)) (2, 1)).1 (mulZ (upZ (a, b)) (2, 1)).2] W fun e w' => e = .returned (.tuple #[eV (leftZ (a, b)).1 (leftZ (a, b)).2, .bool true]) ∧ Chg Nil W w' := fun W => eSub_any a b (mulZ (upZ (a, b)) (2, 1)).1 (mulZ (upZ (a, b)) (2, 1)).2 (by unfold Big; omega) (by unfold Big; omega) (by unfold Big; simp only [mulZ]; omega) (by unfold Big; simp only [mulZ]; omega) W
  clear hu
  generalize (mulZ (a, b) (3, -1)).1 = p1 at *
  generalize (mulZ (a, b) (3, -1)).2 = p2 at *
  generalize (mulZ (upZ (a, b)) (2, 1)).1 = d1 at *
  generalize (mulZ (upZ (a, b)) (2, 1)).2 = d2 at *
  generalize upZ (a, b) = u at *
  generalize leftZ (a, b) = l at *
  unfold eV at *
  go_enter Tryz.func64, Tryz.ntmps64
  go_wp2_with fail
  refine (h1 _).mono ?_
  rintro e w1 ⟨rfl, c1⟩
  have K1 := ((((Chg.refl Nil w).alloc _).alloc _).alloc _).then c1
  have hB := box3 w 25 25 25 #[.int .i64 a, .int .i64 b] #[.int .i64 0, .int .i64 0] #[.int .i64 0, .int .i64 0]
  have b_z := hB.1.keep c1 (fun h => h)
  have b_o2 := hB.2.1.keep c1 (fun h => h)
  have b_o3 := hB.2.2.1.keep c1 (fun h => h)
  clear hB
  have y_z0 := b_z.cell 0 rfl
  have y_z1 := b_z.cell 1 rfl
  have l_z := b_z.lt
  have H_z1 := Hid.mk b_z
  clear b_z
  have H_o21 := Hid.mk b_o2
  clear b_o2
  have H_o31 := Hid.mk b_o3
  clear b_o3
  have C1 := Hid.mk K1
  clear c1 K1
  clear h1
  go_wp2_with fail
  refine (h2 _).mono ?_
  rintro e w2 ⟨rfl, c2⟩
  have K2 := ((Chg.refl Nil w1).alloc _).then c2
  have b_c := (Bk.new w1 25 #[.int .i64 3, .int .i64 (-1)]).keep c2 (fun h => h)
  have b_z := H_z1.out.keep K2 (fun h => h)
  clear H_z1
  have b_o2 := H_o21.out.keep K2 (fun h => h)
  clear H_o21
  have b_o3 := H_o31.out.keep K2 (fun h => h)
  clear H_o31
  clear b_c
  clear y_z0
  clear y_z1
  clear l_z
  have H_z2 := Hid.mk b_z
  clear b_z
  have H_o22 := Hid.mk b_o2
  clear b_o2
  have H_o32 := Hid.mk b_o3
  clear b_o3
  have C2 := Hid.mk (C1.out.then K2)
  clear C1
  clear c2 K2
  clear h2
  go_wp2_with fail
  refine (h3 _).mono ?_
  rintro e w3 ⟨rfl, c3⟩
  have K3 := ((Chg.refl Nil w2).alloc _).then c3
  have b_p := (Bk.new w2 25 #[.int .i64 p1, .int .i64 p2]).keep c3 (fun h => h)
  have b_z := H_z2.out.keep K3 (fun h => h)
  clear H_z2
  have b_o2 := H_o22.out.keep K3 (fun h => h)
  clear H_o22
  have b_o3 := H_o32.out.keep K3 (fun h => h)
  clear H_o32
  clear b_p
  have y_o20 := b_o2.cell 0 rfl
  have y_o21 := b_o2.cell 1 rfl
  have l_o2 := b_o2.lt
  have fz_o2 := fun j => b_o2.free j
  have H_z3 := Hid.mk b_z
  clear b_z
  have H_o23 := Hid.mk b_o2
  clear b_o2
  have H_o33 := Hid.mk b_o3
  clear b_o3
  have C3 := Hid.mk (C2.out.then K3)
  clear C2
  clear c3 K3
  clear h3
  go_wp2_with fail
  refine (h4 _).mono ?_
  rintro e w4 ⟨rfl, c4⟩
  have m_z := H_z3.out.lt
  have m_o2 := H_o23.out.lt
  have m_o3 := H_o33.out.lt
  have C4 := Hid.mk (((C3.out.setCell (fun h => by simp at h; try omega) _).setCell (fun h => by simp at h; try omega) _).then c4)
  have b_z := ((H_z3.out.far (by simp; try omega) _).far (by simp; try omega) _).keep c4 (fun h => h)
  have b_o2 := ((H_o23.out.set 0 (.int .i64 u.1)).set 1 (.int .i64 u.2)).keep c4 (fun h => h)
  have b_o3 := ((H_o33.out.far (by simp; try omega) _).far (by simp; try omega) _).keep c4 (fun h => h)
  clear H_z3
  clear H_o23
  clear H_o33
  clear m_z m_o2 m_o3
  clear y_o20
  clear y_o21
  clear l_o2
  clear fz_o2
  have y_z0 := b_z.cell 0 rfl
  have y_z1 := b_z.cell 1 rfl
  have l_z := b_z.lt
  have H_z4 := Hid.mk b_z
  clear b_z
  have H_o24 := Hid.mk b_o2
  clear b_o2
  have H_o34 := Hid.mk b_o3
  clear b_o3
  clear C3
  clear c4
  clear h4
  go_wp2_with fail
  refine (h5 _).mono ?_
  rintro e w5 ⟨rfl, c5⟩
  have K5 := ((Chg.refl Nil w4).alloc _).then c5
  have b_d := (Bk.new w4 25 #[.int .i64 d1, .int .i64 d2]).keep c5 (fun h => h)
  clear H_z4
  have b_o2 := H_o24.out.keep K5 (fun h => h)
  clear H_o24
  have b_o3 := H_o34.out.keep K5 (fun h => h)
  clear H_o34
  clear b_d
  clear y_z0
  clear y_z1
  clear l_z
  have y_o20 := b_o2.cell 0 rfl
  have y_o21 := b_o2.cell 1 rfl
  have y_o30 := b_o3.cell 0 rfl
  have y_o31 := b_o3.cell 1 rfl
  have l_o3 := b_o3.lt
  have l_o2 := b_o2.lt
  have fz_o2 := fun j => b_o2.free j
  have fz_o3 := fun j => b_o3.free j
  have H_o25 := Hid.mk b_o2
  clear b_o2
  have H_o35 := Hid.mk b_o3
  clear b_o3
  have C5 := Hid.mk (C4.out.then K5)
  clear C4
  clear c5 K5
  clear h5
  go_wp2_with fail
  go_region
  go_wp2_with fail
  refine bodyPost_gen fun W hW => ?_
  have b2 : Bk W (w.heap.size + 1) 25 #[.int .i64 u.1, .int .i64 u.2] := by
    rw [hW]
    exact ((((((H_o25.out.far (by simp) _).far (by simp) _).set 0 (.int .i64 u.1)).set 1 (.int .i64 u.2)).far (by simp) _).far (by simp) _).drew
  have b3 : Bk W (w.heap.size + 1 + 1) 25 #[.int .i64 l.1, .int .i64 l.2] := by
    rw [hW]
    exact ((((((H_o35.out.set 0 (.int .i64 l.1)).set 1 (.int .i64 l.2)).far (by simp) _).far (by simp) _).set 0 (.int .i64 l.1)).set 1 (.int .i64 l.2)).drew
  have cw : Chg Nil w W := by
    rw [hW]
    exact ((((((C5.out.setCell (fun h => by simp at h; try omega) _).setCell (fun h => by simp at h; try omega) _).setCell (fun h => by simp at h; try omega) _).setCell (fun h => by simp at h; try omega) _).setCell (fun h => by simp at h; try omega) _).setCell (fun h => by simp at h; try omega) _).drew
  clear hW
  have z0 := b2.cell 0 rfl
  have z1 := b2.cell 1 rfl
  have z2 := b3.cell 0 rfl
  have z3 := b3.cell 1 rfl
  exact bodyPost_ret (v := .tuple #[.agg #[.int .i64 u.1, .int .i64 u.2], .agg #[.int .i64 l.1, .int .i64 l.2]]) (by simp [results, Tryz.results64, go_sem, z0, z1, z2, z3]) rfl ⟨rfl, cw⟩

end Go.Proofs.YtkemmffdiclloaaGreatDoor
