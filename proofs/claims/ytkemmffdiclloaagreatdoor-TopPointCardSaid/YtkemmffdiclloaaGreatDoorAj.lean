/- Joined for this seat from: XEi. -/
import Derived.Test.YtkemmffdiclloaaGreatDoorAi
set_option linter.unusedVariables false
set_option linter.unusedSimpArgs false
namespace Go.Proofs.YtkemmffdiclloaaGreatDoor
open Go.RowKit
def iv (n : Int) : Value := .int .i64 n
def pV (p : Int × Int) : Value := .agg #[.int .i64 p.1, .int .i64 p.2]
theorem mulbd (a b : Int) (M N : Nat) (ha : a.natAbs ≤ M) (hb : b.natAbs ≤ N) : (a * b).natAbs ≤ M * N := by rw [Int.natAbs_mul]; exact Nat.mul_le_mul ha hb
set_option maxHeartbeats 1000000 in
theorem spot_any (a b : Int) (ha : a.natAbs ≤ 72057594037927936) (hb : b.natAbs ≤ 72057594037927936) (w : World) :
    Calls Tryz.prog 145 #[eV a b] w fun e w' => e = .returned (pV (spotZ (a, b))) ∧ Chg Nil w w' := by
  unfold eV pV spotZ
  go_enter Tryz.func145, Tryz.ntmps145
  go_wp2_with fail
  exact bodyPost_ret (v := .agg #[.int .i64 (52 * a + 26 * b), .int .i64 (45 * b)]) (by simp [results, Tryz.results145, go_sem]) rfl ⟨rfl, (((Chg.refl Nil w).alloc _).alloc _)⟩
theorem beta_half (k : Nat) (hk : k ≤ 12) : (betaP k).1.natAbs ≤ 4194304 ∧ (betaP k).2.natAbs ≤ 4194304 := by have := beta_bd k hk; omega
/-- Of what is small: a product with a power. -/
theorem betaMul_any (k : Nat) (hk : k ≤ 12) (c d : Int) (hc : c.natAbs ≤ 8589934592) (hd : d.natAbs ≤ 8589934592) (w : World) :
    Calls Tryz.prog 30 #[eV (betaP k).1 (betaP k).2, eV c d] w fun e w' => e = .returned (.tuple #[eV (mulZ (betaP k) (c, d)).1 (mulZ (betaP k) (c, d)).2, .bool true]) ∧ Chg Nil w w' := by
  have hb := beta_half k hk
  have p1 := mulbd _ _ _ _ hb.1 hc
  have p2 := mulbd _ _ _ _ hb.2 hd
  have p3 := mulbd _ _ _ _ hb.1 hd
  have p4 := mulbd _ _ _ _ hb.2 hc
  exact eMul_any (betaP k).1 (betaP k).2 c d (by unfold Half; omega) (by unfold Half; omega) (by unfold Half; omega) (by unfold Half; omega) (by omega) (by omega) (by omega) (by omega) w
theorem betaMul_bd (k : Nat) (hk : k ≤ 12) (c d : Int) (N : Nat) (hc : c.natAbs ≤ N) (hd : d.natAbs ≤ N) : (mulZ (betaP k) (c, d)).1.natAbs ≤ 12582912 * N ∧ (mulZ (betaP k) (c, d)).2.natAbs ≤ 12582912 * N := by
  have hb := beta_half k hk
  have p1 := mulbd _ _ _ _ hb.1 hc
  have p2 := mulbd _ _ _ _ hb.2 hd
  have p3 := mulbd _ _ _ _ hb.1 hd
  have p4 := mulbd _ _ _ _ hb.2 hc
  unfold mulZ
  dsimp only
  omega
set_option maxHeartbeats 1000000 in
theorem place_any (a b : Int) (r : Nat) (hr : r ≤ 12) (ha : -1073741824 ≤ a ∧ a ≤ 1073741824) (hb : -1073741824 ≤ b ∧ b ≤ 1073741824) (w : World) :
    Calls Tryz.prog 85 #[eV a b, .int .i64 (r : Int), .int .i64 3] w fun e w' => e = .returned (.tuple #[eV (mulZ (betaP (12 - r)) (3 * a, 3 * b)).1 (mulZ (betaP (12 - r)) (3 * a, 3 * b)).2, .bool true]) ∧ Chg Nil w w' := by
  have h1 := fun W => isRes_any r hr W
  have h2 := fun W => within_any a 1073741824 (by omega) (by omega) W
  have h3 := fun W => within_any b 1073741824 (by omega) (by omega) W
  have h4 := fun W => beta_any (12 - r) (by omega) W
  have h5 := fun W => betaMul_any (12 - r) (by omega) (3 * a) (3 * b) (by omega) (by omega) W
  have hs : ((12 - r : Nat) : Int) = 12 - (r : Int) := by omega
  rw [hs] at h4
  clear hs
  unfold eV at *
  go_enter Tryz.func85, Tryz.ntmps85
  go_wp2_with fail
  refine (h1 _).mono ?_
  rintro e w1 ⟨rfl, rfl⟩
  clear h1
  go_wp2_with fail
  refine (h2 _).mono ?_
  rintro e w1 ⟨rfl, c1⟩
  have K1 := (((Chg.refl Nil w).alloc _).alloc _).then c1
  have hB := box2 w 25 25 #[.int .i64 a, .int .i64 b] #[.int .i64 0, .int .i64 0]
  have b_z := hB.1.keep c1 (fun h => h)
  have b_o := hB.2.1.keep c1 (fun h => h)
  clear hB
  have y_z0 := b_z.cell 0 rfl
  have y_z1 := b_z.cell 1 rfl
  have l_z := b_z.lt
  have H_z1 := Hid.mk b_z
  clear b_z
  have H_o1 := Hid.mk b_o
  clear b_o
  have C1 := Hid.mk K1
  clear c1 K1
  clear h2
  go_wp2_with fail
  refine (h3 _).mono ?_
  rintro e w2 ⟨rfl, c2⟩
  have K2 := c2
  have b_z := H_z1.out.keep K2 (fun h => h)
  clear H_z1
  have b_o := H_o1.out.keep K2 (fun h => h)
  clear H_o1
  clear y_z0
  clear y_z1
  clear l_z
  have y_z0 := b_z.cell 0 rfl
  have y_z1 := b_z.cell 1 rfl
  have l_z := b_z.lt
  have H_z2 := Hid.mk b_z
  clear b_z
  have H_o2 := Hid.mk b_o
  clear b_o
  have C2 := Hid.mk (C1.out.then K2)
  clear C1
  clear c2 K2
  clear h3
  go_wp2_with fail
  refine (h4 _).mono ?_
  rintro e w3 ⟨rfl, c3⟩
  have K3 := c3
  have b_z := H_z2.out.keep K3 (fun h => h)
  clear H_z2
  have b_o := H_o2.out.keep K3 (fun h => h)
  clear H_o2
  clear y_z0
  clear y_z1
  clear l_z
  have y_z0 := b_z.cell 0 rfl
  have y_z1 := b_z.cell 1 rfl
  have l_z := b_z.lt
  have H_z3 := Hid.mk b_z
  clear b_z
  have H_o3 := Hid.mk b_o
  clear b_o
  have C3 := Hid.mk (C2.out.then K3)
  clear C2
  clear c3 K3
  clear h4
  go_wp2_with fail
  refine (h5 _).mono ?_
  rintro e w4 ⟨rfl, c4⟩
  have K4 := ((Chg.refl Nil w3).alloc _).then c4
  have b_b := (Bk.new w3 25 #[.int .i64 (betaP (12 - r)).1, .int .i64 (betaP (12 - r)).2]).keep c4 (fun h => h)
  clear H_z3
  have b_o := H_o3.out.keep K4 (fun h => h)
  clear H_o3
  clear b_b
  clear y_z0
  clear y_z1
  clear l_z
  have y_o0 := b_o.cell 0 rfl
  have y_o1 := b_o.cell 1 rfl
  have l_o := b_o.lt
  have fz_o := fun j => b_o.free j
  have H_o4 := Hid.mk b_o
  clear b_o
  have C4 := Hid.mk (C3.out.then K4)
  clear C3
  clear c4 K4
  clear h5
  go_wp2_with fail
  exact bodyPost_ret (v := .tuple #[.agg #[.int .i64 (mulZ (betaP (12 - r)) (3 * a, 3 * b)).1, .int .i64 (mulZ (betaP (12 - r)) (3 * a, 3 * b)).2], .bool true]) (by simp [results, Tryz.results85, go_sem, y_o0, y_o1]) rfl ⟨rfl, ((C4.out.setCell (fun h => by simp at h; try omega) _).setCell (fun h => by simp at h; try omega) _)⟩
set_option maxHeartbeats 1000000 in
theorem corner_any (m1 m2 : Int) (k : Nat) (hk : k ≤ 12) (c d : Int) (hm1 : m1.natAbs ≤ 72057594037927936) (hm2 : m2.natAbs ≤ 72057594037927936) (hc : c.natAbs ≤ 2) (hd : d.natAbs ≤ 2)
    (hs : (m1 + (mulZ (betaP k) (c, d)).1).natAbs ≤ 72057594037927936 ∧ (m2 + (mulZ (betaP k) (c, d)).2).natAbs ≤ 72057594037927936) (w : World) :
    Calls Tryz.prog 86 #[.agg #[.int .i64 m1, .int .i64 m2, .int .i64 (betaP k).1, .int .i64 (betaP k).2], eV c d] w fun e w' => e = .returned (pV (spotZ (m1 + (mulZ (betaP k) (c, d)).1, m2 + (mulZ (betaP k) (c, d)).2))) ∧ Chg Nil w w' := by
  have hb := betaMul_bd k hk c d 2 hc hd
  have h1 := fun W => betaMul_any k hk c d (by omega) (by omega) W
  have h2 := fun W => eAdd_any m1 m2 (mulZ (betaP k) (c, d)).1 (mulZ (betaP k) (c, d)).2 (by unfold Big; omega) (by unfold Big; omega) (by unfold Big; omega) (by unfold Big; omega) W
  have h3 := fun W => spot_any (m1 + (mulZ (betaP k) (c, d)).1) (m2 + (mulZ (betaP k) (c, d)).2) hs.1 hs.2 W
  generalize (mulZ (betaP k) (c, d)).1 = f1 at *
  generalize (mulZ (betaP k) (c, d)).2 = f2 at *
  clear hs hb
  unfold eV pV at *
  go_enter Tryz.func86, Tryz.ntmps86
  go_wp2_with fail
  refine (h1 _).mono ?_
  rintro e w1 ⟨rfl, c1⟩
  have K1 := ((((Chg.refl Nil w).alloc _).alloc _).alloc _).then c1
  have hB := box3 w 174 25 37 #[.int .i64 m1, .int .i64 m2, .int .i64 (betaP k).1, .int .i64 (betaP k).2] #[.int .i64 c, .int .i64 d] #[.int .i64 0, .int .i64 0]
  have b_c := hB.1.keep c1 (fun h => h)
  have b_k := hB.2.1.keep c1 (fun h => h)
  have b_o := hB.2.2.1.keep c1 (fun h => h)
  clear hB
  clear b_k
  have y_c0 := b_c.cell 0 rfl
  have y_c1 := b_c.cell 1 rfl
  have y_c2 := b_c.cell 2 rfl
  have y_c3 := b_c.cell 3 rfl
  have l_c := b_c.lt
  have H_c1 := Hid.mk b_c
  clear b_c
  have H_o1 := Hid.mk b_o
  clear b_o
  have C1 := Hid.mk K1
  clear c1 K1
  clear h1
  go_wp2_with fail
  refine (h2 _).mono ?_
  rintro e w2 ⟨rfl, c2⟩
  have K2 := ((Chg.refl Nil w1).alloc _).then c2
  have b_f := (Bk.new w1 25 #[.int .i64 f1, .int .i64 f2]).keep c2 (fun h => h)
  clear H_c1
  have b_o := H_o1.out.keep K2 (fun h => h)
  clear H_o1
  clear b_f
  clear y_c0
  clear y_c1
  clear y_c2
  clear y_c3
  clear l_c
  have H_o2 := Hid.mk b_o
  clear b_o
  have C2 := Hid.mk (C1.out.then K2)
  clear C1
  clear c2 K2
  clear h2
  go_wp2_with fail
  refine (h3 _).mono ?_
  rintro e w3 ⟨rfl, c3⟩
  have K3 := ((Chg.refl Nil w2).alloc _).then c3
  have b_a := (Bk.new w2 25 #[.int .i64 (m1 + f1), .int .i64 (m2 + f2)]).keep c3 (fun h => h)
  have b_o := H_o2.out.keep K3 (fun h => h)
  clear H_o2
  clear b_a
  have y_o0 := b_o.cell 0 rfl
  have y_o1 := b_o.cell 1 rfl
  have l_o := b_o.lt
  have fz_o := fun j => b_o.free j
  have H_o3 := Hid.mk b_o
  clear b_o
  have C3 := Hid.mk (C2.out.then K3)
  clear C2
  clear c3 K3
  clear h3
  go_wp2_with fail
  exact bodyPost_ret (v := .agg #[.int .i64 (spotZ (m1 + f1, m2 + f2)).1, .int .i64 (spotZ (m1 + f1, m2 + f2)).2]) (by simp [results, Tryz.results86, go_sem, y_o0, y_o1]) rfl ⟨rfl, ((C3.out.setCell (fun h => by simp at h; try omega) _).setCell (fun h => by simp at h; try omega) _)⟩

end Go.Proofs.YtkemmffdiclloaaGreatDoor
