/- Joined for this seat from: XEn. -/
import Derived.Test.YtkemmffdiclloaaGreatDoorAo
set_option linter.unusedVariables false
set_option linter.unusedSimpArgs false
namespace Go.Proofs.YtkemmffdiclloaaGreatDoor
open Go.RowKit
/-- Digit r, 0 where there is none. -/
def dD (z : Int × Int) (R r : Nat) : Int := if 0 < r ∧ r ≤ R then ((dig (leftZ (upI (R - r) z)) : Nat) : Int) else 0
theorem dgL_lit (z : Int × Int) (R : Nat) : (dgL z R 0).toArray = #[.int .i64 (dD z R 0), .int .i64 (dD z R 1), .int .i64 (dD z R 2), .int .i64 (dD z R 3), .int .i64 (dD z R 4), .int .i64 (dD z R 5), .int .i64 (dD z R 6), .int .i64 (dD z R 7), .int .i64 (dD z R 8), .int .i64 (dD z R 9), .int .i64 (dD z R 10), .int .i64 (dD z R 11), .int .i64 (dD z R 12)] := rfl
set_option maxHeartbeats 2000000 in
theorem cellOk_any (R : Nat) (z : Int × Int) (hR : R ≤ 12) (ha : -1073741824 ≤ z.1 ∧ z.1 ≤ 1073741824) (hb : -1073741824 ≤ z.2 ∧ z.2 ≤ 1073741824) (hbase : Based z R) (w : World) :
    Calls Tryz.prog 46 #[cV R z] w fun e w' => e = .returned (.bool true) ∧ Chg Nil w w' := by
  have h1 := fun W => way_any R z hR ha hb hbase W
  rw [dgL_lit] at h1
  generalize dD z R = D at *
  unfold cV eV at *
  go_enter Tryz.func46, Tryz.ntmps46
  go_wp2_with fail
  refine (h1 _).mono ?_
  rintro e w1 ⟨rfl, c1⟩
  have K1 := ((Chg.refl Nil w).alloc _).then c1
  have b_c := (Bk.new w 27 #[.int .i64 (R : Int), .int .i64 z.1, .int .i64 z.2]).keep c1 (fun h => h)
  clear b_c
  have C1 := Hid.mk K1
  clear c1 K1
  clear h1
  go_wp2_with fail
  go_ret
  exact ⟨rfl, (C1.out.alloc _).alloc _⟩
set_option maxHeartbeats 2000000 in
theorem cellOf_any (x y : Int) (r : Nat) (hr : r ≤ 12) (h : World_ x y) (w : World) :
    Calls Tryz.prog 7 #[.int .i64 x, .int .i64 y, .int .i64 (r : Int)] w fun e w' => e = .returned (.tuple #[cV r (nearZ x y r), .int .i64 0]) ∧ Chg Nil w w' := by
  have h1 := fun W => planeOk_any x y h W
  have h2 := fun W => near_any x y r hr h W
  clear h
  unfold cV eV at *
  go_enter Tryz.func7, Tryz.ntmps7
  go_wp2_with fail
  refine (h1 _).mono ?_
  rintro e w1 ⟨rfl, rfl⟩
  clear h1
  go_wp2_with fail
  refine (h2 _).mono ?_
  rintro e w1 ⟨rfl, c1⟩
  have K1 := ((Chg.refl Nil w).alloc _).then c1
  have b_o := (Bk.new w 27 #[.int .i64 0, .int .i64 0, .int .i64 0]).keep c1 (fun h => h)
  have y_o0 := b_o.cell 0 rfl
  have y_o1 := b_o.cell 1 rfl
  have y_o2 := b_o.cell 2 rfl
  have l_o := b_o.lt
  have fz_o := fun j => b_o.free j
  have H_o1 := Hid.mk b_o
  clear b_o
  have C1 := Hid.mk K1
  clear c1 K1
  clear h2
  go_wp2_with fail
  exact bodyPost_ret (v := .tuple #[.agg #[.int .i64 (r : Int), .int .i64 (nearZ x y r).1, .int .i64 (nearZ x y r).2], .int .i64 0]) (by simp [results, Tryz.results7, go_sem, y_o0, y_o1, y_o2, l_o]) rfl ⟨rfl, (((((C1.out).setCell (fun h => by simp at h; try omega) _).setCell (fun h => by simp at h; try omega) _).setCell (fun h => by simp at h; try omega) _).alloc _)⟩

end Go.Proofs.YtkemmffdiclloaaGreatDoor
