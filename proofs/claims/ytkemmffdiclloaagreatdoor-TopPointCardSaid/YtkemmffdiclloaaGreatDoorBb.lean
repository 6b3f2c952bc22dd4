/- Joined for this seat from: XEx. -/
import Derived.Test.YtkemmffdiclloaaGreatDoorBa
set_option linter.unusedVariables false
set_option linter.unusedSimpArgs false
namespace Go.Proofs.YtkemmffdiclloaaGreatDoor
open Go.RowKit
theorem ERow.drew {w : World} {B g cap : Nat} {T : List (Int × Int)} (h : ERow w B g cap T) : ERow w.drew B g cap T := World.ownsRow.drew h
set_option maxHeartbeats 2000000 in
theorem rowSwap_any (B g cap n : Nat) (T : List (Int × Int)) (hn : T.length = n) (i k : Nat) (hi : i < n) (hk : k < n) (w : World) (h : ERow w B g cap T) :
    Calls Tryz.prog 499 #[.slice (some { block := g, off := 0 }) n cap, .int .i64 (i : Int), .int .i64 (k : Int)] w fun e w' => e = .returned (.tuple #[]) ∧ ∃ T', T'.Perm T ∧ ERow w' B g cap T' ∧ Chg (fun b => b = g) w w' := by
  obtain ⟨p, hp⟩ : ∃ p, T[i]? = some p := ⟨_, List.getElem?_eq_getElem (by omega)⟩
  obtain ⟨q, hq⟩ : ∃ q, T[k]? = some q := ⟨_, List.getElem?_eq_getElem (by omega)⟩
  have y0 := (h.at hp).1
  have y1 := (h.at hp).2
  have y2 := (h.at hq).1
  have y3 := (h.at hq).2
  have xf := fun j => h.free j
  have xl := h.lt.2
  have HP := Hid.mk (And.intro (swap_perm T i k p q hp hq) h)
  clear h hp hq hn
  obtain ⟨p1, p2⟩ := p
  obtain ⟨q1, q2⟩ := q
  simp only at y0 y1 y2 y3
  by_cases hik : i = k
  · subst hik
    obtain rfl : p1 = q1 := by have h := y0.symm.trans y2; simpa using h
    obtain rfl : p2 = q2 := by have h := y1.symm.trans y3; simpa using h
    go_enter Tryz.func499, Tryz.ntmps499
    go_wp2_with fail
    go_region
    go_wp2_with fail
    refine bodyPost_end (results_none rfl _ _ _) rfl ?_
    have h2 := ERow.drew ((HP.out.2.set i (p1, p2)).set i (p1, p2))
    have h3 : Chg (fun b => b = g) w _ := (((((Chg.refl (fun b => b = g) w).setCell (p := { block := g, off := i * 2 }) (fun _ => rfl) (.int .i64 p1)).setCell (p := { block := g, off := i * 2 + 1 }) (fun _ => rfl) (.int .i64 p2)).setCell (p := { block := g, off := i * 2 }) (fun _ => rfl) (.int .i64 p1)).setCell (p := { block := g, off := i * 2 + 1 }) (fun _ => rfl) (.int .i64 p2)).drew
    have h1 := HP.out.1
    clear HP
    simp only at h2 h3
    generalize ((((w.setCell { block := g, off := i * 2 } (.int .i64 p1)).setCell { block := g, off := i * 2 + 1 } (.int .i64 p2)).setCell { block := g, off := i * 2 } (.int .i64 p1)).setCell { block := g, off := i * 2 + 1 } (.int .i64 p2)).drew = W at *
    exact ⟨rfl, _, h1, h2, h3⟩
  · have n1 : ¬ (k = i) := fun h => hik h.symm
    have n2 : ¬ (k * 2 = i * 2) := by omega
    have n3 : ¬ (i * 2 = k * 2) := by omega
    go_enter Tryz.func499, Tryz.ntmps499
    go_wp2_with fail
    go_region
    go_wp2_with fail
    refine bodyPost_end (results_none rfl _ _ _) rfl ?_
    have h2 := ERow.drew ((HP.out.2.set i (q1, q2)).set k (p1, p2))
    have h3 : Chg (fun b => b = g) w _ := (((((Chg.refl (fun b => b = g) w).setCell (p := { block := g, off := i * 2 }) (fun _ => rfl) (.int .i64 q1)).setCell (p := { block := g, off := i * 2 + 1 }) (fun _ => rfl) (.int .i64 q2)).setCell (p := { block := g, off := k * 2 }) (fun _ => rfl) (.int .i64 p1)).setCell (p := { block := g, off := k * 2 + 1 }) (fun _ => rfl) (.int .i64 p2)).drew
    have h1 := HP.out.1
    clear HP
    simp only at h2 h3
    generalize ((((w.setCell { block := g, off := i * 2 } (.int .i64 q1)).setCell { block := g, off := i * 2 + 1 } (.int .i64 q2)).setCell { block := g, off := k * 2 } (.int .i64 p1)).setCell { block := g, off := k * 2 + 1 } (.int .i64 p2)).drew = W at *
    exact ⟨rfl, _, h1, h2, h3⟩

end Go.Proofs.YtkemmffdiclloaaGreatDoor
