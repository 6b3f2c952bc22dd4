/- Joined for this seat from: XEw. -/
import Derived.Handy
import Derived.Test.YtkemmffdiclloaaGreatDoorAz
set_option linter.unusedVariables false
set_option linter.unusedSimpArgs false
namespace Go.Proofs.YtkemmffdiclloaaGreatDoor
open Go.RowKit
theorem Tryz.rowAt (a : Addr) (s : String) (w : World) : (receiverAt 105 (.val (.pointer (some a))) false (some s)).run Tryz.prog w = (load a).run Tryz.prog w := by kernel_rfl
theorem Tryz.rowLen (a : Addr) (v : Value) (w : World) (h : w.cell? a = some v) : (method 678 105 (.pointer (some a)) "Len").run Tryz.prog w = .ok (43, v) w := by
  have e : (method 678 105 (.pointer (some a)) "Len").run Tryz.prog w = (do let r ← receiverAt 105 (.val (.pointer (some a))) false (some "Len"); pure (43, r) : Sem (FuncId × Value)).run Tryz.prog w := by kernel_rfl
  rw [e, Sem.run_bind, Tryz.rowAt a "Len" w, run_load, h]
  rfl
theorem Tryz.rowLess (a : Addr) (v : Value) (w : World) (h : w.cell? a = some v) : (method 678 105 (.pointer (some a)) "Less").run Tryz.prog w = .ok (498, v) w := by
  have e : (method 678 105 (.pointer (some a)) "Less").run Tryz.prog w = (do let r ← receiverAt 105 (.val (.pointer (some a))) false (some "Less"); pure (498, r) : Sem (FuncId × Value)).run Tryz.prog w := by kernel_rfl
  rw [e, Sem.run_bind, Tryz.rowAt a "Less" w, run_load, h]
  rfl
theorem Tryz.rowSwap (a : Addr) (v : Value) (w : World) (h : w.cell? a = some v) : (method 678 105 (.pointer (some a)) "Swap").run Tryz.prog w = .ok (499, v) w := by
  have e : (method 678 105 (.pointer (some a)) "Swap").run Tryz.prog w = (do let r ← receiverAt 105 (.val (.pointer (some a))) false (some "Swap"); pure (499, r) : Sem (FuncId × Value)).run Tryz.prog w := by kernel_rfl
  rw [e, Sem.run_bind, Tryz.rowAt a "Swap" w, run_load, h]
  rfl

/-- A row of cells' numbers, owned. -/
def ERow (w : World) (B g cap : Nat) (T : List (Int × Int)) : Prop := w.ownsRow B 25 2 (.slice (some { block := g, off := 0 }) T.length cap) T.length (ringC T)
theorem ERow.at {w : World} {B g cap : Nat} {T : List (Int × Int)} (h : ERow w B g cap T) {j : Nat} {p : Int × Int} (hp : T[j]? = some p) : w.cell? { block := g, off := j * 2 } = some (.int .i64 p.1) ∧ w.cell? { block := g, off := j * 2 + 1 } = some (.int .i64 p.2) := by
  have hj : j < T.length := (List.getElem?_eq_some_iff.1 hp).1
  have h1 := ringC_at T j p hp
  exact ⟨by rw [World.ownsRow.cellAt h (j * 2) (by omega), h1.1], by rw [World.ownsRow.cellAt h (j * 2 + 1) (by omega), h1.2]⟩
theorem ERow.lt {w : World} {B g cap : Nat} {T : List (Int × Int)} (h : ERow w B g cap T) : B ≤ g ∧ g < w.heap.size := World.ownsRow.lt h g rfl
theorem ERow.free {w : World} {B g cap : Nat} {T : List (Int × Int)} (h : ERow w B g cap T) (j : Nat) : w.frozen? { block := g, off := j } = false := World.ownsRow.frozenAt h j
theorem ringC_set : ∀ (T : List (Int × Int)) (j : Nat) (p : Int × Int), ((ringC T).set (j * 2) (.int .i64 p.1)).set (j * 2 + 1) (.int .i64 p.2) = ringC (T.set j p)
  | [], j, p => by simp [ringC]
  | a :: T, 0, p => rfl
  | a :: T, j + 1, p => by
    have e : ∀ a T, ringC (a :: T) = iv a.1 :: iv a.2 :: ringC T := fun _ _ => rfl
    have h1 := ringC_set T j p
    rw [e, show (j + 1) * 2 = j * 2 + 1 + 1 by omega, List.set_cons_succ, List.set_cons_succ, List.set_cons_succ, List.set_cons_succ, h1]
    rfl
theorem ERow.set {w : World} {B g cap : Nat} {T : List (Int × Int)} (h : ERow w B g cap T) (j : Nat) (p : Int × Int) : ERow ((w.setCell { block := g, off := j * 2 } (.int .i64 p.1)).setCell { block := g, off := j * 2 + 1 } (.int .i64 p.2)) B g cap (T.set j p) := by
  have h1 := (World.ownsRow.stored h (j * 2) (.int .i64 p.1)).1
  have h2 := (World.ownsRow.stored h1 (j * 2 + 1) (.int .i64 p.2)).1
  rw [ringC_set] at h2
  unfold ERow
  rw [List.length_set]
  exact h2
theorem swap_perm (T : List (Int × Int)) (i k : Nat) (p q : Int × Int) (hi : T[i]? = some p) (hk : T[k]? = some q) : ((T.set i q).set k p).Perm T := by
  obtain ⟨hi1, hi2⟩ := List.getElem?_eq_some_iff.1 hi
  obtain ⟨hk1, hk2⟩ := List.getElem?_eq_some_iff.1 hk
  have h := (Array.swap_perm (xs := T.toArray) (i := i) (j := k) (by simpa using hi1) (by simpa using hk1))
  have h2 := Array.perm_iff_toList_perm.1 h
  simpa [Array.toList_swap, hi2, hk2] using h2
theorem rowLen_any (A : Option Addr) (n cap : Nat) (w : World) : Calls Tryz.prog 43 #[.slice A n cap] w fun e w' => e = .returned (.int .i64 (n : Int)) ∧ w' = w := by
  go_enter Tryz.func43, Tryz.ntmps43
  go_wp2_with fail
  go_ret
  exact ⟨rfl, rfl⟩
set_option maxHeartbeats 2000000 in
theorem rowLess_any (B g cap n : Nat) (T : List (Int × Int)) (hn : T.length = n) (i k : Nat) (hi : i < n) (hk : k < n) (w : World) (h : ERow w B g cap T) :
    Calls Tryz.prog 498 #[.slice (some { block := g, off := 0 }) n cap, .int .i64 (i : Int), .int .i64 (k : Int)] w fun e w' => ∃ b, e = .returned (.bool b) ∧ Chg Nil w w' := by
  obtain ⟨p, hp⟩ : ∃ p, T[i]? = some p := ⟨_, List.getElem?_eq_getElem (by omega)⟩
  obtain ⟨q, hq⟩ : ∃ q, T[k]? = some q := ⟨_, List.getElem?_eq_getElem (by omega)⟩
  have y0 := (h.at hp).1
  have y1 := (h.at hp).2
  have y2 := (h.at hq).1
  have y3 := (h.at hq).2
  clear h hp hq hn
  obtain ⟨p1, p2⟩ := p
  obtain ⟨q1, q2⟩ := q
  simp only at y0 y1 y2 y3
  obtain ⟨b1, hb1⟩ : ∃ b, decide (p1 < q1) = b := ⟨_, rfl⟩
  obtain ⟨b2, hb2⟩ : ∃ b, (p1 == q1) = b := ⟨_, rfl⟩
  cases b1 with
  | true =>
    go_enter Tryz.func498, Tryz.ntmps498
    go_wp2_with fail
    go_region
    go_wp2_with fail
    go_ret
    exact ⟨_, rfl, (Chg.refl Nil w).drew⟩
  | false =>
    cases b2 with
    | true =>
      go_enter Tryz.func498, Tryz.ntmps498
      go_wp2_with fail
      go_region
      go_wp2_with fail
      go_ret
      exact ⟨_, rfl, (Chg.refl Nil w).drew⟩
    | false =>
      go_enter Tryz.func498, Tryz.ntmps498
      go_wp2_with fail
      go_region
      go_wp2_with fail
      go_ret
      exact ⟨_, rfl, (Chg.refl Nil w).drew⟩

end Go.Proofs.YtkemmffdiclloaaGreatDoor
