/- TopPoint: whatever its five integers, the call returns true, ends, and leaves what it was given as it was. No condition. -/
import Derived.Test.YtkemmffdiclloaaGreatDoorCards
import Derived.Test.YtkemmffdiclloaaGreatDoorPa
import Derived.Test.YtkemmffdiclloaaGreatDoorPb
import Derived.Test.YtkemmffdiclloaaGreatDoorPc
set_option linter.unusedVariables false
set_option linter.unusedSimpArgs false
namespace Go.Proofs.YtkemmffdiclloaaGreatDoor.topPoint
open Go.ChangeShapes Go.WideShapes Go.ChangeAt Go.RowKit
set_option maxHeartbeats 4000000 in
theorem over : Rows.topPointRow.holds Tryz.pinned (OpenSpec.ofChange Rows.topPointSpec) :=
  OpenClaim.holds_of_wide 3 Tryz.f3 rfl rfl rfl rfl rfl rfl rfl ⟨rfl, rfl, rfl, rfl, rfl⟩ rfl rfl rfl rfl rfl (by as_aux_lemma => kernel_rfl) Tryz.func3 facts
    (of_decide_eq_true (by as_aux_lemma => kernel_rfl)) (by unfold Func.isWrapper; rw [if_neg (of_decide_eq_false (by as_aux_lemma => kernel_rfl))]; exact ⟨rfl, rfl⟩)
    (fun os started H enc _ => lifted os started H enc)

/-- ████ THE STATEMENT ████ -/
theorem proved : Rows.TopPointSaid :=
  over
theorem stands (t : Nat) (j : Nat) (h : (#[2, 2, 3, 2, 2] : Array Nat)[j]? = some t) : Tryz.prog.wantsStandIn t = false := by
  have h2 : Tryz.prog.wantsStandIn 2 = false := by unfold Program.wantsStandIn; rw [Tryz.underlying2]
  have h3 : Tryz.prog.wantsStandIn 3 = false := by unfold Program.wantsStandIn; rw [Tryz.underlying3]
  match j, h with
  | 0, h => cases h; exact h2
  | 1, h => cases h; exact h2
  | 2, h => cases h; exact h3
  | 3, h => cases h; exact h2
  | 4, h => cases h; exact h2
theorem looked : true = Tryz.prog.looks [] := by kernel_rfl
set_option maxHeartbeats 4000000 in
theorem card : Rows.TopPointCardSaid :=
  Claim7.holds_tied_plain_at .later [] _ _ _ _ over (fun _ h => by cases h) (by as_aux_lemma => kernel_rfl) (fun _ h => by cases h) point_tie rfl ⟨rfl, rfl⟩ (by as_aux_lemma => kernel_rfl) (by as_aux_lemma => kernel_rfl)
    (fun f fn h1 h2 => by
      have e := nameIs.symm.trans h1
      injection e with e
      subst e
      have e := (show Tryz.prog.funcs[3]? = some Tryz.f3 from Tryz.func3).symm.trans h2
      injection e with e
      subst e
      exact ⟨looked, fun j t h => by rw [Tryz.params3] at h; exact stands t j h⟩) goesNot
#print axioms card
end Go.Proofs.YtkemmffdiclloaaGreatDoor.topPoint
