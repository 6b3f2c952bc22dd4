/- TopPoint: the laid variables' tie, fact by fact; no goroutine. -/
import Derived.Test.YtkemmffdiclloaaGreatDoorRows
import Derived.LaidByTextLater
import Derived.SevenTiedAt
import GoSem.ClaimGoes
set_option linter.unusedVariables false
set_option linter.unusedSimpArgs false
namespace Go.Proofs.YtkemmffdiclloaaGreatDoor
open Go
def tnList : List (String × DataW Unit) := Rows.topPointRow.laid.drop 1
def firstName : String := (Rows.topPointRow.laid.map (·.1)).headD ""
theorem tn1 : Tryz.prog.worded (varsWordLater true) = true := by kernel_rfl
theorem tn2 : Tryz.prog.worded (varsWordLater !true) = false := by kernel_rfl
theorem tn3 : Tryz.prog.worded rootWordLater = true := by kernel_rfl
theorem tn4 : tnList.map (fun x => Tryz.prog.kindOfLater x.1) = [LaidKind.data, .sentinel, .sentinel, .data, .data, .data].map some := by kernel_rfl
theorem tn5 : (Tryz.prog.funcNamed "gosem.cut.vars").isSome = true := by kernel_rfl
theorem tn6 : varsNamedLaterB Tryz.prog (varsId Tryz.prog) tnList = true := by kernel_rfl
theorem tn7 (os : Os) (tape : Tape) : varsDone Tryz.prog 400 (varsId Tryz.prog) os tape = true := by kernel_rfl
theorem tn8 (os : Os) (tape : Tape) : (DataW.laidRun Tryz.prog (varsWorld Tryz.prog 400 (varsId Tryz.prog) os tape).memory 8 (tnList.map (·.1))).map (·.1) = some tnList := by kernel_rfl
theorem tn9 (os : Os) (tape : Tape) : (DataW.laidRun Tryz.prog (varsWorld Tryz.prog 400 (varsId Tryz.prog) os tape).memory 8 (tnList.map (·.1))).map (fun x => decide x.2.Nodup && laidRowsB Tryz.prog (varsWorld Tryz.prog 400 (varsId Tryz.prog) os tape).memory x.2) = some true := by kernel_rfl
theorem tn10 : (tnList.all fun x => x.2.handleName?.isNone) = true := by kernel_rfl
theorem pin_first : Tryz.pinned.checked.prog.pinnedFits firstName = true := by kernel_rfl
theorem noOwn : Tryz.pinned.checked.prog.headLifts.contains "ownunsafe" = false := by kernel_rfl
theorem fitsAll : Tryz.pinned.checked.prog.listedFits Rows.topPointRow.laid = true := by
  unfold Program.listedFits
  rw [noOwn]
  kernel_rfl
theorem tnTie : Tryz.prog.laidByTextLater tnList [.data, .sentinel, .sentinel, .data, .data, .data] true :=
  Program.laidByTextLater_by_run 400 8 tn1 tn2 tn3 tn4 tn5 tn6 tn7 tn8 tn9 tn10
theorem point_tie : Rows.topPointRow.laidByTextAt .later Tryz.pinned [.pinned, .data, .sentinel, .sentinel, .data, .data, .data] true :=
  OpenClaim.laidByTextAt_pinned rfl rfl tnTie rfl rfl rfl rfl (fun y hy _e => by
    simp only [Rows.topPointRow, List.zip_cons_cons, List.zip_nil_right, List.mem_cons, List.mem_nil_iff, or_false] at hy
    rcases hy with rfl | rfl | rfl | rfl | rfl | rfl | rfl
    · exact ⟨pin_first, by kernel_rfl⟩
    · cases _e
    · cases _e
    · cases _e
    · cases _e
    · cases _e
    · cases _e) fitsAll
end Go.Proofs.YtkemmffdiclloaaGreatDoor
namespace Go.Proofs.YtkemmffdiclloaaGreatDoor.topPoint
/-- No function of these starts a goroutine. -/
def Still (l : List Func) : Prop := l.any Func.goes = false
theorem still_append {a b : List Func} (h : Still a) (k : Still b) : Still (a.append b) := by
  unfold Still at h k ⊢
  show (a ++ b).any Func.goes = false
  rw [List.any_append, h, k]
  rfl
theorem still_array {l : List Func} (h : Still l) : l.toArray.any Func.goes = false := by
  rw [List.any_toArray]
  exact h
theorem goes_any : Tryz.prog.funcs.any Func.goes = false := by
  show Tryz.funcs.any Func.goes = false
  delta Tryz.funcs
  refine still_array ?_
  repeat' (with_reducible refine still_append ?_ ?_)
  all_goals (unfold Still; as_aux_lemma => kernel_rfl)
theorem goes_of_none {P : Program} (h : P.funcs.any Func.goes = false) (f : FuncId) : P.goes f = false := by
  have hk : ∀ g : Nat, (P.funcs[g]?).any Func.goes = false := by
    intro g
    cases e : P.funcs[g]? with
    | none => rfl
    | some fn =>
      cases hb : Func.goes fn with
      | false => simp [hb]
      | true =>
        have : P.funcs.any Func.goes = true := Array.any_eq_true'.mpr ⟨fn, Array.mem_of_getElem? e, hb⟩
        rw [h] at this; cases this
  unfold Program.goes
  rw [h, Bool.and_false, Bool.or_false]
  simp [hk]
theorem nameIs : Tryz.prog.funcNamed Rows.topPointRow.func = some 3 := by kernel_rfl
theorem goesBy_false {c : OpenClaim} {P : Program} {f : FuncId} (hs : c.start = .entering) (hn : P.funcNamed c.func = some f) (h : P.goes f = false) : false = c.goesBy P := by
  unfold OpenClaim.goesBy Program.goesAt Program.goesFrom
  rw [hn, hs]
  simp [h]
theorem goesNot : false = Rows.topPointRow.goesBy Tryz.prog := goesBy_false (c := Rows.topPointRow) (P := Tryz.prog) (f := 3) rfl nameIs (goes_of_none goes_any 3)
end Go.Proofs.YtkemmffdiclloaaGreatDoor.topPoint
