/-
  No cell of these rows narrows 'for every input' (looked for: loops, veiled, ifaces, maps, wideKeys, modest, calm, conditions, laid).
  DERIVED. THE GIVEN ROWS OF THIS SEAT. 5 by the template 'for every input the law returns true; each argument reads behind the call as it read before'; 0 by the template 'total and deterministic' (their statements: YtomlmedfiajfkaaTotals.lean).
  GIVEN WITH THE SEED: the statements are not yours to turn. If you find one false, say at which input.
  Laid BY PROGRAM, IN A SANDBOX (cutbox-rows.mjs): the forced cells as the released guide's own fill.sh prints them over the translation a56f0fb7a4dc7dce… (all of the seat's roots in one cut). By AI agents, Wed Nov 11 2026. No macro, syntax, notation, axiom, sorry.
-/
import Derived.Test.YtomlmedfiajfkaaChecked
import GoSem.Claim
import GoSem.ClaimJoined
import GoSem.ClaimMapViews
import Derived.JoinedTies
import Derived.KernelRfl
namespace Go.Proofs.Ytomlmedfiajfkaa
/- THE CELL 'sum', in the pinned program and in every row, IS THE sha256 OF THE DUMP (.gsa) THAT YtomlmedfiajfkaaProg.lean LOADS. Nothing in Lean hashes anything: it is a label: what it is worth is what the hold of that sum in a sandbox is worth. -/
noncomputable def Try.pinned : Pinned := { name := "ytomlmedfiajfkaa", sum := "a56f0fb7a4dc7dce9839abeb20693219b7284a572b6428091d69125a49a0d36e", checked := Try.checked }
namespace Rows
def none {H : Type} : Left H := { results := [], args := [] }

/-- 'apiarylaw14.SlotReads': WHATEVER THE INPUT: true; the input reads as it did. -/
def slotReadsSpec : ChangeSpec := { name := "slotReads", fn := fun _ => fun
  | [d1, d2, d3, d4, d5, d6] => { results := [.lit (.bool true)], args := [d1, d2, d3, d4, d5, d6] }
  | _ => none }
def slotReadsRow : OpenClaim := { program := "ytomlmedfiajfkaa", sum := "a56f0fb7a4dc7dce9839abeb20693219b7284a572b6428091d69125a49a0d36e", func := "apiary/apiarylaw14.SlotReads", spec := "slotReads", unfollowed := true, recurses := true, apart := false }
def SlotReadsSaid : Prop := slotReadsRow.holds Try.pinned (OpenSpec.ofChange slotReadsSpec)

/-- ITS FALSE NEIGHBOUR: 'it returns false'. Refute it at one input. -/
def slotReadsWrong : ChangeSpec := { name := "slotReads", fn := fun _ => fun
  | [d1, d2, d3, d4, d5, d6] => { results := [.lit (.bool false)], args := [d1, d2, d3, d4, d5, d6] }
  | _ => none }
def SlotReadsWrongFalsely : Prop := slotReadsRow.holds Try.pinned (OpenSpec.ofChange slotReadsWrong)

/-- 'apiarylaw14.SlotFits': WHATEVER THE INPUT: true; the input reads as it did. -/
def slotFitsSpec : ChangeSpec := { name := "slotFits", fn := fun _ => fun
  | [d1, d2] => { results := [.lit (.bool true)], args := [d1, d2] }
  | _ => none }
def slotFitsRow : OpenClaim := { program := "ytomlmedfiajfkaa", sum := "a56f0fb7a4dc7dce9839abeb20693219b7284a572b6428091d69125a49a0d36e", func := "apiary/apiarylaw14.SlotFits", spec := "slotFits", unfollowed := true, recurses := true, apart := false }
def SlotFitsSaid : Prop := slotFitsRow.holds Try.pinned (OpenSpec.ofChange slotFitsSpec)

/-- ITS FALSE NEIGHBOUR: 'it returns false'. Refute it at one input. -/
def slotFitsWrong : ChangeSpec := { name := "slotFits", fn := fun _ => fun
  | [d1, d2] => { results := [.lit (.bool false)], args := [d1, d2] }
  | _ => none }
def SlotFitsWrongFalsely : Prop := slotFitsRow.holds Try.pinned (OpenSpec.ofChange slotFitsWrong)

/-- 'apiarylaw14.SlotAgain': WHATEVER THE INPUT: true; the input reads as it did. -/
def slotAgainSpec : ChangeSpec := { name := "slotAgain", fn := fun _ => fun
  | [d1, d2, d3] => { results := [.lit (.bool true)], args := [d1, d2, d3] }
  | _ => none }
def slotAgainRow : OpenClaim := { program := "ytomlmedfiajfkaa", sum := "a56f0fb7a4dc7dce9839abeb20693219b7284a572b6428091d69125a49a0d36e", func := "apiary/apiarylaw14.SlotAgain", spec := "slotAgain", unfollowed := true, recurses := true, apart := false }
def SlotAgainSaid : Prop := slotAgainRow.holds Try.pinned (OpenSpec.ofChange slotAgainSpec)

/-- ITS FALSE NEIGHBOUR: 'it returns false'. Refute it at one input. -/
def slotAgainWrong : ChangeSpec := { name := "slotAgain", fn := fun _ => fun
  | [d1, d2, d3] => { results := [.lit (.bool false)], args := [d1, d2, d3] }
  | _ => none }
def SlotAgainWrongFalsely : Prop := slotAgainRow.holds Try.pinned (OpenSpec.ofChange slotAgainWrong)

/-- 'apiarylaw14.SlotApart': WHATEVER THE INPUT: true; the input reads as it did. -/
def slotApartSpec : ChangeSpec := { name := "slotApart", fn := fun _ => fun
  | [d1, d2, d3, d4] => { results := [.lit (.bool true)], args := [d1, d2, d3, d4] }
  | _ => none }
def slotApartRow : OpenClaim := { program := "ytomlmedfiajfkaa", sum := "a56f0fb7a4dc7dce9839abeb20693219b7284a572b6428091d69125a49a0d36e", func := "apiary/apiarylaw14.SlotApart", spec := "slotApart", unfollowed := true, recurses := true, apart := false }
def SlotApartSaid : Prop := slotApartRow.holds Try.pinned (OpenSpec.ofChange slotApartSpec)

/-- ITS FALSE NEIGHBOUR: 'it returns false'. Refute it at one input. -/
def slotApartWrong : ChangeSpec := { name := "slotApart", fn := fun _ => fun
  | [d1, d2, d3, d4] => { results := [.lit (.bool false)], args := [d1, d2, d3, d4] }
  | _ => none }
def SlotApartWrongFalsely : Prop := slotApartRow.holds Try.pinned (OpenSpec.ofChange slotApartWrong)

/-- 'apiarylaw14.SlotCrashes': WHATEVER THE INPUT: true; the input reads as it did. -/
def slotCrashesSpec : ChangeSpec := { name := "slotCrashes", fn := fun _ => fun
  | [d1, d2, d3, d4, d5] => { results := [.lit (.bool true)], args := [d1, d2, d3, d4, d5] }
  | _ => none }
def slotCrashesRow : OpenClaim := { program := "ytomlmedfiajfkaa", sum := "a56f0fb7a4dc7dce9839abeb20693219b7284a572b6428091d69125a49a0d36e", func := "apiary/apiarylaw14.SlotCrashes", spec := "slotCrashes", unfollowed := true, recurses := true, apart := false }
def SlotCrashesSaid : Prop := slotCrashesRow.holds Try.pinned (OpenSpec.ofChange slotCrashesSpec)

/-- ITS FALSE NEIGHBOUR: 'it returns false'. Refute it at one input. -/
def slotCrashesWrong : ChangeSpec := { name := "slotCrashes", fn := fun _ => fun
  | [d1, d2, d3, d4, d5] => { results := [.lit (.bool false)], args := [d1, d2, d3, d4, d5] }
  | _ => none }
def SlotCrashesWrongFalsely : Prop := slotCrashesRow.holds Try.pinned (OpenSpec.ofChange slotCrashesWrong)

/- THE SECOND FORM. 'bulk': how many values and letters a reading holds, each counted each time it is reached (what is shared counts as often as it is met; a slice's spare places count too). A statement '..UptoSaid' is the law's where the arguments, and the package variables that the reading takes, are together of bulk at most 1048576: NARROWER than '..Said'. Prove '..Said' where nothing that the law and all that it calls make is longer than what came in: it says more and counts as full. Else prove '..UptoSaid'. A law counts once. -/
mutual
def uptoBulk {H : Type} : DataW H → Nat
  | .lit (.string bytes) => bytes.length + 1
  | .lit _ => 1
  | .nil => 1
  | .ptr d => uptoBulk d + 1
  | .slice elems spare => uptoBulkAll elems + uptoBulkAll spare + 1
  | .agg parts => uptoBulkAll parts + 1
  | .iface _ d => uptoBulk d + 1
  | .map entries => uptoBulkEntries entries + 1
  | .held _ => 1
def uptoBulkAll {H : Type} : List (DataW H) → Nat
  | [] => 0
  | d :: r => uptoBulk d + uptoBulkAll r
def uptoBulkEntries {H : Type} : List (Lit × DataW H) → Nat
  | [] => 0
  | x :: r => uptoBulkEntry x + uptoBulkEntries r
def uptoBulkEntry {H : Type} : Lit × DataW H → Nat
  | (.string bytes, d) => bytes.length + uptoBulk d + 1
  | (_, d) => uptoBulk d + 1
 end
def uptoSmall : (H : Type) → List (DataW H) → Bool := fun _ ds => decide (uptoBulkAll ds ≤ 1048576)
def OpenSpec.upto (s : _root_.Go.ChangeSpec) : _root_.Go.OpenSpec := { _root_.Go.OpenSpec.ofChange s with cond := some uptoSmall }

/-- 'apiarylaw14.SlotReads', WHERE WHAT IT READS IS OF BULK AT MOST 1048576: true; the input reads as it did. -/
def slotReadsUptoRow : OpenClaim := { program := "ytomlmedfiajfkaa", sum := "a56f0fb7a4dc7dce9839abeb20693219b7284a572b6428091d69125a49a0d36e", func := "apiary/apiarylaw14.SlotReads", spec := "slotReads", unfollowed := true, recurses := true, apart := false, narrowed := true }
def SlotReadsUptoSaid : Prop := slotReadsUptoRow.holds Try.pinned (OpenSpec.upto slotReadsSpec)

/-- 'apiarylaw14.SlotFits', WHERE WHAT IT READS IS OF BULK AT MOST 1048576: true; the input reads as it did. -/
def slotFitsUptoRow : OpenClaim := { program := "ytomlmedfiajfkaa", sum := "a56f0fb7a4dc7dce9839abeb20693219b7284a572b6428091d69125a49a0d36e", func := "apiary/apiarylaw14.SlotFits", spec := "slotFits", unfollowed := true, recurses := true, apart := false, narrowed := true }
def SlotFitsUptoSaid : Prop := slotFitsUptoRow.holds Try.pinned (OpenSpec.upto slotFitsSpec)

/-- 'apiarylaw14.SlotAgain', WHERE WHAT IT READS IS OF BULK AT MOST 1048576: true; the input reads as it did. -/
def slotAgainUptoRow : OpenClaim := { program := "ytomlmedfiajfkaa", sum := "a56f0fb7a4dc7dce9839abeb20693219b7284a572b6428091d69125a49a0d36e", func := "apiary/apiarylaw14.SlotAgain", spec := "slotAgain", unfollowed := true, recurses := true, apart := false, narrowed := true }
def SlotAgainUptoSaid : Prop := slotAgainUptoRow.holds Try.pinned (OpenSpec.upto slotAgainSpec)

/-- 'apiarylaw14.SlotApart', WHERE WHAT IT READS IS OF BULK AT MOST 1048576: true; the input reads as it did. -/
def slotApartUptoRow : OpenClaim := { program := "ytomlmedfiajfkaa", sum := "a56f0fb7a4dc7dce9839abeb20693219b7284a572b6428091d69125a49a0d36e", func := "apiary/apiarylaw14.SlotApart", spec := "slotApart", unfollowed := true, recurses := true, apart := false, narrowed := true }
def SlotApartUptoSaid : Prop := slotApartUptoRow.holds Try.pinned (OpenSpec.upto slotApartSpec)

/-- 'apiarylaw14.SlotCrashes', WHERE WHAT IT READS IS OF BULK AT MOST 1048576: true; the input reads as it did. -/
def slotCrashesUptoRow : OpenClaim := { program := "ytomlmedfiajfkaa", sum := "a56f0fb7a4dc7dce9839abeb20693219b7284a572b6428091d69125a49a0d36e", func := "apiary/apiarylaw14.SlotCrashes", spec := "slotCrashes", unfollowed := true, recurses := true, apart := false, narrowed := true }
def SlotCrashesUptoSaid : Prop := slotCrashesUptoRow.holds Try.pinned (OpenSpec.upto slotCrashesSpec)

end Rows
end Go.Proofs.Ytomlmedfiajfkaa
