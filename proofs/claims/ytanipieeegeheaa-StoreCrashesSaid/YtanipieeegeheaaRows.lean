/-
  No cell of these rows narrows 'for every input' (looked for: loops, veiled, ifaces, maps, wideKeys, modest, calm, conditions, laid).
  DERIVED. THE GIVEN ROWS OF THIS SEAT. 9 by the template 'for every input the law returns true; each argument reads behind the call as it read before'; 0 by the template 'total and deterministic' (their statements: YtanipieeegeheaaTotals.lean).
  GIVEN WITH THE SEED: the statements are not yours to turn. If you find one false, say at which input.
  Laid BY PROGRAM, IN A SANDBOX (cutbox-rows.mjs): the forced cells as the released guide's own fill.sh prints them over the translation 583e60ed244549e7… (all of the seat's roots in one cut). By AI agents, Wed Nov 11 2026. No macro, syntax, notation, axiom, sorry.
-/
import Derived.Test.YtanipieeegeheaaChecked
import GoSem.Claim
import GoSem.ClaimJoined
import GoSem.ClaimMapViews
import Derived.JoinedTies
import Derived.KernelRfl
namespace Go.Proofs.Ytanipieeegeheaa
/- THE CELL 'sum', in the pinned program and in every row, IS THE sha256 OF THE DUMP (.gsa) THAT YtanipieeegeheaaProg.lean LOADS. Nothing in Lean hashes anything: it is a label: what it is worth is what the hold of that sum in a sandbox is worth. -/
noncomputable def Try.pinned : Pinned := { name := "ytanipieeegeheaa", sum := "583e60ed244549e785742bcb55a5df95e0271a3901306ea977ac05fc0f0d03d0", checked := Try.checked }
namespace Rows
def none {H : Type} : Left H := { results := [], args := [] }

/-- 'apiarylaw15.StoreForged': WHATEVER THE INPUT: true; the input reads as it did. -/
def storeForgedSpec : ChangeSpec := { name := "storeForged", fn := fun _ => fun
  | [d1, d2, d3] => { results := [.lit (.bool true)], args := [d1, d2, d3] }
  | _ => none }
def storeForgedRow : OpenClaim := { program := "ytanipieeegeheaa", sum := "583e60ed244549e785742bcb55a5df95e0271a3901306ea977ac05fc0f0d03d0", func := "apiary/apiarylaw15.StoreForged", spec := "storeForged", inPlace := ["slices.overlaps[apiary/api.Point]"], unfollowed := true, recurses := true, apart := false }
def StoreForgedSaid : Prop := storeForgedRow.holds Try.pinned (OpenSpec.ofChange storeForgedSpec)

/-- ITS FALSE NEIGHBOUR: 'it returns false'. Refute it at one input. -/
def storeForgedWrong : ChangeSpec := { name := "storeForged", fn := fun _ => fun
  | [d1, d2, d3] => { results := [.lit (.bool false)], args := [d1, d2, d3] }
  | _ => none }
def StoreForgedWrongFalsely : Prop := storeForgedRow.holds Try.pinned (OpenSpec.ofChange storeForgedWrong)

/-- 'apiarylaw15.StoreSplit': WHATEVER THE INPUT: true; the input reads as it did. -/
def storeSplitSpec : ChangeSpec := { name := "storeSplit", fn := fun _ => fun
  | [d1, d2] => { results := [.lit (.bool true)], args := [d1, d2] }
  | _ => none }
def storeSplitRow : OpenClaim := { program := "ytanipieeegeheaa", sum := "583e60ed244549e785742bcb55a5df95e0271a3901306ea977ac05fc0f0d03d0", func := "apiary/apiarylaw15.StoreSplit", spec := "storeSplit", inPlace := ["slices.overlaps[apiary/api.Point]"], unfollowed := true, recurses := true, apart := false }
def StoreSplitSaid : Prop := storeSplitRow.holds Try.pinned (OpenSpec.ofChange storeSplitSpec)

/-- ITS FALSE NEIGHBOUR: 'it returns false'. Refute it at one input. -/
def storeSplitWrong : ChangeSpec := { name := "storeSplit", fn := fun _ => fun
  | [d1, d2] => { results := [.lit (.bool false)], args := [d1, d2] }
  | _ => none }
def StoreSplitWrongFalsely : Prop := storeSplitRow.holds Try.pinned (OpenSpec.ofChange storeSplitWrong)

/-- 'apiarylaw15.StoreHostile': WHATEVER THE INPUT: true; the input reads as it did. -/
def storeHostileSpec : ChangeSpec := { name := "storeHostile", fn := fun _ => fun
  | [d1, d2, d3] => { results := [.lit (.bool true)], args := [d1, d2, d3] }
  | _ => none }
def storeHostileRow : OpenClaim := { program := "ytanipieeegeheaa", sum := "583e60ed244549e785742bcb55a5df95e0271a3901306ea977ac05fc0f0d03d0", func := "apiary/apiarylaw15.StoreHostile", spec := "storeHostile", inPlace := ["slices.overlaps[apiary/api.Point]"], unfollowed := true, recurses := true, apart := false }
def StoreHostileSaid : Prop := storeHostileRow.holds Try.pinned (OpenSpec.ofChange storeHostileSpec)

/-- ITS FALSE NEIGHBOUR: 'it returns false'. Refute it at one input. -/
def storeHostileWrong : ChangeSpec := { name := "storeHostile", fn := fun _ => fun
  | [d1, d2, d3] => { results := [.lit (.bool false)], args := [d1, d2, d3] }
  | _ => none }
def StoreHostileWrongFalsely : Prop := storeHostileRow.holds Try.pinned (OpenSpec.ofChange storeHostileWrong)

/-- 'apiarylaw15.StoreBounds': WHATEVER THE INPUT: true; the input reads as it did. -/
def storeBoundsSpec : ChangeSpec := { name := "storeBounds", fn := fun _ => fun
  | [d1, d2, d3] => { results := [.lit (.bool true)], args := [d1, d2, d3] }
  | _ => none }
def storeBoundsRow : OpenClaim := { program := "ytanipieeegeheaa", sum := "583e60ed244549e785742bcb55a5df95e0271a3901306ea977ac05fc0f0d03d0", func := "apiary/apiarylaw15.StoreBounds", spec := "storeBounds", inPlace := ["slices.overlaps[apiary/api.Point]"], unfollowed := true, recurses := true, apart := false }
def StoreBoundsSaid : Prop := storeBoundsRow.holds Try.pinned (OpenSpec.ofChange storeBoundsSpec)

/-- ITS FALSE NEIGHBOUR: 'it returns false'. Refute it at one input. -/
def storeBoundsWrong : ChangeSpec := { name := "storeBounds", fn := fun _ => fun
  | [d1, d2, d3] => { results := [.lit (.bool false)], args := [d1, d2, d3] }
  | _ => none }
def StoreBoundsWrongFalsely : Prop := storeBoundsRow.holds Try.pinned (OpenSpec.ofChange storeBoundsWrong)

/-- 'apiarylaw15.StoreMarks': WHATEVER THE INPUT: true; the input reads as it did. -/
def storeMarksSpec : ChangeSpec := { name := "storeMarks", fn := fun _ => fun
  | [d1, d2] => { results := [.lit (.bool true)], args := [d1, d2] }
  | _ => none }
def storeMarksRow : OpenClaim := { program := "ytanipieeegeheaa", sum := "583e60ed244549e785742bcb55a5df95e0271a3901306ea977ac05fc0f0d03d0", func := "apiary/apiarylaw15.StoreMarks", spec := "storeMarks", inPlace := ["slices.overlaps[apiary/api.Point]"], unfollowed := true, recurses := true, apart := false }
def StoreMarksSaid : Prop := storeMarksRow.holds Try.pinned (OpenSpec.ofChange storeMarksSpec)

/-- ITS FALSE NEIGHBOUR: 'it returns false'. Refute it at one input. -/
def storeMarksWrong : ChangeSpec := { name := "storeMarks", fn := fun _ => fun
  | [d1, d2] => { results := [.lit (.bool false)], args := [d1, d2] }
  | _ => none }
def StoreMarksWrongFalsely : Prop := storeMarksRow.holds Try.pinned (OpenSpec.ofChange storeMarksWrong)

/-- 'apiarylaw15.StoreTwice': WHATEVER THE INPUT: true; the input reads as it did. -/
def storeTwiceSpec : ChangeSpec := { name := "storeTwice", fn := fun _ => fun
  | [d1, d2] => { results := [.lit (.bool true)], args := [d1, d2] }
  | _ => none }
def storeTwiceRow : OpenClaim := { program := "ytanipieeegeheaa", sum := "583e60ed244549e785742bcb55a5df95e0271a3901306ea977ac05fc0f0d03d0", func := "apiary/apiarylaw15.StoreTwice", spec := "storeTwice", inPlace := ["slices.overlaps[apiary/api.Point]"], unfollowed := true, recurses := true, apart := false }
def StoreTwiceSaid : Prop := storeTwiceRow.holds Try.pinned (OpenSpec.ofChange storeTwiceSpec)

/-- ITS FALSE NEIGHBOUR: 'it returns false'. Refute it at one input. -/
def storeTwiceWrong : ChangeSpec := { name := "storeTwice", fn := fun _ => fun
  | [d1, d2] => { results := [.lit (.bool false)], args := [d1, d2] }
  | _ => none }
def StoreTwiceWrongFalsely : Prop := storeTwiceRow.holds Try.pinned (OpenSpec.ofChange storeTwiceWrong)

/-- 'apiarylaw15.StorePlays': WHATEVER THE INPUT: true; the input reads as it did. -/
def storePlaysSpec : ChangeSpec := { name := "storePlays", fn := fun _ => fun
  | [d1, d2, d3, d4] => { results := [.lit (.bool true)], args := [d1, d2, d3, d4] }
  | _ => none }
def storePlaysRow : OpenClaim := { program := "ytanipieeegeheaa", sum := "583e60ed244549e785742bcb55a5df95e0271a3901306ea977ac05fc0f0d03d0", func := "apiary/apiarylaw15.StorePlays", spec := "storePlays", inPlace := ["slices.overlaps[apiary/api.Point]"], unfollowed := true, recurses := true, apart := false }
def StorePlaysSaid : Prop := storePlaysRow.holds Try.pinned (OpenSpec.ofChange storePlaysSpec)

/-- ITS FALSE NEIGHBOUR: 'it returns false'. Refute it at one input. -/
def storePlaysWrong : ChangeSpec := { name := "storePlays", fn := fun _ => fun
  | [d1, d2, d3, d4] => { results := [.lit (.bool false)], args := [d1, d2, d3, d4] }
  | _ => none }
def StorePlaysWrongFalsely : Prop := storePlaysRow.holds Try.pinned (OpenSpec.ofChange storePlaysWrong)

/-- 'apiarylaw15.StoreCrashes': WHATEVER THE INPUT: true; the input reads as it did. -/
def storeCrashesSpec : ChangeSpec := { name := "storeCrashes", fn := fun _ => fun
  | [d] => { results := [.lit (.bool true)], args := [d] }
  | _ => none }
def storeCrashesRow : OpenClaim := { program := "ytanipieeegeheaa", sum := "583e60ed244549e785742bcb55a5df95e0271a3901306ea977ac05fc0f0d03d0", func := "apiary/apiarylaw15.StoreCrashes", spec := "storeCrashes", inPlace := ["slices.overlaps[apiary/api.Point]"], unfollowed := true, recurses := true, apart := false }
def StoreCrashesSaid : Prop := storeCrashesRow.holds Try.pinned (OpenSpec.ofChange storeCrashesSpec)

/-- ITS FALSE NEIGHBOUR: 'it returns false'. Refute it at one input. -/
def storeCrashesWrong : ChangeSpec := { name := "storeCrashes", fn := fun _ => fun
  | [d] => { results := [.lit (.bool false)], args := [d] }
  | _ => none }
def StoreCrashesWrongFalsely : Prop := storeCrashesRow.holds Try.pinned (OpenSpec.ofChange storeCrashesWrong)

/-- 'apiarylaw15.StoreDead': WHATEVER THE INPUT: true; the input reads as it did. -/
def storeDeadSpec : ChangeSpec := { name := "storeDead", fn := fun _ => fun
  | [d1, d2] => { results := [.lit (.bool true)], args := [d1, d2] }
  | _ => none }
def storeDeadRow : OpenClaim := { program := "ytanipieeegeheaa", sum := "583e60ed244549e785742bcb55a5df95e0271a3901306ea977ac05fc0f0d03d0", func := "apiary/apiarylaw15.StoreDead", spec := "storeDead", inPlace := ["slices.overlaps[apiary/api.Point]"], unfollowed := true, recurses := true, apart := false }
def StoreDeadSaid : Prop := storeDeadRow.holds Try.pinned (OpenSpec.ofChange storeDeadSpec)

/-- ITS FALSE NEIGHBOUR: 'it returns false'. Refute it at one input. -/
def storeDeadWrong : ChangeSpec := { name := "storeDead", fn := fun _ => fun
  | [d1, d2] => { results := [.lit (.bool false)], args := [d1, d2] }
  | _ => none }
def StoreDeadWrongFalsely : Prop := storeDeadRow.holds Try.pinned (OpenSpec.ofChange storeDeadWrong)

/- THE SECOND FORM. 'bulk': how many values and letters a reading holds, each counted each time it is reached (what is shared counts as often as it is met; a slice's spare places count too). A statement '..UptoSaid' is the law's where the arguments, and the package variables that the reading takes, are together of bulk at most 1048576: NARROWER than '..Said'. Prove '..Said' where nothing that the law and all that it calls make is longer than what came in: it says more and counts as full. Else prove '..UptoSaid'. A law counts once. -/
mutual
def uptoBulk {H : Type} : DataW H → Nat
  | .lit (.string bytes) => bytes.length + 1
  | .lit _ => 1
  | .nil => 1
  | .ptr d => uptoBulk d + 1
  | .slice elems spare => uptoBulkAll elems + uptoBulkAll spare + 1
  | .agg parts => uptoBulkAll parts + 1
  | .iface _ d => uptoBulk d + 1
  | .map entries => uptoBulkEntries entries + 1
  | .held _ => 1
def uptoBulkAll {H : Type} : List (DataW H) → Nat
  | [] => 0
  | d :: r => uptoBulk d + uptoBulkAll r
def uptoBulkEntries {H : Type} : List (Lit × DataW H) → Nat
  | [] => 0
  | x :: r => uptoBulkEntry x + uptoBulkEntries r
def uptoBulkEntry {H : Type} : Lit × DataW H → Nat
  | (.string bytes, d) => bytes.length + uptoBulk d + 1
  | (_, d) => uptoBulk d + 1
 end
def uptoSmall : (H : Type) → List (DataW H) → Bool := fun _ ds => decide (uptoBulkAll ds ≤ 1048576)
def OpenSpec.upto (s : _root_.Go.ChangeSpec) : _root_.Go.OpenSpec := { _root_.Go.OpenSpec.ofChange s with cond := some uptoSmall }

/-- 'apiarylaw15.StoreForged', WHERE WHAT IT READS IS OF BULK AT MOST 1048576: true; the input reads as it did. -/
def storeForgedUptoRow : OpenClaim := { program := "ytanipieeegeheaa", sum := "583e60ed244549e785742bcb55a5df95e0271a3901306ea977ac05fc0f0d03d0", func := "apiary/apiarylaw15.StoreForged", spec := "storeForged", inPlace := ["slices.overlaps[apiary/api.Point]"], unfollowed := true, recurses := true, apart := false, narrowed := true }
def StoreForgedUptoSaid : Prop := storeForgedUptoRow.holds Try.pinned (OpenSpec.upto storeForgedSpec)

/-- 'apiarylaw15.StoreSplit', WHERE WHAT IT READS IS OF BULK AT MOST 1048576: true; the input reads as it did. -/
def storeSplitUptoRow : OpenClaim := { program := "ytanipieeegeheaa", sum := "583e60ed244549e785742bcb55a5df95e0271a3901306ea977ac05fc0f0d03d0", func := "apiary/apiarylaw15.StoreSplit", spec := "storeSplit", inPlace := ["slices.overlaps[apiary/api.Point]"], unfollowed := true, recurses := true, apart := false, narrowed := true }
def StoreSplitUptoSaid : Prop := storeSplitUptoRow.holds Try.pinned (OpenSpec.upto storeSplitSpec)

/-- 'apiarylaw15.StoreHostile', WHERE WHAT IT READS IS OF BULK AT MOST 1048576: true; the input reads as it did. -/
def storeHostileUptoRow : OpenClaim := { program := "ytanipieeegeheaa", sum := "583e60ed244549e785742bcb55a5df95e0271a3901306ea977ac05fc0f0d03d0", func := "apiary/apiarylaw15.StoreHostile", spec := "storeHostile", inPlace := ["slices.overlaps[apiary/api.Point]"], unfollowed := true, recurses := true, apart := false, narrowed := true }
def StoreHostileUptoSaid : Prop := storeHostileUptoRow.holds Try.pinned (OpenSpec.upto storeHostileSpec)

/-- 'apiarylaw15.StoreBounds', WHERE WHAT IT READS IS OF BULK AT MOST 1048576: true; the input reads as it did. -/
def storeBoundsUptoRow : OpenClaim := { program := "ytanipieeegeheaa", sum := "583e60ed244549e785742bcb55a5df95e0271a3901306ea977ac05fc0f0d03d0", func := "apiary/apiarylaw15.StoreBounds", spec := "storeBounds", inPlace := ["slices.overlaps[apiary/api.Point]"], unfollowed := true, recurses := true, apart := false, narrowed := true }
def StoreBoundsUptoSaid : Prop := storeBoundsUptoRow.holds Try.pinned (OpenSpec.upto storeBoundsSpec)

/-- 'apiarylaw15.StoreMarks', WHERE WHAT IT READS IS OF BULK AT MOST 1048576: true; the input reads as it did. -/
def storeMarksUptoRow : OpenClaim := { program := "ytanipieeegeheaa", sum := "583e60ed244549e785742bcb55a5df95e0271a3901306ea977ac05fc0f0d03d0", func := "apiary/apiarylaw15.StoreMarks", spec := "storeMarks", inPlace := ["slices.overlaps[apiary/api.Point]"], unfollowed := true, recurses := true, apart := false, narrowed := true }
def StoreMarksUptoSaid : Prop := storeMarksUptoRow.holds Try.pinned (OpenSpec.upto storeMarksSpec)

/-- 'apiarylaw15.StoreTwice', WHERE WHAT IT READS IS OF BULK AT MOST 1048576: true; the input reads as it did. -/
def storeTwiceUptoRow : OpenClaim := { program := "ytanipieeegeheaa", sum := "583e60ed244549e785742bcb55a5df95e0271a3901306ea977ac05fc0f0d03d0", func := "apiary/apiarylaw15.StoreTwice", spec := "storeTwice", inPlace := ["slices.overlaps[apiary/api.Point]"], unfollowed := true, recurses := true, apart := false, narrowed := true }
def StoreTwiceUptoSaid : Prop := storeTwiceUptoRow.holds Try.pinned (OpenSpec.upto storeTwiceSpec)

/-- 'apiarylaw15.StorePlays', WHERE WHAT IT READS IS OF BULK AT MOST 1048576: true; the input reads as it did. -/
def storePlaysUptoRow : OpenClaim := { program := "ytanipieeegeheaa", sum := "583e60ed244549e785742bcb55a5df95e0271a3901306ea977ac05fc0f0d03d0", func := "apiary/apiarylaw15.StorePlays", spec := "storePlays", inPlace := ["slices.overlaps[apiary/api.Point]"], unfollowed := true, recurses := true, apart := false, narrowed := true }
def StorePlaysUptoSaid : Prop := storePlaysUptoRow.holds Try.pinned (OpenSpec.upto storePlaysSpec)

/-- 'apiarylaw15.StoreCrashes', WHERE WHAT IT READS IS OF BULK AT MOST 1048576: true; the input reads as it did. -/
def storeCrashesUptoRow : OpenClaim := { program := "ytanipieeegeheaa", sum := "583e60ed244549e785742bcb55a5df95e0271a3901306ea977ac05fc0f0d03d0", func := "apiary/apiarylaw15.StoreCrashes", spec := "storeCrashes", inPlace := ["slices.overlaps[apiary/api.Point]"], unfollowed := true, recurses := true, apart := false, narrowed := true }
def StoreCrashesUptoSaid : Prop := storeCrashesUptoRow.holds Try.pinned (OpenSpec.upto storeCrashesSpec)

/-- 'apiarylaw15.StoreDead', WHERE WHAT IT READS IS OF BULK AT MOST 1048576: true; the input reads as it did. -/
def storeDeadUptoRow : OpenClaim := { program := "ytanipieeegeheaa", sum := "583e60ed244549e785742bcb55a5df95e0271a3901306ea977ac05fc0f0d03d0", func := "apiary/apiarylaw15.StoreDead", spec := "storeDead", inPlace := ["slices.overlaps[apiary/api.Point]"], unfollowed := true, recurses := true, apart := false, narrowed := true }
def StoreDeadUptoSaid : Prop := storeDeadUptoRow.holds Try.pinned (OpenSpec.upto storeDeadSpec)

end Rows
end Go.Proofs.Ytanipieeegeheaa
