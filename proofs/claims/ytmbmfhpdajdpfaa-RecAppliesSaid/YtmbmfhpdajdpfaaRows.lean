/-
  No cell of these rows narrows 'for every input' (looked for: loops, veiled, ifaces, maps, wideKeys, modest, calm, conditions, laid).
  DERIVED. THE GIVEN ROWS OF THIS SEAT. 9 by the template 'for every input the law returns true; each argument reads behind the call as it read before'; 0 by the template 'total and deterministic' (their statements: YtmbmfhpdajdpfaaTotals.lean).
  GIVEN WITH THE SEED: the statements are not yours to turn. If you find one false, say at which input.
  Laid BY PROGRAM, IN A SANDBOX (cutbox-rows.mjs): the forced cells as the released guide's own fill.sh prints them over the translation e59238d4178ae19b… (all of the seat's roots in one cut). By AI agents, Wed Nov 11 2026. No macro, syntax, notation, axiom, sorry.
-/
import Derived.Test.YtmbmfhpdajdpfaaChecked
import GoSem.Claim
import GoSem.ClaimJoined
import GoSem.ClaimMapViews
import Derived.JoinedTies
import Derived.KernelRfl
namespace Go.Proofs.Ytmbmfhpdajdpfaa
/- THE CELL 'sum', in the pinned program and in every row, IS THE sha256 OF THE DUMP (.gsa) THAT YtmbmfhpdajdpfaaProg.lean LOADS. Nothing in Lean hashes anything: it is a label: what it is worth is what the hold of that sum in a sandbox is worth. -/
noncomputable def Try.pinned : Pinned := { name := "ytmbmfhpdajdpfaa", sum := "e59238d4178ae19baafb41ca390be53c3824a00fe6cf54519482079b09452204", checked := Try.checked }
namespace Rows
def none {H : Type} : Left H := { results := [], args := [] }

/-- 'apiarylaw13.RecJoins': WHATEVER THE INPUT: true; the input reads as it did. -/
def recJoinsSpec : ChangeSpec := { name := "recJoins", fn := fun _ => fun
  | [d1, d2, d3] => { results := [.lit (.bool true)], args := [d1, d2, d3] }
  | _ => none }
def recJoinsRow : OpenClaim := { program := "ytmbmfhpdajdpfaa", sum := "e59238d4178ae19baafb41ca390be53c3824a00fe6cf54519482079b09452204", func := "apiary/apiarylaw13.RecJoins", spec := "recJoins", apart := false }
def RecJoinsSaid : Prop := recJoinsRow.holds Try.pinned (OpenSpec.ofChange recJoinsSpec)

/-- ITS FALSE NEIGHBOUR: 'it returns false'. Refute it at one input. -/
def recJoinsWrong : ChangeSpec := { name := "recJoins", fn := fun _ => fun
  | [d1, d2, d3] => { results := [.lit (.bool false)], args := [d1, d2, d3] }
  | _ => none }
def RecJoinsWrongFalsely : Prop := recJoinsRow.holds Try.pinned (OpenSpec.ofChange recJoinsWrong)

/-- 'apiarylaw13.RecScans': WHATEVER THE INPUT: true; the input reads as it did. -/
def recScansSpec : ChangeSpec := { name := "recScans", fn := fun _ => fun
  | [d1, d2, d3, d4, d5, d6, d7, d8] => { results := [.lit (.bool true)], args := [d1, d2, d3, d4, d5, d6, d7, d8] }
  | _ => none }
def recScansRow : OpenClaim := { program := "ytmbmfhpdajdpfaa", sum := "e59238d4178ae19baafb41ca390be53c3824a00fe6cf54519482079b09452204", func := "apiary/apiarylaw13.RecScans", spec := "recScans", apart := false }
def RecScansSaid : Prop := recScansRow.holds Try.pinned (OpenSpec.ofChange recScansSpec)

/-- ITS FALSE NEIGHBOUR: 'it returns false'. Refute it at one input. -/
def recScansWrong : ChangeSpec := { name := "recScans", fn := fun _ => fun
  | [d1, d2, d3, d4, d5, d6, d7, d8] => { results := [.lit (.bool false)], args := [d1, d2, d3, d4, d5, d6, d7, d8] }
  | _ => none }
def RecScansWrongFalsely : Prop := recScansRow.holds Try.pinned (OpenSpec.ofChange recScansWrong)

/-- 'apiarylaw13.RecTorn': WHATEVER THE INPUT: true; the input reads as it did. -/
def recTornSpec : ChangeSpec := { name := "recTorn", fn := fun _ => fun
  | [d1, d2, d3, d4] => { results := [.lit (.bool true)], args := [d1, d2, d3, d4] }
  | _ => none }
def recTornRow : OpenClaim := { program := "ytmbmfhpdajdpfaa", sum := "e59238d4178ae19baafb41ca390be53c3824a00fe6cf54519482079b09452204", func := "apiary/apiarylaw13.RecTorn", spec := "recTorn", apart := false }
def RecTornSaid : Prop := recTornRow.holds Try.pinned (OpenSpec.ofChange recTornSpec)

/-- ITS FALSE NEIGHBOUR: 'it returns false'. Refute it at one input. -/
def recTornWrong : ChangeSpec := { name := "recTorn", fn := fun _ => fun
  | [d1, d2, d3, d4] => { results := [.lit (.bool false)], args := [d1, d2, d3, d4] }
  | _ => none }
def RecTornWrongFalsely : Prop := recTornRow.holds Try.pinned (OpenSpec.ofChange recTornWrong)

/-- 'apiarylaw13.RecBounds': WHATEVER THE INPUT: true; the input reads as it did. -/
def recBoundsSpec : ChangeSpec := { name := "recBounds", fn := fun _ => fun
  | [d1, d2, d3] => { results := [.lit (.bool true)], args := [d1, d2, d3] }
  | _ => none }
def recBoundsRow : OpenClaim := { program := "ytmbmfhpdajdpfaa", sum := "e59238d4178ae19baafb41ca390be53c3824a00fe6cf54519482079b09452204", func := "apiary/apiarylaw13.RecBounds", spec := "recBounds", unfollowed := true, recurses := true, apart := false }
def RecBoundsSaid : Prop := recBoundsRow.holds Try.pinned (OpenSpec.ofChange recBoundsSpec)

/-- ITS FALSE NEIGHBOUR: 'it returns false'. Refute it at one input. -/
def recBoundsWrong : ChangeSpec := { name := "recBounds", fn := fun _ => fun
  | [d1, d2, d3] => { results := [.lit (.bool false)], args := [d1, d2, d3] }
  | _ => none }
def RecBoundsWrongFalsely : Prop := recBoundsRow.holds Try.pinned (OpenSpec.ofChange recBoundsWrong)

/-- 'apiarylaw13.RecBatches': WHATEVER THE INPUT: true; the input reads as it did. -/
def recBatchesSpec : ChangeSpec := { name := "recBatches", fn := fun _ => fun
  | [d1, d2, d3, d4, d5] => { results := [.lit (.bool true)], args := [d1, d2, d3, d4, d5] }
  | _ => none }
def recBatchesRow : OpenClaim := { program := "ytmbmfhpdajdpfaa", sum := "e59238d4178ae19baafb41ca390be53c3824a00fe6cf54519482079b09452204", func := "apiary/apiarylaw13.RecBatches", spec := "recBatches", unfollowed := true, recurses := true, apart := false }
def RecBatchesSaid : Prop := recBatchesRow.holds Try.pinned (OpenSpec.ofChange recBatchesSpec)

/-- ITS FALSE NEIGHBOUR: 'it returns false'. Refute it at one input. -/
def recBatchesWrong : ChangeSpec := { name := "recBatches", fn := fun _ => fun
  | [d1, d2, d3, d4, d5] => { results := [.lit (.bool false)], args := [d1, d2, d3, d4, d5] }
  | _ => none }
def RecBatchesWrongFalsely : Prop := recBatchesRow.holds Try.pinned (OpenSpec.ofChange recBatchesWrong)

/-- 'apiarylaw13.RecSplit': WHATEVER THE INPUT: true; the input reads as it did. -/
def recSplitSpec : ChangeSpec := { name := "recSplit", fn := fun _ => fun
  | [d1, d2, d3] => { results := [.lit (.bool true)], args := [d1, d2, d3] }
  | _ => none }
def recSplitRow : OpenClaim := { program := "ytmbmfhpdajdpfaa", sum := "e59238d4178ae19baafb41ca390be53c3824a00fe6cf54519482079b09452204", func := "apiary/apiarylaw13.RecSplit", spec := "recSplit", inPlace := ["slices.overlaps[apiary/api.Point]"], unfollowed := true, recurses := true, apart := false }
def RecSplitSaid : Prop := recSplitRow.holds Try.pinned (OpenSpec.ofChange recSplitSpec)

/-- ITS FALSE NEIGHBOUR: 'it returns false'. Refute it at one input. -/
def recSplitWrong : ChangeSpec := { name := "recSplit", fn := fun _ => fun
  | [d1, d2, d3] => { results := [.lit (.bool false)], args := [d1, d2, d3] }
  | _ => none }
def RecSplitWrongFalsely : Prop := recSplitRow.holds Try.pinned (OpenSpec.ofChange recSplitWrong)

/-- 'apiarylaw13.RecOrder': WHATEVER THE INPUT: true; the input reads as it did. -/
def recOrderSpec : ChangeSpec := { name := "recOrder", fn := fun _ => fun
  | [d1, d2] => { results := [.lit (.bool true)], args := [d1, d2] }
  | _ => none }
def recOrderRow : OpenClaim := { program := "ytmbmfhpdajdpfaa", sum := "e59238d4178ae19baafb41ca390be53c3824a00fe6cf54519482079b09452204", func := "apiary/apiarylaw13.RecOrder", spec := "recOrder", inPlace := ["slices.overlaps[apiary/api.Point]"], unfollowed := true, recurses := true, apart := false }
def RecOrderSaid : Prop := recOrderRow.holds Try.pinned (OpenSpec.ofChange recOrderSpec)

/-- ITS FALSE NEIGHBOUR: 'it returns false'. Refute it at one input. -/
def recOrderWrong : ChangeSpec := { name := "recOrder", fn := fun _ => fun
  | [d1, d2] => { results := [.lit (.bool false)], args := [d1, d2] }
  | _ => none }
def RecOrderWrongFalsely : Prop := recOrderRow.holds Try.pinned (OpenSpec.ofChange recOrderWrong)

/-- 'apiarylaw13.RecPoints': WHATEVER THE INPUT: true; the input reads as it did. -/
def recPointsSpec : ChangeSpec := { name := "recPoints", fn := fun _ => fun
  | [d] => { results := [.lit (.bool true)], args := [d] }
  | _ => none }
def recPointsRow : OpenClaim := { program := "ytmbmfhpdajdpfaa", sum := "e59238d4178ae19baafb41ca390be53c3824a00fe6cf54519482079b09452204", func := "apiary/apiarylaw13.RecPoints", spec := "recPoints", inPlace := ["slices.overlaps[apiary/api.Point]"], unfollowed := true, recurses := true, apart := false }
def RecPointsSaid : Prop := recPointsRow.holds Try.pinned (OpenSpec.ofChange recPointsSpec)

/-- ITS FALSE NEIGHBOUR: 'it returns false'. Refute it at one input. -/
def recPointsWrong : ChangeSpec := { name := "recPoints", fn := fun _ => fun
  | [d] => { results := [.lit (.bool false)], args := [d] }
  | _ => none }
def RecPointsWrongFalsely : Prop := recPointsRow.holds Try.pinned (OpenSpec.ofChange recPointsWrong)

/-- 'apiarylaw13.RecApplies': WHATEVER THE INPUT: true; the input reads as it did. -/
def recAppliesSpec : ChangeSpec := { name := "recApplies", fn := fun _ => fun
  | [d1, d2, d3, d4] => { results := [.lit (.bool true)], args := [d1, d2, d3, d4] }
  | _ => none }
def recAppliesRow : OpenClaim := { program := "ytmbmfhpdajdpfaa", sum := "e59238d4178ae19baafb41ca390be53c3824a00fe6cf54519482079b09452204", func := "apiary/apiarylaw13.RecApplies", spec := "recApplies", inPlace := ["slices.overlaps[apiary/api.Point]"], unfollowed := true, recurses := true, apart := false }
def RecAppliesSaid : Prop := recAppliesRow.holds Try.pinned (OpenSpec.ofChange recAppliesSpec)

/-- ITS FALSE NEIGHBOUR: 'it returns false'. Refute it at one input. -/
def recAppliesWrong : ChangeSpec := { name := "recApplies", fn := fun _ => fun
  | [d1, d2, d3, d4] => { results := [.lit (.bool false)], args := [d1, d2, d3, d4] }
  | _ => none }
def RecAppliesWrongFalsely : Prop := recAppliesRow.holds Try.pinned (OpenSpec.ofChange recAppliesWrong)

/- THE SECOND FORM. 'bulk': how many values and letters a reading holds, each counted each time it is reached (what is shared counts as often as it is met; a slice's spare places count too). A statement '..UptoSaid' is the law's where the arguments, and the package variables that the reading takes, are together of bulk at most 1048576: NARROWER than '..Said'. Prove '..Said' where nothing that the law and all that it calls make is longer than what came in: it says more and counts as full. Else prove '..UptoSaid'. A law counts once. -/
mutual
def uptoBulk {H : Type} : DataW H → Nat
  | .lit (.string bytes) => bytes.length + 1
  | .lit _ => 1
  | .nil => 1
  | .ptr d => uptoBulk d + 1
  | .slice elems spare => uptoBulkAll elems + uptoBulkAll spare + 1
  | .agg parts => uptoBulkAll parts + 1
  | .iface _ d => uptoBulk d + 1
  | .map entries => uptoBulkEntries entries + 1
  | .held _ => 1
def uptoBulkAll {H : Type} : List (DataW H) → Nat
  | [] => 0
  | d :: r => uptoBulk d + uptoBulkAll r
def uptoBulkEntries {H : Type} : List (Lit × DataW H) → Nat
  | [] => 0
  | x :: r => uptoBulkEntry x + uptoBulkEntries r
def uptoBulkEntry {H : Type} : Lit × DataW H → Nat
  | (.string bytes, d) => bytes.length + uptoBulk d + 1
  | (_, d) => uptoBulk d + 1
 end
def uptoSmall : (H : Type) → List (DataW H) → Bool := fun _ ds => decide (uptoBulkAll ds ≤ 1048576)
def OpenSpec.upto (s : _root_.Go.ChangeSpec) : _root_.Go.OpenSpec := { _root_.Go.OpenSpec.ofChange s with cond := some uptoSmall }

/-- 'apiarylaw13.RecJoins', WHERE WHAT IT READS IS OF BULK AT MOST 1048576: true; the input reads as it did. -/
def recJoinsUptoRow : OpenClaim := { program := "ytmbmfhpdajdpfaa", sum := "e59238d4178ae19baafb41ca390be53c3824a00fe6cf54519482079b09452204", func := "apiary/apiarylaw13.RecJoins", spec := "recJoins", apart := false, narrowed := true }
def RecJoinsUptoSaid : Prop := recJoinsUptoRow.holds Try.pinned (OpenSpec.upto recJoinsSpec)

/-- 'apiarylaw13.RecScans', WHERE WHAT IT READS IS OF BULK AT MOST 1048576: true; the input reads as it did. -/
def recScansUptoRow : OpenClaim := { program := "ytmbmfhpdajdpfaa", sum := "e59238d4178ae19baafb41ca390be53c3824a00fe6cf54519482079b09452204", func := "apiary/apiarylaw13.RecScans", spec := "recScans", apart := false, narrowed := true }
def RecScansUptoSaid : Prop := recScansUptoRow.holds Try.pinned (OpenSpec.upto recScansSpec)

/-- 'apiarylaw13.RecTorn', WHERE WHAT IT READS IS OF BULK AT MOST 1048576: true; the input reads as it did. -/
def recTornUptoRow : OpenClaim := { program := "ytmbmfhpdajdpfaa", sum := "e59238d4178ae19baafb41ca390be53c3824a00fe6cf54519482079b09452204", func := "apiary/apiarylaw13.RecTorn", spec := "recTorn", apart := false, narrowed := true }
def RecTornUptoSaid : Prop := recTornUptoRow.holds Try.pinned (OpenSpec.upto recTornSpec)

/-- 'apiarylaw13.RecBounds', WHERE WHAT IT READS IS OF BULK AT MOST 1048576: true; the input reads as it did. -/
def recBoundsUptoRow : OpenClaim := { program := "ytmbmfhpdajdpfaa", sum := "e59238d4178ae19baafb41ca390be53c3824a00fe6cf54519482079b09452204", func := "apiary/apiarylaw13.RecBounds", spec := "recBounds", unfollowed := true, recurses := true, apart := false, narrowed := true }
def RecBoundsUptoSaid : Prop := recBoundsUptoRow.holds Try.pinned (OpenSpec.upto recBoundsSpec)

/-- 'apiarylaw13.RecBatches', WHERE WHAT IT READS IS OF BULK AT MOST 1048576: true; the input reads as it did. -/
def recBatchesUptoRow : OpenClaim := { program := "ytmbmfhpdajdpfaa", sum := "e59238d4178ae19baafb41ca390be53c3824a00fe6cf54519482079b09452204", func := "apiary/apiarylaw13.RecBatches", spec := "recBatches", unfollowed := true, recurses := true, apart := false, narrowed := true }
def RecBatchesUptoSaid : Prop := recBatchesUptoRow.holds Try.pinned (OpenSpec.upto recBatchesSpec)

/-- 'apiarylaw13.RecSplit', WHERE WHAT IT READS IS OF BULK AT MOST 1048576: true; the input reads as it did. -/
def recSplitUptoRow : OpenClaim := { program := "ytmbmfhpdajdpfaa", sum := "e59238d4178ae19baafb41ca390be53c3824a00fe6cf54519482079b09452204", func := "apiary/apiarylaw13.RecSplit", spec := "recSplit", inPlace := ["slices.overlaps[apiary/api.Point]"], unfollowed := true, recurses := true, apart := false, narrowed := true }
def RecSplitUptoSaid : Prop := recSplitUptoRow.holds Try.pinned (OpenSpec.upto recSplitSpec)

/-- 'apiarylaw13.RecOrder', WHERE WHAT IT READS IS OF BULK AT MOST 1048576: true; the input reads as it did. -/
def recOrderUptoRow : OpenClaim := { program := "ytmbmfhpdajdpfaa", sum := "e59238d4178ae19baafb41ca390be53c3824a00fe6cf54519482079b09452204", func := "apiary/apiarylaw13.RecOrder", spec := "recOrder", inPlace := ["slices.overlaps[apiary/api.Point]"], unfollowed := true, recurses := true, apart := false, narrowed := true }
def RecOrderUptoSaid : Prop := recOrderUptoRow.holds Try.pinned (OpenSpec.upto recOrderSpec)

/-- 'apiarylaw13.RecPoints', WHERE WHAT IT READS IS OF BULK AT MOST 1048576: true; the input reads as it did. -/
def recPointsUptoRow : OpenClaim := { program := "ytmbmfhpdajdpfaa", sum := "e59238d4178ae19baafb41ca390be53c3824a00fe6cf54519482079b09452204", func := "apiary/apiarylaw13.RecPoints", spec := "recPoints", inPlace := ["slices.overlaps[apiary/api.Point]"], unfollowed := true, recurses := true, apart := false, narrowed := true }
def RecPointsUptoSaid : Prop := recPointsUptoRow.holds Try.pinned (OpenSpec.upto recPointsSpec)

/-- 'apiarylaw13.RecApplies', WHERE WHAT IT READS IS OF BULK AT MOST 1048576: true; the input reads as it did. -/
def recAppliesUptoRow : OpenClaim := { program := "ytmbmfhpdajdpfaa", sum := "e59238d4178ae19baafb41ca390be53c3824a00fe6cf54519482079b09452204", func := "apiary/apiarylaw13.RecApplies", spec := "recApplies", inPlace := ["slices.overlaps[apiary/api.Point]"], unfollowed := true, recurses := true, apart := false, narrowed := true }
def RecAppliesUptoSaid : Prop := recAppliesUptoRow.holds Try.pinned (OpenSpec.upto recAppliesSpec)

end Rows
end Go.Proofs.Ytmbmfhpdajdpfaa
