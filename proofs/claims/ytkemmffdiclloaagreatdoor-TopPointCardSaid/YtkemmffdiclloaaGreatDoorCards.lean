/-
  DERIVED. GIVEN WITH THE SEED: THE CARDS: each row of YtkemmffdiclloaaGreatDoorRows.lean that lists a variable, with what it lists TIED to the program's text (the seventh form; the later family's looks); each row that meets fmt, with fmt's text TOLD by the authors' own Lean function (tested against real Go, not proved from fmt's source: count such statements apart). THE CARD IS WHAT COUNTS. Prove the row's statement (the work); the ties are given (YtkemmffdiclloaaGreatDoorTie.lean); close each card by the builder's one call (the guide's Derived/Test/ToyasCard.lean, 'card_holds'). Laid BY PROGRAM, IN A SANDBOX (cutbox-door.mjs). By AI agents, Wed Nov 11 2026. No macro, syntax, notation, axiom, sorry.
-/
import Derived.Test.YtkemmffdiclloaaGreatDoorRows
import GoSem.ClaimSeven
namespace Go.Proofs.YtkemmffdiclloaaGreatDoor
namespace Rows

/-- THE TIED CARD OF 'apiarytop.TopPoint'. -/
def topPointCard : Claim7 := { stood := { row := topPointRow, standIns := [], harness := (true, "6f8befd03b6f09f60fed205292214bdb478f582130fd5793e101ef5549894209"), looks := true }, kinds := [], alts := [], laidByText := true, laidKinds := [.pinned, .data, .sentinel, .sentinel, .data, .data, .data], laidTests := true, laidLooks := .later }
def TopPointCardSaid : Prop := Claim7.holds Tryz.pinned (.plain (OpenSpec.ofChange topPointSpec)) topPointCard

/-- THE TIED CARD OF 'apiarytop.TopTwin'. -/
def topTwinCard : Claim7 := { stood := { row := topTwinRow, standIns := [], harness := (true, "6f8befd03b6f09f60fed205292214bdb478f582130fd5793e101ef5549894209"), looks := true }, kinds := [], alts := [], laidByText := true, laidKinds := [.pinned, .data, .sentinel, .sentinel, .data, .data, .data], laidTests := true, laidLooks := .later }
def TopTwinCardSaid : Prop := Claim7.holds Tryz.pinned (.plain (OpenSpec.ofChange topTwinSpec)) topTwinCard

/-- THE TIED CARD OF 'apiarytop.TopHostile'. -/
def topHostileCard : Claim7 := { stood := { row := topHostileRow, standIns := [], harness := (true, "6f8befd03b6f09f60fed205292214bdb478f582130fd5793e101ef5549894209"), looks := true }, kinds := [], alts := [], laidByText := true, laidKinds := [.pinned, .data, .sentinel, .sentinel, .data, .data, .data], laidTests := true, laidLooks := .later }
def TopHostileCardSaid : Prop := Claim7.holds Tryz.pinned (.plain (OpenSpec.ofChange topHostileSpec)) topHostileCard

/-- THE SECOND FORM's CARD OF 'apiarytop.TopPoint'. -/
def topPointUptoCard : Claim7 := { stood := { row := topPointUptoRow, standIns := [], harness := (true, "6f8befd03b6f09f60fed205292214bdb478f582130fd5793e101ef5549894209"), looks := true }, kinds := [], alts := [], laidByText := true, laidKinds := [.pinned, .data, .sentinel, .sentinel, .data, .data, .data], laidTests := true, laidLooks := .later }
def TopPointUptoCardSaid : Prop := Claim7.holds Tryz.pinned (.plain (OpenSpec.upto topPointSpec)) topPointUptoCard

/-- THE SECOND FORM's CARD OF 'apiarytop.TopTwin'. -/
def topTwinUptoCard : Claim7 := { stood := { row := topTwinUptoRow, standIns := [], harness := (true, "6f8befd03b6f09f60fed205292214bdb478f582130fd5793e101ef5549894209"), looks := true }, kinds := [], alts := [], laidByText := true, laidKinds := [.pinned, .data, .sentinel, .sentinel, .data, .data, .data], laidTests := true, laidLooks := .later }
def TopTwinUptoCardSaid : Prop := Claim7.holds Tryz.pinned (.plain (OpenSpec.upto topTwinSpec)) topTwinUptoCard

/-- THE SECOND FORM's CARD OF 'apiarytop.TopHostile'. -/
def topHostileUptoCard : Claim7 := { stood := { row := topHostileUptoRow, standIns := [], harness := (true, "6f8befd03b6f09f60fed205292214bdb478f582130fd5793e101ef5549894209"), looks := true }, kinds := [], alts := [], laidByText := true, laidKinds := [.pinned, .data, .sentinel, .sentinel, .data, .data, .data], laidTests := true, laidLooks := .later }
def TopHostileUptoCardSaid : Prop := Claim7.holds Tryz.pinned (.plain (OpenSpec.upto topHostileSpec)) topHostileUptoCard
end Rows
end Go.Proofs.YtkemmffdiclloaaGreatDoor
