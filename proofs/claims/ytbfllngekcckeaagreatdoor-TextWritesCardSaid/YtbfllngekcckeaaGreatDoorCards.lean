/-
  DERIVED. GIVEN WITH THE SEED: THE CARDS: each row of YtbfllngekcckeaaGreatDoorRows.lean that lists a variable, with what it lists TIED to the program's text (the seventh form; the later family's looks); each row that meets fmt, with fmt's text TOLD by the authors' own Lean function (tested against real Go, not proved from fmt's source: count such statements apart). THE CARD IS WHAT COUNTS. Prove the row's statement (the work); the ties are given (YtbfllngekcckeaaGreatDoorTie.lean); close each card by the builder's one call (the guide's Derived/Test/ToyasCard.lean, 'card_holds'). Laid BY PROGRAM, IN A SANDBOX (cutbox-door.mjs). By AI agents, Wed Nov 11 2026. No macro, syntax, notation, axiom, sorry.
-/
import Derived.Test.YtbfllngekcckeaaGreatDoorRows
import GoSem.ClaimSeven
namespace Go.Proofs.YtbfllngekcckeaaGreatDoor
namespace Rows

/-- THE TIED CARD OF 'cobweblaw20.TextWrites'. -/
def textWritesCard : Claim7 := { stood := { row := textWritesRow, standIns := [], harness := (true, "0e1befad7892f2dfc39e4c55e304a664388d355b4d04679186449b1b1fbe60c4"), looks := true }, kinds := [], alts := [], laidByText := true, laidKinds := [.data, .data, .data, .sentinel, .sentinel], laidTests := true, laidLooks := .later }
def TextWritesCardSaid : Prop := Claim7.holds Tryz.pinned (.plain (OpenSpec.ofChange textWritesSpec)) textWritesCard

/-- THE SECOND FORM's CARD OF 'cobweblaw20.TextWrites'. -/
def textWritesUptoCard : Claim7 := { stood := { row := textWritesUptoRow, standIns := [], harness := (true, "0e1befad7892f2dfc39e4c55e304a664388d355b4d04679186449b1b1fbe60c4"), looks := true }, kinds := [], alts := [], laidByText := true, laidKinds := [.data, .data, .data, .sentinel, .sentinel], laidTests := true, laidLooks := .later }
def TextWritesUptoCardSaid : Prop := Claim7.holds Tryz.pinned (.plain (OpenSpec.upto textWritesSpec)) textWritesUptoCard
end Rows
end Go.Proofs.YtbfllngekcckeaaGreatDoor
