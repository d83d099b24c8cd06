/-
  DERIVED. GIVEN WITH THE SEED: THE CARDS: each row of YtbfllngekcckeaaDoorRows.lean that lists a variable, with what it lists TIED to the program's text (the seventh form; the later family's looks); each row that meets fmt, with fmt's text TOLD by the authors' own Lean function (tested against real Go, not proved from fmt's source: count such statements apart). THE CARD IS WHAT COUNTS. Prove the row's statement (the work); the ties are given (YtbfllngekcckeaaDoorTie.lean); close each card by the builder's one call (the guide's Derived/Test/ToyasCard.lean, 'card_holds'). Laid BY PROGRAM, IN A SANDBOX (cutbox-door.mjs). By AI agents, Wed Nov 11 2026. No macro, syntax, notation, axiom, sorry.
-/
import Derived.Test.YtbfllngekcckeaaDoorRows
import GoSem.ClaimSeven
namespace Go.Proofs.YtbfllngekcckeaaDoor
namespace Rows

/-- THE TIED CARD OF 'cobweblaw20.TextPacks'. -/
def textPacksCard : Claim7 := { stood := { row := textPacksRow, standIns := [], harness := (true, "6b46a89ce7ae7ebd414bc1b32c69a24b237819a2af46c5a237bb2efe466a1fa3"), looks := true }, kinds := [], alts := [], laidByText := true, laidKinds := [.data, .data, .data, .sentinel, .sentinel], laidTests := true, laidLooks := .later }
def TextPacksCardSaid : Prop := Claim7.holds Tryd.pinned (.plain (OpenSpec.ofChange textPacksSpec)) textPacksCard

/-- THE TIED CARD OF 'cobweblaw20.TextUnpacks'. -/
def textUnpacksCard : Claim7 := { stood := { row := textUnpacksRow, standIns := [], harness := (true, "6b46a89ce7ae7ebd414bc1b32c69a24b237819a2af46c5a237bb2efe466a1fa3"), looks := true }, kinds := [], alts := [], laidByText := true, laidKinds := [.data, .data, .data, .sentinel, .sentinel], laidTests := true, laidLooks := .later }
def TextUnpacksCardSaid : Prop := Claim7.holds Tryd.pinned (.plain (OpenSpec.ofChange textUnpacksSpec)) textUnpacksCard

/-- THE TIED CARD OF 'cobweblaw20.TextBlanks'. -/
def textBlanksCard : Claim7 := { stood := { row := textBlanksRow, standIns := [], harness := (true, "6b46a89ce7ae7ebd414bc1b32c69a24b237819a2af46c5a237bb2efe466a1fa3"), looks := true }, kinds := [], alts := [], laidByText := true, laidKinds := [.data, .data, .data, .sentinel, .sentinel], laidTests := true, laidLooks := .later }
def TextBlanksCardSaid : Prop := Claim7.holds Tryd.pinned (.plain (OpenSpec.ofChange textBlanksSpec)) textBlanksCard

/-- THE TIED CARD OF 'cobweblaw20.TextApart'. -/
def textApartCard : Claim7 := { stood := { row := textApartRow, standIns := [], harness := (true, "6b46a89ce7ae7ebd414bc1b32c69a24b237819a2af46c5a237bb2efe466a1fa3"), looks := true }, kinds := [], alts := [], laidByText := true, laidKinds := [.data, .data, .data, .sentinel, .sentinel], laidTests := true, laidLooks := .later }
def TextApartCardSaid : Prop := Claim7.holds Tryd.pinned (.plain (OpenSpec.ofChange textApartSpec)) textApartCard

/-- THE SECOND FORM's CARD OF 'cobweblaw20.TextPacks'. -/
def textPacksUptoCard : Claim7 := { stood := { row := textPacksUptoRow, standIns := [], harness := (true, "6b46a89ce7ae7ebd414bc1b32c69a24b237819a2af46c5a237bb2efe466a1fa3"), looks := true }, kinds := [], alts := [], laidByText := true, laidKinds := [.data, .data, .data, .sentinel, .sentinel], laidTests := true, laidLooks := .later }
def TextPacksUptoCardSaid : Prop := Claim7.holds Tryd.pinned (.plain (OpenSpec.upto textPacksSpec)) textPacksUptoCard

/-- THE SECOND FORM's CARD OF 'cobweblaw20.TextUnpacks'. -/
def textUnpacksUptoCard : Claim7 := { stood := { row := textUnpacksUptoRow, standIns := [], harness := (true, "6b46a89ce7ae7ebd414bc1b32c69a24b237819a2af46c5a237bb2efe466a1fa3"), looks := true }, kinds := [], alts := [], laidByText := true, laidKinds := [.data, .data, .data, .sentinel, .sentinel], laidTests := true, laidLooks := .later }
def TextUnpacksUptoCardSaid : Prop := Claim7.holds Tryd.pinned (.plain (OpenSpec.upto textUnpacksSpec)) textUnpacksUptoCard

/-- THE SECOND FORM's CARD OF 'cobweblaw20.TextBlanks'. -/
def textBlanksUptoCard : Claim7 := { stood := { row := textBlanksUptoRow, standIns := [], harness := (true, "6b46a89ce7ae7ebd414bc1b32c69a24b237819a2af46c5a237bb2efe466a1fa3"), looks := true }, kinds := [], alts := [], laidByText := true, laidKinds := [.data, .data, .data, .sentinel, .sentinel], laidTests := true, laidLooks := .later }
def TextBlanksUptoCardSaid : Prop := Claim7.holds Tryd.pinned (.plain (OpenSpec.upto textBlanksSpec)) textBlanksUptoCard

/-- THE SECOND FORM's CARD OF 'cobweblaw20.TextApart'. -/
def textApartUptoCard : Claim7 := { stood := { row := textApartUptoRow, standIns := [], harness := (true, "6b46a89ce7ae7ebd414bc1b32c69a24b237819a2af46c5a237bb2efe466a1fa3"), looks := true }, kinds := [], alts := [], laidByText := true, laidKinds := [.data, .data, .data, .sentinel, .sentinel], laidTests := true, laidLooks := .later }
def TextApartUptoCardSaid : Prop := Claim7.holds Tryd.pinned (.plain (OpenSpec.upto textApartSpec)) textApartUptoCard
end Rows
end Go.Proofs.YtbfllngekcckeaaDoor
