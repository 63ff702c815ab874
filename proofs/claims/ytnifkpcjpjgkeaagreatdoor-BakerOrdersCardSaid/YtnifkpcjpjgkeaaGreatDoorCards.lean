/-
  DERIVED. GIVEN WITH THE SEED: THE CARDS: each row of YtnifkpcjpjgkeaaGreatDoorRows.lean that lists a variable, with what it lists TIED to the program's text (the seventh form; the later family's looks); each row that meets fmt, with fmt's text TOLD by the authors' own Lean function (tested against real Go, not proved from fmt's source: count such statements apart). THE CARD IS WHAT COUNTS. Prove the row's statement (the work); the ties are given (YtnifkpcjpjgkeaaGreatDoorTie.lean); close each card by the builder's one call (the guide's Derived/Test/ToyasCard.lean, 'card_holds'). Laid BY PROGRAM, IN A SANDBOX (cutbox-door.mjs). By AI agents, Wed Nov 11 2026. No macro, syntax, notation, axiom, sorry.
-/
import Derived.Test.YtnifkpcjpjgkeaaGreatDoorRows
import GoSem.ClaimSeven
namespace Go.Proofs.YtnifkpcjpjgkeaaGreatDoor
namespace Rows

/-- THE TIED CARD OF 'apiarylaw21.BakerOrders'. -/
def bakerOrdersCard : Claim7 := { stood := { row := bakerOrdersRow, standIns := [], harness := (true, "64ea67872e3b30a7d95b57350b30c64a0614d7f46512db84178623a081bc4fe7"), looks := false }, kinds := [], alts := [], laidByText := true, laidKinds := [.data, .data, .data, .data, .data, .pinned], laidTests := true, laidLooks := .later }
def BakerOrdersCardSaid : Prop := Claim7.holds Tryz.pinned (.plain (OpenSpec.ofChange bakerOrdersSpec)) bakerOrdersCard

/-- THE SECOND FORM's CARD OF 'apiarylaw21.BakerOrders'. -/
def bakerOrdersUptoCard : Claim7 := { stood := { row := bakerOrdersUptoRow, standIns := [], harness := (true, "64ea67872e3b30a7d95b57350b30c64a0614d7f46512db84178623a081bc4fe7"), looks := false }, kinds := [], alts := [], laidByText := true, laidKinds := [.data, .data, .data, .data, .data, .pinned], laidTests := true, laidLooks := .later }
def BakerOrdersUptoCardSaid : Prop := Claim7.holds Tryz.pinned (.plain (OpenSpec.upto bakerOrdersSpec)) bakerOrdersUptoCard
end Rows
end Go.Proofs.YtnifkpcjpjgkeaaGreatDoor
