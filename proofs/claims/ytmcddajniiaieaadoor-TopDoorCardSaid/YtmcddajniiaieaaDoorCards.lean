/-
  DERIVED. GIVEN WITH THE SEED: THE CARDS: each row of YtmcddajniiaieaaDoorRows.lean that lists a variable, with what it lists TIED to the program's text (the seventh form; the later family's looks); each row that meets fmt, with fmt's text TOLD by the authors' own Lean function (tested against real Go, not proved from fmt's source: count such statements apart). THE CARD IS WHAT COUNTS. Prove the row's statement (the work); the ties are given (YtmcddajniiaieaaDoorTie.lean); close each card by the builder's one call (the guide's Derived/Test/ToyasCard.lean, 'card_holds'). Laid BY PROGRAM, IN A SANDBOX (cutbox-door.mjs). By AI agents, Wed Nov 11 2026. No macro, syntax, notation, axiom, sorry.
-/
import Derived.Test.YtmcddajniiaieaaDoorRows
import GoSem.ClaimSeven
namespace Go.Proofs.YtmcddajniiaieaaDoor
namespace Rows

/-- THE TIED CARD OF 'mandolinetop.TopDoor'. -/
def topDoorCard : Claim7 := { stood := { row := topDoorRow, standIns := [], harness := (true, "f43c6fa586032ae21b920859a6b003ebc672e5477da1bce1a7959dc1d1a088d2"), looks := false }, kinds := [], alts := [], laidByText := true, laidKinds := [.data, .data, .data], laidTests := true, laidLooks := .later }
def TopDoorCardSaid : Prop := Claim7.holds Tryd.pinned (.plain (OpenSpec.ofChange topDoorSpec)) topDoorCard

/-- THE SECOND FORM's CARD OF 'mandolinetop.TopDoor'. -/
def topDoorUptoCard : Claim7 := { stood := { row := topDoorUptoRow, standIns := [], harness := (true, "f43c6fa586032ae21b920859a6b003ebc672e5477da1bce1a7959dc1d1a088d2"), looks := false }, kinds := [], alts := [], laidByText := true, laidKinds := [.data, .data, .data], laidTests := true, laidLooks := .later }
def TopDoorUptoCardSaid : Prop := Claim7.holds Tryd.pinned (.plain (OpenSpec.upto topDoorSpec)) topDoorUptoCard
end Rows
end Go.Proofs.YtmcddajniiaieaaDoor
