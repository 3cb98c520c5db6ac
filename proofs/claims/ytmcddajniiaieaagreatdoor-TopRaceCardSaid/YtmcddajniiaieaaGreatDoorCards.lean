/-
  DERIVED. GIVEN WITH THE SEED: THE CARDS: each row of YtmcddajniiaieaaGreatDoorRows.lean that lists a variable, with what it lists TIED to the program's text (the seventh form; the later family's looks); each row that meets fmt, with fmt's text TOLD by the authors' own Lean function (tested against real Go, not proved from fmt's source: count such statements apart). THE CARD IS WHAT COUNTS. Prove the row's statement (the work); the ties are given (YtmcddajniiaieaaGreatDoorTie.lean); close each card by the builder's one call (the guide's Derived/Test/ToyasCard.lean, 'card_holds'). Laid BY PROGRAM, IN A SANDBOX (cutbox-door.mjs). By AI agents, Wed Nov 11 2026. No macro, syntax, notation, axiom, sorry.
-/
import Derived.Test.YtmcddajniiaieaaGreatDoorRows
import GoSem.ClaimSeven
namespace Go.Proofs.YtmcddajniiaieaaGreatDoor
namespace Rows

/-- THE TIED CARD OF 'mandolinetop.TopRace'. -/
def topRaceCard : Claim7 := { stood := { row := topRaceRow, standIns := [], harness := (true, "2285915c14e4c5ee47770d73428d673cab435cd7702cfe981d9bedd3995e5ad0"), looks := false }, kinds := [], alts := [], goes := true, laidByText := true, laidKinds := [.data, .data, .data], laidTests := true, laidLooks := .later }
def TopRaceCardSaid : Prop := Claim7.holds Tryz.pinned (.plain (OpenSpec.ofChange topRaceSpec)) topRaceCard
end Rows
end Go.Proofs.YtmcddajniiaieaaGreatDoor
