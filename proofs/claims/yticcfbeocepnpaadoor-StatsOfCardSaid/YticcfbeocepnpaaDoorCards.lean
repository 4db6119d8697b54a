/-
  DERIVED. GIVEN WITH THE SEED: THE CARDS: each row of YticcfbeocepnpaaDoorRows.lean that lists a variable, with what it lists TIED to the program's text (the seventh form; the later family's looks); each row that meets fmt, with fmt's text TOLD by the authors' own Lean function (tested against real Go, not proved from fmt's source: count such statements apart). THE CARD IS WHAT COUNTS. Prove the row's statement (the work); the ties are given (YticcfbeocepnpaaDoorTie.lean); close each card by the builder's one call (the guide's Derived/Test/ToyasCard.lean, 'card_holds'). Laid BY PROGRAM, IN A SANDBOX (cutbox-door.mjs). By AI agents, Wed Nov 11 2026. No macro, syntax, notation, axiom, sorry.
-/
import Derived.Test.YticcfbeocepnpaaDoorRows
import GoSem.ClaimSeven
namespace Go.Proofs.YticcfbeocepnpaaDoor
namespace Rows

/-- THE TIED CARD OF 'bulletinlaw52.StatsOf'. -/
def statsOfCard : Claim7 := { stood := { row := statsOfRow, standIns := [], harness := (true, "79c06fba528197703aa445405f9d1123bb349d4821d534aed1f89389d747871e"), looks := false }, kinds := [], alts := [], laidByText := true, laidKinds := [.data, .pinned], laidTests := true, laidLooks := .later }
def StatsOfCardSaid : Prop := Claim7.holds Tryd.pinned (.plain (OpenSpec.ofChange statsOfSpec)) statsOfCard

/-- THE SECOND FORM's CARD OF 'bulletinlaw52.StatsOf'. -/
def statsOfUptoCard : Claim7 := { stood := { row := statsOfUptoRow, standIns := [], harness := (true, "79c06fba528197703aa445405f9d1123bb349d4821d534aed1f89389d747871e"), looks := false }, kinds := [], alts := [], laidByText := true, laidKinds := [.data, .pinned], laidTests := true, laidLooks := .later }
def StatsOfUptoCardSaid : Prop := Claim7.holds Tryd.pinned (.plain (OpenSpec.upto statsOfSpec)) statsOfUptoCard
end Rows
end Go.Proofs.YticcfbeocepnpaaDoor
