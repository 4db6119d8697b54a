/-
  DERIVED. GIVEN WITH THE SEED: THE CARDS: each row of YticcfbeocepnpaaGreatDoorRows.lean that lists a variable, with what it lists TIED to the program's text (the seventh form; the later family's looks); each row that meets fmt, with fmt's text TOLD by the authors' own Lean function (tested against real Go, not proved from fmt's source: count such statements apart). THE CARD IS WHAT COUNTS. Prove the row's statement (the work); the ties are given (YticcfbeocepnpaaGreatDoorTie.lean); close each card by the builder's one call (the guide's Derived/Test/ToyasCard.lean, 'card_holds'). Laid BY PROGRAM, IN A SANDBOX (cutbox-door.mjs). By AI agents, Wed Nov 11 2026. No macro, syntax, notation, axiom, sorry.
-/
import Derived.Test.YticcfbeocepnpaaGreatDoorRows
import GoSem.ClaimSeven
namespace Go.Proofs.YticcfbeocepnpaaGreatDoor
namespace Rows

/-- THE TIED CARD OF 'bulletinlaw52.StatsAdd'. -/
def statsAddCard : Claim7 := { stood := { row := statsAddRow, standIns := [], harness := (true, "2b61511dbc1443444d27901aed96fe35361df261b0181c07380dd05f3a061435"), looks := true }, kinds := [], alts := [], laidByText := true, laidKinds := [.data, .pinned], laidTests := true, laidLooks := .later }
def StatsAddCardSaid : Prop := Claim7.holds Tryz.pinned (.plain (OpenSpec.ofChange statsAddSpec)) statsAddCard

/-- THE TIED CARD OF 'bulletinlaw52.StatsForget'. -/
def statsForgetCard : Claim7 := { stood := { row := statsForgetRow, standIns := [], harness := (true, "2b61511dbc1443444d27901aed96fe35361df261b0181c07380dd05f3a061435"), looks := true }, kinds := [], alts := [], laidByText := true, laidKinds := [.data, .data, .data, .data, .pinned], laidTests := true, laidLooks := .later }
def StatsForgetCardSaid : Prop := Claim7.holds Tryz.pinned (.plain (OpenSpec.ofChange statsForgetSpec)) statsForgetCard

/-- THE TIED CARD OF 'bulletinlaw52.StatsOrder'. -/
def statsOrderCard : Claim7 := { stood := { row := statsOrderRow, standIns := [], harness := (true, "2b61511dbc1443444d27901aed96fe35361df261b0181c07380dd05f3a061435"), looks := true }, kinds := [], alts := [], laidByText := true, laidKinds := [.data, .data, .data, .data, .pinned], laidTests := true, laidLooks := .later }
def StatsOrderCardSaid : Prop := Claim7.holds Tryz.pinned (.plain (OpenSpec.ofChange statsOrderSpec)) statsOrderCard

/-- THE TIED CARD OF 'bulletinlaw52.StatsMerge'. -/
def statsMergeCard : Claim7 := { stood := { row := statsMergeRow, standIns := [], harness := (true, "2b61511dbc1443444d27901aed96fe35361df261b0181c07380dd05f3a061435"), looks := true }, kinds := [], alts := [], laidByText := true, laidKinds := [.data, .data, .data, .data, .pinned], laidTests := true, laidLooks := .later }
def StatsMergeCardSaid : Prop := Claim7.holds Tryz.pinned (.plain (OpenSpec.ofChange statsMergeSpec)) statsMergeCard

/-- THE TIED CARD OF 'bulletinlaw52.StatsText'. -/
def statsTextCard : Claim7 := { stood := { row := statsTextRow, standIns := [], harness := (true, "2b61511dbc1443444d27901aed96fe35361df261b0181c07380dd05f3a061435"), looks := true }, kinds := [], alts := [], laidByText := true, laidKinds := [.data, .data, .data, .data, .sentinel, .sentinel, .pinned], laidTests := true, laidLooks := .later }
def StatsTextCardSaid : Prop := Claim7.holds Tryz.pinned (.plain (OpenSpec.ofChange statsTextSpec)) statsTextCard

/-- THE SECOND FORM's CARD OF 'bulletinlaw52.StatsAdd'. -/
def statsAddUptoCard : Claim7 := { stood := { row := statsAddUptoRow, standIns := [], harness := (true, "2b61511dbc1443444d27901aed96fe35361df261b0181c07380dd05f3a061435"), looks := true }, kinds := [], alts := [], laidByText := true, laidKinds := [.data, .pinned], laidTests := true, laidLooks := .later }
def StatsAddUptoCardSaid : Prop := Claim7.holds Tryz.pinned (.plain (OpenSpec.upto statsAddSpec)) statsAddUptoCard

/-- THE SECOND FORM's CARD OF 'bulletinlaw52.StatsForget'. -/
def statsForgetUptoCard : Claim7 := { stood := { row := statsForgetUptoRow, standIns := [], harness := (true, "2b61511dbc1443444d27901aed96fe35361df261b0181c07380dd05f3a061435"), looks := true }, kinds := [], alts := [], laidByText := true, laidKinds := [.data, .data, .data, .data, .pinned], laidTests := true, laidLooks := .later }
def StatsForgetUptoCardSaid : Prop := Claim7.holds Tryz.pinned (.plain (OpenSpec.upto statsForgetSpec)) statsForgetUptoCard

/-- THE SECOND FORM's CARD OF 'bulletinlaw52.StatsOrder'. -/
def statsOrderUptoCard : Claim7 := { stood := { row := statsOrderUptoRow, standIns := [], harness := (true, "2b61511dbc1443444d27901aed96fe35361df261b0181c07380dd05f3a061435"), looks := true }, kinds := [], alts := [], laidByText := true, laidKinds := [.data, .data, .data, .data, .pinned], laidTests := true, laidLooks := .later }
def StatsOrderUptoCardSaid : Prop := Claim7.holds Tryz.pinned (.plain (OpenSpec.upto statsOrderSpec)) statsOrderUptoCard

/-- THE SECOND FORM's CARD OF 'bulletinlaw52.StatsMerge'. -/
def statsMergeUptoCard : Claim7 := { stood := { row := statsMergeUptoRow, standIns := [], harness := (true, "2b61511dbc1443444d27901aed96fe35361df261b0181c07380dd05f3a061435"), looks := true }, kinds := [], alts := [], laidByText := true, laidKinds := [.data, .data, .data, .data, .pinned], laidTests := true, laidLooks := .later }
def StatsMergeUptoCardSaid : Prop := Claim7.holds Tryz.pinned (.plain (OpenSpec.upto statsMergeSpec)) statsMergeUptoCard

/-- THE SECOND FORM's CARD OF 'bulletinlaw52.StatsText'. -/
def statsTextUptoCard : Claim7 := { stood := { row := statsTextUptoRow, standIns := [], harness := (true, "2b61511dbc1443444d27901aed96fe35361df261b0181c07380dd05f3a061435"), looks := true }, kinds := [], alts := [], laidByText := true, laidKinds := [.data, .data, .data, .data, .sentinel, .sentinel, .pinned], laidTests := true, laidLooks := .later }
def StatsTextUptoCardSaid : Prop := Claim7.holds Tryz.pinned (.plain (OpenSpec.upto statsTextSpec)) statsTextUptoCard
end Rows
end Go.Proofs.YticcfbeocepnpaaGreatDoor
