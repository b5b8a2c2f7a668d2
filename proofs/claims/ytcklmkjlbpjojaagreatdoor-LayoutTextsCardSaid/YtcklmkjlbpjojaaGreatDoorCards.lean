/-
  DERIVED. GIVEN WITH THE SEED: THE CARDS: each row of YtcklmkjlbpjojaaGreatDoorRows.lean that lists a variable, with what it lists TIED to the program's text (the seventh form; the later family's looks); each row that meets fmt, with fmt's text TOLD by the authors' own Lean function (tested against real Go, not proved from fmt's source: count such statements apart). THE CARD IS WHAT COUNTS. Prove the row's statement (the work); the ties are given (YtcklmkjlbpjojaaGreatDoorTie.lean); close each card by the builder's one call (the guide's Derived/Test/ToyasCard.lean, 'card_holds'). Laid BY PROGRAM, IN A SANDBOX (cutbox-door.mjs). By AI agents, Wed Nov 11 2026. No macro, syntax, notation, axiom, sorry.
-/
import Derived.Test.YtcklmkjlbpjojaaGreatDoorRows
import GoSem.ClaimSeven
namespace Go.Proofs.YtcklmkjlbpjojaaGreatDoor
namespace Rows

/-- THE TIED CARD OF 'mullionlaw7.LayoutTexts'. -/
def layoutTextsCard : Claim7 := { stood := { row := layoutTextsRow, standIns := [], harness := (true, "362f20db8dea213a8f7e231c8349889d7cfd16f41ca0ba55cedced0024ef6cad"), looks := false }, kinds := [], alts := [], laidByText := true, laidKinds := [.data, .data, .data, .data, .pinned], laidTests := true, laidLooks := .later }
def LayoutTextsCardSaid : Prop := Claim7.holds Tryz.pinned (.plain (OpenSpec.ofChange layoutTextsSpec)) layoutTextsCard

/-- THE TIED CARD OF 'mullionlaw7.LayoutPlays'. -/
def layoutPlaysCard : Claim7 := { stood := { row := layoutPlaysRow, standIns := [], harness := (true, "362f20db8dea213a8f7e231c8349889d7cfd16f41ca0ba55cedced0024ef6cad"), looks := false }, kinds := [], alts := [], laidByText := true, laidKinds := [.data, .data, .data, .data, .pinned], laidTests := true, laidLooks := .later }
def LayoutPlaysCardSaid : Prop := Claim7.holds Tryz.pinned (.plain (OpenSpec.ofChange layoutPlaysSpec)) layoutPlaysCard

/-- THE SECOND FORM's CARD OF 'mullionlaw7.LayoutTexts'. -/
def layoutTextsUptoCard : Claim7 := { stood := { row := layoutTextsUptoRow, standIns := [], harness := (true, "362f20db8dea213a8f7e231c8349889d7cfd16f41ca0ba55cedced0024ef6cad"), looks := false }, kinds := [], alts := [], laidByText := true, laidKinds := [.data, .data, .data, .data, .pinned], laidTests := true, laidLooks := .later }
def LayoutTextsUptoCardSaid : Prop := Claim7.holds Tryz.pinned (.plain (OpenSpec.upto layoutTextsSpec)) layoutTextsUptoCard

/-- THE SECOND FORM's CARD OF 'mullionlaw7.LayoutPlays'. -/
def layoutPlaysUptoCard : Claim7 := { stood := { row := layoutPlaysUptoRow, standIns := [], harness := (true, "362f20db8dea213a8f7e231c8349889d7cfd16f41ca0ba55cedced0024ef6cad"), looks := false }, kinds := [], alts := [], laidByText := true, laidKinds := [.data, .data, .data, .data, .pinned], laidTests := true, laidLooks := .later }
def LayoutPlaysUptoCardSaid : Prop := Claim7.holds Tryz.pinned (.plain (OpenSpec.upto layoutPlaysSpec)) layoutPlaysUptoCard
end Rows
end Go.Proofs.YtcklmkjlbpjojaaGreatDoor
