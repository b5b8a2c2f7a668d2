/-
  DERIVED. GIVEN WITH THE SEED: THE CARDS: each row of YtcklmkjlbpjojaaDoorRows.lean that lists a variable, with what it lists TIED to the program's text (the seventh form; the later family's looks); each row that meets fmt, with fmt's text TOLD by the authors' own Lean function (tested against real Go, not proved from fmt's source: count such statements apart). THE CARD IS WHAT COUNTS. Prove the row's statement (the work); the ties are given (YtcklmkjlbpjojaaDoorTie.lean); close each card by the builder's one call (the guide's Derived/Test/ToyasCard.lean, 'card_holds'). Laid BY PROGRAM, IN A SANDBOX (cutbox-door.mjs). By AI agents, Wed Nov 11 2026. No macro, syntax, notation, axiom, sorry.
-/
import Derived.Test.YtcklmkjlbpjojaaDoorRows
import GoSem.ClaimSeven
namespace Go.Proofs.YtcklmkjlbpjojaaDoor
namespace Rows

/-- THE TIED CARD OF 'mullionlaw7.LayoutUndoes'. -/
def layoutUndoesCard : Claim7 := { stood := { row := layoutUndoesRow, standIns := [], harness := (true, "843b98cbe79c5d9f9e5273c3a80a6411405d5c264776e7e571da4ba84a147305"), looks := false }, kinds := [], alts := [], laidByText := true, laidKinds := [.data, .data, .data], laidTests := true, laidLooks := .later }
def LayoutUndoesCardSaid : Prop := Claim7.holds Tryd.pinned (.plain (OpenSpec.ofChange layoutUndoesSpec)) layoutUndoesCard

/-- THE TIED CARD OF 'mullionlaw7.LayoutNeighbours'. -/
def layoutNeighboursCard : Claim7 := { stood := { row := layoutNeighboursRow, standIns := [], harness := (true, "843b98cbe79c5d9f9e5273c3a80a6411405d5c264776e7e571da4ba84a147305"), looks := false }, kinds := [], alts := [], laidByText := true, laidKinds := [.data, .data, .data], laidTests := true, laidLooks := .later }
def LayoutNeighboursCardSaid : Prop := Claim7.holds Tryd.pinned (.plain (OpenSpec.ofChange layoutNeighboursSpec)) layoutNeighboursCard

/-- THE TIED CARD OF 'mullionlaw7.LayoutTiles'. -/
def layoutTilesCard : Claim7 := { stood := { row := layoutTilesRow, standIns := [], harness := (true, "843b98cbe79c5d9f9e5273c3a80a6411405d5c264776e7e571da4ba84a147305"), looks := false }, kinds := [], alts := [], laidByText := true, laidKinds := [.data, .data, .data], laidTests := true, laidLooks := .later }
def LayoutTilesCardSaid : Prop := Claim7.holds Tryd.pinned (.plain (OpenSpec.ofChange layoutTilesSpec)) layoutTilesCard

/-- THE TIED CARD OF 'mullionlaw7.LayoutBack'. -/
def layoutBackCard : Claim7 := { stood := { row := layoutBackRow, standIns := [], harness := (true, "843b98cbe79c5d9f9e5273c3a80a6411405d5c264776e7e571da4ba84a147305"), looks := false }, kinds := [], alts := [], laidByText := true, laidKinds := [.data, .data, .data, .data, .pinned], laidTests := true, laidLooks := .later }
def LayoutBackCardSaid : Prop := Claim7.holds Tryd.pinned (.plain (OpenSpec.ofChange layoutBackSpec)) layoutBackCard

/-- THE SECOND FORM's CARD OF 'mullionlaw7.LayoutUndoes'. -/
def layoutUndoesUptoCard : Claim7 := { stood := { row := layoutUndoesUptoRow, standIns := [], harness := (true, "843b98cbe79c5d9f9e5273c3a80a6411405d5c264776e7e571da4ba84a147305"), looks := false }, kinds := [], alts := [], laidByText := true, laidKinds := [.data, .data, .data], laidTests := true, laidLooks := .later }
def LayoutUndoesUptoCardSaid : Prop := Claim7.holds Tryd.pinned (.plain (OpenSpec.upto layoutUndoesSpec)) layoutUndoesUptoCard

/-- THE SECOND FORM's CARD OF 'mullionlaw7.LayoutNeighbours'. -/
def layoutNeighboursUptoCard : Claim7 := { stood := { row := layoutNeighboursUptoRow, standIns := [], harness := (true, "843b98cbe79c5d9f9e5273c3a80a6411405d5c264776e7e571da4ba84a147305"), looks := false }, kinds := [], alts := [], laidByText := true, laidKinds := [.data, .data, .data], laidTests := true, laidLooks := .later }
def LayoutNeighboursUptoCardSaid : Prop := Claim7.holds Tryd.pinned (.plain (OpenSpec.upto layoutNeighboursSpec)) layoutNeighboursUptoCard

/-- THE SECOND FORM's CARD OF 'mullionlaw7.LayoutTiles'. -/
def layoutTilesUptoCard : Claim7 := { stood := { row := layoutTilesUptoRow, standIns := [], harness := (true, "843b98cbe79c5d9f9e5273c3a80a6411405d5c264776e7e571da4ba84a147305"), looks := false }, kinds := [], alts := [], laidByText := true, laidKinds := [.data, .data, .data], laidTests := true, laidLooks := .later }
def LayoutTilesUptoCardSaid : Prop := Claim7.holds Tryd.pinned (.plain (OpenSpec.upto layoutTilesSpec)) layoutTilesUptoCard

/-- THE SECOND FORM's CARD OF 'mullionlaw7.LayoutBack'. -/
def layoutBackUptoCard : Claim7 := { stood := { row := layoutBackUptoRow, standIns := [], harness := (true, "843b98cbe79c5d9f9e5273c3a80a6411405d5c264776e7e571da4ba84a147305"), looks := false }, kinds := [], alts := [], laidByText := true, laidKinds := [.data, .data, .data, .data, .pinned], laidTests := true, laidLooks := .later }
def LayoutBackUptoCardSaid : Prop := Claim7.holds Tryd.pinned (.plain (OpenSpec.upto layoutBackSpec)) layoutBackUptoCard
end Rows
end Go.Proofs.YtcklmkjlbpjojaaDoor
