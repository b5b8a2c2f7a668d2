/-
  DERIVED. GIVEN WITH THE SEED: THE CARDS: each row of YtncokbppijnfiaaGreatDoorRows.lean that lists a variable, with what it lists TIED to the program's text (the seventh form; the later family's looks); each row that meets fmt, with fmt's text TOLD by the authors' own Lean function (tested against real Go, not proved from fmt's source: count such statements apart). THE CARD IS WHAT COUNTS. Prove the row's statement (the work); the ties are given (YtncokbppijnfiaaGreatDoorTie.lean); close each card by the builder's one call (the guide's Derived/Test/ToyasCard.lean, 'card_holds'). Laid BY PROGRAM, IN A SANDBOX (cutbox-door.mjs). By AI agents, Wed Nov 11 2026. No macro, syntax, notation, axiom, sorry.
-/
import Derived.Test.YtncokbppijnfiaaGreatDoorRows
import GoSem.ClaimSeven
namespace Go.Proofs.YtncokbppijnfiaaGreatDoor
namespace Rows

/-- THE TIED CARD OF 'mullionlaw14.KeyBack'. -/
def keyBackCard : Claim7 := { stood := { row := keyBackRow, standIns := [], harness := (true, "3ad12d1b0987d0e0a4d744bc2ad235d93dd62394d60b2463533ecdd0587baa28"), looks := true }, kinds := [], alts := [], laidByText := true, laidKinds := [.data, .data, .data, .data, .sentinel, .sentinel, .listed, .data, .data, .data, .pinned], laidTests := true, laidLooks := .later }
def KeyBackCardSaid : Prop := Claim7.holds Tryz.pinned (.plain (OpenSpec.ofChange keyBackSpec)) keyBackCard

/-- THE TIED CARD OF 'mullionlaw14.KeyPieces'. -/
def keyPiecesCard : Claim7 := { stood := { row := keyPiecesRow, standIns := [], harness := (true, "3ad12d1b0987d0e0a4d744bc2ad235d93dd62394d60b2463533ecdd0587baa28"), looks := true }, kinds := [], alts := [], laidByText := true, laidKinds := [.data, .data, .data, .data, .sentinel, .sentinel, .listed, .data, .data, .data, .pinned], laidTests := true, laidLooks := .later }
def KeyPiecesCardSaid : Prop := Claim7.holds Tryz.pinned (.plain (OpenSpec.ofChange keyPiecesSpec)) keyPiecesCard

/-- THE TIED CARD OF 'mullionlaw14.KeyBytes'. -/
def keyBytesCard : Claim7 := { stood := { row := keyBytesRow, standIns := [], harness := (true, "3ad12d1b0987d0e0a4d744bc2ad235d93dd62394d60b2463533ecdd0587baa28"), looks := true }, kinds := [], alts := [], laidByText := true, laidKinds := [.data, .data, .data, .data, .sentinel, .sentinel, .listed, .data, .data, .data, .pinned], laidTests := true, laidLooks := .later }
def KeyBytesCardSaid : Prop := Claim7.holds Tryz.pinned (.plain (OpenSpec.ofChange keyBytesSpec)) keyBytesCard

/-- THE TIED CARD OF 'mullionlaw14.KeyMouse'. -/
def keyMouseCard : Claim7 := { stood := { row := keyMouseRow, standIns := [], harness := (true, "3ad12d1b0987d0e0a4d744bc2ad235d93dd62394d60b2463533ecdd0587baa28"), looks := true }, kinds := [], alts := [], laidByText := true, laidKinds := [.data, .data, .data, .data, .sentinel, .sentinel, .listed, .data, .data, .data, .pinned], laidTests := true, laidLooks := .later }
def KeyMouseCardSaid : Prop := Claim7.holds Tryz.pinned (.plain (OpenSpec.ofChange keyMouseSpec)) keyMouseCard

/-- THE SECOND FORM's CARD OF 'mullionlaw14.KeyBack'. -/
def keyBackUptoCard : Claim7 := { stood := { row := keyBackUptoRow, standIns := [], harness := (true, "3ad12d1b0987d0e0a4d744bc2ad235d93dd62394d60b2463533ecdd0587baa28"), looks := true }, kinds := [], alts := [], laidByText := true, laidKinds := [.data, .data, .data, .data, .sentinel, .sentinel, .listed, .data, .data, .data, .pinned], laidTests := true, laidLooks := .later }
def KeyBackUptoCardSaid : Prop := Claim7.holds Tryz.pinned (.plain (OpenSpec.upto keyBackSpec)) keyBackUptoCard

/-- THE SECOND FORM's CARD OF 'mullionlaw14.KeyPieces'. -/
def keyPiecesUptoCard : Claim7 := { stood := { row := keyPiecesUptoRow, standIns := [], harness := (true, "3ad12d1b0987d0e0a4d744bc2ad235d93dd62394d60b2463533ecdd0587baa28"), looks := true }, kinds := [], alts := [], laidByText := true, laidKinds := [.data, .data, .data, .data, .sentinel, .sentinel, .listed, .data, .data, .data, .pinned], laidTests := true, laidLooks := .later }
def KeyPiecesUptoCardSaid : Prop := Claim7.holds Tryz.pinned (.plain (OpenSpec.upto keyPiecesSpec)) keyPiecesUptoCard

/-- THE SECOND FORM's CARD OF 'mullionlaw14.KeyBytes'. -/
def keyBytesUptoCard : Claim7 := { stood := { row := keyBytesUptoRow, standIns := [], harness := (true, "3ad12d1b0987d0e0a4d744bc2ad235d93dd62394d60b2463533ecdd0587baa28"), looks := true }, kinds := [], alts := [], laidByText := true, laidKinds := [.data, .data, .data, .data, .sentinel, .sentinel, .listed, .data, .data, .data, .pinned], laidTests := true, laidLooks := .later }
def KeyBytesUptoCardSaid : Prop := Claim7.holds Tryz.pinned (.plain (OpenSpec.upto keyBytesSpec)) keyBytesUptoCard

/-- THE SECOND FORM's CARD OF 'mullionlaw14.KeyMouse'. -/
def keyMouseUptoCard : Claim7 := { stood := { row := keyMouseUptoRow, standIns := [], harness := (true, "3ad12d1b0987d0e0a4d744bc2ad235d93dd62394d60b2463533ecdd0587baa28"), looks := true }, kinds := [], alts := [], laidByText := true, laidKinds := [.data, .data, .data, .data, .sentinel, .sentinel, .listed, .data, .data, .data, .pinned], laidTests := true, laidLooks := .later }
def KeyMouseUptoCardSaid : Prop := Claim7.holds Tryz.pinned (.plain (OpenSpec.upto keyMouseSpec)) keyMouseUptoCard
end Rows
end Go.Proofs.YtncokbppijnfiaaGreatDoor
