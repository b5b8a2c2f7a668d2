/-
  DERIVED. GIVEN WITH THE SEED: THE CARDS: each row of YtfhdfhlabkeipaaGreatDoorRows.lean that lists a variable, with what it lists TIED to the program's text (the seventh form; the later family's looks); each row that meets fmt, with fmt's text TOLD by the authors' own Lean function (tested against real Go, not proved from fmt's source: count such statements apart). THE CARD IS WHAT COUNTS. Prove the row's statement (the work); the ties are given (YtfhdfhlabkeipaaGreatDoorTie.lean); close each card by the builder's one call (the guide's Derived/Test/ToyasCard.lean, 'card_holds'). Laid BY PROGRAM, IN A SANDBOX (cutbox-door.mjs). By AI agents, Wed Nov 11 2026. No macro, syntax, notation, axiom, sorry.
-/
import Derived.Test.YtfhdfhlabkeipaaGreatDoorRows
import GoSem.ClaimSeven
namespace Go.Proofs.YtfhdfhlabkeipaaGreatDoor
namespace Rows

/-- THE TIED CARD OF 'mullionlaw10.FormatWays'. -/
def formatWaysCard : Claim7 := { stood := { row := formatWaysRow, standIns := [], harness := (true, "890a01136f6432784e4917fde0d8801bdadcce371cd41ec92f2e1ca8edc740da"), looks := true }, kinds := [], alts := [], laidByText := true, laidKinds := [.data, .data, .widerDeep, .widerDeep, .data, .data, .data, .data, .data, .data, .sentinel, .sentinel, .pinned, .pinned, .pinned], laidTests := true, laidLooks := .later }
def FormatWaysCardSaid : Prop := Claim7.holds Tryz.pinned (.plain (OpenSpec.ofChange formatWaysSpec)) formatWaysCard

/-- THE TIED CARD OF 'mullionlaw10.FormatStars'. -/
def formatStarsCard : Claim7 := { stood := { row := formatStarsRow, standIns := [], harness := (true, "890a01136f6432784e4917fde0d8801bdadcce371cd41ec92f2e1ca8edc740da"), looks := true }, kinds := [], alts := [], laidByText := true, laidKinds := [.data, .data, .widerDeep, .widerDeep, .data, .data, .data, .data, .data, .data, .sentinel, .sentinel, .pinned, .pinned, .pinned], laidTests := true, laidLooks := .later }
def FormatStarsCardSaid : Prop := Claim7.holds Tryz.pinned (.plain (OpenSpec.ofChange formatStarsSpec)) formatStarsCard

/-- THE TIED CARD OF 'mullionlaw10.FormatMatches'. -/
def formatMatchesCard : Claim7 := { stood := { row := formatMatchesRow, standIns := [], harness := (true, "890a01136f6432784e4917fde0d8801bdadcce371cd41ec92f2e1ca8edc740da"), looks := true }, kinds := [], alts := [], laidByText := true, laidKinds := [.data, .data, .widerDeep, .widerDeep, .data, .data, .data, .data, .data, .data, .sentinel, .sentinel, .pinned, .pinned, .pinned], laidTests := true, laidLooks := .later }
def FormatMatchesCardSaid : Prop := Claim7.holds Tryz.pinned (.plain (OpenSpec.ofChange formatMatchesSpec)) formatMatchesCard

/-- THE TIED CARD OF 'mullionlaw10.FormatBounds'. -/
def formatBoundsCard : Claim7 := { stood := { row := formatBoundsRow, standIns := [], harness := (true, "890a01136f6432784e4917fde0d8801bdadcce371cd41ec92f2e1ca8edc740da"), looks := true }, kinds := [], alts := [], laidByText := true, laidKinds := [.data, .data, .widerDeep, .widerDeep, .data, .data, .data, .data, .data, .data, .sentinel, .sentinel, .pinned, .pinned, .pinned], laidTests := true, laidLooks := .later }
def FormatBoundsCardSaid : Prop := Claim7.holds Tryz.pinned (.plain (OpenSpec.ofChange formatBoundsSpec)) formatBoundsCard

/-- THE TIED CARD OF 'mullionlaw10.FormatPlain'. -/
def formatPlainCard : Claim7 := { stood := { row := formatPlainRow, standIns := [], harness := (true, "890a01136f6432784e4917fde0d8801bdadcce371cd41ec92f2e1ca8edc740da"), looks := true }, kinds := [], alts := [], laidByText := true, laidKinds := [.data, .data, .widerDeep, .widerDeep, .data, .data, .data, .data, .data, .data, .sentinel, .sentinel, .pinned, .pinned, .pinned], laidTests := true, laidLooks := .later }
def FormatPlainCardSaid : Prop := Claim7.holds Tryz.pinned (.plain (OpenSpec.ofChange formatPlainSpec)) formatPlainCard

/-- THE TIED CARD OF 'mullionlaw10.FormatPieces'. -/
def formatPiecesCard : Claim7 := { stood := { row := formatPiecesRow, standIns := [], harness := (true, "890a01136f6432784e4917fde0d8801bdadcce371cd41ec92f2e1ca8edc740da"), looks := true }, kinds := [], alts := [], laidByText := true, laidKinds := [.data, .data, .widerDeep, .widerDeep, .data, .data, .data, .data, .data, .data, .sentinel, .sentinel, .pinned, .pinned, .pinned], laidTests := true, laidLooks := .later }
def FormatPiecesCardSaid : Prop := Claim7.holds Tryz.pinned (.plain (OpenSpec.ofChange formatPiecesSpec)) formatPiecesCard

/-- THE SECOND FORM's CARD OF 'mullionlaw10.FormatWays'. -/
def formatWaysUptoCard : Claim7 := { stood := { row := formatWaysUptoRow, standIns := [], harness := (true, "890a01136f6432784e4917fde0d8801bdadcce371cd41ec92f2e1ca8edc740da"), looks := true }, kinds := [], alts := [], laidByText := true, laidKinds := [.data, .data, .widerDeep, .widerDeep, .data, .data, .data, .data, .data, .data, .sentinel, .sentinel, .pinned, .pinned, .pinned], laidTests := true, laidLooks := .later }
def FormatWaysUptoCardSaid : Prop := Claim7.holds Tryz.pinned (.plain (OpenSpec.upto formatWaysSpec)) formatWaysUptoCard

/-- THE SECOND FORM's CARD OF 'mullionlaw10.FormatStars'. -/
def formatStarsUptoCard : Claim7 := { stood := { row := formatStarsUptoRow, standIns := [], harness := (true, "890a01136f6432784e4917fde0d8801bdadcce371cd41ec92f2e1ca8edc740da"), looks := true }, kinds := [], alts := [], laidByText := true, laidKinds := [.data, .data, .widerDeep, .widerDeep, .data, .data, .data, .data, .data, .data, .sentinel, .sentinel, .pinned, .pinned, .pinned], laidTests := true, laidLooks := .later }
def FormatStarsUptoCardSaid : Prop := Claim7.holds Tryz.pinned (.plain (OpenSpec.upto formatStarsSpec)) formatStarsUptoCard

/-- THE SECOND FORM's CARD OF 'mullionlaw10.FormatMatches'. -/
def formatMatchesUptoCard : Claim7 := { stood := { row := formatMatchesUptoRow, standIns := [], harness := (true, "890a01136f6432784e4917fde0d8801bdadcce371cd41ec92f2e1ca8edc740da"), looks := true }, kinds := [], alts := [], laidByText := true, laidKinds := [.data, .data, .widerDeep, .widerDeep, .data, .data, .data, .data, .data, .data, .sentinel, .sentinel, .pinned, .pinned, .pinned], laidTests := true, laidLooks := .later }
def FormatMatchesUptoCardSaid : Prop := Claim7.holds Tryz.pinned (.plain (OpenSpec.upto formatMatchesSpec)) formatMatchesUptoCard

/-- THE SECOND FORM's CARD OF 'mullionlaw10.FormatBounds'. -/
def formatBoundsUptoCard : Claim7 := { stood := { row := formatBoundsUptoRow, standIns := [], harness := (true, "890a01136f6432784e4917fde0d8801bdadcce371cd41ec92f2e1ca8edc740da"), looks := true }, kinds := [], alts := [], laidByText := true, laidKinds := [.data, .data, .widerDeep, .widerDeep, .data, .data, .data, .data, .data, .data, .sentinel, .sentinel, .pinned, .pinned, .pinned], laidTests := true, laidLooks := .later }
def FormatBoundsUptoCardSaid : Prop := Claim7.holds Tryz.pinned (.plain (OpenSpec.upto formatBoundsSpec)) formatBoundsUptoCard

/-- THE SECOND FORM's CARD OF 'mullionlaw10.FormatPlain'. -/
def formatPlainUptoCard : Claim7 := { stood := { row := formatPlainUptoRow, standIns := [], harness := (true, "890a01136f6432784e4917fde0d8801bdadcce371cd41ec92f2e1ca8edc740da"), looks := true }, kinds := [], alts := [], laidByText := true, laidKinds := [.data, .data, .widerDeep, .widerDeep, .data, .data, .data, .data, .data, .data, .sentinel, .sentinel, .pinned, .pinned, .pinned], laidTests := true, laidLooks := .later }
def FormatPlainUptoCardSaid : Prop := Claim7.holds Tryz.pinned (.plain (OpenSpec.upto formatPlainSpec)) formatPlainUptoCard

/-- THE SECOND FORM's CARD OF 'mullionlaw10.FormatPieces'. -/
def formatPiecesUptoCard : Claim7 := { stood := { row := formatPiecesUptoRow, standIns := [], harness := (true, "890a01136f6432784e4917fde0d8801bdadcce371cd41ec92f2e1ca8edc740da"), looks := true }, kinds := [], alts := [], laidByText := true, laidKinds := [.data, .data, .widerDeep, .widerDeep, .data, .data, .data, .data, .data, .data, .sentinel, .sentinel, .pinned, .pinned, .pinned], laidTests := true, laidLooks := .later }
def FormatPiecesUptoCardSaid : Prop := Claim7.holds Tryz.pinned (.plain (OpenSpec.upto formatPiecesSpec)) formatPiecesUptoCard
end Rows
end Go.Proofs.YtfhdfhlabkeipaaGreatDoor
