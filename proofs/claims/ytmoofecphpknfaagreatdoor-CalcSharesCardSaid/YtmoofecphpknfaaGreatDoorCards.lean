/-
  DERIVED. GIVEN WITH THE SEED: THE CARDS: each row of YtmoofecphpknfaaGreatDoorRows.lean that lists a variable, with what it lists TIED to the program's text (the seventh form; the later family's looks); each row that meets fmt, with fmt's text TOLD by the authors' own Lean function (tested against real Go, not proved from fmt's source: count such statements apart). THE CARD IS WHAT COUNTS. Prove the row's statement (the work); the ties are given (YtmoofecphpknfaaGreatDoorTie.lean); close each card by the builder's one call (the guide's Derived/Test/ToyasCard.lean, 'card_holds'). Laid BY PROGRAM, IN A SANDBOX (cutbox-door.mjs). By AI agents, Wed Nov 11 2026. No macro, syntax, notation, axiom, sorry.
-/
import Derived.Test.YtmoofecphpknfaaGreatDoorRows
import GoSem.ClaimSeven
namespace Go.Proofs.YtmoofecphpknfaaGreatDoor
namespace Rows

/-- THE TIED CARD OF 'mullionlaw2.CalcParses'. -/
def calcParsesCard : Claim7 := { stood := { row := calcParsesRow, standIns := [], harness := (true, "2629f45ce2ce7bf779a3c5fd8533d02124e2549f9a9c146588deda1cce960be3"), looks := true }, kinds := [], alts := [], laidByText := true, laidKinds := [.data, .data, .widerDeep, .widerDeep, .data, .data, .data, .data, .data, .sentinel, .sentinel, .pinned, .pinned], laidTests := true, laidLooks := .later }
def CalcParsesCardSaid : Prop := Claim7.holds Tryz.pinned (.plain (OpenSpec.ofChange calcParsesSpec)) calcParsesCard

/-- THE TIED CARD OF 'mullionlaw2.CalcPrints'. -/
def calcPrintsCard : Claim7 := { stood := { row := calcPrintsRow, standIns := [], harness := (true, "2629f45ce2ce7bf779a3c5fd8533d02124e2549f9a9c146588deda1cce960be3"), looks := true }, kinds := [], alts := [], laidByText := true, laidKinds := [.data, .data, .widerDeep, .widerDeep, .data, .data, .data, .data, .data, .sentinel, .sentinel, .pinned, .pinned], laidTests := true, laidLooks := .later }
def CalcPrintsCardSaid : Prop := Claim7.holds Tryz.pinned (.plain (OpenSpec.ofChange calcPrintsSpec)) calcPrintsCard

/-- THE TIED CARD OF 'mullionlaw2.CalcWholes'. -/
def calcWholesCard : Claim7 := { stood := { row := calcWholesRow, standIns := [], harness := (true, "2629f45ce2ce7bf779a3c5fd8533d02124e2549f9a9c146588deda1cce960be3"), looks := true }, kinds := [], alts := [], laidByText := true, laidKinds := [.data, .data, .widerDeep, .widerDeep, .data, .data, .data, .data, .data, .sentinel, .sentinel, .pinned, .pinned], laidTests := true, laidLooks := .later }
def CalcWholesCardSaid : Prop := Claim7.holds Tryz.pinned (.plain (OpenSpec.ofChange calcWholesSpec)) calcWholesCard

/-- THE TIED CARD OF 'mullionlaw2.CalcReckons'. -/
def calcReckonsCard : Claim7 := { stood := { row := calcReckonsRow, standIns := [], harness := (true, "2629f45ce2ce7bf779a3c5fd8533d02124e2549f9a9c146588deda1cce960be3"), looks := true }, kinds := [], alts := [], laidByText := true, laidKinds := [.data, .data, .widerDeep, .widerDeep, .data, .data, .data, .data, .data, .sentinel, .sentinel, .pinned, .pinned], laidTests := true, laidLooks := .later }
def CalcReckonsCardSaid : Prop := Claim7.holds Tryz.pinned (.plain (OpenSpec.ofChange calcReckonsSpec)) calcReckonsCard

/-- THE TIED CARD OF 'mullionlaw2.CalcFloats'. -/
def calcFloatsCard : Claim7 := { stood := { row := calcFloatsRow, standIns := [], harness := (true, "2629f45ce2ce7bf779a3c5fd8533d02124e2549f9a9c146588deda1cce960be3"), looks := true }, kinds := [], alts := [], laidByText := true, laidKinds := [.data, .data, .widerDeep, .widerDeep, .data, .data, .data, .data, .data, .sentinel, .sentinel, .pinned, .pinned], laidTests := true, laidLooks := .later }
def CalcFloatsCardSaid : Prop := Claim7.holds Tryz.pinned (.plain (OpenSpec.ofChange calcFloatsSpec)) calcFloatsCard

/-- THE TIED CARD OF 'mullionlaw2.CalcOrder'. -/
def calcOrderCard : Claim7 := { stood := { row := calcOrderRow, standIns := [], harness := (true, "2629f45ce2ce7bf779a3c5fd8533d02124e2549f9a9c146588deda1cce960be3"), looks := true }, kinds := [], alts := [], laidByText := true, laidKinds := [.data, .data, .widerDeep, .widerDeep, .data, .data, .data, .data, .data, .sentinel, .sentinel, .pinned, .pinned], laidTests := true, laidLooks := .later }
def CalcOrderCardSaid : Prop := Claim7.holds Tryz.pinned (.plain (OpenSpec.ofChange calcOrderSpec)) calcOrderCard

/-- THE TIED CARD OF 'mullionlaw2.CalcInts'. -/
def calcIntsCard : Claim7 := { stood := { row := calcIntsRow, standIns := [], harness := (true, "2629f45ce2ce7bf779a3c5fd8533d02124e2549f9a9c146588deda1cce960be3"), looks := true }, kinds := [], alts := [], laidByText := true, laidKinds := [.data, .data, .widerDeep, .widerDeep, .data, .data, .data, .data, .data, .sentinel, .sentinel, .pinned, .pinned], laidTests := true, laidLooks := .later }
def CalcIntsCardSaid : Prop := Claim7.holds Tryz.pinned (.plain (OpenSpec.ofChange calcIntsSpec)) calcIntsCard

/-- THE TIED CARD OF 'mullionlaw2.CalcShares'. -/
def calcSharesCard : Claim7 := { stood := { row := calcSharesRow, standIns := [], harness := (true, "2629f45ce2ce7bf779a3c5fd8533d02124e2549f9a9c146588deda1cce960be3"), looks := true }, kinds := [], alts := [], laidByText := true, laidKinds := [.data, .data, .widerDeep, .widerDeep, .data, .data, .data, .data, .data, .sentinel, .sentinel, .pinned, .pinned], laidTests := true, laidLooks := .later }
def CalcSharesCardSaid : Prop := Claim7.holds Tryz.pinned (.plain (OpenSpec.ofChange calcSharesSpec)) calcSharesCard

/-- THE SECOND FORM's CARD OF 'mullionlaw2.CalcParses'. -/
def calcParsesUptoCard : Claim7 := { stood := { row := calcParsesUptoRow, standIns := [], harness := (true, "2629f45ce2ce7bf779a3c5fd8533d02124e2549f9a9c146588deda1cce960be3"), looks := true }, kinds := [], alts := [], laidByText := true, laidKinds := [.data, .data, .widerDeep, .widerDeep, .data, .data, .data, .data, .data, .sentinel, .sentinel, .pinned, .pinned], laidTests := true, laidLooks := .later }
def CalcParsesUptoCardSaid : Prop := Claim7.holds Tryz.pinned (.plain (OpenSpec.upto calcParsesSpec)) calcParsesUptoCard

/-- THE SECOND FORM's CARD OF 'mullionlaw2.CalcPrints'. -/
def calcPrintsUptoCard : Claim7 := { stood := { row := calcPrintsUptoRow, standIns := [], harness := (true, "2629f45ce2ce7bf779a3c5fd8533d02124e2549f9a9c146588deda1cce960be3"), looks := true }, kinds := [], alts := [], laidByText := true, laidKinds := [.data, .data, .widerDeep, .widerDeep, .data, .data, .data, .data, .data, .sentinel, .sentinel, .pinned, .pinned], laidTests := true, laidLooks := .later }
def CalcPrintsUptoCardSaid : Prop := Claim7.holds Tryz.pinned (.plain (OpenSpec.upto calcPrintsSpec)) calcPrintsUptoCard

/-- THE SECOND FORM's CARD OF 'mullionlaw2.CalcWholes'. -/
def calcWholesUptoCard : Claim7 := { stood := { row := calcWholesUptoRow, standIns := [], harness := (true, "2629f45ce2ce7bf779a3c5fd8533d02124e2549f9a9c146588deda1cce960be3"), looks := true }, kinds := [], alts := [], laidByText := true, laidKinds := [.data, .data, .widerDeep, .widerDeep, .data, .data, .data, .data, .data, .sentinel, .sentinel, .pinned, .pinned], laidTests := true, laidLooks := .later }
def CalcWholesUptoCardSaid : Prop := Claim7.holds Tryz.pinned (.plain (OpenSpec.upto calcWholesSpec)) calcWholesUptoCard

/-- THE SECOND FORM's CARD OF 'mullionlaw2.CalcReckons'. -/
def calcReckonsUptoCard : Claim7 := { stood := { row := calcReckonsUptoRow, standIns := [], harness := (true, "2629f45ce2ce7bf779a3c5fd8533d02124e2549f9a9c146588deda1cce960be3"), looks := true }, kinds := [], alts := [], laidByText := true, laidKinds := [.data, .data, .widerDeep, .widerDeep, .data, .data, .data, .data, .data, .sentinel, .sentinel, .pinned, .pinned], laidTests := true, laidLooks := .later }
def CalcReckonsUptoCardSaid : Prop := Claim7.holds Tryz.pinned (.plain (OpenSpec.upto calcReckonsSpec)) calcReckonsUptoCard

/-- THE SECOND FORM's CARD OF 'mullionlaw2.CalcFloats'. -/
def calcFloatsUptoCard : Claim7 := { stood := { row := calcFloatsUptoRow, standIns := [], harness := (true, "2629f45ce2ce7bf779a3c5fd8533d02124e2549f9a9c146588deda1cce960be3"), looks := true }, kinds := [], alts := [], laidByText := true, laidKinds := [.data, .data, .widerDeep, .widerDeep, .data, .data, .data, .data, .data, .sentinel, .sentinel, .pinned, .pinned], laidTests := true, laidLooks := .later }
def CalcFloatsUptoCardSaid : Prop := Claim7.holds Tryz.pinned (.plain (OpenSpec.upto calcFloatsSpec)) calcFloatsUptoCard

/-- THE SECOND FORM's CARD OF 'mullionlaw2.CalcOrder'. -/
def calcOrderUptoCard : Claim7 := { stood := { row := calcOrderUptoRow, standIns := [], harness := (true, "2629f45ce2ce7bf779a3c5fd8533d02124e2549f9a9c146588deda1cce960be3"), looks := true }, kinds := [], alts := [], laidByText := true, laidKinds := [.data, .data, .widerDeep, .widerDeep, .data, .data, .data, .data, .data, .sentinel, .sentinel, .pinned, .pinned], laidTests := true, laidLooks := .later }
def CalcOrderUptoCardSaid : Prop := Claim7.holds Tryz.pinned (.plain (OpenSpec.upto calcOrderSpec)) calcOrderUptoCard

/-- THE SECOND FORM's CARD OF 'mullionlaw2.CalcInts'. -/
def calcIntsUptoCard : Claim7 := { stood := { row := calcIntsUptoRow, standIns := [], harness := (true, "2629f45ce2ce7bf779a3c5fd8533d02124e2549f9a9c146588deda1cce960be3"), looks := true }, kinds := [], alts := [], laidByText := true, laidKinds := [.data, .data, .widerDeep, .widerDeep, .data, .data, .data, .data, .data, .sentinel, .sentinel, .pinned, .pinned], laidTests := true, laidLooks := .later }
def CalcIntsUptoCardSaid : Prop := Claim7.holds Tryz.pinned (.plain (OpenSpec.upto calcIntsSpec)) calcIntsUptoCard

/-- THE SECOND FORM's CARD OF 'mullionlaw2.CalcShares'. -/
def calcSharesUptoCard : Claim7 := { stood := { row := calcSharesUptoRow, standIns := [], harness := (true, "2629f45ce2ce7bf779a3c5fd8533d02124e2549f9a9c146588deda1cce960be3"), looks := true }, kinds := [], alts := [], laidByText := true, laidKinds := [.data, .data, .widerDeep, .widerDeep, .data, .data, .data, .data, .data, .sentinel, .sentinel, .pinned, .pinned], laidTests := true, laidLooks := .later }
def CalcSharesUptoCardSaid : Prop := Claim7.holds Tryz.pinned (.plain (OpenSpec.upto calcSharesSpec)) calcSharesUptoCard
end Rows
end Go.Proofs.YtmoofecphpknfaaGreatDoor
