/-
  DERIVED. GIVEN WITH THE SEED: THE CARDS: each row of YtonmpbfddiflhaaDoorRows.lean that lists a variable, with what it lists TIED to the program's text (the seventh form; the later family's looks); each row that meets fmt, with fmt's text TOLD by the authors' own Lean function (tested against real Go, not proved from fmt's source: count such statements apart). THE CARD IS WHAT COUNTS. Prove the row's statement (the work); the ties are given (YtonmpbfddiflhaaDoorTie.lean); close each card by the builder's one call (the guide's Derived/Test/ToyasCard.lean, 'card_holds'). Laid BY PROGRAM, IN A SANDBOX (cutbox-door.mjs). By AI agents, Wed Nov 11 2026. No macro, syntax, notation, axiom, sorry.
-/
import Derived.Test.YtonmpbfddiflhaaDoorRows
import GoSem.ClaimSeven
namespace Go.Proofs.YtonmpbfddiflhaaDoor
namespace Rows

/-- THE TIED CARD OF 'introitlaw5.BaseJoins'. -/
def baseJoinsCard : Claim7 := { stood := { row := baseJoinsRow, standIns := [], harness := (true, "4e271c471c47821f6319295afdba1f680a605f51778b06c1b3ad66d519668c85"), looks := false }, kinds := [], alts := [], laidByText := true, laidKinds := [.wider, .wider], laidTests := true, laidLooks := .later }
def BaseJoinsCardSaid : Prop := Claim7.holds Tryd.pinned (.plain (OpenSpec.ofChange baseJoinsSpec)) baseJoinsCard

/-- THE TIED CARD OF 'introitlaw5.BaseKnown'. -/
def baseKnownCard : Claim7 := { stood := { row := baseKnownRow, standIns := [], harness := (true, "4e271c471c47821f6319295afdba1f680a605f51778b06c1b3ad66d519668c85"), looks := false }, kinds := [], alts := [], laidByText := true, laidKinds := [.wider, .wider], laidTests := true, laidLooks := .later }
def BaseKnownCardSaid : Prop := Claim7.holds Tryd.pinned (.plain (OpenSpec.ofChange baseKnownSpec)) baseKnownCard

/-- THE TIED CARD OF 'introitlaw5.BaseSays'. -/
def baseSaysCard : Claim7 := { stood := { row := baseSaysRow, standIns := [], harness := (true, "4e271c471c47821f6319295afdba1f680a605f51778b06c1b3ad66d519668c85"), looks := false }, kinds := [], alts := [], laidByText := true, laidKinds := [.wider, .wider], laidTests := true, laidLooks := .later }
def BaseSaysCardSaid : Prop := Claim7.holds Tryd.pinned (.plain (OpenSpec.ofChange baseSaysSpec)) baseSaysCard

/-- THE TIED CARD OF 'introitlaw5.BaseBack'. -/
def baseBackCard : Claim7 := { stood := { row := baseBackRow, standIns := [], harness := (true, "4e271c471c47821f6319295afdba1f680a605f51778b06c1b3ad66d519668c85"), looks := false }, kinds := [], alts := [], laidByText := true, laidKinds := [.wider, .wider], laidTests := true, laidLooks := .later }
def BaseBackCardSaid : Prop := Claim7.holds Tryd.pinned (.plain (OpenSpec.ofChange baseBackSpec)) baseBackCard

/-- THE TIED CARD OF 'introitlaw11.IdentParts'. -/
def identPartsCard : Claim7 := { stood := { row := identPartsRow, standIns := [], harness := (true, "4e271c471c47821f6319295afdba1f680a605f51778b06c1b3ad66d519668c85"), looks := false }, kinds := [], alts := [], laidByText := true, laidKinds := [.wider], laidTests := true, laidLooks := .later }
def IdentPartsCardSaid : Prop := Claim7.holds Tryd.pinned (.plain (OpenSpec.ofChange identPartsSpec)) identPartsCard

/-- THE TIED CARD OF 'introitlaw11.IdentSays'. -/
def identSaysCard : Claim7 := { stood := { row := identSaysRow, standIns := [], harness := (true, "4e271c471c47821f6319295afdba1f680a605f51778b06c1b3ad66d519668c85"), looks := false }, kinds := [], alts := [], laidByText := true, laidKinds := [.wider], laidTests := true, laidLooks := .later }
def IdentSaysCardSaid : Prop := Claim7.holds Tryd.pinned (.plain (OpenSpec.ofChange identSaysSpec)) identSaysCard

/-- THE TIED CARD OF 'introitlaw11.IdentEvents'. -/
def identEventsCard : Claim7 := { stood := { row := identEventsRow, standIns := [], harness := (true, "4e271c471c47821f6319295afdba1f680a605f51778b06c1b3ad66d519668c85"), looks := false }, kinds := [], alts := [], laidByText := true, laidKinds := [.wider], laidTests := true, laidLooks := .later }
def IdentEventsCardSaid : Prop := Claim7.holds Tryd.pinned (.plain (OpenSpec.ofChange identEventsSpec)) identEventsCard

/-- THE TIED CARD OF 'introitlaw11.IdentKnown'. -/
def identKnownCard : Claim7 := { stood := { row := identKnownRow, standIns := [], harness := (true, "4e271c471c47821f6319295afdba1f680a605f51778b06c1b3ad66d519668c85"), looks := false }, kinds := [], alts := [], laidByText := true, laidKinds := [.wider], laidTests := true, laidLooks := .later }
def IdentKnownCardSaid : Prop := Claim7.holds Tryd.pinned (.plain (OpenSpec.ofChange identKnownSpec)) identKnownCard

/-- THE SECOND FORM's CARD OF 'introitlaw5.BaseJoins'. -/
def baseJoinsUptoCard : Claim7 := { stood := { row := baseJoinsUptoRow, standIns := [], harness := (true, "4e271c471c47821f6319295afdba1f680a605f51778b06c1b3ad66d519668c85"), looks := false }, kinds := [], alts := [], laidByText := true, laidKinds := [.wider, .wider], laidTests := true, laidLooks := .later }
def BaseJoinsUptoCardSaid : Prop := Claim7.holds Tryd.pinned (.plain (OpenSpec.upto baseJoinsSpec)) baseJoinsUptoCard

/-- THE SECOND FORM's CARD OF 'introitlaw5.BaseKnown'. -/
def baseKnownUptoCard : Claim7 := { stood := { row := baseKnownUptoRow, standIns := [], harness := (true, "4e271c471c47821f6319295afdba1f680a605f51778b06c1b3ad66d519668c85"), looks := false }, kinds := [], alts := [], laidByText := true, laidKinds := [.wider, .wider], laidTests := true, laidLooks := .later }
def BaseKnownUptoCardSaid : Prop := Claim7.holds Tryd.pinned (.plain (OpenSpec.upto baseKnownSpec)) baseKnownUptoCard

/-- THE SECOND FORM's CARD OF 'introitlaw5.BaseSays'. -/
def baseSaysUptoCard : Claim7 := { stood := { row := baseSaysUptoRow, standIns := [], harness := (true, "4e271c471c47821f6319295afdba1f680a605f51778b06c1b3ad66d519668c85"), looks := false }, kinds := [], alts := [], laidByText := true, laidKinds := [.wider, .wider], laidTests := true, laidLooks := .later }
def BaseSaysUptoCardSaid : Prop := Claim7.holds Tryd.pinned (.plain (OpenSpec.upto baseSaysSpec)) baseSaysUptoCard

/-- THE SECOND FORM's CARD OF 'introitlaw5.BaseBack'. -/
def baseBackUptoCard : Claim7 := { stood := { row := baseBackUptoRow, standIns := [], harness := (true, "4e271c471c47821f6319295afdba1f680a605f51778b06c1b3ad66d519668c85"), looks := false }, kinds := [], alts := [], laidByText := true, laidKinds := [.wider, .wider], laidTests := true, laidLooks := .later }
def BaseBackUptoCardSaid : Prop := Claim7.holds Tryd.pinned (.plain (OpenSpec.upto baseBackSpec)) baseBackUptoCard

/-- THE SECOND FORM's CARD OF 'introitlaw11.IdentParts'. -/
def identPartsUptoCard : Claim7 := { stood := { row := identPartsUptoRow, standIns := [], harness := (true, "4e271c471c47821f6319295afdba1f680a605f51778b06c1b3ad66d519668c85"), looks := false }, kinds := [], alts := [], laidByText := true, laidKinds := [.wider], laidTests := true, laidLooks := .later }
def IdentPartsUptoCardSaid : Prop := Claim7.holds Tryd.pinned (.plain (OpenSpec.upto identPartsSpec)) identPartsUptoCard

/-- THE SECOND FORM's CARD OF 'introitlaw11.IdentSays'. -/
def identSaysUptoCard : Claim7 := { stood := { row := identSaysUptoRow, standIns := [], harness := (true, "4e271c471c47821f6319295afdba1f680a605f51778b06c1b3ad66d519668c85"), looks := false }, kinds := [], alts := [], laidByText := true, laidKinds := [.wider], laidTests := true, laidLooks := .later }
def IdentSaysUptoCardSaid : Prop := Claim7.holds Tryd.pinned (.plain (OpenSpec.upto identSaysSpec)) identSaysUptoCard

/-- THE SECOND FORM's CARD OF 'introitlaw11.IdentEvents'. -/
def identEventsUptoCard : Claim7 := { stood := { row := identEventsUptoRow, standIns := [], harness := (true, "4e271c471c47821f6319295afdba1f680a605f51778b06c1b3ad66d519668c85"), looks := false }, kinds := [], alts := [], laidByText := true, laidKinds := [.wider], laidTests := true, laidLooks := .later }
def IdentEventsUptoCardSaid : Prop := Claim7.holds Tryd.pinned (.plain (OpenSpec.upto identEventsSpec)) identEventsUptoCard

/-- THE SECOND FORM's CARD OF 'introitlaw11.IdentKnown'. -/
def identKnownUptoCard : Claim7 := { stood := { row := identKnownUptoRow, standIns := [], harness := (true, "4e271c471c47821f6319295afdba1f680a605f51778b06c1b3ad66d519668c85"), looks := false }, kinds := [], alts := [], laidByText := true, laidKinds := [.wider], laidTests := true, laidLooks := .later }
def IdentKnownUptoCardSaid : Prop := Claim7.holds Tryd.pinned (.plain (OpenSpec.upto identKnownSpec)) identKnownUptoCard
end Rows
end Go.Proofs.YtonmpbfddiflhaaDoor
