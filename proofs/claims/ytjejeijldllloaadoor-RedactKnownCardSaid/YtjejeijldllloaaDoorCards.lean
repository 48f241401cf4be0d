/-
  DERIVED. GIVEN WITH THE SEED: THE CARDS: each row of YtjejeijldllloaaDoorRows.lean that lists a variable, with what it lists TIED to the program's text (the seventh form; the later family's looks); each row that meets fmt, with fmt's text TOLD by the authors' own Lean function (tested against real Go, not proved from fmt's source: count such statements apart). THE CARD IS WHAT COUNTS. Prove the row's statement (the work); the ties are given (YtjejeijldllloaaDoorTie.lean); close each card by the builder's one call (the guide's Derived/Test/ToyasCard.lean, 'card_holds'). Laid BY PROGRAM, IN A SANDBOX (cutbox-door.mjs). By AI agents, Wed Nov 11 2026. No macro, syntax, notation, axiom, sorry.
-/
import Derived.Test.YtjejeijldllloaaDoorRows
import GoSem.ClaimSeven
namespace Go.Proofs.YtjejeijldllloaaDoor
namespace Rows

/-- THE TIED CARD OF 'introitlaw1.UtfReads'. -/
def utfReadsCard : Claim7 := { stood := { row := utfReadsRow, standIns := [], harness := (true, "c19e4bb87e3ea5329467d0e37e0124e9ec7007e17fef1fc471244eb641e67461"), looks := false }, kinds := [], alts := [], laidByText := true, laidKinds := [.data, .pinned], laidTests := true, laidLooks := .later }
def UtfReadsCardSaid : Prop := Claim7.holds Tryd.pinned (.plain (OpenSpec.ofChange utfReadsSpec)) utfReadsCard

/-- THE TIED CARD OF 'introitlaw1.UtfBack'. -/
def utfBackCard : Claim7 := { stood := { row := utfBackRow, standIns := [], harness := (true, "c19e4bb87e3ea5329467d0e37e0124e9ec7007e17fef1fc471244eb641e67461"), looks := false }, kinds := [], alts := [], laidByText := true, laidKinds := [.data, .pinned], laidTests := true, laidLooks := .later }
def UtfBackCardSaid : Prop := Claim7.holds Tryd.pinned (.plain (OpenSpec.ofChange utfBackSpec)) utfBackCard

/-- THE TIED CARD OF 'introitlaw1.UtfPoints'. -/
def utfPointsCard : Claim7 := { stood := { row := utfPointsRow, standIns := [], harness := (true, "c19e4bb87e3ea5329467d0e37e0124e9ec7007e17fef1fc471244eb641e67461"), looks := false }, kinds := [], alts := [], laidByText := true, laidKinds := [.data, .pinned], laidTests := true, laidLooks := .later }
def UtfPointsCardSaid : Prop := Claim7.holds Tryd.pinned (.plain (OpenSpec.ofChange utfPointsSpec)) utfPointsCard

/-- THE TIED CARD OF 'introitlaw1.UtfJoins'. -/
def utfJoinsCard : Claim7 := { stood := { row := utfJoinsRow, standIns := [], harness := (true, "c19e4bb87e3ea5329467d0e37e0124e9ec7007e17fef1fc471244eb641e67461"), looks := false }, kinds := [], alts := [], laidByText := true, laidKinds := [.data, .pinned], laidTests := true, laidLooks := .later }
def UtfJoinsCardSaid : Prop := Claim7.holds Tryd.pinned (.plain (OpenSpec.ofChange utfJoinsSpec)) utfJoinsCard

/-- THE TIED CARD OF 'introitlaw1.UtfKnown'. -/
def utfKnownCard : Claim7 := { stood := { row := utfKnownRow, standIns := [], harness := (true, "c19e4bb87e3ea5329467d0e37e0124e9ec7007e17fef1fc471244eb641e67461"), looks := false }, kinds := [], alts := [], laidByText := true, laidKinds := [.data, .pinned], laidTests := true, laidLooks := .later }
def UtfKnownCardSaid : Prop := Claim7.holds Tryd.pinned (.plain (OpenSpec.ofChange utfKnownSpec)) utfKnownCard

/-- THE TIED CARD OF 'introitlaw1.UtfSays'. -/
def utfSaysCard : Claim7 := { stood := { row := utfSaysRow, standIns := [], harness := (true, "c19e4bb87e3ea5329467d0e37e0124e9ec7007e17fef1fc471244eb641e67461"), looks := false }, kinds := [], alts := [], laidByText := true, laidKinds := [.data, .pinned], laidTests := true, laidLooks := .later }
def UtfSaysCardSaid : Prop := Claim7.holds Tryd.pinned (.plain (OpenSpec.ofChange utfSaysSpec)) utfSaysCard

/-- THE TIED CARD OF 'introitlaw2.ValueSays'. -/
def valueSaysCard : Claim7 := { stood := { row := valueSaysRow, standIns := [], harness := (true, "c19e4bb87e3ea5329467d0e37e0124e9ec7007e17fef1fc471244eb641e67461"), looks := false }, kinds := [], alts := [], laidByText := true, laidKinds := [.data, .pinned], laidTests := true, laidLooks := .later }
def ValueSaysCardSaid : Prop := Claim7.holds Tryd.pinned (.plain (OpenSpec.ofChange valueSaysSpec)) valueSaysCard

/-- THE TIED CARD OF 'introitlaw2.ValueMaps'. -/
def valueMapsCard : Claim7 := { stood := { row := valueMapsRow, standIns := [], harness := (true, "c19e4bb87e3ea5329467d0e37e0124e9ec7007e17fef1fc471244eb641e67461"), looks := false }, kinds := [], alts := [], laidByText := true, laidKinds := [.data, .pinned], laidTests := true, laidLooks := .later }
def ValueMapsCardSaid : Prop := Claim7.holds Tryd.pinned (.plain (OpenSpec.ofChange valueMapsSpec)) valueMapsCard

/-- THE TIED CARD OF 'introitlaw2.ValueSets'. -/
def valueSetsCard : Claim7 := { stood := { row := valueSetsRow, standIns := [], harness := (true, "c19e4bb87e3ea5329467d0e37e0124e9ec7007e17fef1fc471244eb641e67461"), looks := false }, kinds := [], alts := [], laidByText := true, laidKinds := [.data, .pinned], laidTests := true, laidLooks := .later }
def ValueSetsCardSaid : Prop := Claim7.holds Tryd.pinned (.plain (OpenSpec.ofChange valueSetsSpec)) valueSetsCard

/-- THE TIED CARD OF 'introitlaw2.ValueParts'. -/
def valuePartsCard : Claim7 := { stood := { row := valuePartsRow, standIns := [], harness := (true, "c19e4bb87e3ea5329467d0e37e0124e9ec7007e17fef1fc471244eb641e67461"), looks := false }, kinds := [], alts := [], laidByText := true, laidKinds := [.data, .pinned], laidTests := true, laidLooks := .later }
def ValuePartsCardSaid : Prop := Claim7.holds Tryd.pinned (.plain (OpenSpec.ofChange valuePartsSpec)) valuePartsCard

/-- THE TIED CARD OF 'introitlaw2.ValueKnown'. -/
def valueKnownCard : Claim7 := { stood := { row := valueKnownRow, standIns := [], harness := (true, "c19e4bb87e3ea5329467d0e37e0124e9ec7007e17fef1fc471244eb641e67461"), looks := false }, kinds := [], alts := [], laidByText := true, laidKinds := [.data, .pinned], laidTests := true, laidLooks := .later }
def ValueKnownCardSaid : Prop := Claim7.holds Tryd.pinned (.plain (OpenSpec.ofChange valueKnownSpec)) valueKnownCard

/-- THE TIED CARD OF 'introitlaw13.RedactSays'. -/
def redactSaysCard : Claim7 := { stood := { row := redactSaysRow, standIns := [], harness := (true, "c19e4bb87e3ea5329467d0e37e0124e9ec7007e17fef1fc471244eb641e67461"), looks := false }, kinds := [], alts := [], laidByText := true, laidKinds := [.data, .pinned], laidTests := true, laidLooks := .later }
def RedactSaysCardSaid : Prop := Claim7.holds Tryd.pinned (.plain (OpenSpec.ofChange redactSaysSpec)) redactSaysCard

/-- THE TIED CARD OF 'introitlaw13.RedactTwice'. -/
def redactTwiceCard : Claim7 := { stood := { row := redactTwiceRow, standIns := [], harness := (true, "c19e4bb87e3ea5329467d0e37e0124e9ec7007e17fef1fc471244eb641e67461"), looks := false }, kinds := [], alts := [], laidByText := true, laidKinds := [.data, .pinned], laidTests := true, laidLooks := .later }
def RedactTwiceCardSaid : Prop := Claim7.holds Tryd.pinned (.plain (OpenSpec.ofChange redactTwiceSpec)) redactTwiceCard

/-- THE TIED CARD OF 'introitlaw13.RedactMore'. -/
def redactMoreCard : Claim7 := { stood := { row := redactMoreRow, standIns := [], harness := (true, "c19e4bb87e3ea5329467d0e37e0124e9ec7007e17fef1fc471244eb641e67461"), looks := false }, kinds := [], alts := [], laidByText := true, laidKinds := [.data, .pinned], laidTests := true, laidLooks := .later }
def RedactMoreCardSaid : Prop := Claim7.holds Tryd.pinned (.plain (OpenSpec.ofChange redactMoreSpec)) redactMoreCard

/-- THE TIED CARD OF 'introitlaw13.RedactKnown'. -/
def redactKnownCard : Claim7 := { stood := { row := redactKnownRow, standIns := [], harness := (true, "c19e4bb87e3ea5329467d0e37e0124e9ec7007e17fef1fc471244eb641e67461"), looks := false }, kinds := [], alts := [], laidByText := true, laidKinds := [.data, .pinned], laidTests := true, laidLooks := .later }
def RedactKnownCardSaid : Prop := Claim7.holds Tryd.pinned (.plain (OpenSpec.ofChange redactKnownSpec)) redactKnownCard

/-- THE SECOND FORM's CARD OF 'introitlaw1.UtfReads'. -/
def utfReadsUptoCard : Claim7 := { stood := { row := utfReadsUptoRow, standIns := [], harness := (true, "c19e4bb87e3ea5329467d0e37e0124e9ec7007e17fef1fc471244eb641e67461"), looks := false }, kinds := [], alts := [], laidByText := true, laidKinds := [.data, .pinned], laidTests := true, laidLooks := .later }
def UtfReadsUptoCardSaid : Prop := Claim7.holds Tryd.pinned (.plain (OpenSpec.upto utfReadsSpec)) utfReadsUptoCard

/-- THE SECOND FORM's CARD OF 'introitlaw1.UtfBack'. -/
def utfBackUptoCard : Claim7 := { stood := { row := utfBackUptoRow, standIns := [], harness := (true, "c19e4bb87e3ea5329467d0e37e0124e9ec7007e17fef1fc471244eb641e67461"), looks := false }, kinds := [], alts := [], laidByText := true, laidKinds := [.data, .pinned], laidTests := true, laidLooks := .later }
def UtfBackUptoCardSaid : Prop := Claim7.holds Tryd.pinned (.plain (OpenSpec.upto utfBackSpec)) utfBackUptoCard

/-- THE SECOND FORM's CARD OF 'introitlaw1.UtfPoints'. -/
def utfPointsUptoCard : Claim7 := { stood := { row := utfPointsUptoRow, standIns := [], harness := (true, "c19e4bb87e3ea5329467d0e37e0124e9ec7007e17fef1fc471244eb641e67461"), looks := false }, kinds := [], alts := [], laidByText := true, laidKinds := [.data, .pinned], laidTests := true, laidLooks := .later }
def UtfPointsUptoCardSaid : Prop := Claim7.holds Tryd.pinned (.plain (OpenSpec.upto utfPointsSpec)) utfPointsUptoCard

/-- THE SECOND FORM's CARD OF 'introitlaw1.UtfJoins'. -/
def utfJoinsUptoCard : Claim7 := { stood := { row := utfJoinsUptoRow, standIns := [], harness := (true, "c19e4bb87e3ea5329467d0e37e0124e9ec7007e17fef1fc471244eb641e67461"), looks := false }, kinds := [], alts := [], laidByText := true, laidKinds := [.data, .pinned], laidTests := true, laidLooks := .later }
def UtfJoinsUptoCardSaid : Prop := Claim7.holds Tryd.pinned (.plain (OpenSpec.upto utfJoinsSpec)) utfJoinsUptoCard

/-- THE SECOND FORM's CARD OF 'introitlaw1.UtfKnown'. -/
def utfKnownUptoCard : Claim7 := { stood := { row := utfKnownUptoRow, standIns := [], harness := (true, "c19e4bb87e3ea5329467d0e37e0124e9ec7007e17fef1fc471244eb641e67461"), looks := false }, kinds := [], alts := [], laidByText := true, laidKinds := [.data, .pinned], laidTests := true, laidLooks := .later }
def UtfKnownUptoCardSaid : Prop := Claim7.holds Tryd.pinned (.plain (OpenSpec.upto utfKnownSpec)) utfKnownUptoCard

/-- THE SECOND FORM's CARD OF 'introitlaw1.UtfSays'. -/
def utfSaysUptoCard : Claim7 := { stood := { row := utfSaysUptoRow, standIns := [], harness := (true, "c19e4bb87e3ea5329467d0e37e0124e9ec7007e17fef1fc471244eb641e67461"), looks := false }, kinds := [], alts := [], laidByText := true, laidKinds := [.data, .pinned], laidTests := true, laidLooks := .later }
def UtfSaysUptoCardSaid : Prop := Claim7.holds Tryd.pinned (.plain (OpenSpec.upto utfSaysSpec)) utfSaysUptoCard

/-- THE SECOND FORM's CARD OF 'introitlaw2.ValueSays'. -/
def valueSaysUptoCard : Claim7 := { stood := { row := valueSaysUptoRow, standIns := [], harness := (true, "c19e4bb87e3ea5329467d0e37e0124e9ec7007e17fef1fc471244eb641e67461"), looks := false }, kinds := [], alts := [], laidByText := true, laidKinds := [.data, .pinned], laidTests := true, laidLooks := .later }
def ValueSaysUptoCardSaid : Prop := Claim7.holds Tryd.pinned (.plain (OpenSpec.upto valueSaysSpec)) valueSaysUptoCard

/-- THE SECOND FORM's CARD OF 'introitlaw2.ValueMaps'. -/
def valueMapsUptoCard : Claim7 := { stood := { row := valueMapsUptoRow, standIns := [], harness := (true, "c19e4bb87e3ea5329467d0e37e0124e9ec7007e17fef1fc471244eb641e67461"), looks := false }, kinds := [], alts := [], laidByText := true, laidKinds := [.data, .pinned], laidTests := true, laidLooks := .later }
def ValueMapsUptoCardSaid : Prop := Claim7.holds Tryd.pinned (.plain (OpenSpec.upto valueMapsSpec)) valueMapsUptoCard

/-- THE SECOND FORM's CARD OF 'introitlaw2.ValueSets'. -/
def valueSetsUptoCard : Claim7 := { stood := { row := valueSetsUptoRow, standIns := [], harness := (true, "c19e4bb87e3ea5329467d0e37e0124e9ec7007e17fef1fc471244eb641e67461"), looks := false }, kinds := [], alts := [], laidByText := true, laidKinds := [.data, .pinned], laidTests := true, laidLooks := .later }
def ValueSetsUptoCardSaid : Prop := Claim7.holds Tryd.pinned (.plain (OpenSpec.upto valueSetsSpec)) valueSetsUptoCard

/-- THE SECOND FORM's CARD OF 'introitlaw2.ValueParts'. -/
def valuePartsUptoCard : Claim7 := { stood := { row := valuePartsUptoRow, standIns := [], harness := (true, "c19e4bb87e3ea5329467d0e37e0124e9ec7007e17fef1fc471244eb641e67461"), looks := false }, kinds := [], alts := [], laidByText := true, laidKinds := [.data, .pinned], laidTests := true, laidLooks := .later }
def ValuePartsUptoCardSaid : Prop := Claim7.holds Tryd.pinned (.plain (OpenSpec.upto valuePartsSpec)) valuePartsUptoCard

/-- THE SECOND FORM's CARD OF 'introitlaw2.ValueKnown'. -/
def valueKnownUptoCard : Claim7 := { stood := { row := valueKnownUptoRow, standIns := [], harness := (true, "c19e4bb87e3ea5329467d0e37e0124e9ec7007e17fef1fc471244eb641e67461"), looks := false }, kinds := [], alts := [], laidByText := true, laidKinds := [.data, .pinned], laidTests := true, laidLooks := .later }
def ValueKnownUptoCardSaid : Prop := Claim7.holds Tryd.pinned (.plain (OpenSpec.upto valueKnownSpec)) valueKnownUptoCard

/-- THE SECOND FORM's CARD OF 'introitlaw13.RedactSays'. -/
def redactSaysUptoCard : Claim7 := { stood := { row := redactSaysUptoRow, standIns := [], harness := (true, "c19e4bb87e3ea5329467d0e37e0124e9ec7007e17fef1fc471244eb641e67461"), looks := false }, kinds := [], alts := [], laidByText := true, laidKinds := [.data, .pinned], laidTests := true, laidLooks := .later }
def RedactSaysUptoCardSaid : Prop := Claim7.holds Tryd.pinned (.plain (OpenSpec.upto redactSaysSpec)) redactSaysUptoCard

/-- THE SECOND FORM's CARD OF 'introitlaw13.RedactTwice'. -/
def redactTwiceUptoCard : Claim7 := { stood := { row := redactTwiceUptoRow, standIns := [], harness := (true, "c19e4bb87e3ea5329467d0e37e0124e9ec7007e17fef1fc471244eb641e67461"), looks := false }, kinds := [], alts := [], laidByText := true, laidKinds := [.data, .pinned], laidTests := true, laidLooks := .later }
def RedactTwiceUptoCardSaid : Prop := Claim7.holds Tryd.pinned (.plain (OpenSpec.upto redactTwiceSpec)) redactTwiceUptoCard

/-- THE SECOND FORM's CARD OF 'introitlaw13.RedactMore'. -/
def redactMoreUptoCard : Claim7 := { stood := { row := redactMoreUptoRow, standIns := [], harness := (true, "c19e4bb87e3ea5329467d0e37e0124e9ec7007e17fef1fc471244eb641e67461"), looks := false }, kinds := [], alts := [], laidByText := true, laidKinds := [.data, .pinned], laidTests := true, laidLooks := .later }
def RedactMoreUptoCardSaid : Prop := Claim7.holds Tryd.pinned (.plain (OpenSpec.upto redactMoreSpec)) redactMoreUptoCard

/-- THE SECOND FORM's CARD OF 'introitlaw13.RedactKnown'. -/
def redactKnownUptoCard : Claim7 := { stood := { row := redactKnownUptoRow, standIns := [], harness := (true, "c19e4bb87e3ea5329467d0e37e0124e9ec7007e17fef1fc471244eb641e67461"), looks := false }, kinds := [], alts := [], laidByText := true, laidKinds := [.data, .pinned], laidTests := true, laidLooks := .later }
def RedactKnownUptoCardSaid : Prop := Claim7.holds Tryd.pinned (.plain (OpenSpec.upto redactKnownSpec)) redactKnownUptoCard
end Rows
end Go.Proofs.YtjejeijldllloaaDoor
