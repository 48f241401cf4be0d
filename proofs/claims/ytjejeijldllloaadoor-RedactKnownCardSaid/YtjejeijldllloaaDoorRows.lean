/-
  NARROWER THAN 'FOR EVERY INPUT', by the rows' own cells (each row's printed sentence says how): UtfReads: laid · UtfBack: laid · UtfPoints: laid · UtfJoins: laid · UtfKnown: laid · UtfSays: laid · ValueSays: loops, laid · ValueMaps: loops, laid · ValueSets: loops, laid · ValueParts: loops, laid · ValueKnown: laid · RedactSays: loops, laid · RedactTwice: loops, laid · RedactMore: loops, laid · RedactKnown: laid.
  DERIVED. THE GIVEN ROWS OF THIS SEAT. 15 by the template 'for every input the law returns true; each argument reads behind the call as it read before'; 0 by the template 'total and deterministic' (their statements: YtjejeijldllloaaDoorTotals.lean).
  GIVEN WITH THE SEED: the statements are not yours to turn. If you find one false, say at which input.
  Laid BY PROGRAM, IN A SANDBOX (cutbox-rows.mjs): the forced cells as the released guide's own fill.sh prints them over the translation 23ff8e9d68dfb189… (all of the seat's roots in one cut). By AI agents, Wed Nov 11 2026. No macro, syntax, notation, axiom, sorry.
-/
import Derived.Test.YtjejeijldllloaaDoorChecked
import GoSem.PinnedTables
import GoSem.Claim
import GoSem.ClaimJoined
import GoSem.ClaimMapViews
import Derived.JoinedTies
import Derived.KernelRfl
namespace Go.Proofs.YtjejeijldllloaaDoor
/- THE CELL 'sum', in the pinned program and in every row, IS THE sha256 OF THE DUMP (.gsa) THAT YtjejeijldllloaaDoorProg.lean LOADS. Nothing in Lean hashes anything: it is a label: what it is worth is what the hold of that sum in a sandbox is worth. -/
noncomputable def Tryd.pinned : Pinned := { name := "ytjejeijldllloaadoor", sum := "23ff8e9d68dfb189f97ef4130508401aae29a27bf605a5984ad32b3151464298", checked := Tryd.checked }
namespace Rows
def none {H : Type} : Left H := { results := [], args := [] }

/- WHAT THE LISTED PACKAGE-LEVEL VARIABLES READ AS WHEN THE CALL BEGINS. Each datum BY PROGRAM (the guide's laid-datum.mjs) off the statement by which the dump's own 'gosem.cut.vars' lays the variable. In a bare row this is a premise. The card (YtjejeijldllloaaDoorCards.lean) ties it to the program's text. -/
def laid_unicode_utf8_acceptRanges {H : Type} : DataW H := .agg [.agg [.lit (.int .u8 128), .lit (.int .u8 191)], .agg [.lit (.int .u8 160), .lit (.int .u8 191)], .agg [.lit (.int .u8 128), .lit (.int .u8 159)], .agg [.lit (.int .u8 144), .lit (.int .u8 191)], .agg [.lit (.int .u8 128), .lit (.int .u8 143)], .agg [.lit (.int .u8 0), .lit (.int .u8 0)], .agg [.lit (.int .u8 0), .lit (.int .u8 0)], .agg [.lit (.int .u8 0), .lit (.int .u8 0)], .agg [.lit (.int .u8 0), .lit (.int .u8 0)], .agg [.lit (.int .u8 0), .lit (.int .u8 0)], .agg [.lit (.int .u8 0), .lit (.int .u8 0)], .agg [.lit (.int .u8 0), .lit (.int .u8 0)], .agg [.lit (.int .u8 0), .lit (.int .u8 0)], .agg [.lit (.int .u8 0), .lit (.int .u8 0)], .agg [.lit (.int .u8 0), .lit (.int .u8 0)], .agg [.lit (.int .u8 0), .lit (.int .u8 0)]]
/-- One of Go's own tables, pinned by name: the form's constant. -/
def laid_unicode_utf8_first : DataW Unit := Go.Pinned.utf8First

/-- 'introitlaw1.UtfReads': WHATEVER THE INPUT: true; the input reads as it did. -/
def utfReadsSpec : ChangeSpec := { name := "utfReads", fn := fun _ => fun
  | [d] => { results := [.lit (.bool true)], args := [d] }
  | _ => none }
def utfReadsRow : OpenClaim := { program := "ytjejeijldllloaadoor", sum := "23ff8e9d68dfb189f97ef4130508401aae29a27bf605a5984ad32b3151464298", func := "introit/introitlaw1.UtfReads", spec := "utfReads", inPlace := ["internal/abi.NoEscape"], unfollowed := true, recurses := true, named := ["unicode/utf8.first", "unicode/utf8.acceptRanges"], apart := false, laid := [("unicode/utf8.acceptRanges", laid_unicode_utf8_acceptRanges), ("unicode/utf8.first", laid_unicode_utf8_first)] }
def UtfReadsSaid : Prop := utfReadsRow.holds Tryd.pinned (OpenSpec.ofChange utfReadsSpec)

/-- ITS FALSE NEIGHBOUR: 'it returns false'. Refute it at one input. -/
def utfReadsWrong : ChangeSpec := { name := "utfReads", fn := fun _ => fun
  | [d] => { results := [.lit (.bool false)], args := [d] }
  | _ => none }
def UtfReadsWrongFalsely : Prop := utfReadsRow.holds Tryd.pinned (OpenSpec.ofChange utfReadsWrong)

/-- 'introitlaw1.UtfBack': WHATEVER THE INPUT: true; the input reads as it did. -/
def utfBackSpec : ChangeSpec := { name := "utfBack", fn := fun _ => fun
  | [d1, d2] => { results := [.lit (.bool true)], args := [d1, d2] }
  | _ => none }
def utfBackRow : OpenClaim := { program := "ytjejeijldllloaadoor", sum := "23ff8e9d68dfb189f97ef4130508401aae29a27bf605a5984ad32b3151464298", func := "introit/introitlaw1.UtfBack", spec := "utfBack", inPlace := ["internal/abi.NoEscape"], unfollowed := true, recurses := true, named := ["unicode/utf8.first", "unicode/utf8.acceptRanges"], apart := false, laid := [("unicode/utf8.acceptRanges", laid_unicode_utf8_acceptRanges), ("unicode/utf8.first", laid_unicode_utf8_first)] }
def UtfBackSaid : Prop := utfBackRow.holds Tryd.pinned (OpenSpec.ofChange utfBackSpec)

/-- ITS FALSE NEIGHBOUR: 'it returns false'. Refute it at one input. -/
def utfBackWrong : ChangeSpec := { name := "utfBack", fn := fun _ => fun
  | [d1, d2] => { results := [.lit (.bool false)], args := [d1, d2] }
  | _ => none }
def UtfBackWrongFalsely : Prop := utfBackRow.holds Tryd.pinned (OpenSpec.ofChange utfBackWrong)

/-- 'introitlaw1.UtfPoints': WHATEVER THE INPUT: true; the input reads as it did. -/
def utfPointsSpec : ChangeSpec := { name := "utfPoints", fn := fun _ => fun
  | [d1, d2] => { results := [.lit (.bool true)], args := [d1, d2] }
  | _ => none }
def utfPointsRow : OpenClaim := { program := "ytjejeijldllloaadoor", sum := "23ff8e9d68dfb189f97ef4130508401aae29a27bf605a5984ad32b3151464298", func := "introit/introitlaw1.UtfPoints", spec := "utfPoints", inPlace := ["internal/abi.NoEscape"], unfollowed := true, recurses := true, named := ["unicode/utf8.first", "unicode/utf8.acceptRanges"], apart := false, laid := [("unicode/utf8.acceptRanges", laid_unicode_utf8_acceptRanges), ("unicode/utf8.first", laid_unicode_utf8_first)] }
def UtfPointsSaid : Prop := utfPointsRow.holds Tryd.pinned (OpenSpec.ofChange utfPointsSpec)

/-- ITS FALSE NEIGHBOUR: 'it returns false'. Refute it at one input. -/
def utfPointsWrong : ChangeSpec := { name := "utfPoints", fn := fun _ => fun
  | [d1, d2] => { results := [.lit (.bool false)], args := [d1, d2] }
  | _ => none }
def UtfPointsWrongFalsely : Prop := utfPointsRow.holds Tryd.pinned (OpenSpec.ofChange utfPointsWrong)

/-- 'introitlaw1.UtfJoins': WHATEVER THE INPUT: true; the input reads as it did. -/
def utfJoinsSpec : ChangeSpec := { name := "utfJoins", fn := fun _ => fun
  | [d1, d2, d3] => { results := [.lit (.bool true)], args := [d1, d2, d3] }
  | _ => none }
def utfJoinsRow : OpenClaim := { program := "ytjejeijldllloaadoor", sum := "23ff8e9d68dfb189f97ef4130508401aae29a27bf605a5984ad32b3151464298", func := "introit/introitlaw1.UtfJoins", spec := "utfJoins", inPlace := ["internal/abi.NoEscape"], unfollowed := true, recurses := true, named := ["unicode/utf8.first", "unicode/utf8.acceptRanges"], apart := false, laid := [("unicode/utf8.acceptRanges", laid_unicode_utf8_acceptRanges), ("unicode/utf8.first", laid_unicode_utf8_first)] }
def UtfJoinsSaid : Prop := utfJoinsRow.holds Tryd.pinned (OpenSpec.ofChange utfJoinsSpec)

/-- ITS FALSE NEIGHBOUR: 'it returns false'. Refute it at one input. -/
def utfJoinsWrong : ChangeSpec := { name := "utfJoins", fn := fun _ => fun
  | [d1, d2, d3] => { results := [.lit (.bool false)], args := [d1, d2, d3] }
  | _ => none }
def UtfJoinsWrongFalsely : Prop := utfJoinsRow.holds Tryd.pinned (OpenSpec.ofChange utfJoinsWrong)

/-- 'introitlaw1.UtfKnown': WHATEVER THE INPUT: true; the input reads as it did. -/
def utfKnownSpec : ChangeSpec := { name := "utfKnown", fn := fun _ => fun
  | [] => { results := [.lit (.bool true)], args := [] }
  | _ => none }
def utfKnownRow : OpenClaim := { program := "ytjejeijldllloaadoor", sum := "23ff8e9d68dfb189f97ef4130508401aae29a27bf605a5984ad32b3151464298", func := "introit/introitlaw1.UtfKnown", spec := "utfKnown", inPlace := ["internal/abi.NoEscape"], unfollowed := true, recurses := true, named := ["unicode/utf8.first", "unicode/utf8.acceptRanges"], apart := false, laid := [("unicode/utf8.acceptRanges", laid_unicode_utf8_acceptRanges), ("unicode/utf8.first", laid_unicode_utf8_first)] }
def UtfKnownSaid : Prop := utfKnownRow.holds Tryd.pinned (OpenSpec.ofChange utfKnownSpec)

/-- ITS FALSE NEIGHBOUR: 'it returns false'. Refute it at one input. -/
def utfKnownWrong : ChangeSpec := { name := "utfKnown", fn := fun _ => fun
  | [] => { results := [.lit (.bool false)], args := [] }
  | _ => none }
def UtfKnownWrongFalsely : Prop := utfKnownRow.holds Tryd.pinned (OpenSpec.ofChange utfKnownWrong)

/-- 'introitlaw1.UtfSays': WHATEVER THE INPUT: true; the input reads as it did. -/
def utfSaysSpec : ChangeSpec := { name := "utfSays", fn := fun _ => fun
  | [d1, d2] => { results := [.lit (.bool true)], args := [d1, d2] }
  | _ => none }
def utfSaysRow : OpenClaim := { program := "ytjejeijldllloaadoor", sum := "23ff8e9d68dfb189f97ef4130508401aae29a27bf605a5984ad32b3151464298", func := "introit/introitlaw1.UtfSays", spec := "utfSays", inPlace := ["internal/abi.NoEscape"], unfollowed := true, recurses := true, named := ["unicode/utf8.first", "unicode/utf8.acceptRanges"], apart := false, laid := [("unicode/utf8.acceptRanges", laid_unicode_utf8_acceptRanges), ("unicode/utf8.first", laid_unicode_utf8_first)] }
def UtfSaysSaid : Prop := utfSaysRow.holds Tryd.pinned (OpenSpec.ofChange utfSaysSpec)

/-- ITS FALSE NEIGHBOUR: 'it returns false'. Refute it at one input. -/
def utfSaysWrong : ChangeSpec := { name := "utfSays", fn := fun _ => fun
  | [d1, d2] => { results := [.lit (.bool false)], args := [d1, d2] }
  | _ => none }
def UtfSaysWrongFalsely : Prop := utfSaysRow.holds Tryd.pinned (OpenSpec.ofChange utfSaysWrong)

/-- 'introitlaw2.ValueSays': WHATEVER THE INPUT: true; the input reads as it did. -/
def valueSaysSpec : ChangeSpec := { name := "valueSays", fn := fun _ => fun
  | [d1, d2] => { results := [.lit (.bool true)], args := [d1, d2] }
  | _ => none }
def valueSaysRow : OpenClaim := { program := "ytjejeijldllloaadoor", sum := "23ff8e9d68dfb189f97ef4130508401aae29a27bf605a5984ad32b3151464298", func := "introit/introitlaw2.ValueSays", spec := "valueSays", unfollowed := true, recurses := true, named := ["unicode/utf8.first", "unicode/utf8.acceptRanges"], loops := true, apart := false, laid := [("unicode/utf8.acceptRanges", laid_unicode_utf8_acceptRanges), ("unicode/utf8.first", laid_unicode_utf8_first)] }
def ValueSaysSaid : Prop := valueSaysRow.holds Tryd.pinned (OpenSpec.ofChange valueSaysSpec)

/-- ITS FALSE NEIGHBOUR: 'it returns false'. Refute it at one input. -/
def valueSaysWrong : ChangeSpec := { name := "valueSays", fn := fun _ => fun
  | [d1, d2] => { results := [.lit (.bool false)], args := [d1, d2] }
  | _ => none }
def ValueSaysWrongFalsely : Prop := valueSaysRow.holds Tryd.pinned (OpenSpec.ofChange valueSaysWrong)

/-- 'introitlaw2.ValueMaps': WHATEVER THE INPUT: true; the input reads as it did. -/
def valueMapsSpec : ChangeSpec := { name := "valueMaps", fn := fun _ => fun
  | [d1, d2] => { results := [.lit (.bool true)], args := [d1, d2] }
  | _ => none }
def valueMapsRow : OpenClaim := { program := "ytjejeijldllloaadoor", sum := "23ff8e9d68dfb189f97ef4130508401aae29a27bf605a5984ad32b3151464298", func := "introit/introitlaw2.ValueMaps", spec := "valueMaps", unfollowed := true, recurses := true, named := ["unicode/utf8.first", "unicode/utf8.acceptRanges"], loops := true, apart := false, laid := [("unicode/utf8.acceptRanges", laid_unicode_utf8_acceptRanges), ("unicode/utf8.first", laid_unicode_utf8_first)] }
def ValueMapsSaid : Prop := valueMapsRow.holds Tryd.pinned (OpenSpec.ofChange valueMapsSpec)

/-- ITS FALSE NEIGHBOUR: 'it returns false'. Refute it at one input. -/
def valueMapsWrong : ChangeSpec := { name := "valueMaps", fn := fun _ => fun
  | [d1, d2] => { results := [.lit (.bool false)], args := [d1, d2] }
  | _ => none }
def ValueMapsWrongFalsely : Prop := valueMapsRow.holds Tryd.pinned (OpenSpec.ofChange valueMapsWrong)

/-- 'introitlaw2.ValueSets': WHATEVER THE INPUT: true; the input reads as it did. -/
def valueSetsSpec : ChangeSpec := { name := "valueSets", fn := fun _ => fun
  | [d1, d2, d3] => { results := [.lit (.bool true)], args := [d1, d2, d3] }
  | _ => none }
def valueSetsRow : OpenClaim := { program := "ytjejeijldllloaadoor", sum := "23ff8e9d68dfb189f97ef4130508401aae29a27bf605a5984ad32b3151464298", func := "introit/introitlaw2.ValueSets", spec := "valueSets", inPlace := ["slices.overlaps[introit/api.Member]"], unfollowed := true, recurses := true, named := ["unicode/utf8.first", "unicode/utf8.acceptRanges"], loops := true, apart := false, laid := [("unicode/utf8.acceptRanges", laid_unicode_utf8_acceptRanges), ("unicode/utf8.first", laid_unicode_utf8_first)] }
def ValueSetsSaid : Prop := valueSetsRow.holds Tryd.pinned (OpenSpec.ofChange valueSetsSpec)

/-- ITS FALSE NEIGHBOUR: 'it returns false'. Refute it at one input. -/
def valueSetsWrong : ChangeSpec := { name := "valueSets", fn := fun _ => fun
  | [d1, d2, d3] => { results := [.lit (.bool false)], args := [d1, d2, d3] }
  | _ => none }
def ValueSetsWrongFalsely : Prop := valueSetsRow.holds Tryd.pinned (OpenSpec.ofChange valueSetsWrong)

/-- 'introitlaw2.ValueParts': WHATEVER THE INPUT: true; the input reads as it did. -/
def valuePartsSpec : ChangeSpec := { name := "valueParts", fn := fun _ => fun
  | [d1, d2, d3, d4] => { results := [.lit (.bool true)], args := [d1, d2, d3, d4] }
  | _ => none }
def valuePartsRow : OpenClaim := { program := "ytjejeijldllloaadoor", sum := "23ff8e9d68dfb189f97ef4130508401aae29a27bf605a5984ad32b3151464298", func := "introit/introitlaw2.ValueParts", spec := "valueParts", inPlace := ["slices.overlaps[introit/api.Member]"], unfollowed := true, recurses := true, named := ["unicode/utf8.first", "unicode/utf8.acceptRanges"], loops := true, apart := false, laid := [("unicode/utf8.acceptRanges", laid_unicode_utf8_acceptRanges), ("unicode/utf8.first", laid_unicode_utf8_first)] }
def ValuePartsSaid : Prop := valuePartsRow.holds Tryd.pinned (OpenSpec.ofChange valuePartsSpec)

/-- ITS FALSE NEIGHBOUR: 'it returns false'. Refute it at one input. -/
def valuePartsWrong : ChangeSpec := { name := "valueParts", fn := fun _ => fun
  | [d1, d2, d3, d4] => { results := [.lit (.bool false)], args := [d1, d2, d3, d4] }
  | _ => none }
def ValuePartsWrongFalsely : Prop := valuePartsRow.holds Tryd.pinned (OpenSpec.ofChange valuePartsWrong)

/-- 'introitlaw2.ValueKnown': WHATEVER THE INPUT: true; the input reads as it did. -/
def valueKnownSpec : ChangeSpec := { name := "valueKnown", fn := fun _ => fun
  | [] => { results := [.lit (.bool true)], args := [] }
  | _ => none }
def valueKnownRow : OpenClaim := { program := "ytjejeijldllloaadoor", sum := "23ff8e9d68dfb189f97ef4130508401aae29a27bf605a5984ad32b3151464298", func := "introit/introitlaw2.ValueKnown", spec := "valueKnown", inPlace := ["slices.overlaps[introit/api.Member]"], unfollowed := true, recurses := true, named := ["unicode/utf8.first", "unicode/utf8.acceptRanges"], apart := false, laid := [("unicode/utf8.acceptRanges", laid_unicode_utf8_acceptRanges), ("unicode/utf8.first", laid_unicode_utf8_first)] }
def ValueKnownSaid : Prop := valueKnownRow.holds Tryd.pinned (OpenSpec.ofChange valueKnownSpec)

/-- ITS FALSE NEIGHBOUR: 'it returns false'. Refute it at one input. -/
def valueKnownWrong : ChangeSpec := { name := "valueKnown", fn := fun _ => fun
  | [] => { results := [.lit (.bool false)], args := [] }
  | _ => none }
def ValueKnownWrongFalsely : Prop := valueKnownRow.holds Tryd.pinned (OpenSpec.ofChange valueKnownWrong)

/-- 'introitlaw13.RedactSays': WHATEVER THE INPUT: true; the input reads as it did. -/
def redactSaysSpec : ChangeSpec := { name := "redactSays", fn := fun _ => fun
  | [d1, d2] => { results := [.lit (.bool true)], args := [d1, d2] }
  | _ => none }
def redactSaysRow : OpenClaim := { program := "ytjejeijldllloaadoor", sum := "23ff8e9d68dfb189f97ef4130508401aae29a27bf605a5984ad32b3151464298", func := "introit/introitlaw13.RedactSays", spec := "redactSays", inPlace := ["slices.overlaps[introit/api.Member]"], unfollowed := true, recurses := true, named := ["unicode/utf8.first", "unicode/utf8.acceptRanges"], loops := true, apart := false, laid := [("unicode/utf8.acceptRanges", laid_unicode_utf8_acceptRanges), ("unicode/utf8.first", laid_unicode_utf8_first)] }
def RedactSaysSaid : Prop := redactSaysRow.holds Tryd.pinned (OpenSpec.ofChange redactSaysSpec)

/-- ITS FALSE NEIGHBOUR: 'it returns false'. Refute it at one input. -/
def redactSaysWrong : ChangeSpec := { name := "redactSays", fn := fun _ => fun
  | [d1, d2] => { results := [.lit (.bool false)], args := [d1, d2] }
  | _ => none }
def RedactSaysWrongFalsely : Prop := redactSaysRow.holds Tryd.pinned (OpenSpec.ofChange redactSaysWrong)

/-- 'introitlaw13.RedactTwice': WHATEVER THE INPUT: true; the input reads as it did. -/
def redactTwiceSpec : ChangeSpec := { name := "redactTwice", fn := fun _ => fun
  | [d] => { results := [.lit (.bool true)], args := [d] }
  | _ => none }
def redactTwiceRow : OpenClaim := { program := "ytjejeijldllloaadoor", sum := "23ff8e9d68dfb189f97ef4130508401aae29a27bf605a5984ad32b3151464298", func := "introit/introitlaw13.RedactTwice", spec := "redactTwice", inPlace := ["slices.overlaps[introit/api.Member]"], unfollowed := true, recurses := true, named := ["unicode/utf8.first", "unicode/utf8.acceptRanges"], loops := true, apart := false, laid := [("unicode/utf8.acceptRanges", laid_unicode_utf8_acceptRanges), ("unicode/utf8.first", laid_unicode_utf8_first)] }
def RedactTwiceSaid : Prop := redactTwiceRow.holds Tryd.pinned (OpenSpec.ofChange redactTwiceSpec)

/-- ITS FALSE NEIGHBOUR: 'it returns false'. Refute it at one input. -/
def redactTwiceWrong : ChangeSpec := { name := "redactTwice", fn := fun _ => fun
  | [d] => { results := [.lit (.bool false)], args := [d] }
  | _ => none }
def RedactTwiceWrongFalsely : Prop := redactTwiceRow.holds Tryd.pinned (OpenSpec.ofChange redactTwiceWrong)

/-- 'introitlaw13.RedactMore': WHATEVER THE INPUT: true; the input reads as it did. -/
def redactMoreSpec : ChangeSpec := { name := "redactMore", fn := fun _ => fun
  | [d1, d2, d3] => { results := [.lit (.bool true)], args := [d1, d2, d3] }
  | _ => none }
def redactMoreRow : OpenClaim := { program := "ytjejeijldllloaadoor", sum := "23ff8e9d68dfb189f97ef4130508401aae29a27bf605a5984ad32b3151464298", func := "introit/introitlaw13.RedactMore", spec := "redactMore", inPlace := ["slices.overlaps[introit/api.Member]"], unfollowed := true, recurses := true, named := ["unicode/utf8.first", "unicode/utf8.acceptRanges"], loops := true, apart := false, laid := [("unicode/utf8.acceptRanges", laid_unicode_utf8_acceptRanges), ("unicode/utf8.first", laid_unicode_utf8_first)] }
def RedactMoreSaid : Prop := redactMoreRow.holds Tryd.pinned (OpenSpec.ofChange redactMoreSpec)

/-- ITS FALSE NEIGHBOUR: 'it returns false'. Refute it at one input. -/
def redactMoreWrong : ChangeSpec := { name := "redactMore", fn := fun _ => fun
  | [d1, d2, d3] => { results := [.lit (.bool false)], args := [d1, d2, d3] }
  | _ => none }
def RedactMoreWrongFalsely : Prop := redactMoreRow.holds Tryd.pinned (OpenSpec.ofChange redactMoreWrong)

/-- 'introitlaw13.RedactKnown': WHATEVER THE INPUT: true; the input reads as it did. -/
def redactKnownSpec : ChangeSpec := { name := "redactKnown", fn := fun _ => fun
  | [] => { results := [.lit (.bool true)], args := [] }
  | _ => none }
def redactKnownRow : OpenClaim := { program := "ytjejeijldllloaadoor", sum := "23ff8e9d68dfb189f97ef4130508401aae29a27bf605a5984ad32b3151464298", func := "introit/introitlaw13.RedactKnown", spec := "redactKnown", inPlace := ["slices.overlaps[introit/api.Member]"], unfollowed := true, recurses := true, named := ["unicode/utf8.first", "unicode/utf8.acceptRanges"], apart := false, laid := [("unicode/utf8.acceptRanges", laid_unicode_utf8_acceptRanges), ("unicode/utf8.first", laid_unicode_utf8_first)] }
def RedactKnownSaid : Prop := redactKnownRow.holds Tryd.pinned (OpenSpec.ofChange redactKnownSpec)

/-- ITS FALSE NEIGHBOUR: 'it returns false'. Refute it at one input. -/
def redactKnownWrong : ChangeSpec := { name := "redactKnown", fn := fun _ => fun
  | [] => { results := [.lit (.bool false)], args := [] }
  | _ => none }
def RedactKnownWrongFalsely : Prop := redactKnownRow.holds Tryd.pinned (OpenSpec.ofChange redactKnownWrong)

/- THE SECOND FORM. 'bulk': how many values and letters a reading holds, each counted each time it is reached (what is shared counts as often as it is met; a slice's spare places count too). A statement '..UptoSaid' is the law's where the arguments, and the package variables that the reading takes, are together of bulk at most 1048576: NARROWER than '..Said'. Prove '..Said' where nothing that the law and all that it calls make is longer than what came in: it says more and counts as full. Else prove '..UptoSaid'. A law counts once. -/
mutual
def uptoBulk {H : Type} : DataW H → Nat
  | .lit (.string bytes) => bytes.length + 1
  | .lit _ => 1
  | .nil => 1
  | .ptr d => uptoBulk d + 1
  | .slice elems spare => uptoBulkAll elems + uptoBulkAll spare + 1
  | .agg parts => uptoBulkAll parts + 1
  | .iface _ d => uptoBulk d + 1
  | .map entries => uptoBulkEntries entries + 1
  | .held _ => 1
def uptoBulkAll {H : Type} : List (DataW H) → Nat
  | [] => 0
  | d :: r => uptoBulk d + uptoBulkAll r
def uptoBulkEntries {H : Type} : List (Lit × DataW H) → Nat
  | [] => 0
  | x :: r => uptoBulkEntry x + uptoBulkEntries r
def uptoBulkEntry {H : Type} : Lit × DataW H → Nat
  | (.string bytes, d) => bytes.length + uptoBulk d + 1
  | (_, d) => uptoBulk d + 1
 end
def uptoSmall : (H : Type) → List (DataW H) → Bool := fun _ ds => decide (uptoBulkAll ds ≤ 1048576)
def OpenSpec.upto (s : _root_.Go.ChangeSpec) : _root_.Go.OpenSpec := { _root_.Go.OpenSpec.ofChange s with cond := some uptoSmall }

/-- 'introitlaw1.UtfReads', WHERE WHAT IT READS IS OF BULK AT MOST 1048576: true; the input reads as it did. -/
def utfReadsUptoRow : OpenClaim := { program := "ytjejeijldllloaadoor", sum := "23ff8e9d68dfb189f97ef4130508401aae29a27bf605a5984ad32b3151464298", func := "introit/introitlaw1.UtfReads", spec := "utfReads", inPlace := ["internal/abi.NoEscape"], unfollowed := true, recurses := true, named := ["unicode/utf8.first", "unicode/utf8.acceptRanges"], apart := false, laid := [("unicode/utf8.acceptRanges", laid_unicode_utf8_acceptRanges), ("unicode/utf8.first", laid_unicode_utf8_first)], narrowed := true }
def UtfReadsUptoSaid : Prop := utfReadsUptoRow.holds Tryd.pinned (OpenSpec.upto utfReadsSpec)

/-- 'introitlaw1.UtfBack', WHERE WHAT IT READS IS OF BULK AT MOST 1048576: true; the input reads as it did. -/
def utfBackUptoRow : OpenClaim := { program := "ytjejeijldllloaadoor", sum := "23ff8e9d68dfb189f97ef4130508401aae29a27bf605a5984ad32b3151464298", func := "introit/introitlaw1.UtfBack", spec := "utfBack", inPlace := ["internal/abi.NoEscape"], unfollowed := true, recurses := true, named := ["unicode/utf8.first", "unicode/utf8.acceptRanges"], apart := false, laid := [("unicode/utf8.acceptRanges", laid_unicode_utf8_acceptRanges), ("unicode/utf8.first", laid_unicode_utf8_first)], narrowed := true }
def UtfBackUptoSaid : Prop := utfBackUptoRow.holds Tryd.pinned (OpenSpec.upto utfBackSpec)

/-- 'introitlaw1.UtfPoints', WHERE WHAT IT READS IS OF BULK AT MOST 1048576: true; the input reads as it did. -/
def utfPointsUptoRow : OpenClaim := { program := "ytjejeijldllloaadoor", sum := "23ff8e9d68dfb189f97ef4130508401aae29a27bf605a5984ad32b3151464298", func := "introit/introitlaw1.UtfPoints", spec := "utfPoints", inPlace := ["internal/abi.NoEscape"], unfollowed := true, recurses := true, named := ["unicode/utf8.first", "unicode/utf8.acceptRanges"], apart := false, laid := [("unicode/utf8.acceptRanges", laid_unicode_utf8_acceptRanges), ("unicode/utf8.first", laid_unicode_utf8_first)], narrowed := true }
def UtfPointsUptoSaid : Prop := utfPointsUptoRow.holds Tryd.pinned (OpenSpec.upto utfPointsSpec)

/-- 'introitlaw1.UtfJoins', WHERE WHAT IT READS IS OF BULK AT MOST 1048576: true; the input reads as it did. -/
def utfJoinsUptoRow : OpenClaim := { program := "ytjejeijldllloaadoor", sum := "23ff8e9d68dfb189f97ef4130508401aae29a27bf605a5984ad32b3151464298", func := "introit/introitlaw1.UtfJoins", spec := "utfJoins", inPlace := ["internal/abi.NoEscape"], unfollowed := true, recurses := true, named := ["unicode/utf8.first", "unicode/utf8.acceptRanges"], apart := false, laid := [("unicode/utf8.acceptRanges", laid_unicode_utf8_acceptRanges), ("unicode/utf8.first", laid_unicode_utf8_first)], narrowed := true }
def UtfJoinsUptoSaid : Prop := utfJoinsUptoRow.holds Tryd.pinned (OpenSpec.upto utfJoinsSpec)

/-- 'introitlaw1.UtfKnown', WHERE WHAT IT READS IS OF BULK AT MOST 1048576: true; the input reads as it did. -/
def utfKnownUptoRow : OpenClaim := { program := "ytjejeijldllloaadoor", sum := "23ff8e9d68dfb189f97ef4130508401aae29a27bf605a5984ad32b3151464298", func := "introit/introitlaw1.UtfKnown", spec := "utfKnown", inPlace := ["internal/abi.NoEscape"], unfollowed := true, recurses := true, named := ["unicode/utf8.first", "unicode/utf8.acceptRanges"], apart := false, laid := [("unicode/utf8.acceptRanges", laid_unicode_utf8_acceptRanges), ("unicode/utf8.first", laid_unicode_utf8_first)], narrowed := true }
def UtfKnownUptoSaid : Prop := utfKnownUptoRow.holds Tryd.pinned (OpenSpec.upto utfKnownSpec)

/-- 'introitlaw1.UtfSays', WHERE WHAT IT READS IS OF BULK AT MOST 1048576: true; the input reads as it did. -/
def utfSaysUptoRow : OpenClaim := { program := "ytjejeijldllloaadoor", sum := "23ff8e9d68dfb189f97ef4130508401aae29a27bf605a5984ad32b3151464298", func := "introit/introitlaw1.UtfSays", spec := "utfSays", inPlace := ["internal/abi.NoEscape"], unfollowed := true, recurses := true, named := ["unicode/utf8.first", "unicode/utf8.acceptRanges"], apart := false, laid := [("unicode/utf8.acceptRanges", laid_unicode_utf8_acceptRanges), ("unicode/utf8.first", laid_unicode_utf8_first)], narrowed := true }
def UtfSaysUptoSaid : Prop := utfSaysUptoRow.holds Tryd.pinned (OpenSpec.upto utfSaysSpec)

/-- 'introitlaw2.ValueSays', WHERE WHAT IT READS IS OF BULK AT MOST 1048576: true; the input reads as it did. -/
def valueSaysUptoRow : OpenClaim := { program := "ytjejeijldllloaadoor", sum := "23ff8e9d68dfb189f97ef4130508401aae29a27bf605a5984ad32b3151464298", func := "introit/introitlaw2.ValueSays", spec := "valueSays", unfollowed := true, recurses := true, named := ["unicode/utf8.first", "unicode/utf8.acceptRanges"], loops := true, apart := false, laid := [("unicode/utf8.acceptRanges", laid_unicode_utf8_acceptRanges), ("unicode/utf8.first", laid_unicode_utf8_first)], narrowed := true }
def ValueSaysUptoSaid : Prop := valueSaysUptoRow.holds Tryd.pinned (OpenSpec.upto valueSaysSpec)

/-- 'introitlaw2.ValueMaps', WHERE WHAT IT READS IS OF BULK AT MOST 1048576: true; the input reads as it did. -/
def valueMapsUptoRow : OpenClaim := { program := "ytjejeijldllloaadoor", sum := "23ff8e9d68dfb189f97ef4130508401aae29a27bf605a5984ad32b3151464298", func := "introit/introitlaw2.ValueMaps", spec := "valueMaps", unfollowed := true, recurses := true, named := ["unicode/utf8.first", "unicode/utf8.acceptRanges"], loops := true, apart := false, laid := [("unicode/utf8.acceptRanges", laid_unicode_utf8_acceptRanges), ("unicode/utf8.first", laid_unicode_utf8_first)], narrowed := true }
def ValueMapsUptoSaid : Prop := valueMapsUptoRow.holds Tryd.pinned (OpenSpec.upto valueMapsSpec)

/-- 'introitlaw2.ValueSets', WHERE WHAT IT READS IS OF BULK AT MOST 1048576: true; the input reads as it did. -/
def valueSetsUptoRow : OpenClaim := { program := "ytjejeijldllloaadoor", sum := "23ff8e9d68dfb189f97ef4130508401aae29a27bf605a5984ad32b3151464298", func := "introit/introitlaw2.ValueSets", spec := "valueSets", inPlace := ["slices.overlaps[introit/api.Member]"], unfollowed := true, recurses := true, named := ["unicode/utf8.first", "unicode/utf8.acceptRanges"], loops := true, apart := false, laid := [("unicode/utf8.acceptRanges", laid_unicode_utf8_acceptRanges), ("unicode/utf8.first", laid_unicode_utf8_first)], narrowed := true }
def ValueSetsUptoSaid : Prop := valueSetsUptoRow.holds Tryd.pinned (OpenSpec.upto valueSetsSpec)

/-- 'introitlaw2.ValueParts', WHERE WHAT IT READS IS OF BULK AT MOST 1048576: true; the input reads as it did. -/
def valuePartsUptoRow : OpenClaim := { program := "ytjejeijldllloaadoor", sum := "23ff8e9d68dfb189f97ef4130508401aae29a27bf605a5984ad32b3151464298", func := "introit/introitlaw2.ValueParts", spec := "valueParts", inPlace := ["slices.overlaps[introit/api.Member]"], unfollowed := true, recurses := true, named := ["unicode/utf8.first", "unicode/utf8.acceptRanges"], loops := true, apart := false, laid := [("unicode/utf8.acceptRanges", laid_unicode_utf8_acceptRanges), ("unicode/utf8.first", laid_unicode_utf8_first)], narrowed := true }
def ValuePartsUptoSaid : Prop := valuePartsUptoRow.holds Tryd.pinned (OpenSpec.upto valuePartsSpec)

/-- 'introitlaw2.ValueKnown', WHERE WHAT IT READS IS OF BULK AT MOST 1048576: true; the input reads as it did. -/
def valueKnownUptoRow : OpenClaim := { program := "ytjejeijldllloaadoor", sum := "23ff8e9d68dfb189f97ef4130508401aae29a27bf605a5984ad32b3151464298", func := "introit/introitlaw2.ValueKnown", spec := "valueKnown", inPlace := ["slices.overlaps[introit/api.Member]"], unfollowed := true, recurses := true, named := ["unicode/utf8.first", "unicode/utf8.acceptRanges"], apart := false, laid := [("unicode/utf8.acceptRanges", laid_unicode_utf8_acceptRanges), ("unicode/utf8.first", laid_unicode_utf8_first)], narrowed := true }
def ValueKnownUptoSaid : Prop := valueKnownUptoRow.holds Tryd.pinned (OpenSpec.upto valueKnownSpec)

/-- 'introitlaw13.RedactSays', WHERE WHAT IT READS IS OF BULK AT MOST 1048576: true; the input reads as it did. -/
def redactSaysUptoRow : OpenClaim := { program := "ytjejeijldllloaadoor", sum := "23ff8e9d68dfb189f97ef4130508401aae29a27bf605a5984ad32b3151464298", func := "introit/introitlaw13.RedactSays", spec := "redactSays", inPlace := ["slices.overlaps[introit/api.Member]"], unfollowed := true, recurses := true, named := ["unicode/utf8.first", "unicode/utf8.acceptRanges"], loops := true, apart := false, laid := [("unicode/utf8.acceptRanges", laid_unicode_utf8_acceptRanges), ("unicode/utf8.first", laid_unicode_utf8_first)], narrowed := true }
def RedactSaysUptoSaid : Prop := redactSaysUptoRow.holds Tryd.pinned (OpenSpec.upto redactSaysSpec)

/-- 'introitlaw13.RedactTwice', WHERE WHAT IT READS IS OF BULK AT MOST 1048576: true; the input reads as it did. -/
def redactTwiceUptoRow : OpenClaim := { program := "ytjejeijldllloaadoor", sum := "23ff8e9d68dfb189f97ef4130508401aae29a27bf605a5984ad32b3151464298", func := "introit/introitlaw13.RedactTwice", spec := "redactTwice", inPlace := ["slices.overlaps[introit/api.Member]"], unfollowed := true, recurses := true, named := ["unicode/utf8.first", "unicode/utf8.acceptRanges"], loops := true, apart := false, laid := [("unicode/utf8.acceptRanges", laid_unicode_utf8_acceptRanges), ("unicode/utf8.first", laid_unicode_utf8_first)], narrowed := true }
def RedactTwiceUptoSaid : Prop := redactTwiceUptoRow.holds Tryd.pinned (OpenSpec.upto redactTwiceSpec)

/-- 'introitlaw13.RedactMore', WHERE WHAT IT READS IS OF BULK AT MOST 1048576: true; the input reads as it did. -/
def redactMoreUptoRow : OpenClaim := { program := "ytjejeijldllloaadoor", sum := "23ff8e9d68dfb189f97ef4130508401aae29a27bf605a5984ad32b3151464298", func := "introit/introitlaw13.RedactMore", spec := "redactMore", inPlace := ["slices.overlaps[introit/api.Member]"], unfollowed := true, recurses := true, named := ["unicode/utf8.first", "unicode/utf8.acceptRanges"], loops := true, apart := false, laid := [("unicode/utf8.acceptRanges", laid_unicode_utf8_acceptRanges), ("unicode/utf8.first", laid_unicode_utf8_first)], narrowed := true }
def RedactMoreUptoSaid : Prop := redactMoreUptoRow.holds Tryd.pinned (OpenSpec.upto redactMoreSpec)

/-- 'introitlaw13.RedactKnown', WHERE WHAT IT READS IS OF BULK AT MOST 1048576: true; the input reads as it did. -/
def redactKnownUptoRow : OpenClaim := { program := "ytjejeijldllloaadoor", sum := "23ff8e9d68dfb189f97ef4130508401aae29a27bf605a5984ad32b3151464298", func := "introit/introitlaw13.RedactKnown", spec := "redactKnown", inPlace := ["slices.overlaps[introit/api.Member]"], unfollowed := true, recurses := true, named := ["unicode/utf8.first", "unicode/utf8.acceptRanges"], apart := false, laid := [("unicode/utf8.acceptRanges", laid_unicode_utf8_acceptRanges), ("unicode/utf8.first", laid_unicode_utf8_first)], narrowed := true }
def RedactKnownUptoSaid : Prop := redactKnownUptoRow.holds Tryd.pinned (OpenSpec.upto redactKnownSpec)

end Rows
end Go.Proofs.YtjejeijldllloaaDoor
