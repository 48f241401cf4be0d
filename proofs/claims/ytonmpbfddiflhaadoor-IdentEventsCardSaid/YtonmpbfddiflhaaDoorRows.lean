/-
  NARROWER THAN 'FOR EVERY INPUT', by the rows' own cells (each row's printed sentence says how): BaseJoins: laid · BaseKnown: laid · BaseSays: laid · BaseBack: laid · IdentParts: laid · IdentSays: laid · IdentEvents: laid · IdentKnown: laid.
  DERIVED. THE GIVEN ROWS OF THIS SEAT. 8 by the template 'for every input the law returns true; each argument reads behind the call as it read before'; 0 by the template 'total and deterministic' (their statements: YtonmpbfddiflhaaDoorTotals.lean).
  GIVEN WITH THE SEED: the statements are not yours to turn. If you find one false, say at which input.
  Laid BY PROGRAM, IN A SANDBOX (cutbox-rows.mjs): the forced cells as the released guide's own fill.sh prints them over the translation 979336ca6b0256a6… (all of the seat's roots in one cut). By AI agents, Wed Nov 11 2026. No macro, syntax, notation, axiom, sorry.
-/
import Derived.Test.YtonmpbfddiflhaaDoorChecked
import GoSem.Claim
import GoSem.ClaimJoined
import GoSem.ClaimMapViews
import Derived.JoinedTies
import Derived.KernelRfl
namespace Go.Proofs.YtonmpbfddiflhaaDoor
/- THE CELL 'sum', in the pinned program and in every row, IS THE sha256 OF THE DUMP (.gsa) THAT YtonmpbfddiflhaaDoorProg.lean LOADS. Nothing in Lean hashes anything: it is a label: what it is worth is what the hold of that sum in a sandbox is worth. -/
noncomputable def Tryd.pinned : Pinned := { name := "ytonmpbfddiflhaadoor", sum := "979336ca6b0256a603b51e7a3a2cd8137999dae2d4d3f29ba9eaab73f10be640", checked := Tryd.checked }
namespace Rows
def none {H : Type} : Left H := { results := [], args := [] }

/- WHAT THE LISTED PACKAGE-LEVEL VARIABLES READ AS WHEN THE CALL BEGINS. Each datum BY PROGRAM (the guide's laid-datum.mjs) off the statement by which the dump's own 'gosem.cut.vars' lays the variable. In a bare row this is a premise. The card (YtonmpbfddiflhaaDoorCards.lean) ties it to the program's text. -/
def laid_introit_b64_standard {H : Type} : DataW H := .agg [.lit (.int .u8 43), .lit (.int .u8 47)]
def laid_introit_b64_forURL {H : Type} : DataW H := .agg [.lit (.int .u8 45), .lit (.int .u8 95)]

/-- 'introitlaw5.BaseJoins': WHATEVER THE INPUT: true; the input reads as it did. -/
def baseJoinsSpec : ChangeSpec := { name := "baseJoins", fn := fun _ => fun
  | [d1, d2] => { results := [.lit (.bool true)], args := [d1, d2] }
  | _ => none }
def baseJoinsRow : OpenClaim := { program := "ytonmpbfddiflhaadoor", sum := "979336ca6b0256a603b51e7a3a2cd8137999dae2d4d3f29ba9eaab73f10be640", func := "introit/introitlaw5.BaseJoins", spec := "baseJoins", unfollowed := true, recurses := true, named := ["introit/b64.standard", "introit/b64.forURL"], apart := false, laid := [("introit/b64.standard", laid_introit_b64_standard), ("introit/b64.forURL", laid_introit_b64_forURL)] }
def BaseJoinsSaid : Prop := baseJoinsRow.holds Tryd.pinned (OpenSpec.ofChange baseJoinsSpec)

/-- ITS FALSE NEIGHBOUR: 'it returns false'. Refute it at one input. -/
def baseJoinsWrong : ChangeSpec := { name := "baseJoins", fn := fun _ => fun
  | [d1, d2] => { results := [.lit (.bool false)], args := [d1, d2] }
  | _ => none }
def BaseJoinsWrongFalsely : Prop := baseJoinsRow.holds Tryd.pinned (OpenSpec.ofChange baseJoinsWrong)

/-- 'introitlaw5.BaseKnown': WHATEVER THE INPUT: true; the input reads as it did. -/
def baseKnownSpec : ChangeSpec := { name := "baseKnown", fn := fun _ => fun
  | [] => { results := [.lit (.bool true)], args := [] }
  | _ => none }
def baseKnownRow : OpenClaim := { program := "ytonmpbfddiflhaadoor", sum := "979336ca6b0256a603b51e7a3a2cd8137999dae2d4d3f29ba9eaab73f10be640", func := "introit/introitlaw5.BaseKnown", spec := "baseKnown", unfollowed := true, recurses := true, named := ["introit/b64.standard", "introit/b64.forURL"], apart := false, laid := [("introit/b64.standard", laid_introit_b64_standard), ("introit/b64.forURL", laid_introit_b64_forURL)] }
def BaseKnownSaid : Prop := baseKnownRow.holds Tryd.pinned (OpenSpec.ofChange baseKnownSpec)

/-- ITS FALSE NEIGHBOUR: 'it returns false'. Refute it at one input. -/
def baseKnownWrong : ChangeSpec := { name := "baseKnown", fn := fun _ => fun
  | [] => { results := [.lit (.bool false)], args := [] }
  | _ => none }
def BaseKnownWrongFalsely : Prop := baseKnownRow.holds Tryd.pinned (OpenSpec.ofChange baseKnownWrong)

/-- 'introitlaw5.BaseSays': WHATEVER THE INPUT: true; the input reads as it did. -/
def baseSaysSpec : ChangeSpec := { name := "baseSays", fn := fun _ => fun
  | [d1, d2] => { results := [.lit (.bool true)], args := [d1, d2] }
  | _ => none }
def baseSaysRow : OpenClaim := { program := "ytonmpbfddiflhaadoor", sum := "979336ca6b0256a603b51e7a3a2cd8137999dae2d4d3f29ba9eaab73f10be640", func := "introit/introitlaw5.BaseSays", spec := "baseSays", unfollowed := true, recurses := true, named := ["introit/b64.standard", "introit/b64.forURL"], apart := false, laid := [("introit/b64.standard", laid_introit_b64_standard), ("introit/b64.forURL", laid_introit_b64_forURL)] }
def BaseSaysSaid : Prop := baseSaysRow.holds Tryd.pinned (OpenSpec.ofChange baseSaysSpec)

/-- ITS FALSE NEIGHBOUR: 'it returns false'. Refute it at one input. -/
def baseSaysWrong : ChangeSpec := { name := "baseSays", fn := fun _ => fun
  | [d1, d2] => { results := [.lit (.bool false)], args := [d1, d2] }
  | _ => none }
def BaseSaysWrongFalsely : Prop := baseSaysRow.holds Tryd.pinned (OpenSpec.ofChange baseSaysWrong)

/-- 'introitlaw5.BaseBack': WHATEVER THE INPUT: true; the input reads as it did. -/
def baseBackSpec : ChangeSpec := { name := "baseBack", fn := fun _ => fun
  | [d1, d2] => { results := [.lit (.bool true)], args := [d1, d2] }
  | _ => none }
def baseBackRow : OpenClaim := { program := "ytonmpbfddiflhaadoor", sum := "979336ca6b0256a603b51e7a3a2cd8137999dae2d4d3f29ba9eaab73f10be640", func := "introit/introitlaw5.BaseBack", spec := "baseBack", unfollowed := true, recurses := true, named := ["introit/b64.standard", "introit/b64.forURL"], apart := false, laid := [("introit/b64.standard", laid_introit_b64_standard), ("introit/b64.forURL", laid_introit_b64_forURL)] }
def BaseBackSaid : Prop := baseBackRow.holds Tryd.pinned (OpenSpec.ofChange baseBackSpec)

/-- ITS FALSE NEIGHBOUR: 'it returns false'. Refute it at one input. -/
def baseBackWrong : ChangeSpec := { name := "baseBack", fn := fun _ => fun
  | [d1, d2] => { results := [.lit (.bool false)], args := [d1, d2] }
  | _ => none }
def BaseBackWrongFalsely : Prop := baseBackRow.holds Tryd.pinned (OpenSpec.ofChange baseBackWrong)

/-- 'introitlaw11.IdentParts': WHATEVER THE INPUT: true; the input reads as it did. -/
def identPartsSpec : ChangeSpec := { name := "identParts", fn := fun _ => fun
  | [d1, d2, d3] => { results := [.lit (.bool true)], args := [d1, d2, d3] }
  | _ => none }
def identPartsRow : OpenClaim := { program := "ytonmpbfddiflhaadoor", sum := "979336ca6b0256a603b51e7a3a2cd8137999dae2d4d3f29ba9eaab73f10be640", func := "introit/introitlaw11.IdentParts", spec := "identParts", inPlace := ["internal/bytealg.IndexByteString", "internal/bytealg.IndexString"], unfollowed := true, recurses := true, named := ["internal/bytealg.MaxLen", "introit/b64.forURL"], apart := false, laid := [("introit/b64.forURL", laid_introit_b64_forURL)] }
def IdentPartsSaid : Prop := identPartsRow.holds Tryd.pinned (OpenSpec.ofChange identPartsSpec)

/-- ITS FALSE NEIGHBOUR: 'it returns false'. Refute it at one input. -/
def identPartsWrong : ChangeSpec := { name := "identParts", fn := fun _ => fun
  | [d1, d2, d3] => { results := [.lit (.bool false)], args := [d1, d2, d3] }
  | _ => none }
def IdentPartsWrongFalsely : Prop := identPartsRow.holds Tryd.pinned (OpenSpec.ofChange identPartsWrong)

/-- 'introitlaw11.IdentSays': WHATEVER THE INPUT: true; the input reads as it did. -/
def identSaysSpec : ChangeSpec := { name := "identSays", fn := fun _ => fun
  | [d] => { results := [.lit (.bool true)], args := [d] }
  | _ => none }
def identSaysRow : OpenClaim := { program := "ytonmpbfddiflhaadoor", sum := "979336ca6b0256a603b51e7a3a2cd8137999dae2d4d3f29ba9eaab73f10be640", func := "introit/introitlaw11.IdentSays", spec := "identSays", inPlace := ["internal/bytealg.IndexByteString", "internal/bytealg.IndexString"], unfollowed := true, recurses := true, named := ["internal/bytealg.MaxLen", "introit/b64.forURL"], apart := false, laid := [("introit/b64.forURL", laid_introit_b64_forURL)] }
def IdentSaysSaid : Prop := identSaysRow.holds Tryd.pinned (OpenSpec.ofChange identSaysSpec)

/-- ITS FALSE NEIGHBOUR: 'it returns false'. Refute it at one input. -/
def identSaysWrong : ChangeSpec := { name := "identSays", fn := fun _ => fun
  | [d] => { results := [.lit (.bool false)], args := [d] }
  | _ => none }
def IdentSaysWrongFalsely : Prop := identSaysRow.holds Tryd.pinned (OpenSpec.ofChange identSaysWrong)

/-- 'introitlaw11.IdentEvents': WHATEVER THE INPUT: true; the input reads as it did. -/
def identEventsSpec : ChangeSpec := { name := "identEvents", fn := fun _ => fun
  | [d1, d2, d3] => { results := [.lit (.bool true)], args := [d1, d2, d3] }
  | _ => none }
def identEventsRow : OpenClaim := { program := "ytonmpbfddiflhaadoor", sum := "979336ca6b0256a603b51e7a3a2cd8137999dae2d4d3f29ba9eaab73f10be640", func := "introit/introitlaw11.IdentEvents", spec := "identEvents", inPlace := ["internal/bytealg.IndexByteString", "internal/bytealg.IndexString"], unfollowed := true, recurses := true, named := ["internal/bytealg.MaxLen", "introit/b64.forURL"], apart := false, laid := [("introit/b64.forURL", laid_introit_b64_forURL)] }
def IdentEventsSaid : Prop := identEventsRow.holds Tryd.pinned (OpenSpec.ofChange identEventsSpec)

/-- ITS FALSE NEIGHBOUR: 'it returns false'. Refute it at one input. -/
def identEventsWrong : ChangeSpec := { name := "identEvents", fn := fun _ => fun
  | [d1, d2, d3] => { results := [.lit (.bool false)], args := [d1, d2, d3] }
  | _ => none }
def IdentEventsWrongFalsely : Prop := identEventsRow.holds Tryd.pinned (OpenSpec.ofChange identEventsWrong)

/-- 'introitlaw11.IdentKnown': WHATEVER THE INPUT: true; the input reads as it did. -/
def identKnownSpec : ChangeSpec := { name := "identKnown", fn := fun _ => fun
  | [] => { results := [.lit (.bool true)], args := [] }
  | _ => none }
def identKnownRow : OpenClaim := { program := "ytonmpbfddiflhaadoor", sum := "979336ca6b0256a603b51e7a3a2cd8137999dae2d4d3f29ba9eaab73f10be640", func := "introit/introitlaw11.IdentKnown", spec := "identKnown", inPlace := ["internal/bytealg.IndexByteString", "internal/bytealg.IndexString"], unfollowed := true, recurses := true, named := ["internal/bytealg.MaxLen", "introit/b64.forURL"], apart := false, laid := [("introit/b64.forURL", laid_introit_b64_forURL)] }
def IdentKnownSaid : Prop := identKnownRow.holds Tryd.pinned (OpenSpec.ofChange identKnownSpec)

/-- ITS FALSE NEIGHBOUR: 'it returns false'. Refute it at one input. -/
def identKnownWrong : ChangeSpec := { name := "identKnown", fn := fun _ => fun
  | [] => { results := [.lit (.bool false)], args := [] }
  | _ => none }
def IdentKnownWrongFalsely : Prop := identKnownRow.holds Tryd.pinned (OpenSpec.ofChange identKnownWrong)

/- THE SECOND FORM. 'bulk': how many values and letters a reading holds, each counted each time it is reached (what is shared counts as often as it is met; a slice's spare places count too). A statement '..UptoSaid' is the law's where the arguments, and the package variables that the reading takes, are together of bulk at most 1048576: NARROWER than '..Said'. Prove '..Said' where nothing that the law and all that it calls make is longer than what came in: it says more and counts as full. Else prove '..UptoSaid'. A law counts once. -/
mutual
def uptoBulk {H : Type} : DataW H → Nat
  | .lit (.string bytes) => bytes.length + 1
  | .lit _ => 1
  | .nil => 1
  | .ptr d => uptoBulk d + 1
  | .slice elems spare => uptoBulkAll elems + uptoBulkAll spare + 1
  | .agg parts => uptoBulkAll parts + 1
  | .iface _ d => uptoBulk d + 1
  | .map entries => uptoBulkEntries entries + 1
  | .held _ => 1
def uptoBulkAll {H : Type} : List (DataW H) → Nat
  | [] => 0
  | d :: r => uptoBulk d + uptoBulkAll r
def uptoBulkEntries {H : Type} : List (Lit × DataW H) → Nat
  | [] => 0
  | x :: r => uptoBulkEntry x + uptoBulkEntries r
def uptoBulkEntry {H : Type} : Lit × DataW H → Nat
  | (.string bytes, d) => bytes.length + uptoBulk d + 1
  | (_, d) => uptoBulk d + 1
 end
def uptoSmall : (H : Type) → List (DataW H) → Bool := fun _ ds => decide (uptoBulkAll ds ≤ 1048576)
def OpenSpec.upto (s : _root_.Go.ChangeSpec) : _root_.Go.OpenSpec := { _root_.Go.OpenSpec.ofChange s with cond := some uptoSmall }

/-- 'introitlaw5.BaseJoins', WHERE WHAT IT READS IS OF BULK AT MOST 1048576: true; the input reads as it did. -/
def baseJoinsUptoRow : OpenClaim := { program := "ytonmpbfddiflhaadoor", sum := "979336ca6b0256a603b51e7a3a2cd8137999dae2d4d3f29ba9eaab73f10be640", func := "introit/introitlaw5.BaseJoins", spec := "baseJoins", unfollowed := true, recurses := true, named := ["introit/b64.standard", "introit/b64.forURL"], apart := false, laid := [("introit/b64.standard", laid_introit_b64_standard), ("introit/b64.forURL", laid_introit_b64_forURL)], narrowed := true }
def BaseJoinsUptoSaid : Prop := baseJoinsUptoRow.holds Tryd.pinned (OpenSpec.upto baseJoinsSpec)

/-- 'introitlaw5.BaseKnown', WHERE WHAT IT READS IS OF BULK AT MOST 1048576: true; the input reads as it did. -/
def baseKnownUptoRow : OpenClaim := { program := "ytonmpbfddiflhaadoor", sum := "979336ca6b0256a603b51e7a3a2cd8137999dae2d4d3f29ba9eaab73f10be640", func := "introit/introitlaw5.BaseKnown", spec := "baseKnown", unfollowed := true, recurses := true, named := ["introit/b64.standard", "introit/b64.forURL"], apart := false, laid := [("introit/b64.standard", laid_introit_b64_standard), ("introit/b64.forURL", laid_introit_b64_forURL)], narrowed := true }
def BaseKnownUptoSaid : Prop := baseKnownUptoRow.holds Tryd.pinned (OpenSpec.upto baseKnownSpec)

/-- 'introitlaw5.BaseSays', WHERE WHAT IT READS IS OF BULK AT MOST 1048576: true; the input reads as it did. -/
def baseSaysUptoRow : OpenClaim := { program := "ytonmpbfddiflhaadoor", sum := "979336ca6b0256a603b51e7a3a2cd8137999dae2d4d3f29ba9eaab73f10be640", func := "introit/introitlaw5.BaseSays", spec := "baseSays", unfollowed := true, recurses := true, named := ["introit/b64.standard", "introit/b64.forURL"], apart := false, laid := [("introit/b64.standard", laid_introit_b64_standard), ("introit/b64.forURL", laid_introit_b64_forURL)], narrowed := true }
def BaseSaysUptoSaid : Prop := baseSaysUptoRow.holds Tryd.pinned (OpenSpec.upto baseSaysSpec)

/-- 'introitlaw5.BaseBack', WHERE WHAT IT READS IS OF BULK AT MOST 1048576: true; the input reads as it did. -/
def baseBackUptoRow : OpenClaim := { program := "ytonmpbfddiflhaadoor", sum := "979336ca6b0256a603b51e7a3a2cd8137999dae2d4d3f29ba9eaab73f10be640", func := "introit/introitlaw5.BaseBack", spec := "baseBack", unfollowed := true, recurses := true, named := ["introit/b64.standard", "introit/b64.forURL"], apart := false, laid := [("introit/b64.standard", laid_introit_b64_standard), ("introit/b64.forURL", laid_introit_b64_forURL)], narrowed := true }
def BaseBackUptoSaid : Prop := baseBackUptoRow.holds Tryd.pinned (OpenSpec.upto baseBackSpec)

/-- 'introitlaw11.IdentParts', WHERE WHAT IT READS IS OF BULK AT MOST 1048576: true; the input reads as it did. -/
def identPartsUptoRow : OpenClaim := { program := "ytonmpbfddiflhaadoor", sum := "979336ca6b0256a603b51e7a3a2cd8137999dae2d4d3f29ba9eaab73f10be640", func := "introit/introitlaw11.IdentParts", spec := "identParts", inPlace := ["internal/bytealg.IndexByteString", "internal/bytealg.IndexString"], unfollowed := true, recurses := true, named := ["internal/bytealg.MaxLen", "introit/b64.forURL"], apart := false, laid := [("introit/b64.forURL", laid_introit_b64_forURL)], narrowed := true }
def IdentPartsUptoSaid : Prop := identPartsUptoRow.holds Tryd.pinned (OpenSpec.upto identPartsSpec)

/-- 'introitlaw11.IdentSays', WHERE WHAT IT READS IS OF BULK AT MOST 1048576: true; the input reads as it did. -/
def identSaysUptoRow : OpenClaim := { program := "ytonmpbfddiflhaadoor", sum := "979336ca6b0256a603b51e7a3a2cd8137999dae2d4d3f29ba9eaab73f10be640", func := "introit/introitlaw11.IdentSays", spec := "identSays", inPlace := ["internal/bytealg.IndexByteString", "internal/bytealg.IndexString"], unfollowed := true, recurses := true, named := ["internal/bytealg.MaxLen", "introit/b64.forURL"], apart := false, laid := [("introit/b64.forURL", laid_introit_b64_forURL)], narrowed := true }
def IdentSaysUptoSaid : Prop := identSaysUptoRow.holds Tryd.pinned (OpenSpec.upto identSaysSpec)

/-- 'introitlaw11.IdentEvents', WHERE WHAT IT READS IS OF BULK AT MOST 1048576: true; the input reads as it did. -/
def identEventsUptoRow : OpenClaim := { program := "ytonmpbfddiflhaadoor", sum := "979336ca6b0256a603b51e7a3a2cd8137999dae2d4d3f29ba9eaab73f10be640", func := "introit/introitlaw11.IdentEvents", spec := "identEvents", inPlace := ["internal/bytealg.IndexByteString", "internal/bytealg.IndexString"], unfollowed := true, recurses := true, named := ["internal/bytealg.MaxLen", "introit/b64.forURL"], apart := false, laid := [("introit/b64.forURL", laid_introit_b64_forURL)], narrowed := true }
def IdentEventsUptoSaid : Prop := identEventsUptoRow.holds Tryd.pinned (OpenSpec.upto identEventsSpec)

/-- 'introitlaw11.IdentKnown', WHERE WHAT IT READS IS OF BULK AT MOST 1048576: true; the input reads as it did. -/
def identKnownUptoRow : OpenClaim := { program := "ytonmpbfddiflhaadoor", sum := "979336ca6b0256a603b51e7a3a2cd8137999dae2d4d3f29ba9eaab73f10be640", func := "introit/introitlaw11.IdentKnown", spec := "identKnown", inPlace := ["internal/bytealg.IndexByteString", "internal/bytealg.IndexString"], unfollowed := true, recurses := true, named := ["internal/bytealg.MaxLen", "introit/b64.forURL"], apart := false, laid := [("introit/b64.forURL", laid_introit_b64_forURL)], narrowed := true }
def IdentKnownUptoSaid : Prop := identKnownUptoRow.holds Tryd.pinned (OpenSpec.upto identKnownSpec)

end Rows
end Go.Proofs.YtonmpbfddiflhaaDoor
