/-
  No cell of these rows narrows 'for every input' (looked for: loops, veiled, ifaces, maps, wideKeys, modest, calm, conditions, laid).
  DERIVED. THE GIVEN ROWS OF THIS SEAT. 4 by the template 'for every input the law returns true; each argument reads behind the call as it read before'; 0 by the template 'total and deterministic' (their statements: YtonmpbfddiflhaaTotals.lean).
  GIVEN WITH THE SEED: the statements are not yours to turn. If you find one false, say at which input.
  Laid BY PROGRAM, IN A SANDBOX (cutbox-rows.mjs): the forced cells as the released guide's own fill.sh prints them over the translation 0111150cd71765c2… (all of the seat's roots in one cut). By AI agents, Wed Nov 11 2026. No macro, syntax, notation, axiom, sorry.
-/
import Derived.Test.YtonmpbfddiflhaaChecked
import GoSem.Claim
import GoSem.ClaimJoined
import GoSem.ClaimMapViews
import Derived.JoinedTies
import Derived.KernelRfl
namespace Go.Proofs.Ytonmpbfddiflhaa
/- THE CELL 'sum', in the pinned program and in every row, IS THE sha256 OF THE DUMP (.gsa) THAT YtonmpbfddiflhaaProg.lean LOADS. Nothing in Lean hashes anything: it is a label: what it is worth is what the hold of that sum in a sandbox is worth. -/
noncomputable def Try.pinned : Pinned := { name := "ytonmpbfddiflhaa", sum := "0111150cd71765c25852bd741ca7d17abf6cdfe9b280e741649e34939a684627", checked := Try.checked }
namespace Rows
def none {H : Type} : Left H := { results := [], args := [] }

/-- 'introitlaw15.KeysFind': WHATEVER THE INPUT: true; the input reads as it did. -/
def keysFindSpec : ChangeSpec := { name := "keysFind", fn := fun _ => fun
  | [d1, d2, d3] => { results := [.lit (.bool true)], args := [d1, d2, d3] }
  | _ => none }
def keysFindRow : OpenClaim := { program := "ytonmpbfddiflhaa", sum := "0111150cd71765c25852bd741ca7d17abf6cdfe9b280e741649e34939a684627", func := "introit/introitlaw15.KeysFind", spec := "keysFind", inPlace := ["internal/bytealg.IndexByteString", "internal/bytealg.IndexString"], unfollowed := true, recurses := true, named := ["internal/bytealg.MaxLen"], apart := false }
def KeysFindSaid : Prop := keysFindRow.holds Try.pinned (OpenSpec.ofChange keysFindSpec)

/-- ITS FALSE NEIGHBOUR: 'it returns false'. Refute it at one input. -/
def keysFindWrong : ChangeSpec := { name := "keysFind", fn := fun _ => fun
  | [d1, d2, d3] => { results := [.lit (.bool false)], args := [d1, d2, d3] }
  | _ => none }
def KeysFindWrongFalsely : Prop := keysFindRow.holds Try.pinned (OpenSpec.ofChange keysFindWrong)

/-- 'introitlaw15.KeysKnown': WHATEVER THE INPUT: true; the input reads as it did. -/
def keysKnownSpec : ChangeSpec := { name := "keysKnown", fn := fun _ => fun
  | [] => { results := [.lit (.bool true)], args := [] }
  | _ => none }
def keysKnownRow : OpenClaim := { program := "ytonmpbfddiflhaa", sum := "0111150cd71765c25852bd741ca7d17abf6cdfe9b280e741649e34939a684627", func := "introit/introitlaw15.KeysKnown", spec := "keysKnown", inPlace := ["internal/bytealg.IndexByteString", "internal/bytealg.IndexString"], unfollowed := true, recurses := true, named := ["internal/bytealg.MaxLen"], apart := false }
def KeysKnownSaid : Prop := keysKnownRow.holds Try.pinned (OpenSpec.ofChange keysKnownSpec)

/-- ITS FALSE NEIGHBOUR: 'it returns false'. Refute it at one input. -/
def keysKnownWrong : ChangeSpec := { name := "keysKnown", fn := fun _ => fun
  | [] => { results := [.lit (.bool false)], args := [] }
  | _ => none }
def KeysKnownWrongFalsely : Prop := keysKnownRow.holds Try.pinned (OpenSpec.ofChange keysKnownWrong)

/-- 'introitlaw15.KeysSays': WHATEVER THE INPUT: true; the input reads as it did. -/
def keysSaysSpec : ChangeSpec := { name := "keysSays", fn := fun _ => fun
  | [d1, d2, d3, d4, d5] => { results := [.lit (.bool true)], args := [d1, d2, d3, d4, d5] }
  | _ => none }
def keysSaysRow : OpenClaim := { program := "ytonmpbfddiflhaa", sum := "0111150cd71765c25852bd741ca7d17abf6cdfe9b280e741649e34939a684627", func := "introit/introitlaw15.KeysSays", spec := "keysSays", inPlace := ["internal/bytealg.IndexByteString", "internal/bytealg.IndexString"], unfollowed := true, recurses := true, named := ["internal/bytealg.MaxLen"], apart := false }
def KeysSaysSaid : Prop := keysSaysRow.holds Try.pinned (OpenSpec.ofChange keysSaysSpec)

/-- ITS FALSE NEIGHBOUR: 'it returns false'. Refute it at one input. -/
def keysSaysWrong : ChangeSpec := { name := "keysSays", fn := fun _ => fun
  | [d1, d2, d3, d4, d5] => { results := [.lit (.bool false)], args := [d1, d2, d3, d4, d5] }
  | _ => none }
def KeysSaysWrongFalsely : Prop := keysSaysRow.holds Try.pinned (OpenSpec.ofChange keysSaysWrong)

/-- 'introitlaw15.KeysPuts': WHATEVER THE INPUT: true; the input reads as it did. -/
def keysPutsSpec : ChangeSpec := { name := "keysPuts", fn := fun _ => fun
  | [d] => { results := [.lit (.bool true)], args := [d] }
  | _ => none }
def keysPutsRow : OpenClaim := { program := "ytonmpbfddiflhaa", sum := "0111150cd71765c25852bd741ca7d17abf6cdfe9b280e741649e34939a684627", func := "introit/introitlaw15.KeysPuts", spec := "keysPuts", inPlace := ["internal/bytealg.IndexByteString", "internal/bytealg.IndexString"], unfollowed := true, recurses := true, named := ["internal/bytealg.MaxLen"], apart := false }
def KeysPutsSaid : Prop := keysPutsRow.holds Try.pinned (OpenSpec.ofChange keysPutsSpec)

/-- ITS FALSE NEIGHBOUR: 'it returns false'. Refute it at one input. -/
def keysPutsWrong : ChangeSpec := { name := "keysPuts", fn := fun _ => fun
  | [d] => { results := [.lit (.bool false)], args := [d] }
  | _ => none }
def KeysPutsWrongFalsely : Prop := keysPutsRow.holds Try.pinned (OpenSpec.ofChange keysPutsWrong)

/- THE SECOND FORM. 'bulk': how many values and letters a reading holds, each counted each time it is reached (what is shared counts as often as it is met; a slice's spare places count too). A statement '..UptoSaid' is the law's where the arguments, and the package variables that the reading takes, are together of bulk at most 1048576: NARROWER than '..Said'. Prove '..Said' where nothing that the law and all that it calls make is longer than what came in: it says more and counts as full. Else prove '..UptoSaid'. A law counts once. -/
mutual
def uptoBulk {H : Type} : DataW H → Nat
  | .lit (.string bytes) => bytes.length + 1
  | .lit _ => 1
  | .nil => 1
  | .ptr d => uptoBulk d + 1
  | .slice elems spare => uptoBulkAll elems + uptoBulkAll spare + 1
  | .agg parts => uptoBulkAll parts + 1
  | .iface _ d => uptoBulk d + 1
  | .map entries => uptoBulkEntries entries + 1
  | .held _ => 1
def uptoBulkAll {H : Type} : List (DataW H) → Nat
  | [] => 0
  | d :: r => uptoBulk d + uptoBulkAll r
def uptoBulkEntries {H : Type} : List (Lit × DataW H) → Nat
  | [] => 0
  | x :: r => uptoBulkEntry x + uptoBulkEntries r
def uptoBulkEntry {H : Type} : Lit × DataW H → Nat
  | (.string bytes, d) => bytes.length + uptoBulk d + 1
  | (_, d) => uptoBulk d + 1
 end
def uptoSmall : (H : Type) → List (DataW H) → Bool := fun _ ds => decide (uptoBulkAll ds ≤ 1048576)
def OpenSpec.upto (s : _root_.Go.ChangeSpec) : _root_.Go.OpenSpec := { _root_.Go.OpenSpec.ofChange s with cond := some uptoSmall }

/-- 'introitlaw15.KeysFind', WHERE WHAT IT READS IS OF BULK AT MOST 1048576: true; the input reads as it did. -/
def keysFindUptoRow : OpenClaim := { program := "ytonmpbfddiflhaa", sum := "0111150cd71765c25852bd741ca7d17abf6cdfe9b280e741649e34939a684627", func := "introit/introitlaw15.KeysFind", spec := "keysFind", inPlace := ["internal/bytealg.IndexByteString", "internal/bytealg.IndexString"], unfollowed := true, recurses := true, named := ["internal/bytealg.MaxLen"], apart := false, narrowed := true }
def KeysFindUptoSaid : Prop := keysFindUptoRow.holds Try.pinned (OpenSpec.upto keysFindSpec)

/-- 'introitlaw15.KeysKnown', WHERE WHAT IT READS IS OF BULK AT MOST 1048576: true; the input reads as it did. -/
def keysKnownUptoRow : OpenClaim := { program := "ytonmpbfddiflhaa", sum := "0111150cd71765c25852bd741ca7d17abf6cdfe9b280e741649e34939a684627", func := "introit/introitlaw15.KeysKnown", spec := "keysKnown", inPlace := ["internal/bytealg.IndexByteString", "internal/bytealg.IndexString"], unfollowed := true, recurses := true, named := ["internal/bytealg.MaxLen"], apart := false, narrowed := true }
def KeysKnownUptoSaid : Prop := keysKnownUptoRow.holds Try.pinned (OpenSpec.upto keysKnownSpec)

/-- 'introitlaw15.KeysSays', WHERE WHAT IT READS IS OF BULK AT MOST 1048576: true; the input reads as it did. -/
def keysSaysUptoRow : OpenClaim := { program := "ytonmpbfddiflhaa", sum := "0111150cd71765c25852bd741ca7d17abf6cdfe9b280e741649e34939a684627", func := "introit/introitlaw15.KeysSays", spec := "keysSays", inPlace := ["internal/bytealg.IndexByteString", "internal/bytealg.IndexString"], unfollowed := true, recurses := true, named := ["internal/bytealg.MaxLen"], apart := false, narrowed := true }
def KeysSaysUptoSaid : Prop := keysSaysUptoRow.holds Try.pinned (OpenSpec.upto keysSaysSpec)

/-- 'introitlaw15.KeysPuts', WHERE WHAT IT READS IS OF BULK AT MOST 1048576: true; the input reads as it did. -/
def keysPutsUptoRow : OpenClaim := { program := "ytonmpbfddiflhaa", sum := "0111150cd71765c25852bd741ca7d17abf6cdfe9b280e741649e34939a684627", func := "introit/introitlaw15.KeysPuts", spec := "keysPuts", inPlace := ["internal/bytealg.IndexByteString", "internal/bytealg.IndexString"], unfollowed := true, recurses := true, named := ["internal/bytealg.MaxLen"], apart := false, narrowed := true }
def KeysPutsUptoSaid : Prop := keysPutsUptoRow.holds Try.pinned (OpenSpec.upto keysPutsSpec)

end Rows
end Go.Proofs.Ytonmpbfddiflhaa
