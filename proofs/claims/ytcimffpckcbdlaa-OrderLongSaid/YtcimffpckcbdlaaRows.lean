/-
  No cell of these rows narrows 'for every input' (looked for: loops, veiled, ifaces, maps, wideKeys, modest, calm, conditions, laid).
  DERIVED. THE GIVEN ROWS OF THIS SEAT. 5 by the template 'for every input the law returns true; each argument reads behind the call as it read before'; 0 by the template 'total and deterministic' (their statements: YtcimffpckcbdlaaTotals.lean).
  GIVEN WITH THE SEED: the statements are not yours to turn. If you find one false, say at which input.
  Laid BY PROGRAM, IN A SANDBOX (cutbox-rows.mjs): the forced cells as the released guide's own fill.sh prints them over the translation 4dcd9ae1467bde6b… (all of the seat's roots in one cut). By AI agents, Wed Nov 11 2026. No macro, syntax, notation, axiom, sorry.
-/
import Derived.Test.YtcimffpckcbdlaaChecked
import GoSem.Claim
import GoSem.ClaimJoined
import GoSem.ClaimMapViews
import Derived.JoinedTies
import Derived.KernelRfl
namespace Go.Proofs.Ytcimffpckcbdlaa
/- THE CELL 'sum', in the pinned program and in every row, IS THE sha256 OF THE DUMP (.gsa) THAT YtcimffpckcbdlaaProg.lean LOADS. Nothing in Lean hashes anything: it is a label: what it is worth is what the hold of that sum in a sandbox is worth. -/
noncomputable def Try.pinned : Pinned := { name := "ytcimffpckcbdlaa", sum := "4dcd9ae1467bde6b91ea4e58a3d88c144a4d7ffba2e8dcf42c54d23e55aeb5ba", checked := Try.checked }
namespace Rows
def none {H : Type} : Left H := { results := [], args := [] }

/-- 'introitlaw22.OrderRises': WHATEVER THE INPUT: true; the input reads as it did. -/
def orderRisesSpec : ChangeSpec := { name := "orderRises", fn := fun _ => fun
  | [d1, d2] => { results := [.lit (.bool true)], args := [d1, d2] }
  | _ => none }
def orderRisesRow : OpenClaim := { program := "ytcimffpckcbdlaa", sum := "4dcd9ae1467bde6b91ea4e58a3d88c144a4d7ffba2e8dcf42c54d23e55aeb5ba", func := "introit/introitlaw22.OrderRises", spec := "orderRises", unfollowed := true, recurses := true, apart := false }
def OrderRisesSaid : Prop := orderRisesRow.holds Try.pinned (OpenSpec.ofChange orderRisesSpec)

/-- ITS FALSE NEIGHBOUR: 'it returns false'. Refute it at one input. -/
def orderRisesWrong : ChangeSpec := { name := "orderRises", fn := fun _ => fun
  | [d1, d2] => { results := [.lit (.bool false)], args := [d1, d2] }
  | _ => none }
def OrderRisesWrongFalsely : Prop := orderRisesRow.holds Try.pinned (OpenSpec.ofChange orderRisesWrong)

/-- 'introitlaw22.OrderKnown': WHATEVER THE INPUT: true; the input reads as it did. -/
def orderKnownSpec : ChangeSpec := { name := "orderKnown", fn := fun _ => fun
  | [] => { results := [.lit (.bool true)], args := [] }
  | _ => none }
def orderKnownRow : OpenClaim := { program := "ytcimffpckcbdlaa", sum := "4dcd9ae1467bde6b91ea4e58a3d88c144a4d7ffba2e8dcf42c54d23e55aeb5ba", func := "introit/introitlaw22.OrderKnown", spec := "orderKnown", unfollowed := true, recurses := true, apart := false }
def OrderKnownSaid : Prop := orderKnownRow.holds Try.pinned (OpenSpec.ofChange orderKnownSpec)

/-- ITS FALSE NEIGHBOUR: 'it returns false'. Refute it at one input. -/
def orderKnownWrong : ChangeSpec := { name := "orderKnown", fn := fun _ => fun
  | [] => { results := [.lit (.bool false)], args := [] }
  | _ => none }
def OrderKnownWrongFalsely : Prop := orderKnownRow.holds Try.pinned (OpenSpec.ofChange orderKnownWrong)

/-- 'introitlaw22.OrderSays': WHATEVER THE INPUT: true; the input reads as it did. -/
def orderSaysSpec : ChangeSpec := { name := "orderSays", fn := fun _ => fun
  | [d1, d2] => { results := [.lit (.bool true)], args := [d1, d2] }
  | _ => none }
def orderSaysRow : OpenClaim := { program := "ytcimffpckcbdlaa", sum := "4dcd9ae1467bde6b91ea4e58a3d88c144a4d7ffba2e8dcf42c54d23e55aeb5ba", func := "introit/introitlaw22.OrderSays", spec := "orderSays", unfollowed := true, recurses := true, apart := false }
def OrderSaysSaid : Prop := orderSaysRow.holds Try.pinned (OpenSpec.ofChange orderSaysSpec)

/-- ITS FALSE NEIGHBOUR: 'it returns false'. Refute it at one input. -/
def orderSaysWrong : ChangeSpec := { name := "orderSays", fn := fun _ => fun
  | [d1, d2] => { results := [.lit (.bool false)], args := [d1, d2] }
  | _ => none }
def OrderSaysWrongFalsely : Prop := orderSaysRow.holds Try.pinned (OpenSpec.ofChange orderSaysWrong)

/-- 'introitlaw22.OrderReaches': WHATEVER THE INPUT: true; the input reads as it did. -/
def orderReachesSpec : ChangeSpec := { name := "orderReaches", fn := fun _ => fun
  | [d1, d2] => { results := [.lit (.bool true)], args := [d1, d2] }
  | _ => none }
def orderReachesRow : OpenClaim := { program := "ytcimffpckcbdlaa", sum := "4dcd9ae1467bde6b91ea4e58a3d88c144a4d7ffba2e8dcf42c54d23e55aeb5ba", func := "introit/introitlaw22.OrderReaches", spec := "orderReaches", unfollowed := true, recurses := true, apart := false }
def OrderReachesSaid : Prop := orderReachesRow.holds Try.pinned (OpenSpec.ofChange orderReachesSpec)

/-- ITS FALSE NEIGHBOUR: 'it returns false'. Refute it at one input. -/
def orderReachesWrong : ChangeSpec := { name := "orderReaches", fn := fun _ => fun
  | [d1, d2] => { results := [.lit (.bool false)], args := [d1, d2] }
  | _ => none }
def OrderReachesWrongFalsely : Prop := orderReachesRow.holds Try.pinned (OpenSpec.ofChange orderReachesWrong)

/-- 'introitlaw22.OrderLong': WHATEVER THE INPUT: true; the input reads as it did. -/
def orderLongSpec : ChangeSpec := { name := "orderLong", fn := fun _ => fun
  | [d1, d2] => { results := [.lit (.bool true)], args := [d1, d2] }
  | _ => none }
def orderLongRow : OpenClaim := { program := "ytcimffpckcbdlaa", sum := "4dcd9ae1467bde6b91ea4e58a3d88c144a4d7ffba2e8dcf42c54d23e55aeb5ba", func := "introit/introitlaw22.OrderLong", spec := "orderLong", unfollowed := true, recurses := true, apart := false }
def OrderLongSaid : Prop := orderLongRow.holds Try.pinned (OpenSpec.ofChange orderLongSpec)

/-- ITS FALSE NEIGHBOUR: 'it returns false'. Refute it at one input. -/
def orderLongWrong : ChangeSpec := { name := "orderLong", fn := fun _ => fun
  | [d1, d2] => { results := [.lit (.bool false)], args := [d1, d2] }
  | _ => none }
def OrderLongWrongFalsely : Prop := orderLongRow.holds Try.pinned (OpenSpec.ofChange orderLongWrong)

/- THE SECOND FORM. 'bulk': how many values and letters a reading holds, each counted each time it is reached (what is shared counts as often as it is met; a slice's spare places count too). A statement '..UptoSaid' is the law's where the arguments, and the package variables that the reading takes, are together of bulk at most 1048576: NARROWER than '..Said'. Prove '..Said' where nothing that the law and all that it calls make is longer than what came in: it says more and counts as full. Else prove '..UptoSaid'. A law counts once. -/
mutual
def uptoBulk {H : Type} : DataW H → Nat
  | .lit (.string bytes) => bytes.length + 1
  | .lit _ => 1
  | .nil => 1
  | .ptr d => uptoBulk d + 1
  | .slice elems spare => uptoBulkAll elems + uptoBulkAll spare + 1
  | .agg parts => uptoBulkAll parts + 1
  | .iface _ d => uptoBulk d + 1
  | .map entries => uptoBulkEntries entries + 1
  | .held _ => 1
def uptoBulkAll {H : Type} : List (DataW H) → Nat
  | [] => 0
  | d :: r => uptoBulk d + uptoBulkAll r
def uptoBulkEntries {H : Type} : List (Lit × DataW H) → Nat
  | [] => 0
  | x :: r => uptoBulkEntry x + uptoBulkEntries r
def uptoBulkEntry {H : Type} : Lit × DataW H → Nat
  | (.string bytes, d) => bytes.length + uptoBulk d + 1
  | (_, d) => uptoBulk d + 1
 end
def uptoSmall : (H : Type) → List (DataW H) → Bool := fun _ ds => decide (uptoBulkAll ds ≤ 1048576)
def OpenSpec.upto (s : _root_.Go.ChangeSpec) : _root_.Go.OpenSpec := { _root_.Go.OpenSpec.ofChange s with cond := some uptoSmall }

/-- 'introitlaw22.OrderRises', WHERE WHAT IT READS IS OF BULK AT MOST 1048576: true; the input reads as it did. -/
def orderRisesUptoRow : OpenClaim := { program := "ytcimffpckcbdlaa", sum := "4dcd9ae1467bde6b91ea4e58a3d88c144a4d7ffba2e8dcf42c54d23e55aeb5ba", func := "introit/introitlaw22.OrderRises", spec := "orderRises", unfollowed := true, recurses := true, apart := false, narrowed := true }
def OrderRisesUptoSaid : Prop := orderRisesUptoRow.holds Try.pinned (OpenSpec.upto orderRisesSpec)

/-- 'introitlaw22.OrderKnown', WHERE WHAT IT READS IS OF BULK AT MOST 1048576: true; the input reads as it did. -/
def orderKnownUptoRow : OpenClaim := { program := "ytcimffpckcbdlaa", sum := "4dcd9ae1467bde6b91ea4e58a3d88c144a4d7ffba2e8dcf42c54d23e55aeb5ba", func := "introit/introitlaw22.OrderKnown", spec := "orderKnown", unfollowed := true, recurses := true, apart := false, narrowed := true }
def OrderKnownUptoSaid : Prop := orderKnownUptoRow.holds Try.pinned (OpenSpec.upto orderKnownSpec)

/-- 'introitlaw22.OrderSays', WHERE WHAT IT READS IS OF BULK AT MOST 1048576: true; the input reads as it did. -/
def orderSaysUptoRow : OpenClaim := { program := "ytcimffpckcbdlaa", sum := "4dcd9ae1467bde6b91ea4e58a3d88c144a4d7ffba2e8dcf42c54d23e55aeb5ba", func := "introit/introitlaw22.OrderSays", spec := "orderSays", unfollowed := true, recurses := true, apart := false, narrowed := true }
def OrderSaysUptoSaid : Prop := orderSaysUptoRow.holds Try.pinned (OpenSpec.upto orderSaysSpec)

/-- 'introitlaw22.OrderReaches', WHERE WHAT IT READS IS OF BULK AT MOST 1048576: true; the input reads as it did. -/
def orderReachesUptoRow : OpenClaim := { program := "ytcimffpckcbdlaa", sum := "4dcd9ae1467bde6b91ea4e58a3d88c144a4d7ffba2e8dcf42c54d23e55aeb5ba", func := "introit/introitlaw22.OrderReaches", spec := "orderReaches", unfollowed := true, recurses := true, apart := false, narrowed := true }
def OrderReachesUptoSaid : Prop := orderReachesUptoRow.holds Try.pinned (OpenSpec.upto orderReachesSpec)

/-- 'introitlaw22.OrderLong', WHERE WHAT IT READS IS OF BULK AT MOST 1048576: true; the input reads as it did. -/
def orderLongUptoRow : OpenClaim := { program := "ytcimffpckcbdlaa", sum := "4dcd9ae1467bde6b91ea4e58a3d88c144a4d7ffba2e8dcf42c54d23e55aeb5ba", func := "introit/introitlaw22.OrderLong", spec := "orderLong", unfollowed := true, recurses := true, apart := false, narrowed := true }
def OrderLongUptoSaid : Prop := orderLongUptoRow.holds Try.pinned (OpenSpec.upto orderLongSpec)

end Rows
end Go.Proofs.Ytcimffpckcbdlaa
