/- Contracts of functions, and plain facts about what they compute. -/
import Derived.Test.YtcimffpckcbdlaaOe
set_option linter.unusedSimpArgs false
set_option linter.unusedVariables false
/- Chapter 22: the document's place, Has, Sorted. -/
namespace Go.Proofs.Ytcimffpckcbdlaa
open Go.AM
structure Pa where
  l : List It
  X : AV
  t : Tx
def Pa.ok (p : Pa) : Prop := (∃ ys, elems p.X = some ys ∧ ItsE p.l ys) ∧ p.l.length < 1073741824
/-! ### Has -/
structure Ha where
  L : List Tx
  S : AV
  t : Tx
def Ha.ok (p : Ha) : Prop := elems p.S = some (p.L.map str) ∧ p.L.length < 1073741824
end Go.Proofs.Ytcimffpckcbdlaa

/- Chapter 22: the document's Sorted. -/
namespace Go.Proofs.Ytcimffpckcbdlaa
open Go.AM
section
variable {prim : FuncId → Option (List AV → Option AV)} {H : Hp} {R : List Tx}
end
end Go.Proofs.Ytcimffpckcbdlaa
