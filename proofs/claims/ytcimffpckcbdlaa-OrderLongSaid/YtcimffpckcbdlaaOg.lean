/- Contracts of functions, and plain facts about what they compute. -/
import Derived.Test.YtcimffpckcbdlaaOf
set_option linter.unusedSimpArgs false
set_option linter.unusedVariables false
/- Chapter 22: the document's Reach is what is reached. -/
namespace Go.Proofs.Ytcimffpckcbdlaa
open Go.AM
structure Sq where
  h : Hp
  S : AV
  L : List Tx
def Sq.ok (p : Sq) : Prop := elems p.S = some (p.L.map str) ∧ p.L.length < 1073741824
end Go.Proofs.Ytcimffpckcbdlaa

/- Chapter 22: the document's All is the order as it is meant. -/
namespace Go.Proofs.Ytcimffpckcbdlaa
open Go.AM
/-- The least of what is ready among the first. -/
def BestOk (l : List It) (out : List Tx) (i : Nat) : Option Nat → Prop
  | none => ∀ (j : Nat) (x : It), j < i → l[j]? = some x → rdyB out x = false
  | some b => ∃ y, l[b]? = some y ∧ rdyB out y = true ∧ ∀ (j : Nat) (x : It), j < i → l[j]? = some x → rdyB out x = true → bl x.1 y.1 = false
theorem BestOk.skip {l : List It} {out : List Tx} {i : Nat} {o : Option Nat} (h : BestOk l out i o) {x : It} (hx : l[i]? = some x) (hs : rdyB out x = false ∨ ∃ b y, o = some b ∧ l[b]? = some y ∧ bl x.1 y.1 = false) : BestOk l out (i + 1) o := by
  cases o with
  | none =>
    intro j z hj hz
    by_cases e : j = i
    · subst e
      rw [hx] at hz
      injection hz with hz
      subst hz
      rcases hs with hs | ⟨b, y, hb, _⟩
      · exact hs
      · cases hb
    · exact h j z (by omega) hz
  | some b =>
    obtain ⟨y, h1, h2, h3⟩ := h
    refine ⟨y, h1, h2, fun j z hj hz hr => ?_⟩
    by_cases e : j = i
    · subst e
      rw [hx] at hz
      injection hz with hz
      subst hz
      rcases hs with hs | ⟨b', y', hb, hy, hl⟩
      · rw [hs] at hr
        cases hr
      · injection hb with hb
        subst hb
        rw [h1] at hy
        injection hy with hy
        subst hy
        exact hl
    · exact h3 j z (by omega) hz hr
theorem BestOk.take {l : List It} {out : List Tx} {i : Nat} {o : Option Nat} (h : BestOk l out i o) {x : It} (hx : l[i]? = some x) (hr : rdyB out x = true) (hb : ∀ b y, o = some b → l[b]? = some y → bl y.1 x.1 = false) : BestOk l out (i + 1) (some i) := by
  refine ⟨x, hx, hr, fun j z hj hz hrz => ?_⟩
  by_cases e : j = i
  · subst e
    rw [hx] at hz
    injection hz with hz
    subst hz
    exact bl_irrefl _
  · cases o with
    | none =>
      rw [h j z (by omega) hz] at hrz
      cases hrz
    | some b =>
      obtain ⟨y, h1, h2, h3⟩ := h
      exact nlt_trans (hb b y rfl h1) (h3 j z (by omega) hz hrz)
theorem BestOk.some {l : List It} {out : List Tx} {b : Nat} (h : BestOk l out l.length (some b)) : ∃ y, l[b]? = Option.some y ∧ stepS l out = Option.some y.1 ∧ y.1 ∉ out := by
  obtain ⟨y, h1, h2, h3⟩ := h
  refine ⟨y, h1, ?_, (rdy_iff.1 h2).1⟩
  rw [stepS_some]
  refine ⟨⟨y, List.mem_of_getElem? h1, rfl, h2⟩, fun x hx hr => ?_⟩
  obtain ⟨j, hj⟩ := List.getElem?_of_mem hx
  exact h3 j x (List.getElem?_eq_some_iff.1 hj).1 hj hr
structure B1 (X : AV) (i : Nat) (e : Env) (h : Hp) : Prop where
  len : e.length = 132
  a0 : aget e 0 = X
  a4 : aget e 4 = .v (.int .i64 (i : Int))
  hp : h = {}
end Go.Proofs.Ytcimffpckcbdlaa
