/- Contracts of functions, and plain facts about what they compute. -/
import Derived.Test.YtcimffpckcbdlaaOg
set_option linter.unusedSimpArgs false
set_option linter.unusedVariables false
/- Chapter 22: OrderSays. -/
namespace Go.Proofs.Ytcimffpckcbdlaa
open Go.AM
structure Re where
  l : List It
  X : AV
  fr : List Tx
  F : AV
def Re.ok (p : Re) : Prop := (∃ ys, elems p.X = some ys ∧ ItsE p.l ys) ∧ elems p.F = some (p.fr.map str) ∧ slK p.F ∧ p.l.length < 16384 ∧ (∀ x ∈ p.l, x.2.length < 4096) ∧ p.fr.length < 16384
theorem Re.inj {p q : Re} (hp : p.ok) (hq : q.ok) (h1 : p.X = q.X) (h2 : p.F = q.F) : p.l = q.l ∧ p.fr = q.fr := by
  obtain ⟨⟨ys, h3, h4⟩, h5, _⟩ := hp
  obtain ⟨⟨zs, h6, h7⟩, h8, _⟩ := hq
  rw [h1, h6] at h3
  injection h3 with h3
  subst h3
  rw [h2, h8] at h5
  injection h5 with h5
  exact ⟨h4.inj h7, (strs_eq h5).symm⟩
noncomputable def reachQ := relP Re.ok (fun p => [p.X, p.F]) (fun p => slS (reachL p.l p.fr))
theorem reachQ_eq {l : List It} {X F : AV} {ys : List AV} {fr : List Tx} (h1 : elems X = some ys) (h2 : ItsE l ys) (h3 : elems F = some (fr.map str)) (h4 : slK F) (h5 : l.length < 16384) (h6 : ∀ x ∈ l, x.2.length < 4096) (h7 : fr.length < 16384) : reachQ [X, F] = some (slS (reachL l fr)) :=
  relP_eq (X := Re.ok) (a := fun p => [p.X, p.F]) (r := fun p => slS (reachL p.l p.fr)) (fun p q hp hq e => by
    injection e with e1 e
    injection e with e2 _
    obtain ⟨e3, e4⟩ := Re.inj hp hq e1 e2
    rw [e3, e4]) ⟨l, X, fr, F⟩ ⟨⟨ys, h1, h2⟩, h3, h4, h5, h6, h7⟩
theorem reachQ_ok : ∀ xs y, reachQ xs = some y → PureOk (cfgP nP) 12 xs y := relP_ok (R := fun xs y => PureOk (cfgP nP) 12 xs y) fun p hp => by
  obtain ⟨⟨ys, h1, h2⟩, h3, h4, h5, h6, h7⟩ := hp
  exact reach_ok p.l p.X ys p.fr p.F h1 h2 h3 h4 h5 h6 h7
end Go.Proofs.Ytcimffpckcbdlaa

/- Chapter 22: OrderReaches. -/
namespace Go.Proofs.Ytcimffpckcbdlaa
open Go.AM
/-! ### Some maps -/
def LkG (h : Hp) (m : Nat) (f : Tx → Option Nat) : Prop := ∃ es, h.mps[m]? = some es ∧ ∀ t : Tx, lookM ⟨t.toArray⟩ es = (f t).map fun (k : Nat) => AV.v (.int .i64 (k : Int))
def putG (h : Hp) (m : Nat) (t : Tx) (k : Nat) : Hp := { h with mps := h.mps.set m (putM ⟨t.toArray⟩ (.v (.int .i64 (k : Int))) ((h.mps[m]?).getD [])) }
section
variable {prim : FuncId → Option (List AV → Option AV)} {h : Hp} {m : Nat} {f : Tx → Option Nat} {t : Tx}
theorem LkG.some (L : LkG h m f) {k : Nat} (hf : f t = Option.some k) : lookA (cfgP prim) 31 (.mp m) (str t) false h = Option.some (.v (.int .i64 (k : Int))) := by
  obtain ⟨es, h1, h2⟩ := L
  have hu : (cfgP prim).und 31 = Option.some (.map 9 3) := by kernel_rfl
  show lookA (cfgP prim) 31 (.mp m) (.v (.string ⟨t.toArray⟩)) false h = _
  simp only [lookA, hu, u9, h1, h2 t, hf, Option.map_some]
  rfl
theorem LkG.put (L : LkG h m f) {k : Nat} {g : Tx → Option Nat} (hg : ∀ s, g s = if s = t then Option.some k else f s) : LkG (putG h m t k) m g := by
  obtain ⟨es, h1, h2⟩ := L
  have hm := (List.getElem?_eq_some_iff.1 h1).1
  refine ⟨_, List.getElem?_set_self hm, fun s => ?_⟩
  rw [h1, Option.getD_some, lookM_put, hg]
  by_cases hs : s = t
  · subst hs
    simp
  · rw [if_neg hs, if_neg (fun e => hs (ba_inj e)), h2]
theorem LkG.other (L : LkG h m f) {m' k : Nat} (hm : m' ≠ m) : LkG (putG h m' t k) m f := by
  obtain ⟨es, h1, h2⟩ := L
  exact ⟨es, (List.getElem?_set_ne hm).trans h1, h2⟩
theorem LkG.of {h' : Hp} (L : LkG h m f) (e : h'.mps = h.mps) : LkG h' m f := by
  obtain ⟨es, h1, h2⟩ := L
  exact ⟨es, by rw [e]; exact h1, h2⟩
end
end Go.Proofs.Ytcimffpckcbdlaa
