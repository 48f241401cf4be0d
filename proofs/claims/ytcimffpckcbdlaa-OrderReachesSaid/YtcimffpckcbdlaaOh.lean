/- Contracts of functions, and plain facts about what they compute. -/
import Derived.Test.YtcimffpckcbdlaaOg
set_option linter.unusedSimpArgs false
set_option linter.unusedVariables false
/- Chapter 22: OrderSays. -/
namespace Go.Proofs.Ytcimffpckcbdlaa
open Go.AM
structure Re where
  l : List It
  X : AV
  fr : List Tx
  F : AV
def Re.ok (p : Re) : Prop := (∃ ys, elems p.X = some ys ∧ ItsE p.l ys) ∧ elems p.F = some (p.fr.map str) ∧ slK p.F ∧ p.l.length < 16384 ∧ (∀ x ∈ p.l, x.2.length < 4096) ∧ p.fr.length < 16384
def Re.okR (p : Re) : Prop := p.ok ∧ p.X.bare = some p.X
theorem Re.inj {p q : Re} (hp : p.ok) (hq : q.ok) (h1 : p.X = q.X) (h2 : p.F = q.F) : p.l = q.l ∧ p.fr = q.fr := by
  obtain ⟨⟨ys, h3, h4⟩, h5, _⟩ := hp
  obtain ⟨⟨zs, h6, h7⟩, h8, _⟩ := hq
  rw [h1, h6] at h3
  injection h3 with h3
  subst h3
  rw [h2, h8] at h5
  injection h5 with h5
  exact ⟨h4.inj h7, (strs_eq h5).symm⟩
noncomputable def reachQ := relP Re.ok (fun p => [p.X, p.F]) (fun p => slS (reachL p.l p.fr))
theorem reachQ_eq {l : List It} {X F : AV} {ys : List AV} {fr : List Tx} (h1 : elems X = some ys) (h2 : ItsE l ys) (h3 : elems F = some (fr.map str)) (h4 : slK F) (h5 : l.length < 16384) (h6 : ∀ x ∈ l, x.2.length < 4096) (h7 : fr.length < 16384) : reachQ [X, F] = some (slS (reachL l fr)) :=
  relP_eq (X := Re.ok) (a := fun p => [p.X, p.F]) (r := fun p => slS (reachL p.l p.fr)) (fun p q hp hq e => by
    injection e with e1 e
    injection e with e2 _
    obtain ⟨e3, e4⟩ := Re.inj hp hq e1 e2
    rw [e3, e4]) ⟨l, X, fr, F⟩ ⟨⟨ys, h1, h2⟩, h3, h4, h5, h6, h7⟩
theorem reachQ_ok : ∀ xs y, reachQ xs = some y → PureOk (cfgP nP) 12 xs y := relP_ok (R := fun xs y => PureOk (cfgP nP) 12 xs y) fun p hp => by
  obtain ⟨⟨ys, h1, h2⟩, h3, h4, h5, h6, h7⟩ := hp
  exact reach_ok p.l p.X ys p.fr p.F h1 h2 h3 h4 h5 h6 h7
noncomputable def reachRQ := relP Re.okR (fun p => [p.X, p.F]) (fun p => slS (reachL p.l p.fr))
theorem reachRQ_ok : ∀ xs y, reachRQ xs = some y → PureOk (cfgP ow2) 14 xs y := relP_ok (R := fun xs y => PureOk (cfgP ow2) 14 xs y) fun p hp => by
  obtain ⟨⟨⟨ys, h1, h2⟩, h3, h4, h5, h6, h7⟩, hb⟩ := hp
  exact reachR_ok p.l p.X ys p.fr p.F h1 hb h2 h3 (by omega) (fun x hx => by have := h6 x hx; omega) (by omega)
def Ia.okR (p : Ia) : Prop := p.ok ∧ p.X.bare = some p.X
noncomputable def allRQ := relP Ia.okR (fun p => [p.X]) (fun p => allV p.l)
theorem allRQ_ok : ∀ xs y, allRQ xs = some y → PureOk (cfgP ow2) 13 xs y := relP_ok (R := fun xs y => PureOk (cfgP ow2) 13 xs y) fun p hp => by
  obtain ⟨⟨⟨ys, h1, h2⟩, h3, h4⟩, hb⟩ := hp
  exact allR_ok p.l p.X ys h1 hb h2 (by omega) (fun x hx => by have := h4 x hx; omega)
noncomputable def ow3 : FuncId → Option (List AV → Option AV) := tab [(10, allQ), (12, reachQ), (13, allRQ), (14, reachRQ), (11, textsQ), (9, fewQ), (8, oawakeP)]
theorem ow3_ok : (cfgP ow3).Ok := cfg_ok (tab_ok ⟨prim_at Try.func10 (by kernel_rfl) rfl (allQ_ok), prim_at Try.func12 (by kernel_rfl) rfl (reachQ_ok), prim_at Try.func13 (by kernel_rfl) rfl (allRQ_ok), prim_at Try.func14 (by kernel_rfl) rfl (reachRQ_ok), prim_at Try.func11 (by kernel_rfl) rfl (textsQ_ok), prim_at Try.func9 (by kernel_rfl) rfl (fewQ_ok), prim_at Try.func8 (by kernel_rfl) rfl (oawake_ok), trivial⟩)
theorem ow3_12 : (cfgP ow3).prim 12 = some reachQ := rfl
theorem ow3_11 : (cfgP ow3).prim 11 = some textsQ := rfl
theorem ow3_9 : (cfgP ow3).prim 9 = some fewQ := rfl
theorem ow3_8 : (cfgP ow3).prim 8 = some oawakeP := rfl
theorem reachL_spec {l : List It} {fr : List Tx} : reachL l fr = [] ∨ (Asc (reachL l fr) ∧ ∀ t, t ∈ reachL l fr ↔ Rc l fr t) := by
  unfold reachL
  split
  · rename_i h
    exact .inr h.choose_spec
  · exact .inl rfl
theorem reachL_len {l : List It} {fr : List Tx} : (reachL l fr).length ≤ l.length := by
  rcases reachL_spec (l := l) (fr := fr) with h | ⟨h1, h2⟩
  · rw [h]; exact Nat.zero_le _
  · exact RI.sub h1.nodup fun t ht => (h2 t).1 ht
end Go.Proofs.Ytcimffpckcbdlaa
