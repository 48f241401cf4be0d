/- Contracts of functions, and plain facts about what they compute. -/
import Derived.Test.YtcimffpckcbdlaaOg
set_option linter.unusedSimpArgs false
set_option linter.unusedVariables false
/- Chapter 22: OrderSays. -/
namespace Go.Proofs.Ytcimffpckcbdlaa
open Go.AM
structure Re where
  l : List It
  X : AV
  fr : List Tx
  F : AV
def Re.ok (p : Re) : Prop := (∃ ys, elems p.X = some ys ∧ ItsE p.l ys) ∧ elems p.F = some (p.fr.map str) ∧ slK p.F ∧ p.l.length < 16384 ∧ (∀ x ∈ p.l, x.2.length < 4096) ∧ p.fr.length < 16384
def Re.okR (p : Re) : Prop := p.ok ∧ p.X.bare = some p.X
theorem Re.inj {p q : Re} (hp : p.ok) (hq : q.ok) (h1 : p.X = q.X) (h2 : p.F = q.F) : p.l = q.l ∧ p.fr = q.fr := by
  obtain ⟨⟨ys, h3, h4⟩, h5, _⟩ := hp
  obtain ⟨⟨zs, h6, h7⟩, h8, _⟩ := hq
  rw [h1, h6] at h3
  injection h3 with h3
  subst h3
  rw [h2, h8] at h5
  injection h5 with h5
  exact ⟨h4.inj h7, (strs_eq h5).symm⟩
noncomputable def reachQ := relP Re.ok (fun p => [p.X, p.F]) (fun p => slS (reachL p.l p.fr))
theorem reachQ_eq {l : List It} {X F : AV} {ys : List AV} {fr : List Tx} (h1 : elems X = some ys) (h2 : ItsE l ys) (h3 : elems F = some (fr.map str)) (h4 : slK F) (h5 : l.length < 16384) (h6 : ∀ x ∈ l, x.2.length < 4096) (h7 : fr.length < 16384) : reachQ [X, F] = some (slS (reachL l fr)) :=
  relP_eq (X := Re.ok) (a := fun p => [p.X, p.F]) (r := fun p => slS (reachL p.l p.fr)) (fun p q hp hq e => by
    injection e with e1 e
    injection e with e2 _
    obtain ⟨e3, e4⟩ := Re.inj hp hq e1 e2
    rw [e3, e4]) ⟨l, X, fr, F⟩ ⟨⟨ys, h1, h2⟩, h3, h4, h5, h6, h7⟩
theorem reachQ_ok : ∀ xs y, reachQ xs = some y → PureOk (cfgP nP) 12 xs y := relP_ok (R := fun xs y => PureOk (cfgP nP) 12 xs y) fun p hp => by
  obtain ⟨⟨ys, h1, h2⟩, h3, h4, h5, h6, h7⟩ := hp
  exact reach_ok p.l p.X ys p.fr p.F h1 h2 h3 h4 h5 h6 h7
noncomputable def reachRQ := relP Re.okR (fun p => [p.X, p.F]) (fun p => slS (reachL p.l p.fr))
theorem reachRQ_eq {l : List It} {X F : AV} {ys : List AV} {fr : List Tx} (h1 : elems X = some ys) (hb : X.bare = some X) (h2 : ItsE l ys) (h3 : elems F = some (fr.map str)) (h4 : slK F) (h5 : l.length < 16384) (h6 : ∀ x ∈ l, x.2.length < 4096) (h7 : fr.length < 16384) : reachRQ [X, F] = some (slS (reachL l fr)) :=
  relP_eq (X := Re.okR) (a := fun p => [p.X, p.F]) (r := fun p => slS (reachL p.l p.fr)) (fun p q hp hq e => by
    injection e with e1 e
    injection e with e2 _
    obtain ⟨e3, e4⟩ := Re.inj hp.1 hq.1 e1 e2
    rw [e3, e4]) ⟨l, X, fr, F⟩ ⟨⟨⟨ys, h1, h2⟩, h3, h4, h5, h6, h7⟩, hb⟩
theorem reachRQ_ok : ∀ xs y, reachRQ xs = some y → PureOk (cfgP ow2) 14 xs y := relP_ok (R := fun xs y => PureOk (cfgP ow2) 14 xs y) fun p hp => by
  obtain ⟨⟨⟨ys, h1, h2⟩, h3, h4, h5, h6, h7⟩, hb⟩ := hp
  exact reachR_ok p.l p.X ys p.fr p.F h1 hb h2 h3 (by omega) (fun x hx => by have := h6 x hx; omega) (by omega)
def Ia.okR (p : Ia) : Prop := p.ok ∧ p.X.bare = some p.X
noncomputable def allRQ := relP Ia.okR (fun p => [p.X]) (fun p => allV p.l)
theorem allRQ_eq {l : List It} {X : AV} {ys : List AV} (h1 : elems X = some ys) (hb : X.bare = some X) (h2 : ItsE l ys) (h3 : l.length < 16384) (h4 : ∀ x ∈ l, x.2.length < 4096) : allRQ [X] = some (allV l) :=
  relP_eq (X := Ia.okR) (a := fun p => [p.X]) (r := fun p => allV p.l) (fun p q hp hq e => by
    injection e with e _
    rw [Ia.inj hp.1 hq.1 e]) ⟨l, X⟩ ⟨⟨⟨ys, h1, h2⟩, h3, h4⟩, hb⟩
theorem allRQ_ok : ∀ xs y, allRQ xs = some y → PureOk (cfgP ow2) 13 xs y := relP_ok (R := fun xs y => PureOk (cfgP ow2) 13 xs y) fun p hp => by
  obtain ⟨⟨⟨ys, h1, h2⟩, h3, h4⟩, hb⟩ := hp
  exact allR_ok p.l p.X ys h1 hb h2 (by omega) (fun x hx => by have := h4 x hx; omega)
noncomputable def ow3 : FuncId → Option (List AV → Option AV) := tab [(10, allQ), (12, reachQ), (13, allRQ), (14, reachRQ), (11, textsQ), (9, fewQ), (8, oawakeP)]
theorem ow3_ok : (cfgP ow3).Ok := cfg_ok (tab_ok ⟨prim_at Try.func10 (by kernel_rfl) rfl (allQ_ok), prim_at Try.func12 (by kernel_rfl) rfl (reachQ_ok), prim_at Try.func13 (by kernel_rfl) rfl (allRQ_ok), prim_at Try.func14 (by kernel_rfl) rfl (reachRQ_ok), prim_at Try.func11 (by kernel_rfl) rfl (textsQ_ok), prim_at Try.func9 (by kernel_rfl) rfl (fewQ_ok), prim_at Try.func8 (by kernel_rfl) rfl (oawake_ok), trivial⟩)
theorem ow3_10 : (cfgP ow3).prim 10 = some allQ := rfl
theorem ow3_12 : (cfgP ow3).prim 12 = some reachQ := rfl
theorem ow3_13 : (cfgP ow3).prim 13 = some allRQ := rfl
theorem ow3_14 : (cfgP ow3).prim 14 = some reachRQ := rfl
theorem ow3_11 : (cfgP ow3).prim 11 = some textsQ := rfl
theorem ow3_9 : (cfgP ow3).prim 9 = some fewQ := rfl
theorem ow3_8 : (cfgP ow3).prim 8 = some oawakeP := rfl
theorem allS_len {l : List It} : (allS l).1.length ≤ l.length := by
  rcases allS_cases l with h | h | h | ⟨a, h, hR⟩
  · rw [h]; exact Nat.zero_le _
  · rw [h]; exact Nat.zero_le _
  · rw [h]; exact Nat.zero_le _
  · rw [h]
    exact Nat.le_of_eq hR.len
theorem reachL_spec {l : List It} {fr : List Tx} : reachL l fr = [] ∨ (Asc (reachL l fr) ∧ ∀ t, t ∈ reachL l fr ↔ Rc l fr t) := by
  unfold reachL
  split
  · rename_i h
    exact .inr h.choose_spec
  · exact .inl rfl
theorem reachL_len {l : List It} {fr : List Tx} : (reachL l fr).length ≤ l.length := by
  rcases reachL_spec (l := l) (fr := fr) with h | ⟨h1, h2⟩
  · rw [h]; exact Nat.zero_le _
  · exact RI.sub h1.nodup fun t ht => (h2 t).1 ht
set_option maxHeartbeats 8000000 in
set_option maxRecDepth 100000 in
theorem says_core (l : List It) (X : AV) (ys : List AV) (fr : List Tx) (F : AV) (hXX : (X = nilS ∧ ys = []) ∨ X = .ro ys) (hI : ItsE l ys) (hl : l.length ≤ 9223372036854775807) (hN : ∀ x ∈ l, x.2.length ≤ 9223372036854775807)
    (hF : elems F = some (fr.map str)) (hFl : fr.length ≤ 9223372036854775807) (hFF : (F = nilS ∧ fr = []) ∨ F = .ro (fr.map str)) : PureOk (cfgP ow3) 5 [X, F] (.v (.bool true)) := by
  have hX : elems X = some ys := by
    rcases hXX with ⟨rfl, rfl⟩ | rfl <;> rfl
  have hXb : X.bare = some X := by
    rcases hXX with ⟨rfl, rfl⟩ | rfl <;> rfl
  have hFb : F.bare = some F := by
    rcases hFF with ⟨rfl, rfl⟩ | rfl <;> rfl
  have hFk : slK F := by
    rcases hFF with ⟨rfl, rfl⟩ | rfl
    · exact .inl rfl
    · exact .inr ⟨rfl, rfl⟩
  have qf := fewQ_eq hX hI hl hN
  have qa : oawakeP [] = some (.v (.bool true)) := rfl
  have lf := len25 (prim := ow3) hF
  rw [List.length_map] at lf
  have w8 := ow3_8
  have w9 := ow3_9
  have w10 := ow3_10
  have w11 := ow3_11
  have w12 := ow3_12
  have w13 := ow3_13
  have w14 := ow3_14
  cases hf : fewB l with
  | false =>
    rw [hf] at qf
    refine pure_of_wk (call := noCall) (fn := Try.f5) (rs := [.tmp 4]) ow3_ok noCall_ok (fns_cfg Try.func5 rfl) rfl rfl ?_
    intro env hl0 hargs
    have hn : env.length = 46 := hl0
    have h0 := hargs 0 _ rfl
    have h1 := hargs 1 _ rfl
    clear hargs hl0
    refine wkT_of ?_
    rw [fe_self hn]
    (try simp -dsimp (disch := omega) only [h0, h1, ct_prim w8, qa, ct_prim w9, hXb, qf, AS, avals, apairs, bareP, AV.bare, AV.bares, Nat.reduceEqDiff, Nat.reduceLT, Nat.reduceAdd, ↓reduceIte, reduceCtorEq, resA, resA1, resVal, Nat.reduceLeDiff, nb_cfg, Nat.reduceBEq, AX, Int.reduceLT, Int.reduceLE, Int.reduceEq, Int.reduceAdd, Int.reduceSub, Int.reduceMul, Int.reduceNeg, Int.reduceNe])
    exact ⟨5, rfl⟩
  | true =>
  rw [hf] at qf
  by_cases h20 : fr.length > 20
  · have d1 : decide ((fr.length : Int) > 20) = true := decide_eq_true (by omega)
    refine pure_of_wk (call := noCall) (fn := Try.f5) (rs := [.tmp 4]) ow3_ok noCall_ok (fns_cfg Try.func5 rfl) rfl rfl ?_
    intro env hl0 hargs
    have hn : env.length = 46 := hl0
    have h0 := hargs 0 _ rfl
    have h1 := hargs 1 _ rfl
    clear hargs hl0
    refine wkT_of ?_
    rw [fe_self hn]
    (try simp -dsimp (disch := omega) only [h0, h1, ct_prim w8, qa, ct_prim w9, hXb, qf, lf, d1, AS, avals, apairs, bareP, AV.bare, AV.bares, Nat.reduceEqDiff, Nat.reduceLT, Nat.reduceAdd, ↓reduceIte, reduceCtorEq, resA, resA1, resVal, Nat.reduceLeDiff, nb_cfg, Nat.reduceBEq, AX, Int.reduceLT, Int.reduceLE, Int.reduceEq, Int.reduceAdd, Int.reduceSub, Int.reduceMul, Int.reduceNeg, Int.reduceNe])
    exact ⟨5, rfl⟩
  have d1 : decide ((fr.length : Int) > 20) = false := decide_eq_false (by omega)
  unfold fewB at hf
  rw [Bool.and_eq_true, decide_eq_true_eq, List.all_eq_true] at hf
  have hl40 := hf.1
  have hN20 : ∀ x ∈ l, x.2.length ≤ 20 := fun x hx => by simpa using hf.2 x hx
  have hN4 : ∀ x ∈ l, x.2.length < 4096 := fun x hx => by have := hN20 x hx; omega
  have ql := allQ_eq hX hI (by omega) hN4
  have ql2 := allRQ_eq hX hXb hI (by omega) hN4
  have qr := reachQ_eq hX hI hF hFk (by omega) hN4 (by omega)
  have qr2 := reachRQ_eq hX hXb hI hF hFk (by omega) hN4 (by omega)
  unfold allV at ql ql2
  obtain ⟨a, ha⟩ : ∃ a, (allS l).1 = a := ⟨_, rfl⟩
  obtain ⟨c, hc⟩ : ∃ c, (allS l).2 = c := ⟨_, rfl⟩
  obtain ⟨r, hr⟩ : ∃ r, reachL l fr = r := ⟨_, rfl⟩
  have hal : a.length < 1073741824 := by have := allS_len (l := l); rw [ha] at this; omega
  have hrl : r.length < 1073741824 := by have := reachL_len (l := l) (fr := fr); rw [hr] at this; omega
  rw [ha, hc] at ql ql2
  rw [hr] at qr qr2
  have qt := textsQ_eq (slS_el (a := a)) (slS_el (a := a)) hal
  have qt2 := textsQ_eq (slS_el (a := r)) (slS_el (a := r)) hrl
  rw [decide_eq_true rfl] at qt qt2
  have sa := slS_bare (a := a)
  have sr := slS_bare (a := r)
  obtain ⟨A, hA⟩ : ∃ A, slS a = A := ⟨_, rfl⟩
  obtain ⟨R, hR⟩ : ∃ R, slS r = R := ⟨_, rfl⟩
  rw [hA] at ql ql2 qt sa
  rw [hR] at qr qr2 qt2 sr
  have dc : decide ((c : Int) = (c : Int)) = true := decide_eq_true rfl
  refine pure_of_wk (call := noCall) (fn := Try.f5) (rs := [.tmp 4]) ow3_ok noCall_ok (fns_cfg Try.func5 rfl) rfl rfl ?_
  intro env hl0 hargs
  have hn : env.length = 46 := hl0
  have h0 := hargs 0 _ rfl
  have h1 := hargs 1 _ rfl
  clear hargs hl0
  refine wkT_of ?_
  rw [fe_self hn]
  (try simp -dsimp (disch := omega) only [h0, h1, ct_prim w8, qa, ct_prim w9, hXb, hFb, qf, lf, d1, ct_prim w10, ql, ct_prim w13, ql2, dc, ct_prim w11, sa, qt, ct_prim w12, qr, ct_prim w14, qr2, sr, qt2, AS, avals, apairs, bareP, AV.bare, AV.bares, Nat.reduceEqDiff, Nat.reduceLT, Nat.reduceAdd, ↓reduceIte, reduceCtorEq, resA, resA1, resVal, Nat.reduceLeDiff, nb_cfg, Nat.reduceBEq, AX, Int.reduceLT, Int.reduceLE, Int.reduceEq, Int.reduceAdd, Int.reduceSub, Int.reduceMul, Int.reduceNeg, Int.reduceNe])
  exact ⟨5, rfl⟩
end Go.Proofs.Ytcimffpckcbdlaa
