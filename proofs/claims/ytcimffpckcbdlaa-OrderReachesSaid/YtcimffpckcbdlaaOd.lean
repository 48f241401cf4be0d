/- Contracts of functions, and plain facts about what they compute. -/
import Derived.Test.YtcimffpckcbdlaaOc
import Derived.Test.YtcimffpckcbdlaaAmD
set_option linter.unusedSimpArgs false
set_option linter.unusedVariables false
/- Chapter 22: All as a table; Few, Texts, place, Has; awake. -/
namespace Go.Proofs.Ytcimffpckcbdlaa
open Go.AM
theorem strs_eq {a b : List Tx} (h : a.map str = b.map str) : a = b := by
  have hl : a.length = b.length := by
    have := congrArg List.length h
    simpa using this
  exact (strs_inj (r := []) (s := []) hl (by simpa using h)).1
theorem ItE.inj {p q : It} {y : AV} (h1 : ItE p y) (h2 : ItE q y) : p = q := by
  obtain ⟨N, rfl, hN⟩ := h1
  obtain ⟨M, e, hM⟩ := h2
  injection e with e
  injection e with e1 e2
  injection e2 with e2 _
  subst e2
  rw [hN] at hM
  injection hM with hM
  exact Prod.ext (str_inj e1) (strs_eq hM)
theorem ItsE.inj : ∀ {l m : List It} {ys : List AV}, ItsE l ys → ItsE m ys → l = m
  | [], [], _, _, _ => rfl
  | [], q :: m, ys, h1, h2 => by
    obtain ⟨y, ys', rfl, _⟩ := h2
    cases (show (y :: ys') = [] from h1)
  | p :: l, [], ys, h1, h2 => by
    obtain ⟨y, ys', rfl, _⟩ := h1
    cases (show (y :: ys') = [] from h2)
  | p :: l, q :: m, ys, h1, h2 => by
    obtain ⟨y, ys', rfl, a1, a2⟩ := h1
    obtain ⟨z, zs', e, b1, b2⟩ := h2
    injection e with e1 e2
    subst e1 e2
    rw [a1.inj b1, ItsE.inj a2 b2]
/-- Items, as they are handed in. -/
structure Ia where
  l : List It
  X : AV
def Ia.ok (p : Ia) : Prop := (∃ ys, elems p.X = some ys ∧ ItsE p.l ys) ∧ p.l.length < 16384 ∧ ∀ x ∈ p.l, x.2.length < 4096
theorem Ia.inj {p q : Ia} (hp : p.ok) (hq : q.ok) (h : p.X = q.X) : p.l = q.l := by
  obtain ⟨⟨ys, h1, h2⟩, _⟩ := hp
  obtain ⟨⟨zs, h3, h4⟩, _⟩ := hq
  rw [h, h3] at h1
  injection h1 with h1
  subst h1
  exact h2.inj h4
noncomputable def allQ := relP Ia.ok (fun p => [p.X]) (fun p => allV p.l)
theorem allQ_ok : ∀ xs y, allQ xs = some y → PureOk (cfgP nP) 10 xs y := relP_ok (R := fun xs y => PureOk (cfgP nP) 10 xs y) fun p hp => by
  obtain ⟨⟨ys, h1, h2⟩, h3, h4⟩ := hp
  exact all_ok p.l p.X ys h1 h2 h3 h4
/-! ### Texts -/
structure T2 where
  a : List Tx
  A : AV
  b : List Tx
  B : AV
def T2.ok (p : T2) : Prop := elems p.A = some (p.a.map str) ∧ elems p.B = some (p.b.map str) ∧ p.a.length < 1073741824
structure TxI (A B : AV) (n i : Nat) (e : Env) (h : Hp) : Prop where
  len : e.length = 26
  a0 : aget e 0 = A
  a1 : aget e 1 = B
  a5 : aget e 5 = .v (.int .i64 (i : Int))
  hp : h = {}
theorem tx_get {a : List Tx} {i : Nat} {x : Tx} (h : a[i]? = some x) : (a.map str)[i]? = some (str x) := by rw [List.getElem?_map, h]; rfl
set_option maxHeartbeats 4000000 in
theorem texts_ok (p : T2) (hp : p.ok) : PureOk (cfgP nP) 11 [p.A, p.B] (.v (.bool (decide (p.a = p.b)))) := by
  obtain ⟨a, A, b, B⟩ := p
  obtain ⟨hA, hB, hl⟩ := hp
  simp only at hA hB hl
  have la := len25 (prim := nP) hA
  have lb := len25 (prim := nP) hB
  rw [List.length_map] at la lb
  obtain ⟨R, hR⟩ : ∃ R, decide (a = b) = R := ⟨_, rfl⟩
  show PureOk (cfgP nP) 11 [A, B] (.v (.bool (decide (a = b))))
  rw [hR]
  refine pure_of_wk (call := noCall) (fn := Try.f11) (rs := [.tmp 4]) nP_ok noCall_ok (fns_cfg Try.func11 rfl) rfl rfl ?_
  intro env hl0 hargs
  have hn : env.length = 26 := hl0
  have h0 := hargs 0 _ rfl
  have h1 := hargs 1 _ rfl
  clear hargs hl0
  refine wkT_of ?_
  rw [fe_self hn]
  by_cases hab : a.length = b.length
  · have dL : decide ((a.length : Int) = (b.length : Int)) = true := decide_eq_true (by omega)
    (try simp -dsimp (disch := omega) only [h0, h1, la, lb, dL, AS, avals, apairs, bareP, AV.bare, AV.bares, Nat.reduceEqDiff, Nat.reduceLT, Nat.reduceAdd, ↓reduceIte, reduceCtorEq, resA, resA1, resVal, Nat.reduceLeDiff, nb_cfg, Nat.reduceBEq, AX, Int.reduceLT, Int.reduceLE, Int.reduceEq, Int.reduceAdd, Int.reduceSub, Int.reduceMul, Int.reduceNeg, Int.reduceNe])
    refine wt_loop (m := a.length) (fun m e h => ∃ i, i + m = a.length ∧ a.take i = b.take i ∧ TxI A B a.length i e h) ?_ ?_
    · clear hn h0 h1
      rintro m e h ⟨i, him, ht, hn, h0, h1, h5, rfl⟩
      rw [fe_self hn]
      cases m with
      | zero =>
        have dI : decide ((i : Int) < (a.length : Int)) = false := decide_eq_false (by omega)
        have : a = b := by
          rw [List.take_of_length_le (by omega), List.take_of_length_le (by omega)] at ht
          exact ht
        rw [decide_eq_true this] at hR
        rw [← hR]
        (try simp -dsimp (disch := omega) only [h0, h1, h5, la, dI, AS, avals, apairs, bareP, AV.bare, AV.bares, Nat.reduceEqDiff, Nat.reduceLT, Nat.reduceAdd, ↓reduceIte, reduceCtorEq, resA, resA1, resVal, Nat.reduceLeDiff, nb_cfg, Nat.reduceBEq, AX, Int.reduceLT, Int.reduceLE, Int.reduceEq, Int.reduceAdd, Int.reduceSub, Int.reduceMul, Int.reduceNeg, Int.reduceNe])
        exact ⟨5, rfl⟩
      | succ m =>
        have dI : decide ((i : Int) < (a.length : Int)) = true := decide_eq_true (by omega)
        obtain ⟨x, hx⟩ : ∃ x, a[i]? = some x := ⟨_, List.getElem?_eq_getElem (by omega)⟩
        obtain ⟨y, hy⟩ : ∃ y, b[i]? = some y := ⟨_, List.getElem?_eq_getElem (by omega)⟩
        have i1 := ix25 (prim := nP) (k := .i64) hA (tx_get hx) rfl
        have i2 := ix25 (prim := nP) (k := .i64) hB (tx_get hy) rfl
        have e1 : (i : Int) + 1 = ((i + 1 : Nat) : Int) := by omega
        by_cases hxy : x = y
        · have d1 : decide (x = y) = true := decide_eq_true hxy
          (try simp -dsimp (disch := omega) only [h0, h1, h5, la, dI, i1, i2, cst, p9, List.getElem?_cons_zero, d1, e1, wrap64, AS, avals, apairs, bareP, AV.bare, AV.bares, Nat.reduceEqDiff, Nat.reduceLT, Nat.reduceAdd, ↓reduceIte, reduceCtorEq, resA, resA1, resVal, Nat.reduceLeDiff, nb_cfg, Nat.reduceBEq, AX, Int.reduceLT, Int.reduceLE, Int.reduceEq, Int.reduceAdd, Int.reduceSub, Int.reduceMul, Int.reduceNeg, Int.reduceNe])
          refine ⟨by kernel_rfl, m, by omega, i + 1, by omega, ?_, fe_len, ?_, ?_, ?_, rfl⟩
          case refine_1 => rw [List.take_add_one, List.take_add_one, hx, hy, ht, hxy]
          all_goals (try simp -dsimp (disch := omega) only [h0, h1, AS, avals, apairs, bareP, AV.bare, AV.bares, Nat.reduceEqDiff, Nat.reduceLT, Nat.reduceAdd, ↓reduceIte, reduceCtorEq, resA, resA1, resVal, Nat.reduceLeDiff, nb_cfg, Nat.reduceBEq, AX, Int.reduceLT, Int.reduceLE, Int.reduceEq, Int.reduceAdd, Int.reduceSub, Int.reduceMul, Int.reduceNeg, Int.reduceNe])
        · have d1 : decide (x = y) = false := decide_eq_false hxy
          have : ¬ a = b := by
            rintro rfl
            rw [hx] at hy
            injection hy with hy
            exact hxy hy
          rw [decide_eq_false this] at hR
          rw [← hR]
          (try simp -dsimp (disch := omega) only [h0, h1, h5, la, dI, i1, i2, cst, p9, List.getElem?_cons_zero, d1, e1, wrap64, AS, avals, apairs, bareP, AV.bare, AV.bares, Nat.reduceEqDiff, Nat.reduceLT, Nat.reduceAdd, ↓reduceIte, reduceCtorEq, resA, resA1, resVal, Nat.reduceLeDiff, nb_cfg, Nat.reduceBEq, AX, Int.reduceLT, Int.reduceLE, Int.reduceEq, Int.reduceAdd, Int.reduceSub, Int.reduceMul, Int.reduceNeg, Int.reduceNe])
          refine ⟨by kernel_rfl, ?_⟩
          exact ⟨5, rfl⟩
    · refine ⟨0, by omega, rfl, fe_len, ?_, ?_, ?_, rfl⟩
      all_goals (try simp -dsimp (disch := omega) only [h0, h1, AS, avals, apairs, bareP, AV.bare, AV.bares, Nat.reduceEqDiff, Nat.reduceLT, Nat.reduceAdd, ↓reduceIte, reduceCtorEq, resA, resA1, resVal, Nat.reduceLeDiff, nb_cfg, Nat.reduceBEq, AX, Int.reduceLT, Int.reduceLE, Int.reduceEq, Int.reduceAdd, Int.reduceSub, Int.reduceMul, Int.reduceNeg, Int.reduceNe])
      all_goals rfl
  · have dL : decide ((a.length : Int) = (b.length : Int)) = false := decide_eq_false (by omega)
    have : ¬ a = b := fun e => hab (by rw [e])
    rw [decide_eq_false this] at hR
    rw [← hR]
    (try simp -dsimp (disch := omega) only [h0, h1, la, lb, dL, AS, avals, apairs, bareP, AV.bare, AV.bares, Nat.reduceEqDiff, Nat.reduceLT, Nat.reduceAdd, ↓reduceIte, reduceCtorEq, resA, resA1, resVal, Nat.reduceLeDiff, nb_cfg, Nat.reduceBEq, AX, Int.reduceLT, Int.reduceLE, Int.reduceEq, Int.reduceAdd, Int.reduceSub, Int.reduceMul, Int.reduceNeg, Int.reduceNe])
    exact ⟨5, rfl⟩
noncomputable def textsQ := relP T2.ok (fun p => [p.A, p.B]) (fun p => .v (.bool (decide (p.a = p.b))))
theorem textsQ_eq {a b : List Tx} {A B : AV} (h1 : elems A = some (a.map str)) (h2 : elems B = some (b.map str)) (h3 : a.length < 1073741824) : textsQ [A, B] = some (.v (.bool (decide (a = b)))) :=
  relP_eq (X := T2.ok) (a := fun p => [p.A, p.B]) (r := fun p => .v (.bool (decide (p.a = p.b)))) (fun p q hp hq e => by
    injection e with e1 e
    injection e with e2 _
    have h1 := hp.1
    rw [e1, hq.1] at h1
    injection h1 with h1
    have h2 := hp.2.1
    rw [e2, hq.2.1] at h2
    injection h2 with h2
    rw [strs_eq h1, strs_eq h2]) ⟨a, A, b, B⟩ ⟨h1, h2, h3⟩
theorem textsQ_ok : ∀ xs y, textsQ xs = some y → PureOk (cfgP nP) 11 xs y := relP_ok (R := fun xs y => PureOk (cfgP nP) 11 xs y) texts_ok
/-! ### Few -/
structure Fa where
  l : List It
  X : AV
def Fa.ok (p : Fa) : Prop := (∃ ys, elems p.X = some ys ∧ ItsE p.l ys) ∧ p.l.length ≤ 9223372036854775807 ∧ ∀ x ∈ p.l, x.2.length ≤ 9223372036854775807
def fewB (l : List It) : Bool := decide (l.length ≤ 40) && l.all fun x => decide (x.2.length ≤ 20)
structure FwI (X : AV) (i : Nat) (e : Env) (h : Hp) : Prop where
  len : e.length = 20
  a0 : aget e 0 = X
  a3 : aget e 3 = .v (.int .i64 (i : Int))
  hp : h = {}
set_option maxHeartbeats 4000000 in
theorem few_ok (p : Fa) (hp : p.ok) : PureOk (cfgP nP) 9 [p.X] (.v (.bool (fewB p.l))) := by
  obtain ⟨l, X⟩ := p
  obtain ⟨⟨ys, hX, hI⟩, hl, hN⟩ := hp
  simp only at hX hI hl hN
  have lx := len22 (prim := nP) hX
  rw [ItsE.length hI] at lx
  obtain ⟨R, hR⟩ : ∃ R, fewB l = R := ⟨_, rfl⟩
  show PureOk (cfgP nP) 9 [X] (.v (.bool (fewB l)))
  rw [hR]
  unfold fewB at hR
  refine pure_of_wk (call := noCall) (fn := Try.f9) (rs := [.tmp 2]) nP_ok noCall_ok (fns_cfg Try.func9 rfl) rfl rfl ?_
  intro env hl0 hargs
  have hn : env.length = 20 := hl0
  have h0 := hargs 0 _ rfl
  clear hargs hl0
  refine wkT_of ?_
  rw [fe_self hn]
  by_cases h40 : l.length ≤ 40
  · have d1 : decide ((l.length : Int) > 40) = false := decide_eq_false (by omega)
    rw [decide_eq_true h40, Bool.true_and] at hR
    (try simp -dsimp (disch := omega) only [h0, lx, d1, AS, avals, apairs, bareP, AV.bare, AV.bares, Nat.reduceEqDiff, Nat.reduceLT, Nat.reduceAdd, ↓reduceIte, reduceCtorEq, resA, resA1, resVal, Nat.reduceLeDiff, nb_cfg, Nat.reduceBEq, AX, Int.reduceLT, Int.reduceLE, Int.reduceEq, Int.reduceAdd, Int.reduceSub, Int.reduceMul, Int.reduceNeg, Int.reduceNe])
    refine wt_loop (m := l.length) (fun m e h => ∃ i, i + m = l.length ∧ ((l.take i).all fun x => decide (x.2.length ≤ 20)) = true ∧ FwI X i e h) ?_ ?_
    · clear hn h0
      rintro m e h ⟨i, him, ht, hn, h0, h3, rfl⟩
      rw [fe_self hn]
      cases m with
      | zero =>
        have dI : decide ((i : Int) < (l.length : Int)) = false := decide_eq_false (by omega)
        rw [List.take_of_length_le (by omega)] at ht
        rw [ht] at hR
        rw [← hR]
        (try simp -dsimp (disch := omega) only [h0, h3, lx, dI, AS, avals, apairs, bareP, AV.bare, AV.bares, Nat.reduceEqDiff, Nat.reduceLT, Nat.reduceAdd, ↓reduceIte, reduceCtorEq, resA, resA1, resVal, Nat.reduceLeDiff, nb_cfg, Nat.reduceBEq, AX, Int.reduceLT, Int.reduceLE, Int.reduceEq, Int.reduceAdd, Int.reduceSub, Int.reduceMul, Int.reduceNeg, Int.reduceNe])
        exact ⟨5, rfl⟩
      | succ m =>
        have dI : decide ((i : Int) < (l.length : Int)) = true := decide_eq_true (by omega)
        obtain ⟨x, hx⟩ : ∃ x, l[i]? = some x := ⟨_, List.getElem?_eq_getElem (by omega)⟩
        obtain ⟨N, hyi, hNe⟩ := ItsE.get hI hx
        have ixx := ix22 (prim := nP) (k := .i64) hX hyi
        have lN := len25 (prim := nP) hNe
        rw [List.length_map] at lN
        have e1 : (i : Int) + 1 = ((i + 1 : Nat) : Int) := by omega
        by_cases h20 : x.2.length ≤ 20
        · have d2 : decide ((x.2.length : Int) > 20) = false := decide_eq_false (by omega)
          (try simp -dsimp (disch := omega) only [h0, h3, lx, dI, ixx, f1r, cag, p25, Nat.zero_add, List.getElem?_cons_zero, List.getElem?_cons_succ, lN, d2, e1, wrap64, AS, avals, apairs, bareP, AV.bare, AV.bares, Nat.reduceEqDiff, Nat.reduceLT, Nat.reduceAdd, ↓reduceIte, reduceCtorEq, resA, resA1, resVal, Nat.reduceLeDiff, nb_cfg, Nat.reduceBEq, AX, Int.reduceLT, Int.reduceLE, Int.reduceEq, Int.reduceAdd, Int.reduceSub, Int.reduceMul, Int.reduceNeg, Int.reduceNe])
          refine ⟨m, by omega, i + 1, by omega, ?_, fe_len, ?_, ?_, rfl⟩
          case refine_1 =>
            rw [take_snoc hx, List.all_append, ht]
            simp [h20]
          all_goals (try simp -dsimp (disch := omega) only [h0, AS, avals, apairs, bareP, AV.bare, AV.bares, Nat.reduceEqDiff, Nat.reduceLT, Nat.reduceAdd, ↓reduceIte, reduceCtorEq, resA, resA1, resVal, Nat.reduceLeDiff, nb_cfg, Nat.reduceBEq, AX, Int.reduceLT, Int.reduceLE, Int.reduceEq, Int.reduceAdd, Int.reduceSub, Int.reduceMul, Int.reduceNeg, Int.reduceNe])
        · have d2 : decide ((x.2.length : Int) > 20) = true := decide_eq_true (by omega)
          have : (l.all fun x => decide (x.2.length ≤ 20)) = false := by
            rw [List.all_eq_false]
            exact ⟨x, List.mem_of_getElem? hx, by simpa using h20⟩
          rw [this] at hR
          rw [← hR]
          (try simp -dsimp (disch := omega) only [h0, h3, lx, dI, ixx, f1r, cag, p25, Nat.zero_add, List.getElem?_cons_zero, List.getElem?_cons_succ, lN, d2, e1, wrap64, AS, avals, apairs, bareP, AV.bare, AV.bares, Nat.reduceEqDiff, Nat.reduceLT, Nat.reduceAdd, ↓reduceIte, reduceCtorEq, resA, resA1, resVal, Nat.reduceLeDiff, nb_cfg, Nat.reduceBEq, AX, Int.reduceLT, Int.reduceLE, Int.reduceEq, Int.reduceAdd, Int.reduceSub, Int.reduceMul, Int.reduceNeg, Int.reduceNe])
          exact ⟨5, rfl⟩
    · refine ⟨0, by omega, rfl, fe_len, ?_, ?_, rfl⟩
      all_goals (try simp -dsimp (disch := omega) only [h0, AS, avals, apairs, bareP, AV.bare, AV.bares, Nat.reduceEqDiff, Nat.reduceLT, Nat.reduceAdd, ↓reduceIte, reduceCtorEq, resA, resA1, resVal, Nat.reduceLeDiff, nb_cfg, Nat.reduceBEq, AX, Int.reduceLT, Int.reduceLE, Int.reduceEq, Int.reduceAdd, Int.reduceSub, Int.reduceMul, Int.reduceNeg, Int.reduceNe])
      all_goals rfl
  · have d1 : decide ((l.length : Int) > 40) = true := decide_eq_true (by omega)
    rw [decide_eq_false h40, Bool.false_and] at hR
    rw [← hR]
    (try simp -dsimp (disch := omega) only [h0, lx, d1, AS, avals, apairs, bareP, AV.bare, AV.bares, Nat.reduceEqDiff, Nat.reduceLT, Nat.reduceAdd, ↓reduceIte, reduceCtorEq, resA, resA1, resVal, Nat.reduceLeDiff, nb_cfg, Nat.reduceBEq, AX, Int.reduceLT, Int.reduceLE, Int.reduceEq, Int.reduceAdd, Int.reduceSub, Int.reduceMul, Int.reduceNeg, Int.reduceNe])
    exact ⟨5, rfl⟩
noncomputable def fewQ := relP Fa.ok (fun p => [p.X]) (fun p => .v (.bool (fewB p.l)))
theorem fewQ_eq {l : List It} {X : AV} {ys : List AV} (h1 : elems X = some ys) (h2 : ItsE l ys) (h3 : l.length ≤ 9223372036854775807) (h4 : ∀ x ∈ l, x.2.length ≤ 9223372036854775807) : fewQ [X] = some (.v (.bool (fewB l))) :=
  relP_eq (X := Fa.ok) (a := fun p => [p.X]) (r := fun p => .v (.bool (fewB p.l))) (fun p q hp hq e => by
    injection e with e _
    obtain ⟨⟨ys, h1, h2⟩, _⟩ := hp
    obtain ⟨⟨zs, h3, h4⟩, _⟩ := hq
    rw [e, h3] at h1
    injection h1 with h1
    subst h1
    rw [h2.inj h4]) ⟨l, X⟩ ⟨⟨ys, h1, h2⟩, h3, h4⟩
theorem fewQ_ok : ∀ xs y, fewQ xs = some y → PureOk (cfgP nP) 9 xs y := relP_ok (R := fun xs y => PureOk (cfgP nP) 9 xs y) few_ok
/-! ### awake -/
theorem oawake_run : (callA (cfgP nP) 5000 8 [] {}).map (·.1) = some (.v (.bool true)) := by kernel_rfl
def oawakeP : List AV → Option AV
  | [] => some (.v (.bool true))
  | _ => none
theorem oawake_ok : ∀ xs r, oawakeP xs = some r → PureOk (cfgP nP) 8 xs r := by
  intro xs r h
  unfold oawakeP at h
  split at h
  · injection h with h; subst h
    obtain ⟨⟨x, H⟩, hr, hx⟩ := Option.map_eq_some_iff.1 oawake_run
    cases hx
    exact pureOk_of (n := 1) (((callA_ok nP_ok 5000).ok _ _ _ _ _ hr).2) rfl
  · cases h
end Go.Proofs.Ytcimffpckcbdlaa

/- Chapter 22: what an order is like: whatever the items' order it is the same; each is behind its needs; of what is ready the least comes. -/
namespace Go.Proofs.Ytcimffpckcbdlaa
open Go.AM
/-- Texts as items that need nothing: where one stands. -/
def asI (a : List Tx) : List It := a.map fun t => (t, [])
end Go.Proofs.Ytcimffpckcbdlaa

/- Chapter 22: what a call of a law is handed: items, texts. -/
namespace Go.Proofs.Ytcimffpckcbdlaa
open Go.AM
section
variable {P : Program}
theorem argC_str {n : Nat} {t : TypeId} {a : List AV} (hu : P.underlying t = some .string) (h : ArgC P n t a) : ∃ l, a = [str l] ∧ l.length ≤ maxLen := by
  cases n with
  | zero => exact h.elim
  | succ n => unfold ArgC at h; rw [hu] at h; exact h
theorem strs_of {e : TypeId} (he : P.underlying e = some .string) : ∀ {ys : List AV}, (∀ y ∈ ys, Arg P e y) → ∃ l : List Tx, ys = l.map str
  | [], _ => ⟨[], rfl⟩
  | y :: ys, h => by
    obtain ⟨a, rfl, _⟩ := arg_str he (h y (by simp))
    obtain ⟨l, rfl⟩ := strs_of (ys := ys) he fun z hz => h z (by simp [hz])
    exact ⟨a :: l, rfl⟩
theorem argC_strs {n : Nat} {t e : TypeId} {a : List AV} (hu : P.underlying t = some (.slice e)) (he : P.underlying e = some .string) (h : ArgC P n t a) : ∃ N l, a = [N] ∧ elems N = some (l.map str) ∧ l.length ≤ maxLen ∧ ((N = nilS ∧ l = []) ∨ N = .ro (l.map str)) := by
  cases n with
  | zero => exact h.elim
  | succ n =>
    unfold ArgC at h
    rw [hu] at h
    rcases h with h | ⟨ys, h1, h2, h3⟩
    · exact ⟨_, [], h, rfl, Nat.zero_le _, .inl ⟨rfl, rfl⟩⟩
    · obtain ⟨l, rfl⟩ := strs_of he (ys := ys) fun y hy => ⟨n, (h3 y hy).choose, (h3 y hy).choose_spec⟩
      exact ⟨_, l, h1, rfl, by simpa using h2, .inr rfl⟩
end
theorem arg_texts {x : AV} (h : Arg Try.prog 25 x) : ∃ l : List Tx, elems x = some (l.map str) ∧ l.length ≤ 9223372036854775807 ∧ ((x = nilS ∧ l = []) ∨ x = .ro (l.map str)) := by
  obtain ⟨n, h⟩ := arg_one (by kernel_rfl) h
  obtain ⟨N, l, h1, h2, h3, h4⟩ := argC_strs (e := 9) (by kernel_rfl) (by kernel_rfl) h
  injection h1 with h1 _
  subst h1
  exact ⟨l, h2, h3, h4⟩
theorem arg_item {y : AV} (h : Arg Try.prog 34 y) : ∃ p : It, ItE p y ∧ p.2.length ≤ 9223372036854775807 := by
  obtain ⟨n, cs, h1, h2⟩ := h
  have hu := Try.underlying34
  have ha : aggT Try.prog 34 = true := by kernel_rfl
  unfold oneA at h2
  rw [ha] at h2
  simp only [if_true, Option.some.injEq] at h2
  subst h2
  cases n with
  | zero => exact h1.elim
  | succ n =>
    unfold ArgC at h1
    rw [hu] at h1
    obtain ⟨a1, r1, rfl, g1, a2, r2, rfl, g2, rfl⟩ := h1
    obtain ⟨t, rfl, _⟩ := argC_str (by kernel_rfl) g1
    obtain ⟨N, l, rfl, h3, h4, _⟩ := argC_strs (e := 9) (by kernel_rfl) (by kernel_rfl) g2
    exact ⟨(t, l), ⟨N, rfl, h3⟩, h4⟩
theorem items_of : ∀ {ys : List AV}, (∀ y ∈ ys, Arg Try.prog 34 y) → ∃ l : List It, ItsE l ys ∧ ∀ x ∈ l, x.2.length ≤ 9223372036854775807
  | [], _ => ⟨[], rfl, fun x hx => by cases hx⟩
  | y :: ys, h => by
    obtain ⟨p, h1, h2⟩ := arg_item (h y (by simp))
    obtain ⟨l, h3, h4⟩ := items_of (ys := ys) fun z hz => h z (by simp [hz])
    refine ⟨p :: l, ⟨y, ys, rfl, h1, h3⟩, fun x hx => ?_⟩
    rcases List.mem_cons.1 hx with rfl | hx
    · exact h2
    · exact h4 x hx
theorem arg_items {x : AV} (h : Arg Try.prog 22 x) : ∃ (l : List It) (ys : List AV), ((x = nilS ∧ ys = []) ∨ x = .ro ys) ∧ ItsE l ys ∧ l.length ≤ 9223372036854775807 ∧ ∀ x ∈ l, x.2.length ≤ 9223372036854775807 := by
  obtain ⟨n, h⟩ := arg_one (by kernel_rfl) h
  have hu : Try.prog.underlying 22 = some (.slice 34) := by kernel_rfl
  unfold ArgC at h
  rw [hu] at h
  rcases h with h | ⟨ys, h1, h2, h3⟩
  · injection h with h _
    exact ⟨[], [], .inl ⟨h, rfl⟩, rfl, Nat.zero_le _, fun x hx => by cases hx⟩
  · injection h1 with h1 _
    obtain ⟨l, h4, h5⟩ := items_of (ys := ys) fun y hy => ⟨n, (h3 y hy).choose, (h3 y hy).choose_spec⟩
    exact ⟨l, ys, .inr h1, h4, by rw [← ItsE.length h4]; exact h2, h5⟩
end Go.Proofs.Ytcimffpckcbdlaa

/- Chapter 22: OrderRises. -/
namespace Go.Proofs.Ytcimffpckcbdlaa
open Go.AM
theorem slS_bare {a : List Tx} : (slS a).bare = some (slS a) := by
  unfold slS
  split <;> rfl
theorem slS_el {a : List Tx} : elems (slS a) = some (a.map str) := by
  unfold slS
  split
  · rename_i h
    rw [h]
    rfl
  · rfl
theorem ItsE.cells : ∀ {l : List It} {ys : List AV}, ItsE l ys → ∀ y ∈ ys, y.cells.length = 2
  | [], ys, h, y, hy => by
    have h' : ys = [] := h
    rw [h'] at hy
    cases hy
  | p :: r, ys, h, y, hy => by
    obtain ⟨z, zs, rfl, ⟨N, rfl, _⟩, h2⟩ := h
    rcases List.mem_cons.1 hy with rfl | hy
    · rfl
    · exact ItsE.cells (l := r) h2 y hy
theorem ItsE.append : ∀ {l m : List It} {ys zs : List AV}, ItsE l ys → ItsE m zs → ItsE (l ++ m) (ys ++ zs)
  | [], m, ys, zs, h1, h2 => by
    have h' : ys = [] := h1
    rw [h']
    exact h2
  | p :: r, m, ys, zs, h1, h2 => by
    obtain ⟨y, ys', rfl, a1, a2⟩ := h1
    exact ⟨y, ys' ++ zs, rfl, a1, ItsE.append a2 h2⟩
theorem ItsE.drop : ∀ {l : List It} {ys : List AV} (k : Nat), ItsE l ys → ItsE (l.drop k) (ys.drop k)
  | l, ys, 0, h => h
  | [], ys, k + 1, h => by
    have h' : ys = [] := h
    rw [h']
    rfl
  | p :: r, ys, k + 1, h => by
    obtain ⟨y, ys', rfl, _, a2⟩ := h
    exact ItsE.drop k a2
theorem ItsE.take : ∀ {l : List It} {ys : List AV} (k : Nat), ItsE l ys → ItsE (l.take k) (ys.take k)
  | l, ys, 0, h => rfl
  | [], ys, k + 1, h => by
    have h' : ys = [] := h
    rw [h']
    rfl
  | p :: r, ys, k + 1, h => by
    obtain ⟨y, ys', rfl, a1, a2⟩ := h
    exact ⟨y, ys'.take k, rfl, a1, ItsE.take k a2⟩
section
variable {prim : FuncId → Option (List AV → Option AV)}
def hT1 (n : Nat) : Hp := { toks := [(n, 34)] }
end
structure R1 (X A : AV) (i : Nat) (a : List Tx) (e : Env) (h : Hp) : Prop where
  len : e.length = 179
  a0 : aget e 0 = X
  a5 : aget e 5 = A
  a10 : aget e 10 = .mp 0
  a11 : aget e 11 = .v (.int .i64 (i : Int))
  mp : LkM h (plc (asI (a.take i)))
structure R2 (X A : AV) (i : Nat) (a : List Tx) (e : Env) (h : Hp) : Prop where
  len : e.length = 179
  a0 : aget e 0 = X
  a5 : aget e 5 = A
  a10 : aget e 10 = .mp 0
  a14 : aget e 14 = .v (.int .i64 (i : Int))
  mp : LkM h (plc (asI a))
end Go.Proofs.Ytcimffpckcbdlaa
