/- Contracts of functions, and plain facts about what they compute. -/
import Derived.Test.YtcimffpckcbdlaaOe
set_option linter.unusedSimpArgs false
set_option linter.unusedVariables false
/- Chapter 22: the document's place, Has, Sorted. -/
namespace Go.Proofs.Ytcimffpckcbdlaa
open Go.AM
def plI (l : List It) (t : Tx) : Int := match plc l t with
  | none => -1
  | some i => (i : Int)
theorem plI_some {l : List It} {t : Tx} {i : Nat} (h : plc l t = some i) : plI l t = (i : Int) := by unfold plI; rw [h]
theorem plI_none {l : List It} {t : Tx} (h : plc l t = none) : plI l t = -1 := by unfold plI; rw [h]
theorem plc_first {l : List It} {t : Tx} {i : Nat} {x : It} (h : plc (l.take i) t = none) (hx : l[i]? = some x) (ht : x.1 = t) : plc l t = some i := by
  obtain ⟨a, b, rfl, rfl⟩ := split_at hx
  rw [List.take_left] at h
  unfold plc at h ⊢
  rw [List.findIdx?_append, h]
  simp [List.findIdx?_cons, ht]
theorem plc_take_step {l : List It} {t : Tx} {i : Nat} {x : It} (h : plc (l.take i) t = none) (hx : l[i]? = some x) (ht : x.1 ≠ t) : plc (l.take (i + 1)) t = none := by
  rw [take_snoc hx, plc_none]
  have := plc_none.1 h
  unfold ids at this ⊢
  rw [List.map_append, List.mem_append]
  rintro (h1 | h1)
  · exact this h1
  · simp at h1
    exact ht h1.symm
structure Pa where
  l : List It
  X : AV
  t : Tx
def Pa.ok (p : Pa) : Prop := (∃ ys, elems p.X = some ys ∧ ItsE p.l ys) ∧ p.l.length < 1073741824
structure PlI (X : AV) (t : Tx) (i : Nat) (e : Env) (h : Hp) : Prop where
  len : e.length = 20
  a0 : aget e 0 = X
  a1 : aget e 1 = str t
  a5 : aget e 5 = .v (.int .i64 (i : Int))
  hp : h = {}
set_option maxHeartbeats 4000000 in
theorem place_ok (p : Pa) (hp : p.ok) : PureOk (cfgP nP) 22 [p.X, str p.t] (.v (.int .i64 (plI p.l p.t))) := by
  obtain ⟨l, X, t⟩ := p
  obtain ⟨⟨ys, hX, hI⟩, hl⟩ := hp
  simp only at hX hI hl
  have lx := len22 (prim := nP) hX
  rw [ItsE.length hI] at lx
  obtain ⟨R, hR⟩ : ∃ R, plI l t = R := ⟨_, rfl⟩
  show PureOk (cfgP nP) 22 [X, str t] (.v (.int .i64 (plI l t)))
  rw [hR]
  refine pure_of_wk (call := noCall) (fn := Try.f22) (rs := [.tmp 4]) nP_ok noCall_ok (fns_cfg Try.func22 rfl) rfl rfl ?_
  intro env hl0 hargs
  have hn : env.length = 20 := hl0
  have h0 := hargs 0 _ rfl
  have h1 := hargs 1 _ rfl
  clear hargs hl0
  refine wkT_of ?_
  rw [fe_self hn]
  (try simp -dsimp (disch := omega) only [h0, h1, AS, avals, apairs, bareP, AV.bare, AV.bares, Nat.reduceEqDiff, Nat.reduceLT, Nat.reduceAdd, ↓reduceIte, reduceCtorEq, resA, resA1, resVal, Nat.reduceLeDiff, nb_cfg, Nat.reduceBEq, AX, Int.reduceLT, Int.reduceLE, Int.reduceEq, Int.reduceAdd, Int.reduceSub, Int.reduceMul, Int.reduceNeg, Int.reduceNe])
  refine wt_loop (m := l.length) (fun m e h => ∃ i, i + m = l.length ∧ plc (l.take i) t = none ∧ PlI X t i e h) ?_ ?_
  · clear hn h0 h1
    rintro m e h ⟨i, him, ht, hn, h0, h1, h5, rfl⟩
    rw [fe_self hn]
    cases m with
    | zero =>
      have dI : decide ((i : Int) < (l.length : Int)) = false := decide_eq_false (by omega)
      rw [List.take_of_length_le (by omega)] at ht
      rw [plI_none ht] at hR
      rw [← hR]
      (try simp -dsimp (disch := omega) only [h0, h1, h5, lx, dI, AS, avals, apairs, bareP, AV.bare, AV.bares, Nat.reduceEqDiff, Nat.reduceLT, Nat.reduceAdd, ↓reduceIte, reduceCtorEq, resA, resA1, resVal, Nat.reduceLeDiff, nb_cfg, Nat.reduceBEq, AX, Int.reduceLT, Int.reduceLE, Int.reduceEq, Int.reduceAdd, Int.reduceSub, Int.reduceMul, Int.reduceNeg, Int.reduceNe])
      exact ⟨5, rfl⟩
    | succ m =>
      have dI : decide ((i : Int) < (l.length : Int)) = true := decide_eq_true (by omega)
      obtain ⟨x, hx⟩ : ∃ x, l[i]? = some x := ⟨_, List.getElem?_eq_getElem (by omega)⟩
      obtain ⟨N, hyi, hNe⟩ := ItsE.get hI hx
      have ixx := ix22 (prim := nP) (k := .i64) hX hyi
      have e1 : (i : Int) + 1 = ((i + 1 : Nat) : Int) := by omega
      by_cases hxt : x.1 = t
      · have d1 : decide (x.1 = t) = true := decide_eq_true hxt
        rw [plI_some (plc_first ht hx hxt)] at hR
        rw [← hR]
        (try simp -dsimp (disch := omega) only [h0, h1, h5, lx, dI, ixx, f0r, cst, cag, p9, Nat.zero_add, List.getElem?_cons_zero, d1, e1, wrap64, AS, avals, apairs, bareP, AV.bare, AV.bares, Nat.reduceEqDiff, Nat.reduceLT, Nat.reduceAdd, ↓reduceIte, reduceCtorEq, resA, resA1, resVal, Nat.reduceLeDiff, nb_cfg, Nat.reduceBEq, AX, Int.reduceLT, Int.reduceLE, Int.reduceEq, Int.reduceAdd, Int.reduceSub, Int.reduceMul, Int.reduceNeg, Int.reduceNe])
        exact ⟨5, rfl⟩
      · have d1 : decide (x.1 = t) = false := decide_eq_false hxt
        (try simp -dsimp (disch := omega) only [h0, h1, h5, lx, dI, ixx, f0r, cst, cag, p9, Nat.zero_add, List.getElem?_cons_zero, d1, e1, wrap64, AS, avals, apairs, bareP, AV.bare, AV.bares, Nat.reduceEqDiff, Nat.reduceLT, Nat.reduceAdd, ↓reduceIte, reduceCtorEq, resA, resA1, resVal, Nat.reduceLeDiff, nb_cfg, Nat.reduceBEq, AX, Int.reduceLT, Int.reduceLE, Int.reduceEq, Int.reduceAdd, Int.reduceSub, Int.reduceMul, Int.reduceNeg, Int.reduceNe])
        refine ⟨m, by omega, i + 1, by omega, plc_take_step ht hx hxt, fe_len, ?_, ?_, ?_, rfl⟩
        all_goals (try simp -dsimp (disch := omega) only [h0, h1, AS, avals, apairs, bareP, AV.bare, AV.bares, Nat.reduceEqDiff, Nat.reduceLT, Nat.reduceAdd, ↓reduceIte, reduceCtorEq, resA, resA1, resVal, Nat.reduceLeDiff, nb_cfg, Nat.reduceBEq, AX, Int.reduceLT, Int.reduceLE, Int.reduceEq, Int.reduceAdd, Int.reduceSub, Int.reduceMul, Int.reduceNeg, Int.reduceNe])
  · refine ⟨0, by omega, rfl, fe_len, ?_, ?_, ?_, rfl⟩
    all_goals (try simp -dsimp (disch := omega) only [h0, h1, AS, avals, apairs, bareP, AV.bare, AV.bares, Nat.reduceEqDiff, Nat.reduceLT, Nat.reduceAdd, ↓reduceIte, reduceCtorEq, resA, resA1, resVal, Nat.reduceLeDiff, nb_cfg, Nat.reduceBEq, AX, Int.reduceLT, Int.reduceLE, Int.reduceEq, Int.reduceAdd, Int.reduceSub, Int.reduceMul, Int.reduceNeg, Int.reduceNe])
    all_goals rfl
noncomputable def placeQ := relP Pa.ok (fun p => [p.X, str p.t]) (fun p => .v (.int .i64 (plI p.l p.t)))
theorem placeQ_eq {l : List It} {X : AV} {ys : List AV} {t : Tx} (h1 : elems X = some ys) (h2 : ItsE l ys) (h3 : l.length < 1073741824) : placeQ [X, str t] = some (.v (.int .i64 (plI l t))) :=
  relP_eq (X := Pa.ok) (a := fun p => [p.X, str p.t]) (r := fun p => .v (.int .i64 (plI p.l p.t))) (fun p q hp hq e => by
    injection e with e e2
    injection e2 with e2 _
    obtain ⟨⟨ys, h1, h2⟩, _⟩ := hp
    obtain ⟨⟨zs, h3, h4⟩, _⟩ := hq
    rw [e, h3] at h1
    injection h1 with h1
    subst h1
    rw [h2.inj h4, str_inj e2]) ⟨l, X, t⟩ ⟨⟨ys, h1, h2⟩, h3⟩
theorem placeQ_ok : ∀ xs y, placeQ xs = some y → PureOk (cfgP nP) 22 xs y := relP_ok (R := fun xs y => PureOk (cfgP nP) 22 xs y) place_ok
/-! ### Has -/
structure Ha where
  L : List Tx
  S : AV
  t : Tx
def Ha.ok (p : Ha) : Prop := elems p.S = some (p.L.map str) ∧ p.L.length < 1073741824
structure HaI (S : AV) (t : Tx) (i : Nat) (e : Env) (h : Hp) : Prop where
  len : e.length = 18
  a0 : aget e 0 = S
  a1 : aget e 1 = str t
  a5 : aget e 5 = .v (.int .i64 (i : Int))
  hp : h = {}
theorem take_snocT {L : List Tx} {i : Nat} {x : Tx} (h : L[i]? = some x) : L.take (i + 1) = L.take i ++ [x] := by
  rw [List.take_add_one, h]
  rfl
set_option maxHeartbeats 4000000 in
theorem has_ok (p : Ha) (hp : p.ok) : PureOk (cfgP nP) 23 [p.S, str p.t] (.v (.bool (decide (p.t ∈ p.L)))) := by
  obtain ⟨L, S, t⟩ := p
  obtain ⟨hS, hl⟩ := hp
  simp only at hS hl
  have lx := len25 (prim := nP) hS
  rw [List.length_map] at lx
  obtain ⟨R, hR⟩ : ∃ R, decide (t ∈ L) = R := ⟨_, rfl⟩
  show PureOk (cfgP nP) 23 [S, str t] (.v (.bool (decide (t ∈ L))))
  rw [hR]
  refine pure_of_wk (call := noCall) (fn := Try.f23) (rs := [.tmp 4]) nP_ok noCall_ok (fns_cfg Try.func23 rfl) rfl rfl ?_
  intro env hl0 hargs
  have hn : env.length = 18 := hl0
  have h0 := hargs 0 _ rfl
  have h1 := hargs 1 _ rfl
  clear hargs hl0
  refine wkT_of ?_
  rw [fe_self hn]
  (try simp -dsimp (disch := omega) only [h0, h1, AS, avals, apairs, bareP, AV.bare, AV.bares, Nat.reduceEqDiff, Nat.reduceLT, Nat.reduceAdd, ↓reduceIte, reduceCtorEq, resA, resA1, resVal, Nat.reduceLeDiff, nb_cfg, Nat.reduceBEq, AX, Int.reduceLT, Int.reduceLE, Int.reduceEq, Int.reduceAdd, Int.reduceSub, Int.reduceMul, Int.reduceNeg, Int.reduceNe])
  refine wt_loop (m := L.length) (fun m e h => ∃ i, i + m = L.length ∧ t ∉ L.take i ∧ HaI S t i e h) ?_ ?_
  · clear hn h0 h1
    rintro m e h ⟨i, him, ht, hn, h0, h1, h5, rfl⟩
    rw [fe_self hn]
    cases m with
    | zero =>
      have dI : decide ((i : Int) < (L.length : Int)) = false := decide_eq_false (by omega)
      rw [List.take_of_length_le (by omega)] at ht
      rw [decide_eq_false ht] at hR
      rw [← hR]
      (try simp -dsimp (disch := omega) only [h0, h1, h5, lx, dI, AS, avals, apairs, bareP, AV.bare, AV.bares, Nat.reduceEqDiff, Nat.reduceLT, Nat.reduceAdd, ↓reduceIte, reduceCtorEq, resA, resA1, resVal, Nat.reduceLeDiff, nb_cfg, Nat.reduceBEq, AX, Int.reduceLT, Int.reduceLE, Int.reduceEq, Int.reduceAdd, Int.reduceSub, Int.reduceMul, Int.reduceNeg, Int.reduceNe])
      exact ⟨5, rfl⟩
    | succ m =>
      have dI : decide ((i : Int) < (L.length : Int)) = true := decide_eq_true (by omega)
      obtain ⟨x, hx⟩ : ∃ x, L[i]? = some x := ⟨_, List.getElem?_eq_getElem (by omega)⟩
      have ixx := ix25 (prim := nP) (k := .i64) hS (tx_get hx) rfl
      have e1 : (i : Int) + 1 = ((i + 1 : Nat) : Int) := by omega
      by_cases hxt : x = t
      · have d1 : decide (x = t) = true := decide_eq_true hxt
        have : t ∈ L := by rw [← hxt]; exact List.mem_of_getElem? hx
        rw [decide_eq_true this] at hR
        rw [← hR]
        (try simp -dsimp (disch := omega) only [h0, h1, h5, lx, dI, ixx, cst, p9, List.getElem?_cons_zero, d1, e1, wrap64, AS, avals, apairs, bareP, AV.bare, AV.bares, Nat.reduceEqDiff, Nat.reduceLT, Nat.reduceAdd, ↓reduceIte, reduceCtorEq, resA, resA1, resVal, Nat.reduceLeDiff, nb_cfg, Nat.reduceBEq, AX, Int.reduceLT, Int.reduceLE, Int.reduceEq, Int.reduceAdd, Int.reduceSub, Int.reduceMul, Int.reduceNeg, Int.reduceNe])
        exact ⟨5, rfl⟩
      · have d1 : decide (x = t) = false := decide_eq_false hxt
        (try simp -dsimp (disch := omega) only [h0, h1, h5, lx, dI, ixx, cst, p9, List.getElem?_cons_zero, d1, e1, wrap64, AS, avals, apairs, bareP, AV.bare, AV.bares, Nat.reduceEqDiff, Nat.reduceLT, Nat.reduceAdd, ↓reduceIte, reduceCtorEq, resA, resA1, resVal, Nat.reduceLeDiff, nb_cfg, Nat.reduceBEq, AX, Int.reduceLT, Int.reduceLE, Int.reduceEq, Int.reduceAdd, Int.reduceSub, Int.reduceMul, Int.reduceNeg, Int.reduceNe])
        refine ⟨m, by omega, i + 1, by omega, ?_, fe_len, ?_, ?_, ?_, rfl⟩
        case refine_1 =>
          rw [take_snocT hx, List.mem_append]
          rintro (h | h)
          · exact ht h
          · simp at h
            exact hxt h.symm
        all_goals (try simp -dsimp (disch := omega) only [h0, h1, AS, avals, apairs, bareP, AV.bare, AV.bares, Nat.reduceEqDiff, Nat.reduceLT, Nat.reduceAdd, ↓reduceIte, reduceCtorEq, resA, resA1, resVal, Nat.reduceLeDiff, nb_cfg, Nat.reduceBEq, AX, Int.reduceLT, Int.reduceLE, Int.reduceEq, Int.reduceAdd, Int.reduceSub, Int.reduceMul, Int.reduceNeg, Int.reduceNe])
  · refine ⟨0, by omega, by simp, fe_len, ?_, ?_, ?_, rfl⟩
    all_goals (try simp -dsimp (disch := omega) only [h0, h1, AS, avals, apairs, bareP, AV.bare, AV.bares, Nat.reduceEqDiff, Nat.reduceLT, Nat.reduceAdd, ↓reduceIte, reduceCtorEq, resA, resA1, resVal, Nat.reduceLeDiff, nb_cfg, Nat.reduceBEq, AX, Int.reduceLT, Int.reduceLE, Int.reduceEq, Int.reduceAdd, Int.reduceSub, Int.reduceMul, Int.reduceNeg, Int.reduceNe])
    all_goals rfl
noncomputable def hasQ := relP Ha.ok (fun p => [p.S, str p.t]) (fun p => .v (.bool (decide (p.t ∈ p.L))))
theorem hasQ_eq {L : List Tx} {S : AV} {t : Tx} (h1 : elems S = some (L.map str)) (h3 : L.length < 1073741824) : hasQ [S, str t] = some (.v (.bool (decide (t ∈ L)))) :=
  relP_eq (X := Ha.ok) (a := fun p => [p.S, str p.t]) (r := fun p => .v (.bool (decide (p.t ∈ p.L)))) (fun p q hp hq e => by
    injection e with e e2
    injection e2 with e2 _
    have h1 := hp.1
    rw [e, hq.1] at h1
    injection h1 with h1
    rw [strs_eq h1, str_inj e2]) ⟨L, S, t⟩ ⟨h1, h3⟩
theorem hasQ_ok : ∀ xs y, hasQ xs = some y → PureOk (cfgP nP) 23 xs y := relP_ok (R := fun xs y => PureOk (cfgP nP) 23 xs y) has_ok
end Go.Proofs.Ytcimffpckcbdlaa

/- Chapter 22: the document's Sorted. -/
namespace Go.Proofs.Ytcimffpckcbdlaa
open Go.AM
/-- The mark of a row of so many texts, put in one by one. -/
def gN : Nat → Nat
  | 0 => 0
  | n + 1 => match n with
    | 0 => 0
    | m + 1 => nextG (gN (m + 1))
def srV (H : Hp) (R : List Tx) : AV := match R with
  | [] => nilS
  | _ :: _ => .ex H.blks.length (gN R.length) 1 0 R.length
def srH (H : Hp) (R : List Tx) : Hp := match R with
  | [] => H
  | _ :: _ => nbk H ⟨gN R.length, 1, R.map str⟩
theorem srV_ne {H : Hp} {R : List Tx} (h : R ≠ []) : srV H R = .ex H.blks.length (gN R.length) 1 0 R.length := by
  cases R with
  | nil => exact absurd rfl h
  | cons x R => rfl
theorem srH_ne {H : Hp} {R : List Tx} (h : R ≠ []) : srH H R = nbk H ⟨gN R.length, 1, R.map str⟩ := by
  cases R with
  | nil => exact absurd rfl h
  | cons x R => rfl
section
variable {prim : FuncId → Option (List AV → Option AV)} {H : Hp} {R : List Tx}
theorem sr_len : lenA (cfgP prim) #[25] [srV H R] = some (.v (.int .i64 (R.length : Int))) := by
  cases R with
  | nil => exact len25n (f := false)
  | cons x R => exact len25x
theorem sr_ix {i : Nat} {k : IntKind} (h : i < R.length) : indexAddrA (cfgP prim) 25 (srV H R) (.v (.int k (i : Int))) = some (.ptr H.blks.length (gN R.length) i 0) := by
  rw [srV_ne (by rintro rfl; simp at h)]
  exact ix25x h
theorem sr_blk (h : R ≠ []) : (srH H R).blks[H.blks.length]? = some ⟨gN R.length, 1, R.map str⟩ := by
  rw [srH_ne h]
  exact nbk_new
theorem nbk_set {k k' : Blk} : (nbk H k).blks.set H.blks.length k' = (nbk H k').blks := by
  show (H.blks ++ [k]).set H.blks.length k' = H.blks ++ [k']
  rw [List.set_append_right _ _ (Nat.le_refl _), Nat.sub_self]
  rfl
theorem sr_store {i : Nat} {y : Tx} (h : i < R.length) : storeA (cfgP prim) 9 H.blks.length (gN R.length) i 0 (str y) (srH H R) = some (srH H (R.set i y)) := by
  have hne : R ≠ [] := by rintro rfl; simp at h
  have hne2 : R.set i y ≠ [] := by
    intro e
    have := congrArg List.length e
    simp at this
    exact hne this
  have hx : (R.map str)[i]? = some (str R[i]) := by simp [h]
  rw [store_row (C := cfgP prim) (t := 9) (x := str y) (sr_blk hne) rfl rfl c9 hx (fun cs h => by cases h), srH_ne hne, srH_ne hne2, nbk_set, List.length_set, List.map_set]
  rfl
theorem sr_app {x : Tx} (hl : R.length < 1073741824) : appXA (cfgP prim) #[25, 25] [srV H R, .cl true [str x]] (srH H R) = some (srV H (R ++ [x]), srH H (R ++ [x])) := by
  have hzl : (str []).cells.length = 1 := rfl
  have hel : (str x).cells.length = 0 + 1 := rfl
  have hr1 : roomOk (cfgP prim) 9 1 = true := ro9 (by omega)
  cases R with
  | nil =>
    show appXA (cfgP prim) #[25, 25] [nilS, .cl true [str x]] H = _
    simp only [appXA, h025, h125, z9, c9, hzl, if_true, appendX, elems, hel, List.length_singleton, hr1, and_self, Nat.zero_add]
    rfl
  | cons y R =>
    have hne : y :: R ≠ [] := by simp
    have hb := sr_blk (H := H) hne
    have hne2 : (y :: R) ++ [x] ≠ [] := by simp
    rw [srV_ne hne, srV_ne hne2, srH_ne hne2]
    obtain ⟨n, hn⟩ : ∃ n, (y :: R).length = n := ⟨_, rfl⟩
    have hnl : ((y :: R).map str).length = n := by rw [List.length_map, hn]
    have hr2 : roomOk (cfgP prim) 9 (n + 1) = true := ro9 (by omega)
    have hg : gN (n + 1) = nextG (gN n) := by
      rw [← hn]
      rfl
    rw [List.length_append, List.length_singleton, hn, hg]
    rw [hn] at hb
    simp only [appXA, h025, h125, z9, c9, hzl, if_true, appendX, elems, hel, List.length_singleton, hr1, and_self, Nat.zero_add, blk_row hb, hnl, hr2]
    rw [srH_ne hne, nbk_set]
    simp only [List.map_append]
    rfl
end
theorem asc_ins {a b : List Tx} {x : Tx} (h : Asc (a ++ b)) (ha : ∀ r ∈ a, bl r x = true) (hb : ∀ r ∈ b, bl x r = true) : Asc (a ++ x :: b) := by
  unfold Asc at h ⊢
  rw [List.pairwise_append] at h ⊢
  refine ⟨h.1, List.pairwise_cons.2 ⟨hb, h.2.1⟩, fun p hp q hq => ?_⟩
  rcases List.mem_cons.1 hq with rfl | hq
  · exact ha p hp
  · exact h.2.2 p hp q hq
structure So1 (S : AV) (H : Hp) (i : Nat) (R : List Tx) (e : Env) (h : Hp) : Prop where
  len : e.length = 72
  a0 : aget e 0 = S
  a3 : aget e 3 = srV H R
  a4 : aget e 4 = .v (.int .i64 (i : Int))
  hp : h = srH H R
structure So2 (S : AV) (H : Hp) (i k : Nat) (R : List Tx) (e : Env) (h : Hp) : Prop where
  len : e.length = 72
  a0 : aget e 0 = S
  a3 : aget e 3 = srV H R
  a4 : aget e 4 = .v (.int .i64 (i : Int))
  a5 : aget e 5 = .v (.int .i64 (k : Int))
  hp : h = srH H R
structure So3 (S V : AV) (H : Hp) (i k j : Nat) (R : List Tx) (e : Env) (h : Hp) : Prop where
  len : e.length = 72
  a0 : aget e 0 = S
  a3 : aget e 3 = V
  a4 : aget e 4 = .v (.int .i64 (i : Int))
  a5 : aget e 5 = .v (.int .i64 (k : Int))
  a6 : aget e 6 = .v (.int .i64 (j : Int))
  hp : h = srH H R
def mid (R : List Tx) (j : Nat) (y : Tx) : List Tx := R.take j ++ y :: R.drop j
theorem mid_len {R : List Tx} {j : Nat} {y : Tx} (h : j ≤ R.length) : (mid R j y).length = R.length + 1 := by
  unfold mid
  rw [List.length_append, List.length_cons, List.length_take, List.length_drop]
  omega
theorem mid_end {R : List Tx} {y : Tx} : R ++ [y] = mid R R.length y := by
  unfold mid
  rw [List.take_of_length_le (Nat.le_refl _), List.drop_eq_nil_of_le (Nat.le_refl _)]
theorem mid_get {R : List Tx} {j : Nat} {y : Tx} (h : j < R.length) : (mid R (j + 1) y)[j]? = R[j]? := by
  unfold mid
  rw [List.getElem?_append_left (by rw [List.length_take]; omega), List.getElem?_take, if_pos (by omega)]
theorem mid_set {R : List Tx} {j : Nat} {y z : Tx} (h : j ≤ R.length) : (mid R j y).set j z = mid R j z := by
  unfold mid
  rw [List.set_append_right _ _ (by rw [List.length_take]; omega), List.length_take, Nat.min_eq_left h, Nat.sub_self]
  rfl
theorem mid_down {R : List Tx} {j : Nat} {x : Tx} (h : R[j]? = some x) : mid R (j + 1) x = mid R j x := by
  obtain ⟨hj, rfl⟩ := List.getElem?_eq_some_iff.1 h
  unfold mid
  rw [take_snocT h, List.append_assoc, List.drop_eq_getElem_cons hj]
  rfl
theorem mid_mem {R : List Tx} {j : Nat} {x t : Tx} : t ∈ mid R j x ↔ t ∈ R ∨ t = x := by
  unfold mid
  rw [List.mem_append, List.mem_cons]
  conv => rhs; rw [← List.take_append_drop j R, List.mem_append]
  constructor
  · rintro (h | h | h)
    · exact .inl (.inl h)
    · exact .inr h
    · exact .inl (.inr h)
  · rintro ((h | h) | h)
    · exact .inl h
    · exact .inr (.inr h)
    · exact .inr (.inl h)
/-- Rows of one length are one slice. -/
theorem mid_facts {prim : FuncId → Option (List AV → Option AV)} (H : Hp) (R : List Tx) : ∃ V G, (∀ j y, j ≤ R.length → srV H (mid R j y) = V) ∧ lenA (cfgP prim) #[25] [V] = some (.v (.int .i64 ((R.length + 1 : Nat) : Int))) ∧
    (∀ (i : Nat) (k : IntKind), i < R.length + 1 → indexAddrA (cfgP prim) 25 V (.v (.int k (i : Int))) = some (.ptr H.blks.length G i 0)) ∧
    (∀ j y i z, j ≤ R.length → i < R.length + 1 → storeA (cfgP prim) 9 H.blks.length G i 0 (str z) (srH H (mid R j y)) = some (srH H ((mid R j y).set i z))) ∧
    (∀ j y, j ≤ R.length → blkAt (srH H (mid R j y)) H.blks.length G = some ⟨G, 1, (mid R j y).map str⟩) := by
  have hne : ∀ j y, j ≤ R.length → mid R j y ≠ [] := fun j y hj e => by
    have := mid_len (y := y) hj
    rw [e] at this
    simp at this
  have hV : ∀ j y, j ≤ R.length → srV H (mid R j y) = .ex H.blks.length (gN (R.length + 1)) 1 0 (R.length + 1) := fun j y hj => by rw [srV_ne (hne j y hj), mid_len hj]
  refine ⟨_, gN (R.length + 1), hV, len25x, fun i k hi => ix25x hi, fun j y i z hj hi => ?_, fun j y hj => ?_⟩
  · have := sr_store (prim := prim) (H := H) (R := mid R j y) (i := i) (y := z) (by rw [mid_len hj]; exact hi)
    rwa [mid_len hj] at this
  · have := blk_row (sr_blk (H := H) (hne j y hj))
    rwa [mid_len hj] at this
theorem asc_len {R L : List Tx} (h : Asc R) (hm : ∀ t, t ∈ R → t ∈ L) : R.length ≤ L.length := nodup_len h.nodup hm
set_option maxHeartbeats 16000000 in
set_option maxRecDepth 100000 in
theorem sorted_ok (H : Hp) (S : AV) (L R0 : List Tx) (hS : elems S = some (L.map str)) (hl : L.length < 1073741824) (hR : ∀ R : List Tx, Asc R → (∀ t, t ∈ R ↔ t ∈ L) → R = R0) : CallOk (cfgP nP) 24 [S] H (srV H R0) (srH H R0) := by
  have lx := len25 (prim := nP) hS
  rw [List.length_map] at lx
  have nb : nbOf (cfgP nP) 24 (some 47) = true := by rfl
  refine call_of_wk (call := noCall) (fn := Try.f24) (rs := [.tmp 2]) nP_ok noCall_ok (fns_cfg Try.func24 rfl) rfl rfl ?_
  intro env hl0 hargs
  have hn : env.length = 72 := hl0
  have h0 := hargs 0 _ rfl
  clear hargs hl0
  refine wkT_of ?_
  rw [fe_self hn]
  (try simp -dsimp (disch := omega) only [h0, lx, AS, avals, apairs, bareP, AV.bare, AV.bares, Nat.reduceEqDiff, Nat.reduceLT, Nat.reduceAdd, ↓reduceIte, reduceCtorEq, resA, resA1, resVal, Nat.reduceLeDiff, nb_cfg, Nat.reduceBEq, AX, Int.reduceLT, Int.reduceLE, Int.reduceEq, Int.reduceAdd, Int.reduceSub, Int.reduceMul, Int.reduceNeg, Int.reduceNe])
  refine wt_loop (m := L.length) (fun m e h => ∃ i R, i + m = L.length ∧ Asc R ∧ (∀ t, t ∈ R ↔ t ∈ L.take i) ∧ So1 S H i R e h) ?_ ?_
  · clear hn h0
    rintro m e h ⟨i, R, him, hA, hM, hn, h0, h3, h4, rfl⟩
    rw [fe_self hn]
    cases m with
    | zero =>
      have dI : decide ((i : Int) < (L.length : Int)) = false := decide_eq_false (by omega)
      rw [List.take_of_length_le (by omega)] at hM
      have := hR R hA hM
      subst this
      (try simp -dsimp (disch := omega) only [h0, h3, h4, lx, dI, AS, avals, apairs, bareP, AV.bare, AV.bares, Nat.reduceEqDiff, Nat.reduceLT, Nat.reduceAdd, ↓reduceIte, reduceCtorEq, resA, resA1, resVal, Nat.reduceLeDiff, nb_cfg, Nat.reduceBEq, AX, Int.reduceLT, Int.reduceLE, Int.reduceEq, Int.reduceAdd, Int.reduceSub, Int.reduceMul, Int.reduceNeg, Int.reduceNe])
    | succ m =>
      have dI : decide ((i : Int) < (L.length : Int)) = true := decide_eq_true (by omega)
      obtain ⟨x, hx⟩ : ∃ x, L[i]? = some x := ⟨_, List.getElem?_eq_getElem (by omega)⟩
      have ixx := ix25 (prim := nP) (k := .i64) hS (tx_get hx) rfl
      have e1 : (i : Int) + 1 = ((i + 1 : Nat) : Int) := by omega
      have lr := sr_len (prim := nP) (H := H) (R := R)
      have hRL : R.length ≤ L.length := asc_len hA fun t ht => List.mem_of_mem_take ((hM t).1 ht)
      have hmem : ∀ R' : List Tx, (∀ t : Tx, t ∈ R' ↔ t ∈ R ∨ t = x) → ∀ t, t ∈ R' ↔ t ∈ L.take (i + 1) := by
        intro R' h t
        rw [h t, hM t, take_snocT hx, List.mem_append]
        simp
      (try simp -dsimp (disch := omega) only [h0, h3, h4, lx, dI, AS, avals, apairs, bareP, AV.bare, AV.bares, Nat.reduceEqDiff, Nat.reduceLT, Nat.reduceAdd, ↓reduceIte, reduceCtorEq, resA, resA1, resVal, Nat.reduceLeDiff, nb_cfg, Nat.reduceBEq, AX, Int.reduceLT, Int.reduceLE, Int.reduceEq, Int.reduceAdd, Int.reduceSub, Int.reduceMul, Int.reduceNeg, Int.reduceNe])
      refine wt_loop (m := R.length) (fun m' e h => ∃ k, k + m' = R.length ∧ (∀ j r, j < k → R[j]? = some r → bl r x = true) ∧ So2 S H i k R e h) ?_ ?_
      · clear hn h0 h3 h4 e
        rintro m' e h ⟨k, hkm, hk, hn, h0, h3, h4, h5, rfl⟩
        rw [fe_self hn]
        have ek : (k : Int) + 1 = ((k + 1 : Nat) : Int) := by omega
        -- what happens behind the search
        have hins : (∀ r, R[k]? = some r → bl x r = true) → Asc (mid R k x) := by
          intro h
          have hA' : Asc (R.take k ++ R.drop k) := by rw [List.take_append_drop]; exact hA
          refine asc_ins hA' (fun r hr => ?_) (fun r hr => ?_)
          · obtain ⟨j, hj⟩ := List.getElem?_of_mem hr
            rw [List.getElem?_take] at hj
            split at hj
            · rename_i hlt
              exact hk j r hlt hj
            · cases hj
          · obtain ⟨j, hj⟩ := List.getElem?_of_mem hr
            rw [List.getElem?_drop] at hj
            cases j with
            | zero => exact h r hj
            | succ j =>
              have hkj := (List.getElem?_eq_some_iff.1 hj)
              have hkl : k < R.length := by have := hkj.1; omega
              have h1 := h R[k] (List.getElem?_eq_getElem hkl)
              have h2 := List.pairwise_iff_getElem.1 hA k (k + (j + 1)) hkl hkj.1 (by omega)
              rw [hkj.2] at h2
              exact bl_trans h1 h2
        by_cases hkn : k < R.length
        · obtain ⟨r, hr⟩ : ∃ r, R[k]? = some r := ⟨_, List.getElem?_eq_getElem hkn⟩
          have dK : decide ((k : Int) < (R.length : Int)) = true := decide_eq_true (by omega)
          have hne : R ≠ [] := by rintro rfl; simp at hkn
          have ik := sr_ix (prim := nP) (H := H) (k := .i64) hkn
          have kb := blk_row (sr_blk (H := H) hne)
          have g1 := tx_get hr
          by_cases hb : bl r x = true
          · (try simp -dsimp (disch := omega) only [h0, h3, h4, h5, lr, dK, ik, kb, g1, cst, p9, List.getElem?_cons_zero, ixx, hb, ek, wrap64, AS, avals, apairs, bareP, AV.bare, AV.bares, Nat.reduceEqDiff, Nat.reduceLT, Nat.reduceAdd, ↓reduceIte, reduceCtorEq, resA, resA1, resVal, Nat.reduceLeDiff, nb_cfg, Nat.reduceBEq, AX, Int.reduceLT, Int.reduceLE, Int.reduceEq, Int.reduceAdd, Int.reduceSub, Int.reduceMul, Int.reduceNeg, Int.reduceNe])
            refine ⟨by kernel_rfl, m' - 1, by omega, k + 1, by omega, ?_, fe_len, ?_, ?_, ?_, ?_, rfl⟩
            case refine_1 =>
              intro j r' hj hr'
              by_cases e : j = k
              · subst e
                rw [hr] at hr'
                injection hr' with hr'
                rw [← hr']
                exact hb
              · exact hk j r' (by omega) hr'
            all_goals (try simp -dsimp (disch := omega) only [h0, h3, h4, AS, avals, apairs, bareP, AV.bare, AV.bares, Nat.reduceEqDiff, Nat.reduceLT, Nat.reduceAdd, ↓reduceIte, reduceCtorEq, resA, resA1, resVal, Nat.reduceLeDiff, nb_cfg, Nat.reduceBEq, AX, Int.reduceLT, Int.reduceLE, Int.reduceEq, Int.reduceAdd, Int.reduceSub, Int.reduceMul, Int.reduceNeg, Int.reduceNe])
          · have hb' : bl r x = false := by simpa using hb
            by_cases he : r = x
            · have d1 : decide (r = x) = true := decide_eq_true he
              (try simp -dsimp (disch := omega) only [h0, h3, h4, h5, lr, dK, ik, kb, g1, cst, p9, List.getElem?_cons_zero, ixx, hb', d1, e1, wrap64, AS, avals, apairs, bareP, AV.bare, AV.bares, Nat.reduceEqDiff, Nat.reduceLT, Nat.reduceAdd, ↓reduceIte, reduceCtorEq, resA, resA1, resVal, Nat.reduceLeDiff, nb_cfg, Nat.reduceBEq, AX, Int.reduceLT, Int.reduceLE, Int.reduceEq, Int.reduceAdd, Int.reduceSub, Int.reduceMul, Int.reduceNeg, Int.reduceNe])
              refine ⟨by kernel_rfl, by kernel_rfl, m, by omega, i + 1, R, by omega, hA, hmem R fun t => ?_, fe_len, ?_, ?_, ?_, rfl⟩
              case refine_1 =>
                refine ⟨.inl, fun h => h.elim id fun h => ?_⟩
                rw [h, ← he]
                exact List.mem_of_getElem? hr
              all_goals (try simp -dsimp (disch := omega) only [h0, h3, h4, AS, avals, apairs, bareP, AV.bare, AV.bares, Nat.reduceEqDiff, Nat.reduceLT, Nat.reduceAdd, ↓reduceIte, reduceCtorEq, resA, resA1, resVal, Nat.reduceLeDiff, nb_cfg, Nat.reduceBEq, AX, Int.reduceLT, Int.reduceLE, Int.reduceEq, Int.reduceAdd, Int.reduceSub, Int.reduceMul, Int.reduceNeg, Int.reduceNe])
            · have d1 : decide (r = x) = false := decide_eq_false he
              have hA2 := hins fun r' hr' => by
                rw [hr] at hr'
                injection hr' with hr'
                subst hr'
                cases hc : bl x r with
                | true => rfl
                | false => exact absurd (bl_tri hb' hc) he
              have ap := sr_app (prim := nP) (H := H) (R := R) (x := []) (by omega)
              rw [mid_end] at ap
              obtain ⟨V, G, v1, v2, v3, v4, v5⟩ := mid_facts (prim := nP) H R
              rw [v1 _ _ (Nat.le_refl _)] at ap
              have e2 : ((R.length + 1 : Nat) : Int) - 1 = (R.length : Int) := by omega
              (try simp -dsimp (disch := omega) only [h0, h3, h4, h5, lr, dK, ik, kb, g1, cst, p9, List.getElem?_cons_zero, hb', d1, ixx, wrap64, bare_s, b25, nb, appB_t, ap, v2, e2, AS, avals, apairs, bareP, AV.bare, AV.bares, Nat.reduceEqDiff, Nat.reduceLT, Nat.reduceAdd, ↓reduceIte, reduceCtorEq, resA, resA1, resVal, Nat.reduceLeDiff, nb_cfg, Nat.reduceBEq, AX, Int.reduceLT, Int.reduceLE, Int.reduceEq, Int.reduceAdd, Int.reduceSub, Int.reduceMul, Int.reduceNeg, Int.reduceNe])
              refine ⟨by kernel_rfl, by kernel_rfl, ?_⟩
              refine wt_loop (m := R.length - k) (fun m2 e h => ∃ j y, k + m2 = j ∧ j ≤ R.length ∧ So3 S V H i k j (mid R j y) e h) ?_ ?_
              · clear hn h0 h3 h4 h5 e
                rintro m2 e h ⟨j, y, hjm, hjl, hn, h0, h3, h4, h5, h6, rfl⟩
                rw [fe_self hn]
                cases m2 with
                | zero =>
                  have hjk : j = k := by omega
                  subst hjk
                  have dJ : decide ((j : Int) > (j : Int)) = false := decide_eq_false (by omega)
                  have st := v4 j y j x hjl (by omega)
                  rw [mid_set hjl] at st
                  have ik := v3 j .i64 (by omega)
                  (try simp -dsimp (disch := omega) only [h0, h3, h4, h5, h6, dJ, ik, ixx, cst, p9, List.getElem?_cons_zero, st, e1, wrap64, AS, avals, apairs, bareP, AV.bare, AV.bares, Nat.reduceEqDiff, Nat.reduceLT, Nat.reduceAdd, ↓reduceIte, reduceCtorEq, resA, resA1, resVal, Nat.reduceLeDiff, nb_cfg, Nat.reduceBEq, AX, Int.reduceLT, Int.reduceLE, Int.reduceEq, Int.reduceAdd, Int.reduceSub, Int.reduceMul, Int.reduceNeg, Int.reduceNe])
                  refine ⟨m, by omega, i + 1, mid R j x, by omega, hA2, hmem _ fun t => mid_mem, fe_len, ?_, ?_, ?_, rfl⟩
                  case refine_2 => rw [v1 _ _ hjl]; (try simp -dsimp (disch := omega) only [h0, h3, h4, AS, avals, apairs, bareP, AV.bare, AV.bares, Nat.reduceEqDiff, Nat.reduceLT, Nat.reduceAdd, ↓reduceIte, reduceCtorEq, resA, resA1, resVal, Nat.reduceLeDiff, nb_cfg, Nat.reduceBEq, AX, Int.reduceLT, Int.reduceLE, Int.reduceEq, Int.reduceAdd, Int.reduceSub, Int.reduceMul, Int.reduceNeg, Int.reduceNe])
                  all_goals (try simp -dsimp (disch := omega) only [h0, h3, h4, AS, avals, apairs, bareP, AV.bare, AV.bares, Nat.reduceEqDiff, Nat.reduceLT, Nat.reduceAdd, ↓reduceIte, reduceCtorEq, resA, resA1, resVal, Nat.reduceLeDiff, nb_cfg, Nat.reduceBEq, AX, Int.reduceLT, Int.reduceLE, Int.reduceEq, Int.reduceAdd, Int.reduceSub, Int.reduceMul, Int.reduceNeg, Int.reduceNe])
                | succ m2 =>
                  obtain ⟨j, rfl⟩ : ∃ j', j = j' + 1 := ⟨j - 1, by omega⟩
                  have dJ : decide (((j + 1 : Nat) : Int) > (k : Int)) = true := decide_eq_true (by omega)
                  have ej : ((j + 1 : Nat) : Int) - 1 = (j : Int) := by omega
                  obtain ⟨r', hr'⟩ : ∃ r, R[j]? = some r := ⟨_, List.getElem?_eq_getElem (by omega)⟩
                  have st := v4 (j + 1) y (j + 1) r' hjl (by omega)
                  rw [mid_set hjl, mid_down hr'] at st
                  have i1 := v3 (j + 1) .i64 (by omega)
                  have i2 := v3 j .i64 (by omega)
                  have kb := v5 (j + 1) y hjl
                  have g1 : ((mid R (j + 1) y).map str)[j]? = some (str r') := by rw [List.getElem?_map, mid_get (by omega), hr']; rfl
                  (try simp -dsimp (disch := omega) only [h0, h3, h4, h5, h6, dJ, ej, wrap64, i1, i2, kb, g1, cst, p9, List.getElem?_cons_zero, st, AS, avals, apairs, bareP, AV.bare, AV.bares, Nat.reduceEqDiff, Nat.reduceLT, Nat.reduceAdd, ↓reduceIte, reduceCtorEq, resA, resA1, resVal, Nat.reduceLeDiff, nb_cfg, Nat.reduceBEq, AX, Int.reduceLT, Int.reduceLE, Int.reduceEq, Int.reduceAdd, Int.reduceSub, Int.reduceMul, Int.reduceNeg, Int.reduceNe])
                  refine ⟨m2, by omega, j, r', by omega, by omega, fe_len, ?_, ?_, ?_, ?_, ?_, rfl⟩
                  all_goals (try simp -dsimp (disch := omega) only [h0, h3, h4, h5, AS, avals, apairs, bareP, AV.bare, AV.bares, Nat.reduceEqDiff, Nat.reduceLT, Nat.reduceAdd, ↓reduceIte, reduceCtorEq, resA, resA1, resVal, Nat.reduceLeDiff, nb_cfg, Nat.reduceBEq, AX, Int.reduceLT, Int.reduceLE, Int.reduceEq, Int.reduceAdd, Int.reduceSub, Int.reduceMul, Int.reduceNeg, Int.reduceNe])
              · refine ⟨R.length, [], by omega, Nat.le_refl _, fe_len, ?_, ?_, ?_, ?_, ?_, rfl⟩
                all_goals (try simp -dsimp (disch := omega) only [h0, h4, h5, AS, avals, apairs, bareP, AV.bare, AV.bares, Nat.reduceEqDiff, Nat.reduceLT, Nat.reduceAdd, ↓reduceIte, reduceCtorEq, resA, resA1, resVal, Nat.reduceLeDiff, nb_cfg, Nat.reduceBEq, AX, Int.reduceLT, Int.reduceLE, Int.reduceEq, Int.reduceAdd, Int.reduceSub, Int.reduceMul, Int.reduceNeg, Int.reduceNe])
        · have dK : decide ((k : Int) < (R.length : Int)) = false := decide_eq_false (by omega)
          have hA2 := hins fun r' hr' => absurd (List.getElem?_eq_some_iff.1 hr').1 hkn
          have ap := sr_app (prim := nP) (H := H) (R := R) (x := []) (by omega)
          rw [mid_end] at ap
          obtain ⟨V, G, v1, v2, v3, v4, v5⟩ := mid_facts (prim := nP) H R
          rw [v1 _ _ (Nat.le_refl _)] at ap
          have e2 : ((R.length + 1 : Nat) : Int) - 1 = (R.length : Int) := by omega
          (try simp -dsimp (disch := omega) only [h0, h3, h4, h5, lr, dK, ixx, wrap64, bare_s, b25, nb, appB_t, ap, v2, e2, AS, avals, apairs, bareP, AV.bare, AV.bares, Nat.reduceEqDiff, Nat.reduceLT, Nat.reduceAdd, ↓reduceIte, reduceCtorEq, resA, resA1, resVal, Nat.reduceLeDiff, nb_cfg, Nat.reduceBEq, AX, Int.reduceLT, Int.reduceLE, Int.reduceEq, Int.reduceAdd, Int.reduceSub, Int.reduceMul, Int.reduceNeg, Int.reduceNe])
          refine ⟨by kernel_rfl, by kernel_rfl, ?_⟩
          refine wt_loop (m := R.length - k) (fun m2 e h => ∃ j y, k + m2 = j ∧ j ≤ R.length ∧ So3 S V H i k j (mid R j y) e h) ?_ ?_
          · clear hn h0 h3 h4 h5 e
            rintro m2 e h ⟨j, y, hjm, hjl, hn, h0, h3, h4, h5, h6, rfl⟩
            rw [fe_self hn]
            cases m2 with
            | zero =>
              have hjk : j = k := by omega
              subst hjk
              have dJ : decide ((j : Int) > (j : Int)) = false := decide_eq_false (by omega)
              have st := v4 j y j x hjl (by omega)
              rw [mid_set hjl] at st
              have ik := v3 j .i64 (by omega)
              (try simp -dsimp (disch := omega) only [h0, h3, h4, h5, h6, dJ, ik, ixx, cst, p9, List.getElem?_cons_zero, st, e1, wrap64, AS, avals, apairs, bareP, AV.bare, AV.bares, Nat.reduceEqDiff, Nat.reduceLT, Nat.reduceAdd, ↓reduceIte, reduceCtorEq, resA, resA1, resVal, Nat.reduceLeDiff, nb_cfg, Nat.reduceBEq, AX, Int.reduceLT, Int.reduceLE, Int.reduceEq, Int.reduceAdd, Int.reduceSub, Int.reduceMul, Int.reduceNeg, Int.reduceNe])
              refine ⟨m, by omega, i + 1, mid R j x, by omega, hA2, hmem _ fun t => mid_mem, fe_len, ?_, ?_, ?_, rfl⟩
              case refine_2 => rw [v1 _ _ hjl]; (try simp -dsimp (disch := omega) only [h0, h3, h4, AS, avals, apairs, bareP, AV.bare, AV.bares, Nat.reduceEqDiff, Nat.reduceLT, Nat.reduceAdd, ↓reduceIte, reduceCtorEq, resA, resA1, resVal, Nat.reduceLeDiff, nb_cfg, Nat.reduceBEq, AX, Int.reduceLT, Int.reduceLE, Int.reduceEq, Int.reduceAdd, Int.reduceSub, Int.reduceMul, Int.reduceNeg, Int.reduceNe])
              all_goals (try simp -dsimp (disch := omega) only [h0, h3, h4, AS, avals, apairs, bareP, AV.bare, AV.bares, Nat.reduceEqDiff, Nat.reduceLT, Nat.reduceAdd, ↓reduceIte, reduceCtorEq, resA, resA1, resVal, Nat.reduceLeDiff, nb_cfg, Nat.reduceBEq, AX, Int.reduceLT, Int.reduceLE, Int.reduceEq, Int.reduceAdd, Int.reduceSub, Int.reduceMul, Int.reduceNeg, Int.reduceNe])
            | succ m2 =>
              obtain ⟨j, rfl⟩ : ∃ j', j = j' + 1 := ⟨j - 1, by omega⟩
              have dJ : decide (((j + 1 : Nat) : Int) > (k : Int)) = true := decide_eq_true (by omega)
              have ej : ((j + 1 : Nat) : Int) - 1 = (j : Int) := by omega
              obtain ⟨r', hr'⟩ : ∃ r, R[j]? = some r := ⟨_, List.getElem?_eq_getElem (by omega)⟩
              have st := v4 (j + 1) y (j + 1) r' hjl (by omega)
              rw [mid_set hjl, mid_down hr'] at st
              have i1 := v3 (j + 1) .i64 (by omega)
              have i2 := v3 j .i64 (by omega)
              have kb := v5 (j + 1) y hjl
              have g1 : ((mid R (j + 1) y).map str)[j]? = some (str r') := by rw [List.getElem?_map, mid_get (by omega), hr']; rfl
              (try simp -dsimp (disch := omega) only [h0, h3, h4, h5, h6, dJ, ej, wrap64, i1, i2, kb, g1, cst, p9, List.getElem?_cons_zero, st, AS, avals, apairs, bareP, AV.bare, AV.bares, Nat.reduceEqDiff, Nat.reduceLT, Nat.reduceAdd, ↓reduceIte, reduceCtorEq, resA, resA1, resVal, Nat.reduceLeDiff, nb_cfg, Nat.reduceBEq, AX, Int.reduceLT, Int.reduceLE, Int.reduceEq, Int.reduceAdd, Int.reduceSub, Int.reduceMul, Int.reduceNeg, Int.reduceNe])
              refine ⟨m2, by omega, j, r', by omega, by omega, fe_len, ?_, ?_, ?_, ?_, ?_, rfl⟩
              all_goals (try simp -dsimp (disch := omega) only [h0, h3, h4, h5, AS, avals, apairs, bareP, AV.bare, AV.bares, Nat.reduceEqDiff, Nat.reduceLT, Nat.reduceAdd, ↓reduceIte, reduceCtorEq, resA, resA1, resVal, Nat.reduceLeDiff, nb_cfg, Nat.reduceBEq, AX, Int.reduceLT, Int.reduceLE, Int.reduceEq, Int.reduceAdd, Int.reduceSub, Int.reduceMul, Int.reduceNeg, Int.reduceNe])
          · refine ⟨R.length, [], by omega, Nat.le_refl _, fe_len, ?_, ?_, ?_, ?_, ?_, rfl⟩
            all_goals (try simp -dsimp (disch := omega) only [h0, h4, h5, AS, avals, apairs, bareP, AV.bare, AV.bares, Nat.reduceEqDiff, Nat.reduceLT, Nat.reduceAdd, ↓reduceIte, reduceCtorEq, resA, resA1, resVal, Nat.reduceLeDiff, nb_cfg, Nat.reduceBEq, AX, Int.reduceLT, Int.reduceLE, Int.reduceEq, Int.reduceAdd, Int.reduceSub, Int.reduceMul, Int.reduceNeg, Int.reduceNe])
      · refine ⟨0, by omega, fun j r hj => by omega, fe_len, ?_, ?_, ?_, ?_, rfl⟩
        all_goals (try simp -dsimp (disch := omega) only [h0, h3, h4, AS, avals, apairs, bareP, AV.bare, AV.bares, Nat.reduceEqDiff, Nat.reduceLT, Nat.reduceAdd, ↓reduceIte, reduceCtorEq, resA, resA1, resVal, Nat.reduceLeDiff, nb_cfg, Nat.reduceBEq, AX, Int.reduceLT, Int.reduceLE, Int.reduceEq, Int.reduceAdd, Int.reduceSub, Int.reduceMul, Int.reduceNeg, Int.reduceNe])
        all_goals rfl
  · refine ⟨0, [], by omega, List.Pairwise.nil, fun t => by simp, fe_len, ?_, ?_, ?_, rfl⟩
    all_goals (try simp -dsimp (disch := omega) only [h0, AS, avals, apairs, bareP, AV.bare, AV.bares, Nat.reduceEqDiff, Nat.reduceLT, Nat.reduceAdd, ↓reduceIte, reduceCtorEq, resA, resA1, resVal, Nat.reduceLeDiff, nb_cfg, Nat.reduceBEq, AX, Int.reduceLT, Int.reduceLE, Int.reduceEq, Int.reduceAdd, Int.reduceSub, Int.reduceMul, Int.reduceNeg, Int.reduceNe])
    all_goals rfl
end Go.Proofs.Ytcimffpckcbdlaa
