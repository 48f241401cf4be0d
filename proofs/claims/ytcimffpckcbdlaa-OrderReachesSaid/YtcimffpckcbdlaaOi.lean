/- Contracts of functions, and plain facts about what they compute. -/
import Derived.Test.YtcimffpckcbdlaaOh
set_option linter.unusedSimpArgs false
set_option linter.unusedVariables false
/- Chapter 22: OrderReaches. -/
namespace Go.Proofs.Ytcimffpckcbdlaa
open Go.AM
theorem nodup_of : ∀ L : List Tx, ∃ M : List Tx, M.Nodup ∧ ∀ t, t ∈ M ↔ t ∈ L
  | [] => ⟨[], List.nodup_nil, fun t => Iff.rfl⟩
  | x :: L => by
    obtain ⟨M, h1, h2⟩ := nodup_of L
    by_cases h : x ∈ M
    · refine ⟨M, h1, fun t => ?_⟩
      rw [h2, List.mem_cons]
      constructor
      · exact .inr
      · rintro (rfl | h')
        · exact (h2 _).1 h
        · exact h'
    · exact ⟨x :: M, List.nodup_cons.2 ⟨h, h1⟩, fun t => by rw [List.mem_cons, List.mem_cons, h2]⟩
open Classical in
theorem reachL_is (l : List It) (fr : List Tx) : Asc (reachL l fr) ∧ ∀ t, t ∈ reachL l fr ↔ Rc l fr t := by
  obtain ⟨M, h1, h2⟩ := nodup_of ((ids l).filter fun t => decide (Rc l fr t))
  have h3 := reachL_eq (l := l) (fr := fr) (sortT_asc h1) fun t => by
    rw [sortT_mem, h2, List.mem_filter, decide_eq_true_eq]
    constructor
    · exact fun h => h.2
    · exact fun h => ⟨Decidable.byContradiction fun hn => h.2 (plc_none.2 hn), h⟩
  rcases reachL_spec (l := l) (fr := fr) with h | h
  · rw [h3]
    refine ⟨sortT_asc h1, fun t => ?_⟩
    rw [sortT_mem, h2, List.mem_filter, decide_eq_true_eq]
    constructor
    · exact fun h => h.2
    · exact fun h => ⟨Decidable.byContradiction fun hn => h.2 (plc_none.2 hn), h⟩
  · exact h
theorem dem_le {l : List It} {fr R : List Tx} (h : ∀ t ∈ R, Dem l fr t) {t : Tx} (hd : Dem l R t) : Dem l fr t := by
  induction hd with
  | base ht => exact h _ ht
  | step _ ht ih => exact .step ih ht
theorem reachL_again (l : List It) (fr : List Tx) : reachL l (reachL l fr) = reachL l fr := by
  obtain ⟨h1, h2⟩ := reachL_is l fr
  refine reachL_eq h1 fun t => ?_
  constructor
  · intro ht
    exact ⟨.base ht, ((h2 t).1 ht).2⟩
  · rintro ⟨hd, hp⟩
    exact (h2 t).2 ⟨dem_le (fun s hs => ((h2 s).1 hs).1) hd, hp⟩
theorem nds_plc {l : List It} {s t : Tx} (h : t ∈ nds l s) : plc l s ≠ none := by
  intro e
  unfold nds at h
  rw [e] at h
  cases h
/-- Nothing is reached that nobody leads to. -/
theorem led {l : List It} {fr : List Tx} {P : Tx → Prop} (h1 : ∀ t ∈ fr, P t) (h2 : ∀ s ∈ reachL l fr, ∀ t ∈ nds l s, t ≠ s → P t) {t : Tx} (hd : Dem l fr t) : P t := by
  induction hd with
  | base h => exact h1 _ h
  | @step s u hs hu ih =>
    by_cases e : u = s
    · rw [e]
      exact ih
    · exact h2 s (((reachL_is l fr).2 s).2 ⟨hs, nds_plc hu⟩) u hu e
/-! ### Some maps -/
def LkG (h : Hp) (m : Nat) (f : Tx → Option Nat) : Prop := ∃ es, h.mps[m]? = some es ∧ ∀ t : Tx, lookM ⟨t.toArray⟩ es = (f t).map fun (k : Nat) => AV.v (.int .i64 (k : Int))
def putG (h : Hp) (m : Nat) (t : Tx) (k : Nat) : Hp := { h with mps := h.mps.set m (putM ⟨t.toArray⟩ (.v (.int .i64 (k : Int))) ((h.mps[m]?).getD [])) }
section
variable {prim : FuncId → Option (List AV → Option AV)} {h : Hp} {m : Nat} {f : Tx → Option Nat} {t : Tx}
theorem LkG.some (L : LkG h m f) {k : Nat} (hf : f t = Option.some k) : lookA (cfgP prim) 31 (.mp m) (str t) false h = Option.some (.v (.int .i64 (k : Int))) := by
  obtain ⟨es, h1, h2⟩ := L
  have hu : (cfgP prim).und 31 = Option.some (.map 9 3) := by kernel_rfl
  show lookA (cfgP prim) 31 (.mp m) (.v (.string ⟨t.toArray⟩)) false h = _
  simp only [lookA, hu, u9, h1, h2 t, hf, Option.map_some]
  rfl
theorem LkG.none (L : LkG h m f) (hf : f t = Option.none) : lookA (cfgP prim) 31 (.mp m) (str t) false h = Option.some (.v (.int .i64 0)) := by
  obtain ⟨es, h1, h2⟩ := L
  have hu : (cfgP prim).und 31 = Option.some (.map 9 3) := by kernel_rfl
  have hz : zeroA (cfgP prim) 3 = Option.some (.v (.int .i64 0)) := by kernel_rfl
  show lookA (cfgP prim) 31 (.mp m) (.v (.string ⟨t.toArray⟩)) false h = _
  simp only [lookA, hu, u9, h1, h2 t, hf, Option.map_none, hz, Option.map_some]
  rfl
theorem LkG.up (L : LkG h m f) {k : Nat} : mapUpdA (cfgP prim) 31 (.mp m) (str t) (.v (.int .i64 (k : Int))) h = Option.some (.undef, putG h m t k) := by
  obtain ⟨es, h1, h2⟩ := L
  have hu : (cfgP prim).und 31 = Option.some (.map 9 3) := by kernel_rfl
  show mapUpdA (cfgP prim) 31 (.mp m) (.v (.string ⟨t.toArray⟩)) (.v (.int .i64 (k : Int))) h = _
  simp only [mapUpdA, hu, u9, h1, putG, Option.getD_some]
theorem LkG.put (L : LkG h m f) {k : Nat} {g : Tx → Option Nat} (hg : ∀ s, g s = if s = t then Option.some k else f s) : LkG (putG h m t k) m g := by
  obtain ⟨es, h1, h2⟩ := L
  have hm := (List.getElem?_eq_some_iff.1 h1).1
  refine ⟨_, List.getElem?_set_self hm, fun s => ?_⟩
  rw [h1, Option.getD_some, lookM_put, hg]
  by_cases hs : s = t
  · subst hs
    simp
  · rw [if_neg hs, if_neg (fun e => hs (ba_inj e)), h2]
theorem LkG.other (L : LkG h m f) {m' k : Nat} (hm : m' ≠ m) : LkG (putG h m' t k) m f := by
  obtain ⟨es, h1, h2⟩ := L
  exact ⟨es, (List.getElem?_set_ne hm).trans h1, h2⟩
theorem LkG.of {h' : Hp} (L : LkG h m f) (e : h'.mps = h.mps) : LkG h' m f := by
  obtain ⟨es, h1, h2⟩ := L
  exact ⟨es, by rw [e]; exact h1, h2⟩
theorem LkG.more {h' : Hp} (L : LkG h m f) {x : List (ByteArray × AV)} (e : h'.mps = h.mps ++ [x]) : LkG h' m f := by
  obtain ⟨es, h1, h2⟩ := L
  exact ⟨es, by rw [e, List.getElem?_append_left (List.getElem?_eq_some_iff.1 h1).1]; exact h1, h2⟩
theorem LkG.fresh {h' : Hp} (hm : h.mps.length = m) (e : h'.mps = h.mps ++ [[]]) : LkG h' m fun _ => Option.none := by
  refine ⟨[], by rw [e, ← hm]; simp, fun t => rfl⟩
theorem putG_len {k : Nat} : (putG h m t k).mps.length = h.mps.length := List.length_set
end
def oneF (P : List Tx) (t : Tx) : Option Nat := if t ∈ P then some 1 else none
theorem oneF_some {P : List Tx} {t : Tx} (h : t ∈ P) : oneF P t = some 1 := if_pos h
theorem oneF_put {P P' : List Tx} {t : Tx} (h : ∀ s, s ∈ P' ↔ s ∈ P ∨ s = t) (s : Tx) : oneF P' s = if s = t then some 1 else oneF P s := by
  unfold oneF
  by_cases e : s = t
  · rw [if_pos e, if_pos ((h s).2 (.inr e))]
  · rw [if_neg e]
    by_cases hp : s ∈ P
    · rw [if_pos hp, if_pos ((h s).2 (.inl hp))]
    · rw [if_neg hp, if_neg]
      intro h'
      rcases (h s).1 h' with h' | h'
      · exact hp h'
      · exact e h'
def fstF (l : List It) (t : Tx) : Option Nat := (plc l t).map (· + 1)
theorem fstF_some {l : List It} {t : Tx} {k : Nat} (h : plc l t = some k) : fstF l t = some (k + 1) := by unfold fstF; rw [h]; rfl
theorem fstF_none {l : List It} {t : Tx} (h : plc l t = none) : fstF l t = none := by unfold fstF; rw [h]; rfl
theorem mem_take_snoc {L : List Tx} {i : Nat} {x : Tx} (h : L[i]? = some x) (s : Tx) : s ∈ L.take (i + 1) ↔ s ∈ L.take i ∨ s = x := by
  rw [take_snocT h, List.mem_append]
  simp
structure K0 (X F A : AV) (i : Nat) (e : Env) (h : Hp) : Prop where
  len : e.length = 191
  a0 : aget e 0 = X
  a1 : aget e 1 = F
  a5 : aget e 5 = A
  a6 : aget e 6 = .mp 0
  a7 : aget e 7 = .v (.int .i64 (i : Int))
  ml : h.mps.length = 1
structure K2 (X F A : AV) (i : Nat) (e : Env) (h : Hp) : Prop where
  len : e.length = 191
  a0 : aget e 0 = X
  a1 : aget e 1 = F
  a5 : aget e 5 = A
  a6 : aget e 6 = .mp 0
  a8 : aget e 8 = .mp 1
  a9 : aget e 9 = .v (.int .i64 (i : Int))
  ml : h.mps.length = 2
structure K4 (X F A : AV) (s i : Nat) (e : Env) (h : Hp) : Prop where
  len : e.length = 191
  a0 : aget e 0 = X
  a1 : aget e 1 = F
  a5 : aget e 5 = A
  a6 : aget e 6 = .mp 0
  a8 : aget e 8 = .mp 1
  a10 : aget e 10 = .mp 2
  ai : aget e s = .v (.int .i64 (i : Int))
structure K8 (X F A N : AV) (i k : Nat) (e : Env) (h : Hp) : Prop where
  len : e.length = 191
  a0 : aget e 0 = X
  a1 : aget e 1 = F
  a5 : aget e 5 = A
  a6 : aget e 6 = .mp 0
  a8 : aget e 8 = .mp 1
  a10 : aget e 10 = .mp 2
  a12 : aget e 12 = .v (.int .i64 (i : Int))
  a13 : aget e 13 = N
  a14 : aget e 14 = .v (.int .i64 (k : Int))
set_option maxHeartbeats 16000000 in
set_option maxRecDepth 100000 in
theorem reaches_core (l : List It) (X : AV) (ys : List AV) (fr : List Tx) (F : AV) (hXX : (X = nilS ∧ ys = []) ∨ X = .ro ys) (hI : ItsE l ys) (hl : l.length ≤ 9223372036854775807) (hN : ∀ x ∈ l, x.2.length ≤ 9223372036854775807)
    (hF : elems F = some (fr.map str)) (hFl : fr.length ≤ 9223372036854775807) (hFF : (F = nilS ∧ fr = []) ∨ F = .ro (fr.map str)) : PureOk (cfgP ow3) 6 [X, F] (.v (.bool true)) := by
  have hX : elems X = some ys := by
    rcases hXX with ⟨rfl, rfl⟩ | rfl <;> rfl
  have hXb : X.bare = some X := by
    rcases hXX with ⟨rfl, rfl⟩ | rfl <;> rfl
  have hFb : F.bare = some F := by
    rcases hFF with ⟨rfl, rfl⟩ | rfl <;> rfl
  have hFk : slK F := by
    rcases hFF with ⟨rfl, rfl⟩ | rfl
    · exact .inl rfl
    · exact .inr ⟨rfl, rfl⟩
  have qf := fewQ_eq hX hI hl hN
  have qa : oawakeP [] = some (.v (.bool true)) := rfl
  have lf := len25 (prim := ow3) hF
  rw [List.length_map] at lf
  have lx := len22 (prim := ow3) hX
  rw [ItsE.length hI] at lx
  have w8 := ow3_8
  have w9 := ow3_9
  have w11 := ow3_11
  have w12 := ow3_12
  cases hf : fewB l with
  | false =>
    rw [hf] at qf
    refine pure_of_wk (call := noCall) (fn := Try.f6) (rs := [.tmp 4]) ow3_ok noCall_ok (fns_cfg Try.func6 rfl) rfl rfl ?_
    intro env hl0 hargs
    have hn : env.length = 191 := hl0
    have h0 := hargs 0 _ rfl
    have h1 := hargs 1 _ rfl
    clear hargs hl0
    refine wkT_of ?_
    rw [fe_self hn]
    (try simp -dsimp (disch := omega) only [h0, h1, ct_prim w8, qa, ct_prim w9, hXb, qf, AS, avals, apairs, bareP, AV.bare, AV.bares, Nat.reduceEqDiff, Nat.reduceLT, Nat.reduceAdd, ↓reduceIte, reduceCtorEq, resA, resA1, resVal, Nat.reduceLeDiff, nb_cfg, Nat.reduceBEq, AX, Int.reduceLT, Int.reduceLE, Int.reduceEq, Int.reduceAdd, Int.reduceSub, Int.reduceMul, Int.reduceNeg, Int.reduceNe])
    exact ⟨5, rfl⟩
  | true =>
  rw [hf] at qf
  by_cases h20 : fr.length > 20
  · have d1 : decide ((fr.length : Int) > 20) = true := decide_eq_true (by omega)
    refine pure_of_wk (call := noCall) (fn := Try.f6) (rs := [.tmp 4]) ow3_ok noCall_ok (fns_cfg Try.func6 rfl) rfl rfl ?_
    intro env hl0 hargs
    have hn : env.length = 191 := hl0
    have h0 := hargs 0 _ rfl
    have h1 := hargs 1 _ rfl
    clear hargs hl0
    refine wkT_of ?_
    rw [fe_self hn]
    (try simp -dsimp (disch := omega) only [h0, h1, ct_prim w8, qa, ct_prim w9, hXb, qf, lf, d1, AS, avals, apairs, bareP, AV.bare, AV.bares, Nat.reduceEqDiff, Nat.reduceLT, Nat.reduceAdd, ↓reduceIte, reduceCtorEq, resA, resA1, resVal, Nat.reduceLeDiff, nb_cfg, Nat.reduceBEq, AX, Int.reduceLT, Int.reduceLE, Int.reduceEq, Int.reduceAdd, Int.reduceSub, Int.reduceMul, Int.reduceNeg, Int.reduceNe])
    exact ⟨5, rfl⟩
  have d1 : decide ((fr.length : Int) > 20) = false := decide_eq_false (by omega)
  unfold fewB at hf
  rw [Bool.and_eq_true, decide_eq_true_eq, List.all_eq_true] at hf
  have hl40 := hf.1
  have hN20 : ∀ x ∈ l, x.2.length ≤ 20 := fun x hx => by simpa using hf.2 x hx
  have hN4 : ∀ x ∈ l, x.2.length < 4096 := fun x hx => by have := hN20 x hx; omega
  have qr := reachQ_eq hX hI hF hFk (by omega) hN4 (by omega)
  obtain ⟨hA1, hA2⟩ := reachL_is l fr
  have hagain := reachL_again l fr
  have hled := fun P h1 h2 t => led (l := l) (fr := fr) (P := P) h1 h2 (t := t)
  obtain ⟨R, hR⟩ : ∃ R, reachL l fr = R := ⟨_, rfl⟩
  have hrl : R.length ≤ 40 := by have := reachL_len (l := l) (fr := fr); rw [hR] at this; omega
  have hAk : slK (slS R) := by
    unfold slS
    split
    · exact .inl rfl
    · exact .inr ⟨rfl, rfl⟩
  rw [hR] at qr hA1 hA2 hagain
  have qr2 := reachQ_eq hX hI (slS_el (a := R)) hAk (by omega) hN4 (by omega)
  rw [hagain] at qr2
  have qt := textsQ_eq (slS_el (a := R)) (slS_el (a := R)) (by omega)
  rw [decide_eq_true rfl] at qt
  have hAe := slS_el (a := R)
  have sa := slS_bare (a := R)
  obtain ⟨A, hA⟩ : ∃ A, slS R = A := ⟨_, rfl⟩
  rw [hA] at qr qr2 qt sa hAe
  have la := len25 (prim := ow3) hAe
  rw [List.length_map] at la
  refine pure_of_wk (call := noCall) (fn := Try.f6) (rs := [.tmp 4]) ow3_ok noCall_ok (fns_cfg Try.func6 rfl) rfl rfl ?_
  intro env hl0 hargs
  have hn : env.length = 191 := hl0
  have h0 := hargs 0 _ rfl
  have h1 := hargs 1 _ rfl
  clear hargs hl0
  refine wkT_of ?_
  rw [fe_self hn]
  (try simp -dsimp (disch := omega) only [h0, h1, ct_prim w8, qa, ct_prim w9, hXb, hFb, qf, lf, d1, ct_prim w12, qr, AS, avals, apairs, bareP, AV.bare, AV.bares, Nat.reduceEqDiff, Nat.reduceLT, Nat.reduceAdd, ↓reduceIte, reduceCtorEq, resA, resA1, resVal, Nat.reduceLeDiff, nb_cfg, Nat.reduceBEq, AX, Int.reduceLT, Int.reduceLE, Int.reduceEq, Int.reduceAdd, Int.reduceSub, Int.reduceMul, Int.reduceNeg, Int.reduceNe])
  refine wt_loop (m := R.length) (fun m e h => ∃ i, i + m = R.length ∧ LkG h 0 (oneF (R.take i)) ∧ K0 X F A i e h) ?_ ?_
  · clear hn h0 h1
    rintro m e h ⟨i, him, hL, hn, h0, h1, h5, h6, h7, hml⟩
    rw [fe_self hn]
    cases m with
    | succ m =>
      have dI : decide ((i : Int) < (R.length : Int)) = true := decide_eq_true (by omega)
      obtain ⟨t, ht⟩ : ∃ t, R[i]? = some t := ⟨_, List.getElem?_eq_getElem (by omega)⟩
      have i1 := ix25 (prim := ow3) (k := .i64) hAe (tx_get ht) rfl
      have e1 : (i : Int) + 1 = ((i + 1 : Nat) : Int) := by omega
      have um : mapUpdA (cfgP ow3) 31 (.mp 0) (str t) (.v (.int .i64 1)) h = some (.undef, putG h 0 t 1) := hL.up (k := 1)
      cases i with
      | zero =>
        have d0 : decide (((0 : Nat) : Int) > 0) = false := rfl
        (try simp -dsimp (disch := omega) only [h0, h1, h5, h6, h7, la, dI, d0, i1, cst, p9, List.getElem?_cons_zero, um, e1, wrap64, AS, avals, apairs, bareP, AV.bare, AV.bares, Nat.reduceEqDiff, Nat.reduceLT, Nat.reduceAdd, ↓reduceIte, reduceCtorEq, resA, resA1, resVal, Nat.reduceLeDiff, nb_cfg, Nat.reduceBEq, AX, Int.reduceLT, Int.reduceLE, Int.reduceEq, Int.reduceAdd, Int.reduceSub, Int.reduceMul, Int.reduceNeg, Int.reduceNe])
        refine ⟨by kernel_rfl, m, by omega, 0 + 1, by omega, hL.put (oneF_put (mem_take_snoc ht)), fe_len, ?_, ?_, ?_, ?_, ?_, putG_len.trans hml⟩
        all_goals (try simp -dsimp (disch := omega) only [h0, h1, h5, h6, AS, avals, apairs, bareP, AV.bare, AV.bares, Nat.reduceEqDiff, Nat.reduceLT, Nat.reduceAdd, ↓reduceIte, reduceCtorEq, resA, resA1, resVal, Nat.reduceLeDiff, nb_cfg, Nat.reduceBEq, AX, Int.reduceLT, Int.reduceLE, Int.reduceEq, Int.reduceAdd, Int.reduceSub, Int.reduceMul, Int.reduceNeg, Int.reduceNe])
        all_goals rfl
      | succ j =>
        have d0 : decide (((j + 1 : Nat) : Int) > 0) = true := decide_eq_true (by omega)
        have ej : ((j + 1 : Nat) : Int) - 1 = (j : Int) := by omega
        obtain ⟨s, hs⟩ : ∃ s, R[j]? = some s := ⟨_, List.getElem?_eq_getElem (by omega)⟩
        have i2 := ix25 (prim := ow3) (k := .i64) hAe (tx_get hs) rfl
        have hst : bl s t = true := by
          obtain ⟨hj, rfl⟩ := List.getElem?_eq_some_iff.1 hs
          obtain ⟨hj1, rfl⟩ := List.getElem?_eq_some_iff.1 ht
          exact List.pairwise_iff_getElem.1 hA1 j (j + 1) hj hj1 (by omega)
        have hb1 : bl t s = false := bl_asymm hst
        have hb2 : decide (t = s) = false := decide_eq_false fun e => by
          rw [e, bl_irrefl] at hst
          cases hst
        (try simp -dsimp (disch := omega) only [h0, h1, h5, h6, h7, la, dI, d0, ej, wrap64, i1, i2, cst, p9, List.getElem?_cons_zero, hb1, hb2, um, e1, AS, avals, apairs, bareP, AV.bare, AV.bares, Nat.reduceEqDiff, Nat.reduceLT, Nat.reduceAdd, ↓reduceIte, reduceCtorEq, resA, resA1, resVal, Nat.reduceLeDiff, nb_cfg, Nat.reduceBEq, AX, Int.reduceLT, Int.reduceLE, Int.reduceEq, Int.reduceAdd, Int.reduceSub, Int.reduceMul, Int.reduceNeg, Int.reduceNe])
        refine ⟨by kernel_rfl, m, by omega, j + 1 + 1, by omega, hL.put (oneF_put (mem_take_snoc ht)), fe_len, ?_, ?_, ?_, ?_, ?_, putG_len.trans hml⟩
        all_goals (try simp -dsimp (disch := omega) only [h0, h1, h5, h6, AS, avals, apairs, bareP, AV.bare, AV.bares, Nat.reduceEqDiff, Nat.reduceLT, Nat.reduceAdd, ↓reduceIte, reduceCtorEq, resA, resA1, resVal, Nat.reduceLeDiff, nb_cfg, Nat.reduceBEq, AX, Int.reduceLT, Int.reduceLE, Int.reduceEq, Int.reduceAdd, Int.reduceSub, Int.reduceMul, Int.reduceNeg, Int.reduceNe])
    | zero =>
      have dI : decide ((i : Int) < (R.length : Int)) = false := decide_eq_false (by omega)
      rw [List.take_of_length_le (by omega)] at hL
      (try simp -dsimp (disch := omega) only [h0, h1, h5, h6, h7, la, dI, hml, AS, avals, apairs, bareP, AV.bare, AV.bares, Nat.reduceEqDiff, Nat.reduceLT, Nat.reduceAdd, ↓reduceIte, reduceCtorEq, resA, resA1, resVal, Nat.reduceLeDiff, nb_cfg, Nat.reduceBEq, AX, Int.reduceLT, Int.reduceLE, Int.reduceEq, Int.reduceAdd, Int.reduceSub, Int.reduceMul, Int.reduceNeg, Int.reduceNe])
      refine wt_loop (m := fr.length) (fun m e h => ∃ i, i + m = fr.length ∧ LkG h 0 (oneF R) ∧ LkG h 1 (oneF (fr.take i)) ∧ K2 X F A i e h) ?_ ?_
      · clear hn h0 h1 h5 h6 h7 hL hml dI him e h i
        rintro m e h ⟨i, him, hL0, hL1, hn, h0, h1, h5, h6, h8, h9, hml⟩
        rw [fe_self hn]
        cases m with
        | succ m =>
          have dI : decide ((i : Int) < (fr.length : Int)) = true := decide_eq_true (by omega)
          obtain ⟨t, ht⟩ : ∃ t, fr[i]? = some t := ⟨_, List.getElem?_eq_getElem (by omega)⟩
          have i1 := ix25 (prim := ow3) (k := .i64) hF (tx_get ht) rfl
          have e1 : (i : Int) + 1 = ((i + 1 : Nat) : Int) := by omega
          have um : mapUpdA (cfgP ow3) 31 (.mp 1) (str t) (.v (.int .i64 1)) h = some (.undef, putG h 1 t 1) := hL1.up (k := 1)
          (try simp -dsimp (disch := omega) only [h0, h1, h5, h6, h8, h9, lf, dI, i1, cst, p9, List.getElem?_cons_zero, um, e1, wrap64, AS, avals, apairs, bareP, AV.bare, AV.bares, Nat.reduceEqDiff, Nat.reduceLT, Nat.reduceAdd, ↓reduceIte, reduceCtorEq, resA, resA1, resVal, Nat.reduceLeDiff, nb_cfg, Nat.reduceBEq, AX, Int.reduceLT, Int.reduceLE, Int.reduceEq, Int.reduceAdd, Int.reduceSub, Int.reduceMul, Int.reduceNeg, Int.reduceNe])
          refine ⟨m, by omega, i + 1, by omega, hL0.other (by omega), hL1.put (oneF_put (mem_take_snoc ht)), fe_len, ?_, ?_, ?_, ?_, ?_, ?_, putG_len.trans hml⟩
          all_goals (try simp -dsimp (disch := omega) only [h0, h1, h5, h6, h8, AS, avals, apairs, bareP, AV.bare, AV.bares, Nat.reduceEqDiff, Nat.reduceLT, Nat.reduceAdd, ↓reduceIte, reduceCtorEq, resA, resA1, resVal, Nat.reduceLeDiff, nb_cfg, Nat.reduceBEq, AX, Int.reduceLT, Int.reduceLE, Int.reduceEq, Int.reduceAdd, Int.reduceSub, Int.reduceMul, Int.reduceNeg, Int.reduceNe])
        | zero =>
          have dI : decide ((i : Int) < (fr.length : Int)) = false := decide_eq_false (by omega)
          rw [List.take_of_length_le (by omega)] at hL1
          (try simp -dsimp (disch := omega) only [h0, h1, h5, h6, h8, h9, lf, dI, hml, AS, avals, apairs, bareP, AV.bare, AV.bares, Nat.reduceEqDiff, Nat.reduceLT, Nat.reduceAdd, ↓reduceIte, reduceCtorEq, resA, resA1, resVal, Nat.reduceLeDiff, nb_cfg, Nat.reduceBEq, AX, Int.reduceLT, Int.reduceLE, Int.reduceEq, Int.reduceAdd, Int.reduceSub, Int.reduceMul, Int.reduceNeg, Int.reduceNe])
          refine wt_loop (m := l.length) (fun m e h => ∃ i, i + m = l.length ∧ LkG h 0 (oneF R) ∧ LkG h 1 (oneF fr) ∧ LkG h 2 (fstF (l.take i)) ∧ K4 X F A 11 i e h) ?_ ?_
          · clear hn h0 h1 h5 h6 h8 h9 hL0 hL1 hml dI him e h i
            rintro m e h ⟨i, him, hL0, hL1, hL2, hn, h0, h1, h5, h6, h8, h10, h11⟩
            rw [fe_self hn]
            cases m with
            | succ m =>
              have dI : decide ((i : Int) < (l.length : Int)) = true := decide_eq_true (by omega)
              obtain ⟨x, hx⟩ : ∃ x, l[i]? = some x := ⟨_, List.getElem?_eq_getElem (by omega)⟩
              obtain ⟨N, hyi, hNe⟩ := ItsE.get hI hx
              have ixx := ix22 (prim := ow3) (k := .i64) hX hyi
              have e1 : (i : Int) + 1 = ((i + 1 : Nat) : Int) := by omega
              cases hp : plc (l.take i) x.1 with
              | some k =>
                have lk := hL2.some (prim := ow3) (fstF_some hp)
                have d0 : decide (((k + 1 : Nat) : Int) = 0) = false := decide_eq_false (by omega)
                (try simp -dsimp (disch := omega) only [h0, h1, h5, h6, h8, h10, h11, lx, dI, ixx, f0r, cag, p9, Nat.zero_add, List.getElem?_cons_zero, lk, d0, e1, wrap64, AS, avals, apairs, bareP, AV.bare, AV.bares, Nat.reduceEqDiff, Nat.reduceLT, Nat.reduceAdd, ↓reduceIte, reduceCtorEq, resA, resA1, resVal, Nat.reduceLeDiff, nb_cfg, Nat.reduceBEq, AX, Int.reduceLT, Int.reduceLE, Int.reduceEq, Int.reduceAdd, Int.reduceSub, Int.reduceMul, Int.reduceNeg, Int.reduceNe])
                refine ⟨m, by omega, i + 1, by omega, hL0, hL1, ?_, fe_len, ?_, ?_, ?_, ?_, ?_, ?_, ?_⟩
                case refine_1 =>
                  have e : fstF (l.take (i + 1)) = fstF (l.take i) := by
                    funext t
                    unfold fstF
                    rw [take_snoc hx, plc_snoc_some hp]
                  rw [e]
                  exact hL2
                all_goals (try simp -dsimp (disch := omega) only [h0, h1, h5, h6, h8, h10, AS, avals, apairs, bareP, AV.bare, AV.bares, Nat.reduceEqDiff, Nat.reduceLT, Nat.reduceAdd, ↓reduceIte, reduceCtorEq, resA, resA1, resVal, Nat.reduceLeDiff, nb_cfg, Nat.reduceBEq, AX, Int.reduceLT, Int.reduceLE, Int.reduceEq, Int.reduceAdd, Int.reduceSub, Int.reduceMul, Int.reduceNeg, Int.reduceNe])
              | none =>
                have lk := hL2.none (prim := ow3) (fstF_none hp)
                have um := hL2.up (prim := ow3) (t := x.1) (k := i + 1)
                (try simp -dsimp (disch := omega) only [h0, h1, h5, h6, h8, h10, h11, lx, dI, ixx, f0r, cag, p9, Nat.zero_add, List.getElem?_cons_zero, lk, e1, wrap64, um, AS, avals, apairs, bareP, AV.bare, AV.bares, Nat.reduceEqDiff, Nat.reduceLT, Nat.reduceAdd, ↓reduceIte, reduceCtorEq, resA, resA1, resVal, Nat.reduceLeDiff, nb_cfg, Nat.reduceBEq, AX, Int.reduceLT, Int.reduceLE, Int.reduceEq, Int.reduceAdd, Int.reduceSub, Int.reduceMul, Int.reduceNeg, Int.reduceNe])
                refine ⟨m, by omega, i + 1, by omega, hL0.other (by omega), hL1.other (by omega), hL2.put fun s => ?_, fe_len, ?_, ?_, ?_, ?_, ?_, ?_, ?_⟩
                case refine_1 =>
                  unfold fstF
                  rw [take_snoc hx, plc_snoc hp, List.length_take, Nat.min_eq_left (by omega)]
                  split <;> rfl
                all_goals (try simp -dsimp (disch := omega) only [h0, h1, h5, h6, h8, h10, AS, avals, apairs, bareP, AV.bare, AV.bares, Nat.reduceEqDiff, Nat.reduceLT, Nat.reduceAdd, ↓reduceIte, reduceCtorEq, resA, resA1, resVal, Nat.reduceLeDiff, nb_cfg, Nat.reduceBEq, AX, Int.reduceLT, Int.reduceLE, Int.reduceEq, Int.reduceAdd, Int.reduceSub, Int.reduceMul, Int.reduceNeg, Int.reduceNe])
            | zero =>
              have dI : decide ((i : Int) < (l.length : Int)) = false := decide_eq_false (by omega)
              rw [show l.take i = l from List.take_of_length_le (by omega)] at hL2
              (try simp -dsimp (disch := omega) only [h0, h1, h5, h6, h8, h10, h11, lx, dI, AS, avals, apairs, bareP, AV.bare, AV.bares, Nat.reduceEqDiff, Nat.reduceLT, Nat.reduceAdd, ↓reduceIte, reduceCtorEq, resA, resA1, resVal, Nat.reduceLeDiff, nb_cfg, Nat.reduceBEq, AX, Int.reduceLT, Int.reduceLE, Int.reduceEq, Int.reduceAdd, Int.reduceSub, Int.reduceMul, Int.reduceNeg, Int.reduceNe])
              refine wt_loop (m := R.length) (fun m e h => ∃ i P, i + m = R.length ∧ LkG h 0 (oneF R) ∧ LkG h 1 (oneF P) ∧ LkG h 2 (fstF l) ∧ (∀ t ∈ fr, t ∈ P) ∧ (∀ s ∈ R.take i, ∀ t ∈ nds l s, t ≠ s → t ∈ P) ∧ K4 X F A 12 i e h) ?_ ?_
              · clear hn h0 h1 h5 h6 h8 h10 h11 hL0 hL1 hL2 dI him e h i
                rintro m e h ⟨i, P, him, hL0, hL1, hL2, hP1, hP2, hn, h0, h1, h5, h6, h8, h10, h12⟩
                rw [fe_self hn]
                cases m with
                | succ m =>
                  have dI : decide ((i : Int) < (R.length : Int)) = true := decide_eq_true (by omega)
                  obtain ⟨s, hs⟩ : ∃ s, R[i]? = some s := ⟨_, List.getElem?_eq_getElem (by omega)⟩
                  have hsR : s ∈ R := List.mem_of_getElem? hs
                  have hsr := (hA2 s).1 hsR
                  obtain ⟨p, hp⟩ : ∃ p, plc l s = some p := Option.ne_none_iff_exists'.1 hsr.2
                  obtain ⟨x, hx, hxs⟩ := plc_some hp
                  have hnx := nds_of hp hx
                  obtain ⟨N, hyi, hNe⟩ := ItsE.get hI hx
                  have hNc := (elems_flat hNe).1
                  have i1 := ix25 (prim := ow3) (k := .i64) hAe (tx_get hs) rfl
                  have ixx := ix22 (prim := ow3) (k := .i64) hX hyi
                  have lN := len25 (prim := ow3) hNe
                  rw [List.length_map] at lN
                  have e1 : (i : Int) + 1 = ((i + 1 : Nat) : Int) := by omega
                  have lk := hL2.some (prim := ow3) (fstF_some hp)
                  have d0 : decide (((p + 1 : Nat) : Int) = 0) = false := decide_eq_false (by omega)
                  have hxl := hN20 x (List.mem_of_getElem? hx)
                  have hpl : p ≤ 40 := by have := (List.getElem?_eq_some_iff.1 hx).1; omega
                  have ep : ((p + 1 : Nat) : Int) - 1 = (p : Int) := by omega
                  (try simp -dsimp (disch := omega) only [h0, h1, h5, h6, h8, h10, h12, la, dI, i1, cst, cag, p9, p25, List.getElem?_cons_zero, List.getElem?_cons_succ, lk, d0, ep, wrap64, ixx, f1r, Nat.zero_add, hNc, AS, avals, apairs, bareP, AV.bare, AV.bares, Nat.reduceEqDiff, Nat.reduceLT, Nat.reduceAdd, ↓reduceIte, reduceCtorEq, resA, resA1, resVal, Nat.reduceLeDiff, nb_cfg, Nat.reduceBEq, AX, Int.reduceLT, Int.reduceLE, Int.reduceEq, Int.reduceAdd, Int.reduceSub, Int.reduceMul, Int.reduceNeg, Int.reduceNe])
                  refine wt_loop (m := x.2.length) (fun m1 e h => ∃ k P, k + m1 = x.2.length ∧ LkG h 0 (oneF R) ∧ LkG h 1 (oneF P) ∧ LkG h 2 (fstF l) ∧ (∀ t ∈ fr, t ∈ P) ∧ (∀ s ∈ R.take i, ∀ t ∈ nds l s, t ≠ s → t ∈ P) ∧ (∀ t ∈ x.2.take k, t ≠ s → t ∈ P) ∧ K8 X F A N i k e h) ?_ ?_
                  · clear hn h0 h1 h5 h6 h8 h10 h12 hL0 hL1 hL2 lk hP1 hP2 e h P
                    rintro m1 e h ⟨k, P, hkm, hL0, hL1, hL2, hP1, hP2, hP3, hn, h0, h1, h5, h6, h8, h10, h12, h13, h14⟩
                    rw [fe_self hn]
                    cases m1 with
                    | zero =>
                      have dK : decide ((k : Int) < (x.2.length : Int)) = false := decide_eq_false (by omega)
                      rw [List.take_of_length_le (by omega)] at hP3
                      (try simp -dsimp (disch := omega) only [h0, h1, h5, h6, h8, h10, h12, h13, h14, lN, dK, e1, wrap64, AS, avals, apairs, bareP, AV.bare, AV.bares, Nat.reduceEqDiff, Nat.reduceLT, Nat.reduceAdd, ↓reduceIte, reduceCtorEq, resA, resA1, resVal, Nat.reduceLeDiff, nb_cfg, Nat.reduceBEq, AX, Int.reduceLT, Int.reduceLE, Int.reduceEq, Int.reduceAdd, Int.reduceSub, Int.reduceMul, Int.reduceNeg, Int.reduceNe])
                      refine ⟨m, by omega, i + 1, P, by omega, hL0, hL1, hL2, hP1, ?_, fe_len, ?_, ?_, ?_, ?_, ?_, ?_, ?_⟩
                      case refine_1 =>
                        intro u hu t ht hne
                        rcases (mem_take_snoc hs u).1 hu with hu | hu
                        · exact hP2 u hu t ht hne
                        · subst hu
                          rw [hnx] at ht
                          exact hP3 t ht hne
                      all_goals (try simp -dsimp (disch := omega) only [h0, h1, h5, h6, h8, h10, AS, avals, apairs, bareP, AV.bare, AV.bares, Nat.reduceEqDiff, Nat.reduceLT, Nat.reduceAdd, ↓reduceIte, reduceCtorEq, resA, resA1, resVal, Nat.reduceLeDiff, nb_cfg, Nat.reduceBEq, AX, Int.reduceLT, Int.reduceLE, Int.reduceEq, Int.reduceAdd, Int.reduceSub, Int.reduceMul, Int.reduceNeg, Int.reduceNe])
                    | succ m1 =>
                      have dK : decide ((k : Int) < (x.2.length : Int)) = true := decide_eq_true (by omega)
                      obtain ⟨t, ht⟩ : ∃ t, x.2[k]? = some t := ⟨_, List.getElem?_eq_getElem (by omega)⟩
                      have htm : t ∈ x.2 := List.mem_of_getElem? ht
                      have i2 := ix25 (prim := ow3) (k := .i64) hNe (tx_get ht) rfl
                      have ek : (k : Int) + 1 = ((k + 1 : Nat) : Int) := by omega
                      have um : mapUpdA (cfgP ow3) 31 (.mp 1) (str t) (.v (.int .i64 1)) h = some (.undef, putG h 1 t 1) := hL1.up (k := 1)
                      have hup : ∀ u, u ∈ P ++ [t] ↔ u ∈ P ∨ u = t := fun u => by rw [List.mem_append]; simp
                      cases hpt : plc l t with
                      | none =>
                        have lk2 := hL2.none (prim := ow3) (fstF_none hpt)
                        by_cases hts : t = s
                        · have d3 : decide (t = s) = true := decide_eq_true hts
                          (try simp -dsimp (disch := omega) only [h0, h1, h5, h6, h8, h10, h12, h13, h14, lN, dK, i1, i2, cst, p9, List.getElem?_cons_zero, lk2, d3, ek, wrap64, AS, avals, apairs, bareP, AV.bare, AV.bares, Nat.reduceEqDiff, Nat.reduceLT, Nat.reduceAdd, ↓reduceIte, reduceCtorEq, resA, resA1, resVal, Nat.reduceLeDiff, nb_cfg, Nat.reduceBEq, AX, Int.reduceLT, Int.reduceLE, Int.reduceEq, Int.reduceAdd, Int.reduceSub, Int.reduceMul, Int.reduceNeg, Int.reduceNe])
                          refine ⟨by kernel_rfl, m1, by omega, k + 1, P, by omega, hL0, hL1, hL2, hP1, hP2, fun u hu hne => ?_, fe_len, ?_, ?_, ?_, ?_, ?_, ?_, ?_, ?_, ?_⟩
                          case refine_1 =>
                            rcases (mem_take_snoc ht u).1 hu with hu | hu
                            · exact hP3 u hu hne
                            · exact absurd (hu.trans hts) hne
                          all_goals (try simp -dsimp (disch := omega) only [h0, h1, h5, h6, h8, h10, h12, h13, AS, avals, apairs, bareP, AV.bare, AV.bares, Nat.reduceEqDiff, Nat.reduceLT, Nat.reduceAdd, ↓reduceIte, reduceCtorEq, resA, resA1, resVal, Nat.reduceLeDiff, nb_cfg, Nat.reduceBEq, AX, Int.reduceLT, Int.reduceLE, Int.reduceEq, Int.reduceAdd, Int.reduceSub, Int.reduceMul, Int.reduceNeg, Int.reduceNe])
                        · have d3 : decide (t = s) = false := decide_eq_false hts
                          (try simp -dsimp (disch := omega) only [h0, h1, h5, h6, h8, h10, h12, h13, h14, lN, dK, i1, i2, cst, p9, List.getElem?_cons_zero, lk2, d3, um, ek, wrap64, AS, avals, apairs, bareP, AV.bare, AV.bares, Nat.reduceEqDiff, Nat.reduceLT, Nat.reduceAdd, ↓reduceIte, reduceCtorEq, resA, resA1, resVal, Nat.reduceLeDiff, nb_cfg, Nat.reduceBEq, AX, Int.reduceLT, Int.reduceLE, Int.reduceEq, Int.reduceAdd, Int.reduceSub, Int.reduceMul, Int.reduceNeg, Int.reduceNe])
                          refine ⟨by kernel_rfl, m1, by omega, k + 1, P ++ [t], by omega, hL0.other (by omega), hL1.put (oneF_put hup), hL2.other (by omega), fun u hu => (hup u).2 (.inl (hP1 u hu)), fun a ha u hu hne => (hup u).2 (.inl (hP2 a ha u hu hne)), fun u hu hne => ?_, fe_len, ?_, ?_, ?_, ?_, ?_, ?_, ?_, ?_, ?_⟩
                          case refine_1 =>
                            rcases (mem_take_snoc ht u).1 hu with hu | hu
                            · exact (hup u).2 (.inl (hP3 u hu hne))
                            · exact (hup u).2 (.inr hu)
                          all_goals (try simp -dsimp (disch := omega) only [h0, h1, h5, h6, h8, h10, h12, h13, AS, avals, apairs, bareP, AV.bare, AV.bares, Nat.reduceEqDiff, Nat.reduceLT, Nat.reduceAdd, ↓reduceIte, reduceCtorEq, resA, resA1, resVal, Nat.reduceLeDiff, nb_cfg, Nat.reduceBEq, AX, Int.reduceLT, Int.reduceLE, Int.reduceEq, Int.reduceAdd, Int.reduceSub, Int.reduceMul, Int.reduceNeg, Int.reduceNe])
                      | some q =>
                        have lk2 := hL2.some (prim := ow3) (fstF_some hpt)
                        have d4 : decide (((q + 1 : Nat) : Int) = 0) = false := decide_eq_false (by omega)
                        have htR : t ∈ R := (hA2 t).2 ⟨.step hsr.1 (by rw [hnx]; exact htm), by rw [hpt]; simp⟩
                        have lk3 : lookA (cfgP ow3) 31 (.mp 0) (str t) false h = some (.v (.int .i64 1)) := hL0.some (prim := ow3) (oneF_some htR)
                        by_cases hts : t = s
                        · have d3 : decide (t = s) = true := decide_eq_true hts
                          (try simp -dsimp (disch := omega) only [h0, h1, h5, h6, h8, h10, h12, h13, h14, lN, dK, i1, i2, cst, p9, List.getElem?_cons_zero, lk2, d4, lk3, d3, ek, wrap64, AS, avals, apairs, bareP, AV.bare, AV.bares, Nat.reduceEqDiff, Nat.reduceLT, Nat.reduceAdd, ↓reduceIte, reduceCtorEq, resA, resA1, resVal, Nat.reduceLeDiff, nb_cfg, Nat.reduceBEq, AX, Int.reduceLT, Int.reduceLE, Int.reduceEq, Int.reduceAdd, Int.reduceSub, Int.reduceMul, Int.reduceNeg, Int.reduceNe])
                          refine ⟨by kernel_rfl, m1, by omega, k + 1, P, by omega, hL0, hL1, hL2, hP1, hP2, fun u hu hne => ?_, fe_len, ?_, ?_, ?_, ?_, ?_, ?_, ?_, ?_, ?_⟩
                          case refine_1 =>
                            rcases (mem_take_snoc ht u).1 hu with hu | hu
                            · exact hP3 u hu hne
                            · exact absurd (hu.trans hts) hne
                          all_goals (try simp -dsimp (disch := omega) only [h0, h1, h5, h6, h8, h10, h12, h13, AS, avals, apairs, bareP, AV.bare, AV.bares, Nat.reduceEqDiff, Nat.reduceLT, Nat.reduceAdd, ↓reduceIte, reduceCtorEq, resA, resA1, resVal, Nat.reduceLeDiff, nb_cfg, Nat.reduceBEq, AX, Int.reduceLT, Int.reduceLE, Int.reduceEq, Int.reduceAdd, Int.reduceSub, Int.reduceMul, Int.reduceNeg, Int.reduceNe])
                        · have d3 : decide (t = s) = false := decide_eq_false hts
                          (try simp -dsimp (disch := omega) only [h0, h1, h5, h6, h8, h10, h12, h13, h14, lN, dK, i1, i2, cst, p9, List.getElem?_cons_zero, lk2, d4, lk3, d3, um, ek, wrap64, AS, avals, apairs, bareP, AV.bare, AV.bares, Nat.reduceEqDiff, Nat.reduceLT, Nat.reduceAdd, ↓reduceIte, reduceCtorEq, resA, resA1, resVal, Nat.reduceLeDiff, nb_cfg, Nat.reduceBEq, AX, Int.reduceLT, Int.reduceLE, Int.reduceEq, Int.reduceAdd, Int.reduceSub, Int.reduceMul, Int.reduceNeg, Int.reduceNe])
                          refine ⟨by kernel_rfl, m1, by omega, k + 1, P ++ [t], by omega, hL0.other (by omega), hL1.put (oneF_put hup), hL2.other (by omega), fun u hu => (hup u).2 (.inl (hP1 u hu)), fun a ha u hu hne => (hup u).2 (.inl (hP2 a ha u hu hne)), fun u hu hne => ?_, fe_len, ?_, ?_, ?_, ?_, ?_, ?_, ?_, ?_, ?_⟩
                          case refine_1 =>
                            rcases (mem_take_snoc ht u).1 hu with hu | hu
                            · exact (hup u).2 (.inl (hP3 u hu hne))
                            · exact (hup u).2 (.inr hu)
                          all_goals (try simp -dsimp (disch := omega) only [h0, h1, h5, h6, h8, h10, h12, h13, AS, avals, apairs, bareP, AV.bare, AV.bares, Nat.reduceEqDiff, Nat.reduceLT, Nat.reduceAdd, ↓reduceIte, reduceCtorEq, resA, resA1, resVal, Nat.reduceLeDiff, nb_cfg, Nat.reduceBEq, AX, Int.reduceLT, Int.reduceLE, Int.reduceEq, Int.reduceAdd, Int.reduceSub, Int.reduceMul, Int.reduceNeg, Int.reduceNe])
                  · refine ⟨0, P, by omega, hL0, hL1, hL2, hP1, hP2, fun t ht => by simp at ht, fe_len, ?_, ?_, ?_, ?_, ?_, ?_, ?_, ?_, ?_⟩
                    all_goals (try simp -dsimp (disch := omega) only [h0, h1, h5, h6, h8, h10, h12, AS, avals, apairs, bareP, AV.bare, AV.bares, Nat.reduceEqDiff, Nat.reduceLT, Nat.reduceAdd, ↓reduceIte, reduceCtorEq, resA, resA1, resVal, Nat.reduceLeDiff, nb_cfg, Nat.reduceBEq, AX, Int.reduceLT, Int.reduceLE, Int.reduceEq, Int.reduceAdd, Int.reduceSub, Int.reduceMul, Int.reduceNeg, Int.reduceNe])
                    all_goals rfl
                | zero =>
                  have dI : decide ((i : Int) < (R.length : Int)) = false := decide_eq_false (by omega)
                  rw [List.take_of_length_le (by omega)] at hP2
                  have hRP : ∀ t ∈ R, t ∈ P := fun t ht => hled (· ∈ P) hP1 (by rw [hR]; exact hP2) t ((hA2 t).1 ht).1
                  (try simp -dsimp (disch := omega) only [h0, h1, h5, h6, h8, h10, h12, la, dI, AS, avals, apairs, bareP, AV.bare, AV.bares, Nat.reduceEqDiff, Nat.reduceLT, Nat.reduceAdd, ↓reduceIte, reduceCtorEq, resA, resA1, resVal, Nat.reduceLeDiff, nb_cfg, Nat.reduceBEq, AX, Int.reduceLT, Int.reduceLE, Int.reduceEq, Int.reduceAdd, Int.reduceSub, Int.reduceMul, Int.reduceNeg, Int.reduceNe])
                  refine wt_loop (m := fr.length) (fun m e h => ∃ i, i + m = fr.length ∧ LkG h 0 (oneF R) ∧ LkG h 1 (oneF P) ∧ LkG h 2 (fstF l) ∧ K4 X F A 15 i e h) ?_ ?_
                  · clear hn h0 h1 h5 h6 h8 h10 h12 hL0 hL1 hL2 dI him e h i
                    rintro m e h ⟨i, him, hL0, hL1, hL2, hn, h0, h1, h5, h6, h8, h10, h15⟩
                    rw [fe_self hn]
                    cases m with
                    | succ m =>
                      have dI : decide ((i : Int) < (fr.length : Int)) = true := decide_eq_true (by omega)
                      obtain ⟨t, ht⟩ : ∃ t, fr[i]? = some t := ⟨_, List.getElem?_eq_getElem (by omega)⟩
                      have i1 := ix25 (prim := ow3) (k := .i64) hF (tx_get ht) rfl
                      have e1 : (i : Int) + 1 = ((i + 1 : Nat) : Int) := by omega
                      cases hpt : plc l t with
                      | none =>
                        have lk2 := hL2.none (prim := ow3) (fstF_none hpt)
                        (try simp -dsimp (disch := omega) only [h0, h1, h5, h6, h8, h10, h15, lf, dI, i1, cst, p9, List.getElem?_cons_zero, lk2, e1, wrap64, AS, avals, apairs, bareP, AV.bare, AV.bares, Nat.reduceEqDiff, Nat.reduceLT, Nat.reduceAdd, ↓reduceIte, reduceCtorEq, resA, resA1, resVal, Nat.reduceLeDiff, nb_cfg, Nat.reduceBEq, AX, Int.reduceLT, Int.reduceLE, Int.reduceEq, Int.reduceAdd, Int.reduceSub, Int.reduceMul, Int.reduceNeg, Int.reduceNe])
                        refine ⟨m, by omega, i + 1, by omega, hL0, hL1, hL2, fe_len, ?_, ?_, ?_, ?_, ?_, ?_, ?_⟩
                        all_goals (try simp -dsimp (disch := omega) only [h0, h1, h5, h6, h8, h10, AS, avals, apairs, bareP, AV.bare, AV.bares, Nat.reduceEqDiff, Nat.reduceLT, Nat.reduceAdd, ↓reduceIte, reduceCtorEq, resA, resA1, resVal, Nat.reduceLeDiff, nb_cfg, Nat.reduceBEq, AX, Int.reduceLT, Int.reduceLE, Int.reduceEq, Int.reduceAdd, Int.reduceSub, Int.reduceMul, Int.reduceNeg, Int.reduceNe])
                      | some q =>
                        have lk2 := hL2.some (prim := ow3) (fstF_some hpt)
                        have d4 : decide (((q + 1 : Nat) : Int) = 0) = false := decide_eq_false (by omega)
                        have htR : t ∈ R := (hA2 t).2 ⟨.base (List.mem_of_getElem? ht), by rw [hpt]; simp⟩
                        have lk3 : lookA (cfgP ow3) 31 (.mp 0) (str t) false h = some (.v (.int .i64 1)) := hL0.some (prim := ow3) (oneF_some htR)
                        (try simp -dsimp (disch := omega) only [h0, h1, h5, h6, h8, h10, h15, lf, dI, i1, cst, p9, List.getElem?_cons_zero, lk2, d4, lk3, e1, wrap64, AS, avals, apairs, bareP, AV.bare, AV.bares, Nat.reduceEqDiff, Nat.reduceLT, Nat.reduceAdd, ↓reduceIte, reduceCtorEq, resA, resA1, resVal, Nat.reduceLeDiff, nb_cfg, Nat.reduceBEq, AX, Int.reduceLT, Int.reduceLE, Int.reduceEq, Int.reduceAdd, Int.reduceSub, Int.reduceMul, Int.reduceNeg, Int.reduceNe])
                        refine ⟨m, by omega, i + 1, by omega, hL0, hL1, hL2, fe_len, ?_, ?_, ?_, ?_, ?_, ?_, ?_⟩
                        all_goals (try simp -dsimp (disch := omega) only [h0, h1, h5, h6, h8, h10, AS, avals, apairs, bareP, AV.bare, AV.bares, Nat.reduceEqDiff, Nat.reduceLT, Nat.reduceAdd, ↓reduceIte, reduceCtorEq, resA, resA1, resVal, Nat.reduceLeDiff, nb_cfg, Nat.reduceBEq, AX, Int.reduceLT, Int.reduceLE, Int.reduceEq, Int.reduceAdd, Int.reduceSub, Int.reduceMul, Int.reduceNeg, Int.reduceNe])
                    | zero =>
                      have dI : decide ((i : Int) < (fr.length : Int)) = false := decide_eq_false (by omega)
                      (try simp -dsimp (disch := omega) only [h0, h1, h5, h6, h8, h10, h15, lf, dI, AS, avals, apairs, bareP, AV.bare, AV.bares, Nat.reduceEqDiff, Nat.reduceLT, Nat.reduceAdd, ↓reduceIte, reduceCtorEq, resA, resA1, resVal, Nat.reduceLeDiff, nb_cfg, Nat.reduceBEq, AX, Int.reduceLT, Int.reduceLE, Int.reduceEq, Int.reduceAdd, Int.reduceSub, Int.reduceMul, Int.reduceNeg, Int.reduceNe])
                      refine wt_loop (m := R.length) (fun m e h => ∃ i, i + m = R.length ∧ LkG h 0 (oneF R) ∧ LkG h 1 (oneF P) ∧ LkG h 2 (fstF l) ∧ K4 X F A 16 i e h) ?_ ?_
                      · clear hn h0 h1 h5 h6 h8 h10 h15 hL0 hL1 hL2 dI him e h i
                        rintro m e h ⟨i, him, hL0, hL1, hL2, hn, h0, h1, h5, h6, h8, h10, h16⟩
                        rw [fe_self hn]
                        cases m with
                        | succ m =>
                          have dI : decide ((i : Int) < (R.length : Int)) = true := decide_eq_true (by omega)
                          obtain ⟨t, ht⟩ : ∃ t, R[i]? = some t := ⟨_, List.getElem?_eq_getElem (by omega)⟩
                          have i1 := ix25 (prim := ow3) (k := .i64) hAe (tx_get ht) rfl
                          have e1 : (i : Int) + 1 = ((i + 1 : Nat) : Int) := by omega
                          have lk2 : lookA (cfgP ow3) 31 (.mp 1) (str t) false h = some (.v (.int .i64 1)) := hL1.some (prim := ow3) (oneF_some (hRP t (List.mem_of_getElem? ht)))
                          (try simp -dsimp (disch := omega) only [h0, h1, h5, h6, h8, h10, h16, la, dI, i1, cst, p9, List.getElem?_cons_zero, lk2, e1, wrap64, AS, avals, apairs, bareP, AV.bare, AV.bares, Nat.reduceEqDiff, Nat.reduceLT, Nat.reduceAdd, ↓reduceIte, reduceCtorEq, resA, resA1, resVal, Nat.reduceLeDiff, nb_cfg, Nat.reduceBEq, AX, Int.reduceLT, Int.reduceLE, Int.reduceEq, Int.reduceAdd, Int.reduceSub, Int.reduceMul, Int.reduceNeg, Int.reduceNe])
                          refine ⟨m, by omega, i + 1, by omega, hL0, hL1, hL2, fe_len, ?_, ?_, ?_, ?_, ?_, ?_, ?_⟩
                          all_goals (try simp -dsimp (disch := omega) only [h0, h1, h5, h6, h8, h10, AS, avals, apairs, bareP, AV.bare, AV.bares, Nat.reduceEqDiff, Nat.reduceLT, Nat.reduceAdd, ↓reduceIte, reduceCtorEq, resA, resA1, resVal, Nat.reduceLeDiff, nb_cfg, Nat.reduceBEq, AX, Int.reduceLT, Int.reduceLE, Int.reduceEq, Int.reduceAdd, Int.reduceSub, Int.reduceMul, Int.reduceNeg, Int.reduceNe])
                        | zero =>
                          have dI : decide ((i : Int) < (R.length : Int)) = false := decide_eq_false (by omega)
                          (try simp -dsimp (disch := omega) only [h0, h1, h5, h6, h8, h10, h16, la, dI, ct_prim w12, hXb, sa, qr2, ct_prim w11, qt, AS, avals, apairs, bareP, AV.bare, AV.bares, Nat.reduceEqDiff, Nat.reduceLT, Nat.reduceAdd, ↓reduceIte, reduceCtorEq, resA, resA1, resVal, Nat.reduceLeDiff, nb_cfg, Nat.reduceBEq, AX, Int.reduceLT, Int.reduceLE, Int.reduceEq, Int.reduceAdd, Int.reduceSub, Int.reduceMul, Int.reduceNeg, Int.reduceNe])
                          exact ⟨5, rfl⟩
                      · refine ⟨0, by omega, hL0, hL1, hL2, fe_len, ?_, ?_, ?_, ?_, ?_, ?_, ?_⟩
                        all_goals (try simp -dsimp (disch := omega) only [h0, h1, h5, h6, h8, h10, AS, avals, apairs, bareP, AV.bare, AV.bares, Nat.reduceEqDiff, Nat.reduceLT, Nat.reduceAdd, ↓reduceIte, reduceCtorEq, resA, resA1, resVal, Nat.reduceLeDiff, nb_cfg, Nat.reduceBEq, AX, Int.reduceLT, Int.reduceLE, Int.reduceEq, Int.reduceAdd, Int.reduceSub, Int.reduceMul, Int.reduceNeg, Int.reduceNe])
                        all_goals rfl
                  · refine ⟨0, by omega, hL0, hL1, hL2, fe_len, ?_, ?_, ?_, ?_, ?_, ?_, ?_⟩
                    all_goals (try simp -dsimp (disch := omega) only [h0, h1, h5, h6, h8, h10, AS, avals, apairs, bareP, AV.bare, AV.bares, Nat.reduceEqDiff, Nat.reduceLT, Nat.reduceAdd, ↓reduceIte, reduceCtorEq, resA, resA1, resVal, Nat.reduceLeDiff, nb_cfg, Nat.reduceBEq, AX, Int.reduceLT, Int.reduceLE, Int.reduceEq, Int.reduceAdd, Int.reduceSub, Int.reduceMul, Int.reduceNeg, Int.reduceNe])
                    all_goals rfl
              · refine ⟨0, fr, by omega, hL0, hL1, hL2, fun _ h => h, fun t ht => by simp at ht, fe_len, ?_, ?_, ?_, ?_, ?_, ?_, ?_⟩
                all_goals (try simp -dsimp (disch := omega) only [h0, h1, h5, h6, h8, h10, AS, avals, apairs, bareP, AV.bare, AV.bares, Nat.reduceEqDiff, Nat.reduceLT, Nat.reduceAdd, ↓reduceIte, reduceCtorEq, resA, resA1, resVal, Nat.reduceLeDiff, nb_cfg, Nat.reduceBEq, AX, Int.reduceLT, Int.reduceLE, Int.reduceEq, Int.reduceAdd, Int.reduceSub, Int.reduceMul, Int.reduceNeg, Int.reduceNe])
                all_goals rfl
          · refine ⟨0, by omega, hL0.more rfl, hL1.more rfl, LkG.fresh hml rfl, fe_len, ?_, ?_, ?_, ?_, ?_, ?_, ?_⟩
            all_goals (try simp -dsimp (disch := omega) only [h0, h1, h5, h6, h8, AS, avals, apairs, bareP, AV.bare, AV.bares, Nat.reduceEqDiff, Nat.reduceLT, Nat.reduceAdd, ↓reduceIte, reduceCtorEq, resA, resA1, resVal, Nat.reduceLeDiff, nb_cfg, Nat.reduceBEq, AX, Int.reduceLT, Int.reduceLE, Int.reduceEq, Int.reduceAdd, Int.reduceSub, Int.reduceMul, Int.reduceNeg, Int.reduceNe])
            all_goals rfl
      · refine ⟨0, by omega, hL.more rfl, LkG.fresh hml rfl, fe_len, ?_, ?_, ?_, ?_, ?_, ?_, by simp [hml]⟩
        all_goals (try simp -dsimp (disch := omega) only [h0, h1, h5, h6, AS, avals, apairs, bareP, AV.bare, AV.bares, Nat.reduceEqDiff, Nat.reduceLT, Nat.reduceAdd, ↓reduceIte, reduceCtorEq, resA, resA1, resVal, Nat.reduceLeDiff, nb_cfg, Nat.reduceBEq, AX, Int.reduceLT, Int.reduceLE, Int.reduceEq, Int.reduceAdd, Int.reduceSub, Int.reduceMul, Int.reduceNeg, Int.reduceNe])
        all_goals rfl
  · refine ⟨0, by omega, LkG.fresh (h := {}) rfl rfl, fe_len, ?_, ?_, ?_, ?_, ?_, rfl⟩
    all_goals (try simp -dsimp (disch := omega) only [h0, h1, AS, avals, apairs, bareP, AV.bare, AV.bares, Nat.reduceEqDiff, Nat.reduceLT, Nat.reduceAdd, ↓reduceIte, reduceCtorEq, resA, resA1, resVal, Nat.reduceLeDiff, nb_cfg, Nat.reduceBEq, AX, Int.reduceLT, Int.reduceLE, Int.reduceEq, Int.reduceAdd, Int.reduceSub, Int.reduceMul, Int.reduceNeg, Int.reduceNe])
    all_goals rfl
end Go.Proofs.Ytcimffpckcbdlaa
