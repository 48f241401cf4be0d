/- Contracts of functions, and plain facts about what they compute. -/
import Derived.Test.YtjejeijldllloaaDoorWf
import Derived.Test.YtjejeijldllloaaDoorAmD
set_option linter.unusedSimpArgs false
set_option linter.unusedVariables false
/- Chapter 2: Keep, Drop; the document's Keep. -/
namespace Go.Proofs.YtjejeijldllloaaDoor
open Go.AM
theorem Kp.inj {p q : Kp} (hp : p.ok) (hq : q.ok) (hx : p.x = q.x) (hk : p.kd = q.kd) (hT : p.T = q.T) : p.res = q.res := by
  have h1 := hp.f.rv
  rw [hx] at h1
  have hv := RV.uniq h1 hq.f.rv
  have hm := hp.m
  rw [hx, hq.m] at hm
  have he := encs_inj hm
  have ht := hp.t
  rw [hT] at ht
  have hks := ht.inj hq.t
  unfold Kp.res Kp.stay
  rw [hx, hv, hk, hks, he]
noncomputable def wtQ2 := relP Kp.ok Kp.args Kp.res
theorem wtQ2_eq {p : Kp} (h : p.ok) : wtQ2 p.args = some p.res := relP_eq (X := Kp.ok) (a := Kp.args) (r := Kp.res) (fun p q hp hq e => by
  injection e with e1 e
  injection e with e2 _
  obtain ⟨h1, h2⟩ := fnKD_inj e2
  exact Kp.inj hp hq e1 h1 h2) p h
theorem wtQ2_ok : ∀ xs y, wtQ2 xs = some y → PureOk (cfgP fun _ => none) 80 xs y := relP_ok (R := fun xs y => PureOk (cfgP fun _ => none) 80 xs y) fun p hp => pureOk_prim (without_ok p hp)
noncomputable def kp1 : FuncId → Option (List AV → Option AV) := tab [(80, wtQ2)]
theorem kp1_ok : (cfgP kp1).Ok := cfg_ok (tab_ok ⟨prim_at Tryd.func80 (by kernel_rfl) rfl (wtQ2_ok), trivial⟩)
theorem kp1_80 : (cfgP kp1).prim 80 = some wtQ2 := rfl
def Kp.args3 (p : Kp) : List AV := [p.x, p.T]
set_option maxHeartbeats 4000000 in
set_option maxRecDepth 100000 in
theorem keep_ok (p : Kp) (hp : p.ok) (hk : p.kd = true) : PureOk (cfgP kp1) 42 p.args3 p.res := by
  have q := wtQ2_eq hp
  obtain ⟨rs, hrs, hr5, hrb, hrf⟩ := (Kp.res_fv hp).shape
  have hth := fun H n => thaw_val (cs := rs) (by rw [← hrs]; exact Kp.res_fv hp) H n
  obtain ⟨v, x, es, kd, ks, T⟩ := p
  obtain ⟨hf, hs, hm, ht, hl⟩ := hp
  simp only at hf hs hm ht hl hk
  subst hk
  have hb := hf.bare
  obtain ⟨cs, rfl, h5, hbs, hfl⟩ := hf.shape
  have tb := ht.b
  obtain ⟨tc, tf⟩ := cells_el ht.el
  have tfl : T.cells.all AV.flat = true := by rw [tc, List.all_cons, tf]; rfl
  have r2 : (cfgP kp1).roBox 42 2 = true := rfl
  have r3 : (cfgP kp1).roBox 42 3 = true := rfl
  have r4 : (cfgP kp1).roBox 42 4 = false := rfl
  show PureOk (cfgP kp1) 42 [.agg cs, T] (Kp.res ⟨v, .agg cs, es, true, ks, T⟩)
  obtain ⟨R, hR⟩ : ∃ R, Kp.res ⟨v, .agg cs, es, true, ks, T⟩ = R := ⟨_, rfl⟩
  rw [hR] at q hrs ⊢
  subst hrs
  replace q : wtQ2 [.agg cs, .fn (.func 83) [] [.rp T 0]] = some (.agg rs) := q
  have hfb : (AV.fn (.func 83) [] [.rp T 0]).bare = some (.fn (.func 83) [] [.rp T 0]) := rfl
  have st := v_st (prim := kp1) hr5 hrf
  refine pure_of_wk (call := noCall) (fn := Tryd.f42) (rs := [.cell 4 39]) kp1_ok noCall_ok (fns_cfg Tryd.func42 rfl) rfl rfl ?_
  intro env hl0 hargs
  have hn : env.length = 8 := hl0
  have h0 := hargs 0 _ rfl
  have h1 := hargs 1 _ rfl
  clear hargs hl0
  refine wkT_of ?_
  rw [fe_self hn]
  (try simp -dsimp (disch := omega) only [h0, h1, r2, r3, r4, bxt_ro hb hfl, bxt_ro tb tfl, v_al, cellsA, vp39 h5, hbs, hfb, ct_prim kp1_80, q, st, mHv_blk, List.getElem?_cons_zero, vp39 hr5, AS, avals, apairs, bareP, AV.bare, AV.bares, Nat.reduceEqDiff, Nat.reduceLT, Nat.reduceAdd, ↓reduceIte, reduceCtorEq, resA, resA1, resVal, Nat.reduceLeDiff, nb_cfg, Nat.reduceBEq, AX, Int.reduceLT, Int.reduceLE, Int.reduceEq, Int.reduceAdd, Int.reduceSub, Int.reduceMul, Int.reduceNeg, Int.reduceNe])
  exact ⟨20, hth _ 12⟩
set_option maxHeartbeats 4000000 in
set_option maxRecDepth 100000 in
theorem drop_ok (p : Kp) (hp : p.ok) (hk : p.kd = false) : PureOk (cfgP kp1) 41 p.args3 p.res := by
  have q := wtQ2_eq hp
  obtain ⟨rs, hrs, hr5, hrb, hrf⟩ := (Kp.res_fv hp).shape
  have hth := fun H n => thaw_val (cs := rs) (by rw [← hrs]; exact Kp.res_fv hp) H n
  obtain ⟨v, x, es, kd, ks, T⟩ := p
  obtain ⟨hf, hs, hm, ht, hl⟩ := hp
  simp only at hf hs hm ht hl hk
  subst hk
  have hb := hf.bare
  obtain ⟨cs, rfl, h5, hbs, hfl⟩ := hf.shape
  have tb := ht.b
  obtain ⟨tc, tf⟩ := cells_el ht.el
  have tfl : T.cells.all AV.flat = true := by rw [tc, List.all_cons, tf]; rfl
  have r2 : (cfgP kp1).roBox 41 2 = true := rfl
  have r3 : (cfgP kp1).roBox 41 3 = true := rfl
  have r4 : (cfgP kp1).roBox 41 4 = false := rfl
  show PureOk (cfgP kp1) 41 [.agg cs, T] (Kp.res ⟨v, .agg cs, es, false, ks, T⟩)
  obtain ⟨R, hR⟩ : ∃ R, Kp.res ⟨v, .agg cs, es, false, ks, T⟩ = R := ⟨_, rfl⟩
  rw [hR] at q hrs ⊢
  subst hrs
  replace q : wtQ2 [.agg cs, .fn (.func 81) [] [.rp T 0]] = some (.agg rs) := q
  have hfb : (AV.fn (.func 81) [] [.rp T 0]).bare = some (.fn (.func 81) [] [.rp T 0]) := rfl
  have st := v_st (prim := kp1) hr5 hrf
  refine pure_of_wk (call := noCall) (fn := Tryd.f41) (rs := [.cell 4 39]) kp1_ok noCall_ok (fns_cfg Tryd.func41 rfl) rfl rfl ?_
  intro env hl0 hargs
  have hn : env.length = 8 := hl0
  have h0 := hargs 0 _ rfl
  have h1 := hargs 1 _ rfl
  clear hargs hl0
  refine wkT_of ?_
  rw [fe_self hn]
  (try simp -dsimp (disch := omega) only [h0, h1, r2, r3, r4, bxt_ro hb hfl, bxt_ro tb tfl, v_al, cellsA, vp39 h5, hbs, hfb, ct_prim kp1_80, q, st, mHv_blk, List.getElem?_cons_zero, vp39 hr5, AS, avals, apairs, bareP, AV.bare, AV.bares, Nat.reduceEqDiff, Nat.reduceLT, Nat.reduceAdd, ↓reduceIte, reduceCtorEq, resA, resA1, resVal, Nat.reduceLeDiff, nb_cfg, Nat.reduceBEq, AX, Int.reduceLT, Int.reduceLE, Int.reduceEq, Int.reduceAdd, Int.reduceSub, Int.reduceMul, Int.reduceNeg, Int.reduceNe])
  exact ⟨20, hth _ 12⟩
noncomputable def kpQ (b : Bool) := relP (fun p : Kp => p.ok ∧ p.kd = b) Kp.args3 Kp.res
theorem kpQ_eq {b : Bool} {p : Kp} (h : p.ok) (hb : p.kd = b) : kpQ b p.args3 = some p.res := relP_eq (X := fun p : Kp => p.ok ∧ p.kd = b) (a := Kp.args3) (r := Kp.res) (fun p q hp hq e => by
  injection e with e1 e
  injection e with e2 _
  exact Kp.inj hp.1 hq.1 e1 (by rw [hp.2, hq.2]) e2) p ⟨h, hb⟩
theorem keepQ_ok : ∀ xs y, kpQ true xs = some y → PureOk (cfgP fun _ => none) 42 xs y := relP_ok (R := fun xs y => PureOk (cfgP fun _ => none) 42 xs y) fun p hp => pureOk_prim (keep_ok p hp.1 hp.2)
theorem dropQ_ok : ∀ xs y, kpQ false xs = some y → PureOk (cfgP fun _ => none) 41 xs y := relP_ok (R := fun xs y => PureOk (cfgP fun _ => none) 41 xs y) fun p hp => pureOk_prim (drop_ok p hp.1 hp.2)
/-! ### The document's -/
noncomputable def kr1 : FuncId → Option (List AV → Option AV) := tab [(84, hasQ)]
theorem kr1_ok : (cfgP kr1).Ok := cfg_ok (tab_ok ⟨prim_at Tryd.func84 (by kernel_rfl) rfl (hasRQ_ok), trivial⟩)
theorem kr1_84 : (cfgP kr1).prim 84 = some hasQ := rfl
theorem bq4g {prim : FuncId → Option (List AV → Option AV)} {x y : Operand} {a b : Bool} : binA (cfgP prim) .eql 4 x y (.v (.bool a)) (.v (.bool b)) = some (.v (.bool (a == b))) := by cases a <;> cases b <;> kernel_rfl
def Kp.args4 (p : Kp) : List AV := [p.x, p.T, .v (.bool p.kd)]
def Kp.resR (p : Kp) : AV := if p.v.kind = 5 then mapV p.stay else p.x
structure KrI (x T : AV) (b : Bool) (out : List E) (i : Nat) (e : Env) (h : Hp) : Prop where
  len : e.length = 40
  a1 : aget e 1 = T
  a2 : aget e 2 = .v (.bool b)
  a3 : aget e 3 = .rp x 0
  a6 : aget e 6 = .ptr 0 0 0 0
  a7 : aget e 7 = gsl (out.map enc)
  a8 : aget e 8 = .v (.int .i64 (i : Int))
  hp : h = mHv z5 (ghp 48 (out.map enc)).toks []
set_option maxHeartbeats 8000000 in
set_option maxRecDepth 100000 in
theorem keepRef_ok (p : Kp) (hp : p.ok) : PureOk (cfgP kr1) 49 p.args4 p.resR := by
  obtain ⟨v, x, es, kd, ks, T⟩ := p
  obtain ⟨hf, hs, hm, ht, hl⟩ := hp
  simp only at hf hs hm ht hl
  have tb := ht.b
  have hth := hf
  have r3 : (cfgP kr1).roBox 49 3 = true := rfl
  have r6 : (cfgP kr1).roBox 49 6 = false := rfl
  have hb := hf.bare
  cases v with
  | mk k n s l m =>
    obtain ⟨L, M, xs, ys, rfl, hL, hM, k1, k2, b1, b2, f1, f2, sl, hl', hm', hv, hw⟩ := hf
    have hys : ys = es.map enc := by simpa [memsA, hM] using hm
    subst hys
    obtain ⟨es', hes, ho, hT⟩ := fms_encs hw
    obtain rfl := encs_inj hes
    have hyl := hw.len
    have hel : (es.map enc).length = es.length := List.length_map ..
    obtain ⟨cs, hcs⟩ : ∃ cs : List AV, cs = [.v (.int .i64 k), .v (.int .i64 n), str s, L, M] := ⟨_, rfl⟩
    rw [← hcs] at hb hth
    have l5 : cs.length = 5 := by rw [hcs]; rfl
    have hfl : cs.all AV.flat = true := hth.fl
    have g0 : cs[0]? = some (.v (.int .i64 k)) := by rw [hcs]; rfl
    have g4 : cs[4]? = some M := by rw [hcs]; rfl
    show PureOk (cfgP kr1) 49 [.agg [.v (.int .i64 k), .v (.int .i64 n), str s, L, M], T, .v (.bool kd)] (if k = 5 then mapV (es.filter fun e => !delB kd ks e.1) else .agg [.v (.int .i64 k), .v (.int .i64 n), str s, L, M])
    rw [← hcs]
    clear hcs
    by_cases k5 : k = 5
    case neg =>
      rw [if_neg k5]
      have dk : decide (k = 5) = false := decide_eq_false k5
      have st := v_st (prim := kr1) l5 hfl
      refine pure_of_wk (call := noCall) (fn := Tryd.f49) (rs := [.cell 6 39]) kr1_ok noCall_ok (fns_cfg Tryd.func49 rfl) rfl rfl ?_
      intro env hl0 hargs
      have hn : env.length = 40 := hl0
      have h0 := hargs 0 _ rfl
      have h1 := hargs 1 _ rfl
      have h2 := hargs 2 _ rfl
      clear hargs hl0
      refine wkT_of ?_
      rw [fe_self hn]
      (try simp -dsimp (disch := omega) only [h0, h1, h2, r3, r6, bxt_ro hb hfl, v_al, gf0, vp3, cellsA, g0, dk, Bool.not_false, vp39 l5, st, mHv_blk, List.getElem?_cons_zero, AS, avals, apairs, bareP, AV.bare, AV.bares, Nat.reduceEqDiff, Nat.reduceLT, Nat.reduceAdd, ↓reduceIte, reduceCtorEq, resA, resA1, resVal, Nat.reduceLeDiff, nb_cfg, Nat.reduceBEq, AX, Int.reduceLT, Int.reduceLE, Int.reduceEq, Int.reduceAdd, Int.reduceSub, Int.reduceMul, Int.reduceNeg, Int.reduceNe])
      exact ⟨20, thaw_val hth _ 12⟩
    rw [if_pos k5]
    have dk : decide (k = 5) = true := decide_eq_true k5
    have hdel : ∀ key, (hasT ks key == kd) = !delB kd ks key := by
      intro key
      unfold delB
      cases kd <;> cases hasT ks key <;> rfl
    obtain ⟨g, hg⟩ : ∃ g : E → Bool, (fun e => !delB kd ks e.1) = g := ⟨_, rfl⟩
    have hge : ∀ e : E, (hasT ks e.1 == kd) = g e := fun e => by rw [hdel, ← hg]
    rw [hg]
    refine pure_of_wk (call := noCall) (fn := Tryd.f49) (rs := [.cell 6 39]) kr1_ok noCall_ok (fns_cfg Tryd.func49 rfl) rfl rfl ?_
    intro env hl0 hargs
    have hn : env.length = 40 := hl0
    have h0 := hargs 0 _ rfl
    have h1 := hargs 1 _ rfl
    have h2 := hargs 2 _ rfl
    clear hargs hl0
    refine wkT_of ?_
    rw [fe_self hn]
    (try simp -dsimp (disch := omega) only [h0, h1, h2, r3, r6, bxt_ro hb hfl, v_al, gf0, vp3, cellsA, g0, dk, Bool.not_true, AS, avals, apairs, bareP, AV.bare, AV.bares, Nat.reduceEqDiff, Nat.reduceLT, Nat.reduceAdd, ↓reduceIte, reduceCtorEq, resA, resA1, resVal, Nat.reduceLeDiff, nb_cfg, Nat.reduceBEq, AX, Int.reduceLT, Int.reduceLE, Int.reduceEq, Int.reduceAdd, Int.reduceSub, Int.reduceMul, Int.reduceNeg, Int.reduceNe])
    refine wt_loop (m := es.length) (fun q e h => ∃ i, i + q = es.length ∧ KrI (.agg cs) T kd ((es.take i).filter g) i e h) ?_ ?_
    · clear hn h0 h1 h2
      rintro q e h ⟨i, hi, hn, h1, h2, h3, h6, h7, h8, rfl⟩
      rw [fe_self hn]
      obtain ⟨out, hout⟩ : ∃ out, (es.take i).filter g = out := ⟨_, rfl⟩
      rw [hout] at h7 ⊢
      cases q with
      | zero =>
        obtain rfl : i = es.length := by omega
        rw [List.take_length] at hout
        rw [hout]
        have b0 := bV (prim := kr1) (l := out.map enc)
        have s0 := mHv_store (prim := kr1) (l := out.map enc) (tk := (ghp 48 (out.map enc)).toks) (r := [])
        (try simp -dsimp (disch := omega) only [h1, h2, h3, h6, h7, h8, gf4, vp37, cellsA, g4, len37 hM, hel, b0, s0, mHv_blk, List.getElem?_cons_zero, pV, AS, avals, apairs, bareP, AV.bare, AV.bares, Nat.reduceEqDiff, Nat.reduceLT, Nat.reduceAdd, ↓reduceIte, reduceCtorEq, resA, resA1, resVal, Nat.reduceLeDiff, nb_cfg, Nat.reduceBEq, AX, Int.reduceLT, Int.reduceLE, Int.reduceEq, Int.reduceAdd, Int.reduceSub, Int.reduceMul, Int.reduceNeg, Int.reduceNe])
        exact ⟨9, mapV_thaw _ _⟩
      | succ q =>
        obtain ⟨e0, he0⟩ : ∃ e0, es[i]? = some e0 := ⟨es[i]'(by omega), List.getElem?_eq_getElem (by omega)⟩
        have hoe : okE e0 := ho e0 (List.mem_of_getElem? he0)
        have he6 : (str e0.1 :: e0.2).length = 6 := by rw [List.length_cons, hoe.1]
        have ixm := ix37 (prim := kr1) hM (HB_get he0) he6
        have qh := hasQ_eq ht e0.1
        have hgk := hge e0
        have di : decide ((i : Int) < (es.length : Int)) = true := decide_eq_true (by omega)
        have ew : (i : Int) + 1 = ((i + 1 : Nat) : Int) := by omega
        have hoo : okL out := fun z hz => ho z (List.mem_of_mem_take (List.mem_filter.1 (by rw [← hout] at hz; exact hz)).1)
        have hol : out.length ≤ i := by
          rw [← hout]
          have := List.length_filter_le g (es.take i)
          rw [List.length_take] at this
          omega
        have hnx : (es.take (i + 1)).filter g = out ++ (if g e0 then [e0] else []) := by
          rw [List.take_add_one, he0, List.filter_append, hout]
          cases hx : g e0 <;> simp [hx]
        cases hx : g e0 with
        | true =>
          rw [hx] at hgk hnx
          rw [if_pos rfl] at hnx
          have ap := mv_app (prim := kr1) (v := z5) hoo hoe (by omega)
          rw [← hnx] at ap
          (try simp -dsimp (disch := omega) only [h1, h2, h3, h6, h7, h8, gf4, vp37, cellsA, g4, len37 hM, hel, di, ixm, mf0, mp9, List.getElem?_cons_zero, ct_prim kr1_84, tb, bare_s, qh, bq4g, hgk, mp48c hoe, bareP, enc_bare hoe, bsM hoe, ap, wrap64, ew, AS, avals, apairs, bareP, AV.bare, AV.bares, Nat.reduceEqDiff, Nat.reduceLT, Nat.reduceAdd, ↓reduceIte, reduceCtorEq, resA, resA1, resVal, Nat.reduceLeDiff, nb_cfg, Nat.reduceBEq, AX, Int.reduceLT, Int.reduceLE, Int.reduceEq, Int.reduceAdd, Int.reduceSub, Int.reduceMul, Int.reduceNeg, Int.reduceNe])
          refine ⟨q, by omega, i + 1, by omega, fe_len, ?_, ?_, ?_, ?_, ?_, ?_, rfl⟩
          all_goals (try simp -dsimp (disch := omega) only [h1, h2, h3, h6, h7, h8, AS, avals, apairs, bareP, AV.bare, AV.bares, Nat.reduceEqDiff, Nat.reduceLT, Nat.reduceAdd, ↓reduceIte, reduceCtorEq, resA, resA1, resVal, Nat.reduceLeDiff, nb_cfg, Nat.reduceBEq, AX, Int.reduceLT, Int.reduceLE, Int.reduceEq, Int.reduceAdd, Int.reduceSub, Int.reduceMul, Int.reduceNeg, Int.reduceNe])
        | false =>
          rw [hx] at hgk hnx
          rw [if_neg (by decide), List.append_nil] at hnx
          (try simp -dsimp (disch := omega) only [h1, h2, h3, h6, h7, h8, gf4, vp37, cellsA, g4, len37 hM, hel, di, ixm, mf0, mp9, List.getElem?_cons_zero, ct_prim kr1_84, tb, bare_s, qh, bq4g, hgk, wrap64, ew, AS, avals, apairs, bareP, AV.bare, AV.bares, Nat.reduceEqDiff, Nat.reduceLT, Nat.reduceAdd, ↓reduceIte, reduceCtorEq, resA, resA1, resVal, Nat.reduceLeDiff, nb_cfg, Nat.reduceBEq, AX, Int.reduceLT, Int.reduceLE, Int.reduceEq, Int.reduceAdd, Int.reduceSub, Int.reduceMul, Int.reduceNeg, Int.reduceNe])
          refine ⟨q, by omega, i + 1, by omega, fe_len, ?_, ?_, ?_, ?_, ?_, ?_, by rw [hnx]⟩
          all_goals (try simp -dsimp (disch := omega) only [h1, h2, h3, h6, h7, h8, hnx, AS, avals, apairs, bareP, AV.bare, AV.bares, Nat.reduceEqDiff, Nat.reduceLT, Nat.reduceAdd, ↓reduceIte, reduceCtorEq, resA, resA1, resVal, Nat.reduceLeDiff, nb_cfg, Nat.reduceBEq, AX, Int.reduceLT, Int.reduceLE, Int.reduceEq, Int.reduceAdd, Int.reduceSub, Int.reduceMul, Int.reduceNeg, Int.reduceNe])
    · refine ⟨0, by omega, fe_len, ?_, ?_, ?_, ?_, ?_, ?_, rfl⟩
      all_goals (try simp -dsimp (disch := omega) only [h0, h1, h2, AS, avals, apairs, bareP, AV.bare, AV.bares, Nat.reduceEqDiff, Nat.reduceLT, Nat.reduceAdd, ↓reduceIte, reduceCtorEq, resA, resA1, resVal, Nat.reduceLeDiff, nb_cfg, Nat.reduceBEq, AX, Int.reduceLT, Int.reduceLE, Int.reduceEq, Int.reduceAdd, Int.reduceSub, Int.reduceMul, Int.reduceNeg, Int.reduceNe])
      all_goals rfl
noncomputable def krQ := relP Kp.ok Kp.args4 Kp.resR
theorem krQ_eq {p : Kp} (h : p.ok) : krQ p.args4 = some p.resR := relP_eq (X := Kp.ok) (a := Kp.args4) (r := Kp.resR) (fun p q hp hq e => by
  injection e with e1 e
  injection e with e2 e
  injection e with e3 _
  injection e3 with e3
  injection e3 with e3
  have h1 := hp.f.rv
  rw [e1] at h1
  have hv := RV.uniq h1 hq.f.rv
  have hm := hp.m
  rw [e1, hq.m] at hm
  have he := encs_inj hm
  have ht := hp.t
  rw [e2] at ht
  have hks := ht.inj hq.t
  unfold Kp.resR Kp.stay
  rw [e1, hv, e3, hks, he]) p h
theorem krQ_ok : ∀ xs y, krQ xs = some y → PureOk (cfgP fun _ => none) 49 xs y := relP_ok (R := fun xs y => PureOk (cfgP fun _ => none) 49 xs y) fun p hp => pureOk_prim (keepRef_ok p hp)
end Go.Proofs.YtjejeijldllloaaDoor

/- Chapter 2: TextAt; Set where the key is there. -/
namespace Go.Proofs.YtjejeijldllloaaDoor
open Go.AM
def getV (v : GV) (key : List UInt8) : Option GV := match v with
  | .mk _ _ _ _ m => (idxG v key).bind fun i => m[i]?.map Prod.snd
def textG (v : GV) (key : List UInt8) : Option (List UInt8) := match getV v key with
  | some (.mk k _ s _ _) => if k = 3 then some s else none
  | none => none
def textR (v : GV) (key : List UInt8) : AV := match textG v key with
  | some s => .tup [str s, .v (.bool true)]
  | none => .tup [str [], .v (.bool false)]
def Pl.text (p : Pl) : AV := textR p.v p.k
theorem gfp2 {prim : FuncId → Option (List AV → Option AV)} {b g i j : Nat} : fieldAddrA (cfgP prim) 39 (.ptr b g i j) 2 = some (.ptr b g i (j + 2)) := by kernel_rfl
noncomputable def tx1 : FuncId → Option (List AV → Option AV) := tab [(39, getQ)]
theorem tx1_ok : (cfgP tx1).Ok := cfg_ok (tab_ok ⟨prim_at Tryd.func39 (by kernel_rfl) rfl (getQ_ok), trivial⟩)
theorem tx1_39 : (cfgP tx1).prim 39 = some getQ := rfl
noncomputable def tx2 : FuncId → Option (List AV → Option AV) := tab [(43, getRQ)]
theorem tx2_ok : (cfgP tx2).Ok := cfg_ok (tab_ok ⟨prim_at Tryd.func43 (by kernel_rfl) rfl (getRQ_ok), trivial⟩)
theorem tx2_43 : (cfgP tx2).prim 43 = some getRQ := rfl
set_option maxHeartbeats 4000000 in
set_option maxRecDepth 100000 in
theorem textAt_ok (p : Pl) (hp : p.ok) : PureOk (cfgP tx1) 44 p.args p.text := by
  have q := getQ_eq hp
  have hf : FV p.v p.x := hp.1
  have hgs := fun i hi => getR_some (key := p.k) (i := i) hf hi
  obtain ⟨v, x, key⟩ := p
  simp only at hf hgs
  have hb := hf.bare
  obtain ⟨cs, rfl, h5, hbs, hfl⟩ := hf.shape
  have r2 : (cfgP tx1).roBox 44 2 = true := rfl
  have r6 : (cfgP tx1).roBox 44 6 = false := rfl
  have e0 : (AV.v (.string { data := #[] })) = str [] := rfl
  replace q : getQ [.agg cs, str key] = some (getR v (.agg cs) key) := q
  show PureOk (cfgP tx1) 44 [.agg cs, str key] (textR v key)
  cases hi : idxG v key with
  | none =>
    rw [getR_none hi] at q
    have hr : textR v key = .tup [str [], .v (.bool false)] := by
      have : getV v key = none := by cases v; unfold getV; rw [hi]; rfl
      unfold textR textG
      rw [this]
    rw [hr]
    replace q : getQ [.agg cs, str key] = some (.tup [.agg z5l, .v (.bool false)]) := q
    have st := v_st (prim := tx1) (cs := z5l) rfl rfl
    refine pure_of_wk (call := noCall) (fn := Tryd.f44) (rs := [.tmp 4, .tmp 5]) tx1_ok noCall_ok (fns_cfg Tryd.func44 rfl) rfl rfl ?_
    intro env hl0 hargs
    have hn : env.length = 23 := hl0
    have h0 := hargs 0 _ rfl
    have h1 := hargs 1 _ rfl
    clear hargs hl0
    refine wkT_of ?_
    rw [fe_self hn]
    (try simp -dsimp (disch := omega) only [h0, h1, r2, r6, bxt_ro hb hfl, v_al, e0, cellsA, vp39 h5, ct_prim tx1_39, hbs, bare_s, q, st, Bool.not_false, AS, avals, apairs, bareP, AV.bare, AV.bares, Nat.reduceEqDiff, Nat.reduceLT, Nat.reduceAdd, ↓reduceIte, reduceCtorEq, resA, resA1, resVal, Nat.reduceLeDiff, nb_cfg, Nat.reduceBEq, AX, Int.reduceLT, Int.reduceLE, Int.reduceEq, Int.reduceAdd, Int.reduceSub, Int.reduceMul, Int.reduceNeg, Int.reduceNe])
    exact ⟨5, rfl⟩
  | some i =>
    obtain ⟨w, ws, f1, f2, f3, f4⟩ := hgs i hi
    rw [f3] at q
    have hg : getV v key = some w := by
      cases v with
      | mk k n s l m =>
        show (idxG (.mk k n s l m) key).bind (fun i => m[i]?.map Prod.snd) = some w
        rw [hi, Option.bind_some, f4 _ _ _ _ _ rfl]
        rfl
    cases w with
    | mk k n s l m =>
      have g0 : ws[0]? = some (.v (.int .i64 k)) := by
        obtain ⟨L, M, xs, ys, e, _⟩ := f1
        injection e with e
        rw [e]; rfl
      have g2 : ws[2]? = some (str s) := by
        obtain ⟨L, M, xs, ys, e, _⟩ := f1
        injection e with e
        rw [e]; rfl
      have st := v_st (prim := tx1) f2 f1.fl
      by_cases k3 : k = 3
      · have hr : textR v key = .tup [str s, .v (.bool true)] := by
          unfold textR textG
          rw [hg]
          simp only [k3, if_true]
        rw [hr]
        have dk : decide (k = 3) = true := decide_eq_true k3
        refine pure_of_wk (call := noCall) (fn := Tryd.f44) (rs := [.tmp 4, .tmp 5]) tx1_ok noCall_ok (fns_cfg Tryd.func44 rfl) rfl rfl ?_
        intro env hl0 hargs
        have hn : env.length = 23 := hl0
        have h0 := hargs 0 _ rfl
        have h1 := hargs 1 _ rfl
        clear hargs hl0
        refine wkT_of ?_
        rw [fe_self hn]
        (try simp -dsimp (disch := omega) only [h0, h1, r2, r6, bxt_ro hb hfl, v_al, e0, cellsA, vp39 h5, ct_prim tx1_39, hbs, bare_s, q, st, Bool.not_true, Bool.not_false, gfp0, gfp2, mHv_blk, List.getElem?_cons_zero, vp3, mp9, g0, g2, dk, AS, avals, apairs, bareP, AV.bare, AV.bares, Nat.reduceEqDiff, Nat.reduceLT, Nat.reduceAdd, ↓reduceIte, reduceCtorEq, resA, resA1, resVal, Nat.reduceLeDiff, nb_cfg, Nat.reduceBEq, AX, Int.reduceLT, Int.reduceLE, Int.reduceEq, Int.reduceAdd, Int.reduceSub, Int.reduceMul, Int.reduceNeg, Int.reduceNe])
        exact ⟨5, rfl⟩
      · have hr : textR v key = .tup [str [], .v (.bool false)] := by
          unfold textR textG
          rw [hg]
          simp only [if_neg k3]
        rw [hr]
        have dk : decide (k = 3) = false := decide_eq_false k3
        refine pure_of_wk (call := noCall) (fn := Tryd.f44) (rs := [.tmp 4, .tmp 5]) tx1_ok noCall_ok (fns_cfg Tryd.func44 rfl) rfl rfl ?_
        intro env hl0 hargs
        have hn : env.length = 23 := hl0
        have h0 := hargs 0 _ rfl
        have h1 := hargs 1 _ rfl
        clear hargs hl0
        refine wkT_of ?_
        rw [fe_self hn]
        (try simp -dsimp (disch := omega) only [h0, h1, r2, r6, bxt_ro hb hfl, v_al, e0, cellsA, vp39 h5, ct_prim tx1_39, hbs, bare_s, q, st, Bool.not_true, Bool.not_false, gfp0, mHv_blk, List.getElem?_cons_zero, vp3, g0, dk, AS, avals, apairs, bareP, AV.bare, AV.bares, Nat.reduceEqDiff, Nat.reduceLT, Nat.reduceAdd, ↓reduceIte, reduceCtorEq, resA, resA1, resVal, Nat.reduceLeDiff, nb_cfg, Nat.reduceBEq, AX, Int.reduceLT, Int.reduceLE, Int.reduceEq, Int.reduceAdd, Int.reduceSub, Int.reduceMul, Int.reduceNeg, Int.reduceNe])
        exact ⟨5, rfl⟩
noncomputable def txQ := relP Pl.ok Pl.args Pl.text
theorem txQ_eq {p : Pl} (h : p.ok) : txQ p.args = some p.text := relP_eq (X := Pl.ok) (a := Pl.args) (r := Pl.text) (fun p q hp hq e => by
  obtain ⟨h1, h2, h3⟩ := pl_inj hp.1 hq.1 e
  unfold Pl.text
  rw [h1, h3]) p h
theorem txQ_ok : ∀ xs y, txQ xs = some y → PureOk (cfgP fun _ => none) 44 xs y := relP_ok (R := fun xs y => PureOk (cfgP fun _ => none) 44 xs y) fun p hp => pureOk_prim (textAt_ok p hp)
set_option maxHeartbeats 4000000 in
set_option maxRecDepth 100000 in
theorem textAtR_ok (p : Pl) (hp : p.ok2) : PureOk (cfgP tx2) 45 p.args p.text := by
  have q := getRQ_eq hp
  have hf : FV p.v p.x := hp.1
  have hgs := fun i hi => getR_some (key := p.k) (i := i) hf hi
  obtain ⟨v, x, key⟩ := p
  simp only at hf hgs
  have hb := hf.bare
  obtain ⟨cs, rfl, h5, hbs, hfl⟩ := hf.shape
  have r2 : (cfgP tx2).roBox 45 2 = true := rfl
  have r6 : (cfgP tx2).roBox 45 6 = false := rfl
  have e0 : (AV.v (.string { data := #[] })) = str [] := rfl
  replace q : getRQ [.agg cs, str key] = some (getR v (.agg cs) key) := q
  show PureOk (cfgP tx2) 45 [.agg cs, str key] (textR v key)
  cases hi : idxG v key with
  | none =>
    rw [getR_none hi] at q
    have hr : textR v key = .tup [str [], .v (.bool false)] := by
      have : getV v key = none := by cases v; unfold getV; rw [hi]; rfl
      unfold textR textG
      rw [this]
    rw [hr]
    replace q : getRQ [.agg cs, str key] = some (.tup [.agg z5l, .v (.bool false)]) := q
    have st := v_st (prim := tx2) (cs := z5l) rfl rfl
    refine pure_of_wk (call := noCall) (fn := Tryd.f45) (rs := [.tmp 4, .tmp 5]) tx2_ok noCall_ok (fns_cfg Tryd.func45 rfl) rfl rfl ?_
    intro env hl0 hargs
    have hn : env.length = 23 := hl0
    have h0 := hargs 0 _ rfl
    have h1 := hargs 1 _ rfl
    clear hargs hl0
    refine wkT_of ?_
    rw [fe_self hn]
    (try simp -dsimp (disch := omega) only [h0, h1, r2, r6, bxt_ro hb hfl, v_al, e0, cellsA, vp39 h5, ct_prim tx2_43, hbs, bare_s, q, st, Bool.not_false, AS, avals, apairs, bareP, AV.bare, AV.bares, Nat.reduceEqDiff, Nat.reduceLT, Nat.reduceAdd, ↓reduceIte, reduceCtorEq, resA, resA1, resVal, Nat.reduceLeDiff, nb_cfg, Nat.reduceBEq, AX, Int.reduceLT, Int.reduceLE, Int.reduceEq, Int.reduceAdd, Int.reduceSub, Int.reduceMul, Int.reduceNeg, Int.reduceNe])
    exact ⟨5, rfl⟩
  | some i =>
    obtain ⟨w, ws, f1, f2, f3, f4⟩ := hgs i hi
    rw [f3] at q
    have hg : getV v key = some w := by
      cases v with
      | mk k n s l m =>
        show (idxG (.mk k n s l m) key).bind (fun i => m[i]?.map Prod.snd) = some w
        rw [hi, Option.bind_some, f4 _ _ _ _ _ rfl]
        rfl
    cases w with
    | mk k n s l m =>
      have g0 : ws[0]? = some (.v (.int .i64 k)) := by
        obtain ⟨L, M, xs, ys, e, _⟩ := f1
        injection e with e
        rw [e]; rfl
      have g2 : ws[2]? = some (str s) := by
        obtain ⟨L, M, xs, ys, e, _⟩ := f1
        injection e with e
        rw [e]; rfl
      have st := v_st (prim := tx2) f2 f1.fl
      by_cases k3 : k = 3
      · have hr : textR v key = .tup [str s, .v (.bool true)] := by
          unfold textR textG
          rw [hg]
          simp only [k3, if_true]
        rw [hr]
        have dk : decide (k = 3) = true := decide_eq_true k3
        refine pure_of_wk (call := noCall) (fn := Tryd.f45) (rs := [.tmp 4, .tmp 5]) tx2_ok noCall_ok (fns_cfg Tryd.func45 rfl) rfl rfl ?_
        intro env hl0 hargs
        have hn : env.length = 23 := hl0
        have h0 := hargs 0 _ rfl
        have h1 := hargs 1 _ rfl
        clear hargs hl0
        refine wkT_of ?_
        rw [fe_self hn]
        (try simp -dsimp (disch := omega) only [h0, h1, r2, r6, bxt_ro hb hfl, v_al, e0, cellsA, vp39 h5, ct_prim tx2_43, hbs, bare_s, q, st, Bool.not_true, Bool.not_false, gfp0, gfp2, mHv_blk, List.getElem?_cons_zero, vp3, mp9, g0, g2, dk, AS, avals, apairs, bareP, AV.bare, AV.bares, Nat.reduceEqDiff, Nat.reduceLT, Nat.reduceAdd, ↓reduceIte, reduceCtorEq, resA, resA1, resVal, Nat.reduceLeDiff, nb_cfg, Nat.reduceBEq, AX, Int.reduceLT, Int.reduceLE, Int.reduceEq, Int.reduceAdd, Int.reduceSub, Int.reduceMul, Int.reduceNeg, Int.reduceNe])
        exact ⟨5, rfl⟩
      · have hr : textR v key = .tup [str [], .v (.bool false)] := by
          unfold textR textG
          rw [hg]
          simp only [if_neg k3]
        rw [hr]
        have dk : decide (k = 3) = false := decide_eq_false k3
        refine pure_of_wk (call := noCall) (fn := Tryd.f45) (rs := [.tmp 4, .tmp 5]) tx2_ok noCall_ok (fns_cfg Tryd.func45 rfl) rfl rfl ?_
        intro env hl0 hargs
        have hn : env.length = 23 := hl0
        have h0 := hargs 0 _ rfl
        have h1 := hargs 1 _ rfl
        clear hargs hl0
        refine wkT_of ?_
        rw [fe_self hn]
        (try simp -dsimp (disch := omega) only [h0, h1, r2, r6, bxt_ro hb hfl, v_al, e0, cellsA, vp39 h5, ct_prim tx2_43, hbs, bare_s, q, st, Bool.not_true, Bool.not_false, gfp0, mHv_blk, List.getElem?_cons_zero, vp3, g0, dk, AS, avals, apairs, bareP, AV.bare, AV.bares, Nat.reduceEqDiff, Nat.reduceLT, Nat.reduceAdd, ↓reduceIte, reduceCtorEq, resA, resA1, resVal, Nat.reduceLeDiff, nb_cfg, Nat.reduceBEq, AX, Int.reduceLT, Int.reduceLE, Int.reduceEq, Int.reduceAdd, Int.reduceSub, Int.reduceMul, Int.reduceNeg, Int.reduceNe])
        exact ⟨5, rfl⟩
noncomputable def txRQ := relP Pl.ok2 Pl.args Pl.text
theorem txRQ_eq {p : Pl} (h : p.ok2) : txRQ p.args = some p.text := relP_eq (X := Pl.ok2) (a := Pl.args) (r := Pl.text) (fun p q hp hq e => by
  obtain ⟨h1, h2, h3⟩ := pl_inj hp.1 hq.1 e
  unfold Pl.text
  rw [h1, h3]) p h
theorem txRQ_ok : ∀ xs y, txRQ xs = some y → PureOk (cfgP fun _ => none) 45 xs y := relP_ok (R := fun xs y => PureOk (cfgP fun _ => none) 45 xs y) fun p hp => pureOk_prim (textAtR_ok p hp)
/-! ### Set -/
structure St where
  v : GV
  x : AV
  es : List E
  i : Nat
  key : List UInt8
  w : GV
  ys : List AV
structure St.ok (p : St) : Prop where
  f : FV p.v p.x
  s : p.v.sml
  r : p.v.rise
  m : memsA p.x = p.es.map enc
  i : idxG p.v p.key = some p.i
  l : p.es.length < 1073741824
  w : FV p.w (.agg p.ys)
def St.args (p : St) : List AV := [p.x, str p.key, .agg p.ys]
def St.new (p : St) : List E := p.es.set p.i (p.key, p.ys)
def St.res (p : St) : AV := keepR p.x p.new
def GV.setG (i : Nat) (key : List UInt8) (w : GV) : GV → GV
  | .mk k n s l m => .mk k n s l (m.set i (key, w))
theorem fms_set : ∀ {m : List (List UInt8 × GV)} {es : List E} {i : Nat} {p : List UInt8 × GV} {q : E}, FMs m (es.map enc) → FMp p (enc q) → FMs (m.set i p) ((es.set i q).map enc)
  | [], [], _, _, _, _, _ => rfl
  | [], e :: es, _, _, _, h, _ => by cases (show (e :: es).map enc = [] from h)
  | p :: r, [], _, _, _, h, _ => by obtain ⟨y, ys, e, _⟩ := h; cases e
  | p :: r, e :: es, 0, _, _, h, hp => by
    obtain ⟨y, ys, h0, h1, h2⟩ := h
    injection h0 with h3 h4
    subst h3 h4
    exact ⟨_, _, rfl, hp, h2⟩
  | p :: r, e :: es, i + 1, _, _, h, hp => by
    obtain ⟨y, ys, h0, h1, h2⟩ := h
    injection h0 with h3 h4
    subst h3 h4
    exact ⟨_, _, rfl, h1, fms_set h2 hp⟩
theorem St.facts {p : St} (h : p.ok) : ∃ n s l m L M, p.v = .mk 5 n s l m ∧ p.x = .agg [.v (.int .i64 5), .v (.int .i64 n), str s, L, M] ∧ elems M = some (p.es.map enc) ∧ FMs m (p.es.map enc) ∧ someSl M = true ∧ p.i < p.es.length ∧ (∃ cs, p.es[p.i]? = some (p.key, cs)) ∧ okL p.es ∧ (∀ q ∈ p.es, okT q) := by
  obtain ⟨v, x, es, i, key, w, ys⟩ := p
  obtain ⟨hf, hs, hr, hm, hi, hl, hw⟩ := h
  simp only at hf hs hr hm hi hl hw ⊢
  cases v with
  | mk k n s l m =>
    obtain ⟨k5, hil, ⟨w0, hw0⟩, _⟩ := idxG_some hi
    subst k5
    obtain ⟨L, M, xs, zs, rfl, hL, hM, k1, k2, b1, b2, f1, f2, sl, hl', hm', hv, hwm⟩ := hf
    have hys : zs = es.map enc := by simpa [memsA, hM] using hm
    subst hys
    obtain ⟨es', hes, ho, hT⟩ := fms_encs hwm
    obtain rfl := encs_inj hes
    have hel : es.length = m.length := by rw [← hwm.len, List.length_map]
    obtain ⟨e0, he0⟩ : ∃ e0, es[i]? = some e0 := ⟨es[i]'(by omega), List.getElem?_eq_getElem (by omega)⟩
    obtain ⟨y, hy, hfm⟩ := hwm.get hw0
    rw [List.getElem?_map, he0] at hy
    injection hy with hy
    subst hy
    have hk := fmp_key hfm
    have hsome : someSl M = true := by
      rcases k2 with rfl | ⟨h1, _⟩
      · injection hM with hM
        have : es = [] := by cases es with
          | nil => rfl
          | cons a b => cases hM
        rw [this] at he0
        cases he0
      · exact h1
    refine ⟨n, s, l, m, L, M, rfl, rfl, hM, hwm, hsome, by omega, ⟨e0.2, ?_⟩, ho, fun q hq => (hT q hq).1⟩
    rw [he0]
    congr 1
    exact Prod.ext hk.symm rfl
theorem St.res_fv {p : St} (h : p.ok) : FV (GV.setG p.i p.key p.w p.v) p.res := by
  obtain ⟨n, s, l, m, L, M, hv, hx, hM, hwm, hsome, hil, ⟨cs, hcs⟩, ho, hT⟩ := St.facts h
  have hf := h.f
  have hkl : p.key.length ≤ 9223372036854775807 := by
    have hw := hwm
    have hel : p.es.length = m.length := by rw [← hwm.len, List.length_map]
    obtain ⟨y, hy, hfm⟩ := hwm.get (List.getElem?_eq_getElem (show p.i < m.length by omega))
    rw [List.getElem?_map, hcs] at hy
    injection hy with hy
    subst hy
    obtain ⟨⟨k0, w0⟩, hmi⟩ : ∃ q, m[p.i]'(by omega) = q := ⟨_, rfl⟩
    rw [hmi] at hfm
    obtain ⟨zs, e, hb, _⟩ := hfm
    injection e with e
    injection e with e _
    have hk : p.key = k0 := str_inj e
    rw [hk]
    exact hb
  have hfm : FMp (p.key, p.w) (enc (p.key, p.ys)) := ⟨p.ys, rfl, hkl, h.w⟩
  have hset := fms_set (i := p.i) hwm hfm
  rw [hv, hx] at hf
  obtain ⟨L', M', xs, zs, e, hL, hM', k1, k2, b1, b2, f1, f2, sl, hl', hm', hvv, _⟩ := hf
  injection e with e
  injection e with _ e
  injection e with _ e
  injection e with _ e
  injection e with e1 e
  injection e with e2 _
  subst e1 e2
  have hr : p.res = .agg [.v (.int .i64 5), .v (.int .i64 n), str s, L, .ro (p.new.map enc)] := by
    unfold St.res
    rw [hx]
    simp only [keepR, hsome, if_true]
  rw [hr, hv]
  exact ⟨L, _, xs, _, rfl, hL, rfl, k1, .inr ⟨rfl, rfl⟩, b1, rfl, f1, rfl, sl, hl', by rw [List.length_set]; exact hm', hvv, hset⟩
end Go.Proofs.YtjejeijldllloaaDoor

/- Chapter 2: Set where the key is there: its walk. -/
namespace Go.Proofs.YtjejeijldllloaaDoor
open Go.AM
noncomputable def se1 : FuncId → Option (List AV → Option AV) := tab [(78, plQ)]
theorem se1_ok : (cfgP se1).Ok := cfg_ok (tab_ok ⟨prim_at Tryd.func78 (by kernel_rfl) rfl (plQ_ok), trivial⟩)
theorem se1_78 : (cfgP se1).prim 78 = some plQ := rfl
theorem o_st2 {prim : FuncId → Option (List AV → Option AV)} {b0 b1 : Blk} {es : List E} {i : Nat} {key : List UInt8} {cs ys : List AV} (hi : es[i]? = some (key, cs)) (hc5 : cs.length = 5) (hy5 : ys.length = 5) (hf : ys.all AV.flat = true) : storeA (cfgP prim) 39 2 0 i 1 (.agg ys) (nH [b0, b1, ⟨0, 6, es.map enc⟩]) = some (nH [b0, b1, ⟨0, 6, (es.set i (key, ys)).map enc⟩]) := by
  have hc : (cfgP prim).csz 39 = some 5 := by kernel_rfl
  have hb : blkAt (nH [b0, b1, ⟨0, 6, es.map enc⟩]) 2 0 = some ⟨0, 6, es.map enc⟩ := rfl
  have hg := HB_get hi
  have hs : setCells (enc (key, cs)) 1 (AV.agg ys).cells = some (enc (key, ys)) := by
    show (if 1 + ys.length ≤ (str key :: cs).length then some (AV.agg ((str key :: cs).take 1 ++ ys ++ (str key :: cs).drop (1 + ys.length))) else none) = _
    rw [if_pos (by rw [List.length_cons]; omega), List.drop_of_length_le (by rw [List.length_cons]; omega)]
    simp [enc]
  have hcd : some (AV.agg ys).cells.length = (cfgP prim).csz 39 ∧ (AV.agg ys).cells.all AV.flat = true := ⟨by rw [hc]; exact congrArg some hy5, hf⟩
  simp only [storeA, hb, hg]
  rw [if_pos hcd, hs]
  simp only [Option.map_some, nH, List.map_set]
  rfl
theorem clS_ok : CallsOk (cfgP se1) clT := calls_prim clT_ok
set_option maxHeartbeats 8000000 in
set_option maxRecDepth 100000 in
theorem set_ok (p : St) (hp : p.ok) : PureOk (cfgP se1) 40 p.args p.res := by
  obtain ⟨n, s, l, m, L, M, hv, hx, hM, hwm, hsome, hil, ⟨c0, hcs0⟩, ho, hT⟩ := St.facts hp
  have qp := plQ_eq (p := ⟨p.v, p.x, p.key⟩) ⟨hp.f, hp.s, hp.r⟩
  have hf := hp.f
  have hr := hp.r
  have hi := hp.i
  have hl := hp.l
  have hw := hp.w
  have hres : p.res = keepR p.x p.new := rfl
  obtain ⟨v, x, es, i, key, w, ys⟩ := p
  simp only at hv hx hM hwm hil hcs0 ho hT hf hr hi hl hw
  subst hv hx
  have hc5 := (ho _ (List.mem_of_getElem? hcs0)).1
  have hb := hf.bare
  have hfl0 := hf.fl
  have hfv := hf
  obtain ⟨L', M', xs, zs, e, hL, hM', k1, k2, b1, b2, f1, f2, sl, hl', hm', hvv, hww⟩ := hf
  injection e with e
  injection e with _ e
  injection e with _ e
  injection e with _ e
  injection e with e1 e
  injection e with e2 _
  subst e1 e2
  have hpl : plQ [.agg [.v (.int .i64 5), .v (.int .i64 n), str s, L, M], str key] = some (.tup [.v (.int .i64 (i : Int)), .v (.bool true)]) := by
    refine qp.trans (congrArg some ((if_pos rfl).trans ?_))
    rcases place_idx (k := 5) (n := n) (s := s) (l := l) rfl (hr rfl) key with ⟨h1, h2⟩ | ⟨h1, h2⟩
    · rw [hi] at h2
      injection h2 with h2
      show AV.tup [.v (.int .i64 (low (m.map Prod.fst) key : Int)), .v (.bool (hasK (m.map Prod.fst) key))] = _
      rw [h1, ← h2]
    · rw [hi] at h2
      cases h2
  obtain ⟨e0, es0, hes⟩ : ∃ e0 es0, es = e0 :: es0 := by
    cases es with
    | nil => simp at hil
    | cons a b => exact ⟨a, b, rfl⟩
  have hy5 := hw.l5
  have hyf := hw.fl
  have hyb := hw.bare
  have r3 : (cfgP se1).roBox 40 3 = false := rfl
  have r5 : (cfgP se1).roBox 40 5 = true := rfl
  have r6 : (cfgP se1).roBox 40 6 = false := rfl
  have hbs := hfv.bs
  obtain ⟨cs, hcs⟩ : ∃ cs : List AV, cs = [.v (.int .i64 5), .v (.int .i64 n), str s, L, M] := ⟨_, rfl⟩
  have l5 : cs.length = 5 := by rw [hcs]; rfl
  have g0 : cs[0]? = some (.v (.int .i64 5)) := by rw [hcs]; rfl
  have g4 : cs[4]? = some M := by rw [hcs]; rfl
  have hfl : cs.all AV.flat = true := by rw [hcs]; exact hfl0
  obtain ⟨n1, hn1⟩ : ∃ n1, es.length = n1 := ⟨_, rfl⟩
  have c1 : clT 72 [M] (nH [⟨0, 5, [.agg cs]⟩, ⟨0, 5, [z5]⟩]) = some (.ex 2 0 6 0 n1, nH [⟨0, 5, [.agg cs]⟩, ⟨0, 5, [z5]⟩, ⟨0, 6, es.map enc⟩]) := by
    have := clT_eq ⟨nH [⟨0, 5, [.agg cs]⟩, ⟨0, 5, [z5]⟩], M, e0, es0⟩ ⟨by rw [hM, hes], by rw [← hes]; exact ho, by show (e0 :: es0).length < _; rw [← hes]; omega⟩
    simp only [← hes, hn1] at this
    exact this
  obtain ⟨cs', hcs'⟩ : ∃ cs' : List AV, cs' = [.v (.int .i64 5), .v (.int .i64 n), str s, L, .ex 2 0 6 0 n1] := ⟨_, rfl⟩
  have s1 := o_st (prim := se1) (t := 37) (j := 4) (x := .ex 2 0 6 0 n1) (cs := cs) (cs' := cs') [⟨0, 5, [z5]⟩, ⟨0, 6, es.map enc⟩] (by kernel_rfl) rfl rfl (by omega) (by rw [hcs, hcs']; rfl)
  have l5' : cs'.length = 5 := by rw [hcs']; rfl
  have g4' : cs'[4]? = some (.ex 2 0 6 0 n1) := by rw [hcs']; rfl
  have hfl' : cs'.all AV.flat = true := by
    rw [hcs']
    simp only [List.all_cons, List.all_nil, f1]
    rfl
  have s2 := o_st2 (prim := se1) (b0 := ⟨0, 5, [.agg cs']⟩) (b1 := ⟨0, 5, [z5]⟩) hcs0 hc5 hy5 hyf
  have s3 := o_st1 (prim := se1) (b0 := ⟨0, 5, [.agg cs']⟩) [⟨0, 6, (es.set i (key, ys)).map enc⟩] l5' hfl'
  have mi := mix (prim := se1) (b := 2) (i := i) (len := n1) (k := .i64) (by omega)
  have hTn : ∀ q ∈ es.set i (key, ys), okT q := fun q hq => by
    rcases List.mem_or_eq_of_mem_set hq with h | h
    · exact hT q h
    · rw [h]; exact okT_of hw
  have hth : ∃ N, AV.thaw (nH [⟨0, 5, [.agg cs']⟩, ⟨0, 5, [.agg cs']⟩, ⟨0, 6, (es.set i (key, ys)).map enc⟩]) N (.agg cs') = some (keepR (.agg [.v (.int .i64 5), .v (.int .i64 n), str s, L, M]) (es.set i (key, ys))) := by
    obtain ⟨H, hH⟩ : ∃ H, nH [⟨0, 5, [.agg cs']⟩, ⟨0, 5, [.agg cs']⟩, ⟨0, 6, (es.set i (key, ys)).map enc⟩] = H := ⟨_, rfl⟩
    have hbk : blkAt H 2 0 = some ⟨0, 6, (es.set i (key, ys) ++ []).map enc⟩ := by rw [← hH, List.append_nil]; rfl
    have e1 : ∀ (x : Value) (j : Nat), AV.thaw H (j + 1) (.v x) = some (.v x) := fun _ _ => rfl
    have e2 : ∀ (x : List UInt8) (j : Nat), AV.thaw H (j + 1) (str x) = some (str x) := fun _ _ => rfl
    have hn2 : n1 = (es.set i (key, ys)).length := by rw [List.length_set, hn1]
    rw [hH, hcs', hn2]
    exact keepR_thaw hsome hbk hTn (fun j => e1 _ j) (fun j => e1 _ j) (fun j => e2 _ j) (fun j => thaw_sl k1 b1 H j)
  obtain ⟨N, hth⟩ := hth
  rw [hres]
  show PureOk (cfgP se1) 40 [.agg [.v (.int .i64 5), .v (.int .i64 n), str s, L, M], str key, .agg ys] (keepR (.agg [.v (.int .i64 5), .v (.int .i64 n), str s, L, M]) (es.set i (key, ys)))
  obtain ⟨R, hR⟩ : ∃ R, keepR (.agg [.v (.int .i64 5), .v (.int .i64 n), str s, L, M]) (es.set i (key, ys)) = R := ⟨_, rfl⟩
  rw [hR] at hth ⊢
  rw [← hcs] at hpl hbs hb ⊢
  clear hcs hcs' hres hR hTn hfv
  refine pure_of_wk (call := clT) (fn := Tryd.f40) (rs := [.cell 6 39]) se1_ok clS_ok (fns_cfg Tryd.func40 rfl) rfl rfl ?_
  intro env hl0 hargs
  have hn : env.length = 40 := hl0
  have h0 := hargs 0 _ rfl
  have h1 := hargs 1 _ rfl
  have h2 := hargs 2 _ rfl
  clear hargs hl0
  refine wkT_of ?_
  rw [fe_self hn]
  (try simp -dsimp (disch := omega) only [h0, h1, h2, r3, r5, r6, g39, bx_o l5 hfl, bxt_ro hyb hyf, o_al1, gfp0, gp4, vp3, vp37, o_blk, o_blk1, List.getElem?_cons_zero, cellsA, g0, g4, g4', vp39 l5, vp39 l5', vp39 hy5, ct_prim se1_78, hbs, bare_s, hpl, ct_own (C := cfgP se1) (f := 72) rfl rfl, c1, s1, mi, mf1p, s2, s3, Bool.not_true, AS, avals, apairs, bareP, AV.bare, AV.bares, Nat.reduceEqDiff, Nat.reduceLT, Nat.reduceAdd, ↓reduceIte, reduceCtorEq, resA, resA1, resVal, Nat.reduceLeDiff, nb_cfg, Nat.reduceBEq, AX, Int.reduceLT, Int.reduceLE, Int.reduceEq, Int.reduceAdd, Int.reduceSub, Int.reduceMul, Int.reduceNeg, Int.reduceNe])
  exact ⟨N, hth⟩
end Go.Proofs.YtjejeijldllloaaDoor

/- Chapter 13: the lists of what stays; Texts; awake. -/
namespace Go.Proofs.YtjejeijldllloaaDoor
open Go.AM
section
variable {prim : FuncId → Option (List AV → Option AV)}
end
end Go.Proofs.YtjejeijldllloaaDoor

/- Chapter 13: few members; the document's Set. -/
namespace Go.Proofs.YtjejeijldllloaaDoor
open Go.AM
/-- What a light value has within is light. -/
theorem wtm_each {most : Int} (m0 : 0 ≤ most) (m1 : most ≤ 1000000) : ∀ {d n : Int} {l : List (List UInt8 × GV)}, GV.smlm l → 0 ≤ d → d ≤ 71 → 1 ≤ n → n ≤ most → GV.wtm most d n l ≤ most → ∀ p ∈ l, GV.wtp most d p ≤ most
  | d, n, [], _, _, _, _, _, _, p, hp => by cases hp
  | d, n, q :: r, h, h0, h1, g0, g1, hw, p, hp => by
    obtain ⟨a1, a2⟩ := h
    rw [GV.wtm] at hw
    split at hw
    · have b := wtp_bnd m0 m1 a1 h0 h1
      rw [wrap64 (n := (q.1.length : Int) + GV.wtp most d q) (by omega) (by omega), wrap64 (by omega) (by omega)] at hw
      have c := wtm_bnd m0 m1 (n := n + ((q.1.length : Int) + GV.wtp most d q)) a2 h0 h1 (by omega) (by omega)
      rcases List.mem_cons.1 hp with rfl | hp
      · omega
      · exact wtm_each m0 m1 a2 h0 h1 (by omega) (by omega) hw p hp
    · omega
def GV.mems : GV → List (List UInt8 × GV)
  | .mk _ _ _ _ m => m
/-- Few members, here and one level down. -/
def few2 (v : GV) : Prop := v.mems.length ≤ 1000000 ∧ ∀ p ∈ v.mems, p.2.mems.length ≤ 1000000
theorem light_few2 {most : Int} (m0 : 0 ≤ most) (m1 : most ≤ 1000000) {v : GV} (h : v.sml) (hl : v.wt most 0 ≤ most) : few2 v := by
  cases v with
  | mk k n s l m =>
    have h1 := light_few m0 m1 h hl
    obtain ⟨a1, a2, a3, a4, a5⟩ := h
    rw [GV.wt, if_neg (by omega), wrap64 (by omega) (by omega)] at hl
    have b1 := wts_bnd m0 m1 (d := 0 + 1) (n := 1 + (s.length : Int)) a4 (by omega) (by omega) (by omega) (by omega)
    have b2 := wtm_bnd m0 m1 (d := 0 + 1) (n := GV.wts most (0 + 1) (1 + (s.length : Int)) l) a5 (by omega) (by omega) (by omega) (by omega)
    refine ⟨by show m.length ≤ _; omega, fun p hp => ?_⟩
    have he := wtm_each m0 m1 (d := 0 + 1) (n := GV.wts most (0 + 1) (1 + (s.length : Int)) l) a5 (by omega) (by omega) (by omega) (by omega) hl p hp
    have hps := smlm_all a5 p hp
    obtain ⟨key, w⟩ := p
    cases w with
    | mk k' n' s' l' m' =>
      obtain ⟨_, c1, c2, c3, c4, c5⟩ := hps
      have he' : (GV.mk k' n' s' l' m').wt most (0 + 1) ≤ most := he
      rw [GV.wt, if_neg (by omega), wrap64 (by omega) (by omega)] at he'
      have d1 := wts_bnd m0 m1 (d := 0 + 1 + 1) (n := 1 + (s'.length : Int)) c4 (by omega) (by omega) (by omega) (by omega)
      have d2 := wtm_bnd m0 m1 (d := 0 + 1 + 1) (n := GV.wts most (0 + 1 + 1) (1 + (s'.length : Int)) l') c5 (by omega) (by omega) (by omega) (by omega)
      show m'.length ≤ _
      omega
/-- One more of a key that is there: in its place. -/
theorem lastK_set : ∀ {es : List E} {i : Nat} {p : E} {c : List AV} (key : List UInt8), Str es → es[i]? = some (p.1, c) → lastK key (es.set i p) = if p.1 = key then some p else lastK key es
  | [], _, _, _, _, _, h => by cases h
  | x :: r, 0, p, c, key, hs, h => by
    obtain ⟨h1, h2⟩ := List.pairwise_cons.1 hs
    injection h with h
    have hx : x.1 = p.1 := by rw [h]
    rw [List.set_cons_zero, lastK_cons, lastK_cons, hx]
    by_cases hk : p.1 = key
    · have hn : lastK key r = none := str_last_none fun z hz e => by
        have := h1 z hz
        rw [e, hx, hk, bl_irrefl] at this
        cases this
      rw [if_pos hk, if_pos hk, hn]
      rfl
    · rw [if_neg hk, if_neg hk, if_neg hk]
  | x :: r, i + 1, p, c, key, hs, h => by
    obtain ⟨h1, h2⟩ := List.pairwise_cons.1 hs
    have h' : r[i]? = some (p.1, c) := h
    have ih := lastK_set key h2 h'
    rw [List.set_cons_succ, lastK_cons, lastK_cons, ih]
    by_cases hk : p.1 = key
    · have hx : x.1 ≠ key := by
        intro e
        have := h1 _ (List.mem_of_getElem? h')
        rw [e, hk, bl_irrefl] at this
        cases this
      rw [if_pos hk, if_neg hx, if_pos hk]
    · rw [if_neg hk, if_neg hk]
theorem set_str : ∀ {es : List E} {i : Nat} {p : E} {c : List AV}, Str es → es[i]? = some (p.1, c) → Str (es.set i p) := by
  intro es i p c hs hi
  have h1 : (es.set i p).map Prod.fst = es.map Prod.fst := by
    rw [List.map_set]
    refine List.ext_getElem? fun j => ?_
    rw [List.getElem?_set]
    by_cases hj : i = j
    · subst hj
      have hl := (List.getElem?_eq_some_iff.1 hi).1
      rw [if_pos rfl, List.length_map, if_pos hl, List.getElem?_map, hi]
      rfl
    · rw [if_neg hj]
  refine (List.pairwise_map (f := Prod.fst) (R := fun a b => bl a b = true)).1 ?_
  rw [h1]
  exact (List.pairwise_map (f := Prod.fst) (R := fun a b => bl a b = true)).2 hs
theorem mapL_set {es : List E} {i : Nat} {p : E} {c : List AV} (hs : Str es) (hi : es[i]? = some (p.1, c)) : mapL (es ++ [p]) = es.set i p := by
  refine (mapL_uniq (set_str hs hi) fun key => ?_).symm
  rw [lastK_set key hs hi, lastK_snoc]
/-! ### The document's Set -/
structure Sr where
  v : GV
  x : AV
  es : List E
  key : List UInt8
  w : GV
  ys : List AV
structure Sr.ok (p : Sr) : Prop where
  f : FV p.v p.x
  k : p.v.kind = 5
  m : memsA p.x = p.es.map enc
  l : p.es.length < 10000000
  w : FV p.w (.agg p.ys)
  n : 0 < p.es.length
  kl : p.key.length ≤ 9223372036854775807
def Sr.args (p : Sr) : List AV := [p.x, str p.key, .agg p.ys]
def Sr.res (p : Sr) : AV := mapV (mapL (p.es ++ [(p.key, p.ys)]))
noncomputable def sr1 : FuncId → Option (List AV → Option AV) := tab [(36, mapT)]
theorem sr1_ok : (cfgP sr1).Ok := cfg_ok (tab_ok ⟨prim_at Tryd.func36 (by kernel_rfl) rfl (mapTr_ok), trivial⟩)
theorem sr1_36 : (cfgP sr1).prim 36 = some mapT := rfl
theorem build_mem {prim : FuncId → Option (List AV → Option AV)} {k : List UInt8} {ys : List AV} (h5 : ys.length = 5) (hf : ys.all AV.flat = true) : buildA (cfgP prim) 48 [(0, str k), (1, .agg ys)] = some (enc (k, ys)) := by
  have hu : ∃ fields, (cfgP prim).und 48 = some (.struct fields) ∧ placesA (cfgP prim) fields.toList = some [(0, 1), (1, 5)] := by
    have hh : (match (cfgP prim).und 48 with | some (.struct fields) => placesA (cfgP prim) fields.toList | _ => none) = some [(0, 1), (1, 5)] := by kernel_rfl
    split at hh
    · rename_i f e
      exact ⟨f, e, hh⟩
    · cases hh
  obtain ⟨fields, hu, hp⟩ := hu
  have hz : zeroA (cfgP prim) 48 = some z6 := by kernel_rfl
  have hz6 : z6.cells = [str [], .v (.int .i64 0), .v (.int .i64 0), str [], .v (.slice none 0 0), .v (.slice none 0 0)] := rfl
  have hsf : (str k).flat = true := rfl
  unfold buildA
  simp only [hu, hz, hp, fillA, List.getElem?_cons_succ, List.getElem?_cons_zero, cellsS, cellsA, hz6, h5, hf, hsf, List.length_cons, List.length_nil, List.all_cons, List.all_nil, Bool.and_self, List.take_zero, List.nil_append, List.take, List.drop, List.cons_append, List.append_nil]
  simp [h5, enc]
end Go.Proofs.YtjejeijldllloaaDoor

/- Chapter 13: Redact. -/
namespace Go.Proofs.YtjejeijldllloaaDoor
open Go.AM
theorem maym_rise : ∀ (m : List (List UInt8 × GV)) (o : Option (List UInt8)), GV.maym o m = true → m.Pairwise (fun a b => bl a.1 b.1 = true) ∧ (∀ q, o = some q → ∀ p ∈ m, bl q p.1 = true) ∧ ∀ p ∈ m, p.2.may = true
  | [], _, _ => ⟨List.Pairwise.nil, fun _ _ p hp => by (cases hp), fun p hp => by (cases hp)⟩
  | (k, v) :: r, o, h => by
    have hm : GV.mayp (k, v) = v.may := rfl
    have hstep : (∀ q, o = some q → bl q k = true) ∧ v.may = true ∧ GV.maym (some k) r = true := by
      cases o with
      | none =>
        rw [GV.maym, hm] at h
        simp only [Bool.and_eq_true] at h
        exact ⟨fun q e => by (cases e), h.1.2, h.2⟩
      | some q =>
        rw [GV.maym, hm] at h
        simp only [Bool.and_eq_true] at h
        refine ⟨fun q' e => ?_, h.1.2, h.2⟩
        injection e with e
        subst e
        rw [rise]
        exact h.1.1.2
    obtain ⟨s1, s2, s3⟩ := hstep
    obtain ⟨a, b, c⟩ := maym_rise r (some k) s3
    refine ⟨List.pairwise_cons.2 ⟨fun p hp => b k rfl p hp, a⟩, fun q e p hp => ?_, fun p hp => ?_⟩
    · rcases List.mem_cons.1 hp with rfl | hp
      · exact s1 q e
      · exact bl_trans (s1 q e) (b k rfl p hp)
    · rcases List.mem_cons.1 hp with rfl | hp
      · exact s2
      · exact c p hp
/-- A good map has nothing but members, whose keys rise, and which may be. -/
theorem may_map {n : Int} {s : List UInt8} {l : List GV} {m : List (List UInt8 × GV)} (h : (GV.mk 5 n s l m).may = true) : n = 0 ∧ s = [] ∧ l = [] ∧ m.Pairwise (fun a b => bl a.1 b.1 = true) ∧ ∀ p ∈ m, p.2.may = true := by
  rw [GV.may] at h
  simp only [Int.reduceEq, if_false, if_true, Bool.and_eq_true, decide_eq_true_eq] at h
  obtain ⟨h1, h2⟩ := h
  obtain ⟨a, _, c⟩ := maym_rise m none h1
  refine ⟨?_, ?_, ?_, a, c⟩
  · omega
  · grind
  · have : l.length = 0 := by omega
    exact List.eq_nil_of_length_eq_zero this
section
variable {prim : FuncId → Option (List AV → Option AV)}
theorem o_st0 {cs : List AV} (ext : List Blk) (hl : cs.length = 5) (hf : cs.all AV.flat = true) : storeA (cfgP prim) 39 0 0 0 0 (.agg cs) (nH (⟨0, 5, [z5]⟩ :: ext)) = some (nH (⟨0, 5, [.agg cs]⟩ :: ext)) := by
  have hc : (cfgP prim).csz 39 = some 5 := by kernel_rfl
  exact store_all (C := cfgP prim) (t := 39) (b := 0) (n := 5) (x := cs) (y := z5l) (H := nH (⟨0, 5, [z5]⟩ :: ext)) rfl (by rw [hc, hl]) (by simp [hl, z5l]) hf
theorem o_al0 : allocA (cfgP prim) 39 false {} = some (.ptr 0 0 0 0, nH [⟨0, 5, [z5]⟩], 2) := mH_new'
end
end Go.Proofs.YtjejeijldllloaaDoor

/- Chapter 13: the document's Redact. -/
namespace Go.Proofs.YtjejeijldllloaaDoor
open Go.AM
theorem Kp.resR_fv {p : Kp} (h : p.ok) (hk : p.v.kind = 5) (hm : p.v.may = true) : FV (p.v.keepG p.kd p.ks) p.resR := by
  obtain ⟨v, x, es, kd, ks, T⟩ := p
  obtain ⟨hf, hs, hmm, ht, hl⟩ := h
  simp only at hf hs hmm ht hl hm hk
  cases v with
  | mk k n s l m =>
    have k5 : k = 5 := hk
    subst k5
    obtain ⟨rfl, rfl, rfl, _, _⟩ := may_map hm
    obtain ⟨L, M, xs, ys, rfl, hL, hM, k1, k2, b1, b2, f1, f2, sl, hl', hm', hv, hw⟩ := hf
    have hys : ys = es.map enc := by simpa [memsA, hM] using hmm
    subst hys
    have hff := fms_filter (fun key => !delB kd ks key) hw
    have hfl := List.length_filter_le (fun q : List UInt8 × GV => !delB kd ks q.1) m
    have hr : Kp.resR ⟨.mk 5 0 [] [] m, .agg [.v (.int .i64 5), .v (.int .i64 0), str [], L, M], es, kd, ks, T⟩ = mapV (es.filter fun e => !delB kd ks e.1) := by unfold Kp.resR; exact if_pos rfl
    have hv2 : (GV.mk 5 0 [] [] m).keepG kd ks = G5 (m.filter fun q => !delB kd ks q.1) := by unfold GV.keepG; exact if_pos rfl
    rw [hr]
    show FV ((GV.mk 5 0 [] [] m).keepG kd ks) _
    rw [hv2]
    exact mapV_G5 hff (by omega)
theorem fv_encs {k n : Int} {s : List UInt8} {l : List GV} {m : List (List UInt8 × GV)} {cs : List AV} (h : FV (.mk k n s l m) (.agg cs)) : ∃ es : List E, memsA (.agg cs) = es.map enc ∧ es.length = m.length ∧ FMs m (es.map enc) := by
  obtain ⟨L, M, xs, ys, e, _, hM, _, _, _, _, _, _, _, _, _, _, hw⟩ := h
  obtain ⟨es, rfl, _, _⟩ := fms_encs hw
  injection e with e
  subst e
  refine ⟨es, by simp [memsA, hM], ?_, hw⟩
  rw [← hw.len, List.length_map]
/-- What the document's Set makes of a map that may be, at a key that is there. -/
theorem Sr.res_fv {m : List (List UInt8 × GV)} {x : AV} {es : List E} {key : List UInt8} {w : GV} {ys : List AV} {i : Nat} (hw : FMs m (es.map enc)) (hr : m.Pairwise fun a b => bl a.1 b.1 = true) (hi : idxG (G5 m) key = some i) (hkl : key.length ≤ 9223372036854775807) (hf : FV w (.agg ys)) (hl : m.length ≤ 1000000) :
    FV (GV.setG i key w (G5 m)) (Sr.res ⟨G5 m, x, es, key, w, ys⟩) := by
  have hks := fms_keys hw
  have hstr : Str es := str_keys (by rw [hks]; exact List.pairwise_map.2 hr)
  have hel : es.length = m.length := by rw [← hw.len, List.length_map]
  obtain ⟨_, hil, ⟨w0, hw0⟩, _⟩ := idxG_some hi
  obtain ⟨e0, he0⟩ : ∃ e0, es[i]? = some e0 := ⟨es[i]'(by omega), List.getElem?_eq_getElem (by omega)⟩
  obtain ⟨y, hy, hfm⟩ := hw.get hw0
  rw [List.getElem?_map, he0] at hy
  injection hy with hy
  subst hy
  have hk := fmp_key hfm
  have hi' : es[i]? = some ((key, ys).1, e0.2) := by
    rw [he0]
    congr 1
    exact Prod.ext hk.symm rfl
  have hms := mapL_set (p := (key, ys)) hstr hi'
  show FV (GV.setG i key w (G5 m)) (mapV (mapL (es ++ [(key, ys)])))
  rw [hms]
  have hfm2 : FMp (key, w) (enc (key, ys)) := ⟨ys, rfl, hkl, hf⟩
  have hset := fms_set (i := i) hw hfm2
  exact mapV_G5 hset (by rw [List.length_set]; omega)
end Go.Proofs.YtjejeijldllloaaDoor

/- RedactSays: what stays is as the document says. -/
namespace Go.Proofs.YtjejeijldllloaaDoor
open Go.AM
def RdX (p : GV × AV) : Prop := FV p.1 p.2 ∧ p.1.sml ∧ few2 p.1
theorem RdX.uniq {p q : GV × AV} (hp : RdX p) (hq : RdX q) (e : [p.2] = [q.2]) : p = q := by
  injection e with e _
  have h1 := hp.1.rv
  rw [e] at h1
  exact Prod.ext (RV.uniq h1 hq.1.rv) e
end Go.Proofs.YtjejeijldllloaaDoor
