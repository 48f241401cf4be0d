/- Contracts of functions, and plain facts about what they compute. -/
import Derived.Test.YtjejeijldllloaaDoorWf
import Derived.Test.YtjejeijldllloaaDoorAmD
set_option linter.unusedSimpArgs false
set_option linter.unusedVariables false
/- Chapter 2: Keep, Drop; the document's Keep. -/
namespace Go.Proofs.YtjejeijldllloaaDoor
open Go.AM
theorem Kp.inj {p q : Kp} (hp : p.ok) (hq : q.ok) (hx : p.x = q.x) (hk : p.kd = q.kd) (hT : p.T = q.T) : p.res = q.res := by
  have h1 := hp.f.rv
  rw [hx] at h1
  have hv := RV.uniq h1 hq.f.rv
  have hm := hp.m
  rw [hx, hq.m] at hm
  have he := encs_inj hm
  have ht := hp.t
  rw [hT] at ht
  have hks := ht.inj hq.t
  unfold Kp.res Kp.stay
  rw [hx, hv, hk, hks, he]
noncomputable def wtQ2 := relP Kp.ok Kp.args Kp.res
theorem wtQ2_eq {p : Kp} (h : p.ok) : wtQ2 p.args = some p.res := relP_eq (X := Kp.ok) (a := Kp.args) (r := Kp.res) (fun p q hp hq e => by
  injection e with e1 e
  injection e with e2 _
  obtain ⟨h1, h2⟩ := fnKD_inj e2
  exact Kp.inj hp hq e1 h1 h2) p h
theorem wtQ2_ok : ∀ xs y, wtQ2 xs = some y → PureOk (cfgP fun _ => none) 80 xs y := relP_ok (R := fun xs y => PureOk (cfgP fun _ => none) 80 xs y) fun p hp => pureOk_prim (without_ok p hp)
noncomputable def kp1 : FuncId → Option (List AV → Option AV) := tab [(80, wtQ2)]
theorem kp1_ok : (cfgP kp1).Ok := cfg_ok (tab_ok ⟨prim_at Tryd.func80 (by kernel_rfl) rfl (wtQ2_ok), trivial⟩)
theorem kp1_80 : (cfgP kp1).prim 80 = some wtQ2 := rfl
def Kp.args3 (p : Kp) : List AV := [p.x, p.T]
set_option maxHeartbeats 4000000 in
set_option maxRecDepth 100000 in
theorem keep_ok (p : Kp) (hp : p.ok) (hk : p.kd = true) : PureOk (cfgP kp1) 42 p.args3 p.res := by
  have q := wtQ2_eq hp
  obtain ⟨rs, hrs, hr5, hrb, hrf⟩ := (Kp.res_fv hp).shape
  have hth := fun H n => thaw_val (cs := rs) (by rw [← hrs]; exact Kp.res_fv hp) H n
  obtain ⟨v, x, es, kd, ks, T⟩ := p
  obtain ⟨hf, hs, hm, ht, hl⟩ := hp
  simp only at hf hs hm ht hl hk
  subst hk
  have hb := hf.bare
  obtain ⟨cs, rfl, h5, hbs, hfl⟩ := hf.shape
  have tb := ht.b
  obtain ⟨tc, tf⟩ := cells_el ht.el
  have tfl : T.cells.all AV.flat = true := by rw [tc, List.all_cons, tf]; rfl
  have r2 : (cfgP kp1).roBox 42 2 = true := rfl
  have r3 : (cfgP kp1).roBox 42 3 = true := rfl
  have r4 : (cfgP kp1).roBox 42 4 = false := rfl
  show PureOk (cfgP kp1) 42 [.agg cs, T] (Kp.res ⟨v, .agg cs, es, true, ks, T⟩)
  obtain ⟨R, hR⟩ : ∃ R, Kp.res ⟨v, .agg cs, es, true, ks, T⟩ = R := ⟨_, rfl⟩
  rw [hR] at q hrs ⊢
  subst hrs
  replace q : wtQ2 [.agg cs, .fn (.func 83) [] [.rp T 0]] = some (.agg rs) := q
  have hfb : (AV.fn (.func 83) [] [.rp T 0]).bare = some (.fn (.func 83) [] [.rp T 0]) := rfl
  have st := v_st (prim := kp1) hr5 hrf
  refine pure_of_wk (call := noCall) (fn := Tryd.f42) (rs := [.cell 4 39]) kp1_ok noCall_ok (fns_cfg Tryd.func42 rfl) rfl rfl ?_
  intro env hl0 hargs
  have hn : env.length = 8 := hl0
  have h0 := hargs 0 _ rfl
  have h1 := hargs 1 _ rfl
  clear hargs hl0
  refine wkT_of ?_
  rw [fe_self hn]
  (try simp -dsimp (disch := omega) only [h0, h1, r2, r3, r4, bxt_ro hb hfl, bxt_ro tb tfl, v_al, cellsA, vp39 h5, hbs, hfb, ct_prim kp1_80, q, st, mHv_blk, List.getElem?_cons_zero, vp39 hr5, AS, avals, apairs, bareP, AV.bare, AV.bares, Nat.reduceEqDiff, Nat.reduceLT, Nat.reduceAdd, ↓reduceIte, reduceCtorEq, resA, resA1, resVal, Nat.reduceLeDiff, nb_cfg, Nat.reduceBEq, AX, Int.reduceLT, Int.reduceLE, Int.reduceEq, Int.reduceAdd, Int.reduceSub, Int.reduceMul, Int.reduceNeg, Int.reduceNe])
  exact ⟨20, hth _ 12⟩
/-! ### The document's -/
end Go.Proofs.YtjejeijldllloaaDoor

/- Chapter 2: TextAt; Set where the key is there. -/
namespace Go.Proofs.YtjejeijldllloaaDoor
open Go.AM
def getV (v : GV) (key : List UInt8) : Option GV := match v with
  | .mk _ _ _ _ m => (idxG v key).bind fun i => m[i]?.map Prod.snd
def textG (v : GV) (key : List UInt8) : Option (List UInt8) := match getV v key with
  | some (.mk k _ s _ _) => if k = 3 then some s else none
  | none => none
def textR (v : GV) (key : List UInt8) : AV := match textG v key with
  | some s => .tup [str s, .v (.bool true)]
  | none => .tup [str [], .v (.bool false)]
def Pl.text (p : Pl) : AV := textR p.v p.k
theorem gfp2 {prim : FuncId → Option (List AV → Option AV)} {b g i j : Nat} : fieldAddrA (cfgP prim) 39 (.ptr b g i j) 2 = some (.ptr b g i (j + 2)) := by kernel_rfl
noncomputable def tx1 : FuncId → Option (List AV → Option AV) := tab [(39, getQ)]
theorem tx1_ok : (cfgP tx1).Ok := cfg_ok (tab_ok ⟨prim_at Tryd.func39 (by kernel_rfl) rfl (getQ_ok), trivial⟩)
theorem tx1_39 : (cfgP tx1).prim 39 = some getQ := rfl
set_option maxHeartbeats 4000000 in
set_option maxRecDepth 100000 in
theorem textAt_ok (p : Pl) (hp : p.ok) : PureOk (cfgP tx1) 44 p.args p.text := by
  have q := getQ_eq hp
  have hf : FV p.v p.x := hp.1
  have hgs := fun i hi => getR_some (key := p.k) (i := i) hf hi
  obtain ⟨v, x, key⟩ := p
  simp only at hf hgs
  have hb := hf.bare
  obtain ⟨cs, rfl, h5, hbs, hfl⟩ := hf.shape
  have r2 : (cfgP tx1).roBox 44 2 = true := rfl
  have r6 : (cfgP tx1).roBox 44 6 = false := rfl
  have e0 : (AV.v (.string { data := #[] })) = str [] := rfl
  replace q : getQ [.agg cs, str key] = some (getR v (.agg cs) key) := q
  show PureOk (cfgP tx1) 44 [.agg cs, str key] (textR v key)
  cases hi : idxG v key with
  | none =>
    rw [getR_none hi] at q
    have hr : textR v key = .tup [str [], .v (.bool false)] := by
      have : getV v key = none := by cases v; unfold getV; rw [hi]; rfl
      unfold textR textG
      rw [this]
    rw [hr]
    replace q : getQ [.agg cs, str key] = some (.tup [.agg z5l, .v (.bool false)]) := q
    have st := v_st (prim := tx1) (cs := z5l) rfl rfl
    refine pure_of_wk (call := noCall) (fn := Tryd.f44) (rs := [.tmp 4, .tmp 5]) tx1_ok noCall_ok (fns_cfg Tryd.func44 rfl) rfl rfl ?_
    intro env hl0 hargs
    have hn : env.length = 23 := hl0
    have h0 := hargs 0 _ rfl
    have h1 := hargs 1 _ rfl
    clear hargs hl0
    refine wkT_of ?_
    rw [fe_self hn]
    (try simp -dsimp (disch := omega) only [h0, h1, r2, r6, bxt_ro hb hfl, v_al, e0, cellsA, vp39 h5, ct_prim tx1_39, hbs, bare_s, q, st, Bool.not_false, AS, avals, apairs, bareP, AV.bare, AV.bares, Nat.reduceEqDiff, Nat.reduceLT, Nat.reduceAdd, ↓reduceIte, reduceCtorEq, resA, resA1, resVal, Nat.reduceLeDiff, nb_cfg, Nat.reduceBEq, AX, Int.reduceLT, Int.reduceLE, Int.reduceEq, Int.reduceAdd, Int.reduceSub, Int.reduceMul, Int.reduceNeg, Int.reduceNe])
    exact ⟨5, rfl⟩
  | some i =>
    obtain ⟨w, ws, f1, f2, f3, f4⟩ := hgs i hi
    rw [f3] at q
    have hg : getV v key = some w := by
      cases v with
      | mk k n s l m =>
        show (idxG (.mk k n s l m) key).bind (fun i => m[i]?.map Prod.snd) = some w
        rw [hi, Option.bind_some, f4 _ _ _ _ _ rfl]
        rfl
    cases w with
    | mk k n s l m =>
      have g0 : ws[0]? = some (.v (.int .i64 k)) := by
        obtain ⟨L, M, xs, ys, e, _⟩ := f1
        injection e with e
        rw [e]; rfl
      have g2 : ws[2]? = some (str s) := by
        obtain ⟨L, M, xs, ys, e, _⟩ := f1
        injection e with e
        rw [e]; rfl
      have st := v_st (prim := tx1) f2 f1.fl
      by_cases k3 : k = 3
      · have hr : textR v key = .tup [str s, .v (.bool true)] := by
          unfold textR textG
          rw [hg]
          simp only [k3, if_true]
        rw [hr]
        have dk : decide (k = 3) = true := decide_eq_true k3
        refine pure_of_wk (call := noCall) (fn := Tryd.f44) (rs := [.tmp 4, .tmp 5]) tx1_ok noCall_ok (fns_cfg Tryd.func44 rfl) rfl rfl ?_
        intro env hl0 hargs
        have hn : env.length = 23 := hl0
        have h0 := hargs 0 _ rfl
        have h1 := hargs 1 _ rfl
        clear hargs hl0
        refine wkT_of ?_
        rw [fe_self hn]
        (try simp -dsimp (disch := omega) only [h0, h1, r2, r6, bxt_ro hb hfl, v_al, e0, cellsA, vp39 h5, ct_prim tx1_39, hbs, bare_s, q, st, Bool.not_true, Bool.not_false, gfp0, gfp2, mHv_blk, List.getElem?_cons_zero, vp3, mp9, g0, g2, dk, AS, avals, apairs, bareP, AV.bare, AV.bares, Nat.reduceEqDiff, Nat.reduceLT, Nat.reduceAdd, ↓reduceIte, reduceCtorEq, resA, resA1, resVal, Nat.reduceLeDiff, nb_cfg, Nat.reduceBEq, AX, Int.reduceLT, Int.reduceLE, Int.reduceEq, Int.reduceAdd, Int.reduceSub, Int.reduceMul, Int.reduceNeg, Int.reduceNe])
        exact ⟨5, rfl⟩
      · have hr : textR v key = .tup [str [], .v (.bool false)] := by
          unfold textR textG
          rw [hg]
          simp only [if_neg k3]
        rw [hr]
        have dk : decide (k = 3) = false := decide_eq_false k3
        refine pure_of_wk (call := noCall) (fn := Tryd.f44) (rs := [.tmp 4, .tmp 5]) tx1_ok noCall_ok (fns_cfg Tryd.func44 rfl) rfl rfl ?_
        intro env hl0 hargs
        have hn : env.length = 23 := hl0
        have h0 := hargs 0 _ rfl
        have h1 := hargs 1 _ rfl
        clear hargs hl0
        refine wkT_of ?_
        rw [fe_self hn]
        (try simp -dsimp (disch := omega) only [h0, h1, r2, r6, bxt_ro hb hfl, v_al, e0, cellsA, vp39 h5, ct_prim tx1_39, hbs, bare_s, q, st, Bool.not_true, Bool.not_false, gfp0, mHv_blk, List.getElem?_cons_zero, vp3, g0, dk, AS, avals, apairs, bareP, AV.bare, AV.bares, Nat.reduceEqDiff, Nat.reduceLT, Nat.reduceAdd, ↓reduceIte, reduceCtorEq, resA, resA1, resVal, Nat.reduceLeDiff, nb_cfg, Nat.reduceBEq, AX, Int.reduceLT, Int.reduceLE, Int.reduceEq, Int.reduceAdd, Int.reduceSub, Int.reduceMul, Int.reduceNeg, Int.reduceNe])
        exact ⟨5, rfl⟩
noncomputable def txQ := relP Pl.ok Pl.args Pl.text
theorem txQ_eq {p : Pl} (h : p.ok) : txQ p.args = some p.text := relP_eq (X := Pl.ok) (a := Pl.args) (r := Pl.text) (fun p q hp hq e => by
  obtain ⟨h1, h2, h3⟩ := pl_inj hp.1 hq.1 e
  unfold Pl.text
  rw [h1, h3]) p h
theorem txQ_ok : ∀ xs y, txQ xs = some y → PureOk (cfgP fun _ => none) 44 xs y := relP_ok (R := fun xs y => PureOk (cfgP fun _ => none) 44 xs y) fun p hp => pureOk_prim (textAt_ok p hp)
/-! ### Set -/
structure St where
  v : GV
  x : AV
  es : List E
  i : Nat
  key : List UInt8
  w : GV
  ys : List AV
structure St.ok (p : St) : Prop where
  f : FV p.v p.x
  s : p.v.sml
  r : p.v.rise
  m : memsA p.x = p.es.map enc
  i : idxG p.v p.key = some p.i
  l : p.es.length < 1073741824
  w : FV p.w (.agg p.ys)
def St.args (p : St) : List AV := [p.x, str p.key, .agg p.ys]
def St.new (p : St) : List E := p.es.set p.i (p.key, p.ys)
def St.res (p : St) : AV := keepR p.x p.new
def GV.setG (i : Nat) (key : List UInt8) (w : GV) : GV → GV
  | .mk k n s l m => .mk k n s l (m.set i (key, w))
theorem fms_set : ∀ {m : List (List UInt8 × GV)} {es : List E} {i : Nat} {p : List UInt8 × GV} {q : E}, FMs m (es.map enc) → FMp p (enc q) → FMs (m.set i p) ((es.set i q).map enc)
  | [], [], _, _, _, _, _ => rfl
  | [], e :: es, _, _, _, h, _ => by cases (show (e :: es).map enc = [] from h)
  | p :: r, [], _, _, _, h, _ => by obtain ⟨y, ys, e, _⟩ := h; cases e
  | p :: r, e :: es, 0, _, _, h, hp => by
    obtain ⟨y, ys, h0, h1, h2⟩ := h
    injection h0 with h3 h4
    subst h3 h4
    exact ⟨_, _, rfl, hp, h2⟩
  | p :: r, e :: es, i + 1, _, _, h, hp => by
    obtain ⟨y, ys, h0, h1, h2⟩ := h
    injection h0 with h3 h4
    subst h3 h4
    exact ⟨_, _, rfl, h1, fms_set h2 hp⟩
theorem St.facts {p : St} (h : p.ok) : ∃ n s l m L M, p.v = .mk 5 n s l m ∧ p.x = .agg [.v (.int .i64 5), .v (.int .i64 n), str s, L, M] ∧ elems M = some (p.es.map enc) ∧ FMs m (p.es.map enc) ∧ someSl M = true ∧ p.i < p.es.length ∧ (∃ cs, p.es[p.i]? = some (p.key, cs)) ∧ okL p.es ∧ (∀ q ∈ p.es, okT q) := by
  obtain ⟨v, x, es, i, key, w, ys⟩ := p
  obtain ⟨hf, hs, hr, hm, hi, hl, hw⟩ := h
  simp only at hf hs hr hm hi hl hw ⊢
  cases v with
  | mk k n s l m =>
    obtain ⟨k5, hil, ⟨w0, hw0⟩, _⟩ := idxG_some hi
    subst k5
    obtain ⟨L, M, xs, zs, rfl, hL, hM, k1, k2, b1, b2, f1, f2, sl, hl', hm', hv, hwm⟩ := hf
    have hys : zs = es.map enc := by simpa [memsA, hM] using hm
    subst hys
    obtain ⟨es', hes, ho, hT⟩ := fms_encs hwm
    obtain rfl := encs_inj hes
    have hel : es.length = m.length := by rw [← hwm.len, List.length_map]
    obtain ⟨e0, he0⟩ : ∃ e0, es[i]? = some e0 := ⟨es[i]'(by omega), List.getElem?_eq_getElem (by omega)⟩
    obtain ⟨y, hy, hfm⟩ := hwm.get hw0
    rw [List.getElem?_map, he0] at hy
    injection hy with hy
    subst hy
    have hk := fmp_key hfm
    have hsome : someSl M = true := by
      rcases k2 with rfl | ⟨h1, _⟩
      · injection hM with hM
        have : es = [] := by cases es with
          | nil => rfl
          | cons a b => cases hM
        rw [this] at he0
        cases he0
      · exact h1
    refine ⟨n, s, l, m, L, M, rfl, rfl, hM, hwm, hsome, by omega, ⟨e0.2, ?_⟩, ho, fun q hq => (hT q hq).1⟩
    rw [he0]
    congr 1
    exact Prod.ext hk.symm rfl
theorem St.res_fv {p : St} (h : p.ok) : FV (GV.setG p.i p.key p.w p.v) p.res := by
  obtain ⟨n, s, l, m, L, M, hv, hx, hM, hwm, hsome, hil, ⟨cs, hcs⟩, ho, hT⟩ := St.facts h
  have hf := h.f
  have hkl : p.key.length ≤ 9223372036854775807 := by
    have hw := hwm
    have hel : p.es.length = m.length := by rw [← hwm.len, List.length_map]
    obtain ⟨y, hy, hfm⟩ := hwm.get (List.getElem?_eq_getElem (show p.i < m.length by omega))
    rw [List.getElem?_map, hcs] at hy
    injection hy with hy
    subst hy
    obtain ⟨⟨k0, w0⟩, hmi⟩ : ∃ q, m[p.i]'(by omega) = q := ⟨_, rfl⟩
    rw [hmi] at hfm
    obtain ⟨zs, e, hb, _⟩ := hfm
    injection e with e
    injection e with e _
    have hk : p.key = k0 := str_inj e
    rw [hk]
    exact hb
  have hfm : FMp (p.key, p.w) (enc (p.key, p.ys)) := ⟨p.ys, rfl, hkl, h.w⟩
  have hset := fms_set (i := p.i) hwm hfm
  rw [hv, hx] at hf
  obtain ⟨L', M', xs, zs, e, hL, hM', k1, k2, b1, b2, f1, f2, sl, hl', hm', hvv, _⟩ := hf
  injection e with e
  injection e with _ e
  injection e with _ e
  injection e with _ e
  injection e with e1 e
  injection e with e2 _
  subst e1 e2
  have hr : p.res = .agg [.v (.int .i64 5), .v (.int .i64 n), str s, L, .ro (p.new.map enc)] := by
    unfold St.res
    rw [hx]
    simp only [keepR, hsome, if_true]
  rw [hr, hv]
  exact ⟨L, _, xs, _, rfl, hL, rfl, k1, .inr ⟨rfl, rfl⟩, b1, rfl, f1, rfl, sl, hl', by rw [List.length_set]; exact hm', hvv, hset⟩
end Go.Proofs.YtjejeijldllloaaDoor

/- Chapter 2: Set where the key is there: its walk. -/
namespace Go.Proofs.YtjejeijldllloaaDoor
open Go.AM
noncomputable def se1 : FuncId → Option (List AV → Option AV) := tab [(78, plQ)]
theorem se1_ok : (cfgP se1).Ok := cfg_ok (tab_ok ⟨prim_at Tryd.func78 (by kernel_rfl) rfl (plQ_ok), trivial⟩)
theorem se1_78 : (cfgP se1).prim 78 = some plQ := rfl
theorem o_st2 {prim : FuncId → Option (List AV → Option AV)} {b0 b1 : Blk} {es : List E} {i : Nat} {key : List UInt8} {cs ys : List AV} (hi : es[i]? = some (key, cs)) (hc5 : cs.length = 5) (hy5 : ys.length = 5) (hf : ys.all AV.flat = true) : storeA (cfgP prim) 39 2 0 i 1 (.agg ys) (nH [b0, b1, ⟨0, 6, es.map enc⟩]) = some (nH [b0, b1, ⟨0, 6, (es.set i (key, ys)).map enc⟩]) := by
  have hc : (cfgP prim).csz 39 = some 5 := by kernel_rfl
  have hb : blkAt (nH [b0, b1, ⟨0, 6, es.map enc⟩]) 2 0 = some ⟨0, 6, es.map enc⟩ := rfl
  have hg := HB_get hi
  have hs : setCells (enc (key, cs)) 1 (AV.agg ys).cells = some (enc (key, ys)) := by
    show (if 1 + ys.length ≤ (str key :: cs).length then some (AV.agg ((str key :: cs).take 1 ++ ys ++ (str key :: cs).drop (1 + ys.length))) else none) = _
    rw [if_pos (by rw [List.length_cons]; omega), List.drop_of_length_le (by rw [List.length_cons]; omega)]
    simp [enc]
  have hcd : some (AV.agg ys).cells.length = (cfgP prim).csz 39 ∧ (AV.agg ys).cells.all AV.flat = true := ⟨by rw [hc]; exact congrArg some hy5, hf⟩
  simp only [storeA, hb, hg]
  rw [if_pos hcd, hs]
  simp only [Option.map_some, nH, List.map_set]
  rfl
theorem clS_ok : CallsOk (cfgP se1) clT := calls_prim clT_ok
set_option maxHeartbeats 8000000 in
set_option maxRecDepth 100000 in
theorem set_ok (p : St) (hp : p.ok) : PureOk (cfgP se1) 40 p.args p.res := by
  obtain ⟨n, s, l, m, L, M, hv, hx, hM, hwm, hsome, hil, ⟨c0, hcs0⟩, ho, hT⟩ := St.facts hp
  have qp := plQ_eq (p := ⟨p.v, p.x, p.key⟩) ⟨hp.f, hp.s, hp.r⟩
  have hf := hp.f
  have hr := hp.r
  have hi := hp.i
  have hl := hp.l
  have hw := hp.w
  have hres : p.res = keepR p.x p.new := rfl
  obtain ⟨v, x, es, i, key, w, ys⟩ := p
  simp only at hv hx hM hwm hil hcs0 ho hT hf hr hi hl hw
  subst hv hx
  have hc5 := (ho _ (List.mem_of_getElem? hcs0)).1
  have hb := hf.bare
  have hfl0 := hf.fl
  have hfv := hf
  obtain ⟨L', M', xs, zs, e, hL, hM', k1, k2, b1, b2, f1, f2, sl, hl', hm', hvv, hww⟩ := hf
  injection e with e
  injection e with _ e
  injection e with _ e
  injection e with _ e
  injection e with e1 e
  injection e with e2 _
  subst e1 e2
  have hpl : plQ [.agg [.v (.int .i64 5), .v (.int .i64 n), str s, L, M], str key] = some (.tup [.v (.int .i64 (i : Int)), .v (.bool true)]) := by
    refine qp.trans (congrArg some ((if_pos rfl).trans ?_))
    rcases place_idx (k := 5) (n := n) (s := s) (l := l) rfl (hr rfl) key with ⟨h1, h2⟩ | ⟨h1, h2⟩
    · rw [hi] at h2
      injection h2 with h2
      show AV.tup [.v (.int .i64 (low (m.map Prod.fst) key : Int)), .v (.bool (hasK (m.map Prod.fst) key))] = _
      rw [h1, ← h2]
    · rw [hi] at h2
      cases h2
  obtain ⟨e0, es0, hes⟩ : ∃ e0 es0, es = e0 :: es0 := by
    cases es with
    | nil => simp at hil
    | cons a b => exact ⟨a, b, rfl⟩
  have hy5 := hw.l5
  have hyf := hw.fl
  have hyb := hw.bare
  have r3 : (cfgP se1).roBox 40 3 = false := rfl
  have r5 : (cfgP se1).roBox 40 5 = true := rfl
  have r6 : (cfgP se1).roBox 40 6 = false := rfl
  have hbs := hfv.bs
  obtain ⟨cs, hcs⟩ : ∃ cs : List AV, cs = [.v (.int .i64 5), .v (.int .i64 n), str s, L, M] := ⟨_, rfl⟩
  have l5 : cs.length = 5 := by rw [hcs]; rfl
  have g0 : cs[0]? = some (.v (.int .i64 5)) := by rw [hcs]; rfl
  have g4 : cs[4]? = some M := by rw [hcs]; rfl
  have hfl : cs.all AV.flat = true := by rw [hcs]; exact hfl0
  obtain ⟨n1, hn1⟩ : ∃ n1, es.length = n1 := ⟨_, rfl⟩
  have c1 : clT 72 [M] (nH [⟨0, 5, [.agg cs]⟩, ⟨0, 5, [z5]⟩]) = some (.ex 2 0 6 0 n1, nH [⟨0, 5, [.agg cs]⟩, ⟨0, 5, [z5]⟩, ⟨0, 6, es.map enc⟩]) := by
    have := clT_eq ⟨nH [⟨0, 5, [.agg cs]⟩, ⟨0, 5, [z5]⟩], M, e0, es0⟩ ⟨by rw [hM, hes], by rw [← hes]; exact ho, by show (e0 :: es0).length < _; rw [← hes]; omega⟩
    simp only [← hes, hn1] at this
    exact this
  obtain ⟨cs', hcs'⟩ : ∃ cs' : List AV, cs' = [.v (.int .i64 5), .v (.int .i64 n), str s, L, .ex 2 0 6 0 n1] := ⟨_, rfl⟩
  have s1 := o_st (prim := se1) (t := 37) (j := 4) (x := .ex 2 0 6 0 n1) (cs := cs) (cs' := cs') [⟨0, 5, [z5]⟩, ⟨0, 6, es.map enc⟩] (by kernel_rfl) rfl rfl (by omega) (by rw [hcs, hcs']; rfl)
  have l5' : cs'.length = 5 := by rw [hcs']; rfl
  have g4' : cs'[4]? = some (.ex 2 0 6 0 n1) := by rw [hcs']; rfl
  have hfl' : cs'.all AV.flat = true := by
    rw [hcs']
    simp only [List.all_cons, List.all_nil, f1]
    rfl
  have s2 := o_st2 (prim := se1) (b0 := ⟨0, 5, [.agg cs']⟩) (b1 := ⟨0, 5, [z5]⟩) hcs0 hc5 hy5 hyf
  have s3 := o_st1 (prim := se1) (b0 := ⟨0, 5, [.agg cs']⟩) [⟨0, 6, (es.set i (key, ys)).map enc⟩] l5' hfl'
  have mi := mix (prim := se1) (b := 2) (i := i) (len := n1) (k := .i64) (by omega)
  have hTn : ∀ q ∈ es.set i (key, ys), okT q := fun q hq => by
    rcases List.mem_or_eq_of_mem_set hq with h | h
    · exact hT q h
    · rw [h]; exact okT_of hw
  have hth : ∃ N, AV.thaw (nH [⟨0, 5, [.agg cs']⟩, ⟨0, 5, [.agg cs']⟩, ⟨0, 6, (es.set i (key, ys)).map enc⟩]) N (.agg cs') = some (keepR (.agg [.v (.int .i64 5), .v (.int .i64 n), str s, L, M]) (es.set i (key, ys))) := by
    obtain ⟨H, hH⟩ : ∃ H, nH [⟨0, 5, [.agg cs']⟩, ⟨0, 5, [.agg cs']⟩, ⟨0, 6, (es.set i (key, ys)).map enc⟩] = H := ⟨_, rfl⟩
    have hbk : blkAt H 2 0 = some ⟨0, 6, (es.set i (key, ys) ++ []).map enc⟩ := by rw [← hH, List.append_nil]; rfl
    have e1 : ∀ (x : Value) (j : Nat), AV.thaw H (j + 1) (.v x) = some (.v x) := fun _ _ => rfl
    have e2 : ∀ (x : List UInt8) (j : Nat), AV.thaw H (j + 1) (str x) = some (str x) := fun _ _ => rfl
    have hn2 : n1 = (es.set i (key, ys)).length := by rw [List.length_set, hn1]
    rw [hH, hcs', hn2]
    exact keepR_thaw hsome hbk hTn (fun j => e1 _ j) (fun j => e1 _ j) (fun j => e2 _ j) (fun j => thaw_sl k1 b1 H j)
  obtain ⟨N, hth⟩ := hth
  rw [hres]
  show PureOk (cfgP se1) 40 [.agg [.v (.int .i64 5), .v (.int .i64 n), str s, L, M], str key, .agg ys] (keepR (.agg [.v (.int .i64 5), .v (.int .i64 n), str s, L, M]) (es.set i (key, ys)))
  obtain ⟨R, hR⟩ : ∃ R, keepR (.agg [.v (.int .i64 5), .v (.int .i64 n), str s, L, M]) (es.set i (key, ys)) = R := ⟨_, rfl⟩
  rw [hR] at hth ⊢
  rw [← hcs] at hpl hbs hb ⊢
  clear hcs hcs' hres hR hTn hfv
  refine pure_of_wk (call := clT) (fn := Tryd.f40) (rs := [.cell 6 39]) se1_ok clS_ok (fns_cfg Tryd.func40 rfl) rfl rfl ?_
  intro env hl0 hargs
  have hn : env.length = 40 := hl0
  have h0 := hargs 0 _ rfl
  have h1 := hargs 1 _ rfl
  have h2 := hargs 2 _ rfl
  clear hargs hl0
  refine wkT_of ?_
  rw [fe_self hn]
  (try simp -dsimp (disch := omega) only [h0, h1, h2, r3, r5, r6, g39, bx_o l5 hfl, bxt_ro hyb hyf, o_al1, gfp0, gp4, vp3, vp37, o_blk, o_blk1, List.getElem?_cons_zero, cellsA, g0, g4, g4', vp39 l5, vp39 l5', vp39 hy5, ct_prim se1_78, hbs, bare_s, hpl, ct_own (C := cfgP se1) (f := 72) rfl rfl, c1, s1, mi, mf1p, s2, s3, Bool.not_true, AS, avals, apairs, bareP, AV.bare, AV.bares, Nat.reduceEqDiff, Nat.reduceLT, Nat.reduceAdd, ↓reduceIte, reduceCtorEq, resA, resA1, resVal, Nat.reduceLeDiff, nb_cfg, Nat.reduceBEq, AX, Int.reduceLT, Int.reduceLE, Int.reduceEq, Int.reduceAdd, Int.reduceSub, Int.reduceMul, Int.reduceNeg, Int.reduceNe])
  exact ⟨N, hth⟩
end Go.Proofs.YtjejeijldllloaaDoor

/- Chapter 13: the lists of what stays; Texts; awake. -/
namespace Go.Proofs.YtjejeijldllloaaDoor
open Go.AM
def kt0 : List UInt8 := [109, 46, 114, 111, 111, 109, 46, 109, 101, 109, 98, 101, 114]
def kl0 : List (List UInt8) := [[109, 101, 109, 98, 101, 114, 115, 104, 105, 112], [106, 111, 105, 110, 95, 97, 117, 116, 104, 111, 114, 105, 115, 101, 100, 95, 118, 105, 97, 95, 117, 115, 101, 114, 115, 95, 115, 101, 114, 118, 101, 114]]
def ka0 : List AV := kl0.map str
def kt1 : List UInt8 := [109, 46, 114, 111, 111, 109, 46, 99, 114, 101, 97, 116, 101]
def kl1 : List (List UInt8) := [[99, 114, 101, 97, 116, 111, 114]]
def ka1 : List AV := kl1.map str
def kt2 : List UInt8 := [109, 46, 114, 111, 111, 109, 46, 106, 111, 105, 110, 95, 114, 117, 108, 101, 115]
def kl2 : List (List UInt8) := [[106, 111, 105, 110, 95, 114, 117, 108, 101], [97, 108, 108, 111, 119]]
def ka2 : List AV := kl2.map str
def kt3 : List UInt8 := [109, 46, 114, 111, 111, 109, 46, 112, 111, 119, 101, 114, 95, 108, 101, 118, 101, 108, 115]
def kl3 : List (List UInt8) := [[98, 97, 110], [101, 118, 101, 110, 116, 115], [101, 118, 101, 110, 116, 115, 95, 100, 101, 102, 97, 117, 108, 116], [107, 105, 99, 107], [114, 101, 100, 97, 99, 116], [115, 116, 97, 116, 101, 95, 100, 101, 102, 97, 117, 108, 116], [117, 115, 101, 114, 115], [117, 115, 101, 114, 115, 95, 100, 101, 102, 97, 117, 108, 116]]
def ka3 : List AV := kl3.map str
def kt4 : List UInt8 := [109, 46, 114, 111, 111, 109, 46, 104, 105, 115, 116, 111, 114, 121, 95, 118, 105, 115, 105, 98, 105, 108, 105, 116, 121]
def kl4 : List (List UInt8) := [[104, 105, 115, 116, 111, 114, 121, 95, 118, 105, 115, 105, 98, 105, 108, 105, 116, 121]]
def ka4 : List AV := kl4.map str
/-- What stays of a content. -/
def kL (t : List UInt8) : List (List UInt8) := if t = kt0 then kl0 else if t = kt1 then kl1 else if t = kt2 then kl2 else if t = kt3 then kl3 else if t = kt4 then kl4 else []
def kA (t : List UInt8) : AV := if t = kt0 then .cl false ka0 else if t = kt1 then .cl false ka1 else if t = kt2 then .cl false ka2 else if t = kt3 then .cl false ka3 else if t = kt4 then .cl false ka4 else .v (.slice none 0 0)
theorem kA_tv (t : List UInt8) : TV (kL t) (kA t) := by
  unfold kL kA
  repeat' split
  all_goals exact ⟨rfl, rfl, by decide⟩
theorem kA_bare (t : List UInt8) : (kA t).bare = some (kA t) := (kA_tv t).b
section
variable {prim : FuncId → Option (List AV → Option AV)}
theorem kb0 : buildSliceA (cfgP prim) 23 2 [(0, str [109, 101, 109, 98, 101, 114, 115, 104, 105, 112]), (1, str [106, 111, 105, 110, 95, 97, 117, 116, 104, 111, 114, 105, 115, 101, 100, 95, 118, 105, 97, 95, 117, 115, 101, 114, 115, 95, 115, 101, 114, 118, 101, 114])] = some (.cl true ka0) := by kernel_rfl
theorem kb1 : buildSliceA (cfgP prim) 23 1 [(0, str [99, 114, 101, 97, 116, 111, 114])] = some (.cl true ka1) := by kernel_rfl
theorem kb2 : buildSliceA (cfgP prim) 23 2 [(0, str [106, 111, 105, 110, 95, 114, 117, 108, 101]), (1, str [97, 108, 108, 111, 119])] = some (.cl true ka2) := by kernel_rfl
theorem kb3 : buildSliceA (cfgP prim) 23 8 [(0, str [98, 97, 110]), (1, str [101, 118, 101, 110, 116, 115]), (2, str [101, 118, 101, 110, 116, 115, 95, 100, 101, 102, 97, 117, 108, 116]), (3, str [107, 105, 99, 107]), (4, str [114, 101, 100, 97, 99, 116]), (5, str [115, 116, 97, 116, 101, 95, 100, 101, 102, 97, 117, 108, 116]), (6, str [117, 115, 101, 114, 115]), (7, str [117, 115, 101, 114, 115, 95, 100, 101, 102, 97, 117, 108, 116])] = some (.cl true ka3) := by kernel_rfl
theorem kb4 : buildSliceA (cfgP prim) 23 1 [(0, str [104, 105, 115, 116, 111, 114, 121, 95, 118, 105, 115, 105, 98, 105, 108, 105, 116, 121])] = some (.cl true ka4) := by kernel_rfl
end
theorem ke0 : (AV.v (.string { data := #[109, 46, 114, 111, 111, 109, 46, 109, 101, 109, 98, 101, 114] })) = str kt0 := rfl
theorem ke1 : (AV.v (.string { data := #[109, 46, 114, 111, 111, 109, 46, 99, 114, 101, 97, 116, 101] })) = str kt1 := rfl
theorem ke2 : (AV.v (.string { data := #[109, 46, 114, 111, 111, 109, 46, 106, 111, 105, 110, 95, 114, 117, 108, 101, 115] })) = str kt2 := rfl
theorem ke3 : (AV.v (.string { data := #[109, 46, 114, 111, 111, 109, 46, 112, 111, 119, 101, 114, 95, 108, 101, 118, 101, 108, 115] })) = str kt3 := rfl
theorem ke4 : (AV.v (.string { data := #[109, 46, 114, 111, 111, 109, 46, 104, 105, 115, 116, 111, 114, 121, 95, 118, 105, 115, 105, 98, 105, 108, 105, 116, 121] })) = str kt4 := rfl
set_option maxHeartbeats 4000000 in
set_option maxRecDepth 100000 in
theorem keysK_ok (t : List UInt8) : PureOk (cfgP fun _ => none) 87 [str t] (kA t) := by
  by_cases e0 : t = kt0
  · have d0 : decide (t = [109, 46, 114, 111, 111, 109, 46, 109, 101, 109, 98, 101, 114]) = true := decide_eq_true e0
    have hr : kA t = .cl false ka0 := by unfold kA; rw [if_pos e0]
    rw [hr]
    refine pure_of_wk (call := noCall) (fn := Tryd.f87) (rs := [.tmp 2]) cokN noCall_ok (fns_cfg Tryd.func87 rfl) rfl rfl ?_
    intro env hl0 hargs
    have hn : env.length = 19 := hl0
    have h0 := hargs 0 _ rfl
    clear hargs hl0
    refine wkT_of ?_
    rw [fe_self hn]
    (try simp -dsimp (disch := omega) only [h0, ke0, d0, kb0, bare_s, AS, avals, apairs, bareP, AV.bare, AV.bares, Nat.reduceEqDiff, Nat.reduceLT, Nat.reduceAdd, ↓reduceIte, reduceCtorEq, resA, resA1, resVal, Nat.reduceLeDiff, nb_cfg, Nat.reduceBEq, AX, Int.reduceLT, Int.reduceLE, Int.reduceEq, Int.reduceAdd, Int.reduceSub, Int.reduceMul, Int.reduceNeg, Int.reduceNe])
    exact ⟨5, rfl⟩
  have d0 : decide (t = [109, 46, 114, 111, 111, 109, 46, 109, 101, 109, 98, 101, 114]) = false := decide_eq_false e0
  by_cases e1 : t = kt1
  · have d1 : decide (t = [109, 46, 114, 111, 111, 109, 46, 99, 114, 101, 97, 116, 101]) = true := decide_eq_true e1
    have hr : kA t = .cl false ka1 := by unfold kA; rw [if_neg e0, if_pos e1]
    rw [hr]
    refine pure_of_wk (call := noCall) (fn := Tryd.f87) (rs := [.tmp 2]) cokN noCall_ok (fns_cfg Tryd.func87 rfl) rfl rfl ?_
    intro env hl0 hargs
    have hn : env.length = 19 := hl0
    have h0 := hargs 0 _ rfl
    clear hargs hl0
    refine wkT_of ?_
    rw [fe_self hn]
    (try simp -dsimp (disch := omega) only [h0, ke0, d0, ke1, d1, kb1, bare_s, AS, avals, apairs, bareP, AV.bare, AV.bares, Nat.reduceEqDiff, Nat.reduceLT, Nat.reduceAdd, ↓reduceIte, reduceCtorEq, resA, resA1, resVal, Nat.reduceLeDiff, nb_cfg, Nat.reduceBEq, AX, Int.reduceLT, Int.reduceLE, Int.reduceEq, Int.reduceAdd, Int.reduceSub, Int.reduceMul, Int.reduceNeg, Int.reduceNe])
    exact ⟨5, rfl⟩
  have d1 : decide (t = [109, 46, 114, 111, 111, 109, 46, 99, 114, 101, 97, 116, 101]) = false := decide_eq_false e1
  by_cases e2 : t = kt2
  · have d2 : decide (t = [109, 46, 114, 111, 111, 109, 46, 106, 111, 105, 110, 95, 114, 117, 108, 101, 115]) = true := decide_eq_true e2
    have hr : kA t = .cl false ka2 := by unfold kA; rw [if_neg e0, if_neg e1, if_pos e2]
    rw [hr]
    refine pure_of_wk (call := noCall) (fn := Tryd.f87) (rs := [.tmp 2]) cokN noCall_ok (fns_cfg Tryd.func87 rfl) rfl rfl ?_
    intro env hl0 hargs
    have hn : env.length = 19 := hl0
    have h0 := hargs 0 _ rfl
    clear hargs hl0
    refine wkT_of ?_
    rw [fe_self hn]
    (try simp -dsimp (disch := omega) only [h0, ke0, d0, ke1, d1, ke2, d2, kb2, bare_s, AS, avals, apairs, bareP, AV.bare, AV.bares, Nat.reduceEqDiff, Nat.reduceLT, Nat.reduceAdd, ↓reduceIte, reduceCtorEq, resA, resA1, resVal, Nat.reduceLeDiff, nb_cfg, Nat.reduceBEq, AX, Int.reduceLT, Int.reduceLE, Int.reduceEq, Int.reduceAdd, Int.reduceSub, Int.reduceMul, Int.reduceNeg, Int.reduceNe])
    exact ⟨5, rfl⟩
  have d2 : decide (t = [109, 46, 114, 111, 111, 109, 46, 106, 111, 105, 110, 95, 114, 117, 108, 101, 115]) = false := decide_eq_false e2
  by_cases e3 : t = kt3
  · have d3 : decide (t = [109, 46, 114, 111, 111, 109, 46, 112, 111, 119, 101, 114, 95, 108, 101, 118, 101, 108, 115]) = true := decide_eq_true e3
    have hr : kA t = .cl false ka3 := by unfold kA; rw [if_neg e0, if_neg e1, if_neg e2, if_pos e3]
    rw [hr]
    refine pure_of_wk (call := noCall) (fn := Tryd.f87) (rs := [.tmp 2]) cokN noCall_ok (fns_cfg Tryd.func87 rfl) rfl rfl ?_
    intro env hl0 hargs
    have hn : env.length = 19 := hl0
    have h0 := hargs 0 _ rfl
    clear hargs hl0
    refine wkT_of ?_
    rw [fe_self hn]
    (try simp -dsimp (disch := omega) only [h0, ke0, d0, ke1, d1, ke2, d2, ke3, d3, kb3, bare_s, AS, avals, apairs, bareP, AV.bare, AV.bares, Nat.reduceEqDiff, Nat.reduceLT, Nat.reduceAdd, ↓reduceIte, reduceCtorEq, resA, resA1, resVal, Nat.reduceLeDiff, nb_cfg, Nat.reduceBEq, AX, Int.reduceLT, Int.reduceLE, Int.reduceEq, Int.reduceAdd, Int.reduceSub, Int.reduceMul, Int.reduceNeg, Int.reduceNe])
    exact ⟨5, rfl⟩
  have d3 : decide (t = [109, 46, 114, 111, 111, 109, 46, 112, 111, 119, 101, 114, 95, 108, 101, 118, 101, 108, 115]) = false := decide_eq_false e3
  by_cases e4 : t = kt4
  · have d4 : decide (t = [109, 46, 114, 111, 111, 109, 46, 104, 105, 115, 116, 111, 114, 121, 95, 118, 105, 115, 105, 98, 105, 108, 105, 116, 121]) = true := decide_eq_true e4
    have hr : kA t = .cl false ka4 := by unfold kA; rw [if_neg e0, if_neg e1, if_neg e2, if_neg e3, if_pos e4]
    rw [hr]
    refine pure_of_wk (call := noCall) (fn := Tryd.f87) (rs := [.tmp 2]) cokN noCall_ok (fns_cfg Tryd.func87 rfl) rfl rfl ?_
    intro env hl0 hargs
    have hn : env.length = 19 := hl0
    have h0 := hargs 0 _ rfl
    clear hargs hl0
    refine wkT_of ?_
    rw [fe_self hn]
    (try simp -dsimp (disch := omega) only [h0, ke0, d0, ke1, d1, ke2, d2, ke3, d3, ke4, d4, kb4, bare_s, AS, avals, apairs, bareP, AV.bare, AV.bares, Nat.reduceEqDiff, Nat.reduceLT, Nat.reduceAdd, ↓reduceIte, reduceCtorEq, resA, resA1, resVal, Nat.reduceLeDiff, nb_cfg, Nat.reduceBEq, AX, Int.reduceLT, Int.reduceLE, Int.reduceEq, Int.reduceAdd, Int.reduceSub, Int.reduceMul, Int.reduceNeg, Int.reduceNe])
    exact ⟨5, rfl⟩
  have d4 : decide (t = [109, 46, 114, 111, 111, 109, 46, 104, 105, 115, 116, 111, 114, 121, 95, 118, 105, 115, 105, 98, 105, 108, 105, 116, 121]) = false := decide_eq_false e4
  have hr : kA t = .v (.slice none 0 0) := by unfold kA; rw [if_neg e0, if_neg e1, if_neg e2, if_neg e3, if_neg e4]
  rw [hr]
  refine pure_of_wk (call := noCall) (fn := Tryd.f87) (rs := [.tmp 2]) cokN noCall_ok (fns_cfg Tryd.func87 rfl) rfl rfl ?_
  intro env hl0 hargs
  have hn : env.length = 19 := hl0
  have h0 := hargs 0 _ rfl
  clear hargs hl0
  refine wkT_of ?_
  rw [fe_self hn]
  (try simp -dsimp (disch := omega) only [h0, ke0, d0, ke1, d1, ke2, d2, ke3, d3, ke4, d4, AS, avals, apairs, bareP, AV.bare, AV.bares, Nat.reduceEqDiff, Nat.reduceLT, Nat.reduceAdd, ↓reduceIte, reduceCtorEq, resA, resA1, resVal, Nat.reduceLeDiff, nb_cfg, Nat.reduceBEq, AX, Int.reduceLT, Int.reduceLE, Int.reduceEq, Int.reduceAdd, Int.reduceSub, Int.reduceMul, Int.reduceNeg, Int.reduceNe])
  exact ⟨5, rfl⟩
noncomputable def kyQ := relP (fun _ : List UInt8 => True) (fun t => [str t]) kA
theorem kyQ_eq (t : List UInt8) : kyQ [str t] = some (kA t) := relP_eq (X := fun _ : List UInt8 => True) (a := fun t => [str t]) (r := kA) (fun p q _ _ e => by
  injection e with e _
  rw [str_inj e]) t trivial
theorem kyK_ok : ∀ xs y, kyQ xs = some y → PureOk (cfgP fun _ => none) 87 xs y := relP_ok (R := fun xs y => PureOk (cfgP fun _ => none) 87 xs y) fun t _ => keysK_ok t
noncomputable def ky1 : FuncId → Option (List AV → Option AV) := tab [(87, kyQ)]
theorem ky1_ok : (cfgP ky1).Ok := cfg_ok (tab_ok ⟨prim_at Tryd.func87 (by kernel_rfl) rfl (kyK_ok), trivial⟩)
theorem ky1_87 : (cfgP ky1).prim 87 = some kyQ := rfl
theorem keysP_ok (t : List UInt8) : PureOk (cfgP ky1) 57 [str t] (kA t) := by
  have q := kyQ_eq t
  have hk := kA_bare t
  have hth : ∃ n, AV.thaw {} n (kA t) = some (kA t) := by
    refine ⟨5, ?_⟩
    unfold kA
    repeat' split
    all_goals rfl
  refine pure_of_wk (call := noCall) (fn := Tryd.f57) (rs := [.tmp 2]) ky1_ok noCall_ok (fns_cfg Tryd.func57 rfl) rfl rfl ?_
  intro env hl0 hargs
  have hn : env.length = 7 := hl0
  have h0 := hargs 0 _ rfl
  clear hargs hl0
  refine wkT_of ?_
  rw [fe_self hn]
  (try simp -dsimp (disch := omega) only [h0, ct_prim ky1_87, bare_s, q, AS, avals, apairs, bareP, AV.bare, AV.bares, Nat.reduceEqDiff, Nat.reduceLT, Nat.reduceAdd, ↓reduceIte, reduceCtorEq, resA, resA1, resVal, Nat.reduceLeDiff, nb_cfg, Nat.reduceBEq, AX, Int.reduceLT, Int.reduceLE, Int.reduceEq, Int.reduceAdd, Int.reduceSub, Int.reduceMul, Int.reduceNeg, Int.reduceNe])
  exact hth
theorem rawake_run : (callA (cfgP aw0) 5000 53 [] {}).map (·.1) = some (.v (.bool true)) := by kernel_rfl
theorem rawake_ok : ∀ xs r, vawakeP xs = some r → PureOk (cfgP aw0) 53 xs r := by
  intro xs r h
  unfold vawakeP at h
  split at h
  · injection h with h; subst h
    obtain ⟨⟨x, H⟩, hr, hx⟩ := Option.map_eq_some_iff.1 rawake_run
    cases hx
    exact pureOk_of (n := 1) (((callA_ok aw0_ok 5000).ok _ _ _ _ _ hr).2) rfl
  · cases h
end Go.Proofs.YtjejeijldllloaaDoor

/- Chapter 13: few members; the document's Set. -/
namespace Go.Proofs.YtjejeijldllloaaDoor
open Go.AM
def GV.mems : GV → List (List UInt8 × GV)
  | .mk _ _ _ _ m => m
/-- Few members, here and one level down. -/
def few2 (v : GV) : Prop := v.mems.length ≤ 1000000 ∧ ∀ p ∈ v.mems, p.2.mems.length ≤ 1000000
/-- One more of a key that is there: in its place. -/
theorem lastK_set : ∀ {es : List E} {i : Nat} {p : E} {c : List AV} (key : List UInt8), Str es → es[i]? = some (p.1, c) → lastK key (es.set i p) = if p.1 = key then some p else lastK key es
  | [], _, _, _, _, _, h => by cases h
  | x :: r, 0, p, c, key, hs, h => by
    obtain ⟨h1, h2⟩ := List.pairwise_cons.1 hs
    injection h with h
    have hx : x.1 = p.1 := by rw [h]
    rw [List.set_cons_zero, lastK_cons, lastK_cons, hx]
    by_cases hk : p.1 = key
    · have hn : lastK key r = none := str_last_none fun z hz e => by
        have := h1 z hz
        rw [e, hx, hk, bl_irrefl] at this
        cases this
      rw [if_pos hk, if_pos hk, hn]
      rfl
    · rw [if_neg hk, if_neg hk, if_neg hk]
  | x :: r, i + 1, p, c, key, hs, h => by
    obtain ⟨h1, h2⟩ := List.pairwise_cons.1 hs
    have h' : r[i]? = some (p.1, c) := h
    have ih := lastK_set key h2 h'
    rw [List.set_cons_succ, lastK_cons, lastK_cons, ih]
    by_cases hk : p.1 = key
    · have hx : x.1 ≠ key := by
        intro e
        have := h1 _ (List.mem_of_getElem? h')
        rw [e, hk, bl_irrefl] at this
        cases this
      rw [if_pos hk, if_neg hx, if_pos hk]
    · rw [if_neg hk, if_neg hk]
theorem set_str : ∀ {es : List E} {i : Nat} {p : E} {c : List AV}, Str es → es[i]? = some (p.1, c) → Str (es.set i p) := by
  intro es i p c hs hi
  have h1 : (es.set i p).map Prod.fst = es.map Prod.fst := by
    rw [List.map_set]
    refine List.ext_getElem? fun j => ?_
    rw [List.getElem?_set]
    by_cases hj : i = j
    · subst hj
      have hl := (List.getElem?_eq_some_iff.1 hi).1
      rw [if_pos rfl, List.length_map, if_pos hl, List.getElem?_map, hi]
      rfl
    · rw [if_neg hj]
  refine (List.pairwise_map (f := Prod.fst) (R := fun a b => bl a b = true)).1 ?_
  rw [h1]
  exact (List.pairwise_map (f := Prod.fst) (R := fun a b => bl a b = true)).2 hs
theorem mapL_set {es : List E} {i : Nat} {p : E} {c : List AV} (hs : Str es) (hi : es[i]? = some (p.1, c)) : mapL (es ++ [p]) = es.set i p := by
  refine (mapL_uniq (set_str hs hi) fun key => ?_).symm
  rw [lastK_set key hs hi, lastK_snoc]
/-! ### The document's Set -/
structure Sr where
  v : GV
  x : AV
  es : List E
  key : List UInt8
  w : GV
  ys : List AV
structure Sr.ok (p : Sr) : Prop where
  f : FV p.v p.x
  k : p.v.kind = 5
  m : memsA p.x = p.es.map enc
  l : p.es.length < 10000000
  w : FV p.w (.agg p.ys)
  n : 0 < p.es.length
  kl : p.key.length ≤ 9223372036854775807
def Sr.args (p : Sr) : List AV := [p.x, str p.key, .agg p.ys]
def Sr.res (p : Sr) : AV := mapV (mapL (p.es ++ [(p.key, p.ys)]))
noncomputable def sr1 : FuncId → Option (List AV → Option AV) := tab [(36, mapT)]
theorem sr1_ok : (cfgP sr1).Ok := cfg_ok (tab_ok ⟨prim_at Tryd.func36 (by kernel_rfl) rfl (mapTr_ok), trivial⟩)
theorem sr1_36 : (cfgP sr1).prim 36 = some mapT := rfl
theorem build_mem {prim : FuncId → Option (List AV → Option AV)} {k : List UInt8} {ys : List AV} (h5 : ys.length = 5) (hf : ys.all AV.flat = true) : buildA (cfgP prim) 48 [(0, str k), (1, .agg ys)] = some (enc (k, ys)) := by
  have hu : ∃ fields, (cfgP prim).und 48 = some (.struct fields) ∧ placesA (cfgP prim) fields.toList = some [(0, 1), (1, 5)] := by
    have hh : (match (cfgP prim).und 48 with | some (.struct fields) => placesA (cfgP prim) fields.toList | _ => none) = some [(0, 1), (1, 5)] := by kernel_rfl
    split at hh
    · rename_i f e
      exact ⟨f, e, hh⟩
    · cases hh
  obtain ⟨fields, hu, hp⟩ := hu
  have hz : zeroA (cfgP prim) 48 = some z6 := by kernel_rfl
  have hz6 : z6.cells = [str [], .v (.int .i64 0), .v (.int .i64 0), str [], .v (.slice none 0 0), .v (.slice none 0 0)] := rfl
  have hsf : (str k).flat = true := rfl
  unfold buildA
  simp only [hu, hz, hp, fillA, List.getElem?_cons_succ, List.getElem?_cons_zero, cellsS, cellsA, hz6, h5, hf, hsf, List.length_cons, List.length_nil, List.all_cons, List.all_nil, Bool.and_self, List.take_zero, List.nil_append, List.take, List.drop, List.cons_append, List.append_nil]
  simp [h5, enc]
end Go.Proofs.YtjejeijldllloaaDoor

/- Chapter 13: Redact. -/
namespace Go.Proofs.YtjejeijldllloaaDoor
open Go.AM
def ctK : List UInt8 := [99, 111, 110, 116, 101, 110, 116]
section
variable {prim : FuncId → Option (List AV → Option AV)}
end
end Go.Proofs.YtjejeijldllloaaDoor

/- Chapter 13: the document's Redact. -/
namespace Go.Proofs.YtjejeijldllloaaDoor
open Go.AM
/-- What the document's Set makes of a map that may be, at a key that is there. -/
theorem Sr.res_fv {m : List (List UInt8 × GV)} {x : AV} {es : List E} {key : List UInt8} {w : GV} {ys : List AV} {i : Nat} (hw : FMs m (es.map enc)) (hr : m.Pairwise fun a b => bl a.1 b.1 = true) (hi : idxG (G5 m) key = some i) (hkl : key.length ≤ 9223372036854775807) (hf : FV w (.agg ys)) (hl : m.length ≤ 1000000) :
    FV (GV.setG i key w (G5 m)) (Sr.res ⟨G5 m, x, es, key, w, ys⟩) := by
  have hks := fms_keys hw
  have hstr : Str es := str_keys (by rw [hks]; exact List.pairwise_map.2 hr)
  have hel : es.length = m.length := by rw [← hw.len, List.length_map]
  obtain ⟨_, hil, ⟨w0, hw0⟩, _⟩ := idxG_some hi
  obtain ⟨e0, he0⟩ : ∃ e0, es[i]? = some e0 := ⟨es[i]'(by omega), List.getElem?_eq_getElem (by omega)⟩
  obtain ⟨y, hy, hfm⟩ := hw.get hw0
  rw [List.getElem?_map, he0] at hy
  injection hy with hy
  subst hy
  have hk := fmp_key hfm
  have hi' : es[i]? = some ((key, ys).1, e0.2) := by
    rw [he0]
    congr 1
    exact Prod.ext hk.symm rfl
  have hms := mapL_set (p := (key, ys)) hstr hi'
  show FV (GV.setG i key w (G5 m)) (mapV (mapL (es ++ [(key, ys)])))
  rw [hms]
  have hfm2 : FMp (key, w) (enc (key, ys)) := ⟨ys, rfl, hkl, hf⟩
  have hset := fms_set (i := i) hw hfm2
  exact mapV_G5 hset (by rw [List.length_set]; omega)
end Go.Proofs.YtjejeijldllloaaDoor

/- RedactSays: what stays is as the document says. -/
namespace Go.Proofs.YtjejeijldllloaaDoor
open Go.AM
def RdX (p : GV × AV) : Prop := FV p.1 p.2 ∧ p.1.sml ∧ few2 p.1
theorem RdX.uniq {p q : GV × AV} (hp : RdX p) (hq : RdX q) (e : [p.2] = [q.2]) : p = q := by
  injection e with e _
  have h1 := hp.1.rv
  rw [e] at h1
  exact Prod.ext (RV.uniq h1 hq.1.rv) e
end Go.Proofs.YtjejeijldllloaaDoor
