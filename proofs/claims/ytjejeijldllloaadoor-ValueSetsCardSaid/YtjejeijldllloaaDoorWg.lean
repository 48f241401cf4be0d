/- Contracts of functions, and plain facts about what they compute. -/
import Derived.Test.YtjejeijldllloaaDoorWf
import Derived.Test.YtjejeijldllloaaDoorAmD
set_option linter.unusedSimpArgs false
set_option linter.unusedVariables false
/- Chapter 2: Keep, Drop; the document's Keep. -/
namespace Go.Proofs.YtjejeijldllloaaDoor
open Go.AM
theorem Kp.inj {p q : Kp} (hp : p.ok) (hq : q.ok) (hx : p.x = q.x) (hk : p.kd = q.kd) (hT : p.T = q.T) : p.res = q.res := by
  have h1 := hp.f.rv
  rw [hx] at h1
  have hv := RV.uniq h1 hq.f.rv
  have hm := hp.m
  rw [hx, hq.m] at hm
  have he := encs_inj hm
  have ht := hp.t
  rw [hT] at ht
  have hks := ht.inj hq.t
  unfold Kp.res Kp.stay
  rw [hx, hv, hk, hks, he]
noncomputable def wtQ2 := relP Kp.ok Kp.args Kp.res
theorem wtQ2_eq {p : Kp} (h : p.ok) : wtQ2 p.args = some p.res := relP_eq (X := Kp.ok) (a := Kp.args) (r := Kp.res) (fun p q hp hq e => by
  injection e with e1 e
  injection e with e2 _
  obtain ⟨h1, h2⟩ := fnKD_inj e2
  exact Kp.inj hp hq e1 h1 h2) p h
theorem wtQ2_ok : ∀ xs y, wtQ2 xs = some y → PureOk (cfgP fun _ => none) 80 xs y := relP_ok (R := fun xs y => PureOk (cfgP fun _ => none) 80 xs y) fun p hp => pureOk_prim (without_ok p hp)
noncomputable def kp1 : FuncId → Option (List AV → Option AV) := tab [(80, wtQ2)]
theorem kp1_ok : (cfgP kp1).Ok := cfg_ok (tab_ok ⟨prim_at Tryd.func80 (by kernel_rfl) rfl (wtQ2_ok), trivial⟩)
theorem kp1_80 : (cfgP kp1).prim 80 = some wtQ2 := rfl
def Kp.args3 (p : Kp) : List AV := [p.x, p.T]
set_option maxHeartbeats 4000000 in
set_option maxRecDepth 100000 in
theorem keep_ok (p : Kp) (hp : p.ok) (hk : p.kd = true) : PureOk (cfgP kp1) 42 p.args3 p.res := by
  have q := wtQ2_eq hp
  obtain ⟨rs, hrs, hr5, hrb, hrf⟩ := (Kp.res_fv hp).shape
  have hth := fun H n => thaw_val (cs := rs) (by rw [← hrs]; exact Kp.res_fv hp) H n
  obtain ⟨v, x, es, kd, ks, T⟩ := p
  obtain ⟨hf, hs, hm, ht, hl⟩ := hp
  simp only at hf hs hm ht hl hk
  subst hk
  have hb := hf.bare
  obtain ⟨cs, rfl, h5, hbs, hfl⟩ := hf.shape
  have tb := ht.b
  obtain ⟨tc, tf⟩ := cells_el ht.el
  have tfl : T.cells.all AV.flat = true := by rw [tc, List.all_cons, tf]; rfl
  have r2 : (cfgP kp1).roBox 42 2 = true := rfl
  have r3 : (cfgP kp1).roBox 42 3 = true := rfl
  have r4 : (cfgP kp1).roBox 42 4 = false := rfl
  show PureOk (cfgP kp1) 42 [.agg cs, T] (Kp.res ⟨v, .agg cs, es, true, ks, T⟩)
  obtain ⟨R, hR⟩ : ∃ R, Kp.res ⟨v, .agg cs, es, true, ks, T⟩ = R := ⟨_, rfl⟩
  rw [hR] at q hrs ⊢
  subst hrs
  replace q : wtQ2 [.agg cs, .fn (.func 83) [] [.rp T 0]] = some (.agg rs) := q
  have hfb : (AV.fn (.func 83) [] [.rp T 0]).bare = some (.fn (.func 83) [] [.rp T 0]) := rfl
  have st := v_st (prim := kp1) hr5 hrf
  refine pure_of_wk (call := noCall) (fn := Tryd.f42) (rs := [.cell 4 39]) kp1_ok noCall_ok (fns_cfg Tryd.func42 rfl) rfl rfl ?_
  intro env hl0 hargs
  have hn : env.length = 8 := hl0
  have h0 := hargs 0 _ rfl
  have h1 := hargs 1 _ rfl
  clear hargs hl0
  refine wkT_of ?_
  rw [fe_self hn]
  (try simp -dsimp (disch := omega) only [h0, h1, r2, r3, r4, bxt_ro hb hfl, bxt_ro tb tfl, v_al, cellsA, vp39 h5, hbs, hfb, ct_prim kp1_80, q, st, mHv_blk, List.getElem?_cons_zero, vp39 hr5, AS, avals, apairs, bareP, AV.bare, AV.bares, Nat.reduceEqDiff, Nat.reduceLT, Nat.reduceAdd, ↓reduceIte, reduceCtorEq, resA, resA1, resVal, Nat.reduceLeDiff, nb_cfg, Nat.reduceBEq, AX, Int.reduceLT, Int.reduceLE, Int.reduceEq, Int.reduceAdd, Int.reduceSub, Int.reduceMul, Int.reduceNeg, Int.reduceNe])
  exact ⟨20, hth _ 12⟩
set_option maxHeartbeats 4000000 in
set_option maxRecDepth 100000 in
theorem drop_ok (p : Kp) (hp : p.ok) (hk : p.kd = false) : PureOk (cfgP kp1) 41 p.args3 p.res := by
  have q := wtQ2_eq hp
  obtain ⟨rs, hrs, hr5, hrb, hrf⟩ := (Kp.res_fv hp).shape
  have hth := fun H n => thaw_val (cs := rs) (by rw [← hrs]; exact Kp.res_fv hp) H n
  obtain ⟨v, x, es, kd, ks, T⟩ := p
  obtain ⟨hf, hs, hm, ht, hl⟩ := hp
  simp only at hf hs hm ht hl hk
  subst hk
  have hb := hf.bare
  obtain ⟨cs, rfl, h5, hbs, hfl⟩ := hf.shape
  have tb := ht.b
  obtain ⟨tc, tf⟩ := cells_el ht.el
  have tfl : T.cells.all AV.flat = true := by rw [tc, List.all_cons, tf]; rfl
  have r2 : (cfgP kp1).roBox 41 2 = true := rfl
  have r3 : (cfgP kp1).roBox 41 3 = true := rfl
  have r4 : (cfgP kp1).roBox 41 4 = false := rfl
  show PureOk (cfgP kp1) 41 [.agg cs, T] (Kp.res ⟨v, .agg cs, es, false, ks, T⟩)
  obtain ⟨R, hR⟩ : ∃ R, Kp.res ⟨v, .agg cs, es, false, ks, T⟩ = R := ⟨_, rfl⟩
  rw [hR] at q hrs ⊢
  subst hrs
  replace q : wtQ2 [.agg cs, .fn (.func 81) [] [.rp T 0]] = some (.agg rs) := q
  have hfb : (AV.fn (.func 81) [] [.rp T 0]).bare = some (.fn (.func 81) [] [.rp T 0]) := rfl
  have st := v_st (prim := kp1) hr5 hrf
  refine pure_of_wk (call := noCall) (fn := Tryd.f41) (rs := [.cell 4 39]) kp1_ok noCall_ok (fns_cfg Tryd.func41 rfl) rfl rfl ?_
  intro env hl0 hargs
  have hn : env.length = 8 := hl0
  have h0 := hargs 0 _ rfl
  have h1 := hargs 1 _ rfl
  clear hargs hl0
  refine wkT_of ?_
  rw [fe_self hn]
  (try simp -dsimp (disch := omega) only [h0, h1, r2, r3, r4, bxt_ro hb hfl, bxt_ro tb tfl, v_al, cellsA, vp39 h5, hbs, hfb, ct_prim kp1_80, q, st, mHv_blk, List.getElem?_cons_zero, vp39 hr5, AS, avals, apairs, bareP, AV.bare, AV.bares, Nat.reduceEqDiff, Nat.reduceLT, Nat.reduceAdd, ↓reduceIte, reduceCtorEq, resA, resA1, resVal, Nat.reduceLeDiff, nb_cfg, Nat.reduceBEq, AX, Int.reduceLT, Int.reduceLE, Int.reduceEq, Int.reduceAdd, Int.reduceSub, Int.reduceMul, Int.reduceNeg, Int.reduceNe])
  exact ⟨20, hth _ 12⟩
noncomputable def kpQ (b : Bool) := relP (fun p : Kp => p.ok ∧ p.kd = b) Kp.args3 Kp.res
theorem kpQ_eq {b : Bool} {p : Kp} (h : p.ok) (hb : p.kd = b) : kpQ b p.args3 = some p.res := relP_eq (X := fun p : Kp => p.ok ∧ p.kd = b) (a := Kp.args3) (r := Kp.res) (fun p q hp hq e => by
  injection e with e1 e
  injection e with e2 _
  exact Kp.inj hp.1 hq.1 e1 (by rw [hp.2, hq.2]) e2) p ⟨h, hb⟩
theorem keepQ_ok : ∀ xs y, kpQ true xs = some y → PureOk (cfgP fun _ => none) 42 xs y := relP_ok (R := fun xs y => PureOk (cfgP fun _ => none) 42 xs y) fun p hp => pureOk_prim (keep_ok p hp.1 hp.2)
theorem dropQ_ok : ∀ xs y, kpQ false xs = some y → PureOk (cfgP fun _ => none) 41 xs y := relP_ok (R := fun xs y => PureOk (cfgP fun _ => none) 41 xs y) fun p hp => pureOk_prim (drop_ok p hp.1 hp.2)
/-! ### The document's -/
end Go.Proofs.YtjejeijldllloaaDoor

/- Chapter 2: TextAt; Set where the key is there. -/
namespace Go.Proofs.YtjejeijldllloaaDoor
open Go.AM
/-! ### Set -/
structure St where
  v : GV
  x : AV
  es : List E
  i : Nat
  key : List UInt8
  w : GV
  ys : List AV
structure St.ok (p : St) : Prop where
  f : FV p.v p.x
  s : p.v.sml
  r : p.v.rise
  m : memsA p.x = p.es.map enc
  i : idxG p.v p.key = some p.i
  l : p.es.length < 1073741824
  w : FV p.w (.agg p.ys)
def St.args (p : St) : List AV := [p.x, str p.key, .agg p.ys]
def St.new (p : St) : List E := p.es.set p.i (p.key, p.ys)
def St.res (p : St) : AV := keepR p.x p.new
def GV.setG (i : Nat) (key : List UInt8) (w : GV) : GV → GV
  | .mk k n s l m => .mk k n s l (m.set i (key, w))
theorem fms_set : ∀ {m : List (List UInt8 × GV)} {es : List E} {i : Nat} {p : List UInt8 × GV} {q : E}, FMs m (es.map enc) → FMp p (enc q) → FMs (m.set i p) ((es.set i q).map enc)
  | [], [], _, _, _, _, _ => rfl
  | [], e :: es, _, _, _, h, _ => by cases (show (e :: es).map enc = [] from h)
  | p :: r, [], _, _, _, h, _ => by obtain ⟨y, ys, e, _⟩ := h; cases e
  | p :: r, e :: es, 0, _, _, h, hp => by
    obtain ⟨y, ys, h0, h1, h2⟩ := h
    injection h0 with h3 h4
    subst h3 h4
    exact ⟨_, _, rfl, hp, h2⟩
  | p :: r, e :: es, i + 1, _, _, h, hp => by
    obtain ⟨y, ys, h0, h1, h2⟩ := h
    injection h0 with h3 h4
    subst h3 h4
    exact ⟨_, _, rfl, h1, fms_set h2 hp⟩
theorem St.facts {p : St} (h : p.ok) : ∃ n s l m L M, p.v = .mk 5 n s l m ∧ p.x = .agg [.v (.int .i64 5), .v (.int .i64 n), str s, L, M] ∧ elems M = some (p.es.map enc) ∧ FMs m (p.es.map enc) ∧ someSl M = true ∧ p.i < p.es.length ∧ (∃ cs, p.es[p.i]? = some (p.key, cs)) ∧ okL p.es ∧ (∀ q ∈ p.es, okT q) := by
  obtain ⟨v, x, es, i, key, w, ys⟩ := p
  obtain ⟨hf, hs, hr, hm, hi, hl, hw⟩ := h
  simp only at hf hs hr hm hi hl hw ⊢
  cases v with
  | mk k n s l m =>
    obtain ⟨k5, hil, ⟨w0, hw0⟩, _⟩ := idxG_some hi
    subst k5
    obtain ⟨L, M, xs, zs, rfl, hL, hM, k1, k2, b1, b2, f1, f2, sl, hl', hm', hv, hwm⟩ := hf
    have hys : zs = es.map enc := by simpa [memsA, hM] using hm
    subst hys
    obtain ⟨es', hes, ho, hT⟩ := fms_encs hwm
    obtain rfl := encs_inj hes
    have hel : es.length = m.length := by rw [← hwm.len, List.length_map]
    obtain ⟨e0, he0⟩ : ∃ e0, es[i]? = some e0 := ⟨es[i]'(by omega), List.getElem?_eq_getElem (by omega)⟩
    obtain ⟨y, hy, hfm⟩ := hwm.get hw0
    rw [List.getElem?_map, he0] at hy
    injection hy with hy
    subst hy
    have hk := fmp_key hfm
    have hsome : someSl M = true := by
      rcases k2 with rfl | ⟨h1, _⟩
      · injection hM with hM
        have : es = [] := by cases es with
          | nil => rfl
          | cons a b => cases hM
        rw [this] at he0
        cases he0
      · exact h1
    refine ⟨n, s, l, m, L, M, rfl, rfl, hM, hwm, hsome, by omega, ⟨e0.2, ?_⟩, ho, fun q hq => (hT q hq).1⟩
    rw [he0]
    congr 1
    exact Prod.ext hk.symm rfl
theorem St.res_fv {p : St} (h : p.ok) : FV (GV.setG p.i p.key p.w p.v) p.res := by
  obtain ⟨n, s, l, m, L, M, hv, hx, hM, hwm, hsome, hil, ⟨cs, hcs⟩, ho, hT⟩ := St.facts h
  have hf := h.f
  have hkl : p.key.length ≤ 9223372036854775807 := by
    have hw := hwm
    have hel : p.es.length = m.length := by rw [← hwm.len, List.length_map]
    obtain ⟨y, hy, hfm⟩ := hwm.get (List.getElem?_eq_getElem (show p.i < m.length by omega))
    rw [List.getElem?_map, hcs] at hy
    injection hy with hy
    subst hy
    obtain ⟨⟨k0, w0⟩, hmi⟩ : ∃ q, m[p.i]'(by omega) = q := ⟨_, rfl⟩
    rw [hmi] at hfm
    obtain ⟨zs, e, hb, _⟩ := hfm
    injection e with e
    injection e with e _
    have hk : p.key = k0 := str_inj e
    rw [hk]
    exact hb
  have hfm : FMp (p.key, p.w) (enc (p.key, p.ys)) := ⟨p.ys, rfl, hkl, h.w⟩
  have hset := fms_set (i := p.i) hwm hfm
  rw [hv, hx] at hf
  obtain ⟨L', M', xs, zs, e, hL, hM', k1, k2, b1, b2, f1, f2, sl, hl', hm', hvv, _⟩ := hf
  injection e with e
  injection e with _ e
  injection e with _ e
  injection e with _ e
  injection e with e1 e
  injection e with e2 _
  subst e1 e2
  have hr : p.res = .agg [.v (.int .i64 5), .v (.int .i64 n), str s, L, .ro (p.new.map enc)] := by
    unfold St.res
    rw [hx]
    simp only [keepR, hsome, if_true]
  rw [hr, hv]
  exact ⟨L, _, xs, _, rfl, hL, rfl, k1, .inr ⟨rfl, rfl⟩, b1, rfl, f1, rfl, sl, hl', by rw [List.length_set]; exact hm', hvv, hset⟩
end Go.Proofs.YtjejeijldllloaaDoor

/- Chapter 2: Set where the key is there: its walk. -/
namespace Go.Proofs.YtjejeijldllloaaDoor
open Go.AM
noncomputable def se1 : FuncId → Option (List AV → Option AV) := tab [(78, plQ)]
theorem se1_ok : (cfgP se1).Ok := cfg_ok (tab_ok ⟨prim_at Tryd.func78 (by kernel_rfl) rfl (plQ_ok), trivial⟩)
theorem se1_78 : (cfgP se1).prim 78 = some plQ := rfl
theorem o_st2 {prim : FuncId → Option (List AV → Option AV)} {b0 b1 : Blk} {es : List E} {i : Nat} {key : List UInt8} {cs ys : List AV} (hi : es[i]? = some (key, cs)) (hc5 : cs.length = 5) (hy5 : ys.length = 5) (hf : ys.all AV.flat = true) : storeA (cfgP prim) 39 2 0 i 1 (.agg ys) (nH [b0, b1, ⟨0, 6, es.map enc⟩]) = some (nH [b0, b1, ⟨0, 6, (es.set i (key, ys)).map enc⟩]) := by
  have hc : (cfgP prim).csz 39 = some 5 := by kernel_rfl
  have hb : blkAt (nH [b0, b1, ⟨0, 6, es.map enc⟩]) 2 0 = some ⟨0, 6, es.map enc⟩ := rfl
  have hg := HB_get hi
  have hs : setCells (enc (key, cs)) 1 (AV.agg ys).cells = some (enc (key, ys)) := by
    show (if 1 + ys.length ≤ (str key :: cs).length then some (AV.agg ((str key :: cs).take 1 ++ ys ++ (str key :: cs).drop (1 + ys.length))) else none) = _
    rw [if_pos (by rw [List.length_cons]; omega), List.drop_of_length_le (by rw [List.length_cons]; omega)]
    simp [enc]
  have hcd : some (AV.agg ys).cells.length = (cfgP prim).csz 39 ∧ (AV.agg ys).cells.all AV.flat = true := ⟨by rw [hc]; exact congrArg some hy5, hf⟩
  simp only [storeA, hb, hg]
  rw [if_pos hcd, hs]
  simp only [Option.map_some, nH, List.map_set]
  rfl
theorem clS_ok : CallsOk (cfgP se1) clT := calls_prim clT_ok
set_option maxHeartbeats 8000000 in
set_option maxRecDepth 100000 in
theorem set_ok (p : St) (hp : p.ok) : PureOk (cfgP se1) 40 p.args p.res := by
  obtain ⟨n, s, l, m, L, M, hv, hx, hM, hwm, hsome, hil, ⟨c0, hcs0⟩, ho, hT⟩ := St.facts hp
  have qp := plQ_eq (p := ⟨p.v, p.x, p.key⟩) ⟨hp.f, hp.s, hp.r⟩
  have hf := hp.f
  have hr := hp.r
  have hi := hp.i
  have hl := hp.l
  have hw := hp.w
  have hres : p.res = keepR p.x p.new := rfl
  obtain ⟨v, x, es, i, key, w, ys⟩ := p
  simp only at hv hx hM hwm hil hcs0 ho hT hf hr hi hl hw
  subst hv hx
  have hc5 := (ho _ (List.mem_of_getElem? hcs0)).1
  have hb := hf.bare
  have hfl0 := hf.fl
  have hfv := hf
  obtain ⟨L', M', xs, zs, e, hL, hM', k1, k2, b1, b2, f1, f2, sl, hl', hm', hvv, hww⟩ := hf
  injection e with e
  injection e with _ e
  injection e with _ e
  injection e with _ e
  injection e with e1 e
  injection e with e2 _
  subst e1 e2
  have hpl : plQ [.agg [.v (.int .i64 5), .v (.int .i64 n), str s, L, M], str key] = some (.tup [.v (.int .i64 (i : Int)), .v (.bool true)]) := by
    refine qp.trans (congrArg some ((if_pos rfl).trans ?_))
    rcases place_idx (k := 5) (n := n) (s := s) (l := l) rfl (hr rfl) key with ⟨h1, h2⟩ | ⟨h1, h2⟩
    · rw [hi] at h2
      injection h2 with h2
      show AV.tup [.v (.int .i64 (low (m.map Prod.fst) key : Int)), .v (.bool (hasK (m.map Prod.fst) key))] = _
      rw [h1, ← h2]
    · rw [hi] at h2
      cases h2
  obtain ⟨e0, es0, hes⟩ : ∃ e0 es0, es = e0 :: es0 := by
    cases es with
    | nil => simp at hil
    | cons a b => exact ⟨a, b, rfl⟩
  have hy5 := hw.l5
  have hyf := hw.fl
  have hyb := hw.bare
  have r3 : (cfgP se1).roBox 40 3 = false := rfl
  have r5 : (cfgP se1).roBox 40 5 = true := rfl
  have r6 : (cfgP se1).roBox 40 6 = false := rfl
  have hbs := hfv.bs
  obtain ⟨cs, hcs⟩ : ∃ cs : List AV, cs = [.v (.int .i64 5), .v (.int .i64 n), str s, L, M] := ⟨_, rfl⟩
  have l5 : cs.length = 5 := by rw [hcs]; rfl
  have g0 : cs[0]? = some (.v (.int .i64 5)) := by rw [hcs]; rfl
  have g4 : cs[4]? = some M := by rw [hcs]; rfl
  have hfl : cs.all AV.flat = true := by rw [hcs]; exact hfl0
  obtain ⟨n1, hn1⟩ : ∃ n1, es.length = n1 := ⟨_, rfl⟩
  have c1 : clT 72 [M] (nH [⟨0, 5, [.agg cs]⟩, ⟨0, 5, [z5]⟩]) = some (.ex 2 0 6 0 n1, nH [⟨0, 5, [.agg cs]⟩, ⟨0, 5, [z5]⟩, ⟨0, 6, es.map enc⟩]) := by
    have := clT_eq ⟨nH [⟨0, 5, [.agg cs]⟩, ⟨0, 5, [z5]⟩], M, e0, es0⟩ ⟨by rw [hM, hes], by rw [← hes]; exact ho, by show (e0 :: es0).length < _; rw [← hes]; omega⟩
    simp only [← hes, hn1] at this
    exact this
  obtain ⟨cs', hcs'⟩ : ∃ cs' : List AV, cs' = [.v (.int .i64 5), .v (.int .i64 n), str s, L, .ex 2 0 6 0 n1] := ⟨_, rfl⟩
  have s1 := o_st (prim := se1) (t := 37) (j := 4) (x := .ex 2 0 6 0 n1) (cs := cs) (cs' := cs') [⟨0, 5, [z5]⟩, ⟨0, 6, es.map enc⟩] (by kernel_rfl) rfl rfl (by omega) (by rw [hcs, hcs']; rfl)
  have l5' : cs'.length = 5 := by rw [hcs']; rfl
  have g4' : cs'[4]? = some (.ex 2 0 6 0 n1) := by rw [hcs']; rfl
  have hfl' : cs'.all AV.flat = true := by
    rw [hcs']
    simp only [List.all_cons, List.all_nil, f1]
    rfl
  have s2 := o_st2 (prim := se1) (b0 := ⟨0, 5, [.agg cs']⟩) (b1 := ⟨0, 5, [z5]⟩) hcs0 hc5 hy5 hyf
  have s3 := o_st1 (prim := se1) (b0 := ⟨0, 5, [.agg cs']⟩) [⟨0, 6, (es.set i (key, ys)).map enc⟩] l5' hfl'
  have mi := mix (prim := se1) (b := 2) (i := i) (len := n1) (k := .i64) (by omega)
  have hTn : ∀ q ∈ es.set i (key, ys), okT q := fun q hq => by
    rcases List.mem_or_eq_of_mem_set hq with h | h
    · exact hT q h
    · rw [h]; exact okT_of hw
  have hth : ∃ N, AV.thaw (nH [⟨0, 5, [.agg cs']⟩, ⟨0, 5, [.agg cs']⟩, ⟨0, 6, (es.set i (key, ys)).map enc⟩]) N (.agg cs') = some (keepR (.agg [.v (.int .i64 5), .v (.int .i64 n), str s, L, M]) (es.set i (key, ys))) := by
    obtain ⟨H, hH⟩ : ∃ H, nH [⟨0, 5, [.agg cs']⟩, ⟨0, 5, [.agg cs']⟩, ⟨0, 6, (es.set i (key, ys)).map enc⟩] = H := ⟨_, rfl⟩
    have hbk : blkAt H 2 0 = some ⟨0, 6, (es.set i (key, ys) ++ []).map enc⟩ := by rw [← hH, List.append_nil]; rfl
    have e1 : ∀ (x : Value) (j : Nat), AV.thaw H (j + 1) (.v x) = some (.v x) := fun _ _ => rfl
    have e2 : ∀ (x : List UInt8) (j : Nat), AV.thaw H (j + 1) (str x) = some (str x) := fun _ _ => rfl
    have hn2 : n1 = (es.set i (key, ys)).length := by rw [List.length_set, hn1]
    rw [hH, hcs', hn2]
    exact keepR_thaw hsome hbk hTn (fun j => e1 _ j) (fun j => e1 _ j) (fun j => e2 _ j) (fun j => thaw_sl k1 b1 H j)
  obtain ⟨N, hth⟩ := hth
  rw [hres]
  show PureOk (cfgP se1) 40 [.agg [.v (.int .i64 5), .v (.int .i64 n), str s, L, M], str key, .agg ys] (keepR (.agg [.v (.int .i64 5), .v (.int .i64 n), str s, L, M]) (es.set i (key, ys)))
  obtain ⟨R, hR⟩ : ∃ R, keepR (.agg [.v (.int .i64 5), .v (.int .i64 n), str s, L, M]) (es.set i (key, ys)) = R := ⟨_, rfl⟩
  rw [hR] at hth ⊢
  rw [← hcs] at hpl hbs hb ⊢
  clear hcs hcs' hres hR hTn hfv
  refine pure_of_wk (call := clT) (fn := Tryd.f40) (rs := [.cell 6 39]) se1_ok clS_ok (fns_cfg Tryd.func40 rfl) rfl rfl ?_
  intro env hl0 hargs
  have hn : env.length = 40 := hl0
  have h0 := hargs 0 _ rfl
  have h1 := hargs 1 _ rfl
  have h2 := hargs 2 _ rfl
  clear hargs hl0
  refine wkT_of ?_
  rw [fe_self hn]
  (try simp -dsimp (disch := omega) only [h0, h1, h2, r3, r5, r6, g39, bx_o l5 hfl, bxt_ro hyb hyf, o_al1, gfp0, gp4, vp3, vp37, o_blk, o_blk1, List.getElem?_cons_zero, cellsA, g0, g4, g4', vp39 l5, vp39 l5', vp39 hy5, ct_prim se1_78, hbs, bare_s, hpl, ct_own (C := cfgP se1) (f := 72) rfl rfl, c1, s1, mi, mf1p, s2, s3, Bool.not_true, AS, avals, apairs, bareP, AV.bare, AV.bares, Nat.reduceEqDiff, Nat.reduceLT, Nat.reduceAdd, ↓reduceIte, reduceCtorEq, resA, resA1, resVal, Nat.reduceLeDiff, nb_cfg, Nat.reduceBEq, AX, Int.reduceLT, Int.reduceLE, Int.reduceEq, Int.reduceAdd, Int.reduceSub, Int.reduceMul, Int.reduceNeg, Int.reduceNe])
  exact ⟨N, hth⟩
end Go.Proofs.YtjejeijldllloaaDoor

/- Chapter 13: the lists of what stays; Texts; awake. -/
namespace Go.Proofs.YtjejeijldllloaaDoor
open Go.AM
section
variable {prim : FuncId → Option (List AV → Option AV)}
end
end Go.Proofs.YtjejeijldllloaaDoor

/- Chapter 13: few members; the document's Set. -/
namespace Go.Proofs.YtjejeijldllloaaDoor
open Go.AM
/-- What a light value has within is light. -/
theorem wtm_each {most : Int} (m0 : 0 ≤ most) (m1 : most ≤ 1000000) : ∀ {d n : Int} {l : List (List UInt8 × GV)}, GV.smlm l → 0 ≤ d → d ≤ 71 → 1 ≤ n → n ≤ most → GV.wtm most d n l ≤ most → ∀ p ∈ l, GV.wtp most d p ≤ most
  | d, n, [], _, _, _, _, _, _, p, hp => by cases hp
  | d, n, q :: r, h, h0, h1, g0, g1, hw, p, hp => by
    obtain ⟨a1, a2⟩ := h
    rw [GV.wtm] at hw
    split at hw
    · have b := wtp_bnd m0 m1 a1 h0 h1
      rw [wrap64 (n := (q.1.length : Int) + GV.wtp most d q) (by omega) (by omega), wrap64 (by omega) (by omega)] at hw
      have c := wtm_bnd m0 m1 (n := n + ((q.1.length : Int) + GV.wtp most d q)) a2 h0 h1 (by omega) (by omega)
      rcases List.mem_cons.1 hp with rfl | hp
      · omega
      · exact wtm_each m0 m1 a2 h0 h1 (by omega) (by omega) hw p hp
    · omega
def GV.mems : GV → List (List UInt8 × GV)
  | .mk _ _ _ _ m => m
/-- Few members, here and one level down. -/
def few2 (v : GV) : Prop := v.mems.length ≤ 1000000 ∧ ∀ p ∈ v.mems, p.2.mems.length ≤ 1000000
/-- One more of a key that is there: in its place. -/
theorem lastK_set : ∀ {es : List E} {i : Nat} {p : E} {c : List AV} (key : List UInt8), Str es → es[i]? = some (p.1, c) → lastK key (es.set i p) = if p.1 = key then some p else lastK key es
  | [], _, _, _, _, _, h => by cases h
  | x :: r, 0, p, c, key, hs, h => by
    obtain ⟨h1, h2⟩ := List.pairwise_cons.1 hs
    injection h with h
    have hx : x.1 = p.1 := by rw [h]
    rw [List.set_cons_zero, lastK_cons, lastK_cons, hx]
    by_cases hk : p.1 = key
    · have hn : lastK key r = none := str_last_none fun z hz e => by
        have := h1 z hz
        rw [e, hx, hk, bl_irrefl] at this
        cases this
      rw [if_pos hk, if_pos hk, hn]
      rfl
    · rw [if_neg hk, if_neg hk, if_neg hk]
  | x :: r, i + 1, p, c, key, hs, h => by
    obtain ⟨h1, h2⟩ := List.pairwise_cons.1 hs
    have h' : r[i]? = some (p.1, c) := h
    have ih := lastK_set key h2 h'
    rw [List.set_cons_succ, lastK_cons, lastK_cons, ih]
    by_cases hk : p.1 = key
    · have hx : x.1 ≠ key := by
        intro e
        have := h1 _ (List.mem_of_getElem? h')
        rw [e, hk, bl_irrefl] at this
        cases this
      rw [if_pos hk, if_neg hx, if_pos hk]
    · rw [if_neg hk, if_neg hk]
theorem set_str : ∀ {es : List E} {i : Nat} {p : E} {c : List AV}, Str es → es[i]? = some (p.1, c) → Str (es.set i p) := by
  intro es i p c hs hi
  have h1 : (es.set i p).map Prod.fst = es.map Prod.fst := by
    rw [List.map_set]
    refine List.ext_getElem? fun j => ?_
    rw [List.getElem?_set]
    by_cases hj : i = j
    · subst hj
      have hl := (List.getElem?_eq_some_iff.1 hi).1
      rw [if_pos rfl, List.length_map, if_pos hl, List.getElem?_map, hi]
      rfl
    · rw [if_neg hj]
  refine (List.pairwise_map (f := Prod.fst) (R := fun a b => bl a b = true)).1 ?_
  rw [h1]
  exact (List.pairwise_map (f := Prod.fst) (R := fun a b => bl a b = true)).2 hs
theorem mapL_set {es : List E} {i : Nat} {p : E} {c : List AV} (hs : Str es) (hi : es[i]? = some (p.1, c)) : mapL (es ++ [p]) = es.set i p := by
  refine (mapL_uniq (set_str hs hi) fun key => ?_).symm
  rw [lastK_set key hs hi, lastK_snoc]
/-! ### The document's Set -/
structure Sr where
  v : GV
  x : AV
  es : List E
  key : List UInt8
  w : GV
  ys : List AV
structure Sr.ok (p : Sr) : Prop where
  f : FV p.v p.x
  k : p.v.kind = 5
  m : memsA p.x = p.es.map enc
  l : p.es.length < 10000000
  w : FV p.w (.agg p.ys)
  n : 0 < p.es.length
  kl : p.key.length ≤ 9223372036854775807
def Sr.args (p : Sr) : List AV := [p.x, str p.key, .agg p.ys]
def Sr.res (p : Sr) : AV := mapV (mapL (p.es ++ [(p.key, p.ys)]))
end Go.Proofs.YtjejeijldllloaaDoor

/- Chapter 13: Redact. -/
namespace Go.Proofs.YtjejeijldllloaaDoor
open Go.AM
theorem maym_rise : ∀ (m : List (List UInt8 × GV)) (o : Option (List UInt8)), GV.maym o m = true → m.Pairwise (fun a b => bl a.1 b.1 = true) ∧ (∀ q, o = some q → ∀ p ∈ m, bl q p.1 = true) ∧ ∀ p ∈ m, p.2.may = true
  | [], _, _ => ⟨List.Pairwise.nil, fun _ _ p hp => by (cases hp), fun p hp => by (cases hp)⟩
  | (k, v) :: r, o, h => by
    have hm : GV.mayp (k, v) = v.may := rfl
    have hstep : (∀ q, o = some q → bl q k = true) ∧ v.may = true ∧ GV.maym (some k) r = true := by
      cases o with
      | none =>
        rw [GV.maym, hm] at h
        simp only [Bool.and_eq_true] at h
        exact ⟨fun q e => by (cases e), h.1.2, h.2⟩
      | some q =>
        rw [GV.maym, hm] at h
        simp only [Bool.and_eq_true] at h
        refine ⟨fun q' e => ?_, h.1.2, h.2⟩
        injection e with e
        subst e
        rw [rise]
        exact h.1.1.2
    obtain ⟨s1, s2, s3⟩ := hstep
    obtain ⟨a, b, c⟩ := maym_rise r (some k) s3
    refine ⟨List.pairwise_cons.2 ⟨fun p hp => b k rfl p hp, a⟩, fun q e p hp => ?_, fun p hp => ?_⟩
    · rcases List.mem_cons.1 hp with rfl | hp
      · exact s1 q e
      · exact bl_trans (s1 q e) (b k rfl p hp)
    · rcases List.mem_cons.1 hp with rfl | hp
      · exact s2
      · exact c p hp
/-- A good map has nothing but members, whose keys rise, and which may be. -/
theorem may_map {n : Int} {s : List UInt8} {l : List GV} {m : List (List UInt8 × GV)} (h : (GV.mk 5 n s l m).may = true) : n = 0 ∧ s = [] ∧ l = [] ∧ m.Pairwise (fun a b => bl a.1 b.1 = true) ∧ ∀ p ∈ m, p.2.may = true := by
  rw [GV.may] at h
  simp only [Int.reduceEq, if_false, if_true, Bool.and_eq_true, decide_eq_true_eq] at h
  obtain ⟨h1, h2⟩ := h
  obtain ⟨a, _, c⟩ := maym_rise m none h1
  refine ⟨?_, ?_, ?_, a, c⟩
  · omega
  · grind
  · have : l.length = 0 := by omega
    exact List.eq_nil_of_length_eq_zero this
section
variable {prim : FuncId → Option (List AV → Option AV)}
theorem o_st0 {cs : List AV} (ext : List Blk) (hl : cs.length = 5) (hf : cs.all AV.flat = true) : storeA (cfgP prim) 39 0 0 0 0 (.agg cs) (nH (⟨0, 5, [z5]⟩ :: ext)) = some (nH (⟨0, 5, [.agg cs]⟩ :: ext)) := by
  have hc : (cfgP prim).csz 39 = some 5 := by kernel_rfl
  exact store_all (C := cfgP prim) (t := 39) (b := 0) (n := 5) (x := cs) (y := z5l) (H := nH (⟨0, 5, [z5]⟩ :: ext)) rfl (by rw [hc, hl]) (by simp [hl, z5l]) hf
theorem o_al0 : allocA (cfgP prim) 39 false {} = some (.ptr 0 0 0 0, nH [⟨0, 5, [z5]⟩], 2) := mH_new'
theorem o_al2 {b0 b1 : Blk} : allocA (cfgP prim) 39 false (nH [b0, b1]) = some (.ptr 2 0 0 0, nH [b0, b1, ⟨0, 5, [z5]⟩], 2) := nH_alloc39 (prim := prim) (ext := [b0, b1])
theorem o_st2v {b0 b1 : Blk} {cs : List AV} (hl : cs.length = 5) (hf : cs.all AV.flat = true) : storeA (cfgP prim) 39 2 0 0 0 (.agg cs) (nH [b0, b1, ⟨0, 5, [z5]⟩]) = some (nH [b0, b1, ⟨0, 5, [.agg cs]⟩]) := by
  have hc : (cfgP prim).csz 39 = some 5 := by kernel_rfl
  exact store_all (C := cfgP prim) (t := 39) (b := 2) (n := 5) (x := cs) (y := z5l) (H := nH [b0, b1, ⟨0, 5, [z5]⟩]) rfl (by rw [hc, hl]) (by simp [hl, z5l]) hf
end
end Go.Proofs.YtjejeijldllloaaDoor

/- Chapter 13: the document's Redact. -/
namespace Go.Proofs.YtjejeijldllloaaDoor
open Go.AM
/-- What the document's Set makes of a map that may be, at a key that is there. -/
theorem Sr.res_fv {m : List (List UInt8 × GV)} {x : AV} {es : List E} {key : List UInt8} {w : GV} {ys : List AV} {i : Nat} (hw : FMs m (es.map enc)) (hr : m.Pairwise fun a b => bl a.1 b.1 = true) (hi : idxG (G5 m) key = some i) (hkl : key.length ≤ 9223372036854775807) (hf : FV w (.agg ys)) (hl : m.length ≤ 1000000) :
    FV (GV.setG i key w (G5 m)) (Sr.res ⟨G5 m, x, es, key, w, ys⟩) := by
  have hks := fms_keys hw
  have hstr : Str es := str_keys (by rw [hks]; exact List.pairwise_map.2 hr)
  have hel : es.length = m.length := by rw [← hw.len, List.length_map]
  obtain ⟨_, hil, ⟨w0, hw0⟩, _⟩ := idxG_some hi
  obtain ⟨e0, he0⟩ : ∃ e0, es[i]? = some e0 := ⟨es[i]'(by omega), List.getElem?_eq_getElem (by omega)⟩
  obtain ⟨y, hy, hfm⟩ := hw.get hw0
  rw [List.getElem?_map, he0] at hy
  injection hy with hy
  subst hy
  have hk := fmp_key hfm
  have hi' : es[i]? = some ((key, ys).1, e0.2) := by
    rw [he0]
    congr 1
    exact Prod.ext hk.symm rfl
  have hms := mapL_set (p := (key, ys)) hstr hi'
  show FV (GV.setG i key w (G5 m)) (mapV (mapL (es ++ [(key, ys)])))
  rw [hms]
  have hfm2 : FMp (key, w) (enc (key, ys)) := ⟨ys, rfl, hkl, hf⟩
  have hset := fms_set (i := i) hw hfm2
  exact mapV_G5 hset (by rw [List.length_set]; omega)
end Go.Proofs.YtjejeijldllloaaDoor

/- RedactSays: what stays is as the document says. -/
namespace Go.Proofs.YtjejeijldllloaaDoor
open Go.AM
def RdX (p : GV × AV) : Prop := FV p.1 p.2 ∧ p.1.sml ∧ few2 p.1
theorem RdX.uniq {p q : GV × AV} (hp : RdX p) (hq : RdX q) (e : [p.2] = [q.2]) : p = q := by
  injection e with e _
  have h1 := hp.1.rv
  rw [e] at h1
  exact Prod.ext (RV.uniq h1 hq.1.rv) e
end Go.Proofs.YtjejeijldllloaaDoor
