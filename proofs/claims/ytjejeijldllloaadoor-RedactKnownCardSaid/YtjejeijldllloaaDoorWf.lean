/- Contracts of functions, and plain facts about what they compute. -/
import Derived.Test.YtjejeijldllloaaDoorWe
import Derived.Test.YtjejeijldllloaaDoorAmD
set_option linter.unusedSimpArgs false
set_option linter.unusedVariables false
/- Chapter 2: where a map has a key: the binary search, place. -/
namespace Go.Proofs.YtjejeijldllloaaDoor
open Go.AM
theorem str_get {xs : List E} (h : Str xs) {i j : Nat} {x y : E} (hi : xs[i]? = some x) (hj : xs[j]? = some y) (hij : i < j) : bl x.1 y.1 = true := by
  obtain ⟨a, rfl⟩ := List.getElem?_eq_some_iff.1 hi
  obtain ⟨b, rfl⟩ := List.getElem?_eq_some_iff.1 hj
  exact List.pairwise_iff_getElem.1 h i j a b hij
/-- How many keys stand ahead. -/
def low (ks : List (List UInt8)) (k : List UInt8) : Nat := (ks.takeWhile fun x => bl x k).length
theorem low_at : ∀ {ks : List (List UInt8)} {k : List UInt8} {i : Nat}, i ≤ ks.length → (∀ j x, j < i → ks[j]? = some x → bl x k = true) → (∀ x, ks[i]? = some x → bl x k = false) → low ks k = i
  | [], k, i, h, _, _ => by simp at h; subst h; rfl
  | x :: r, k, 0, _, _, h3 => by
    have := h3 x rfl
    unfold low
    rw [List.takeWhile_cons_of_neg (by simp [this])]
    rfl
  | x :: r, k, i + 1, h, h2, h3 => by
    have hx := h2 0 x (by omega) rfl
    have ih := low_at (ks := r) (k := k) (i := i) (by simpa using h) (fun j y hj hy => h2 (j + 1) y (by omega) hy) (fun y hy => h3 y hy)
    unfold low at ih ⊢
    simp only [List.takeWhile_cons, hx, if_true, List.length_cons]
    rw [ih]
/-- Is it there? -/
def hasK (ks : List (List UInt8)) (k : List UInt8) : Bool := decide (ks[low ks k]? = some k)
structure Bs where
  es : List E
  t : E
  M : AV
structure Bs.ok (p : Bs) : Prop where
  el : elems p.M = some (p.es.map enc)
  b : p.M.bare = some p.M
  o : okL p.es
  t : okE p.t
  s : Str p.es
  l : p.es.length < 4611686018427387904
def Bs.args (p : Bs) : List AV := [p.M, enc p.t, fkey]
def Bs.res (p : Bs) : AV := .tup [.v (.int .i64 (low (p.es.map Prod.fst) p.t.1 : Int)), .v (.bool (hasK (p.es.map Prod.fst) p.t.1))]
structure BsI (M tgt : AV) (n i j : Nat) (e : Env) (h : Hp) : Prop where
  len : e.length = 49
  a0 : aget e 0 = M
  a2 : aget e 2 = fkey
  a4 : aget e 4 = .rp tgt 0
  a8 : aget e 8 = .v (.int .i64 (n : Int))
  a9 : aget e 9 = .v (.int .i64 (i : Int))
  a10 : aget e 10 = .v (.int .i64 (j : Int))
  hp : h = {}
theorem wrapU64 {n : Nat} (h : n < 18446744073709551616) : IntKind.u64.wrap (n : Int) = n := by
  simp [IntKind.wrap, IntKind.bits, IntKind.signed]
  omega
theorem shU {C : Cfg} {t : TypeId} {x y : Operand} {a : Nat} : binA C .shr t x y (.v (.int .u64 (a : Int))) (.v (.int .u64 1)) = some (.v (.int .u64 ((a / 2 : Nat) : Int))) := by
  rw [bin_shr (by decide), show ((2 : Int) ^ min (1 : Int).toNat IntKind.u64.bits) = ((2 : Nat) : Int) from by decide, Int.fdiv_eq_ediv_of_nonneg _ (by omega)]
  rfl
set_option maxHeartbeats 8000000 in
set_option maxRecDepth 100000 in
theorem bsearch_ok (p : Bs) (hp : p.ok) : PureOk (cfgP w2) 100 p.args p.res := by
  obtain ⟨es, t, M⟩ := p
  obtain ⟨hel, hbr, ho, ht, hs, hl⟩ := hp
  simp only at hel hbr ho ht hs hl
  have hxl : (es.map enc).length = es.length := List.length_map ..
  obtain ⟨n, hn0⟩ : ∃ n, es.length = n := ⟨_, rfl⟩
  have hb := enc_bare ht
  have hf := enc_flat ht
  have r4 : (cfgP w2).roBox 100 4 = true := rfl
  have pk := w2_74
  obtain ⟨R, hR⟩ : ∃ R, Bs.res ⟨es, t, M⟩ = R := ⟨_, rfl⟩
  have fin : ∀ i, i ≤ n → (∀ a x, a < i → es[a]? = some x → bl x.1 t.1 = true) → (∀ a x, i ≤ a → es[a]? = some x → bl x.1 t.1 = false) → R = .tup [.v (.int .i64 (i : Int)), .v (.bool (decide ((es[i]?.map Prod.fst) = some t.1)))] := by
    intro i hi h1 h2
    have hlow : low (es.map Prod.fst) t.1 = i := by
      refine low_at (by rw [List.length_map]; omega) (fun a x ha hx => ?_) (fun x hx => ?_)
      · rw [List.getElem?_map] at hx
        obtain ⟨y, hy, rfl⟩ := Option.map_eq_some_iff.1 hx
        exact h1 a y ha hy
      · rw [List.getElem?_map] at hx
        obtain ⟨y, hy, rfl⟩ := Option.map_eq_some_iff.1 hx
        exact h2 i y (Nat.le_refl _) hy
    rw [← hR]
    simp only [Bs.res, hasK, hlow, List.getElem?_map]
  show PureOk (cfgP w2) 100 [M, enc t, fkey] (Bs.res ⟨es, t, M⟩)
  rw [hR]
  clear hR
  refine pure_of_wk (call := noCall) (fn := Tryd.f100) (rs := [.tmp 6, .tmp 7]) w2_ok noCall_ok (fns_cfg Tryd.func100 rfl) rfl rfl ?_
  intro env hl0 hargs
  have hn : env.length = 49 := hl0
  have h0 := hargs 0 _ rfl
  have h1 := hargs 1 _ rfl
  have h2 := hargs 2 _ rfl
  clear hargs hl0
  refine wkT_of ?_
  rw [fe_self hn]
  (try simp -dsimp (disch := omega) only [h0, h1, h2, r4, bxt_ro hb hf, len37 hel, hxl, hn0, AS, avals, apairs, bareP, AV.bare, AV.bares, Nat.reduceEqDiff, Nat.reduceLT, Nat.reduceAdd, ↓reduceIte, reduceCtorEq, resA, resA1, resVal, Nat.reduceLeDiff, nb_cfg, Nat.reduceBEq, AX, Int.reduceLT, Int.reduceLE, Int.reduceEq, Int.reduceAdd, Int.reduceSub, Int.reduceMul, Int.reduceNeg, Int.reduceNe])
  refine wt_loop (m := n) (fun q e h => ∃ i j, i + q = j ∧ j ≤ n ∧ (∀ a x, a < i → es[a]? = some x → bl x.1 t.1 = true) ∧ (∀ a x, j ≤ a → es[a]? = some x → bl x.1 t.1 = false) ∧ BsI M (enc t) n i j e h) ?_ ?_
  · clear hn h0 h1 h2
    rintro q e h ⟨i, j, hij, hjn, hlo, hhi, hn, h0, h2, h4, h8, h9, h10, rfl⟩
    rw [fe_self hn]
    simp only [fkey] at h2
    cases q with
    | zero =>
      obtain rfl : i = j := by omega
      have dij : decide ((i : Int) < (i : Int)) = false := decide_eq_false (by omega)
      have hfin := fin i hjn hlo hhi
      by_cases hin : i < n
      · obtain ⟨x, hx⟩ : ∃ x, es[i]? = some x := ⟨es[i]'(by omega), List.getElem?_eq_getElem (by omega)⟩
        have hox : okE x := ho x (List.mem_of_getElem? hx)
        have hx6 : (str x.1 :: x.2).length = 6 := by rw [List.length_cons, hox.1]
        have ixx := ix37 (prim := w2) hel (HB_get hx) hx6
        have qk := keyP_eq hox ht
        have din : decide ((i : Int) < (n : Int)) = true := decide_eq_true (by omega)
        have hc : decide (cmpK x.1 t.1 = 0) = decide ((es[i]?.map Prod.fst) = some t.1) := by
          have h1 := hhi i x (Nat.le_refl _) hx
          rw [hx]
          unfold cmpK
          rw [h1]
          by_cases he : x.1 = t.1
          · rw [he, bl_irrefl]
            simp [he]
          · have : bl t.1 x.1 = true := by
              cases hb2 : bl t.1 x.1 with
              | true => rfl
              | false => exact absurd (bl_tri h1 hb2) he
            rw [this]
            simp [he]
        rw [← hc] at hfin
        rw [hfin]
        (try simp -dsimp (disch := omega) only [h0, h2, h4, h8, h9, h10, dij, din, ixx, mp48c hox, mp48e ht, cellsA, ct_prim pk, enc_bare hox, enc_bare ht, qk, AS, avals, apairs, bareP, AV.bare, AV.bares, Nat.reduceEqDiff, Nat.reduceLT, Nat.reduceAdd, ↓reduceIte, reduceCtorEq, resA, resA1, resVal, Nat.reduceLeDiff, nb_cfg, Nat.reduceBEq, AX, Int.reduceLT, Int.reduceLE, Int.reduceEq, Int.reduceAdd, Int.reduceSub, Int.reduceMul, Int.reduceNeg, Int.reduceNe])
        refine ⟨by kernel_rfl, ?_⟩
        exact ⟨5, rfl⟩
      · have din : decide ((i : Int) < (n : Int)) = false := decide_eq_false (by omega)
        have hc : decide ((es[i]?.map Prod.fst) = some t.1) = false := by
          rw [List.getElem?_eq_none (by omega)]
          simp
        rw [hc] at hfin
        rw [hfin]
        (try simp -dsimp (disch := omega) only [h0, h2, h4, h8, h9, h10, dij, din, AS, avals, apairs, bareP, AV.bare, AV.bares, Nat.reduceEqDiff, Nat.reduceLT, Nat.reduceAdd, ↓reduceIte, reduceCtorEq, resA, resA1, resVal, Nat.reduceLeDiff, nb_cfg, Nat.reduceBEq, AX, Int.reduceLT, Int.reduceLE, Int.reduceEq, Int.reduceAdd, Int.reduceSub, Int.reduceMul, Int.reduceNeg, Int.reduceNe])
        refine ⟨by kernel_rfl, ?_⟩
        exact ⟨5, rfl⟩
    | succ q =>
      have dij : decide ((i : Int) < (j : Int)) = true := decide_eq_true (by omega)
      obtain ⟨m, hm⟩ : ∃ m, (i + j) / 2 = m := ⟨_, rfl⟩
      have e1 : (i : Int) + (j : Int) = ((i + j : Nat) : Int) := by omega
      obtain ⟨s, hsum⟩ : ∃ s, i + j = s := ⟨_, rfl⟩
      rw [hsum] at e1 hm
      have w1 : IntKind.i64.wrap (s : Int) = (s : Int) := wrap64 (by omega) (by omega)
      have w2' : IntKind.u64.wrap (s : Int) = (s : Int) := wrapU64 (by omega)
      have w3 : IntKind.i64.wrap (m : Int) = (m : Int) := wrap64 (by omega) (by omega)
      have sh : ∀ {x y : Operand}, binA (cfgP w2) .shr 31 x y (.v (.int .u64 (s : Int))) (.v (.int .u64 1)) = some (.v (.int .u64 (m : Int))) := by
        intro x y
        rw [shU, hm]
      obtain ⟨x, hx⟩ : ∃ x, es[m]? = some x := ⟨es[m]'(by omega), List.getElem?_eq_getElem (by omega)⟩
      have hox : okE x := ho x (List.mem_of_getElem? hx)
      have hx6 : (str x.1 :: x.2).length = 6 := by rw [List.length_cons, hox.1]
      have ixx := ix37 (prim := w2) hel (HB_get hx) hx6
      have qk := keyP_eq hox ht
      have qlt := cmpK_lt x.1 t.1
      have em : (m : Int) + 1 = ((m + 1 : Nat) : Int) := by omega
      have w4 : IntKind.i64.wrap ((m + 1 : Nat) : Int) = ((m + 1 : Nat) : Int) := wrap64 (by omega) (by omega)
      cases hc : bl x.1 t.1 with
      | true =>
        rw [hc] at qlt
        (try simp -dsimp (disch := omega) only [h0, h2, h4, h8, h9, h10, dij, e1, w1, w2', w3, cv331, cv313, sh, ixx, mp48c hox, mp48e ht, cellsA, ct_prim pk, enc_bare hox, enc_bare ht, qk, qlt, em, w4, AS, avals, apairs, bareP, AV.bare, AV.bares, Nat.reduceEqDiff, Nat.reduceLT, Nat.reduceAdd, ↓reduceIte, reduceCtorEq, resA, resA1, resVal, Nat.reduceLeDiff, nb_cfg, Nat.reduceBEq, AX, Int.reduceLT, Int.reduceLE, Int.reduceEq, Int.reduceAdd, Int.reduceSub, Int.reduceMul, Int.reduceNeg, Int.reduceNe])
        refine ⟨by kernel_rfl, j - (m + 1), by omega, m + 1, j, by omega, hjn, ?_, hhi, fe_len, ?_, ?_, ?_, ?_, ?_, ?_, rfl⟩
        case refine_1 =>
          intro a y ha hy
          rcases Nat.lt_or_ge a m with h | h
          · exact bl_trans (str_get hs hy hx h) hc
          · obtain rfl : a = m := by omega
            rw [hx] at hy
            injection hy with hy
            rw [← hy]
            exact hc
        all_goals (try simp -dsimp (disch := omega) only [h0, h2, h4, h8, h9, h10, fkey, AS, avals, apairs, bareP, AV.bare, AV.bares, Nat.reduceEqDiff, Nat.reduceLT, Nat.reduceAdd, ↓reduceIte, reduceCtorEq, resA, resA1, resVal, Nat.reduceLeDiff, nb_cfg, Nat.reduceBEq, AX, Int.reduceLT, Int.reduceLE, Int.reduceEq, Int.reduceAdd, Int.reduceSub, Int.reduceMul, Int.reduceNeg, Int.reduceNe])
      | false =>
        rw [hc] at qlt
        (try simp -dsimp (disch := omega) only [h0, h2, h4, h8, h9, h10, dij, e1, w1, w2', w3, cv331, cv313, sh, ixx, mp48c hox, mp48e ht, cellsA, ct_prim pk, enc_bare hox, enc_bare ht, qk, qlt, AS, avals, apairs, bareP, AV.bare, AV.bares, Nat.reduceEqDiff, Nat.reduceLT, Nat.reduceAdd, ↓reduceIte, reduceCtorEq, resA, resA1, resVal, Nat.reduceLeDiff, nb_cfg, Nat.reduceBEq, AX, Int.reduceLT, Int.reduceLE, Int.reduceEq, Int.reduceAdd, Int.reduceSub, Int.reduceMul, Int.reduceNeg, Int.reduceNe])
        refine ⟨by kernel_rfl, m - i, by omega, i, m, by omega, by omega, hlo, ?_, fe_len, ?_, ?_, ?_, ?_, ?_, ?_, rfl⟩
        case refine_1 =>
          intro a y ha hy
          rcases Nat.lt_or_ge m a with h | h
          · cases hya : bl y.1 t.1 with
            | false => rfl
            | true =>
              have := bl_trans (str_get hs hx hy h) hya
              rw [hc] at this
              cases this
          · obtain rfl : a = m := by omega
            rw [hx] at hy
            injection hy with hy
            rw [← hy]
            exact hc
        all_goals (try simp -dsimp (disch := omega) only [h0, h2, h4, h8, h9, h10, fkey, AS, avals, apairs, bareP, AV.bare, AV.bares, Nat.reduceEqDiff, Nat.reduceLT, Nat.reduceAdd, ↓reduceIte, reduceCtorEq, resA, resA1, resVal, Nat.reduceLeDiff, nb_cfg, Nat.reduceBEq, AX, Int.reduceLT, Int.reduceLE, Int.reduceEq, Int.reduceAdd, Int.reduceSub, Int.reduceMul, Int.reduceNeg, Int.reduceNe])
  · refine ⟨0, n, by omega, by omega, (fun a x ha => by omega), (fun a x ha hx => by rw [List.getElem?_eq_none (by omega)] at hx; cases hx), fe_len, ?_, ?_, ?_, ?_, ?_, ?_, rfl⟩
    all_goals (try simp -dsimp (disch := omega) only [h0, h2, AS, avals, apairs, bareP, AV.bare, AV.bares, Nat.reduceEqDiff, Nat.reduceLT, Nat.reduceAdd, ↓reduceIte, reduceCtorEq, resA, resA1, resVal, Nat.reduceLeDiff, nb_cfg, Nat.reduceBEq, AX, Int.reduceLT, Int.reduceLE, Int.reduceEq, Int.reduceAdd, Int.reduceSub, Int.reduceMul, Int.reduceNeg, Int.reduceNe])
    all_goals rfl
noncomputable def bsQ := relP Bs.ok Bs.args Bs.res
theorem bsQ_eq {p : Bs} (h : p.ok) : bsQ p.args = some p.res := relP_eq (X := Bs.ok) (a := Bs.args) (r := Bs.res) (fun p q hp hq e => by
  injection e with e1 e
  injection e with e2 _
  have h1 := hp.el
  rw [e1, hq.el] at h1
  injection h1 with h1
  unfold Bs.res
  rw [encs_inj h1, enc_inj e2]) p h
theorem bsQ_ok : ∀ xs y, bsQ xs = some y → PureOk (cfgP fun _ => none) 100 xs y := relP_ok (R := fun xs y => PureOk (cfgP fun _ => none) 100 xs y) fun p hp => pureOk_prim (bsearch_ok p hp)
/-- The keys of a map rise. -/
def GV.rise : GV → Prop
  | .mk k _ _ _ m => k = 5 → m.Pairwise fun a b => bl a.1 b.1 = true
def GV.keys : GV → List (List UInt8)
  | .mk _ _ _ _ m => m.map Prod.fst
def GV.kind : GV → Int
  | .mk k _ _ _ _ => k
/-- What place says. -/
structure Pl where
  v : GV
  x : AV
  k : List UInt8
def Pl.ok (p : Pl) : Prop := FV p.v p.x ∧ p.v.sml ∧ p.v.rise
def Pl.args (p : Pl) : List AV := [p.x, str p.k]
def Pl.res (p : Pl) : AV := if p.v.kind = 5 then .tup [.v (.int .i64 (low p.v.keys p.k : Int)), .v (.bool (hasK p.v.keys p.k))] else .tup [.v (.int .i64 0), .v (.bool false)]
noncomputable def pl1 : FuncId → Option (List AV → Option AV) := tab [(100, bsQ)]
theorem pl1_ok : (cfgP pl1).Ok := cfg_ok (tab_ok ⟨prim_at Tryd.func100 (by kernel_rfl) rfl (bsQ_ok), trivial⟩)
theorem pl1_100 : (cfgP pl1).prim 100 = some bsQ := rfl
theorem fms_keys : ∀ {m : List (List UInt8 × GV)} {es : List E}, FMs m (es.map enc) → es.map Prod.fst = m.map Prod.fst
  | [], [], _ => rfl
  | [], e :: es, h => by cases (show (e :: es).map enc = [] from h)
  | p :: r, [], h => by obtain ⟨y, ys, e, _⟩ := h; cases e
  | p :: r, e :: es, h => by
    obtain ⟨y, ys, h0, h1, h2⟩ := h
    injection h0 with h3 h4
    subst h3 h4
    rw [List.map_cons, List.map_cons, fms_keys h2, fmp_key h1]
theorem str_keys {es : List E} (h : (es.map Prod.fst).Pairwise fun a b => bl a b = true) : Str es := List.pairwise_map.1 h
theorem build_key {prim : FuncId → Option (List AV → Option AV)} {k : List UInt8} : buildA (cfgP prim) 48 [(0, str k)] = some (enc (k, zE.2)) := by kernel_rfl
set_option maxHeartbeats 4000000 in
set_option maxRecDepth 100000 in
theorem place_ok (p : Pl) (hp : p.ok) : PureOk (cfgP pl1) 78 p.args p.res := by
  obtain ⟨v, x, key⟩ := p
  obtain ⟨h, hs, hr⟩ := hp
  simp only at h hs hr
  cases v with
  | mk k n s l m =>
    have hb := h.bare
    have hfl : x.cells.all AV.flat = true := by
      obtain ⟨cs, e, _, _, hf⟩ := h.shape
      rw [e]
      exact hf
    obtain ⟨L, M, xs, ys, rfl, hL, hM, _, k2, _, b2, _, _, sl, hl, hm, hv, hw⟩ := h
    obtain ⟨es, rfl, ho, hT⟩ := fms_encs hw
    have hel : es.length = m.length := by rw [← hw.len, List.length_map]
    have hks := fms_keys hw
    have r2 : (cfgP pl1).roBox 78 2 = true := rfl
    show PureOk (cfgP pl1) 78 [.agg [.v (.int .i64 k), .v (.int .i64 n), str s, L, M], str key] (if k = 5 then .tup [.v (.int .i64 (low (m.map Prod.fst) key : Int)), .v (.bool (hasK (m.map Prod.fst) key))] else .tup [.v (.int .i64 0), .v (.bool false)])
    obtain ⟨cs, hcs⟩ : ∃ cs : List AV, cs = [.v (.int .i64 k), .v (.int .i64 n), str s, L, M] := ⟨_, rfl⟩
    rw [← hcs] at hb hfl ⊢
    have g0 : cs[0]? = some (.v (.int .i64 k)) := by rw [hcs]; rfl
    have g4 : cs[4]? = some M := by rw [hcs]; rfl
    clear hcs
    by_cases k5 : k = 5
    · rw [if_pos k5]
      have hstr : Str es := str_keys (by rw [hks]; exact List.pairwise_map.2 (hr k5))
      have hml := hs.2.2.1
      have q := bsQ_eq (p := ⟨es, (key, zE.2), M⟩) ⟨hM, b2, ho, ⟨zE_ok.1, zE_ok.2.1, zE_ok.2.2⟩, hstr, by show es.length < _; omega⟩
      simp only [Bs.args, Bs.res, hks, fkey] at q
      have hbe : (enc (key, zE.2)).bare = some (enc (key, zE.2)) := enc_bare (p := (key, zE.2)) ⟨zE_ok.1, zE_ok.2.1, zE_ok.2.2⟩
      obtain ⟨TE, hTE⟩ : ∃ TE, enc (key, zE.2) = TE := ⟨_, rfl⟩
      have hbk := build_key (prim := pl1) (k := key)
      rw [hTE] at q hbe hbk
      have d5 : decide (k = 5) = true := decide_eq_true k5
      subst k5
      refine pure_of_wk (call := noCall) (fn := Tryd.f78) (rs := [.tmp 4, .tmp 5]) pl1_ok noCall_ok (fns_cfg Tryd.func78 rfl) rfl rfl ?_
      intro env hl0 hargs
      have hn : env.length = 16 := hl0
      have h0 := hargs 0 _ rfl
      have h1 := hargs 1 _ rfl
      clear hargs hl0
      refine wkT_of ?_
      rw [fe_self hn]
      (try simp -dsimp (disch := omega) only [h0, h1, r2, bxt_ro hb hfl, gf0, gf4, vp3, vp37, cellsA, g0, g4, bareP, bare_s, hbk, b2, hbe, ct_prim pl1_100, q, Bool.not_true, AS, avals, apairs, bareP, AV.bare, AV.bares, Nat.reduceEqDiff, Nat.reduceLT, Nat.reduceAdd, ↓reduceIte, reduceCtorEq, resA, resA1, resVal, Nat.reduceLeDiff, nb_cfg, Nat.reduceBEq, AX, Int.reduceLT, Int.reduceLE, Int.reduceEq, Int.reduceAdd, Int.reduceSub, Int.reduceMul, Int.reduceNeg, Int.reduceNe])
      exact ⟨5, rfl⟩
    · rw [if_neg k5]
      have d5 : decide (k = 5) = false := decide_eq_false k5
      refine pure_of_wk (call := noCall) (fn := Tryd.f78) (rs := [.tmp 4, .tmp 5]) pl1_ok noCall_ok (fns_cfg Tryd.func78 rfl) rfl rfl ?_
      intro env hl0 hargs
      have hn : env.length = 16 := hl0
      have h0 := hargs 0 _ rfl
      have h1 := hargs 1 _ rfl
      clear hargs hl0
      refine wkT_of ?_
      rw [fe_self hn]
      (try simp -dsimp (disch := omega) only [h0, h1, r2, bxt_ro hb hfl, gf0, vp3, cellsA, g0, d5, Bool.not_false, AS, avals, apairs, bareP, AV.bare, AV.bares, Nat.reduceEqDiff, Nat.reduceLT, Nat.reduceAdd, ↓reduceIte, reduceCtorEq, resA, resA1, resVal, Nat.reduceLeDiff, nb_cfg, Nat.reduceBEq, AX, Int.reduceLT, Int.reduceLE, Int.reduceEq, Int.reduceAdd, Int.reduceSub, Int.reduceMul, Int.reduceNeg, Int.reduceNe])
      exact ⟨5, rfl⟩
noncomputable def plQ := relP Pl.ok Pl.args Pl.res
theorem plQ_eq {p : Pl} (h : p.ok) : plQ p.args = some p.res := relP_eq (X := Pl.ok) (a := Pl.args) (r := Pl.res) (fun p q hp hq e => by
  injection e with e1 e
  injection e with e2 _
  have h1 := hp.1.rv
  rw [e1] at h1
  unfold Pl.res
  rw [RV.uniq h1 hq.1.rv, str_inj e2]) p h
theorem plQ_ok : ∀ xs y, plQ xs = some y → PureOk (cfgP fun _ => none) 78 xs y := relP_ok (R := fun xs y => PureOk (cfgP fun _ => none) 78 xs y) fun p hp => pureOk_prim (place_ok p hp)
end Go.Proofs.YtjejeijldllloaaDoor

/- Chapter 2: Get, TextAt, IntAt, the program's and the document's. -/
namespace Go.Proofs.YtjejeijldllloaaDoor
open Go.AM
/-- The members as they lie. -/
def memsA : AV → List AV
  | .agg [_, _, _, _, M] => (elems M).getD []
  | _ => []
def tailA : AV → AV
  | .agg (_ :: cs) => .agg cs
  | y => y
/-- Where a map has a key. -/
def idxG (v : GV) (k : List UInt8) : Option Nat := if v.kind = 5 then v.keys.findIdx? (fun x => decide (x = k)) else none
def getR (v : GV) (x : AV) (k : List UInt8) : AV := match idxG v k with
  | some i => .tup [tailA ((memsA x).getD i (.v (.int .i64 0))), .v (.bool true)]
  | none => .tup [z5, .v (.bool false)]
theorem getR_none {v : GV} {x : AV} {k : List UInt8} (h : idxG v k = none) : getR v x k = .tup [z5, .v (.bool false)] := by unfold getR; rw [h]
theorem idxG_some {k n : Int} {s : List UInt8} {l : List GV} {m : List (List UInt8 × GV)} {key : List UInt8} {i : Nat} (h : idxG (.mk k n s l m) key = some i) : k = 5 ∧ i < m.length ∧ (∃ w, m[i]? = some (key, w)) ∧ ∀ (j : Nat) (p : List UInt8 × GV), j < i → m[j]? = some p → p.1 ≠ key := by
  unfold idxG at h
  split at h
  · rename_i hk
    rw [List.findIdx?_eq_some_iff_getElem] at h
    obtain ⟨hl, h1, h2⟩ := h
    have hl' : i < m.length := by simpa [GV.keys] using hl
    refine ⟨hk, hl', ?_, fun j p hj hp => ?_⟩
    · have : (m[i]).1 = key := by simpa [GV.keys] using h1
      exact ⟨(m[i]).2, by rw [List.getElem?_eq_getElem hl', ← this]⟩
    · have h3 := h2 j hj
      obtain ⟨hjl, rfl⟩ := List.getElem?_eq_some_iff.1 hp
      simpa [GV.keys] using h3
  · cases h
theorem idxG_none {k n : Int} {s : List UInt8} {l : List GV} {m : List (List UInt8 × GV)} {key : List UInt8} (h : idxG (.mk k n s l m) key = none) : k ≠ 5 ∨ ∀ (j : Nat) (p : List UInt8 × GV), m[j]? = some p → p.1 ≠ key := by
  unfold idxG at h
  split at h
  · right
    rw [List.findIdx?_eq_none_iff] at h
    intro j p hp e
    have := h p.1 (by simp only [GV.keys]; exact List.mem_map_of_mem (List.mem_of_getElem? hp))
    simp [e] at this
  · rename_i hk
    exact .inl hk
/-- What is found. -/
theorem getR_some {v : GV} {x : AV} {key : List UInt8} {i : Nat} (h : FV v x) (hi : idxG v key = some i) : ∃ w cs, FV w (.agg cs) ∧ cs.length = 5 ∧ getR v x key = .tup [.agg cs, .v (.bool true)] ∧ (∀ k n s l m, v = .mk k n s l m → m[i]? = some (key, w)) := by
  cases v with
  | mk k n s l m =>
    obtain ⟨hk, hil, ⟨w0, hw0⟩, _⟩ := idxG_some hi
    obtain ⟨L, M, xs, ys, rfl, hL, hM, _, _, _, _, _, _, _, _, _, hv, hw⟩ := h
    obtain ⟨key', w, ws, e1, e2, e3, e4⟩ := hw.at hil
    rw [hw0] at e1
    injection e1 with e1
    injection e1 with e1 e5
    subst e1 e5
    refine ⟨w0, ws, e4, e3, ?_, fun _ _ _ _ _ e => by injection e with _ _ _ _ e; rw [← e]; exact hw0⟩
    unfold getR
    rw [hi]
    simp only [memsA, hM, Option.getD_some, List.getD_eq_getElem?_getD, e2, tailA]
/-- Where keys rise the two searches find the same. -/
theorem place_idx {k n : Int} {s : List UInt8} {l : List GV} {m : List (List UInt8 × GV)} (hk : k = 5) (hr : m.Pairwise fun a b => bl a.1 b.1 = true) (key : List UInt8) :
    (hasK (m.map Prod.fst) key = true ∧ idxG (.mk k n s l m) key = some (low (m.map Prod.fst) key)) ∨ (hasK (m.map Prod.fst) key = false ∧ idxG (.mk k n s l m) key = none) := by
  have hri : ∀ (i j : Nat) (p q : List UInt8 × GV), i < j → m[i]? = some p → m[j]? = some q → bl p.1 q.1 = true := by
    intro i j p q hij hp hq
    obtain ⟨a, rfl⟩ := List.getElem?_eq_some_iff.1 hp
    obtain ⟨b, rfl⟩ := List.getElem?_eq_some_iff.1 hq
    exact List.pairwise_iff_getElem.1 hr i j a b hij
  cases hi : idxG (.mk k n s l m) key with
  | some i =>
    obtain ⟨_, hil, ⟨w, hw⟩, _⟩ := idxG_some hi
    have hlow : low (m.map Prod.fst) key = i := by
      refine low_at (by rw [List.length_map]; omega) (fun j x hj hx => ?_) (fun x hx => ?_)
      · rw [List.getElem?_map] at hx
        obtain ⟨y, hy, rfl⟩ := Option.map_eq_some_iff.1 hx
        exact hri j i y (key, w) hj hy hw
      · rw [List.getElem?_map, hw] at hx
        injection hx with hx
        rw [← hx]
        exact bl_irrefl key
    refine .inl ⟨?_, by rw [hlow]⟩
    unfold hasK
    rw [hlow, List.getElem?_map, hw]
    simp
  | none =>
    refine .inr ⟨?_, rfl⟩
    rcases idxG_none hi with h | h
    · exact absurd hk h
    · unfold hasK
      refine decide_eq_false fun e => ?_
      rw [List.getElem?_map] at e
      obtain ⟨y, hy, hy2⟩ := Option.map_eq_some_iff.1 e
      exact h _ y hy hy2
def Pl.get (p : Pl) : AV := getR p.v p.x p.k
theorem thaw_val {v : GV} {cs : List AV} (h : FV v (.agg cs)) (H : Hp) (n : Nat) : AV.thaw H (n + 8) (.agg cs) = some (.agg cs) := by
  have := okT_of (k := []) h H n
  show (AV.thaws H (n + 7) cs).map AV.agg = _
  rw [this]
  rfl
theorem tup_thaw {v : GV} {cs : List AV} (h : FV v (.agg cs)) (H : Hp) (b : Bool) : AV.thaw H 20 (.tup [.agg cs, .v (.bool b)]) = some (.tup [.agg cs, .v (.bool b)]) := by
  have h1 := thaw_val h H 10
  have h2 : AV.thaw H 17 (.v (.bool b)) = some (.v (.bool b)) := rfl
  show (AV.thaws H 19 [.agg cs, .v (.bool b)]).map AV.tup = _
  rw [AV.thaws, h1, AV.thaws, h2, AV.thaws]
  rfl
def z5l : List AV := [.v (.int .i64 0), .v (.int .i64 0), str [], .v (.slice none 0 0), .v (.slice none 0 0)]
theorem z5_fv : FV (.mk 0 0 [] [] []) (.agg z5l) := ⟨_, _, [], [], rfl, rfl, rfl, .inl rfl, .inl rfl, rfl, rfl, rfl, rfl, by simp, by simp, by simp, rfl, rfl⟩
section
variable {prim : FuncId → Option (List AV → Option AV)}
theorem v_al : allocA (cfgP prim) 39 false {} = some (.ptr 0 0 0 0, mHv z5 [] [], 4) := mH_new'
theorem v_st {cs : List AV} (h5 : cs.length = 5) (hf : cs.all AV.flat = true) : storeA (cfgP prim) 39 0 0 0 0 (.agg cs) (mHv z5 [] []) = some (mHv (.agg cs) [] []) := nH_store39 (prim := prim) (ext := []) h5 hf
theorem v_z : buildA (cfgP prim) 39 [] = some (.agg z5l) := by kernel_rfl
end
noncomputable def gt1 : FuncId → Option (List AV → Option AV) := tab [(78, plQ)]
theorem gt1_ok : (cfgP gt1).Ok := cfg_ok (tab_ok ⟨prim_at Tryd.func78 (by kernel_rfl) rfl (plQ_ok), trivial⟩)
theorem gt1_78 : (cfgP gt1).prim 78 = some plQ := rfl
set_option maxHeartbeats 4000000 in
set_option maxRecDepth 100000 in
theorem get_ok (p : Pl) (hp : p.ok) : PureOk (cfgP gt1) 39 p.args p.get := by
  have q := plQ_eq hp
  obtain ⟨v, x, key⟩ := p
  obtain ⟨h, hs, hr⟩ := hp
  simp only at h hs hr
  have hgs := fun i hi => getR_some (key := key) (i := i) h hi
  have hb := h.bare
  obtain ⟨cs, rfl, h5, hbs, hfl⟩ := h.shape
  have r2 : (cfgP gt1).roBox 39 2 = true := rfl
  have r4 : (cfgP gt1).roBox 39 4 = false := rfl
  cases v with
  | mk k n s l m =>
    obtain ⟨L, M, xs, ys, e, hL, hM, _, k2, _, b2, _, _, sl, hl, hm, hv, hw⟩ := h
    have g4 : cs[4]? = some M := by injection e with e; rw [e]; rfl
    show PureOk (cfgP gt1) 39 [.agg cs, str key] (getR (.mk k n s l m) (.agg cs) key)
    by_cases k5 : k = 5
    · replace q : plQ [.agg cs, str key] = some (.tup [.v (.int .i64 (low (m.map Prod.fst) key : Int)), .v (.bool (hasK (m.map Prod.fst) key))]) := q.trans (congrArg some (if_pos k5))
      rcases place_idx (n := n) (s := s) (l := l) k5 (hr k5) key with ⟨hh, hi⟩ | ⟨hh, hi⟩
      · rw [hh] at q
        obtain ⟨w, ws, f1, f2, f3, f4⟩ := hgs _ hi
        have hmi := f4 _ _ _ _ _ rfl
        obtain ⟨i, hlow⟩ : ∃ i, low (m.map Prod.fst) key = i := ⟨_, rfl⟩
        rw [hlow] at q hi hmi
        have hil : i < m.length := (List.getElem?_eq_some_iff.1 hmi).1
        obtain ⟨key', w', ws', e1, e2, e3, e4⟩ := hw.at hil
        have e5 : (str key' :: ws').length = 6 := by rw [List.length_cons, e3]
        have hcs : ws' = ws := by
          have : getR (.mk k n s l m) (.agg cs) key = .tup [.agg ws', .v (.bool true)] := by
            unfold getR
            rw [hi]
            injection e with e
            rw [e]
            simp only [memsA, hM, Option.getD_some, List.getD_eq_getElem?_getD, e2, tailA]
          rw [f3] at this
          injection this with this
          injection this with this _
          injection this with this
          exact this.symm
        subst hcs
        rw [f3]
        have st := v_st (prim := gt1) f2 f1.fl
        refine pure_of_wk (call := noCall) (fn := Tryd.f39) (rs := [.cell 4 39, .tmp 5]) gt1_ok noCall_ok (fns_cfg Tryd.func39 rfl) rfl rfl ?_
        intro env hl0 hargs
        have hn : env.length = 23 := hl0
        have h0 := hargs 0 _ rfl
        have h1 := hargs 1 _ rfl
        clear hargs hl0
        refine wkT_of ?_
        rw [fe_self hn]
        (try simp -dsimp (disch := omega) only [h0, h1, r2, r4, bxt_ro hb hfl, v_al, cellsA, vp39 h5, ct_prim gt1_78, hbs, bare_s, q, Bool.not_true, gf4, vp37, g4, ix37 hM e2 e5, mf1, vp39m e3, st, mHv_blk, List.getElem?_cons_zero, vp39 f2, AS, avals, apairs, bareP, AV.bare, AV.bares, Nat.reduceEqDiff, Nat.reduceLT, Nat.reduceAdd, ↓reduceIte, reduceCtorEq, resA, resA1, resVal, Nat.reduceLeDiff, nb_cfg, Nat.reduceBEq, AX, Int.reduceLT, Int.reduceLE, Int.reduceEq, Int.reduceAdd, Int.reduceSub, Int.reduceMul, Int.reduceNeg, Int.reduceNe])
        exact ⟨20, tup_thaw f1 _ _⟩
      · rw [hh] at q
        rw [getR_none hi]
        have st := v_st (prim := gt1) (cs := z5l) rfl rfl
        refine pure_of_wk (call := noCall) (fn := Tryd.f39) (rs := [.cell 4 39, .tmp 5]) gt1_ok noCall_ok (fns_cfg Tryd.func39 rfl) rfl rfl ?_
        intro env hl0 hargs
        have hn : env.length = 23 := hl0
        have h0 := hargs 0 _ rfl
        have h1 := hargs 1 _ rfl
        clear hargs hl0
        refine wkT_of ?_
        rw [fe_self hn]
        (try simp -dsimp (disch := omega) only [h0, h1, r2, r4, bxt_ro hb hfl, v_al, v_z, cellsA, vp39 h5, ct_prim gt1_78, hbs, bare_s, q, Bool.not_false, st, mHv_blk, List.getElem?_cons_zero, vp39 (cs := z5l) rfl, AS, avals, apairs, bareP, AV.bare, AV.bares, Nat.reduceEqDiff, Nat.reduceLT, Nat.reduceAdd, ↓reduceIte, reduceCtorEq, resA, resA1, resVal, Nat.reduceLeDiff, nb_cfg, Nat.reduceBEq, AX, Int.reduceLT, Int.reduceLE, Int.reduceEq, Int.reduceAdd, Int.reduceSub, Int.reduceMul, Int.reduceNeg, Int.reduceNe])
        exact ⟨20, tup_thaw z5_fv _ _⟩
    · replace q : plQ [.agg cs, str key] = some (.tup [.v (.int .i64 0), .v (.bool false)]) := q.trans (congrArg some (if_neg k5))
      have hi : idxG (.mk k n s l m) key = none := if_neg k5
      rw [getR_none hi]
      have st := v_st (prim := gt1) (cs := z5l) rfl rfl
      refine pure_of_wk (call := noCall) (fn := Tryd.f39) (rs := [.cell 4 39, .tmp 5]) gt1_ok noCall_ok (fns_cfg Tryd.func39 rfl) rfl rfl ?_
      intro env hl0 hargs
      have hn : env.length = 23 := hl0
      have h0 := hargs 0 _ rfl
      have h1 := hargs 1 _ rfl
      clear hargs hl0
      refine wkT_of ?_
      rw [fe_self hn]
      (try simp -dsimp (disch := omega) only [h0, h1, r2, r4, bxt_ro hb hfl, v_al, v_z, cellsA, vp39 h5, ct_prim gt1_78, hbs, bare_s, q, Bool.not_false, st, mHv_blk, List.getElem?_cons_zero, vp39 (cs := z5l) rfl, AS, avals, apairs, bareP, AV.bare, AV.bares, Nat.reduceEqDiff, Nat.reduceLT, Nat.reduceAdd, ↓reduceIte, reduceCtorEq, resA, resA1, resVal, Nat.reduceLeDiff, nb_cfg, Nat.reduceBEq, AX, Int.reduceLT, Int.reduceLE, Int.reduceEq, Int.reduceAdd, Int.reduceSub, Int.reduceMul, Int.reduceNeg, Int.reduceNe])
      exact ⟨20, tup_thaw z5_fv _ _⟩
noncomputable def getQ := relP Pl.ok Pl.args Pl.get
theorem pl_inj {p q : Pl} (hp : FV p.v p.x) (hq : FV q.v q.x) (e : p.args = q.args) : p.v = q.v ∧ p.x = q.x ∧ p.k = q.k := by
  injection e with e1 e
  injection e with e2 _
  have h1 := hp.rv
  rw [e1] at h1
  exact ⟨RV.uniq h1 hq.rv, e1, str_inj e2⟩
theorem getQ_eq {p : Pl} (h : p.ok) : getQ p.args = some p.get := relP_eq (X := Pl.ok) (a := Pl.args) (r := Pl.get) (fun p q hp hq e => by
  obtain ⟨h1, h2, h3⟩ := pl_inj hp.1 hq.1 e
  unfold Pl.get
  rw [h1, h2, h3]) p h
theorem getQ_ok : ∀ xs y, getQ xs = some y → PureOk (cfgP fun _ => none) 39 xs y := relP_ok (R := fun xs y => PureOk (cfgP fun _ => none) 39 xs y) fun p hp => pureOk_prim (get_ok p hp)
end Go.Proofs.YtjejeijldllloaaDoor

/- Chapter 2: lists of keys: Contains, Has; the closures of Keep and Drop. -/
namespace Go.Proofs.YtjejeijldllloaaDoor
open Go.AM
/-- A slice of texts. -/
structure TV (ks : List (List UInt8)) (L : AV) : Prop where
  el : elems L = some (ks.map str)
  b : L.bare = some L
  l : ks.length ≤ 4611686018427387904
theorem strs_inj : ∀ {a b : List (List UInt8)}, a.map str = b.map str → a = b
  | [], [], _ => rfl
  | [], _ :: _, h => by cases h
  | _ :: _, [], h => by cases h
  | x :: a, y :: b, h => by
    injection h with h1 h2
    rw [str_inj h1, strs_inj h2]
theorem TV.inj {a b : List (List UInt8)} {L : AV} (h : TV a L) (h' : TV b L) : a = b := by
  have := h.el
  rw [h'.el] at this
  injection this with this
  exact (strs_inj this).symm
theorem cells_el {L : AV} {xs : List AV} (h : elems L = some xs) : L.cells = [L] ∧ L.flat = true := by
  cases L with
  | v x => cases x <;> first | exact ⟨rfl, rfl⟩ | (simp [elems] at h; done)
  | ro _ => exact ⟨rfl, rfl⟩
  | cl _ _ => exact ⟨rfl, rfl⟩
  | ap _ _ => exact ⟨rfl, rfl⟩
  | _ => cases h
section
variable {prim : FuncId → Option (List AV → Option AV)}
theorem len23 {x : AV} {xs : List AV} (h : elems x = some xs) : lenA (cfgP prim) #[23] [x] = some (.v (.int .i64 (xs.length : Int))) := len_el (e := 9) (by kernel_rfl) h
theorem ix23 {x : AV} {xs : List AV} {k : List UInt8} {i : Nat} (h : elems x = some xs) (hi : xs[i]? = some (str k)) : indexAddrA (cfgP prim) 23 x (.v (.int .i64 (i : Int))) = some (.rp (str k) 0) := ix_el (e := 9) (n := 0) (by kernel_rfl) (by kernel_rfl) h hi rfl
theorem vp23 {cs : List AV} {j : Nat} : partA (cfgP prim) 23 cs j = cs[j]? := by kernel_rfl
theorem vp27 {cs : List AV} {j : Nat} : partA (cfgP prim) 27 cs j = cs[j]? := by kernel_rfl
end
theorem cellsS (k : List UInt8) : (str k).cells = [str k] := rfl
theorem strs_get {ks : List (List UInt8)} {i : Nat} {k : List UInt8} (h : ks[i]? = some k) : (ks.map str)[i]? = some (str k) := by rw [List.getElem?_map, h]; rfl
/-- Is it in the list? -/
def hasT (ks : List (List UInt8)) (k : List UInt8) : Bool := decide (k ∈ ks)
def idxT (ks : List (List UInt8)) (k : List UInt8) : Int := match ks.findIdx? (fun x => decide (x = k)) with
  | some i => (i : Int)
  | none => -1
theorem idxT_has (ks : List (List UInt8)) (k : List UInt8) : decide (0 ≤ idxT ks k) = hasT ks k := by
  unfold idxT hasT
  cases h : ks.findIdx? (fun x => decide (x = k)) with
  | some i =>
    rw [List.findIdx?_eq_some_iff_getElem] at h
    obtain ⟨hl, h1, _⟩ := h
    have : ks[i] = k := by simpa using h1
    show decide ((0 : Int) ≤ (i : Int)) = decide (k ∈ ks)
    rw [decide_eq_true (by omega), decide_eq_true (by rw [← this]; exact List.getElem_mem hl)]
  | none =>
    rw [List.findIdx?_eq_none_iff] at h
    show decide ((0 : Int) ≤ -1) = decide (k ∈ ks)
    rw [decide_eq_false (by omega), decide_eq_false fun hm => by simpa using h k hm]
structure Tk where
  ks : List (List UInt8)
  L : AV
  k : List UInt8
def Tk.ok (p : Tk) : Prop := TV p.ks p.L
def Tk.args (p : Tk) : List AV := [p.L, str p.k]
theorem Tk.inj {p q : Tk} (hp : p.ok) (hq : q.ok) (e : p.args = q.args) : p.ks = q.ks ∧ p.k = q.k := by
  injection e with e1 e
  injection e with e2 _
  have := hp
  unfold Tk.ok at this
  rw [e1] at this
  exact ⟨this.inj hq, str_inj e2⟩
structure IxI (L : AV) (k : List UInt8) (c i : Nat) (e : Env) (h : Hp) : Prop where
  len : e.length = 19
  a0 : aget e 0 = L
  a1 : aget e 1 = str k
  a6 : aget e 6 = L
  a7 : aget e 7 = .v (.int .i64 (c : Int))
  a8 : aget e 8 = .v (.int .i64 (i : Int))
  hp : h = {}
set_option maxHeartbeats 4000000 in
set_option maxRecDepth 100000 in
theorem index_ok (p : Tk) (hp : p.ok) : PureOk (cfgP fun _ => none) 105 p.args (.v (.int .i64 (idxT p.ks p.k))) := by
  obtain ⟨ks, L, k⟩ := p
  obtain ⟨hel, hb, hl⟩ := hp
  simp only at hel hb hl
  have hxl : (ks.map str).length = ks.length := List.length_map ..
  show PureOk (cfgP fun _ => none) 105 [L, str k] (.v (.int .i64 (idxT ks k)))
  obtain ⟨W, hW⟩ : ∃ W, idxT ks k = W := ⟨_, rfl⟩
  rw [hW]
  refine pure_of_wk (call := noCall) (fn := Tryd.f105) (rs := [.tmp 4]) cokN noCall_ok (fns_cfg Tryd.func105 rfl) rfl rfl ?_
  intro env hl0 hargs
  have hn : env.length = 19 := hl0
  have h0 := hargs 0 _ rfl
  have h1 := hargs 1 _ rfl
  clear hargs hl0
  refine wkT_of ?_
  rw [fe_self hn]
  (try simp -dsimp (disch := omega) only [h0, h1, len23 hel, hxl, AS, avals, apairs, bareP, AV.bare, AV.bares, Nat.reduceEqDiff, Nat.reduceLT, Nat.reduceAdd, ↓reduceIte, reduceCtorEq, resA, resA1, resVal, Nat.reduceLeDiff, nb_cfg, Nat.reduceBEq, AX, Int.reduceLT, Int.reduceLE, Int.reduceEq, Int.reduceAdd, Int.reduceSub, Int.reduceMul, Int.reduceNeg, Int.reduceNe])
  refine wt_loop (m := ks.length) (fun q e h => ∃ i, i + q = ks.length ∧ (∀ j x, j < i → ks[j]? = some x → x ≠ k) ∧ IxI L k ks.length i e h) ?_ ?_
  · clear hn h0 h1
    rintro q e h ⟨i, hi, hno, hn, h0, h1, h6, h7, h8, rfl⟩
    rw [fe_self hn]
    cases q with
    | zero =>
      obtain rfl : i = ks.length := by omega
      have hnn : ks.findIdx? (fun x => decide (x = k)) = none := by
        rw [List.findIdx?_eq_none_iff]
        intro x hx
        obtain ⟨j, hj⟩ := List.getElem?_of_mem hx
        simpa using hno j x (List.getElem?_eq_some_iff.1 hj).1 hj
      have hWn : W = -1 := by rw [← hW]; unfold idxT; rw [hnn]
      subst hWn
      (try simp -dsimp (disch := omega) only [h0, h1, h6, h7, h8, AS, avals, apairs, bareP, AV.bare, AV.bares, Nat.reduceEqDiff, Nat.reduceLT, Nat.reduceAdd, ↓reduceIte, reduceCtorEq, resA, resA1, resVal, Nat.reduceLeDiff, nb_cfg, Nat.reduceBEq, AX, Int.reduceLT, Int.reduceLE, Int.reduceEq, Int.reduceAdd, Int.reduceSub, Int.reduceMul, Int.reduceNeg, Int.reduceNe])
      exact ⟨1, rfl⟩
    | succ q =>
      obtain ⟨x, hx⟩ : ∃ x, ks[i]? = some x := ⟨ks[i]'(by omega), List.getElem?_eq_getElem (by omega)⟩
      have ew : (i : Int) + 1 = ((i + 1 : Nat) : Int) := by omega
      have di : decide ((i : Int) < (ks.length : Int)) = true := decide_eq_true (by omega)
      by_cases hk : k = x
      · have dk : decide (k = x) = true := decide_eq_true hk
        have hnn : ks.findIdx? (fun x => decide (x = k)) = some i := by
          rw [List.findIdx?_eq_some_iff_getElem]
          obtain ⟨hl', he⟩ := List.getElem?_eq_some_iff.1 hx
          refine ⟨hl', by simp [he, hk], fun j hj => ?_⟩
          have := hno j ks[j] hj (List.getElem?_eq_getElem (by omega))
          simpa using this
        have hWn : W = (i : Int) := by rw [← hW]; unfold idxT; rw [hnn]
        subst hWn
        (try simp -dsimp (disch := omega) only [di, h0, h1, h6, h7, h8, ix23 hel (strs_get hx), mp9, cellsS, List.getElem?_cons_zero, dk, AS, avals, apairs, bareP, AV.bare, AV.bares, Nat.reduceEqDiff, Nat.reduceLT, Nat.reduceAdd, ↓reduceIte, reduceCtorEq, resA, resA1, resVal, Nat.reduceLeDiff, nb_cfg, Nat.reduceBEq, AX, Int.reduceLT, Int.reduceLE, Int.reduceEq, Int.reduceAdd, Int.reduceSub, Int.reduceMul, Int.reduceNeg, Int.reduceNe])
        exact ⟨1, rfl⟩
      · have dk : decide (k = x) = false := decide_eq_false hk
        (try simp -dsimp (disch := omega) only [di, h0, h1, h6, h7, h8, ix23 hel (strs_get hx), mp9, cellsS, List.getElem?_cons_zero, dk, wrap64, ew, AS, avals, apairs, bareP, AV.bare, AV.bares, Nat.reduceEqDiff, Nat.reduceLT, Nat.reduceAdd, ↓reduceIte, reduceCtorEq, resA, resA1, resVal, Nat.reduceLeDiff, nb_cfg, Nat.reduceBEq, AX, Int.reduceLT, Int.reduceLE, Int.reduceEq, Int.reduceAdd, Int.reduceSub, Int.reduceMul, Int.reduceNeg, Int.reduceNe])
        refine ⟨q, by omega, i + 1, by omega, ?_, fe_len, ?_, ?_, ?_, ?_, ?_, rfl⟩
        case refine_1 =>
          intro j y hj hy
          rcases Nat.lt_or_ge j i with hj' | hj'
          · exact hno j y hj' hy
          · obtain rfl : j = i := by omega
            rw [hx] at hy
            injection hy with hy
            rw [← hy]
            exact fun e => hk e.symm
        all_goals (try simp -dsimp (disch := omega) only [h0, h1, h6, h7, h8, AS, avals, apairs, bareP, AV.bare, AV.bares, Nat.reduceEqDiff, Nat.reduceLT, Nat.reduceAdd, ↓reduceIte, reduceCtorEq, resA, resA1, resVal, Nat.reduceLeDiff, nb_cfg, Nat.reduceBEq, AX, Int.reduceLT, Int.reduceLE, Int.reduceEq, Int.reduceAdd, Int.reduceSub, Int.reduceMul, Int.reduceNeg, Int.reduceNe])
  · refine ⟨0, by omega, (fun j x hj => by omega), fe_len, ?_, ?_, ?_, ?_, ?_, rfl⟩
    all_goals (try simp -dsimp (disch := omega) only [h0, h1, hxl, AS, avals, apairs, bareP, AV.bare, AV.bares, Nat.reduceEqDiff, Nat.reduceLT, Nat.reduceAdd, ↓reduceIte, reduceCtorEq, resA, resA1, resVal, Nat.reduceLeDiff, nb_cfg, Nat.reduceBEq, AX, Int.reduceLT, Int.reduceLE, Int.reduceEq, Int.reduceAdd, Int.reduceSub, Int.reduceMul, Int.reduceNeg, Int.reduceNe])
    all_goals rfl
noncomputable def idxQ := relP Tk.ok Tk.args (fun p => .v (.int .i64 (idxT p.ks p.k)))
theorem idxQ_eq {ks : List (List UInt8)} {L : AV} (h : TV ks L) (k : List UInt8) : idxQ [L, str k] = some (.v (.int .i64 (idxT ks k))) := relP_eq (X := Tk.ok) (a := Tk.args) (r := fun p => .v (.int .i64 (idxT p.ks p.k))) (fun p q hp hq e => by
  obtain ⟨h1, h2⟩ := Tk.inj hp hq e
  rw [h1, h2]) ⟨ks, L, k⟩ h
theorem idxQ_ok : ∀ xs y, idxQ xs = some y → PureOk (cfgP fun _ => none) 105 xs y := relP_ok (R := fun xs y => PureOk (cfgP fun _ => none) 105 xs y) fun p hp => index_ok p hp
noncomputable def ct1 : FuncId → Option (List AV → Option AV) := tab [(105, idxQ)]
theorem ct1_ok : (cfgP ct1).Ok := cfg_ok (tab_ok ⟨prim_at Tryd.func105 (by kernel_rfl) rfl (idxQ_ok), trivial⟩)
theorem ct1_105 : (cfgP ct1).prim 105 = some idxQ := rfl
theorem contains_ok (p : Tk) (hp : p.ok) : PureOk (cfgP ct1) 82 p.args (.v (.bool (hasT p.ks p.k))) := by
  obtain ⟨ks, L, k⟩ := p
  have q := idxQ_eq hp k
  have hb := hp.b
  have hh := idxT_has ks k
  simp only at q hb
  show PureOk (cfgP ct1) 82 [L, str k] (.v (.bool (hasT ks k)))
  refine pure_of_wk (call := noCall) (fn := Tryd.f82) (rs := [.tmp 4]) ct1_ok noCall_ok (fns_cfg Tryd.func82 rfl) rfl rfl ?_
  intro env hl0 hargs
  have hn : env.length = 9 := hl0
  have h0 := hargs 0 _ rfl
  have h1 := hargs 1 _ rfl
  clear hargs hl0
  refine wkT_of ?_
  rw [fe_self hn]
  (try simp -dsimp (disch := omega) only [h0, h1, ct_prim ct1_105, hb, bare_s, q, hh, AS, avals, apairs, bareP, AV.bare, AV.bares, Nat.reduceEqDiff, Nat.reduceLT, Nat.reduceAdd, ↓reduceIte, reduceCtorEq, resA, resA1, resVal, Nat.reduceLeDiff, nb_cfg, Nat.reduceBEq, AX, Int.reduceLT, Int.reduceLE, Int.reduceEq, Int.reduceAdd, Int.reduceSub, Int.reduceMul, Int.reduceNeg, Int.reduceNe])
  exact ⟨1, rfl⟩
noncomputable def hasQ := relP Tk.ok Tk.args (fun p => .v (.bool (hasT p.ks p.k)))
theorem hasQ_eq {ks : List (List UInt8)} {L : AV} (h : TV ks L) (k : List UInt8) : hasQ [L, str k] = some (.v (.bool (hasT ks k))) := relP_eq (X := Tk.ok) (a := Tk.args) (r := fun p => .v (.bool (hasT p.ks p.k))) (fun p q hp hq e => by
  obtain ⟨h1, h2⟩ := Tk.inj hp hq e
  rw [h1, h2]) ⟨ks, L, k⟩ h
theorem hasQ_ok : ∀ xs y, hasQ xs = some y → PureOk (cfgP fun _ => none) 82 xs y := relP_ok (R := fun xs y => PureOk (cfgP fun _ => none) 82 xs y) fun p hp => pureOk_prim (contains_ok p hp)
/-! ### The closures -/
/-- Keep's closure (of what goes), or Drop's. -/
def fnKD (b : Bool) (L : AV) : AV := if b then .fn (.func 83) [] [.rp L 0] else .fn (.func 81) [] [.rp L 0]
/-- Does it go? -/
def delB (b : Bool) (ks : List (List UInt8)) (k : List UInt8) : Bool := if b then !hasT ks k else hasT ks k
noncomputable def kc1 : FuncId → Option (List AV → Option AV) := tab [(82, hasQ)]
theorem kc1_ok : (cfgP kc1).Ok := cfg_ok (tab_ok ⟨prim_at Tryd.func82 (by kernel_rfl) rfl (hasQ_ok), trivial⟩)
theorem kc1_82 : (cfgP kc1).prim 82 = some hasQ := rfl
theorem keepC_ok {ks : List (List UInt8)} {L : AV} (h : TV ks L) (k : List UInt8) : PureOk (cfgP kc1) 83 [str k, .rp L 0] (.v (.bool (delB true ks k))) := by
  have q := hasQ_eq h k
  have hb := h.b
  have hc := (cells_el h.el).1
  show PureOk (cfgP kc1) 83 [str k, .rp L 0] (.v (.bool (!hasT ks k)))
  refine pure_of_wk (call := noCall) (fn := Tryd.f83) (rs := [.tmp 3]) kc1_ok noCall_ok (fns_cfg Tryd.func83 rfl) rfl rfl ?_
  intro env hl0 hargs
  have hn : env.length = 8 := hl0
  have h0 := hargs 0 _ rfl
  have h1 := hargs 1 _ rfl
  clear hargs hl0
  refine wkT_of ?_
  rw [fe_self hn]
  (try simp -dsimp (disch := omega) only [h0, h1, vp23, hc, List.getElem?_cons_zero, ct_prim kc1_82, hb, bare_s, q, AS, avals, apairs, bareP, AV.bare, AV.bares, Nat.reduceEqDiff, Nat.reduceLT, Nat.reduceAdd, ↓reduceIte, reduceCtorEq, resA, resA1, resVal, Nat.reduceLeDiff, nb_cfg, Nat.reduceBEq, AX, Int.reduceLT, Int.reduceLE, Int.reduceEq, Int.reduceAdd, Int.reduceSub, Int.reduceMul, Int.reduceNeg, Int.reduceNe])
  exact ⟨1, rfl⟩
theorem dropC_ok {ks : List (List UInt8)} {L : AV} (h : TV ks L) (k : List UInt8) : PureOk (cfgP kc1) 81 [str k, .rp L 0] (.v (.bool (delB false ks k))) := by
  have q := hasQ_eq h k
  have hb := h.b
  have hc := (cells_el h.el).1
  show PureOk (cfgP kc1) 81 [str k, .rp L 0] (.v (.bool (hasT ks k)))
  refine pure_of_wk (call := noCall) (fn := Tryd.f81) (rs := [.tmp 3]) kc1_ok noCall_ok (fns_cfg Tryd.func81 rfl) rfl rfl ?_
  intro env hl0 hargs
  have hn : env.length = 7 := hl0
  have h0 := hargs 0 _ rfl
  have h1 := hargs 1 _ rfl
  clear hargs hl0
  refine wkT_of ?_
  rw [fe_self hn]
  (try simp -dsimp (disch := omega) only [h0, h1, vp23, hc, List.getElem?_cons_zero, ct_prim kc1_82, hb, bare_s, q, AS, avals, apairs, bareP, AV.bare, AV.bares, Nat.reduceEqDiff, Nat.reduceLT, Nat.reduceAdd, ↓reduceIte, reduceCtorEq, resA, resA1, resVal, Nat.reduceLeDiff, nb_cfg, Nat.reduceBEq, AX, Int.reduceLT, Int.reduceLE, Int.reduceEq, Int.reduceAdd, Int.reduceSub, Int.reduceMul, Int.reduceNeg, Int.reduceNe])
  exact ⟨1, rfl⟩
def Tk.args2 (p : Tk) : List AV := [str p.k, .rp p.L 0]
theorem Tk.inj2 {p q : Tk} (hp : p.ok) (hq : q.ok) (e : p.args2 = q.args2) : p.ks = q.ks ∧ p.k = q.k := by
  injection e with e2 e
  injection e with e1 _
  injection e1 with e1 _
  have := hp
  unfold Tk.ok at this
  rw [e1] at this
  exact ⟨this.inj hq, str_inj e2⟩
noncomputable def delQ (b : Bool) := relP Tk.ok Tk.args2 (fun p => .v (.bool (delB b p.ks p.k)))
theorem delQ_eq {ks : List (List UInt8)} {L : AV} (b : Bool) (h : TV ks L) (k : List UInt8) : delQ b [str k, .rp L 0] = some (.v (.bool (delB b ks k))) := relP_eq (X := Tk.ok) (a := Tk.args2) (r := fun p => .v (.bool (delB b p.ks p.k))) (fun p q hp hq e => by
  obtain ⟨h1, h2⟩ := Tk.inj2 hp hq e
  rw [h1, h2]) ⟨ks, L, k⟩ h
theorem delQ_t : ∀ xs y, delQ true xs = some y → PureOk (cfgP fun _ => none) 83 xs y := relP_ok (R := fun xs y => PureOk (cfgP fun _ => none) 83 xs y) fun p hp => pureOk_prim (keepC_ok hp p.k)
theorem delQ_f : ∀ xs y, delQ false xs = some y → PureOk (cfgP fun _ => none) 81 xs y := relP_ok (R := fun xs y => PureOk (cfgP fun _ => none) 81 xs y) fun p hp => pureOk_prim (dropC_ok hp p.k)
noncomputable def wo1 : FuncId → Option (List AV → Option AV) := tab [(83, (delQ true)), (81, (delQ false))]
theorem wo1_ok : (cfgP wo1).Ok := cfg_ok (tab_ok ⟨prim_at Tryd.func83 (by kernel_rfl) rfl (delQ_t), prim_at Tryd.func81 (by kernel_rfl) rfl (delQ_f), trivial⟩)
theorem wo1_83 : (cfgP wo1).prim 83 = some (delQ true) := rfl
theorem wo1_81 : (cfgP wo1).prim 81 = some (delQ false) := rfl
/-- What without's closure is asked. -/
structure Wo where
  e : E
  b : Bool
  ks : List (List UInt8)
  L : AV
def Wo.ok (p : Wo) : Prop := okE p.e ∧ TV p.ks p.L
def Wo.args (p : Wo) : List AV := [enc p.e, .rp (fnKD p.b p.L) 0]
def Wo.res (p : Wo) : AV := .v (.bool (delB p.b p.ks p.e.1))
set_option maxHeartbeats 4000000 in
set_option maxRecDepth 100000 in
theorem wo_ok (p : Wo) (hp : p.ok) : PureOk (cfgP wo1) 104 p.args p.res := by
  obtain ⟨e, b, ks, L⟩ := p
  obtain ⟨he, h⟩ := hp
  simp only at he h
  have q := delQ_eq b h e.1
  have hb := enc_bare he
  have hf := enc_flat he
  have r2 : (cfgP wo1).roBox 104 2 = true := rfl
  cases b with
  | true =>
    show PureOk (cfgP wo1) 104 [enc e, .rp (.fn (.func 83) [] [.rp L 0]) 0] (.v (.bool (delB true ks e.1)))
    have fc : (AV.fn (.func 83) [] [.rp L 0]).cells = [.fn (.func 83) [] [.rp L 0]] := rfl
    refine pure_of_wk (call := noCall) (fn := Tryd.f104) (rs := [.tmp 3]) wo1_ok noCall_ok (fns_cfg Tryd.func104 rfl) rfl rfl ?_
    intro env hl0 hargs
    have hn : env.length = 8 := hl0
    have h0 := hargs 0 _ rfl
    have h1 := hargs 1 _ rfl
    clear hargs hl0
    refine wkT_of ?_
    rw [fe_self hn]
    (try simp -dsimp (disch := omega) only [h0, h1, r2, bxt_ro hb hf, vp27, fc, List.getElem?_cons_zero, mf0, mp9, enc_cells, ct_prim wo1_83, bare_s, q, AS, avals, apairs, bareP, AV.bare, AV.bares, Nat.reduceEqDiff, Nat.reduceLT, Nat.reduceAdd, ↓reduceIte, reduceCtorEq, resA, resA1, resVal, Nat.reduceLeDiff, nb_cfg, Nat.reduceBEq, AX, Int.reduceLT, Int.reduceLE, Int.reduceEq, Int.reduceAdd, Int.reduceSub, Int.reduceMul, Int.reduceNeg, Int.reduceNe])
    exact ⟨1, rfl⟩
  | false =>
    show PureOk (cfgP wo1) 104 [enc e, .rp (.fn (.func 81) [] [.rp L 0]) 0] (.v (.bool (delB false ks e.1)))
    have fc : (AV.fn (.func 81) [] [.rp L 0]).cells = [.fn (.func 81) [] [.rp L 0]] := rfl
    refine pure_of_wk (call := noCall) (fn := Tryd.f104) (rs := [.tmp 3]) wo1_ok noCall_ok (fns_cfg Tryd.func104 rfl) rfl rfl ?_
    intro env hl0 hargs
    have hn : env.length = 8 := hl0
    have h0 := hargs 0 _ rfl
    have h1 := hargs 1 _ rfl
    clear hargs hl0
    refine wkT_of ?_
    rw [fe_self hn]
    (try simp -dsimp (disch := omega) only [h0, h1, r2, bxt_ro hb hf, vp27, fc, List.getElem?_cons_zero, mf0, mp9, enc_cells, ct_prim wo1_81, bare_s, q, AS, avals, apairs, bareP, AV.bare, AV.bares, Nat.reduceEqDiff, Nat.reduceLT, Nat.reduceAdd, ↓reduceIte, reduceCtorEq, resA, resA1, resVal, Nat.reduceLeDiff, nb_cfg, Nat.reduceBEq, AX, Int.reduceLT, Int.reduceLE, Int.reduceEq, Int.reduceAdd, Int.reduceSub, Int.reduceMul, Int.reduceNeg, Int.reduceNe])
    exact ⟨1, rfl⟩
theorem fnKD_inj {b b' : Bool} {L L' : AV} (h : fnKD b L = fnKD b' L') : b = b' ∧ L = L' := by
  cases b <;> cases b' <;> simp [fnKD] at h ⊢ <;> exact h
noncomputable def woQ := relP Wo.ok Wo.args Wo.res
theorem woQ_eq {p : Wo} (h : p.ok) : woQ p.args = some p.res := relP_eq (X := Wo.ok) (a := Wo.args) (r := Wo.res) (fun p q hp hq e => by
  injection e with e1 e
  injection e with e2 _
  injection e2 with e2 _
  obtain ⟨h1, h2⟩ := fnKD_inj e2
  have := hp.2
  rw [h2] at this
  unfold Wo.res
  rw [enc_inj e1, h1, this.inj hq.2]) p h
theorem woQ_ok : ∀ xs y, woQ xs = some y → PureOk (cfgP fun _ => none) 104 xs y := relP_ok (R := fun xs y => PureOk (cfgP fun _ => none) 104 xs y) fun p hp => pureOk_prim (wo_ok p hp)
end Go.Proofs.YtjejeijldllloaaDoor

/- Chapter 2: DeleteFunc. -/
namespace Go.Proofs.YtjejeijldllloaaDoor
open Go.AM
noncomputable def de1 : FuncId → Option (List AV → Option AV) := tab [(104, woQ)]
theorem de1_ok : (cfgP de1).Ok := cfg_ok (tab_ok ⟨prim_at Tryd.func104 (by kernel_rfl) rfl (woQ_ok), trivial⟩)
theorem de1_104 : (cfgP de1).prim 104 = some woQ := rfl
/-- What DeleteFunc is asked. -/
structure De where
  H : Hp
  b : Nat
  xs : List E
  kd : Bool
  ks : List (List UInt8)
  L : AV
structure De.ok (p : De) : Prop where
  b : p.b < p.H.blks.length
  o : okL p.xs
  t : TV p.ks p.L
  l : p.xs.length < 1073741824
def De.f (p : De) : AV := .fn (.func 104) [] [.rp (fnKD p.kd p.L) 0]
def De.del (p : De) (e : E) : Bool := delB p.kd p.ks e.1
def De.a (p : De) : List AV := [.ex p.b 0 6 0 p.xs.length, p.f]
def De.i (p : De) : Option Nat := p.xs.findIdx? p.del
structure DiI (p : De) (i : Nat) (e : Env) (h : Hp) : Prop where
  len : e.length = 19
  a0 : aget e 0 = .ex p.b 0 6 0 p.xs.length
  a1 : aget e 1 = p.f
  a6 : aget e 6 = .ex p.b 0 6 0 p.xs.length
  a7 : aget e 7 = .v (.int .i64 (p.xs.length : Int))
  a8 : aget e 8 = .v (.int .i64 (i : Int))
  hp : h = HB p.H p.b p.xs
theorem De.wo {p : De} (hp : p.ok) {e : E} (he : okE e) : woQ [enc e, .rp (fnKD p.kd p.L) 0] = some (.v (.bool (p.del e))) := woQ_eq (p := ⟨e, p.kd, p.ks, p.L⟩) ⟨he, hp.t⟩
theorem fnKD_bare (b : Bool) (L : AV) : (AV.rp (fnKD b L) 0).bare = some (.rp (fnKD b L) 0) := rfl
set_option maxHeartbeats 4000000 in
set_option maxRecDepth 100000 in
theorem ifun_ok (p : De) (hp : p.ok) : CallOk (cfgP de1) 120 p.a (HB p.H p.b p.xs) (.v (.int .i64 (match p.i with | some i => (i : Int) | none => -1))) (HB p.H p.b p.xs) := by
  have hw := fun e he => De.wo hp (e := e) he
  obtain ⟨W, hW⟩ : ∃ W, (match p.i with | some i => (i : Int) | none => -1) = W := ⟨_, rfl⟩
  rw [hW]
  have hb := hp.b
  have hl := hp.l
  obtain ⟨n, hn0⟩ : ∃ n, p.xs.length = n := ⟨_, rfl⟩
  unfold De.a
  refine call_of_wk (call := noCall) (fn := Tryd.f120) (rs := [.tmp 4]) de1_ok noCall_ok (fns_cfg Tryd.func120 rfl) rfl rfl ?_
  intro env hl0 hargs
  have hn : env.length = 19 := hl0
  have h0 := hargs 0 _ rfl
  have h1 := hargs 1 _ rfl
  clear hargs hl0
  refine wkT_of ?_
  rw [fe_self hn]
  (try simp -dsimp (disch := omega) only [h0, h1, len_m, AS, avals, apairs, bareP, AV.bare, AV.bares, Nat.reduceEqDiff, Nat.reduceLT, Nat.reduceAdd, ↓reduceIte, reduceCtorEq, resA, resA1, resVal, Nat.reduceLeDiff, nb_cfg, Nat.reduceBEq, AX, Int.reduceLT, Int.reduceLE, Int.reduceEq, Int.reduceAdd, Int.reduceSub, Int.reduceMul, Int.reduceNeg, Int.reduceNe])
  refine wt_loop (m := n) (fun q e h => ∃ i, i + q = n ∧ (∀ j x, j < i → p.xs[j]? = some x → p.del x = false) ∧ DiI p i e h) ?_ ?_
  · clear hn h0 h1
    rintro q e h ⟨i, hi, hno, hn, h0, h1, h6, h7, h8, rfl⟩
    rw [fe_self hn]
    rw [hn0] at h0 h6 h7
    simp only [De.f] at h1
    cases q with
    | zero =>
      obtain rfl : i = n := by omega
      have hnn : p.i = none := by
        unfold De.i
        rw [List.findIdx?_eq_none_iff]
        intro x hx
        obtain ⟨j, hj⟩ := List.getElem?_of_mem hx
        exact hno j x (by have := (List.getElem?_eq_some_iff.1 hj).1; omega) hj
      have hWn : W = -1 := by rw [← hW, hnn]
      subst hWn
      (try simp -dsimp (disch := omega) only [h0, h1, h6, h7, h8, AS, avals, apairs, bareP, AV.bare, AV.bares, Nat.reduceEqDiff, Nat.reduceLT, Nat.reduceAdd, ↓reduceIte, reduceCtorEq, resA, resA1, resVal, Nat.reduceLeDiff, nb_cfg, Nat.reduceBEq, AX, Int.reduceLT, Int.reduceLE, Int.reduceEq, Int.reduceAdd, Int.reduceSub, Int.reduceMul, Int.reduceNeg, Int.reduceNe])
    | succ q =>
      obtain ⟨x, hx⟩ : ∃ x, p.xs[i]? = some x := ⟨p.xs[i]'(by omega), List.getElem?_eq_getElem (by omega)⟩
      have hox : okE x := hp.o x (List.mem_of_getElem? hx)
      have hwx := hw x hox
      have l1 := HB_get hx
      have mi := mix (prim := de1) (b := p.b) (i := i) (len := n) (k := .i64) (by omega)
      have ew : (i : Int) + 1 = ((i + 1 : Nat) : Int) := by omega
      have di : decide ((i : Int) < (n : Int)) = true := decide_eq_true (by omega)
      have hfb := fnKD_bare p.kd p.L
      cases hd : p.del x with
      | true =>
        rw [hd] at hwx
        have hnn : p.i = some i := by
          unfold De.i
          rw [List.findIdx?_eq_some_iff_getElem]
          obtain ⟨hl', he⟩ := List.getElem?_eq_some_iff.1 hx
          refine ⟨hl', by rw [he]; exact hd, fun j hj => ?_⟩
          rw [hno j p.xs[j] hj (List.getElem?_eq_getElem (by omega))]
          simp
        have hWn : W = (i : Int) := by rw [← hW, hnn]
        subst hWn
        (try simp -dsimp (disch := omega) only [di, h0, h1, h6, h7, h8, mi, HB_blk hb, l1, mp48e hox, ct_prim de1_104, enc_bare hox, hfb, hwx, AS, avals, apairs, bareP, AV.bare, AV.bares, Nat.reduceEqDiff, Nat.reduceLT, Nat.reduceAdd, ↓reduceIte, reduceCtorEq, resA, resA1, resVal, Nat.reduceLeDiff, nb_cfg, Nat.reduceBEq, AX, Int.reduceLT, Int.reduceLE, Int.reduceEq, Int.reduceAdd, Int.reduceSub, Int.reduceMul, Int.reduceNeg, Int.reduceNe])
      | false =>
        rw [hd] at hwx
        (try simp -dsimp (disch := omega) only [di, h0, h1, h6, h7, h8, mi, HB_blk hb, l1, mp48e hox, ct_prim de1_104, enc_bare hox, hfb, hwx, wrap64, ew, AS, avals, apairs, bareP, AV.bare, AV.bares, Nat.reduceEqDiff, Nat.reduceLT, Nat.reduceAdd, ↓reduceIte, reduceCtorEq, resA, resA1, resVal, Nat.reduceLeDiff, nb_cfg, Nat.reduceBEq, AX, Int.reduceLT, Int.reduceLE, Int.reduceEq, Int.reduceAdd, Int.reduceSub, Int.reduceMul, Int.reduceNeg, Int.reduceNe])
        refine ⟨q, by omega, i + 1, by omega, ?_, fe_len, ?_, ?_, ?_, ?_, ?_, rfl⟩
        case refine_1 =>
          intro j y hj hy
          rcases Nat.lt_or_ge j i with hj' | hj'
          · exact hno j y hj' hy
          · obtain rfl : j = i := by omega
            rw [hx] at hy
            injection hy with hy
            rw [← hy]
            exact hd
        all_goals (try simp -dsimp (disch := omega) only [h0, h1, h6, h7, h8, hn0, De.f, AS, avals, apairs, bareP, AV.bare, AV.bares, Nat.reduceEqDiff, Nat.reduceLT, Nat.reduceAdd, ↓reduceIte, reduceCtorEq, resA, resA1, resVal, Nat.reduceLeDiff, nb_cfg, Nat.reduceBEq, AX, Int.reduceLT, Int.reduceLE, Int.reduceEq, Int.reduceAdd, Int.reduceSub, Int.reduceMul, Int.reduceNeg, Int.reduceNe])
  · refine ⟨0, by omega, (fun j x hj => by omega), fe_len, ?_, ?_, ?_, ?_, ?_, rfl⟩
    all_goals (try simp -dsimp (disch := omega) only [h0, h1, hn0, AS, avals, apairs, bareP, AV.bare, AV.bares, Nat.reduceEqDiff, Nat.reduceLT, Nat.reduceAdd, ↓reduceIte, reduceCtorEq, resA, resA1, resVal, Nat.reduceLeDiff, nb_cfg, Nat.reduceBEq, AX, Int.reduceLT, Int.reduceLE, Int.reduceEq, Int.reduceAdd, Int.reduceSub, Int.reduceMul, Int.reduceNeg, Int.reduceNe])
    all_goals rfl
theorem De.inj {p q : De} (hp : p.ok) (hq : q.ok) (ha : p.a = q.a) (hh : HB p.H p.b p.xs = HB q.H q.b q.xs) : p.xs = q.xs ∧ p.kd = q.kd ∧ p.ks = q.ks ∧ p.L = q.L ∧ p.b = q.b ∧ ∀ zs, HB p.H p.b zs = HB q.H q.b zs := by
  injection ha with e1 e
  injection e with e2 _
  injection e1 with e1 _ _ _ e3
  injection e2 with _ _ e2
  injection e2 with e2 _
  injection e2 with e2 _
  obtain ⟨h1, h2⟩ := fnKD_inj e2
  have ht := hp.t
  rw [h2] at ht
  have hx := HB_inj hp.b (by rw [e1]; exact hq.b) (by rw [hh, e1])
  refine ⟨hx.1, h1, ht.inj hq.t, h2, e1, fun zs => ?_⟩
  rw [hx.2 zs, e1]
noncomputable def ifT := relT 120 De.ok De.a (fun p => HB p.H p.b p.xs) (fun p => .v (.int .i64 (match p.i with | some i => (i : Int) | none => -1))) (fun p => HB p.H p.b p.xs)
theorem ifT_ok : CallsOk (cfgP de1) ifT := relT_ok (fns_cfg Tryd.func120 rfl) rfl ifun_ok
theorem ifT_eq {p : De} (hp : p.ok) : ifT 120 p.a (HB p.H p.b p.xs) = some (.v (.int .i64 (match p.i with | some i => (i : Int) | none => -1)), HB p.H p.b p.xs) :=
  relT_eq (f0 := 120) (X := De.ok) (a := De.a) (h := fun p => HB p.H p.b p.xs) (r := fun p => .v (.int .i64 (match p.i with | some i => (i : Int) | none => -1))) (h' := fun p => HB p.H p.b p.xs) (fun p q hp hq ha hh => by
    obtain ⟨h1, h2, h3, h4, h5, h6⟩ := De.inj hp hq ha hh
    have hd : p.del = q.del := by funext e; unfold De.del; rw [h2, h3]
    refine ⟨?_, by rw [h6, h1]⟩
    unfold De.i
    rw [h1, hd]) p hp
/-! ### DeleteFunc itself -/
def exH (H : Hp) (ext : List Blk) : Hp := { H with blks := H.blks ++ ext }
theorem exH_nil (H : Hp) : exH H [] = H := by cases H; simp [exH]
theorem exH_len {H : Hp} {ext : List Blk} : (exH H ext).blks.length = H.blks.length + ext.length := by simp [exH]
section
variable {prim : FuncId → Option (List AV → Option AV)}
theorem HB_al {H : Hp} {b : Nat} {xs : List E} {ext : List Blk} (hb : b < H.blks.length) : allocA (cfgP prim) 48 false (HB (exH H ext) b xs) = some (.ptr (H.blks.length + ext.length) 0 0 0, HB (exH H (ext ++ [⟨0, 6, [z6]⟩])) b xs, 4) := by
  have hz : zeroA (cfgP prim) 48 = some z6 := by kernel_rfl
  have hf : z6.cells.all AV.flat = true := rfl
  have hg : genOf (cfgP prim) 48 = 0 := by kernel_rfl
  simp only [allocA, hz, Option.bind_some, hf, if_true, hg, Bool.false_eq_true, if_false]
  have hb2 : b < (H.blks ++ ext).length := by rw [List.length_append]; omega
  simp only [HB, exH, List.length_set, List.length_append]
  rw [← List.append_assoc, List.set_append_left _ _ hb2]
  rfl
theorem HB_stx {H : Hp} {b : Nat} {xs : List E} {ext : List Blk} {y : E} (hb : b < H.blks.length) (hy : okE y) : storeA (cfgP prim) 48 (H.blks.length + ext.length) 0 0 0 (enc y) (HB (exH H (ext ++ [⟨0, 6, [z6]⟩])) b xs) = some (HB (exH H (ext ++ [⟨0, 6, [enc y]⟩])) b xs) := by
  have hc : (cfgP prim).csz 48 = some 6 := by kernel_rfl
  have hb2 : b < (H.blks ++ ext).length := by rw [List.length_append]; omega
  have e1 : ∀ z : Blk, HB (exH H (ext ++ [z])) b xs = { toks := H.toks, blks := (H.blks ++ ext).set b ⟨0, 6, xs.map enc⟩ ++ [z] } := by
    intro z
    simp only [HB, exH]
    rw [← List.append_assoc, List.set_append_left _ _ hb2]
  rw [e1, e1]
  have hl : ((H.blks ++ ext).set b ⟨0, 6, xs.map enc⟩).length = H.blks.length + ext.length := by simp
  have := store_all (C := cfgP prim) (t := 48) (b := H.blks.length + ext.length) (n := 6) (x := str y.1 :: y.2) (y := [str [], .v (.int .i64 0), .v (.int .i64 0), str [], .v (.slice none 0 0), .v (.slice none 0 0)]) (H := { toks := H.toks, blks := (H.blks ++ ext).set b ⟨0, 6, xs.map enc⟩ ++ [⟨0, 6, [z6]⟩] }) (by rw [← hl]; simp [z6]) (by rw [hc, List.length_cons, hy.1]) (by simp [hy.1]) (enc_flat hy)
  rw [show enc y = .agg (str y.1 :: y.2) from rfl, this]
  rw [← hl]
  simp
theorem HB_bkx {H : Hp} {b : Nat} {xs : List E} {ext : List Blk} {y : E} (hb : b < H.blks.length) : blkAt (HB (exH H (ext ++ [⟨0, 6, [enc y]⟩])) b xs) (H.blks.length + ext.length) 0 = some ⟨0, 6, [enc y]⟩ := by
  have hb2 : b < (H.blks ++ ext).length := by rw [List.length_append]; omega
  have e1 : HB (exH H (ext ++ [⟨0, 6, [enc y]⟩])) b xs = { toks := H.toks, blks := (H.blks ++ ext).set b ⟨0, 6, xs.map enc⟩ ++ [⟨0, 6, [enc y]⟩] } := by
    simp only [HB, exH]
    rw [← List.append_assoc, List.set_append_left _ _ hb2]
  have hl : ((H.blks ++ ext).set b ⟨0, 6, xs.map enc⟩).length = H.blks.length + ext.length := by simp
  rw [e1]
  unfold blkAt
  rw [← hl]
  simp
theorem sl_ex {b n : Nat} {lo hi : Option AV} {l h : Nat} (hl : optIdx lo 0 = some l) (hh : optIdx hi n = some h) (h1 : l ≤ h) (h2 : h ≤ n) : sliceA (cfgP prim) 37 (.ex b 0 6 0 n) lo hi none = some (if l = h ∧ l ≠ 0 then .ro [] else .ex b 0 6 (0 + l) (h - l)) := by
  have he : elemT (cfgP prim) 37 = some 48 := by kernel_rfl
  have hc : (cfgP prim).csz 48 = some 6 := by kernel_rfl
  simp only [sliceA, he, Option.bind_some, hc, hl, hh]
  rw [if_pos ⟨h1, h2, trivial⟩]
theorem clr {b off n : Nat} {H : Hp} {xs : List AV} (hb : blkAt H b 0 = some ⟨0, 6, xs⟩) (h : off + n ≤ xs.length) : clearA (cfgP prim) #[37] [.ex b 0 6 off n] H = some (.tup [], { H with blks := H.blks.set b ⟨0, 6, xs.take off ++ List.replicate n z6 ++ xs.drop (off + n)⟩ }) := by
  have he : elemT (cfgP prim) 37 = some 48 := by kernel_rfl
  have hc : (cfgP prim).csz 48 = some 6 := by kernel_rfl
  have hz : zeroA (cfgP prim) 48 = some z6 := by kernel_rfl
  have hzf : z6.cells.length = 6 ∧ z6.cells.all AV.flat = true := ⟨rfl, rfl⟩
  simp only [clearA, List.getElem?_toArray, List.getElem?_cons_zero, he, hb, hz, hc]
  rw [if_pos ⟨h, trivial, hzf.1, hzf.2⟩]
end
end Go.Proofs.YtjejeijldllloaaDoor

/- Chapter 2: DeleteFunc: its walk. -/
namespace Go.Proofs.YtjejeijldllloaaDoor
open Go.AM
def De.kept (p : De) (j : Nat) : List E := (p.xs.take j).filter fun e => !p.del e
def De.keep (p : De) : List E := p.xs.filter fun e => !p.del e
def De.ext (p : De) (i0 j : Nat) : List Blk := ((p.xs.take j).drop (i0 + 1)).map fun e => ⟨0, 6, [enc e]⟩
def De.H1 (p : De) : Hp := match p.i with
  | none => HB p.H p.b p.xs
  | some i0 => HB (exH p.H (p.ext i0 p.xs.length)) p.b (p.keep ++ List.replicate (p.xs.length - p.keep.length) zE)
def De.r (p : De) : AV := .ex p.b 0 6 0 p.keep.length
structure DfI (p : De) (i0 j : Nat) (e : Env) (h : Hp) : Prop where
  len : e.length = 42
  a0 : aget e 0 = .ex p.b 0 6 0 p.xs.length
  a1 : aget e 1 = p.f
  a5 : aget e 5 = .v (.int .i64 ((p.kept j).length : Int))
  a6 : aget e 6 = .v (.int .i64 (j : Int))
  lt : (p.kept j).length < j
  hp : h = HB (exH p.H (p.ext i0 j)) p.b (p.kept j ++ p.xs.drop (p.kept j).length)
theorem HB_clr {H : Hp} {b i n : Nat} {A B : List E} (hA : A.length = i) (hB : i + B.length = n) : ({ HB H b (A ++ B) with blks := (HB H b (A ++ B)).blks.set b ⟨0, 6, ((A ++ B).map enc).take i ++ List.replicate (n - i) z6 ++ ((A ++ B).map enc).drop (i + (n - i))⟩ } : Hp) = HB H b (A ++ List.replicate (n - i) zE) := by
  have h1 : ((A ++ B).map enc).take i = A.map enc := by rw [List.map_append, List.take_append_of_le_length (by simp [hA]), List.take_of_length_le (by simp [hA])]
  have h2 : ((A ++ B).map enc).drop (i + (n - i)) = [] := List.drop_of_length_le (by simp; omega)
  rw [h1, h2]
  simp only [HB, List.set_set, List.append_nil, List.map_append, List.map_replicate]
  rfl
set_option maxHeartbeats 8000000 in
set_option maxRecDepth 100000 in
theorem delf_ok (p : De) (hp : p.ok) : CallOk (cfgP de1) 103 p.a (HB p.H p.b p.xs) p.r p.H1 := by
  have hw := fun e he => De.wo hp (e := e) he
  have ci := ifT_eq hp
  have hb := hp.b
  have hl := hp.l
  have hfb := fnKD_bare p.kd p.L
  have r7 : (cfgP de1).roBox 103 7 = false := rfl
  unfold De.a De.f at ci
  cases hi : p.i with
  | none =>
    have hk : p.keep = p.xs := by
      unfold De.keep
      rw [List.filter_eq_self]
      intro x hx
      unfold De.i at hi
      rw [List.findIdx?_eq_none_iff] at hi
      rw [hi x hx]
      rfl
    have hH : p.H1 = HB p.H p.b p.xs := by unfold De.H1; rw [hi]
    rw [hH]
    unfold De.r De.a De.f
    rw [hk]
    rw [hi] at ci
    simp only at ci
    refine call_of_wk (call := ifT) (fn := Tryd.f103) (rs := [.tmp 4]) de1_ok ifT_ok (fns_cfg Tryd.func103 rfl) rfl rfl ?_
    intro env hl0 hargs
    have hn : env.length = 42 := hl0
    have h0 := hargs 0 _ rfl
    have h1 := hargs 1 _ rfl
    clear hargs hl0
    refine wkT_of ?_
    rw [fe_self hn]
    (try simp -dsimp (disch := omega) only [h0, h1, ct_own (C := cfgP de1) (f := 120) rfl rfl, ci, AS, avals, apairs, bareP, AV.bare, AV.bares, Nat.reduceEqDiff, Nat.reduceLT, Nat.reduceAdd, ↓reduceIte, reduceCtorEq, resA, resA1, resVal, Nat.reduceLeDiff, nb_cfg, Nat.reduceBEq, AX, Int.reduceLT, Int.reduceLE, Int.reduceEq, Int.reduceAdd, Int.reduceSub, Int.reduceMul, Int.reduceNeg, Int.reduceNe])
  | some i0 =>
    have hH : p.H1 = HB (exH p.H (p.ext i0 p.xs.length)) p.b (p.keep ++ List.replicate (p.xs.length - p.keep.length) zE) := by unfold De.H1; rw [hi]
    rw [hH]
    rw [hi] at ci
    simp only at ci
    unfold De.i at hi
    rw [List.findIdx?_eq_some_iff_getElem] at hi
    obtain ⟨hil, hd0, hbef⟩ := hi
    have hk0 : p.kept (i0 + 1) = p.xs.take i0 := by
      unfold De.kept
      rw [List.take_add_one, List.getElem?_eq_getElem hil, List.filter_append]
      have h1 : (p.xs.take i0).filter (fun e => !p.del e) = p.xs.take i0 := by
        rw [List.filter_eq_self]
        intro x hx
        obtain ⟨j, hj⟩ := List.getElem?_of_mem hx
        have hjl := (List.getElem?_eq_some_iff.1 hj).1
        rw [List.length_take] at hjl
        rw [List.getElem?_take, if_pos (by omega)] at hj
        obtain ⟨hjl', rfl⟩ := List.getElem?_eq_some_iff.1 hj
        have := hbef j (by omega)
        simpa using this
      rw [h1]
      simp [hd0]
    have hk0l : (p.kept (i0 + 1)).length = i0 := by rw [hk0, List.length_take]; omega
    have dn : decide ((i0 : Int) = -1) = false := decide_eq_false (by omega)
    have ei : (i0 : Int) + 1 = ((i0 + 1 : Nat) : Int) := by omega
    unfold De.a De.f
    refine call_of_wk (call := ifT) (fn := Tryd.f103) (rs := [.tmp 4]) de1_ok ifT_ok (fns_cfg Tryd.func103 rfl) rfl rfl ?_
    intro env hl0 hargs
    have hn : env.length = 42 := hl0
    have h0 := hargs 0 _ rfl
    have h1 := hargs 1 _ rfl
    clear hargs hl0
    refine wkT_of ?_
    rw [fe_self hn]
    (try simp -dsimp (disch := omega) only [h0, h1, ct_own (C := cfgP de1) (f := 120) rfl rfl, ci, dn, wrap64, ei, AS, avals, apairs, bareP, AV.bare, AV.bares, Nat.reduceEqDiff, Nat.reduceLT, Nat.reduceAdd, ↓reduceIte, reduceCtorEq, resA, resA1, resVal, Nat.reduceLeDiff, nb_cfg, Nat.reduceBEq, AX, Int.reduceLT, Int.reduceLE, Int.reduceEq, Int.reduceAdd, Int.reduceSub, Int.reduceMul, Int.reduceNeg, Int.reduceNe])
    refine wt_loop (m := p.xs.length - (i0 + 1)) (fun q e h => ∃ j, j + q = p.xs.length ∧ i0 + 1 ≤ j ∧ DfI p i0 j e h) ?_ ?_
    · clear hn h0 h1 ci
      rintro q e h ⟨j, hj, hij, hn, h0, h1, h5, h6, hlt, rfl⟩
      rw [fe_self hn]
      obtain ⟨n, hn0⟩ : ∃ n, p.xs.length = n := ⟨_, rfl⟩
      rw [hn0] at hj hl
      have hbx : p.b < (exH p.H (p.ext i0 j)).blks.length := by rw [exH_len]; omega
      obtain ⟨K, hK⟩ : ∃ K, p.kept j = K := ⟨_, rfl⟩
      obtain ⟨i, hi⟩ : ∃ i, K.length = i := ⟨_, rfl⟩
      have hcl : (K ++ p.xs.drop i).length = n := by rw [List.length_append, List.length_drop, hn0, hi]; rw [hK, hi] at hlt; omega
      rw [hK, hi] at h5 hlt ⊢
      rw [hn0] at h0
      simp only [De.f] at h1
      cases q with
      | zero =>
        obtain rfl : j = n := by omega
        have hkk : p.keep = K := by
          rw [← hK]
          unfold De.keep De.kept
          rw [List.take_of_length_le (by omega)]
        have dj : decide ((j : Int) < (j : Int)) = false := decide_eq_false (by omega)
        have s1 := sl_ex (prim := de1) (b := p.b) (n := j) (lo := some (.v (.int .i64 (i : Int)))) (hi := none) (l := i) (h := j) (by simp [optIdx, idx]) rfl (by omega) (Nat.le_refl _)
        rw [if_neg (by omega), Nat.zero_add] at s1
        have s2 := sl_ex (prim := de1) (b := p.b) (n := j) (lo := none) (hi := some (.v (.int .i64 (i : Int)))) (l := 0) (h := i) rfl (by simp [optIdx, idx]) (Nat.zero_le _) (by omega)
        rw [if_neg (by omega), Nat.zero_add, Nat.sub_zero] at s2
        have c1 := clr (prim := de1) (off := i) (n := j - i) (HB_blk (xs := K ++ p.xs.drop i) hbx) (by rw [List.length_map, hcl]; omega)
        rw [HB_clr hi (by rw [List.length_drop]; omega)] at c1
        rw [hn0, hkk, hi]
        unfold De.r
        rw [hkk, hi]
        (try simp -dsimp (disch := omega) only [h0, h1, h5, h6, len_m, dj, s1, s2, c1, AS, avals, apairs, bareP, AV.bare, AV.bares, Nat.reduceEqDiff, Nat.reduceLT, Nat.reduceAdd, ↓reduceIte, reduceCtorEq, resA, resA1, resVal, Nat.reduceLeDiff, nb_cfg, Nat.reduceBEq, AX, Int.reduceLT, Int.reduceLE, Int.reduceEq, Int.reduceAdd, Int.reduceSub, Int.reduceMul, Int.reduceNeg, Int.reduceNe])
      | succ q =>
        obtain ⟨x, hx⟩ : ∃ x, p.xs[j]? = some x := ⟨p.xs[j]'(by omega), List.getElem?_eq_getElem (by omega)⟩
        have hox : okE x := hp.o x (List.mem_of_getElem? hx)
        have hwx := hw x hox
        have hcx : (K ++ p.xs.drop i)[j]? = some x := by
          rw [List.getElem?_append_right (by omega), List.getElem?_drop, hi, show i + (j - i) = j by omega]
          exact hx
        have hoc : okL (K ++ p.xs.drop i) := okL_append.2 ⟨fun y hy => hp.o y (List.mem_of_mem_take (List.mem_filter.1 (by rw [← hK] at hy; exact hy)).1), fun y hy => hp.o y (List.mem_of_mem_drop hy)⟩
        have l1 := HB_get hcx
        have mj := mix (prim := de1) (b := p.b) (i := j) (len := n) (k := .i64) (by omega)
        have mi := mix (prim := de1) (b := p.b) (i := i) (len := n) (k := .i64) (by omega)
        have bk := HB_blk (xs := K ++ p.xs.drop i) hbx
        have al := HB_al (prim := de1) (xs := K ++ p.xs.drop i) (ext := p.ext i0 j) hb
        have st := HB_stx (prim := de1) (xs := K ++ p.xs.drop i) (ext := p.ext i0 j) hb hox
        have bx := HB_bkx (xs := K ++ p.xs.drop i) (ext := p.ext i0 j) (y := x) hb
        have hex : p.ext i0 (j + 1) = p.ext i0 j ++ [⟨0, 6, [enc x]⟩] := by
          unfold De.ext
          rw [List.take_add_one, hx, List.drop_append_of_le_length (by rw [List.length_take]; omega)]
          simp
        have hbx2 : p.b < (exH p.H (p.ext i0 (j + 1))).blks.length := by rw [exH_len]; omega
        rw [← hex] at st bx
        obtain ⟨q7, hq7⟩ : ∃ q7, p.H.blks.length + (p.ext i0 j).length = q7 := ⟨_, rfl⟩
        rw [hq7] at al st bx
        have ew : (j : Int) + 1 = ((j + 1 : Nat) : Int) := by omega
        have ew2 : (i : Int) + 1 = ((i + 1 : Nat) : Int) := by omega
        have dj : decide ((j : Int) < (n : Int)) = true := decide_eq_true (by omega)
        have hkn : p.kept (j + 1) = K ++ (if p.del x then [] else [x]) := by
          rw [← hK]
          unfold De.kept
          rw [List.take_add_one, hx, List.filter_append]
          cases hdx : p.del x <;> simp [hdx]
        cases hd : p.del x with
        | true =>
          rw [hd] at hwx hkn
          rw [if_pos rfl, List.append_nil] at hkn
          (try simp -dsimp (disch := omega) only [dj, h0, h1, h5, h6, len_m, mj, bk, l1, mp48e hox, r7, al, st, bx, List.getElem?_cons_zero, ct_prim de1_104, enc_bare hox, hfb, hwx, Bool.not_true, wrap64, ew, AS, avals, apairs, bareP, AV.bare, AV.bares, Nat.reduceEqDiff, Nat.reduceLT, Nat.reduceAdd, ↓reduceIte, reduceCtorEq, resA, resA1, resVal, Nat.reduceLeDiff, nb_cfg, Nat.reduceBEq, AX, Int.reduceLT, Int.reduceLE, Int.reduceEq, Int.reduceAdd, Int.reduceSub, Int.reduceMul, Int.reduceNeg, Int.reduceNe])
          refine ⟨q, by omega, j + 1, by omega, by omega, fe_len, ?_, ?_, ?_, ?_, by rw [hkn, hi]; omega, by rw [hkn, hi]⟩
          all_goals (try simp -dsimp (disch := omega) only [h0, h1, h5, h6, hn0, De.f, hkn, hi, AS, avals, apairs, bareP, AV.bare, AV.bares, Nat.reduceEqDiff, Nat.reduceLT, Nat.reduceAdd, ↓reduceIte, reduceCtorEq, resA, resA1, resVal, Nat.reduceLeDiff, nb_cfg, Nat.reduceBEq, AX, Int.reduceLT, Int.reduceLE, Int.reduceEq, Int.reduceAdd, Int.reduceSub, Int.reduceMul, Int.reduceNeg, Int.reduceNe])
        | false =>
          rw [hd] at hwx hkn
          rw [if_neg (by decide)] at hkn
          have hkl : (p.kept (j + 1)).length = i + 1 := by rw [hkn, List.length_append, hi]; rfl
          have s1 := HB_store (prim := de1) (H := exH p.H (p.ext i0 (j + 1))) (i := i) hbx2 hox hoc (by omega)
          have hset : (K ++ p.xs.drop i).set i x = p.kept (j + 1) ++ p.xs.drop (i + 1) := by
            rw [hkn, List.set_append_right _ _ (by omega), hi, Nat.sub_self]
            have hil' : i < p.xs.length := by omega
            rw [List.drop_eq_getElem_cons hil', List.set_cons_zero]
            simp
          rw [hset] at s1
          (try simp -dsimp (disch := omega) only [dj, h0, h1, h5, h6, len_m, mj, mi, bk, l1, mp48e hox, r7, al, st, bx, List.getElem?_cons_zero, ct_prim de1_104, enc_bare hox, hfb, hwx, Bool.not_false, s1, wrap64, ew, ew2, AS, avals, apairs, bareP, AV.bare, AV.bares, Nat.reduceEqDiff, Nat.reduceLT, Nat.reduceAdd, ↓reduceIte, reduceCtorEq, resA, resA1, resVal, Nat.reduceLeDiff, nb_cfg, Nat.reduceBEq, AX, Int.reduceLT, Int.reduceLE, Int.reduceEq, Int.reduceAdd, Int.reduceSub, Int.reduceMul, Int.reduceNeg, Int.reduceNe])
          refine ⟨q, by omega, j + 1, by omega, by omega, fe_len, ?_, ?_, ?_, ?_, by rw [hkl]; omega, by rw [hkl]⟩
          all_goals (try simp -dsimp (disch := omega) only [h0, h1, h5, h6, hn0, De.f, hkl, AS, avals, apairs, bareP, AV.bare, AV.bares, Nat.reduceEqDiff, Nat.reduceLT, Nat.reduceAdd, ↓reduceIte, reduceCtorEq, resA, resA1, resVal, Nat.reduceLeDiff, nb_cfg, Nat.reduceBEq, AX, Int.reduceLT, Int.reduceLE, Int.reduceEq, Int.reduceAdd, Int.reduceSub, Int.reduceMul, Int.reduceNeg, Int.reduceNe])
    · refine ⟨i0 + 1, by omega, Nat.le_refl _, fe_len, ?_, ?_, ?_, ?_, by omega, ?_⟩
      case refine_5 =>
        have he : p.ext i0 (i0 + 1) = [] := by
          unfold De.ext
          rw [List.drop_of_length_le (by rw [List.length_take]; omega)]
          rfl
        rw [he, exH_nil, hk0l, hk0, List.take_append_drop]
      all_goals (try simp -dsimp (disch := omega) only [h0, h1, hk0l, AS, avals, apairs, bareP, AV.bare, AV.bares, Nat.reduceEqDiff, Nat.reduceLT, Nat.reduceAdd, ↓reduceIte, reduceCtorEq, resA, resA1, resVal, Nat.reduceLeDiff, nb_cfg, Nat.reduceBEq, AX, Int.reduceLT, Int.reduceLE, Int.reduceEq, Int.reduceAdd, Int.reduceSub, Int.reduceMul, Int.reduceNeg, Int.reduceNe])
      all_goals rfl
noncomputable def dfT := relT 103 De.ok De.a (fun p => HB p.H p.b p.xs) De.r De.H1
theorem dfT_ok : CallsOk (cfgP de1) dfT := relT_ok (fns_cfg Tryd.func103 rfl) rfl delf_ok
theorem ext_inj {H H' : Hp} {b : Nat} {ext : List Blk} (h : ∀ zs, HB H b zs = HB H' b zs) (hb : b < H.blks.length) (hb' : b < H'.blks.length) (zs : List E) : HB (exH H ext) b zs = HB (exH H' ext) b zs := by
  have h1 := h zs
  unfold HB at h1 ⊢
  injection h1 with h2 h3
  unfold exH
  simp only
  rw [List.set_append_left _ _ hb, List.set_append_left _ _ hb', h3, h2]
theorem dfT_eq {p : De} (hp : p.ok) : dfT 103 p.a (HB p.H p.b p.xs) = some (p.r, p.H1) :=
  relT_eq (f0 := 103) (X := De.ok) (a := De.a) (h := fun p => HB p.H p.b p.xs) (r := De.r) (h' := De.H1) (fun p q hp hq ha hh => by
    obtain ⟨h1, h2, h3, h4, h5, h6⟩ := De.inj hp hq ha hh
    have hd : p.del = q.del := by funext e; unfold De.del; rw [h2, h3]
    have hk : p.keep = q.keep := by unfold De.keep; rw [h1, hd]
    refine ⟨by unfold De.r; rw [hk, h5], ?_⟩
    have hi : p.i = q.i := by unfold De.i; rw [h1, hd]
    unfold De.H1
    rw [← hi]
    cases p.i with
    | none => simp only; rw [h6, h1]
    | some i0 =>
      simp only
      have he : p.ext i0 p.xs.length = q.ext i0 q.xs.length := by unfold De.ext; rw [h1]
      rw [he, hk, h1, ← h5]
      have hqb := hq.b
      rw [← h5] at hqb h6
      exact ext_inj h6 hp.b hqb _) p hp
end Go.Proofs.YtjejeijldllloaaDoor

/- Chapter 2: without, Keep, Drop. -/
namespace Go.Proofs.YtjejeijldllloaaDoor
open Go.AM
theorem sim_prim {p q : FuncId → Option (List AV → Option AV)} {G : Gs} {H : Hp} {W : World} (h : Sim (cfgP p) G H W) : Sim (cfgP q) G H W where
  base := h.base
  im := h.im
  lit := h.lit
  own := h.own
  tok := h.tok
  tokN := h.tokN
  blk := h.blk
  blkN := h.blkN
  gl := h.gl
theorem call_prim {p q : FuncId → Option (List AV → Option AV)} {f : FuncId} {xs : List AV} {H H' : Hp} {r : AV} (h : CallOk (cfgP p) f xs H r H') : CallOk (cfgP q) f xs H r H' := fun G W vs S rv =>
  (h G W vs (sim_prim S) rv).mono fun e W' ⟨y, he, G', r1, S', A⟩ => ⟨y, he, G', r1, sim_prim S', A⟩
theorem calls_prim {p q : FuncId → Option (List AV → Option AV)} {T : FuncId → List AV → Hp → Option (AV × Hp)} (h : CallsOk (cfgP p) T) : CallsOk (cfgP q) T :=
  ⟨fun f args H r H' hy => ⟨(h.ok f args H r H' hy).1, call_prim (h.ok f args H r H' hy).2⟩⟩
/-! ### Of nothing -/
theorem if0_ok (b kd : Bool) (L : AV) (H : Hp) : CallOk (cfgP de1) 120 [nilm b, .fn (.func 104) [] [.rp (fnKD kd L) 0]] H (.v (.int .i64 (-1))) H := by
  refine call_of_wk (call := noCall) (fn := Tryd.f120) (rs := [.tmp 4]) de1_ok noCall_ok (fns_cfg Tryd.func120 rfl) rfl rfl ?_
  intro env hl0 hargs
  have hn : env.length = 19 := hl0
  have h0 := hargs 0 _ rfl
  have h1 := hargs 1 _ rfl
  clear hargs hl0
  refine wkT_of ?_
  rw [fe_self hn]
  (try simp -dsimp (disch := omega) only [h0, h1, nilm_len, wt_loop_unfold, AS, avals, apairs, bareP, AV.bare, AV.bares, Nat.reduceEqDiff, Nat.reduceLT, Nat.reduceAdd, ↓reduceIte, reduceCtorEq, resA, resA1, resVal, Nat.reduceLeDiff, nb_cfg, Nat.reduceBEq, AX, Int.reduceLT, Int.reduceLE, Int.reduceEq, Int.reduceAdd, Int.reduceSub, Int.reduceMul, Int.reduceNeg, Int.reduceNe])
noncomputable def if0T := relT 120 (fun _ : (Bool × Bool) × AV × Hp => True) (fun p => [nilm p.1.1, .fn (.func 104) [] [.rp (fnKD p.1.2 p.2.1) 0]]) (fun p => p.2.2) (fun _ => .v (.int .i64 (-1))) (fun p => p.2.2)
theorem if0T_ok : CallsOk (cfgP de1) if0T := relT_ok (fns_cfg Tryd.func120 rfl) rfl fun p _ => if0_ok p.1.1 p.1.2 p.2.1 p.2.2
theorem if0T_eq (b kd : Bool) (L : AV) (H : Hp) : if0T 120 [nilm b, .fn (.func 104) [] [.rp (fnKD kd L) 0]] H = some (.v (.int .i64 (-1)), H) :=
  relT_eq (f0 := 120) (X := fun _ : (Bool × Bool) × AV × Hp => True) (a := fun p => [nilm p.1.1, .fn (.func 104) [] [.rp (fnKD p.1.2 p.2.1) 0]]) (h := fun p => p.2.2) (r := fun _ => .v (.int .i64 (-1))) (h' := fun p => p.2.2) (fun p q _ _ _ h => ⟨rfl, h⟩) ((b, kd), L, H) trivial
theorem df0_ok (b kd : Bool) (L : AV) (H : Hp) : CallOk (cfgP de1) 103 [nilm b, .fn (.func 104) [] [.rp (fnKD kd L) 0]] H (nilm b) H := by
  have c := if0T_eq b kd L H
  refine call_of_wk (call := if0T) (fn := Tryd.f103) (rs := [.tmp 4]) de1_ok if0T_ok (fns_cfg Tryd.func103 rfl) rfl rfl ?_
  intro env hl0 hargs
  have hn : env.length = 42 := hl0
  have h0 := hargs 0 _ rfl
  have h1 := hargs 1 _ rfl
  clear hargs hl0
  refine wkT_of ?_
  rw [fe_self hn]
  (try simp -dsimp (disch := omega) only [h0, h1, ct_own (C := cfgP de1) (f := 120) rfl rfl, c, AS, avals, apairs, bareP, AV.bare, AV.bares, Nat.reduceEqDiff, Nat.reduceLT, Nat.reduceAdd, ↓reduceIte, reduceCtorEq, resA, resA1, resVal, Nat.reduceLeDiff, nb_cfg, Nat.reduceBEq, AX, Int.reduceLT, Int.reduceLE, Int.reduceEq, Int.reduceAdd, Int.reduceSub, Int.reduceMul, Int.reduceNeg, Int.reduceNe])
noncomputable def df0T := relT 103 (fun _ : (Bool × Bool) × AV × Hp => True) (fun p => [nilm p.1.1, .fn (.func 104) [] [.rp (fnKD p.1.2 p.2.1) 0]]) (fun p => p.2.2) (fun p => nilm p.1.1) (fun p => p.2.2)
theorem df0T_ok : CallsOk (cfgP de1) df0T := relT_ok (fns_cfg Tryd.func103 rfl) rfl fun p _ => df0_ok p.1.1 p.1.2 p.2.1 p.2.2
theorem df0T_eq (b kd : Bool) (L : AV) (H : Hp) : df0T 103 [nilm b, .fn (.func 104) [] [.rp (fnKD kd L) 0]] H = some (nilm b, H) :=
  relT_eq (f0 := 103) (X := fun _ : (Bool × Bool) × AV × Hp => True) (a := fun p => [nilm p.1.1, .fn (.func 104) [] [.rp (fnKD p.1.2 p.2.1) 0]]) (h := fun p => p.2.2) (r := fun p => nilm p.1.1) (h' := fun p => p.2.2) (fun p q _ _ ha h => by
    injection ha with e1 _
    exact ⟨e1, h⟩) ((b, kd), L, H) trivial
/-! ### What stays -/
theorem fms_filter (f : List UInt8 → Bool) : ∀ {m : List (List UInt8 × GV)} {es : List E}, FMs m (es.map enc) → FMs (m.filter fun q => f q.1) ((es.filter fun e => f e.1).map enc)
  | [], [], _ => rfl
  | [], e :: es, h => by cases (show (e :: es).map enc = [] from h)
  | p :: r, [], h => by obtain ⟨y, ys, e, _⟩ := h; cases e
  | p :: r, e :: es, h => by
    obtain ⟨y, ys, h0, h1, h2⟩ := h
    injection h0 with h3 h4
    subst h3 h4
    have ih := fms_filter f h2
    have hk := fmp_key h1
    cases hf : f e.1 with
    | true =>
      simp only [List.filter_cons, hk, hf, if_true, List.map_cons]
      exact ⟨_, _, rfl, h1, ih⟩
    | false =>
      simp only [List.filter_cons, hk, hf, Bool.false_eq_true, if_false]
      exact ih
def keepR : AV → List E → AV
  | .agg [a, b, c, d, M], es => .agg [a, b, c, d, if someSl M then .ro (es.map enc) else M]
  | x, _ => x
structure Kp where
  v : GV
  x : AV
  es : List E
  kd : Bool
  ks : List (List UInt8)
  T : AV
structure Kp.ok (p : Kp) : Prop where
  f : FV p.v p.x
  s : p.v.sml
  m : memsA p.x = p.es.map enc
  t : TV p.ks p.T
  l : p.es.length < 1073741824
def Kp.args (p : Kp) : List AV := [p.x, fnKD p.kd p.T]
def Kp.stay (p : Kp) : List E := p.es.filter fun e => !delB p.kd p.ks e.1
def Kp.res (p : Kp) : AV := if p.v.kind = 5 then keepR p.x p.stay else p.x
/-- What it is. -/
def GV.keepG (b : Bool) (ks : List (List UInt8)) : GV → GV
  | .mk k n s l m => if k = 5 then .mk k n s l (m.filter fun q => !delB b ks q.1) else .mk k n s l m
theorem Kp.res_fv {p : Kp} (h : p.ok) : FV (p.v.keepG p.kd p.ks) p.res := by
  obtain ⟨v, x, es, kd, ks, T⟩ := p
  obtain ⟨hf, hs, hm, ht, hl⟩ := h
  simp only at hf hs hm ht hl
  cases v with
  | mk k n s l m =>
    by_cases k5 : k = 5
    · have hr : Kp.res ⟨.mk k n s l m, x, es, kd, ks, T⟩ = keepR x (es.filter fun e => !delB kd ks e.1) := by unfold Kp.res; exact if_pos k5
      have hv : (GV.mk k n s l m).keepG kd ks = .mk k n s l (m.filter fun q => !delB kd ks q.1) := if_pos k5
      rw [hr]
      show FV ((GV.mk k n s l m).keepG kd ks) _
      rw [hv]
      obtain ⟨L, M, xs, ys, rfl, hL, hM, k1, k2, b1, b2, f1, f2, sl, hl', hm', hv, hw⟩ := hf
      have hys : ys = es.map enc := by simpa [memsA, hM] using hm
      subst hys
      have hff := fms_filter (fun key => !delB kd ks key) hw
      have hfl := List.length_filter_le (fun q : List UInt8 × GV => !delB kd ks q.1) m
      rcases k2 with rfl | ⟨hsome, htv⟩
      · have he : es = [] := by
          injection hM with hM
          cases es with
          | nil => rfl
          | cons a b => cases hM
        subst he
        exact ⟨L, .v (.slice none 0 0), xs, [], rfl, hL, rfl, k1, .inl rfl, b1, rfl, f1, rfl, sl, hl', by omega, hv, hff⟩
      · have hk : keepR (.agg [.v (.int .i64 k), .v (.int .i64 n), str s, L, M]) (es.filter fun e => !delB kd ks e.1) = .agg [.v (.int .i64 k), .v (.int .i64 n), str s, L, .ro ((es.filter fun e => !delB kd ks e.1).map enc)] := by
          simp only [keepR, hsome, if_true]
        rw [hk]
        exact ⟨L, _, xs, _, rfl, hL, rfl, k1, .inr ⟨rfl, rfl⟩, b1, rfl, f1, rfl, sl, hl', by omega, hv, hff⟩
    · have hr : Kp.res ⟨.mk k n s l m, x, es, kd, ks, T⟩ = x := by unfold Kp.res; exact if_neg k5
      have hv : (GV.mk k n s l m).keepG kd ks = .mk k n s l m := if_neg k5
      rw [hr]
      show FV ((GV.mk k n s l m).keepG kd ks) _
      rw [hv]
      exact hf
section
variable {prim : FuncId → Option (List AV → Option AV)}
theorem o_al1 {b0 : Blk} : allocA (cfgP prim) 39 false (nH [b0]) = some (.ptr 1 0 0 0, nH [b0, ⟨0, 5, [z5]⟩], 4) := nH_alloc39 (prim := prim) (ext := [b0])
theorem o_st1 {b0 : Blk} {cs : List AV} (ext : List Blk) (hl : cs.length = 5) (hf : cs.all AV.flat = true) : storeA (cfgP prim) 39 1 0 0 0 (.agg cs) (nH (b0 :: ⟨0, 5, [z5]⟩ :: ext)) = some (nH (b0 :: ⟨0, 5, [.agg cs]⟩ :: ext)) := by
  have hc : (cfgP prim).csz 39 = some 5 := by kernel_rfl
  have := store_all (C := cfgP prim) (t := 39) (b := 1) (n := 5) (x := cs) (y := z5l) (H := nH (b0 :: ⟨0, 5, [z5]⟩ :: ext)) rfl (by rw [hc, hl]) (by simp [hl, z5l]) hf
  exact this
theorem gfp0 {b g i j : Nat} : fieldAddrA (cfgP prim) 39 (.ptr b g i j) 0 = some (.ptr b g i (j + 0)) := by kernel_rfl
theorem o_blk1 {b0 : Blk} {x : AV} {ext : List Blk} : blkAt (nH (b0 :: ⟨0, 5, [x]⟩ :: ext)) 1 0 = some ⟨0, 5, [x]⟩ := rfl
end
theorem fnKD_b (b : Bool) (L : AV) : (fnKD b L).bare = some (fnKD b L) ∧ (fnKD b L).cells.all AV.flat = true := by cases b <;> exact ⟨rfl, rfl⟩
noncomputable def woT := orT clT dfT
noncomputable def wo0T := orT c0T df0T
theorem calls_de {T : FuncId → List AV → Hp → Option (AV × Hp)} (h : CallsOk (cfgP w2) T) : CallsOk (cfgP de1) T := calls_prim h
theorem woT_ok : CallsOk (cfgP de1) woT := orT_ok (calls_de clT_ok) dfT_ok
theorem wo0T_ok : CallsOk (cfgP de1) wo0T := orT_ok (calls_de c0T_ok) df0T_ok
end Go.Proofs.YtjejeijldllloaaDoor

/- Chapter 2: without, Keep, Drop: their walks. -/
namespace Go.Proofs.YtjejeijldllloaaDoor
open Go.AM
theorem keepR_thaw {k n s L M : AV} {es : List E} {H : Hp} {b : Nat} {rest : List E} (hs : someSl M = true) (hb : blkAt H b 0 = some ⟨0, 6, (es ++ rest).map enc⟩) (hT : ∀ q ∈ es, okT q) (h1 : ∀ j, AV.thaw H (j + 1) k = some k) (h2 : ∀ j, AV.thaw H (j + 1) n = some n) (h3 : ∀ j, AV.thaw H (j + 1) s = some s) (h4 : ∀ j, AV.thaw H (j + 1) L = some L) :
    ∃ N, AV.thaw H N (.agg [k, n, s, L, .ex b 0 6 0 es.length]) = some (keepR (.agg [k, n, s, L, M]) es) := by
  have ht := thaws_enc (H := H) (n := 0) hT
  obtain ⟨N, hN⟩ : ∃ N, es.length + 0 + 10 = N := ⟨_, rfl⟩
  rw [hN] at ht
  have h5 : AV.thaw H (N + 1) (.ex b 0 6 0 es.length) = some (.ro (es.map enc)) := by
    have h2 : 0 + es.length ≤ ((es ++ rest).map enc).length ∧ True := ⟨by simp, trivial⟩
    rw [AV.thaw]
    simp only [hb]
    rw [if_pos h2, List.drop_zero, List.map_append, List.take_append_of_le_length (by simp), List.take_of_length_le (by simp), ht]
    rfl
  refine ⟨N + 7, ?_⟩
  show (AV.thaws H (N + 6) [k, n, s, L, .ex b 0 6 0 es.length]).map AV.agg = _
  rw [AV.thaws, h1, AV.thaws, h2, AV.thaws, h3, AV.thaws, h4, AV.thaws, h5, AV.thaws]
  simp only [keepR, hs, if_true, Option.map_some]
set_option maxHeartbeats 8000000 in
set_option maxRecDepth 100000 in
theorem without_ok (p : Kp) (hp : p.ok) : PureOk (cfgP de1) 80 p.args p.res := by
  obtain ⟨v, x, es, kd, ks, T⟩ := p
  obtain ⟨hf, hs, hm, ht, hl⟩ := hp
  simp only at hf hs hm ht hl
  have r2 : (cfgP de1).roBox 80 2 = false := rfl
  have r3 : (cfgP de1).roBox 80 3 = true := rfl
  have r4 : (cfgP de1).roBox 80 4 = false := rfl
  obtain ⟨fb, ff⟩ := fnKD_b kd T
  cases v with
  | mk k n s l m =>
    have hfv := hf
    obtain ⟨L, M, xs, ys, rfl, hL, hM, k1, k2, b1, b2, f1, f2, sl, hl', hm', hv, hw⟩ := hf
    have hys : ys = es.map enc := by simpa [memsA, hM] using hm
    subst hys
    obtain ⟨es', hes, ho, hT⟩ := fms_encs hw
    obtain rfl := encs_inj hes
    have e1 : ∀ (H : Hp) (x : Value) (j : Nat), AV.thaw H (j + 1) (.v x) = some (.v x) := fun _ _ _ => rfl
    have e2 : ∀ (H : Hp) (x : List UInt8) (j : Nat), AV.thaw H (j + 1) (str x) = some (str x) := fun _ _ _ => rfl
    obtain ⟨cs, hcs⟩ : ∃ cs : List AV, cs = [.v (.int .i64 k), .v (.int .i64 n), str s, L, M] := ⟨_, rfl⟩
    have l5 : cs.length = 5 := by rw [hcs]; rfl
    have hfl : cs.all AV.flat = true := by rw [hcs]; exact hfv.fl
    have g0 : cs[0]? = some (.v (.int .i64 k)) := by rw [hcs]; rfl
    have g4 : cs[4]? = some M := by rw [hcs]; rfl
    show PureOk (cfgP de1) 80 [.agg [.v (.int .i64 k), .v (.int .i64 n), str s, L, M], fnKD kd T] (if k = 5 then keepR (.agg [.v (.int .i64 k), .v (.int .i64 n), str s, L, M]) (es.filter fun e => !delB kd ks e.1) else .agg [.v (.int .i64 k), .v (.int .i64 n), str s, L, M])
    by_cases k5 : k = 5
    case neg =>
      rw [if_neg k5]
      have dk : decide (k = 5) = false := decide_eq_false k5
      have st := o_st1 (prim := de1) (b0 := ⟨0, 5, [.agg cs]⟩) [] l5 hfl
      have hth : AV.thaw (nH [⟨0, 5, [.agg cs]⟩, ⟨0, 5, [.agg cs]⟩]) 20 (.agg cs) = some (.agg cs) := by
        rw [hcs]
        exact thaw_val hfv _ 12
      rw [← hcs]
      refine pure_of_wk (call := noCall) (fn := Tryd.f80) (rs := [.cell 4 39]) de1_ok noCall_ok (fns_cfg Tryd.func80 rfl) rfl rfl ?_
      intro env hl0 hargs
      have hn : env.length = 15 := hl0
      have h0 := hargs 0 _ rfl
      have h1 := hargs 1 _ rfl
      clear hargs hl0
      refine wkT_of ?_
      rw [fe_self hn]
      (try simp -dsimp (disch := omega) only [h0, h1, r2, r3, r4, g39, bx_o l5 hfl, bxt_ro fb ff, o_al1, gfp0, vp3, o_blk, o_blk1, List.getElem?_cons_zero, cellsA, g0, dk, vp39 l5, st, AS, avals, apairs, bareP, AV.bare, AV.bares, Nat.reduceEqDiff, Nat.reduceLT, Nat.reduceAdd, ↓reduceIte, reduceCtorEq, resA, resA1, resVal, Nat.reduceLeDiff, nb_cfg, Nat.reduceBEq, AX, Int.reduceLT, Int.reduceLE, Int.reduceEq, Int.reduceAdd, Int.reduceSub, Int.reduceMul, Int.reduceNeg, Int.reduceNe])
      exact ⟨20, hth⟩
    rw [if_pos k5]
    have dk : decide (k = 5) = true := decide_eq_true k5
    by_cases he : es = []
    · subst he
      have c1 : wo0T 72 [M] (nH [⟨0, 5, [.agg cs]⟩, ⟨0, 5, [z5]⟩]) = some (nilm (someSl M), nH [⟨0, 5, [.agg cs]⟩, ⟨0, 5, [z5]⟩]) := orT_l (c0T_eq hM k2)
      have c2 : wo0T 103 [nilm (someSl M), .fn (.func 104) [] [.rp (fnKD kd T) 0]] (nH [⟨0, 5, [.agg cs]⟩, ⟨0, 5, [z5]⟩]) = some (nilm (someSl M), nH [⟨0, 5, [.agg cs]⟩, ⟨0, 5, [z5]⟩]) := orT_r (relT_none (by decide)) (df0T_eq _ _ _ _)
      obtain ⟨NM, hNM⟩ : ∃ NM, nilm (someSl M) = NM := ⟨_, rfl⟩
      have hN1 : NM.cells = [NM] ∧ NM.flat = true := by rw [← hNM]; cases someSl M <;> exact ⟨rfl, rfl⟩
      have hthM : ∀ H j, AV.thaw H (j + 1) NM = some (if someSl M then .ro [] else .v (.slice none 0 0)) := by intro H j; rw [← hNM]; cases someSl M <;> rfl
      rw [hNM] at c1 c2
      obtain ⟨cs', hcs'⟩ : ∃ cs' : List AV, cs' = [.v (.int .i64 k), .v (.int .i64 n), str s, L, NM] := ⟨_, rfl⟩
      have s1 := o_st (prim := de1) (t := 37) (j := 4) (x := NM) (cs := cs) (cs' := cs') [⟨0, 5, [z5]⟩] (by kernel_rfl) hN1.1 hN1.2 (by omega) (by rw [hcs, hcs']; rfl)
      have l5' : cs'.length = 5 := by rw [hcs']; rfl
      have hfl' : cs'.all AV.flat = true := by
        rw [hcs']
        simp only [List.all_cons, List.all_nil, f1, hN1.2]
        rfl
      have s2 := o_st1 (prim := de1) (b0 := ⟨0, 5, [.agg cs']⟩) [] l5' hfl'
      have hth : AV.thaw (nH [⟨0, 5, [.agg cs']⟩, ⟨0, 5, [.agg cs']⟩]) 20 (.agg cs') = some (keepR (.agg [.v (.int .i64 k), .v (.int .i64 n), str s, L, M]) []) := by
        rw [hcs']
        have hLt := thaw_sl k1 b1
        show (AV.thaws _ 19 [.v (.int .i64 k), .v (.int .i64 n), str s, L, NM]).map AV.agg = _
        rw [AV.thaws, e1, AV.thaws, e1, AV.thaws, e2, AV.thaws, hLt, AV.thaws, hthM, AV.thaws]
        simp only [keepR, Option.map_some]
        rcases k2 with rfl | ⟨h1, _⟩
        · rfl
        · simp only [h1, if_true]
          rfl
      have hfe : (([] : List E).filter fun e => !delB kd ks e.1) = [] := rfl
      rw [hfe, ← hcs]
      rw [← hcs] at hth
      refine pure_of_wk (call := wo0T) (fn := Tryd.f80) (rs := [.cell 4 39]) de1_ok wo0T_ok (fns_cfg Tryd.func80 rfl) rfl rfl ?_
      intro env hl0 hargs
      have hn : env.length = 15 := hl0
      have h0 := hargs 0 _ rfl
      have h1 := hargs 1 _ rfl
      clear hargs hl0
      refine wkT_of ?_
      rw [fe_self hn]
      (try simp -dsimp (disch := omega) only [h0, h1, r2, r3, r4, g39, bx_o l5 hfl, bxt_ro fb ff, o_al1, gfp0, gp4, vp3, vp37, o_blk, o_blk1, List.getElem?_cons_zero, cellsA, g0, g4, dk, ct_own (C := cfgP de1) (f := 72) rfl rfl, ct_own (C := cfgP de1) (f := 103) rfl rfl, c1, c2, s1, s2, vp39 l5, vp39 l5', AS, avals, apairs, bareP, AV.bare, AV.bares, Nat.reduceEqDiff, Nat.reduceLT, Nat.reduceAdd, ↓reduceIte, reduceCtorEq, resA, resA1, resVal, Nat.reduceLeDiff, nb_cfg, Nat.reduceBEq, AX, Int.reduceLT, Int.reduceLE, Int.reduceEq, Int.reduceAdd, Int.reduceSub, Int.reduceMul, Int.reduceNeg, Int.reduceNe])
      exact ⟨20, hth⟩
    · obtain ⟨e0, es0, rfl⟩ : ∃ a b, es = a :: b := by
        cases es with
        | nil => exact absurd rfl he
        | cons a b => exact ⟨a, b, rfl⟩
      have hsome : someSl M = true := by
        rcases k2 with rfl | ⟨h1, _⟩
        · cases hM
        · exact h1
      obtain ⟨es1, hes1⟩ : ∃ es1, e0 :: es0 = es1 := ⟨_, rfl⟩
      have c1 : woT 72 [M] (nH [⟨0, 5, [.agg cs]⟩, ⟨0, 5, [z5]⟩]) = some (.ex 2 0 6 0 (e0 :: es0).length, nH [⟨0, 5, [.agg cs]⟩, ⟨0, 5, [z5]⟩, ⟨0, 6, (e0 :: es0).map enc⟩]) := orT_l (clT_eq ⟨nH [⟨0, 5, [.agg cs]⟩, ⟨0, 5, [z5]⟩], M, e0, es0⟩ ⟨hM, ho, by show (e0 :: es0).length < _; omega⟩)
      have hdp : De.ok ⟨nH [⟨0, 5, [.agg cs]⟩, ⟨0, 5, [z5]⟩, ⟨0, 6, (e0 :: es0).map enc⟩], 2, e0 :: es0, kd, ks, T⟩ := ⟨by simp [nH], ho, ht, hl⟩
      have c2' := dfT_eq hdp
      obtain ⟨dp, hdp0⟩ : ∃ dp : De, dp = ⟨nH [⟨0, 5, [.agg cs]⟩, ⟨0, 5, [z5]⟩, ⟨0, 6, (e0 :: es0).map enc⟩], 2, e0 :: es0, kd, ks, T⟩ := ⟨_, rfl⟩
      rw [← hdp0] at c2'
      have hkeep : dp.keep = (e0 :: es0).filter fun e => !delB kd ks e.1 := by rw [hdp0]; rfl
      have hH1 : ∃ rest ext, dp.H1 = nH (⟨0, 5, [.agg cs]⟩ :: ⟨0, 5, [z5]⟩ :: ⟨0, 6, (dp.keep ++ rest).map enc⟩ :: ext) := by
        unfold De.H1
        cases hi : dp.i with
        | none =>
          have hk : dp.keep = dp.xs := by
            unfold De.keep
            rw [List.filter_eq_self]
            intro x hx
            unfold De.i at hi
            rw [List.findIdx?_eq_none_iff] at hi
            rw [hi x hx]
            rfl
          refine ⟨[], [], ?_⟩
          rw [hk, List.append_nil]
          simp only
          rw [hdp0]
          rfl
        | some i0 =>
          refine ⟨List.replicate (dp.xs.length - dp.keep.length) zE, dp.ext i0 dp.xs.length, ?_⟩
          simp only
          obtain ⟨X, hX⟩ : ∃ X, dp.keep ++ List.replicate (dp.xs.length - dp.keep.length) zE = X := ⟨_, rfl⟩
          obtain ⟨Y, hY⟩ : ∃ Y, dp.ext i0 dp.xs.length = Y := ⟨_, rfl⟩
          rw [hX, hY, hdp0]
          rfl
      obtain ⟨rest, ext, hH1⟩ := hH1
      have ha : dp.a = [.ex 2 0 6 0 (e0 :: es0).length, .fn (.func 104) [] [.rp (fnKD kd T) 0]] := by rw [hdp0]; rfl
      have hhb : HB dp.H dp.b dp.xs = nH [⟨0, 5, [.agg cs]⟩, ⟨0, 5, [z5]⟩, ⟨0, 6, (e0 :: es0).map enc⟩] := by rw [hdp0]; rfl
      have hr : dp.r = .ex 2 0 6 0 dp.keep.length := by
        have : dp.b = 2 := by rw [hdp0]
        unfold De.r
        rw [this]
      have c2 : woT 103 [.ex 2 0 6 0 (e0 :: es0).length, .fn (.func 104) [] [.rp (fnKD kd T) 0]] (nH [⟨0, 5, [.agg cs]⟩, ⟨0, 5, [z5]⟩, ⟨0, 6, (e0 :: es0).map enc⟩]) = some (.ex 2 0 6 0 dp.keep.length, nH (⟨0, 5, [.agg cs]⟩ :: ⟨0, 5, [z5]⟩ :: ⟨0, 6, (dp.keep ++ rest).map enc⟩ :: ext)) := by
        refine orT_r (relT_none (by decide)) ?_
        rw [← ha, ← hhb, c2', hr, hH1]
      have hTk : ∀ q ∈ dp.keep, okT q := fun q hq => by
        rw [hkeep] at hq
        exact (hT q (List.mem_filter.1 hq).1).1
      obtain ⟨K, hK⟩ : ∃ K, dp.keep = K := ⟨_, rfl⟩
      rw [hK] at c2 hTk hkeep
      clear hH1 hr ha hhb c2' hdp0 hdp hK
      rw [← hkeep]
      rw [hes1] at c1 c2
      obtain ⟨n1, hn1⟩ : ∃ n1, es1.length = n1 := ⟨_, rfl⟩
      rw [hn1] at c1 c2
      obtain ⟨cs', hcs'⟩ : ∃ cs' : List AV, cs' = [.v (.int .i64 k), .v (.int .i64 n), str s, L, .ex 2 0 6 0 K.length] := ⟨_, rfl⟩
      have s1 := o_st (prim := de1) (t := 37) (j := 4) (x := .ex 2 0 6 0 K.length) (cs := cs) (cs' := cs') (⟨0, 5, [z5]⟩ :: ⟨0, 6, (K ++ rest).map enc⟩ :: ext) (by kernel_rfl) rfl rfl (by omega) (by rw [hcs, hcs']; rfl)
      have l5' : cs'.length = 5 := by rw [hcs']; rfl
      have hfl' : cs'.all AV.flat = true := by
        rw [hcs']
        simp only [List.all_cons, List.all_nil, f1]
        rfl
      have s2 := o_st1 (prim := de1) (b0 := ⟨0, 5, [.agg cs']⟩) (⟨0, 6, (K ++ rest).map enc⟩ :: ext) l5' hfl'
      have hth : ∃ N, AV.thaw (nH (⟨0, 5, [.agg cs']⟩ :: ⟨0, 5, [.agg cs']⟩ :: ⟨0, 6, (K ++ rest).map enc⟩ :: ext)) N (.agg cs') = some (keepR (.agg [.v (.int .i64 k), .v (.int .i64 n), str s, L, M]) K) := by
        obtain ⟨H, hH⟩ : ∃ H, nH (⟨0, 5, [.agg cs']⟩ :: ⟨0, 5, [.agg cs']⟩ :: ⟨0, 6, (K ++ rest).map enc⟩ :: ext) = H := ⟨_, rfl⟩
        have hbk : blkAt H 2 0 = some ⟨0, 6, (K ++ rest).map enc⟩ := by rw [← hH]; rfl
        rw [hH, hcs']
        exact keepR_thaw hsome hbk hTk (fun j => e1 H _ j) (fun j => e1 H _ j) (fun j => e2 H _ j) (fun j => thaw_sl k1 b1 H j)
      obtain ⟨N, hth⟩ := hth
      rw [← hcs] at hth ⊢
      refine pure_of_wk (call := woT) (fn := Tryd.f80) (rs := [.cell 4 39]) de1_ok woT_ok (fns_cfg Tryd.func80 rfl) rfl rfl ?_
      intro env hl0 hargs
      have hn : env.length = 15 := hl0
      have h0 := hargs 0 _ rfl
      have h1 := hargs 1 _ rfl
      clear hargs hl0
      refine wkT_of ?_
      rw [fe_self hn]
      (try simp -dsimp (disch := omega) only [h0, h1, r2, r3, r4, g39, bx_o l5 hfl, bxt_ro fb ff, o_al1, gfp0, gp4, vp3, vp37, o_blk, o_blk1, List.getElem?_cons_zero, cellsA, g0, g4, dk, ct_own (C := cfgP de1) (f := 72) rfl rfl, ct_own (C := cfgP de1) (f := 103) rfl rfl, c1, c2, s1, s2, vp39 l5, vp39 l5', AS, avals, apairs, bareP, AV.bare, AV.bares, Nat.reduceEqDiff, Nat.reduceLT, Nat.reduceAdd, ↓reduceIte, reduceCtorEq, resA, resA1, resVal, Nat.reduceLeDiff, nb_cfg, Nat.reduceBEq, AX, Int.reduceLT, Int.reduceLE, Int.reduceEq, Int.reduceAdd, Int.reduceSub, Int.reduceMul, Int.reduceNeg, Int.reduceNe])
      exact ⟨N, hth⟩
end Go.Proofs.YtjejeijldllloaaDoor
