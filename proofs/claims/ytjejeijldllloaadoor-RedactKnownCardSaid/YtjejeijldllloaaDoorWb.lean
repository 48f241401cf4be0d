/- Contracts of functions, and plain facts about what they compute. -/
import Derived.Test.YtjejeijldllloaaDoorWa
set_option linter.unusedSimpArgs false
set_option linter.unusedVariables false
/- Chapter 2: members in their order: two that change places, ranges that change places. -/
namespace Go.Proofs.YtjejeijldllloaaDoor
open Go.AM
def s2P (g : List UInt8 → List UInt8 → AV) : List AV → Option AV
  | [x, y] => (dS x).bind fun a => (dS y).map fun b => g a b
  | _ => none
theorem s2P_eq {g : List UInt8 → List UInt8 → AV} {a b : List UInt8} : s2P g [str a, str b] = some (g a b) := by simp only [s2P, dS_str, Option.bind_some, Option.map_some]
theorem s2P_of {g : List UInt8 → List UInt8 → AV} {X : List AV → AV → Prop} (h : ∀ a b : List UInt8, X [str a, str b] (g a b)) : ∀ xs r, s2P g xs = some r → X xs r := by
  intro xs r hx
  match xs, hx with
  | [x, y], hx =>
    obtain ⟨a, ha, hx⟩ := Option.bind_eq_some_iff.1 hx
    obtain ⟨b, hb, rfl⟩ := Option.map_eq_some_iff.1 hx
    rw [dS_iff.1 ha, dS_iff.1 hb]
    exact h a b
def lessQ := s2P fun a b => .v (.bool (bl a b))
theorem lessQ_eq {a b : List UInt8} : lessQ [str a, str b] = some (.v (.bool (bl a b))) := s2P_eq
theorem less_ok (a b : List UInt8) : PureOk (cfgP fun _ => none) 24 [str a, str b] (.v (.bool (bl a b))) := by
  refine pure_of_wk (call := noCall) (fn := Tryd.f24) (rs := [.tmp 4]) cokN noCall_ok (fns_cfg Tryd.func24 rfl) rfl rfl ?_
  intro env hl0 hargs
  have hn : env.length = 8 := hl0
  have h0 := hargs 0 _ rfl
  have h1 := hargs 1 _ rfl
  clear hargs hl0
  refine wkT_of ?_
  rw [fe_self hn]
  simp -dsimp only [fe_get, fe_put, fe_len, upd_app, h0, h1, AS, bin_and, bin_or, bin_xor, avals, apairs, bareP, AV.bare, AV.bares, Nat.reduceEqDiff, Nat.reduceLT, Nat.reduceAdd, ↓reduceIte, reduceCtorEq, resA, resA1, resVal, Nat.reduceLeDiff, nb_cfg, Nat.reduceBEq]
  exact ⟨1, rfl⟩
/-- A member: its key, its other cells. -/
abbrev E := List UInt8 × List AV
def enc (p : E) : AV := .agg (str p.1 :: p.2)
def okE (p : E) : Prop := p.2.length = 5 ∧ AV.bares p.2 = some p.2 ∧ p.2.all AV.flat = true
theorem enc_inj {p q : E} (h : enc p = enc q) : p = q := by
  injection h with h
  injection h with h1 h2
  exact Prod.ext (str_inj h1) h2
theorem enc_cells (p : E) : (enc p).cells = str p.1 :: p.2 := rfl
theorem enc_bare {p : E} (h : okE p) : (enc p).bare = some (enc p) := by
  show (AV.bares (str p.1 :: p.2)).map AV.agg = _
  simp only [AV.bares, bare_s, h.2.1, Option.map_some]
  rfl
theorem enc_flat {p : E} (h : okE p) : (enc p).cells.all AV.flat = true := by
  rw [enc_cells, List.all_cons, h.2.2]; rfl
def cmpK (a b : List UInt8) : Int := if bl a b then -1 else if bl b a then 1 else 0
theorem cmpK_lt (a b : List UInt8) : decide (cmpK a b < 0) = bl a b := by
  unfold cmpK
  cases bl a b with
  | true => rfl
  | false => cases bl b a <;> rfl
noncomputable def w1 : FuncId → Option (List AV → Option AV) := tab [(24, lessQ)]
theorem w1_ok : (cfgP w1).Ok := cfg_ok (tab_ok ⟨prim_at Tryd.func24 (by kernel_rfl) rfl ((s2P_of less_ok)), trivial⟩)
theorem w1_24 : (cfgP w1).prim 24 = some lessQ := rfl
section
variable {prim : FuncId → Option (List AV → Option AV)}
theorem mf0 {x : AV} {j : Nat} : fieldAddrA (cfgP prim) 48 (.rp x j) 0 = some (.rp x (j + 0)) := by kernel_rfl
theorem mp9 {cs : List AV} {j : Nat} : partA (cfgP prim) 9 cs j = cs[j]? := by kernel_rfl
theorem mp48 {cs : List AV} (h : cs.length = 6) : partA (cfgP prim) 48 cs 0 = some (.agg cs) := by
  have h1 : isAggT (cfgP prim) 48 = some true := by kernel_rfl
  have h2 : (cfgP prim).csz 48 = some 6 := by kernel_rfl
  simp only [partA, h1, h2]
  rw [if_pos (by omega), List.drop_zero, ← h, List.take_length]
theorem mp48e {p : E} (h : okE p) : partA (cfgP prim) 48 (enc p).cells 0 = some (enc p) := mp48 (by rw [enc_cells, List.length_cons, h.1])
/-- The place of an element of a block. -/
theorem mix {b i len : Nat} {k : IntKind} (h : i < len) : indexAddrA (cfgP prim) 37 (.ex b 0 6 0 len) (.v (.int k (i : Int))) = some (.ptr b 0 i 0) := by
  have h0 : (0 : Int) ≤ i := by omega
  have hu : (cfgP prim).und 37 = some (.slice 48) := by kernel_rfl
  have hc : (cfgP prim).csz 48 = some 6 := by kernel_rfl
  simp only [indexAddrA, idx, h0, if_true, hu, hc, Int.toNat_natCast, h, and_self, Nat.zero_add]
end
theorem key_ok (p q : E) (hp : okE p) (hq : okE q) : PureOk (cfgP w1) 74 [enc p, enc q] (.v (.int .i64 (cmpK p.1 q.1))) := by
  have r1 : (cfgP w1).roBox 74 2 = true := rfl
  have r2 : (cfgP w1).roBox 74 3 = true := rfl
  have q1 := lessQ_eq (a := p.1) (b := q.1)
  have q2 := lessQ_eq (a := q.1) (b := p.1)
  unfold cmpK
  refine pure_of_wk (call := noCall) (fn := Tryd.f74) (rs := [.tmp 4]) w1_ok noCall_ok (fns_cfg Tryd.func74 rfl) rfl rfl ?_
  intro env hl0 hargs
  have hn : env.length = 17 := hl0
  have h0 := hargs 0 _ rfl
  have h1 := hargs 1 _ rfl
  clear hargs hl0
  refine wkT_of ?_
  rw [fe_self hn]
  (try simp -dsimp (disch := omega) only [h0, h1, r1, r2, bxt_ro (enc_bare hp) (enc_flat hp), bxt_ro (enc_bare hq) (enc_flat hq), mf0, mp9, enc_cells, Nat.zero_add, ct_prim w1_24, bare_s, q1, q2, AS, avals, apairs, bareP, AV.bare, AV.bares, Nat.reduceEqDiff, Nat.reduceLT, Nat.reduceAdd, ↓reduceIte, reduceCtorEq, resA, resA1, resVal, Nat.reduceLeDiff, nb_cfg, Nat.reduceBEq, AX, Int.reduceLT, Int.reduceLE, Int.reduceEq, Int.reduceAdd, Int.reduceSub, Int.reduceMul, Int.reduceNeg, Int.reduceNe]); (try (rw [ct_eq]; refine ⟨fun hc0 => ?_, fun hc0 => ?_⟩ <;> (try simp only [decide_eq_true_eq, decide_eq_false_iff_not, Bool.not_eq_true', Bool.not_eq_false', Bool.and_eq_true, Bool.and_eq_false_iff] at hc0) <;> ((try simp -dsimp (disch := omega) only [h0, h1, r1, r2, bxt_ro (enc_bare hp) (enc_flat hp), bxt_ro (enc_bare hq) (enc_flat hq), mf0, mp9, enc_cells, Nat.zero_add, ct_prim w1_24, bare_s, q1, q2, hc0, AS, avals, apairs, bareP, AV.bare, AV.bares, Nat.reduceEqDiff, Nat.reduceLT, Nat.reduceAdd, ↓reduceIte, reduceCtorEq, resA, resA1, resVal, Nat.reduceLeDiff, nb_cfg, Nat.reduceBEq, AX, Int.reduceLT, Int.reduceLE, Int.reduceEq, Int.reduceAdd, Int.reduceSub, Int.reduceMul, Int.reduceNeg, Int.reduceNe]); (try (rw [ct_eq]; refine ⟨fun hc1 => ?_, fun hc1 => ?_⟩ <;> (try simp only [decide_eq_true_eq, decide_eq_false_iff_not, Bool.not_eq_true', Bool.not_eq_false', Bool.and_eq_true, Bool.and_eq_false_iff] at hc1) <;> ((try simp -dsimp (disch := omega) only [h0, h1, r1, r2, bxt_ro (enc_bare hp) (enc_flat hp), bxt_ro (enc_bare hq) (enc_flat hq), mf0, mp9, enc_cells, Nat.zero_add, ct_prim w1_24, bare_s, q1, q2, hc0, hc1, AS, avals, apairs, bareP, AV.bare, AV.bares, Nat.reduceEqDiff, Nat.reduceLT, Nat.reduceAdd, ↓reduceIte, reduceCtorEq, resA, resA1, resVal, Nat.reduceLeDiff, nb_cfg, Nat.reduceBEq, AX, Int.reduceLT, Int.reduceLE, Int.reduceEq, Int.reduceAdd, Int.reduceSub, Int.reduceMul, Int.reduceNeg, Int.reduceNe]); (try (rw [ct_eq]; refine ⟨fun hc2 => ?_, fun hc2 => ?_⟩ <;> (try simp only [decide_eq_true_eq, decide_eq_false_iff_not, Bool.not_eq_true', Bool.not_eq_false', Bool.and_eq_true, Bool.and_eq_false_iff] at hc2) <;> ((try simp -dsimp (disch := omega) only [h0, h1, r1, r2, bxt_ro (enc_bare hp) (enc_flat hp), bxt_ro (enc_bare hq) (enc_flat hq), mf0, mp9, enc_cells, Nat.zero_add, ct_prim w1_24, bare_s, q1, q2, hc0, hc1, hc2, AS, avals, apairs, bareP, AV.bare, AV.bares, Nat.reduceEqDiff, Nat.reduceLT, Nat.reduceAdd, ↓reduceIte, reduceCtorEq, resA, resA1, resVal, Nat.reduceLeDiff, nb_cfg, Nat.reduceBEq, AX, Int.reduceLT, Int.reduceLE, Int.reduceEq, Int.reduceAdd, Int.reduceSub, Int.reduceMul, Int.reduceNeg, Int.reduceNe]))))))))))
  all_goals exact ⟨1, rfl⟩
noncomputable def keyP := relP (fun p : E × E => okE p.1 ∧ okE p.2) (fun p => [enc p.1, enc p.2]) (fun p => .v (.int .i64 (cmpK p.1.1 p.2.1)))
theorem keyP_eq {p q : E} (hp : okE p) (hq : okE q) : keyP [enc p, enc q] = some (.v (.int .i64 (cmpK p.1 q.1))) :=
  relP_eq (X := fun p : E × E => okE p.1 ∧ okE p.2) (a := fun p => [enc p.1, enc p.2]) (r := fun p => .v (.int .i64 (cmpK p.1.1 p.2.1))) (fun p q _ _ h => by
    injection h with h1 h2
    injection h2 with h2 _
    rw [enc_inj h1, enc_inj h2]) (p, q) ⟨hp, hq⟩
noncomputable def w2 : FuncId → Option (List AV → Option AV) := tab [(74, keyP)]
theorem w2_ok : (cfgP w2).Ok := cfg_ok (tab_ok ⟨prim_at Tryd.func74 (by kernel_rfl) rfl ((relP_ok fun p h => key_ok p.1 p.2 h.1 h.2)), trivial⟩)
theorem w2_74 : (cfgP w2).prim 74 = some keyP := rfl
/-! ### A block of members -/
def okL (xs : List E) : Prop := ∀ p ∈ xs, okE p
theorem okL_append {xs ys : List E} : okL (xs ++ ys) ↔ okL xs ∧ okL ys := by
  constructor
  · intro h
    exact ⟨fun p hp => h p (List.mem_append_left _ hp), fun p hp => h p (List.mem_append_right _ hp)⟩
  · rintro ⟨h1, h2⟩ p hp
    exact (List.mem_append.1 hp).elim (h1 p) (h2 p)
theorem okL_cons {x : E} {xs : List E} : okL (x :: xs) ↔ okE x ∧ okL xs := by
  constructor
  · intro h
    exact ⟨h x (by simp), fun p hp => h p (by simp [hp])⟩
  · rintro ⟨h1, h2⟩ p hp
    rcases List.mem_cons.1 hp with rfl | hp
    · exact h1
    · exact h2 p hp
theorem okL_nil : okL [] := fun _ h => by cases h
def HB (H : Hp) (b : Nat) (xs : List E) : Hp := { H with blks := H.blks.set b ⟨0, 6, xs.map enc⟩ }
theorem HB_at {H : Hp} {b : Nat} {xs : List E} (hb : b < H.blks.length) : (HB H b xs).blks[b]? = some ⟨0, 6, xs.map enc⟩ := by
  unfold HB
  simp [hb]
theorem HB_blk {H : Hp} {b : Nat} {xs : List E} (hb : b < H.blks.length) : blkAt (HB H b xs) b 0 = some ⟨0, 6, xs.map enc⟩ := by
  simp only [blkAt, HB_at hb, if_true]
theorem HB_get {xs : List E} {i : Nat} {p : E} (h : xs[i]? = some p) : (xs.map enc)[i]? = some (enc p) := by rw [List.getElem?_map, h]; rfl
theorem HB_inj {H H' : Hp} {b : Nat} {xs ys : List E} (hb : b < H.blks.length) (hb' : b < H'.blks.length) (h : HB H b xs = HB H' b ys) : xs = ys ∧ ∀ zs, HB H b zs = HB H' b zs := by
  have h1 : (HB H b xs).blks[b]? = (HB H' b ys).blks[b]? := by rw [h]
  rw [HB_at hb, HB_at hb'] at h1
  injection h1 with h1
  injection h1 with _ _ h1
  have hx : ∀ (xs ys : List E), xs.map enc = ys.map enc → xs = ys := by
    intro xs
    induction xs with
    | nil => intro ys h; cases ys with
      | nil => rfl
      | cons y ys => cases h
    | cons x xs ih => intro ys h; cases ys with
      | nil => cases h
      | cons y ys =>
        injection h with h1 h2
        rw [enc_inj h1, ih ys h2]
  refine ⟨hx _ _ h1, fun zs => ?_⟩
  unfold HB at h ⊢
  injection h with h2 h3
  have h4 : (H.blks.set b ⟨0, 6, xs.map enc⟩).set b ⟨0, 6, zs.map enc⟩ = (H'.blks.set b ⟨0, 6, ys.map enc⟩).set b ⟨0, 6, zs.map enc⟩ := by rw [h3]
  rw [List.set_set, List.set_set] at h4
  rw [h2, h4]
section
variable {prim : FuncId → Option (List AV → Option AV)}
theorem HB_store {H : Hp} {b i : Nat} {xs : List E} {p : E} (hb : b < H.blks.length) (hp : okE p) (hx : okL xs) (hi : i < xs.length) : storeA (cfgP prim) 48 b 0 i 0 (enc p) (HB H b xs) = some (HB H b (xs.set i p)) := by
  have hq : okE xs[i] := hx _ (List.getElem_mem hi)
  have h1 : (xs.map enc)[i]? = some (enc xs[i]) := HB_get (List.getElem?_eq_getElem hi)
  have hc : (cfgP prim).csz 48 = some 6 := by kernel_rfl
  have hl : (enc p).cells.length = 6 := by rw [enc_cells, List.length_cons, hp.1]
  have hf : some (enc p).cells.length = (cfgP prim).csz 48 ∧ (enc p).cells.all AV.flat = true := ⟨by rw [hc, hl], enc_flat hp⟩
  have hs : setCells (enc xs[i]) 0 (enc p).cells = some (enc p) := by
    have hql : (str xs[i].1 :: xs[i].2).length = 6 := by rw [List.length_cons, hq.1]
    show (if 0 + (enc p).cells.length ≤ (str xs[i].1 :: xs[i].2).length then some (AV.agg ((str xs[i].1 :: xs[i].2).take 0 ++ (enc p).cells ++ (str xs[i].1 :: xs[i].2).drop (0 + (enc p).cells.length))) else none) = _
    rw [if_pos (by omega), List.take_zero, List.nil_append, List.drop_eq_nil_of_le (by omega), List.append_nil]
    rfl
  simp only [storeA, HB_blk hb, h1]
  rw [if_pos hf, hs]
  simp only [Option.map_some, HB, List.set_set, List.map_set]
end
/-- Two elements that change places. -/
theorem sw2 (A B D : List E) (x y : E) : (A ++ x :: (B ++ y :: D))[A.length]? = some x ∧ (A ++ x :: (B ++ y :: D))[A.length + 1 + B.length]? = some y ∧
    ((A ++ x :: (B ++ y :: D)).set A.length y).set (A.length + 1 + B.length) x = A ++ y :: (B ++ x :: D) ∧
    ((A ++ x :: (B ++ y :: D)).set (A.length + 1 + B.length) x).set A.length y = A ++ y :: (B ++ x :: D) := by
  have e : ∀ x y : E, A ++ x :: (B ++ y :: D) = (A ++ x :: B) ++ y :: D := fun x y => by simp
  have hl : ∀ x : E, A.length + 1 + B.length = (A ++ x :: B).length := fun x => by simp; omega
  have st : ∀ (A D : List E) (x y : E), (A ++ x :: D).set A.length y = A ++ y :: D := fun A D x y => by
    rw [List.set_append_right _ _ (Nat.le_refl _), Nat.sub_self]; rfl
  refine ⟨by simp, by rw [e, hl x, List.getElem?_append_right (Nat.le_refl _), Nat.sub_self]; rfl, ?_, ?_⟩
  · rw [st, e y y, hl y, st, ← e]
  · rw [e x y, hl x, st, ← e, st]
structure Sw where
  H : Hp
  b : Nat
  P : List E
  U : List E
  M : List E
  V : List E
  Q : List E
def Sw.xs (p : Sw) : List E := p.P ++ p.U ++ p.M ++ p.V ++ p.Q
def Sw.ys (p : Sw) : List E := p.P ++ p.V ++ p.M ++ p.U ++ p.Q
def fkey : AV := .fn (.func 74) [] []
def Sw.a (p : Sw) : List AV := [.ex p.b 0 6 0 p.xs.length, .v (.int .i64 (p.P.length : Int)), .v (.int .i64 ((p.P.length + p.U.length + p.M.length : Nat) : Int)), .v (.int .i64 (p.U.length : Int)), fkey]
def Sw.ok (p : Sw) : Prop := p.b < p.H.blks.length ∧ okL p.xs ∧ p.U.length = p.V.length ∧ p.xs.length < 4611686018427387904
structure SwL (p : Sw) (m i : Nat) (e : Env) (h : Hp) : Prop where
  len : e.length = 38
  a0 : aget e 0 = .ex p.b 0 6 0 p.xs.length
  a1 : aget e 1 = .v (.int .i64 (p.P.length : Int))
  a2 : aget e 2 = .v (.int .i64 ((p.P.length + p.U.length + p.M.length : Nat) : Int))
  a3 : aget e 3 = .v (.int .i64 (p.U.length : Int))
  a10 : aget e 10 = .v (.int .i64 (i : Int))
  seg : ∃ U1 U2 V1 V2, p.U = U1 ++ U2 ∧ p.V = V1 ++ V2 ∧ U1.length = i ∧ V1.length = i ∧ h = HB p.H p.b (p.P ++ V1 ++ U2 ++ p.M ++ U1 ++ V2 ++ p.Q)
set_option maxHeartbeats 4000000 in
set_option maxRecDepth 100000 in
theorem swap_ok (p : Sw) (hp : p.ok) : CallOk (cfgP w2) 130 p.a (HB p.H p.b p.xs) (.tup []) (HB p.H p.b p.ys) := by
  obtain ⟨hb, hok, huv, hlen⟩ := hp
  have hxl : p.xs.length = p.P.length + p.U.length + p.M.length + p.V.length + p.Q.length := by unfold Sw.xs; simp only [List.length_append]
  unfold Sw.a
  refine call_of_wk (call := noCall) (fn := Tryd.f130) (rs := []) w2_ok noCall_ok (fns_cfg Tryd.func130 rfl) rfl rfl ?_
  intro env hl0 hargs
  have hn : env.length = 38 := hl0
  have h0 := hargs 0 _ rfl
  have h1 := hargs 1 _ rfl
  have h2 := hargs 2 _ rfl
  have h3 := hargs 3 _ rfl
  have h4 := hargs 4 _ rfl
  clear hargs hl0
  refine wkT_of ?_
  rw [fe_self hn]
  (try simp -dsimp (disch := omega) only [h0, AS, avals, apairs, bareP, AV.bare, AV.bares, Nat.reduceEqDiff, Nat.reduceLT, Nat.reduceAdd, ↓reduceIte, reduceCtorEq, resA, resA1, resVal, Nat.reduceLeDiff, nb_cfg, Nat.reduceBEq, AX, Int.reduceLT, Int.reduceLE, Int.reduceEq, Int.reduceAdd, Int.reduceSub, Int.reduceMul, Int.reduceNeg, Int.reduceNe])
  refine wt_loop (m := p.U.length) (fun m e h => ∃ i, i + m = p.U.length ∧ SwL p m i e h) ?_ ?_
  · clear hn h0 h1 h2 h3 h4
    rintro m e h ⟨i, hi, hn, h0, h1, h2, h3, h10, U1, U2, V1, V2, hU, hV, hU1, hV1, rfl⟩
    rw [fe_self hn]
    cases m with
    | zero =>
      obtain rfl : i = p.U.length := by omega
      have hu2 : U2 = [] := by
        have := congrArg List.length hU
        rw [List.length_append] at this
        exact List.length_eq_zero_iff.1 (by omega)
      have hv2 : V2 = [] := by
        have := congrArg List.length hV
        rw [List.length_append] at this
        exact List.length_eq_zero_iff.1 (by omega)
      subst hu2 hv2
      rw [List.append_nil] at hU hV
      (try simp -dsimp (disch := omega) only [h0, h1, h2, h3, h10, AS, avals, apairs, bareP, AV.bare, AV.bares, Nat.reduceEqDiff, Nat.reduceLT, Nat.reduceAdd, ↓reduceIte, reduceCtorEq, resA, resA1, resVal, Nat.reduceLeDiff, nb_cfg, Nat.reduceBEq, AX, Int.reduceLT, Int.reduceLE, Int.reduceEq, Int.reduceAdd, Int.reduceSub, Int.reduceMul, Int.reduceNeg, Int.reduceNe])
      unfold Sw.ys
      rw [hU, hV]
      simp
    | succ m =>
      have hu2 : U2.length = m + 1 := by
        have := congrArg List.length hU
        rw [List.length_append] at this
        omega
      have hv2 : V2.length = m + 1 := by
        have := congrArg List.length hV
        rw [List.length_append] at this
        omega
      obtain ⟨u, U2, rfl⟩ : ∃ u r, U2 = u :: r := by cases U2 with
        | nil => simp at hu2
        | cons u r => exact ⟨u, r, rfl⟩
      obtain ⟨v, V2, rfl⟩ : ∃ v r, V2 = v :: r := by cases V2 with
        | nil => simp at hv2
        | cons v r => exact ⟨v, r, rfl⟩
      obtain ⟨k1, k2, k3, _⟩ := sw2 (p.P ++ V1) (U2 ++ p.M ++ U1) (V2 ++ p.Q) u v
      have ecur : p.P ++ V1 ++ u :: U2 ++ p.M ++ U1 ++ v :: V2 ++ p.Q = (p.P ++ V1) ++ u :: ((U2 ++ p.M ++ U1) ++ v :: (V2 ++ p.Q)) := by simp
      have enew : p.P ++ (V1 ++ [v]) ++ U2 ++ p.M ++ (U1 ++ [u]) ++ V2 ++ p.Q = (p.P ++ V1) ++ v :: ((U2 ++ p.M ++ U1) ++ u :: (V2 ++ p.Q)) := by simp
      rw [ecur]
      have hlc : ((p.P ++ V1) ++ u :: ((U2 ++ p.M ++ U1) ++ v :: (V2 ++ p.Q))).length = p.xs.length := by
        rw [hxl, hU, hV]
        simp only [List.length_append, List.length_cons]
        omega
      have hokc : okL ((p.P ++ V1) ++ u :: ((U2 ++ p.M ++ U1) ++ v :: (V2 ++ p.Q))) := by
        unfold Sw.xs at hok
        rw [hU, hV] at hok
        simp only [okL_append, okL_cons] at hok ⊢
        grind
      have hul : U1.length + 1 + U2.length = p.U.length := by rw [hU]; simp only [List.length_append, List.length_cons]; omega
      obtain ⟨pa, hpa⟩ : ∃ pa, (p.P ++ V1).length = pa := ⟨_, rfl⟩
      obtain ⟨pb, hpb⟩ : ∃ pb, pa + 1 + (U2 ++ p.M ++ U1).length = pb := ⟨_, rfl⟩
      rw [hpa] at k1 k2 k3
      rw [hpb] at k2 k3
      have hpa' : pa = p.P.length + i := by rw [← hpa, List.length_append, hV1]
      have hpb' : pb = p.P.length + p.U.length + p.M.length + i := by
        rw [← hpb, hpa']
        simp only [List.length_append]
        omega
      obtain ⟨cur, hcur⟩ : ∃ cur, (p.P ++ V1) ++ u :: ((U2 ++ p.M ++ U1) ++ v :: (V2 ++ p.Q)) = cur := ⟨_, rfl⟩
      have hou : okE u := by simp only [okL_append, okL_cons] at hokc; grind
      have hov : okE v := by simp only [okL_append, okL_cons] at hokc; grind
      rw [hcur] at k1 k2 k3 hlc hokc ⊢
      have e1 : ((p.P.length : Int) + (i : Int)) = (pa : Int) := by omega
      have e2 : (((p.P.length + p.U.length + p.M.length : Nat) : Int) + (i : Int)) = (pb : Int) := by omega
      have ma := mix (prim := w2) (b := p.b) (i := pa) (len := p.xs.length) (k := .i64) (by omega)
      have mb := mix (prim := w2) (b := p.b) (i := pb) (len := p.xs.length) (k := .i64) (by omega)
      have l1 := HB_get k1
      have l2 := HB_get k2
      have s1 := HB_store (prim := w2) (H := p.H) (i := pa) hb hov hokc (by omega)
      have hok1 : okL (cur.set pa v) := fun q hq => by
        rcases List.mem_or_eq_of_mem_set hq with h | h
        · exact hokc q h
        · rw [h]; exact hov
      have s2 := HB_store (prim := w2) (H := p.H) (xs := cur.set pa v) (i := pb) hb hou hok1 (by rw [List.length_set]; omega)
      rw [k3] at s2
      (try simp -dsimp (disch := omega) only [h0, h1, h2, h3, h10, wrap64, e1, e2, ma, mb, HB_blk hb, l1, l2, mp48e hou, mp48e hov, s1, s2, AS, avals, apairs, bareP, AV.bare, AV.bares, Nat.reduceEqDiff, Nat.reduceLT, Nat.reduceAdd, ↓reduceIte, reduceCtorEq, resA, resA1, resVal, Nat.reduceLeDiff, nb_cfg, Nat.reduceBEq, AX, Int.reduceLT, Int.reduceLE, Int.reduceEq, Int.reduceAdd, Int.reduceSub, Int.reduceMul, Int.reduceNeg, Int.reduceNe])
      refine ⟨by kernel_rfl, m, by omega, i + 1, by omega, fe_len, ?_, ?_, ?_, ?_, ?_, U1 ++ [u], U2, V1 ++ [v], V2, by rw [hU]; simp, by rw [hV]; simp, by simp [hU1], by simp [hV1], by rw [enew]⟩
      all_goals (try simp -dsimp (disch := omega) only [h0, h1, h2, h3, h10, AS, avals, apairs, bareP, AV.bare, AV.bares, Nat.reduceEqDiff, Nat.reduceLT, Nat.reduceAdd, ↓reduceIte, reduceCtorEq, resA, resA1, resVal, Nat.reduceLeDiff, nb_cfg, Nat.reduceBEq, AX, Int.reduceLT, Int.reduceLE, Int.reduceEq, Int.reduceAdd, Int.reduceSub, Int.reduceMul, Int.reduceNeg, Int.reduceNe])
      all_goals rfl
  · refine ⟨0, by omega, fe_len, ?_, ?_, ?_, ?_, ?_, [], p.U, [], p.V, rfl, rfl, rfl, rfl, by unfold Sw.xs; simp⟩
    all_goals (try simp -dsimp (disch := omega) only [h0, h1, h2, h3, h4, AS, avals, apairs, bareP, AV.bare, AV.bares, Nat.reduceEqDiff, Nat.reduceLT, Nat.reduceAdd, ↓reduceIte, reduceCtorEq, resA, resA1, resVal, Nat.reduceLeDiff, nb_cfg, Nat.reduceBEq, AX, Int.reduceLT, Int.reduceLE, Int.reduceEq, Int.reduceAdd, Int.reduceSub, Int.reduceMul, Int.reduceNeg, Int.reduceNe])
    all_goals rfl
end Go.Proofs.YtjejeijldllloaaDoor

/- Chapter 2: a rotation. -/
namespace Go.Proofs.YtjejeijldllloaaDoor
open Go.AM
theorem Sw.inj {p q : Sw} (hp : p.ok) (hq : q.ok) (ha : p.a = q.a) (hh : HB p.H p.b p.xs = HB q.H q.b q.xs) : HB p.H p.b p.ys = HB q.H q.b q.ys := by
  unfold Sw.a at ha
  injection ha with a1 ha
  injection ha with a2 ha
  injection ha with a3 ha
  injection ha with a4 _
  injection a1 with e1 _ _ _ _
  injection a2 with a2; injection a2 with _ a2
  injection a3 with a3; injection a3 with _ a3
  injection a4 with a4; injection a4 with _ a4
  have n2 : p.P.length = q.P.length := by omega
  have n4 : p.U.length = q.U.length := by omega
  have n3 : p.M.length = q.M.length := by omega
  have n5 : p.V.length = q.V.length := by rw [← hp.2.2.1, ← hq.2.2.1, n4]
  rw [← e1] at hh ⊢
  obtain ⟨hx, hz⟩ := HB_inj hp.1 (by rw [e1]; exact hq.1) hh
  unfold Sw.xs at hx
  obtain ⟨hx, h5⟩ := List.append_inj hx (by simp only [List.length_append]; omega)
  obtain ⟨hx, h4⟩ := List.append_inj hx (by simp only [List.length_append]; omega)
  obtain ⟨hx, h3⟩ := List.append_inj hx (by simp only [List.length_append]; omega)
  obtain ⟨h1, h2⟩ := List.append_inj hx n2
  rw [hz]
  unfold Sw.ys
  rw [h1, h2, h3, h4, h5]
noncomputable def swT := relT 130 Sw.ok Sw.a (fun p => HB p.H p.b p.xs) (fun _ => .tup []) (fun p => HB p.H p.b p.ys)
theorem swT_ok : CallsOk (cfgP w2) swT := relT_ok (fns_cfg Tryd.func130 rfl) rfl fun p h => swap_ok p h
theorem swT_eq {p : Sw} (hp : p.ok) : swT 130 p.a (HB p.H p.b p.xs) = some (.tup [], HB p.H p.b p.ys) :=
  relT_eq (f0 := 130) (X := Sw.ok) (a := Sw.a) (h := fun p => HB p.H p.b p.xs) (r := fun _ => .tup []) (h' := fun p => HB p.H p.b p.ys) (fun p q hp hq ha hh => ⟨rfl, Sw.inj hp hq ha hh⟩) p hp
/-- .. said of what is handed in. -/
theorem swT_at {H : Hp} {b n : Nat} {P U M V Q : List E} {x y z : Int} (hb : b < H.blks.length) (ho : okL (P ++ U ++ M ++ V ++ Q)) (hl : U.length = V.length) (hn : (P ++ U ++ M ++ V ++ Q).length = n) (hn2 : n < 4611686018427387904)
    (hx : x = (P.length : Int)) (hy : y = ((P.length + U.length + M.length : Nat) : Int)) (hz : z = (U.length : Int)) :
    swT 130 [.ex b 0 6 0 n, .v (.int .i64 x), .v (.int .i64 y), .v (.int .i64 z), fkey] (HB H b (P ++ U ++ M ++ V ++ Q)) = some (.tup [], HB H b (P ++ V ++ M ++ U ++ Q)) := by
  subst hx hy hz hn
  exact swT_eq (p := ⟨H, b, P, U, M, V, Q⟩) ⟨hb, ho, hl, hn2⟩
structure Ro where
  H : Hp
  b : Nat
  P : List E
  U : List E
  V : List E
  Q : List E
def Ro.xs (p : Ro) : List E := p.P ++ p.U ++ p.V ++ p.Q
def Ro.ys (p : Ro) : List E := p.P ++ p.V ++ p.U ++ p.Q
def Ro.a (p : Ro) : List AV := [.ex p.b 0 6 0 p.xs.length, .v (.int .i64 (p.P.length : Int)), .v (.int .i64 ((p.P.length + p.U.length : Nat) : Int)), .v (.int .i64 ((p.P.length + p.U.length + p.V.length : Nat) : Int)), fkey]
def Ro.ok (p : Ro) : Prop := p.b < p.H.blks.length ∧ okL p.xs ∧ p.U ≠ [] ∧ p.V ≠ [] ∧ p.xs.length < 4611686018427387904
structure RoL (p : Ro) (m : Nat) (e : Env) (h : Hp) : Prop where
  len : e.length = 58
  a0 : aget e 0 = .ex p.b 0 6 0 p.xs.length
  a2 : aget e 2 = .v (.int .i64 ((p.P.length + p.U.length : Nat) : Int))
  a4 : aget e 4 = fkey
  seg : ∃ X U' V' Y, p.P.length + p.U.length = p.P.length + X.length + U'.length ∧ X ++ V' ++ U' ++ Y = p.V ++ p.U ∧ U' ≠ [] ∧ V' ≠ [] ∧ U'.length + V'.length = m ∧
    aget e 10 = .v (.int .i64 (U'.length : Int)) ∧ aget e 11 = .v (.int .i64 (V'.length : Int)) ∧ h = HB p.H p.b (p.P ++ X ++ U' ++ V' ++ Y ++ p.Q)
theorem okL_of {xs ys : List E} (h : ∀ a, a ∈ ys → a ∈ xs) (hx : okL xs) : okL ys := fun p hp => hx p (h p hp)
set_option maxHeartbeats 4000000 in
set_option maxRecDepth 100000 in
theorem rotate_ok (p : Ro) (hp : p.ok) : CallOk (cfgP w2) 126 p.a (HB p.H p.b p.xs) (.tup []) (HB p.H p.b p.ys) := by
  obtain ⟨hb, hok, hu0, hv0, hlen⟩ := hp
  have hxl : p.xs.length = p.P.length + p.U.length + p.V.length + p.Q.length := by unfold Ro.xs; simp only [List.length_append]
  have hup := List.length_pos_iff.2 hu0
  have hvp := List.length_pos_iff.2 hv0
  have i0 : ((p.P.length + p.U.length : Nat) : Int) - (p.P.length : Int) = (p.U.length : Int) := by omega
  have j0 : ((p.P.length + p.U.length + p.V.length : Nat) : Int) - ((p.P.length + p.U.length : Nat) : Int) = (p.V.length : Int) := by omega
  unfold Ro.a
  refine call_of_wk (call := swT) (fn := Tryd.f126) (rs := []) w2_ok swT_ok (fns_cfg Tryd.func126 rfl) rfl rfl ?_
  intro env hl0 hargs
  have hn : env.length = 58 := hl0
  have h0 := hargs 0 _ rfl
  have h1 := hargs 1 _ rfl
  have h2 := hargs 2 _ rfl
  have h3 := hargs 3 _ rfl
  have h4 := hargs 4 _ rfl
  clear hargs hl0
  refine wkT_of ?_
  rw [fe_self hn]
  (try simp -dsimp (disch := omega) only [h0, h1, h2, h3, h4, wrap64, i0, j0, AS, avals, apairs, bareP, AV.bare, AV.bares, Nat.reduceEqDiff, Nat.reduceLT, Nat.reduceAdd, ↓reduceIte, reduceCtorEq, resA, resA1, resVal, Nat.reduceLeDiff, nb_cfg, Nat.reduceBEq, AX, Int.reduceLT, Int.reduceLE, Int.reduceEq, Int.reduceAdd, Int.reduceSub, Int.reduceMul, Int.reduceNeg, Int.reduceNe])
  refine wt_loop (m := p.U.length + p.V.length) (fun m e h => RoL p m e h) ?_ ?_
  · clear hn h0 h1 h2 h3 h4
    rintro m e h ⟨hn, h0, h2, h4, X, U', V', Y, s1, s2, s3, s4, s5, h10, h11, rfl⟩
    rw [fe_self hn]
    have hup' := List.length_pos_iff.2 s3
    have hvp' := List.length_pos_iff.2 s4
    have hl2 := congrArg List.length s2
    simp only [List.length_append] at hl2
    have hmem : ∀ q, q ∈ p.P ++ X ++ U' ++ V' ++ Y ++ p.Q → q ∈ p.xs := by
      intro q hq
      have h2 : q ∈ X ++ V' ++ U' ++ Y ↔ q ∈ p.V ++ p.U := by rw [s2]
      unfold Ro.xs
      simp only [List.mem_append] at h2 hq ⊢
      grind
    have hokc := okL_of hmem hok
    rcases Nat.lt_trichotomy U'.length V'.length with hlt | heq | hgt
    · obtain ⟨V1, V2, rfl, hV2⟩ : ∃ V1 V2, V' = V1 ++ V2 ∧ V2.length = U'.length := ⟨V'.take (V'.length - U'.length), V'.drop (V'.length - U'.length), (List.take_append_drop _ _).symm, by rw [List.length_drop]; omega⟩
      have hv1 : V1 ≠ [] := by
        intro e
        subst e
        simp at hlt
        omega
      have hll : V1.length + V2.length = (V1 ++ V2).length := (List.length_append).symm
      have c := swT_at (H := p.H) (b := p.b) (n := p.xs.length) (P := p.P ++ X) (U := U') (M := V1) (V := V2) (Q := Y ++ p.Q)
        (x := ((p.P.length + p.U.length : Nat) : Int) - (U'.length : Int)) (y := ((p.P.length + p.U.length : Nat) : Int) + ((V1 ++ V2).length : Int) - (U'.length : Int)) (z := (U'.length : Int)) hb (okL_of (fun q hq => by simp only [List.mem_append] at hq ⊢; grind) hokc) hV2.symm (by rw [hxl]; simp only [List.length_append] at *; omega) hlen (by simp only [List.length_append]; omega) (by simp only [List.length_append]; omega) rfl
      have ec : p.P ++ X ++ U' ++ (V1 ++ V2) ++ Y ++ p.Q = p.P ++ X ++ U' ++ V1 ++ V2 ++ (Y ++ p.Q) := by simp
      have en : p.P ++ X ++ V2 ++ V1 ++ U' ++ (Y ++ p.Q) = p.P ++ X ++ V2 ++ V1 ++ (U' ++ Y) ++ p.Q := by simp
      rw [en] at c
      rw [ec]
      (try simp -dsimp (disch := omega) only [h0, h2, h4, h10, h11, wrap64, ct_own (C := cfgP w2) (f := 130) rfl rfl, c, AS, avals, apairs, bareP, AV.bare, AV.bares, Nat.reduceEqDiff, Nat.reduceLT, Nat.reduceAdd, ↓reduceIte, reduceCtorEq, resA, resA1, resVal, Nat.reduceLeDiff, nb_cfg, Nat.reduceBEq, AX, Int.reduceLT, Int.reduceLE, Int.reduceEq, Int.reduceAdd, Int.reduceSub, Int.reduceMul, Int.reduceNeg, Int.reduceNe])
      refine ⟨V2.length + V1.length, by omega, fe_len, ?_, ?_, ?_, X, V2, V1, U' ++ Y, by omega, by rw [← s2]; simp, ?_, hv1, rfl, ?_, ?_, rfl⟩
      case refine_4 => intro e; rw [e] at hV2; simp at hV2; omega
      all_goals (try simp -dsimp (disch := omega) only [h0, h2, h4, h10, h11, AS, avals, apairs, bareP, AV.bare, AV.bares, Nat.reduceEqDiff, Nat.reduceLT, Nat.reduceAdd, ↓reduceIte, reduceCtorEq, resA, resA1, resVal, Nat.reduceLeDiff, nb_cfg, Nat.reduceBEq, AX, Int.reduceLT, Int.reduceLE, Int.reduceEq, Int.reduceAdd, Int.reduceSub, Int.reduceMul, Int.reduceNeg, Int.reduceNe])
      · exact congrArg (fun z => AV.v (Value.int IntKind.i64 z)) (by omega)
      · exact congrArg (fun z => AV.v (Value.int IntKind.i64 z)) (by omega)
    · have c := swT_at (H := p.H) (b := p.b) (n := p.xs.length) (P := p.P ++ X) (U := U') (M := []) (V := V') (Q := Y ++ p.Q)
        (x := ((p.P.length + p.U.length : Nat) : Int) - (U'.length : Int)) (y := ((p.P.length + p.U.length : Nat) : Int)) (z := (U'.length : Int)) hb (okL_of (fun q hq => by simp only [List.mem_append] at hq ⊢; grind) hokc) heq (by rw [hxl]; simp only [List.length_append, List.length_nil] at *; omega) hlen (by simp only [List.length_append]; omega) (by simp only [List.length_append, List.length_nil]; omega) rfl
      have ec : p.P ++ X ++ U' ++ V' ++ Y ++ p.Q = p.P ++ X ++ U' ++ [] ++ V' ++ (Y ++ p.Q) := by simp
      have en : p.P ++ X ++ V' ++ [] ++ U' ++ (Y ++ p.Q) = p.ys := by
        unfold Ro.ys
        rw [show p.P ++ p.V ++ p.U ++ p.Q = p.P ++ (p.V ++ p.U) ++ p.Q by simp, ← s2]
        simp
      rw [en] at c
      rw [ec]
      have d1 : decide ((U'.length : Int) = (V'.length : Int)) = true := decide_eq_true (by omega)
      (try simp -dsimp (disch := omega) only [h0, h2, h4, h10, h11, d1, wrap64, ct_own (C := cfgP w2) (f := 130) rfl rfl, c, AS, avals, apairs, bareP, AV.bare, AV.bares, Nat.reduceEqDiff, Nat.reduceLT, Nat.reduceAdd, ↓reduceIte, reduceCtorEq, resA, resA1, resVal, Nat.reduceLeDiff, nb_cfg, Nat.reduceBEq, AX, Int.reduceLT, Int.reduceLE, Int.reduceEq, Int.reduceAdd, Int.reduceSub, Int.reduceMul, Int.reduceNeg, Int.reduceNe])
    · obtain ⟨U1, U2, rfl, hU1⟩ : ∃ U1 U2, U' = U1 ++ U2 ∧ U1.length = V'.length := ⟨U'.take V'.length, U'.drop V'.length, (List.take_append_drop _ _).symm, by rw [List.length_take]; omega⟩
      have hu2 : U2 ≠ [] := by
        intro e
        subst e
        simp at hgt
        omega
      have hll : U1.length + U2.length = (U1 ++ U2).length := (List.length_append).symm
      have c := swT_at (H := p.H) (b := p.b) (n := p.xs.length) (P := p.P ++ X) (U := U1) (M := U2) (V := V') (Q := Y ++ p.Q)
        (x := ((p.P.length + p.U.length : Nat) : Int) - ((U1 ++ U2).length : Int)) (y := ((p.P.length + p.U.length : Nat) : Int)) (z := (V'.length : Int)) hb (okL_of (fun q hq => by simp only [List.mem_append] at hq ⊢; grind) hokc) hU1 (by rw [hxl]; simp only [List.length_append] at *; omega) hlen (by simp only [List.length_append] at *; omega) (by simp only [List.length_append] at *; omega) (by omega)
      have ec : p.P ++ X ++ (U1 ++ U2) ++ V' ++ Y ++ p.Q = p.P ++ X ++ U1 ++ U2 ++ V' ++ (Y ++ p.Q) := by simp
      have en : p.P ++ X ++ V' ++ U2 ++ U1 ++ (Y ++ p.Q) = p.P ++ (X ++ V') ++ U2 ++ U1 ++ Y ++ p.Q := by simp
      rw [en] at c
      rw [ec]
      (try simp -dsimp (disch := omega) only [h0, h2, h4, h10, h11, wrap64, ct_own (C := cfgP w2) (f := 130) rfl rfl, c, AS, avals, apairs, bareP, AV.bare, AV.bares, Nat.reduceEqDiff, Nat.reduceLT, Nat.reduceAdd, ↓reduceIte, reduceCtorEq, resA, resA1, resVal, Nat.reduceLeDiff, nb_cfg, Nat.reduceBEq, AX, Int.reduceLT, Int.reduceLE, Int.reduceEq, Int.reduceAdd, Int.reduceSub, Int.reduceMul, Int.reduceNeg, Int.reduceNe])
      refine ⟨U2.length + U1.length, by omega, fe_len, ?_, ?_, ?_, X ++ V', U2, U1, Y, by simp only [List.length_append] at *; omega, by rw [← s2]; simp, hu2, ?_, rfl, ?_, ?_, rfl⟩
      case refine_4 => intro e; rw [e] at hU1; simp at hU1; omega
      all_goals (try simp -dsimp (disch := omega) only [h0, h2, h4, h10, h11, AS, avals, apairs, bareP, AV.bare, AV.bares, Nat.reduceEqDiff, Nat.reduceLT, Nat.reduceAdd, ↓reduceIte, reduceCtorEq, resA, resA1, resVal, Nat.reduceLeDiff, nb_cfg, Nat.reduceBEq, AX, Int.reduceLT, Int.reduceLE, Int.reduceEq, Int.reduceAdd, Int.reduceSub, Int.reduceMul, Int.reduceNeg, Int.reduceNe])
      · exact congrArg (fun z => AV.v (Value.int IntKind.i64 z)) (by omega)
      · exact congrArg (fun z => AV.v (Value.int IntKind.i64 z)) (by omega)
  · refine ⟨fe_len, ?_, ?_, ?_, [], p.U, p.V, [], by simp, by simp, hu0, hv0, rfl, ?_, ?_, by unfold Ro.xs; simp⟩
    all_goals (try simp -dsimp (disch := omega) only [h0, h1, h2, h3, h4, AS, avals, apairs, bareP, AV.bare, AV.bares, Nat.reduceEqDiff, Nat.reduceLT, Nat.reduceAdd, ↓reduceIte, reduceCtorEq, resA, resA1, resVal, Nat.reduceLeDiff, nb_cfg, Nat.reduceBEq, AX, Int.reduceLT, Int.reduceLE, Int.reduceEq, Int.reduceAdd, Int.reduceSub, Int.reduceMul, Int.reduceNeg, Int.reduceNe])
end Go.Proofs.YtjejeijldllloaaDoor

/- Chapter 2: insertion sort. -/
namespace Go.Proofs.YtjejeijldllloaaDoor
open Go.AM
abbrev sE (xs : List E) : List E := sortK (fun p : E => p.1) xs
structure Is where
  H : Hp
  b : Nat
  P : List E
  S : List E
  Q : List E
def Is.xs (p : Is) : List E := p.P ++ p.S ++ p.Q
def Is.ys (p : Is) : List E := p.P ++ sE p.S ++ p.Q
def Is.a (p : Is) : List AV := [.ex p.b 0 6 0 p.xs.length, .v (.int .i64 (p.P.length : Int)), .v (.int .i64 ((p.P.length + p.S.length : Nat) : Int)), fkey]
def Is.ok (p : Is) : Prop := p.b < p.H.blks.length ∧ okL p.xs ∧ p.xs.length < 4611686018427387904
/-- What is put in its place. -/
theorem ins_at {A B S : List E} {x : E} (h : A ++ B = sE S) (hB : ∀ b ∈ B, bl x.1 b.1 = true) (hA : ∀ a ∈ A, ble a.1 x.1 = true) : A ++ x :: B = sE (S ++ [x]) := by
  have hs : Srt (fun p : E => p.1) (A ++ B) := by rw [h]; exact sortK_srt S
  obtain ⟨s1, s2, s3⟩ := List.pairwise_append.1 hs
  refine sortK_eq ?_ ?_
  · refine List.pairwise_append.2 ⟨s1, List.pairwise_cons.2 ⟨fun b hb => ble_of_lt (hB b hb), s2⟩, fun a ha b hb => ?_⟩
    rcases List.mem_cons.1 hb with rfl | hb
    · exact hA a ha
    · exact s3 a ha b hb
  · have h1 : Sm (fun p : E => p.1) (x :: B) (B ++ [x]) := Sm.swap (xs := [x]) (ys := B) fun a ha b hb e => by
      rw [List.mem_singleton] at ha
      subst ha
      have := hB b hb
      rw [e, bl_irrefl] at this
      cases this
    have h2 := Sm.append (Sm.refl (k := fun p : E => p.1) A) h1
    rw [← List.append_assoc, h] at h2
    exact h2.trans (Sm.append (sortK_sm S) (Sm.refl [x]))
structure IsL (p : Is) (m : Nat) (e : Env) (h : Hp) : Prop where
  len : e.length = 53
  a0 : aget e 0 = .ex p.b 0 6 0 p.xs.length
  a1 : aget e 1 = .v (.int .i64 (p.P.length : Int))
  a2 : aget e 2 = .v (.int .i64 ((p.P.length + p.S.length : Nat) : Int))
  a3 : aget e 3 = fkey
  seg : ∃ S1 S2, p.S = S1 ++ S2 ∧ S1 ≠ [] ∧ S2.length = m ∧ aget e 8 = .v (.int .i64 ((p.P.length + S1.length : Nat) : Int)) ∧ h = HB p.H p.b (p.P ++ sE S1 ++ S2 ++ p.Q)
structure IsM (p : Is) (S1 S2 : List E) (x : E) (m : Nat) (e : Env) (h : Hp) : Prop where
  len : e.length = 53
  a0 : aget e 0 = .ex p.b 0 6 0 p.xs.length
  a1 : aget e 1 = .v (.int .i64 (p.P.length : Int))
  a2 : aget e 2 = .v (.int .i64 ((p.P.length + p.S.length : Nat) : Int))
  a3 : aget e 3 = fkey
  a8 : aget e 8 = .v (.int .i64 ((p.P.length + S1.length : Nat) : Int))
  seg : ∃ A B, A ++ B = sE S1 ∧ (∀ b ∈ B, bl x.1 b.1 = true) ∧ A.length = m ∧ aget e 9 = .v (.int .i64 ((p.P.length + A.length : Nat) : Int)) ∧ h = HB p.H p.b (p.P ++ A ++ x :: B ++ S2 ++ p.Q)
set_option maxHeartbeats 8000000 in
set_option maxRecDepth 100000 in
theorem insert_ok (p : Is) (hp : p.ok) : CallOk (cfgP w2) 117 p.a (HB p.H p.b p.xs) (.tup []) (HB p.H p.b p.ys) := by
  obtain ⟨hb, hok, hlen⟩ := hp
  have hxl : p.xs.length = p.P.length + p.S.length + p.Q.length := by unfold Is.xs; simp only [List.length_append]
  unfold Is.a
  cases hS : p.S with
  | nil =>
    have hys : p.ys = p.xs := by unfold Is.ys Is.xs; rw [hS]; rfl
    rw [hys]
    refine call_of_wk (call := noCall) (fn := Tryd.f117) (rs := []) w2_ok noCall_ok (fns_cfg Tryd.func117 rfl) rfl rfl ?_
    intro env hl0 hargs
    have hn : env.length = 53 := hl0
    have h0 := hargs 0 _ rfl
    have h1 := hargs 1 _ rfl
    have h2 := hargs 2 _ rfl
    have h3 := hargs 3 _ rfl
    clear hargs hl0
    refine wkT_of ?_
    rw [fe_self hn]
    (try simp -dsimp (disch := omega) only [h0, h1, h2, h3, wrap64, wt_loop_unfold, List.length_nil, AS, avals, apairs, bareP, AV.bare, AV.bares, Nat.reduceEqDiff, Nat.reduceLT, Nat.reduceAdd, ↓reduceIte, reduceCtorEq, resA, resA1, resVal, Nat.reduceLeDiff, nb_cfg, Nat.reduceBEq, AX, Int.reduceLT, Int.reduceLE, Int.reduceEq, Int.reduceAdd, Int.reduceSub, Int.reduceMul, Int.reduceNeg, Int.reduceNe])
  | cons s0 S0 =>
  rw [← hS]
  have hSl : p.S.length = S0.length + 1 := by rw [hS]; rfl
  have w0 : (p.P.length : Int) + 1 = ((p.P.length + [s0].length : Nat) : Int) := by simp
  refine call_of_wk (call := noCall) (fn := Tryd.f117) (rs := []) w2_ok noCall_ok (fns_cfg Tryd.func117 rfl) rfl rfl ?_
  intro env hl0 hargs
  have hn : env.length = 53 := hl0
  have h0 := hargs 0 _ rfl
  have h1 := hargs 1 _ rfl
  have h2 := hargs 2 _ rfl
  have h3 := hargs 3 _ rfl
  clear hargs hl0
  refine wkT_of ?_
  rw [fe_self hn]
  (try simp -dsimp (disch := omega) only [h0, h1, h2, h3, wrap64, AS, avals, apairs, bareP, AV.bare, AV.bares, Nat.reduceEqDiff, Nat.reduceLT, Nat.reduceAdd, ↓reduceIte, reduceCtorEq, resA, resA1, resVal, Nat.reduceLeDiff, nb_cfg, Nat.reduceBEq, AX, Int.reduceLT, Int.reduceLE, Int.reduceEq, Int.reduceAdd, Int.reduceSub, Int.reduceMul, Int.reduceNeg, Int.reduceNe])
  refine wt_loop (m := S0.length) (fun m e h => IsL p m e h) ?_ ?_
  · clear hn h0 h1 h2 h3
    rintro m e h ⟨hn, h0, h1, h2, h3, S1, S2, hs, hs1, hm, h8, rfl⟩
    rw [fe_self hn]
    have hsl : p.S.length = S1.length + S2.length := by rw [hs, List.length_append]
    have hkl : (sE S1).length = S1.length := sortK_length S1
    cases S2 with
    | nil =>
      obtain rfl : m = 0 := hm.symm
      rw [List.append_nil] at hs
      simp only [List.length_nil] at hsl
      have hys : p.P ++ sE S1 ++ [] ++ p.Q = p.ys := by unfold Is.ys; rw [hs]; simp
      rw [hys]
      (try simp -dsimp (disch := omega) only [h0, h1, h2, h3, h8, AS, avals, apairs, bareP, AV.bare, AV.bares, Nat.reduceEqDiff, Nat.reduceLT, Nat.reduceAdd, ↓reduceIte, reduceCtorEq, resA, resA1, resVal, Nat.reduceLeDiff, nb_cfg, Nat.reduceBEq, AX, Int.reduceLT, Int.reduceLE, Int.reduceEq, Int.reduceAdd, Int.reduceSub, Int.reduceMul, Int.reduceNeg, Int.reduceNe])
    | cons x S2 =>
      simp only [List.length_cons] at hsl hm
      (try simp -dsimp (disch := omega) only [h0, h1, h2, h3, h8, AS, avals, apairs, bareP, AV.bare, AV.bares, Nat.reduceEqDiff, Nat.reduceLT, Nat.reduceAdd, ↓reduceIte, reduceCtorEq, resA, resA1, resVal, Nat.reduceLeDiff, nb_cfg, Nat.reduceBEq, AX, Int.reduceLT, Int.reduceLE, Int.reduceEq, Int.reduceAdd, Int.reduceSub, Int.reduceMul, Int.reduceNeg, Int.reduceNe])
      refine wt_loop (m := S1.length) (fun m e h => IsM p S1 S2 x m e h) ?_ ?_
      · clear hn h0 h1 h2 h3 h8
        rintro m' e h ⟨hn, h0, h1, h2, h3, h8, A, B, hab, hB, hA, h9, rfl⟩
        rw [fe_self hn]
        have hmem : ∀ q, q ∈ p.P ++ A ++ x :: B ++ S2 ++ p.Q → q ∈ p.xs := by
          intro q hq
          have h5 : q ∈ A ++ B ↔ q ∈ S1 := by rw [hab]; exact sortK_mem
          unfold Is.xs
          rw [hs]
          simp only [List.mem_append, List.mem_cons] at h5 hq ⊢
          grind
        have hokc := okL_of hmem hok
        have habl : A.length + B.length = S1.length := by rw [← List.length_append, hab, hkl]
        have done : ∀ (hAx : ∀ a ∈ A, ble a.1 x.1 = true), p.P ++ A ++ x :: B ++ S2 ++ p.Q = p.P ++ sE (S1 ++ [x]) ++ S2 ++ p.Q := by
          intro hAx
          rw [← ins_at hab hB hAx]
          simp
        have e8 : ((p.P.length + S1.length : Nat) : Int) + 1 = ((p.P.length + (S1 ++ [x]).length : Nat) : Int) := by rw [List.length_append, List.length_singleton]; omega
        rcases List.eq_nil_or_concat A with rfl | ⟨A', y, rfl⟩
        · simp only [List.length_nil] at hA
          obtain rfl : m' = 0 := hA.symm
          rw [done (fun a ha => by cases ha)]
          (try simp -dsimp (disch := omega) only [h0, h1, h2, h3, h8, h9, List.length_nil, Nat.add_zero, wrap64, AS, avals, apairs, bareP, AV.bare, AV.bares, Nat.reduceEqDiff, Nat.reduceLT, Nat.reduceAdd, ↓reduceIte, reduceCtorEq, resA, resA1, resVal, Nat.reduceLeDiff, nb_cfg, Nat.reduceBEq, AX, Int.reduceLT, Int.reduceLE, Int.reduceEq, Int.reduceAdd, Int.reduceSub, Int.reduceMul, Int.reduceNeg, Int.reduceNe])
          refine ⟨by kernel_rfl, S2.length, by omega, fe_len, ?_, ?_, ?_, ?_, S1 ++ [x], S2, by rw [hs]; simp, by simp, rfl, ?_, rfl⟩
          all_goals (try simp -dsimp (disch := omega) only [h0, h1, h2, h3, h8, e8, AS, avals, apairs, bareP, AV.bare, AV.bares, Nat.reduceEqDiff, Nat.reduceLT, Nat.reduceAdd, ↓reduceIte, reduceCtorEq, resA, resA1, resVal, Nat.reduceLeDiff, nb_cfg, Nat.reduceBEq, AX, Int.reduceLT, Int.reduceLE, Int.reduceEq, Int.reduceAdd, Int.reduceSub, Int.reduceMul, Int.reduceNeg, Int.reduceNe])
        · rw [List.concat_eq_append] at *
          have hal : (A' ++ [y]).length = A'.length + 1 := by simp
          rw [hal] at h9 hA habl
          obtain ⟨k1, k2, _, k3⟩ := sw2 (p.P ++ A') [] (B ++ S2 ++ p.Q) y x
          have ecur : p.P ++ (A' ++ [y]) ++ x :: B ++ S2 ++ p.Q = (p.P ++ A') ++ y :: ([] ++ x :: (B ++ S2 ++ p.Q)) := by simp
          have enew : p.P ++ A' ++ x :: (y :: B) ++ S2 ++ p.Q = (p.P ++ A') ++ x :: ([] ++ y :: (B ++ S2 ++ p.Q)) := by simp
          have hox : okE x := hokc x (by simp)
          have hoy : okE y := hokc y (by simp)
          obtain ⟨j, hj⟩ : ∃ j, p.P.length + A'.length = j := ⟨_, rfl⟩
          have hjl : (p.P ++ A').length = j := by rw [List.length_append, hj]
          rw [hjl] at k1 k2 k3
          simp only [List.length_nil, Nat.add_zero] at k2 k3
          have ej : p.P.length + (A'.length + 1) = j + 1 := by omega
          rw [ej] at h9
          have e9 : ((j + 1 : Nat) : Int) - 1 = (j : Int) := by omega
          have mj := mix (prim := w2) (b := p.b) (i := j) (len := p.xs.length) (k := .i64) (by omega)
          have mj1 := mix (prim := w2) (b := p.b) (i := j + 1) (len := p.xs.length) (k := .i64) (by omega)
          have l1 := HB_get k1
          have l2 := HB_get k2
          have q := keyP_eq hox hoy
          have qlt := cmpK_lt x.1 y.1
          cases hc : bl x.1 y.1 with
          | false =>
            rw [hc] at qlt
            have hAx : ∀ a ∈ A' ++ [y], ble a.1 x.1 = true := by
              have hyx : ble y.1 x.1 = true := by simp [ble, hc]
              have hsrt : Srt (fun p : E => p.1) ((A' ++ [y]) ++ B) := by rw [hab]; exact sortK_srt S1
              obtain ⟨s1, _, _⟩ := List.pairwise_append.1 hsrt
              obtain ⟨_, _, s3⟩ := List.pairwise_append.1 s1
              intro a ha
              rcases List.mem_append.1 ha with ha | ha
              · exact ble_trans (s3 a ha y (by simp)) hyx
              · rw [List.mem_singleton] at ha; subst ha; exact hyx
            have hd := done hAx
            rw [ecur] at hd ⊢
            have hblk := HB_blk (H := p.H) (xs := (p.P ++ A') ++ y :: ([] ++ x :: (B ++ S2 ++ p.Q))) hb
            rw [hd] at hblk l1 l2 ⊢
            (try simp -dsimp (disch := omega) only [h0, h1, h2, h3, h8, h9, wrap64, e9, mj, mj1, hblk, l1, l2, mp48e hox, mp48e hoy, fkey, ct_prim w2_74, enc_bare hox, enc_bare hoy, q, qlt, AS, avals, apairs, bareP, AV.bare, AV.bares, Nat.reduceEqDiff, Nat.reduceLT, Nat.reduceAdd, ↓reduceIte, reduceCtorEq, resA, resA1, resVal, Nat.reduceLeDiff, nb_cfg, Nat.reduceBEq, AX, Int.reduceLT, Int.reduceLE, Int.reduceEq, Int.reduceAdd, Int.reduceSub, Int.reduceMul, Int.reduceNeg, Int.reduceNe])
            refine ⟨by kernel_rfl, S2.length, by omega, fe_len, ?_, ?_, ?_, ?_, S1 ++ [x], S2, by rw [hs]; simp, by simp, rfl, ?_, rfl⟩
            all_goals (try simp -dsimp (disch := omega) only [h0, h1, h2, h3, h8, e8, fkey, AS, avals, apairs, bareP, AV.bare, AV.bares, Nat.reduceEqDiff, Nat.reduceLT, Nat.reduceAdd, ↓reduceIte, reduceCtorEq, resA, resA1, resVal, Nat.reduceLeDiff, nb_cfg, Nat.reduceBEq, AX, Int.reduceLT, Int.reduceLE, Int.reduceEq, Int.reduceAdd, Int.reduceSub, Int.reduceMul, Int.reduceNeg, Int.reduceNe])
          | true =>
            rw [hc] at qlt
            rw [ecur] at hokc ⊢
            have hlc : ((p.P ++ A') ++ y :: ([] ++ x :: (B ++ S2 ++ p.Q))).length = p.xs.length := by
              rw [hxl, hsl]
              simp only [List.length_append, List.length_cons, List.length_nil]
              omega
            obtain ⟨cur, hcur⟩ : ∃ cur, (p.P ++ A') ++ y :: ([] ++ x :: (B ++ S2 ++ p.Q)) = cur := ⟨_, rfl⟩
            rw [hcur] at k1 k2 k3 hlc hokc l1 l2 ⊢
            have s1 := HB_store (prim := w2) (H := p.H) (i := j + 1) hb hoy hokc (by omega)
            have hok1 : okL (cur.set (j + 1) y) := fun q hq => by
              rcases List.mem_or_eq_of_mem_set hq with h | h
              · exact hokc q h
              · rw [h]; exact hoy
            have s2 := HB_store (prim := w2) (H := p.H) (xs := cur.set (j + 1) y) (i := j) hb hox hok1 (by rw [List.length_set]; omega)
            rw [k3] at s2
            (try simp -dsimp (disch := omega) only [h0, h1, h2, h3, h8, h9, wrap64, e9, mj, mj1, HB_blk hb, l1, l2, mp48e hox, mp48e hoy, fkey, ct_prim w2_74, enc_bare hox, enc_bare hoy, q, qlt, s1, s2, AS, avals, apairs, bareP, AV.bare, AV.bares, Nat.reduceEqDiff, Nat.reduceLT, Nat.reduceAdd, ↓reduceIte, reduceCtorEq, resA, resA1, resVal, Nat.reduceLeDiff, nb_cfg, Nat.reduceBEq, AX, Int.reduceLT, Int.reduceLE, Int.reduceEq, Int.reduceAdd, Int.reduceSub, Int.reduceMul, Int.reduceNeg, Int.reduceNe])
            refine ⟨by kernel_rfl, by kernel_rfl, A'.length, by omega, fe_len, ?_, ?_, ?_, ?_, ?_, A', y :: B, by rw [← hab]; simp, ?_, rfl, ?_, by rw [enew]; rfl⟩
            case refine_6 =>
              intro b hb
              rcases List.mem_cons.1 hb with rfl | hb
              · exact hc
              · exact hB b hb
            all_goals (try simp -dsimp (disch := omega) only [h0, h1, h2, h3, h8, h9, hj, fkey, AS, avals, apairs, bareP, AV.bare, AV.bares, Nat.reduceEqDiff, Nat.reduceLT, Nat.reduceAdd, ↓reduceIte, reduceCtorEq, resA, resA1, resVal, Nat.reduceLeDiff, nb_cfg, Nat.reduceBEq, AX, Int.reduceLT, Int.reduceLE, Int.reduceEq, Int.reduceAdd, Int.reduceSub, Int.reduceMul, Int.reduceNeg, Int.reduceNe])
      · refine ⟨fe_len, ?_, ?_, ?_, ?_, ?_, sE S1, [], by simp, (fun b hb => by cases hb), hkl, ?_, by simp⟩
        all_goals (try simp -dsimp (disch := omega) only [h0, h1, h2, h3, h8, hkl, AS, avals, apairs, bareP, AV.bare, AV.bares, Nat.reduceEqDiff, Nat.reduceLT, Nat.reduceAdd, ↓reduceIte, reduceCtorEq, resA, resA1, resVal, Nat.reduceLeDiff, nb_cfg, Nat.reduceBEq, AX, Int.reduceLT, Int.reduceLE, Int.reduceEq, Int.reduceAdd, Int.reduceSub, Int.reduceMul, Int.reduceNeg, Int.reduceNe])
  · refine ⟨fe_len, ?_, ?_, ?_, ?_, [s0], S0, hS, by simp, rfl, ?_, by unfold Is.xs; rw [hS]; simp [sE, sortK, insK]⟩
    all_goals (try simp -dsimp (disch := omega) only [h0, h1, h2, h3, w0, AS, avals, apairs, bareP, AV.bare, AV.bares, Nat.reduceEqDiff, Nat.reduceLT, Nat.reduceAdd, ↓reduceIte, reduceCtorEq, resA, resA1, resVal, Nat.reduceLeDiff, nb_cfg, Nat.reduceBEq, AX, Int.reduceLT, Int.reduceLE, Int.reduceEq, Int.reduceAdd, Int.reduceSub, Int.reduceMul, Int.reduceNeg, Int.reduceNe])
end Go.Proofs.YtjejeijldllloaaDoor

/- Chapter 2: a merge in place: where the one part is one element. -/
namespace Go.Proofs.YtjejeijldllloaaDoor
open Go.AM
section
variable {prim : FuncId → Option (List AV → Option AV)}
theorem cvSU {n : Nat} (h : n < 18446744073709551616) : convA (cfgP prim) 3 31 (.v (.int .i64 (n : Int))) = some (.v (.int .u64 (n : Int))) := by
  rw [conv_int (C := cfgP prim) (j := .i64) (k' := .u64) (by kernel_rfl) (by kernel_rfl) (by kernel_rfl) (by kernel_rfl)]
  congr 3
  simp [IntKind.wrap, IntKind.bits, IntKind.signed]
  omega
theorem cvUS {n : Nat} (h : n < 9223372036854775808) : convA (cfgP prim) 31 3 (.v (.int .u64 (n : Int))) = some (.v (.int .i64 (n : Int))) := by
  rw [conv_int (C := cfgP prim) (j := .u64) (k' := .i64) (by kernel_rfl) (by kernel_rfl) (by kernel_rfl) (by kernel_rfl), wrapN64 (by omega)]
theorem bru1 {t : TypeId} {x y : Operand} {a : Nat} : binA (cfgP prim) .shr t x y (.v (.int .u64 (a : Int))) (.v (.int .u64 1)) = some (.v (.int .u64 ((a / 2 : Nat) : Int))) := by
  rw [bin_shr (by decide), show ((2 : Int) ^ min (1 : Int).toNat IntKind.u64.bits) = ((2 : Nat) : Int) from by decide, Int.fdiv_eq_ediv_of_nonneg _ (by omega)]
  rfl
end
theorem get_mid {l P A Q : List E} {t i : Nat} {y : E} (h : l = P ++ A ++ Q) (hi : i = P.length + t) (hy : A[t]? = some y) : l[i]? = some y := by
  subst h hi
  have ht := (List.getElem?_eq_some_iff.1 hy).1
  rw [List.append_assoc, List.getElem?_append_right (by omega), Nat.add_sub_cancel_left, List.getElem?_append_left ht]
  exact hy
/-- In an order, what is ahead of what is smaller is smaller. -/
theorem srt_get {B : List E} (h : Srt (fun p : E => p.1) B) {i j : Nat} {x y : E} (hi : B[i]? = some x) (hj : B[j]? = some y) (hij : i ≤ j) : ble x.1 y.1 = true := by
  rcases Nat.eq_or_lt_of_le hij with rfl | hlt
  · rw [hi] at hj
    injection hj with hj
    rw [hj]
    exact ble_refl _
  · obtain ⟨h1, rfl⟩ := List.getElem?_eq_some_iff.1 hi
    obtain ⟨h2, rfl⟩ := List.getElem?_eq_some_iff.1 hj
    exact List.pairwise_iff_getElem.1 h i j h1 h2 hlt
structure Sy where
  H : Hp
  b : Nat
  P : List E
  A : List E
  B : List E
  Q : List E
def Sy.xs (p : Sy) : List E := p.P ++ p.A ++ p.B ++ p.Q
def Sy.ys (p : Sy) : List E := p.P ++ sE (p.A ++ p.B) ++ p.Q
def Sy.a (p : Sy) : List AV := [.ex p.b 0 6 0 p.xs.length, .v (.int .i64 (p.P.length : Int)), .v (.int .i64 ((p.P.length + p.A.length : Nat) : Int)), .v (.int .i64 ((p.P.length + p.A.length + p.B.length : Nat) : Int)), fkey]
def Sy.ok (p : Sy) : Prop := p.b < p.H.blks.length ∧ okL p.xs ∧ Srt (fun p : E => p.1) p.A ∧ Srt (fun p : E => p.1) p.B ∧ p.A ≠ [] ∧ p.B ≠ [] ∧ p.xs.length < 1152921504606846976
structure Sa (p : Sy) (i j m : Nat) (e : Env) (h : Hp) : Prop where
  len : e.length = 220
  hp : h = HB p.H p.b p.xs
  a0 : aget e 0 = .ex p.b 0 6 0 p.xs.length
  a1 : aget e 1 = .v (.int .i64 (p.P.length : Int))
  a4 : aget e 4 = fkey
  a10 : aget e 10 = .v (.int .i64 (i : Int))
  a11 : aget e 11 = .v (.int .i64 (j : Int))
  ij : i ≤ j
  il : p.P.length + 1 ≤ i
  jl : j ≤ p.P.length + 1 + p.B.length
  fu : j - i = m
structure Sb (p : Sy) (x : E) (B1 B2 : List E) (m : Nat) (e : Env) (h : Hp) : Prop where
  len : e.length = 220
  a0 : aget e 0 = .ex p.b 0 6 0 p.xs.length
  a10 : aget e 10 = .v (.int .i64 ((p.P.length + 1 + B1.length : Nat) : Int))
  seg : ∃ C D, C ++ D = B1 ∧ D.length = m ∧ aget e 13 = .v (.int .i64 ((p.P.length + C.length : Nat) : Int)) ∧ h = HB p.H p.b (p.P ++ C ++ x :: D ++ B2 ++ p.Q)
/-- One element ahead of others in their order. -/
theorem one_ahead {x : E} {B1 B2 : List E} (hs : Srt (fun p : E => p.1) (B1 ++ B2)) (h1 : ∀ b ∈ B1, bl b.1 x.1 = true) (h2 : ∀ b ∈ B2, bl b.1 x.1 = false) : B1 ++ x :: B2 = sE (x :: (B1 ++ B2)) := by
  obtain ⟨s1, s2, s3⟩ := List.pairwise_append.1 hs
  refine sortK_eq ?_ ?_
  · refine List.pairwise_append.2 ⟨s1, List.pairwise_cons.2 ⟨fun b hb => by simp [ble, h2 b hb], s2⟩, fun a ha b hb => ?_⟩
    rcases List.mem_cons.1 hb with rfl | hb
    · exact ble_of_lt (h1 a ha)
    · exact s3 a ha b hb
  · have hw : Sm (fun p : E => p.1) (B1 ++ [x]) ([x] ++ B1) := Sm.swap fun a ha b hb e => by
      rw [List.mem_singleton] at hb
      subst hb
      have := h1 a ha
      rw [e, bl_irrefl] at this
      cases this
    have := Sm.append hw (Sm.refl (k := fun p : E => p.1) B2)
    simpa using this
set_option maxHeartbeats 8000000 in
set_option maxRecDepth 100000 in
theorem symA_ok (p : Sy) (hp : p.ok) (x : E) (hA : p.A = [x]) {T : FuncId → List AV → Hp → Option (AV × Hp)} (hT : CallsOk (cfgP w2) T) : CallOk (cfgP w2) 118 p.a (HB p.H p.b p.xs) (.tup []) (HB p.H p.b p.ys) := by
  obtain ⟨hb, hok, _, hsB, _, hb0, hlen⟩ := hp
  have hxl : p.xs.length = p.P.length + 1 + p.B.length + p.Q.length := by unfold Sy.xs; rw [hA]; simp only [List.length_append, List.length_singleton]
  have hal : p.A.length = 1 := by rw [hA]; rfl
  have hbl : 0 < p.B.length := List.length_pos_iff.2 hb0
  have hxs : p.xs = p.P ++ [x] ++ p.B ++ p.Q := by unfold Sy.xs; rw [hA]
  have hox : okE x := hok x (by rw [hxs]; simp)
  have kx : p.xs[p.P.length]? = some x := by rw [hxs]; simp
  unfold Sy.a
  rw [hal]
  refine call_of_wk (call := T) (fn := Tryd.f118) (rs := []) w2_ok hT (fns_cfg Tryd.func118 rfl) rfl rfl ?_
  intro env hl0 hargs
  have hn : env.length = 220 := hl0
  have h0 := hargs 0 _ rfl
  have h1 := hargs 1 _ rfl
  have h2 := hargs 2 _ rfl
  have h3 := hargs 3 _ rfl
  have h4 := hargs 4 _ rfl
  clear hargs hl0
  refine wkT_of ?_
  rw [fe_self hn]
  (try simp -dsimp (disch := omega) only [h0, h1, h2, h3, h4, wrap64, AS, avals, apairs, bareP, AV.bare, AV.bares, Nat.reduceEqDiff, Nat.reduceLT, Nat.reduceAdd, ↓reduceIte, reduceCtorEq, resA, resA1, resVal, Nat.reduceLeDiff, nb_cfg, Nat.reduceBEq, AX, Int.reduceLT, Int.reduceLE, Int.reduceEq, Int.reduceAdd, Int.reduceSub, Int.reduceMul, Int.reduceNeg, Int.reduceNe])
  refine wt_loop (m := p.B.length) (fun m e h => ∃ i j, Sa p i j m e h ∧ (∀ t y, p.P.length + 1 + t < i → p.B[t]? = some y → bl y.1 x.1 = true) ∧ (∀ t y, j ≤ p.P.length + 1 + t → p.B[t]? = some y → bl y.1 x.1 = false)) ?_ ?_
  · clear hn h0 h1 h2 h3 h4
    rintro m e h ⟨i, j, ⟨hn, rfl, h0, h1, h4, h10, h11, ij, il, jl, fu⟩, lo, hi⟩
    rw [fe_self hn]
    by_cases hij : i < j
    · obtain ⟨c, hc⟩ : ∃ c, (i + j) / 2 = c := ⟨_, rfl⟩
      have c1 : i ≤ c := by omega
      have c2 : c < j := by omega
      have esum : (i : Int) + (j : Int) = ((i + j : Nat) : Int) := by omega
      obtain ⟨y, hy⟩ : ∃ y, p.B[c - (p.P.length + 1)]? = some y := ⟨p.B[c - (p.P.length + 1)]'(by omega), List.getElem?_eq_getElem (by omega)⟩
      have ky : p.xs[c]? = some y := get_mid (P := p.P ++ [x]) (A := p.B) (Q := p.Q) (t := c - (p.P.length + 1)) (by rw [hxs]) (by rw [List.length_append, List.length_singleton]; omega) hy
      have hoy : okE y := hok y (List.mem_of_getElem? ky)
      have mc := mix (prim := w2) (b := p.b) (i := c) (len := p.xs.length) (k := .i64) (by omega)
      have ma := mix (prim := w2) (b := p.b) (i := p.P.length) (len := p.xs.length) (k := .i64) (by omega)
      have l1 := HB_get kx
      have l2 := HB_get ky
      have q := keyP_eq hoy hox
      have qlt := cmpK_lt y.1 x.1
      cases hlt : bl y.1 x.1 with
      | true =>
        rw [hlt] at qlt
        (try simp -dsimp (disch := omega) only [h0, h1, h4, h10, h11, wrap64, esum, cvSU, bru1, hc, cvUS, mc, ma, HB_blk hb, l1, l2, mp48e hox, mp48e hoy, fkey, ct_prim w2_74, enc_bare hox, enc_bare hoy, q, qlt, AS, avals, apairs, bareP, AV.bare, AV.bares, Nat.reduceEqDiff, Nat.reduceLT, Nat.reduceAdd, ↓reduceIte, reduceCtorEq, resA, resA1, resVal, Nat.reduceLeDiff, nb_cfg, Nat.reduceBEq, AX, Int.reduceLT, Int.reduceLE, Int.reduceEq, Int.reduceAdd, Int.reduceSub, Int.reduceMul, Int.reduceNeg, Int.reduceNe])
        refine ⟨by kernel_rfl, j - (c + 1), by omega, c + 1, j, ⟨fe_len, rfl, ?_, ?_, ?_, ?_, ?_, by omega, by omega, by omega, rfl⟩, fun t z ht hz => ?_, hi⟩
        case refine_6 =>
          exact lt_of_le_lt (srt_get hsB hz hy (by omega)) hlt
        all_goals (try simp -dsimp (disch := omega) only [h0, h1, h4, h10, h11, fkey, AS, avals, apairs, bareP, AV.bare, AV.bares, Nat.reduceEqDiff, Nat.reduceLT, Nat.reduceAdd, ↓reduceIte, reduceCtorEq, resA, resA1, resVal, Nat.reduceLeDiff, nb_cfg, Nat.reduceBEq, AX, Int.reduceLT, Int.reduceLE, Int.reduceEq, Int.reduceAdd, Int.reduceSub, Int.reduceMul, Int.reduceNeg, Int.reduceNe])
        all_goals rfl
      | false =>
        rw [hlt] at qlt
        (try simp -dsimp (disch := omega) only [h0, h1, h4, h10, h11, wrap64, esum, cvSU, bru1, hc, cvUS, mc, ma, HB_blk hb, l1, l2, mp48e hox, mp48e hoy, fkey, ct_prim w2_74, enc_bare hox, enc_bare hoy, q, qlt, AS, avals, apairs, bareP, AV.bare, AV.bares, Nat.reduceEqDiff, Nat.reduceLT, Nat.reduceAdd, ↓reduceIte, reduceCtorEq, resA, resA1, resVal, Nat.reduceLeDiff, nb_cfg, Nat.reduceBEq, AX, Int.reduceLT, Int.reduceLE, Int.reduceEq, Int.reduceAdd, Int.reduceSub, Int.reduceMul, Int.reduceNeg, Int.reduceNe])
        refine ⟨by kernel_rfl, c - i, by omega, i, c, ⟨fe_len, rfl, ?_, ?_, ?_, ?_, ?_, by omega, by omega, by omega, rfl⟩, lo, fun t z ht hz => ?_⟩
        case refine_6 =>
          cases hzx : bl z.1 x.1 with
          | false => rfl
          | true => rw [lt_of_le_lt (srt_get hsB hy hz (by omega)) hzx] at hlt; cases hlt
        all_goals (try simp -dsimp (disch := omega) only [h0, h1, h4, h10, h11, fkey, AS, avals, apairs, bareP, AV.bare, AV.bares, Nat.reduceEqDiff, Nat.reduceLT, Nat.reduceAdd, ↓reduceIte, reduceCtorEq, resA, resA1, resVal, Nat.reduceLeDiff, nb_cfg, Nat.reduceBEq, AX, Int.reduceLT, Int.reduceLE, Int.reduceEq, Int.reduceAdd, Int.reduceSub, Int.reduceMul, Int.reduceNeg, Int.reduceNe])
    · obtain rfl : j = i := by omega
      obtain ⟨B1, hB1⟩ : ∃ B1, p.B.take (j - (p.P.length + 1)) = B1 := ⟨_, rfl⟩
      obtain ⟨B2, hB2⟩ : ∃ B2, p.B.drop (j - (p.P.length + 1)) = B2 := ⟨_, rfl⟩
      have hBB : p.B = B1 ++ B2 := by rw [← hB1, ← hB2, List.take_append_drop]
      have hl1 : B1.length = j - (p.P.length + 1) := by rw [← hB1, List.length_take]; omega
      have q1 : ∀ b ∈ B1, bl b.1 x.1 = true := by
        intro b hbm
        obtain ⟨t, ht⟩ := List.getElem?_of_mem hbm
        have htl := (List.getElem?_eq_some_iff.1 ht).1
        exact lo t b (by omega) (by rw [hBB, List.getElem?_append_left htl]; exact ht)
      have q2 : ∀ b ∈ B2, bl b.1 x.1 = false := by
        intro b hbm
        obtain ⟨t, ht⟩ := List.getElem?_of_mem hbm
        exact hi (B1.length + t) b (by omega) (by rw [hBB, List.getElem?_append_right (by omega), Nat.add_sub_cancel_left]; exact ht)
      have hfin : p.ys = p.P ++ B1 ++ x :: B2 ++ p.Q := by
        unfold Sy.ys
        rw [hA, hBB, show [x] ++ (B1 ++ B2) = x :: (B1 ++ B2) from rfl, ← one_ahead (by rw [← hBB]; exact hsB) q1 q2]
        simp
      have ej : (j : Int) = ((p.P.length + 1 + B1.length : Nat) : Int) := by omega
      (try simp -dsimp (disch := omega) only [h0, h1, h4, h10, h11, AS, avals, apairs, bareP, AV.bare, AV.bares, Nat.reduceEqDiff, Nat.reduceLT, Nat.reduceAdd, ↓reduceIte, reduceCtorEq, resA, resA1, resVal, Nat.reduceLeDiff, nb_cfg, Nat.reduceBEq, AX, Int.reduceLT, Int.reduceLE, Int.reduceEq, Int.reduceAdd, Int.reduceSub, Int.reduceMul, Int.reduceNeg, Int.reduceNe])
      refine wt_loop (m := B1.length) (fun m e h => Sb p x B1 B2 m e h) ?_ ?_
      · clear hn h0 h1 h4 h10 h11
        rintro m e h ⟨hn, h0, h10, C, D, hcd, hm, h13, rfl⟩
        rw [fe_self hn]
        have hcl : C.length + D.length = B1.length := by rw [← hcd, List.length_append]
        have hblen : p.B.length = B1.length + B2.length := by rw [hBB, List.length_append]
        cases D with
        | nil =>
          rw [List.append_nil] at hcd
          simp only [List.length_nil] at hm hcl
          (try simp -dsimp (disch := omega) only [h0, h10, h13, wrap64, AS, avals, apairs, bareP, AV.bare, AV.bares, Nat.reduceEqDiff, Nat.reduceLT, Nat.reduceAdd, ↓reduceIte, reduceCtorEq, resA, resA1, resVal, Nat.reduceLeDiff, nb_cfg, Nat.reduceBEq, AX, Int.reduceLT, Int.reduceLE, Int.reduceEq, Int.reduceAdd, Int.reduceSub, Int.reduceMul, Int.reduceNeg, Int.reduceNe])
          rw [hfin, hcd]
          simp
        | cons y D =>
          simp only [List.length_cons] at hm hcl
          obtain ⟨k1, k2, k3, _⟩ := sw2 (p.P ++ C) [] (D ++ B2 ++ p.Q) x y
          have ecur : p.P ++ C ++ x :: (y :: D) ++ B2 ++ p.Q = (p.P ++ C) ++ x :: ([] ++ y :: (D ++ B2 ++ p.Q)) := by simp
          have enew : p.P ++ (C ++ [y]) ++ x :: D ++ B2 ++ p.Q = (p.P ++ C) ++ y :: ([] ++ x :: (D ++ B2 ++ p.Q)) := by simp
          rw [ecur]
          have hokc : okL ((p.P ++ C) ++ x :: ([] ++ y :: (D ++ B2 ++ p.Q))) := okL_of (fun q hq => by
            rw [hxs, hBB, ← hcd]
            simp only [List.mem_append, List.mem_cons, List.not_mem_nil] at hq ⊢
            grind) hok
          have hoy : okE y := hokc y (by simp)
          have hlc : ((p.P ++ C) ++ x :: ([] ++ y :: (D ++ B2 ++ p.Q))).length = p.xs.length := by
            rw [hxl, hblen]
            simp only [List.length_append, List.length_cons, List.length_nil]
            omega
          obtain ⟨k, hk⟩ : ∃ k, p.P.length + C.length = k := ⟨_, rfl⟩
          have hkl : (p.P ++ C).length = k := by rw [List.length_append, hk]
          rw [hkl] at k1 k2 k3
          simp only [List.length_nil, Nat.add_zero] at k2 k3
          rw [hk] at h13
          obtain ⟨cur, hcur⟩ : ∃ cur, (p.P ++ C) ++ x :: ([] ++ y :: (D ++ B2 ++ p.Q)) = cur := ⟨_, rfl⟩
          rw [hcur] at k1 k2 k3 hlc hokc ⊢
          have e13 : (k : Int) + 1 = ((k + 1 : Nat) : Int) := by omega
          have mk := mix (prim := w2) (b := p.b) (i := k) (len := p.xs.length) (k := .i64) (by omega)
          have mk1 := mix (prim := w2) (b := p.b) (i := k + 1) (len := p.xs.length) (k := .i64) (by omega)
          have l1 := HB_get k1
          have l2 := HB_get k2
          have s1 := HB_store (prim := w2) (H := p.H) (i := k) hb hoy hokc (by omega)
          have hok1 : okL (cur.set k y) := fun q hq => by
            rcases List.mem_or_eq_of_mem_set hq with h | h
            · exact hokc q h
            · rw [h]; exact hoy
          have s2 := HB_store (prim := w2) (H := p.H) (xs := cur.set k y) (i := k + 1) hb hox hok1 (by rw [List.length_set]; omega)
          rw [k3] at s2
          (try simp -dsimp (disch := omega) only [h0, h10, h13, wrap64, e13, mk, mk1, HB_blk hb, l1, l2, mp48e hox, mp48e hoy, s1, s2, AS, avals, apairs, bareP, AV.bare, AV.bares, Nat.reduceEqDiff, Nat.reduceLT, Nat.reduceAdd, ↓reduceIte, reduceCtorEq, resA, resA1, resVal, Nat.reduceLeDiff, nb_cfg, Nat.reduceBEq, AX, Int.reduceLT, Int.reduceLE, Int.reduceEq, Int.reduceAdd, Int.reduceSub, Int.reduceMul, Int.reduceNeg, Int.reduceNe])
          refine ⟨by kernel_rfl, D.length, by omega, fe_len, ?_, ?_, C ++ [y], D, by rw [← hcd]; simp, rfl, ?_, by rw [enew]; rfl⟩
          all_goals (try simp -dsimp (disch := omega) only [h0, h10, h13, AS, avals, apairs, bareP, AV.bare, AV.bares, Nat.reduceEqDiff, Nat.reduceLT, Nat.reduceAdd, ↓reduceIte, reduceCtorEq, resA, resA1, resVal, Nat.reduceLeDiff, nb_cfg, Nat.reduceBEq, AX, Int.reduceLT, Int.reduceLE, Int.reduceEq, Int.reduceAdd, Int.reduceSub, Int.reduceMul, Int.reduceNeg, Int.reduceNe])
          exact congrArg (fun z => AV.v (Value.int IntKind.i64 z)) (by rw [List.length_append, List.length_singleton]; omega)
      · refine ⟨fe_len, ?_, ?_, [], B1, rfl, rfl, ?_, by rw [hxs, hBB]; simp⟩
        all_goals (try simp -dsimp (disch := omega) only [h0, h1, h10, ej, AS, avals, apairs, bareP, AV.bare, AV.bares, Nat.reduceEqDiff, Nat.reduceLT, Nat.reduceAdd, ↓reduceIte, reduceCtorEq, resA, resA1, resVal, Nat.reduceLeDiff, nb_cfg, Nat.reduceBEq, AX, Int.reduceLT, Int.reduceLE, Int.reduceEq, Int.reduceAdd, Int.reduceSub, Int.reduceMul, Int.reduceNeg, Int.reduceNe])
        all_goals rfl
  · refine ⟨p.P.length + 1, p.P.length + 1 + p.B.length, ⟨fe_len, rfl, ?_, ?_, ?_, ?_, ?_, by omega, by omega, by omega, by omega⟩, fun t y ht _ => by omega, fun t y ht hy => by have := (List.getElem?_eq_some_iff.1 hy).1; omega⟩
    all_goals (try simp -dsimp (disch := omega) only [h0, h1, h2, h3, h4, AS, avals, apairs, bareP, AV.bare, AV.bares, Nat.reduceEqDiff, Nat.reduceLT, Nat.reduceAdd, ↓reduceIte, reduceCtorEq, resA, resA1, resVal, Nat.reduceLeDiff, nb_cfg, Nat.reduceBEq, AX, Int.reduceLT, Int.reduceLE, Int.reduceEq, Int.reduceAdd, Int.reduceSub, Int.reduceMul, Int.reduceNeg, Int.reduceNe])
end Go.Proofs.YtjejeijldllloaaDoor

/- Chapter 2: a merge in place: where the second part is one element. -/
namespace Go.Proofs.YtjejeijldllloaaDoor
open Go.AM
structure Sc (p : Sy) (i j m : Nat) (e : Env) (h : Hp) : Prop where
  len : e.length = 220
  hp : h = HB p.H p.b p.xs
  a0 : aget e 0 = .ex p.b 0 6 0 p.xs.length
  a2 : aget e 2 = .v (.int .i64 ((p.P.length + p.A.length : Nat) : Int))
  a4 : aget e 4 = fkey
  a14 : aget e 14 = .v (.int .i64 (i : Int))
  a15 : aget e 15 = .v (.int .i64 (j : Int))
  ij : i ≤ j
  il : p.P.length ≤ i
  jl : j ≤ p.P.length + p.A.length
  fu : j - i = m
structure Sd (p : Sy) (y : E) (A1 A2 : List E) (m : Nat) (e : Env) (h : Hp) : Prop where
  len : e.length = 220
  a0 : aget e 0 = .ex p.b 0 6 0 p.xs.length
  a14 : aget e 14 = .v (.int .i64 ((p.P.length + A1.length : Nat) : Int))
  seg : ∃ C D, C ++ D = A2 ∧ C.length = m ∧ aget e 17 = .v (.int .i64 ((p.P.length + A1.length + C.length : Nat) : Int)) ∧ h = HB p.H p.b (p.P ++ A1 ++ C ++ y :: D ++ p.Q)
set_option maxHeartbeats 8000000 in
set_option maxRecDepth 100000 in
theorem symB_ok (p : Sy) (hp : p.ok) (hA1 : p.A.length ≠ 1) (y : E) (hB : p.B = [y]) {T : FuncId → List AV → Hp → Option (AV × Hp)} (hT : CallsOk (cfgP w2) T) : CallOk (cfgP w2) 118 p.a (HB p.H p.b p.xs) (.tup []) (HB p.H p.b p.ys) := by
  obtain ⟨hb, hok, hsA, _, ha0, _, hlen⟩ := hp
  have hxl : p.xs.length = p.P.length + p.A.length + 1 + p.Q.length := by unfold Sy.xs; rw [hB]; simp only [List.length_append, List.length_singleton]
  have hbl : p.B.length = 1 := by rw [hB]; rfl
  have hal : 0 < p.A.length := List.length_pos_iff.2 ha0
  have hxs : p.xs = p.P ++ p.A ++ [y] ++ p.Q := by unfold Sy.xs; rw [hB]
  have hoy : okE y := hok y (by rw [hxs]; simp)
  have ky : p.xs[p.P.length + p.A.length]? = some y := get_mid (P := p.P ++ p.A) (A := [y]) (Q := p.Q) (t := 0) (by rw [hxs]) (by rw [List.length_append]; omega) rfl
  unfold Sy.a
  rw [hbl]
  refine call_of_wk (call := T) (fn := Tryd.f118) (rs := []) w2_ok hT (fns_cfg Tryd.func118 rfl) rfl rfl ?_
  intro env hl0 hargs
  have hn : env.length = 220 := hl0
  have h0 := hargs 0 _ rfl
  have h1 := hargs 1 _ rfl
  have h2 := hargs 2 _ rfl
  have h3 := hargs 3 _ rfl
  have h4 := hargs 4 _ rfl
  clear hargs hl0
  refine wkT_of ?_
  rw [fe_self hn]
  (try simp -dsimp (disch := omega) only [h0, h1, h2, h3, h4, wrap64, AS, avals, apairs, bareP, AV.bare, AV.bares, Nat.reduceEqDiff, Nat.reduceLT, Nat.reduceAdd, ↓reduceIte, reduceCtorEq, resA, resA1, resVal, Nat.reduceLeDiff, nb_cfg, Nat.reduceBEq, AX, Int.reduceLT, Int.reduceLE, Int.reduceEq, Int.reduceAdd, Int.reduceSub, Int.reduceMul, Int.reduceNeg, Int.reduceNe])
  refine wt_loop (m := p.A.length) (fun m e h => ∃ i j, Sc p i j m e h ∧ (∀ t z, p.P.length + t < i → p.A[t]? = some z → bl y.1 z.1 = false) ∧ (∀ t z, j ≤ p.P.length + t → p.A[t]? = some z → bl y.1 z.1 = true)) ?_ ?_
  · clear hn h0 h1 h2 h3 h4
    rintro m e h ⟨i, j, ⟨hn, rfl, h0, h2, h4, h14, h15, ij, il, jl, fu⟩, lo, hi⟩
    rw [fe_self hn]
    by_cases hij : i < j
    · obtain ⟨c, hc⟩ : ∃ c, (i + j) / 2 = c := ⟨_, rfl⟩
      have c1 : i ≤ c := by omega
      have c2 : c < j := by omega
      have esum : (i : Int) + (j : Int) = ((i + j : Nat) : Int) := by omega
      obtain ⟨z, hz⟩ : ∃ z, p.A[c - p.P.length]? = some z := ⟨p.A[c - p.P.length]'(by omega), List.getElem?_eq_getElem (by omega)⟩
      have kz : p.xs[c]? = some z := get_mid (P := p.P) (A := p.A) (Q := [y] ++ p.Q) (t := c - p.P.length) (by rw [hxs]; simp) (by omega) hz
      have hoz : okE z := hok z (List.mem_of_getElem? kz)
      have mc := mix (prim := w2) (b := p.b) (i := c) (len := p.xs.length) (k := .i64) (by omega)
      have ma := mix (prim := w2) (b := p.b) (i := p.P.length + p.A.length) (len := p.xs.length) (k := .i64) (by omega)
      have l1 := HB_get ky
      have l2 := HB_get kz
      have q := keyP_eq hoy hoz
      have qlt := cmpK_lt y.1 z.1
      cases hlt : bl y.1 z.1 with
      | true =>
        rw [hlt] at qlt
        (try simp -dsimp (disch := omega) only [h0, h2, h4, h14, h15, wrap64, esum, cvSU, bru1, hc, cvUS, mc, ma, HB_blk hb, l1, l2, mp48e hoy, mp48e hoz, fkey, ct_prim w2_74, enc_bare hoy, enc_bare hoz, q, qlt, AS, avals, apairs, bareP, AV.bare, AV.bares, Nat.reduceEqDiff, Nat.reduceLT, Nat.reduceAdd, ↓reduceIte, reduceCtorEq, resA, resA1, resVal, Nat.reduceLeDiff, nb_cfg, Nat.reduceBEq, AX, Int.reduceLT, Int.reduceLE, Int.reduceEq, Int.reduceAdd, Int.reduceSub, Int.reduceMul, Int.reduceNeg, Int.reduceNe])
        refine ⟨by kernel_rfl, c - i, by omega, i, c, ⟨fe_len, rfl, ?_, ?_, ?_, ?_, ?_, by omega, by omega, by omega, rfl⟩, lo, fun t w ht hw => ?_⟩
        case refine_6 => exact lt_of_lt_le hlt (srt_get hsA hz hw (by omega))
        all_goals (try simp -dsimp (disch := omega) only [h0, h2, h4, h14, h15, fkey, AS, avals, apairs, bareP, AV.bare, AV.bares, Nat.reduceEqDiff, Nat.reduceLT, Nat.reduceAdd, ↓reduceIte, reduceCtorEq, resA, resA1, resVal, Nat.reduceLeDiff, nb_cfg, Nat.reduceBEq, AX, Int.reduceLT, Int.reduceLE, Int.reduceEq, Int.reduceAdd, Int.reduceSub, Int.reduceMul, Int.reduceNeg, Int.reduceNe])
      | false =>
        rw [hlt] at qlt
        (try simp -dsimp (disch := omega) only [h0, h2, h4, h14, h15, wrap64, esum, cvSU, bru1, hc, cvUS, mc, ma, HB_blk hb, l1, l2, mp48e hoy, mp48e hoz, fkey, ct_prim w2_74, enc_bare hoy, enc_bare hoz, q, qlt, AS, avals, apairs, bareP, AV.bare, AV.bares, Nat.reduceEqDiff, Nat.reduceLT, Nat.reduceAdd, ↓reduceIte, reduceCtorEq, resA, resA1, resVal, Nat.reduceLeDiff, nb_cfg, Nat.reduceBEq, AX, Int.reduceLT, Int.reduceLE, Int.reduceEq, Int.reduceAdd, Int.reduceSub, Int.reduceMul, Int.reduceNeg, Int.reduceNe])
        refine ⟨by kernel_rfl, j - (c + 1), by omega, c + 1, j, ⟨fe_len, rfl, ?_, ?_, ?_, ?_, ?_, by omega, by omega, by omega, rfl⟩, fun t w ht hw => ?_, hi⟩
        case refine_6 =>
          cases hyw : bl y.1 w.1 with
          | false => rfl
          | true => rw [lt_of_lt_le hyw (srt_get hsA hw hz (by omega))] at hlt; cases hlt
        all_goals (try simp -dsimp (disch := omega) only [h0, h2, h4, h14, h15, fkey, AS, avals, apairs, bareP, AV.bare, AV.bares, Nat.reduceEqDiff, Nat.reduceLT, Nat.reduceAdd, ↓reduceIte, reduceCtorEq, resA, resA1, resVal, Nat.reduceLeDiff, nb_cfg, Nat.reduceBEq, AX, Int.reduceLT, Int.reduceLE, Int.reduceEq, Int.reduceAdd, Int.reduceSub, Int.reduceMul, Int.reduceNeg, Int.reduceNe])
        all_goals rfl
    · obtain rfl : j = i := by omega
      obtain ⟨A1, hT1⟩ : ∃ A1, p.A.take (j - p.P.length) = A1 := ⟨_, rfl⟩
      obtain ⟨A2, hT2⟩ : ∃ A2, p.A.drop (j - p.P.length) = A2 := ⟨_, rfl⟩
      have hAA : p.A = A1 ++ A2 := by rw [← hT1, ← hT2, List.take_append_drop]
      have hl1 : A1.length = j - p.P.length := by rw [← hT1, List.length_take]; omega
      have q1 : ∀ a ∈ A1, ble a.1 y.1 = true := by
        intro a ham
        obtain ⟨t, ht⟩ := List.getElem?_of_mem ham
        have htl := (List.getElem?_eq_some_iff.1 ht).1
        have := lo t a (by omega) (by rw [hAA, List.getElem?_append_left htl]; exact ht)
        simp [ble, this]
      have q2 : ∀ b ∈ A2, bl y.1 b.1 = true := by
        intro b hbm
        obtain ⟨t, ht⟩ := List.getElem?_of_mem hbm
        exact hi (A1.length + t) b (by omega) (by rw [hAA, List.getElem?_append_right (by omega), Nat.add_sub_cancel_left]; exact ht)
      have hfin : p.ys = p.P ++ A1 ++ y :: A2 ++ p.Q := by
        unfold Sy.ys
        rw [hB, ← ins_at (A := A1) (B := A2) (S := p.A) (by rw [← hAA]; exact (sortK_self hsA).symm) q2 q1]
        simp
      have ej : (j : Int) = ((p.P.length + A1.length : Nat) : Int) := by omega
      have hall : p.A.length = A1.length + A2.length := by rw [hAA, List.length_append]
      (try simp -dsimp (disch := omega) only [h0, h2, h4, h14, h15, AS, avals, apairs, bareP, AV.bare, AV.bares, Nat.reduceEqDiff, Nat.reduceLT, Nat.reduceAdd, ↓reduceIte, reduceCtorEq, resA, resA1, resVal, Nat.reduceLeDiff, nb_cfg, Nat.reduceBEq, AX, Int.reduceLT, Int.reduceLE, Int.reduceEq, Int.reduceAdd, Int.reduceSub, Int.reduceMul, Int.reduceNeg, Int.reduceNe])
      refine wt_loop (m := A2.length) (fun m e h => Sd p y A1 A2 m e h) ?_ ?_
      · clear hn h0 h2 h4 h14 h15
        rintro m e h ⟨hn, h0, h14, C, D, hcd, hm, h17, rfl⟩
        rw [fe_self hn]
        have hcl : C.length + D.length = A2.length := by rw [← hcd, List.length_append]
        rcases List.eq_nil_or_concat C with rfl | ⟨C', z, rfl⟩
        · simp only [List.length_nil] at hm hcl
          rw [List.nil_append] at hcd
          (try simp -dsimp (disch := omega) only [h0, h14, h17, wrap64, List.length_nil, Nat.add_zero, AS, avals, apairs, bareP, AV.bare, AV.bares, Nat.reduceEqDiff, Nat.reduceLT, Nat.reduceAdd, ↓reduceIte, reduceCtorEq, resA, resA1, resVal, Nat.reduceLeDiff, nb_cfg, Nat.reduceBEq, AX, Int.reduceLT, Int.reduceLE, Int.reduceEq, Int.reduceAdd, Int.reduceSub, Int.reduceMul, Int.reduceNeg, Int.reduceNe])
          rw [hfin, hcd]
          simp
        · rw [List.concat_eq_append] at *
          have hzl : (C' ++ [z]).length = C'.length + 1 := by simp
          rw [hzl] at h17 hm hcl
          obtain ⟨k1, k2, _, k3⟩ := sw2 (p.P ++ A1 ++ C') [] (D ++ p.Q) z y
          have ecur : p.P ++ A1 ++ (C' ++ [z]) ++ y :: D ++ p.Q = (p.P ++ A1 ++ C') ++ z :: ([] ++ y :: (D ++ p.Q)) := by simp
          have enew : p.P ++ A1 ++ C' ++ y :: (z :: D) ++ p.Q = (p.P ++ A1 ++ C') ++ y :: ([] ++ z :: (D ++ p.Q)) := by simp
          rw [ecur]
          have hokc : okL ((p.P ++ A1 ++ C') ++ z :: ([] ++ y :: (D ++ p.Q))) := okL_of (fun q hq => by
            rw [hxs, hAA, ← hcd]
            simp only [List.mem_append, List.mem_cons, List.not_mem_nil] at hq ⊢
            grind) hok
          have hoz : okE z := hokc z (by simp)
          have hlc : ((p.P ++ A1 ++ C') ++ z :: ([] ++ y :: (D ++ p.Q))).length = p.xs.length := by
            rw [hxl, hall]
            simp only [List.length_append, List.length_cons, List.length_nil]
            omega
          obtain ⟨k, hk⟩ : ∃ k, p.P.length + A1.length + C'.length = k := ⟨_, rfl⟩
          have hkl : (p.P ++ A1 ++ C').length = k := by rw [List.length_append, List.length_append, hk]
          rw [hkl] at k1 k2 k3
          simp only [List.length_nil, Nat.add_zero] at k2 k3
          rw [← Nat.add_assoc, hk] at h17
          obtain ⟨cur, hcur⟩ : ∃ cur, (p.P ++ A1 ++ C') ++ z :: ([] ++ y :: (D ++ p.Q)) = cur := ⟨_, rfl⟩
          rw [hcur] at k1 k2 k3 hlc hokc ⊢
          have e17 : ((k + 1 : Nat) : Int) - 1 = (k : Int) := by omega
          have mk := mix (prim := w2) (b := p.b) (i := k) (len := p.xs.length) (k := .i64) (by omega)
          have mk1 := mix (prim := w2) (b := p.b) (i := k + 1) (len := p.xs.length) (k := .i64) (by omega)
          have l1 := HB_get k1
          have l2 := HB_get k2
          have s1 := HB_store (prim := w2) (H := p.H) (i := k + 1) hb hoz hokc (by omega)
          have hok1 : okL (cur.set (k + 1) z) := fun q hq => by
            rcases List.mem_or_eq_of_mem_set hq with h | h
            · exact hokc q h
            · rw [h]; exact hoz
          have s2 := HB_store (prim := w2) (H := p.H) (xs := cur.set (k + 1) z) (i := k) hb hoy hok1 (by rw [List.length_set]; omega)
          rw [k3] at s2
          (try simp -dsimp (disch := omega) only [h0, h14, h17, wrap64, e17, mk, mk1, HB_blk hb, l1, l2, mp48e hoy, mp48e hoz, s1, s2, AS, avals, apairs, bareP, AV.bare, AV.bares, Nat.reduceEqDiff, Nat.reduceLT, Nat.reduceAdd, ↓reduceIte, reduceCtorEq, resA, resA1, resVal, Nat.reduceLeDiff, nb_cfg, Nat.reduceBEq, AX, Int.reduceLT, Int.reduceLE, Int.reduceEq, Int.reduceAdd, Int.reduceSub, Int.reduceMul, Int.reduceNeg, Int.reduceNe])
          refine ⟨by kernel_rfl, C'.length, by omega, fe_len, ?_, ?_, C', z :: D, by rw [← hcd]; simp, rfl, ?_, by rw [enew]; rfl⟩
          all_goals (try simp -dsimp (disch := omega) only [h0, h14, h17, hk, AS, avals, apairs, bareP, AV.bare, AV.bares, Nat.reduceEqDiff, Nat.reduceLT, Nat.reduceAdd, ↓reduceIte, reduceCtorEq, resA, resA1, resVal, Nat.reduceLeDiff, nb_cfg, Nat.reduceBEq, AX, Int.reduceLT, Int.reduceLE, Int.reduceEq, Int.reduceAdd, Int.reduceSub, Int.reduceMul, Int.reduceNeg, Int.reduceNe])
      · refine ⟨fe_len, ?_, ?_, A2, [], by simp, rfl, ?_, by rw [hxs, hAA]; simp⟩
        all_goals (try simp -dsimp (disch := omega) only [h0, h2, h14, ej, AS, avals, apairs, bareP, AV.bare, AV.bares, Nat.reduceEqDiff, Nat.reduceLT, Nat.reduceAdd, ↓reduceIte, reduceCtorEq, resA, resA1, resVal, Nat.reduceLeDiff, nb_cfg, Nat.reduceBEq, AX, Int.reduceLT, Int.reduceLE, Int.reduceEq, Int.reduceAdd, Int.reduceSub, Int.reduceMul, Int.reduceNeg, Int.reduceNe])
        exact congrArg (fun z => AV.v (Value.int IntKind.i64 z)) (by omega)
  · refine ⟨p.P.length, p.P.length + p.A.length, ⟨fe_len, rfl, ?_, ?_, ?_, ?_, ?_, by omega, by omega, by omega, by omega⟩, fun t z ht _ => by omega, fun t z ht hz => by have := (List.getElem?_eq_some_iff.1 hz).1; omega⟩
    all_goals (try simp -dsimp (disch := omega) only [h0, h1, h2, h3, h4, AS, avals, apairs, bareP, AV.bare, AV.bares, Nat.reduceEqDiff, Nat.reduceLT, Nat.reduceAdd, ↓reduceIte, reduceCtorEq, resA, resA1, resVal, Nat.reduceLeDiff, nb_cfg, Nat.reduceBEq, AX, Int.reduceLT, Int.reduceLE, Int.reduceEq, Int.reduceAdd, Int.reduceSub, Int.reduceMul, Int.reduceNeg, Int.reduceNe])
end Go.Proofs.YtjejeijldllloaaDoor

/- Chapter 2: a merge in place. -/
namespace Go.Proofs.YtjejeijldllloaaDoor
open Go.AM
theorem Ro.inj {p q : Ro} (hp : p.ok) (hq : q.ok) (ha : p.a = q.a) (hh : HB p.H p.b p.xs = HB q.H q.b q.xs) : HB p.H p.b p.ys = HB q.H q.b q.ys := by
  unfold Ro.a at ha
  injection ha with a1 ha
  injection ha with a2 ha
  injection ha with a3 ha
  injection ha with a4 _
  injection a1 with e1 _ _ _ _
  injection a2 with a2; injection a2 with _ a2
  injection a3 with a3; injection a3 with _ a3
  injection a4 with a4; injection a4 with _ a4
  rw [← e1] at hh ⊢
  obtain ⟨hx, hz⟩ := HB_inj hp.1 (by rw [e1]; exact hq.1) hh
  unfold Ro.xs at hx
  obtain ⟨hx, h4⟩ := List.append_inj hx (by simp only [List.length_append]; omega)
  obtain ⟨hx, h3⟩ := List.append_inj hx (by simp only [List.length_append]; omega)
  obtain ⟨h1, h2⟩ := List.append_inj hx (by omega)
  rw [hz]
  unfold Ro.ys
  rw [h1, h2, h3, h4]
noncomputable def roT := relT 126 Ro.ok Ro.a (fun p => HB p.H p.b p.xs) (fun _ => .tup []) (fun p => HB p.H p.b p.ys)
theorem roT_ok : CallsOk (cfgP w2) roT := relT_ok (fns_cfg Tryd.func126 rfl) rfl fun p h => rotate_ok p h
theorem roT_at {H : Hp} {b n : Nat} {P U V Q : List E} {x y z : Int} (hb : b < H.blks.length) (ho : okL (P ++ U ++ V ++ Q)) (hu : U ≠ []) (hv : V ≠ []) (hn : (P ++ U ++ V ++ Q).length = n) (hn2 : n < 4611686018427387904)
    (hx : x = (P.length : Int)) (hy : y = ((P.length + U.length : Nat) : Int)) (hz : z = ((P.length + U.length + V.length : Nat) : Int)) :
    roT 126 [.ex b 0 6 0 n, .v (.int .i64 x), .v (.int .i64 y), .v (.int .i64 z), fkey] (HB H b (P ++ U ++ V ++ Q)) = some (.tup [], HB H b (P ++ V ++ U ++ Q)) := by
  subst hx hy hz hn
  exact relT_eq (f0 := 126) (X := Ro.ok) (a := Ro.a) (h := fun p => HB p.H p.b p.xs) (r := fun _ => .tup []) (h' := fun p => HB p.H p.b p.ys) (fun p q hp hq ha hh => ⟨rfl, Ro.inj hp hq ha hh⟩) ⟨H, b, P, U, V, Q⟩ ⟨hb, ho, hu, hv, hn2⟩
theorem Sy.inj {p q : Sy} (hp : p.ok) (hq : q.ok) (ha : p.a = q.a) (hh : HB p.H p.b p.xs = HB q.H q.b q.xs) : HB p.H p.b p.ys = HB q.H q.b q.ys := by
  unfold Sy.a at ha
  injection ha with a1 ha
  injection ha with a2 ha
  injection ha with a3 ha
  injection ha with a4 _
  injection a1 with e1 _ _ _ _
  injection a2 with a2; injection a2 with _ a2
  injection a3 with a3; injection a3 with _ a3
  injection a4 with a4; injection a4 with _ a4
  rw [← e1] at hh ⊢
  obtain ⟨hx, hz⟩ := HB_inj hp.1 (by rw [e1]; exact hq.1) hh
  unfold Sy.xs at hx
  obtain ⟨hx, h4⟩ := List.append_inj hx (by simp only [List.length_append]; omega)
  obtain ⟨hx, h3⟩ := List.append_inj hx (by simp only [List.length_append]; omega)
  obtain ⟨h1, h2⟩ := List.append_inj hx (by omega)
  rw [hz]
  unfold Sy.ys
  rw [h1, h2, h3, h4]
noncomputable def syT (N : Nat) := relT 118 (fun p : Sy => p.ok ∧ p.A.length + p.B.length < N) Sy.a (fun p => HB p.H p.b p.xs) (fun _ => .tup []) (fun p => HB p.H p.b p.ys)
theorem syT_at {N : Nat} {H : Hp} {b n : Nat} {P A B Q : List E} {x y z : Int} (hb : b < H.blks.length) (ho : okL (P ++ A ++ B ++ Q)) (hsA : Srt (fun p : E => p.1) A) (hsB : Srt (fun p : E => p.1) B) (ha : A ≠ []) (hbn : B ≠ []) (hn : (P ++ A ++ B ++ Q).length = n) (hn2 : n < 1152921504606846976)
    (hN : A.length + B.length < N) (hx : x = (P.length : Int)) (hy : y = ((P.length + A.length : Nat) : Int)) (hz : z = ((P.length + A.length + B.length : Nat) : Int)) :
    syT N 118 [.ex b 0 6 0 n, .v (.int .i64 x), .v (.int .i64 y), .v (.int .i64 z), fkey] (HB H b (P ++ A ++ B ++ Q)) = some (.tup [], HB H b (P ++ sE (A ++ B) ++ Q)) := by
  subst hx hy hz hn
  exact relT_eq (f0 := 118) (X := fun p : Sy => p.ok ∧ p.A.length + p.B.length < N) (a := Sy.a) (h := fun p => HB p.H p.b p.xs) (r := fun _ => .tup []) (h' := fun p => HB p.H p.b p.ys) (fun p q hp hq ha hh => ⟨rfl, Sy.inj hp.1 hq.1 ha hh⟩) ⟨H, b, P, A, B, Q⟩ ⟨⟨hb, ho, hsA, hsB, ha, hbn, hn2⟩, hN⟩
/-- The two halves of a merge. -/
theorem halves {A1 A2 B1 B2 : List E} (hA : Srt (fun p : E => p.1) (A1 ++ A2)) (hB : Srt (fun p : E => p.1) (B1 ++ B2)) (h1 : ∀ b ∈ B1, ∀ a ∈ A2, bl b.1 a.1 = true) (h2 : ∀ a ∈ A1, ∀ b ∈ B2, ble a.1 b.1 = true) : sE (A1 ++ A2 ++ (B1 ++ B2)) = sE (A1 ++ B1) ++ sE (A2 ++ B2) := by
  obtain ⟨_, _, a3⟩ := List.pairwise_append.1 hA
  obtain ⟨_, _, b3⟩ := List.pairwise_append.1 hB
  have hs : Sm (fun p : E => p.1) (A2 ++ B1) (B1 ++ A2) := Sm.swap fun a ha b hb e => by
    have := h1 b hb a ha
    rw [e, bl_irrefl] at this
    cases this
  have h3 := Sm.append (Sm.append (Sm.refl (k := fun p : E => p.1) A1) hs) (Sm.refl B2)
  refine (sortK_sm_eq (ys := (A1 ++ B1) ++ (A2 ++ B2)) ?_).trans (sortK_parts ?_)
  · simpa using h3
  · intro a ha b hb
    rcases List.mem_append.1 ha with ha | ha <;> rcases List.mem_append.1 hb with hb | hb
    · exact a3 a ha b hb
    · exact h2 a ha b hb
    · exact ble_of_lt (h1 a ha b hb)
    · exact b3 a ha b hb
structure Se (p : Sy) (mid L R s r m : Nat) (e : Env) (h : Hp) : Prop where
  len : e.length = 220
  hp : h = HB p.H p.b p.xs
  a0 : aget e 0 = .ex p.b 0 6 0 p.xs.length
  a1 : aget e 1 = .v (.int .i64 (p.P.length : Int))
  a2 : aget e 2 = .v (.int .i64 ((p.P.length + p.A.length : Nat) : Int))
  a3 : aget e 3 = .v (.int .i64 ((p.P.length + p.A.length + p.B.length : Nat) : Int))
  a4 : aget e 4 = fkey
  a18 : aget e 18 = .v (.int .i64 (mid : Int))
  a19 : aget e 19 = .v (.int .i64 ((mid + (p.P.length + p.A.length) : Nat) : Int))
  a20 : aget e 20 = .v (.int .i64 (s : Int))
  a21 : aget e 21 = .v (.int .i64 (r : Int))
  a22 : aget e 22 = .v (.int .i64 ((mid + (p.P.length + p.A.length) - 1 : Nat) : Int))
  sr : s ≤ r
  sl : L ≤ s
  rl : r ≤ R
  fu : r - s = m
/-- Where the search ends. -/
theorem search_end {p : Sy} {mid L R s : Nat} (hs1 : Srt (fun p : E => p.1) p.A) (hs2 : Srt (fun p : E => p.1) p.B) (hL : L ≤ s) (hR : s ≤ R)
    (hmid : mid = (p.P.length + (p.P.length + p.A.length + p.B.length)) / 2)
    (hLR : (L = p.P.length ∧ R = p.P.length + p.A.length ∧ p.P.length + p.A.length ≤ mid) ∨ (L + (p.P.length + p.A.length + p.B.length) = mid + (p.P.length + p.A.length) ∧ R = mid ∧ mid < p.P.length + p.A.length))
    (lo : ∀ c x y, L ≤ c → c < s → p.A[c - p.P.length]? = some x → p.B[mid - 1 - c]? = some y → bl y.1 x.1 = false)
    (hi : ∀ c x y, s ≤ c → c < R → p.A[c - p.P.length]? = some x → p.B[mid - 1 - c]? = some y → bl y.1 x.1 = true) :
    ∃ A1 A2 B1 B2, p.A = A1 ++ A2 ∧ p.B = B1 ++ B2 ∧ p.P.length + A1.length = s ∧ s + B1.length = mid ∧ (∀ b ∈ B1, ∀ a ∈ A2, bl b.1 a.1 = true) ∧ (∀ a ∈ A1, ∀ b ∈ B2, ble a.1 b.1 = true) := by
  have hsA : s - p.P.length ≤ p.A.length := by omega
  have hsB : mid - s ≤ p.B.length := by omega
  refine ⟨p.A.take (s - p.P.length), p.A.drop (s - p.P.length), p.B.take (mid - s), p.B.drop (mid - s), (List.take_append_drop _ _).symm, (List.take_append_drop _ _).symm, by rw [List.length_take]; omega, by rw [List.length_take]; omega, ?_, ?_⟩
  · intro b hb a ha
    obtain ⟨i, hi1⟩ := List.getElem?_of_mem hb
    obtain ⟨j, hj1⟩ := List.getElem?_of_mem ha
    have hil := (List.getElem?_eq_some_iff.1 hi1).1
    have hjl := (List.getElem?_eq_some_iff.1 hj1).1
    rw [List.length_take] at hil
    rw [List.length_drop] at hjl
    rw [List.getElem?_take, if_pos (by omega)] at hi1
    rw [List.getElem?_drop] at hj1
    obtain ⟨x, hx⟩ : ∃ x, p.A[s - p.P.length]? = some x := ⟨p.A[s - p.P.length]'(by omega), List.getElem?_eq_getElem (by omega)⟩
    obtain ⟨y, hy⟩ : ∃ y, p.B[mid - 1 - s]? = some y := ⟨p.B[mid - 1 - s]'(by omega), List.getElem?_eq_getElem (by omega)⟩
    have h := hi s x y (Nat.le_refl _) (by omega) hx hy
    exact lt_of_le_lt (srt_get hs2 hi1 hy (by omega)) (lt_of_lt_le h (srt_get hs1 hx hj1 (by omega)))
  · intro a ha b hb
    obtain ⟨i, hi1⟩ := List.getElem?_of_mem ha
    obtain ⟨j, hj1⟩ := List.getElem?_of_mem hb
    have hil := (List.getElem?_eq_some_iff.1 hi1).1
    have hjl := (List.getElem?_eq_some_iff.1 hj1).1
    rw [List.length_take] at hil
    rw [List.length_drop] at hjl
    rw [List.getElem?_take, if_pos (by omega)] at hi1
    rw [List.getElem?_drop] at hj1
    obtain ⟨x, hx⟩ : ∃ x, p.A[s - 1 - p.P.length]? = some x := ⟨p.A[s - 1 - p.P.length]'(by omega), List.getElem?_eq_getElem (by omega)⟩
    obtain ⟨y, hy⟩ : ∃ y, p.B[mid - 1 - (s - 1)]? = some y := ⟨p.B[mid - 1 - (s - 1)]'(by omega), List.getElem?_eq_getElem (by omega)⟩
    have h := lo (s - 1) x y (by omega) (by omega) hx hy
    have hxy : ble x.1 y.1 = true := by simp [ble, h]
    exact ble_trans (srt_get hs1 hi1 hx (by omega)) (ble_trans hxy (srt_get hs2 hy hj1 (by omega)))
end Go.Proofs.YtjejeijldllloaaDoor

/- Chapter 2: a merge in place: the walk of the general case. -/
namespace Go.Proofs.YtjejeijldllloaaDoor
open Go.AM
set_option maxHeartbeats 40000000 in
set_option maxRecDepth 100000 in
theorem symC_ok (p : Sy) (hp : p.ok) (hA1 : p.A.length ≠ 1) (hB1 : p.B.length ≠ 1) {N : Nat} (hN : p.A.length + p.B.length ≤ N) (hT : CallsOk (cfgP w2) (syT N)) : CallOk (cfgP w2) 118 p.a (HB p.H p.b p.xs) (.tup []) (HB p.H p.b p.ys) := by
  obtain ⟨hb, hok, hsA, hsB, ha0, hb0, hlen⟩ := hp
  have hxl : p.xs.length = p.P.length + p.A.length + p.B.length + p.Q.length := by unfold Sy.xs; simp only [List.length_append]
  have hal : 0 < p.A.length := List.length_pos_iff.2 ha0
  have hbl : 0 < p.B.length := List.length_pos_iff.2 hb0
  obtain ⟨mid, hmid⟩ : ∃ mid, (p.P.length + (p.P.length + p.A.length + p.B.length)) / 2 = mid := ⟨_, rfl⟩
  obtain ⟨L, R, hLR⟩ : ∃ L R, (L = p.P.length ∧ R = p.P.length + p.A.length ∧ p.P.length + p.A.length ≤ mid) ∨ (L + (p.P.length + p.A.length + p.B.length) = mid + (p.P.length + p.A.length) ∧ R = mid ∧ mid < p.P.length + p.A.length) := by
    by_cases h : p.P.length + p.A.length ≤ mid
    · exact ⟨_, _, .inl ⟨rfl, rfl, h⟩⟩
    · exact ⟨mid + (p.P.length + p.A.length) - (p.P.length + p.A.length + p.B.length), mid, .inr ⟨by omega, rfl, by omega⟩⟩
  have hLR' := hLR
  have hTT := orT_ok roT_ok hT
  obtain ⟨T, hT0⟩ : ∃ T, orT roT (syT N) = T := ⟨_, rfl⟩
  rw [hT0] at hTT
  have esum : (p.P.length : Int) + ((p.P.length + p.A.length + p.B.length : Nat) : Int) = ((p.P.length + (p.P.length + p.A.length + p.B.length) : Nat) : Int) := by omega
  have en : (mid : Int) + ((p.P.length + p.A.length : Nat) : Int) = ((mid + (p.P.length + p.A.length) : Nat) : Int) := by omega
  have ep : ((mid + (p.P.length + p.A.length) : Nat) : Int) - 1 = ((mid + (p.P.length + p.A.length) - 1 : Nat) : Int) := by omega
  have eL : mid < p.P.length + p.A.length → ((mid + (p.P.length + p.A.length) : Nat) : Int) - ((p.P.length + p.A.length + p.B.length : Nat) : Int) = (L : Int) := by omega
  have hLle : L ≤ R := by omega
  unfold Sy.a
  refine call_of_wk (call := T) (fn := Tryd.f118) (rs := []) w2_ok hTT (fns_cfg Tryd.func118 rfl) rfl rfl ?_
  intro env hl0 hargs
  have hn : env.length = 220 := hl0
  have h0 := hargs 0 _ rfl
  have h1 := hargs 1 _ rfl
  have h2 := hargs 2 _ rfl
  have h3 := hargs 3 _ rfl
  have h4 := hargs 4 _ rfl
  clear hargs hl0
  refine wkT_of ?_
  rw [fe_self hn]
  rcases hLR with ⟨k1, k2, k3⟩ | ⟨k1, k2, k3⟩
  all_goals
    (try simp -dsimp (disch := omega) only [h0, h1, h2, h3, h4, wrap64, esum, cvSU, bru1, cvUS, hmid, en, ep, eL, AS, avals, apairs, bareP, AV.bare, AV.bares, Nat.reduceEqDiff, Nat.reduceLT, Nat.reduceAdd, ↓reduceIte, reduceCtorEq, resA, resA1, resVal, Nat.reduceLeDiff, nb_cfg, Nat.reduceBEq, AX, Int.reduceLT, Int.reduceLE, Int.reduceEq, Int.reduceAdd, Int.reduceSub, Int.reduceMul, Int.reduceNeg, Int.reduceNe])
    refine wt_loop (m := R - L) (fun m e h => ∃ s r, Se p mid L R s r m e h ∧ (∀ c x y, L ≤ c → c < s → p.A[c - p.P.length]? = some x → p.B[mid - 1 - c]? = some y → bl y.1 x.1 = false) ∧ (∀ c x y, r ≤ c → c < R → p.A[c - p.P.length]? = some x → p.B[mid - 1 - c]? = some y → bl y.1 x.1 = true)) ?_ ?_
    · clear hn h0 h1 h2 h3 h4
      rintro m e h ⟨s, r, ⟨hn, rfl, h0, h1, h2, h3, h4, h18, h19, h20, h21, h22, sr, sl, rl, fu⟩, lo, hi⟩
      rw [fe_self hn]
      by_cases hsr : s < r
      · obtain ⟨c, hc⟩ : ∃ c, (s + r) / 2 = c := ⟨_, rfl⟩
        have c1 : s ≤ c := by omega
        have c2 : c < r := by omega
        have esr : (s : Int) + (r : Int) = ((s + r : Nat) : Int) := by omega
        obtain ⟨x, hx⟩ : ∃ x, p.A[c - p.P.length]? = some x := ⟨p.A[c - p.P.length]'(by omega), List.getElem?_eq_getElem (by omega)⟩
        obtain ⟨y, hy⟩ : ∃ y, p.B[mid - 1 - c]? = some y := ⟨p.B[mid - 1 - c]'(by omega), List.getElem?_eq_getElem (by omega)⟩
        obtain ⟨d, hd⟩ : ∃ d, mid + (p.P.length + p.A.length) - 1 - c = d := ⟨_, rfl⟩
        have ed : ((mid + (p.P.length + p.A.length) - 1 : Nat) : Int) - (c : Int) = (d : Int) := by omega
        have kx : p.xs[c]? = some x := get_mid (P := p.P) (A := p.A) (Q := p.B ++ p.Q) (t := c - p.P.length) (by unfold Sy.xs; simp) (by omega) hx
        have ky : p.xs[d]? = some y := get_mid (P := p.P ++ p.A) (A := p.B) (Q := p.Q) (t := mid - 1 - c) rfl (by rw [List.length_append]; omega) hy
        have hox : okE x := hok x (List.mem_of_getElem? kx)
        have hoy : okE y := hok y (List.mem_of_getElem? ky)
        have mc := mix (prim := w2) (b := p.b) (i := c) (len := p.xs.length) (k := .i64) (by omega)
        have md := mix (prim := w2) (b := p.b) (i := d) (len := p.xs.length) (k := .i64) (by omega)
        have l1 := HB_get kx
        have l2 := HB_get ky
        have q := keyP_eq hoy hox
        have qlt := cmpK_lt y.1 x.1
        cases hlt : bl y.1 x.1 with
        | true =>
          rw [hlt] at qlt
          (try simp -dsimp (disch := omega) only [h0, h1, h2, h3, h4, h18, h19, h20, h21, h22, wrap64, esr, cvSU, bru1, hc, cvUS, ed, mc, md, HB_blk hb, l1, l2, mp48e hox, mp48e hoy, fkey, ct_prim w2_74, enc_bare hox, enc_bare hoy, q, qlt, AS, avals, apairs, bareP, AV.bare, AV.bares, Nat.reduceEqDiff, Nat.reduceLT, Nat.reduceAdd, ↓reduceIte, reduceCtorEq, resA, resA1, resVal, Nat.reduceLeDiff, nb_cfg, Nat.reduceBEq, AX, Int.reduceLT, Int.reduceLE, Int.reduceEq, Int.reduceAdd, Int.reduceSub, Int.reduceMul, Int.reduceNeg, Int.reduceNe])
          refine ⟨by kernel_rfl, c - s, by omega, s, c, ⟨fe_len, rfl, ?_, ?_, ?_, ?_, ?_, ?_, ?_, ?_, ?_, ?_, by omega, by omega, by omega, rfl⟩, lo, fun t u v ht1 ht2 hu hv => ?_⟩
          case refine_11 =>
            have b1 : ble x.1 u.1 = true := by
              rcases Nat.lt_or_ge t c with hlt' | hge
              · omega
              · exact srt_get hsA hx hu (by omega)
            have b2 : ble v.1 y.1 = true := srt_get hsB hv hy (by omega)
            exact lt_of_le_lt b2 (lt_of_lt_le hlt b1)
          all_goals (try simp -dsimp (disch := omega) only [h0, h1, h2, h3, h4, h18, h19, h20, h21, h22, fkey, AS, avals, apairs, bareP, AV.bare, AV.bares, Nat.reduceEqDiff, Nat.reduceLT, Nat.reduceAdd, ↓reduceIte, reduceCtorEq, resA, resA1, resVal, Nat.reduceLeDiff, nb_cfg, Nat.reduceBEq, AX, Int.reduceLT, Int.reduceLE, Int.reduceEq, Int.reduceAdd, Int.reduceSub, Int.reduceMul, Int.reduceNeg, Int.reduceNe])
        | false =>
          rw [hlt] at qlt
          (try simp -dsimp (disch := omega) only [h0, h1, h2, h3, h4, h18, h19, h20, h21, h22, wrap64, esr, cvSU, bru1, hc, cvUS, ed, mc, md, HB_blk hb, l1, l2, mp48e hox, mp48e hoy, fkey, ct_prim w2_74, enc_bare hox, enc_bare hoy, q, qlt, AS, avals, apairs, bareP, AV.bare, AV.bares, Nat.reduceEqDiff, Nat.reduceLT, Nat.reduceAdd, ↓reduceIte, reduceCtorEq, resA, resA1, resVal, Nat.reduceLeDiff, nb_cfg, Nat.reduceBEq, AX, Int.reduceLT, Int.reduceLE, Int.reduceEq, Int.reduceAdd, Int.reduceSub, Int.reduceMul, Int.reduceNeg, Int.reduceNe])
          refine ⟨by kernel_rfl, r - (c + 1), by omega, c + 1, r, ⟨fe_len, rfl, ?_, ?_, ?_, ?_, ?_, ?_, ?_, ?_, ?_, ?_, by omega, by omega, by omega, rfl⟩, fun t u v ht1 ht2 hu hv => ?_, hi⟩
          case refine_11 =>
            have b1 : ble u.1 x.1 = true := srt_get hsA hu hx (by omega)
            have b2 : ble y.1 v.1 = true := srt_get hsB hy hv (by omega)
            cases hvu : bl v.1 u.1 with
            | false => rfl
            | true => rw [lt_of_le_lt b2 (lt_of_lt_le hvu b1)] at hlt; cases hlt
          all_goals (try simp -dsimp (disch := omega) only [h0, h1, h2, h3, h4, h18, h19, h20, h21, h22, fkey, AS, avals, apairs, bareP, AV.bare, AV.bares, Nat.reduceEqDiff, Nat.reduceLT, Nat.reduceAdd, ↓reduceIte, reduceCtorEq, resA, resA1, resVal, Nat.reduceLeDiff, nb_cfg, Nat.reduceBEq, AX, Int.reduceLT, Int.reduceLE, Int.reduceEq, Int.reduceAdd, Int.reduceSub, Int.reduceMul, Int.reduceNeg, Int.reduceNe])
          all_goals rfl
      · obtain rfl : r = s := by omega
        obtain ⟨A1, A2, B1, B2, hA, hB, e1, e2, g1, g2⟩ := search_end hsA hsB sl rl hmid.symm hLR' lo hi
        have hAl : p.A.length = A1.length + A2.length := by rw [hA, List.length_append]
        have hBl : p.B.length = B1.length + B2.length := by rw [hB, List.length_append]
        rw [hA] at hsA
        rw [hB] at hsB
        obtain ⟨sA1, sA2, _⟩ := List.pairwise_append.1 hsA
        obtain ⟨sB1, sB2, _⟩ := List.pairwise_append.1 hsB
        have hh := halves hsA hsB g1 g2
        have hx0 : p.xs = p.P ++ A1 ++ A2 ++ B1 ++ (B2 ++ p.Q) := by unfold Sy.xs; rw [hA, hB]; simp
        have hx3 : p.ys = p.P ++ sE (A1 ++ B1) ++ sE (A2 ++ B2) ++ p.Q := by unfold Sy.ys; rw [hA, hB, hh]; simp
        have lx : (sE (A1 ++ B1)).length = A1.length + B1.length := by rw [← List.length_append]; exact sortK_length _
        have fA1 : sE A1 = A1 := sortK_self sA1
        have fA2 : sE A2 = A2 := sortK_self sA2
        have fB1 : sE B1 = B1 := sortK_self sB1
        have fB2 : sE B2 = B2 := sortK_self sB2
        obtain ⟨en', hen⟩ : ∃ en', mid + (p.P.length + p.A.length) - r = en' := ⟨_, rfl⟩
        have een : ((mid + (p.P.length + p.A.length) : Nat) : Int) - (r : Int) = (en' : Int) := by omega
        obtain ⟨X1, hX1⟩ : ∃ X1, p.P ++ A1 ++ B1 ++ A2 ++ (B2 ++ p.Q) = X1 := ⟨_, rfl⟩
        obtain ⟨X2, hX2⟩ : ∃ X2, p.P ++ sE (A1 ++ B1) ++ (A2 ++ (B2 ++ p.Q)) = X2 := ⟨_, rfl⟩
        obtain ⟨n, hn'⟩ : ∃ n, p.xs.length = n := ⟨_, rfl⟩
        have m0 : ∀ q, q ∈ X1 → q ∈ p.xs := by intro q hq; rw [← hX1] at hq; rw [hx0]; simp only [List.mem_append] at hq ⊢; grind
        have m1 : ∀ q, q ∈ X2 → q ∈ p.xs := by
          intro q hq
          rw [← hX2] at hq
          have := sortK_mem (k := fun p : E => p.1) (xs := A1 ++ B1) (a := q)
          rw [hx0]
          simp only [List.mem_append] at this hq ⊢
          grind
        have z1 : 0 < A2.length → 0 < B1.length → T 126 [.ex p.b 0 6 0 n, .v (.int .i64 (r : Int)), .v (.int .i64 ((p.P.length + p.A.length : Nat) : Int)), .v (.int .i64 (en' : Int)), fkey] (HB p.H p.b p.xs) = some (.tup [], HB p.H p.b X1) := by
          intro a1 a2
          rw [hx0, ← hX1, ← hT0]
          exact orT_l (roT_at hb (by rw [← hx0]; exact hok) (List.length_pos_iff.1 a1) (List.length_pos_iff.1 a2) (by rw [← hx0]; exact hn') (by omega) (by rw [List.length_append]; omega) (by rw [List.length_append]; omega) (by rw [List.length_append]; omega))
        have z1' : (A2.length = 0 ∨ B1.length = 0) → p.xs = X1 := by
          intro h
          rw [hx0, ← hX1]
          rcases h with h | h
          · rw [List.length_eq_zero_iff.1 h]; simp
          · rw [List.length_eq_zero_iff.1 h]; simp
        have z2 : 0 < A1.length → 0 < B1.length → T 118 [.ex p.b 0 6 0 n, .v (.int .i64 (p.P.length : Int)), .v (.int .i64 (r : Int)), .v (.int .i64 (mid : Int)), fkey] (HB p.H p.b X1) = some (.tup [], HB p.H p.b X2) := by
          intro a1 a2
          rw [← hT0, ← hX2, show X1 = p.P ++ A1 ++ B1 ++ (A2 ++ (B2 ++ p.Q)) from by rw [← hX1]; simp]
          refine orT_r (relT_none (by decide)) (syT_at hb (okL_of (fun q hq => m0 q (by rw [← hX1]; simpa using hq)) hok) sA1 sB1 (List.length_pos_iff.1 a1) (List.length_pos_iff.1 a2) ?_ (by omega) (by omega) rfl (by omega) (by omega))
          rw [← hn', hxl]
          simp only [List.length_append]
          omega
        have z2' : (A1.length = 0 ∨ B1.length = 0) → X1 = X2 := by
          intro h
          rw [← hX1, ← hX2]
          rcases h with h | h
          · rw [List.length_eq_zero_iff.1 h]; simp [fB1]
          · rw [List.length_eq_zero_iff.1 h]; simp [fA1]
        have z3 : 0 < A2.length → 0 < B2.length → T 118 [.ex p.b 0 6 0 n, .v (.int .i64 (mid : Int)), .v (.int .i64 (en' : Int)), .v (.int .i64 ((p.P.length + p.A.length + p.B.length : Nat) : Int)), fkey] (HB p.H p.b X2) = some (.tup [], HB p.H p.b p.ys) := by
          intro a1 a2
          rw [← hT0, hx3, show X2 = p.P ++ sE (A1 ++ B1) ++ A2 ++ B2 ++ p.Q from by rw [← hX2]; simp]
          refine orT_r (relT_none (by decide)) (syT_at hb (okL_of (fun q hq => m1 q (by rw [← hX2]; simpa using hq)) hok) sA2 sB2 (List.length_pos_iff.1 a1) (List.length_pos_iff.1 a2) ?_ (by omega) (by omega) (by rw [List.length_append]; omega) (by rw [List.length_append]; omega) (by rw [List.length_append]; omega))
          rw [← hn', hxl]
          simp only [List.length_append]
          omega
        have z3' : (A2.length = 0 ∨ B2.length = 0) → X2 = p.ys := by
          intro h
          rw [hx3, ← hX2]
          rcases h with h | h
          · rw [List.length_eq_zero_iff.1 h]; simp [fB2]
          · rw [List.length_eq_zero_iff.1 h]; simp [fA2]
        clear hh hx0 hx3 m0 m1 lo hi g1 g2 hsA hsB sA1 sA2 sB1 sB2 hok lx
        rw [hn'] at h0
        obtain ⟨X0, hX0⟩ : ∃ X0, p.xs = X0 := ⟨_, rfl⟩
        obtain ⟨X3, hX3⟩ : ∃ X3, p.ys = X3 := ⟨_, rfl⟩
        rw [hX0] at z1 z1' ⊢
        rw [hX3] at z3 z3' ⊢
        clear hX0 hX1 hX2 hX3
        rcases Nat.eq_zero_or_pos A1.length with u1 | u1 <;> rcases Nat.eq_zero_or_pos A2.length with u2 | u2 <;> rcases Nat.eq_zero_or_pos B1.length with u3 | u3 <;> rcases Nat.eq_zero_or_pos B2.length with u4 | u4
        all_goals first
          | (exfalso; omega)
          | skip
        all_goals (try (have w := z1' (by omega); subst w))
        all_goals (try (have w := z2' (by omega); subst w))
        all_goals (try (have w := z3' (by omega); subst w))
        all_goals (try simp -dsimp (disch := omega) only [h0, h1, h2, h3, h4, h18, h19, h20, h21, h22, wrap64, een, ct_own (C := cfgP w2) (f := 126) rfl rfl, ct_own (C := cfgP w2) (f := 118) rfl rfl, z1, z2, z3, AS, avals, apairs, bareP, AV.bare, AV.bares, Nat.reduceEqDiff, Nat.reduceLT, Nat.reduceAdd, ↓reduceIte, reduceCtorEq, resA, resA1, resVal, Nat.reduceLeDiff, nb_cfg, Nat.reduceBEq, AX, Int.reduceLT, Int.reduceLE, Int.reduceEq, Int.reduceAdd, Int.reduceSub, Int.reduceMul, Int.reduceNeg, Int.reduceNe])
    · refine ⟨L, R, ⟨fe_len, rfl, ?_, ?_, ?_, ?_, ?_, ?_, ?_, ?_, ?_, ?_, by omega, by omega, by omega, rfl⟩, fun c x y h1 h2 => by omega, fun c x y h1 h2 => by omega⟩
      all_goals (try simp -dsimp (disch := omega) only [h0, h1, h2, h3, h4, k1, k2, AS, avals, apairs, bareP, AV.bare, AV.bares, Nat.reduceEqDiff, Nat.reduceLT, Nat.reduceAdd, ↓reduceIte, reduceCtorEq, resA, resA1, resVal, Nat.reduceLeDiff, nb_cfg, Nat.reduceBEq, AX, Int.reduceLT, Int.reduceLE, Int.reduceEq, Int.reduceAdd, Int.reduceSub, Int.reduceMul, Int.reduceNeg, Int.reduceNe])
end Go.Proofs.YtjejeijldllloaaDoor

/- Chapter 2: the stable sort. -/
namespace Go.Proofs.YtjejeijldllloaaDoor
open Go.AM
theorem sym_all : ∀ (N : Nat) (p : Sy), p.ok → p.A.length + p.B.length < N → CallOk (cfgP w2) 118 p.a (HB p.H p.b p.xs) (.tup []) (HB p.H p.b p.ys)
  | 0, p, _, h => by omega
  | N + 1, p, hp, h => by
    have hT : CallsOk (cfgP w2) (syT N) := relT_ok (fns_cfg Tryd.func118 rfl) rfl fun q hq => sym_all N q hq.1 hq.2
    by_cases h1 : p.A.length = 1
    · obtain ⟨x, hx⟩ := List.length_eq_one_iff.1 h1
      exact symA_ok p hp x hx hT
    by_cases h2 : p.B.length = 1
    · obtain ⟨y, hy⟩ := List.length_eq_one_iff.1 h2
      exact symB_ok p hp h1 y hy hT
    exact symC_ok p hp h1 h2 (by omega) hT
theorem sym_ok (p : Sy) (hp : p.ok) : CallOk (cfgP w2) 118 p.a (HB p.H p.b p.xs) (.tup []) (HB p.H p.b p.ys) := sym_all _ p hp (Nat.lt_succ_self _)
noncomputable def smT := relT 118 Sy.ok Sy.a (fun p => HB p.H p.b p.xs) (fun _ => .tup []) (fun p => HB p.H p.b p.ys)
theorem smT_ok : CallsOk (cfgP w2) smT := relT_ok (fns_cfg Tryd.func118 rfl) rfl sym_ok
theorem smT_at {H : Hp} {b n : Nat} {P A B Q : List E} {x y z : Int} (hb : b < H.blks.length) (ho : okL (P ++ A ++ B ++ Q)) (hsA : Srt (fun p : E => p.1) A) (hsB : Srt (fun p : E => p.1) B) (ha : A ≠ []) (hbn : B ≠ []) (hn : (P ++ A ++ B ++ Q).length = n) (hn2 : n < 1152921504606846976)
    (hx : x = (P.length : Int)) (hy : y = ((P.length + A.length : Nat) : Int)) (hz : z = ((P.length + A.length + B.length : Nat) : Int)) :
    smT 118 [.ex b 0 6 0 n, .v (.int .i64 x), .v (.int .i64 y), .v (.int .i64 z), fkey] (HB H b (P ++ A ++ B ++ Q)) = some (.tup [], HB H b (P ++ sE (A ++ B) ++ Q)) := by
  subst hx hy hz hn
  exact relT_eq (f0 := 118) (X := Sy.ok) (a := Sy.a) (h := fun p => HB p.H p.b p.xs) (r := fun _ => .tup []) (h' := fun p => HB p.H p.b p.ys) (fun p q hp hq ha hh => ⟨rfl, Sy.inj hp hq ha hh⟩) ⟨H, b, P, A, B, Q⟩ ⟨hb, ho, hsA, hsB, ha, hbn, hn2⟩
theorem Is.inj {p q : Is} (hp : p.ok) (hq : q.ok) (ha : p.a = q.a) (hh : HB p.H p.b p.xs = HB q.H q.b q.xs) : HB p.H p.b p.ys = HB q.H q.b q.ys := by
  unfold Is.a at ha
  injection ha with a1 ha
  injection ha with a2 ha
  injection ha with a3 _
  injection a1 with e1 _ _ _ _
  injection a2 with a2; injection a2 with _ a2
  injection a3 with a3; injection a3 with _ a3
  rw [← e1] at hh ⊢
  obtain ⟨hx, hz⟩ := HB_inj hp.1 (by rw [e1]; exact hq.1) hh
  unfold Is.xs at hx
  obtain ⟨hx, h3⟩ := List.append_inj hx (by simp only [List.length_append]; omega)
  obtain ⟨h1, h2⟩ := List.append_inj hx (by omega)
  rw [hz]
  unfold Is.ys
  rw [h1, h2, h3]
noncomputable def isT := relT 117 Is.ok Is.a (fun p => HB p.H p.b p.xs) (fun _ => .tup []) (fun p => HB p.H p.b p.ys)
theorem isT_ok : CallsOk (cfgP w2) isT := relT_ok (fns_cfg Tryd.func117 rfl) rfl insert_ok
theorem isT_at {H : Hp} {b n : Nat} {P S Q : List E} {x y : Int} (hb : b < H.blks.length) (ho : okL (P ++ S ++ Q)) (hn : (P ++ S ++ Q).length = n) (hn2 : n < 4611686018427387904) (hx : x = (P.length : Int)) (hy : y = ((P.length + S.length : Nat) : Int)) :
    isT 117 [.ex b 0 6 0 n, .v (.int .i64 x), .v (.int .i64 y), fkey] (HB H b (P ++ S ++ Q)) = some (.tup [], HB H b (P ++ sE S ++ Q)) := by
  subst hx hy hn
  exact relT_eq (f0 := 117) (X := Is.ok) (a := Is.a) (h := fun p => HB p.H p.b p.xs) (r := fun _ => .tup []) (h' := fun p => HB p.H p.b p.ys) (fun p q hp hq ha hh => ⟨rfl, Is.inj hp hq ha hh⟩) ⟨H, b, P, S, Q⟩ ⟨hb, ho, hn2⟩
/-- Each so many are in their order. -/
inductive Ch (s : Nat) : List E → List E → Prop
  | last (xs : List E) (h : xs.length < s) : Ch s xs (sE xs)
  | more (x r ys : List E) (h : x.length = s) (hr : Ch s r ys) : Ch s (x ++ r) (sE x ++ ys)
theorem Ch.len {s : Nat} {xs ys : List E} (h : Ch s xs ys) : ys.length = xs.length := by
  induction h with
  | last xs h => exact sortK_length xs
  | more x r ys h hr ih => rw [List.length_append, List.length_append, ih]; congr 1; exact sortK_length x
theorem Ch.mem {s : Nat} {xs ys : List E} (h : Ch s xs ys) {q : E} (hq : q ∈ ys) : q ∈ xs := by
  induction h with
  | last xs h => exact sortK_mem.1 hq
  | more x r ys h hr ih =>
    rcases List.mem_append.1 hq with hq | hq
    · exact List.mem_append_left _ (sortK_mem.1 hq)
    · exact List.mem_append_right _ (ih hq)
theorem Ch.short {s : Nat} {xs ys : List E} (h : Ch s xs ys) (hl : xs.length < s) : ys = sE xs := by
  cases h with
  | last xs h => rfl
  | more x r ys h hr => rw [List.length_append] at hl; omega
theorem Ch.le {s : Nat} {xs ys : List E} (hs : 0 < s) (h : Ch s xs ys) (hl : xs.length ≤ s) : ys = sE xs := by
  cases h with
  | last xs h => rfl
  | more x r ys h hr =>
    rw [List.length_append] at hl
    have hr0 : r = [] := List.length_eq_zero_iff.1 (by omega)
    subst hr0
    have := hr.short (by simpa using hs)
    subst this
    rw [List.append_nil]
    show sE x ++ sE [] = sE x
    exact List.append_nil _
theorem Ch.split {s : Nat} {xs ys : List E} (h : Ch s xs ys) (hl : s ≤ xs.length) : ∃ x r ys', xs = x ++ r ∧ ys = sE x ++ ys' ∧ x.length = s ∧ Ch s r ys' := by
  cases h with
  | last xs h => omega
  | more x r ys h hr => exact ⟨x, r, ys, rfl, rfl, h, hr⟩
structure So where
  H : Hp
  b : Nat
  xs : List E
def So.ok (p : So) : Prop := p.b < p.H.blks.length ∧ okL p.xs ∧ p.xs.length < 288230376151711744
structure SoA (p : So) (m : Nat) (e : Env) (h : Hp) : Prop where
  len : e.length = 63
  a0 : aget e 0 = .ex p.b 0 6 0 p.xs.length
  a1 : aget e 1 = .v (.int .i64 (p.xs.length : Int))
  a2 : aget e 2 = fkey
  a6 : aget e 6 = .v (.int .i64 20)
  seg : ∃ X Y D, p.xs = X ++ Y ∧ Y.length = m ∧ D.length = X.length ∧ (∀ q ∈ D, q ∈ X) ∧ (∀ Y' Z, Ch 20 Y' Z → Ch 20 (X ++ Y') (D ++ Z)) ∧ aget e 7 = .v (.int .i64 (X.length : Int)) ∧ aget e 8 = .v (.int .i64 ((X.length + 20 : Nat) : Int)) ∧ h = HB p.H p.b (D ++ Y)
structure SoB (p : So) (m : Nat) (e : Env) (h : Hp) : Prop where
  len : e.length = 63
  a0 : aget e 0 = .ex p.b 0 6 0 p.xs.length
  a1 : aget e 1 = .v (.int .i64 (p.xs.length : Int))
  a2 : aget e 2 = fkey
  seg : ∃ (s : Nat) (ys : List E), 0 < s ∧ s < 576460752303423488 ∧ aget e 6 = .v (.int .i64 (s : Int)) ∧ Ch s p.xs ys ∧ p.xs.length - s = m ∧ h = HB p.H p.b ys
structure SoC (p : So) (s : Nat) (m : Nat) (e : Env) (h : Hp) : Prop where
  len : e.length = 63
  a0 : aget e 0 = .ex p.b 0 6 0 p.xs.length
  a1 : aget e 1 = .v (.int .i64 (p.xs.length : Int))
  a2 : aget e 2 = fkey
  a6 : aget e 6 = .v (.int .i64 (s : Int))
  seg : ∃ X Y D ys, p.xs = X ++ Y ∧ Y.length = m ∧ D.length = X.length ∧ (∀ q ∈ D, q ∈ X) ∧ (∀ Y' Z, Ch (2 * s) Y' Z → Ch (2 * s) (X ++ Y') (D ++ Z)) ∧ Ch s Y ys ∧ aget e 7 = .v (.int .i64 (X.length : Int)) ∧ aget e 8 = .v (.int .i64 ((X.length + 2 * s : Nat) : Int)) ∧ h = HB p.H p.b (D ++ ys)
noncomputable def stT := orT isT smT
theorem stT_ok : CallsOk (cfgP w2) stT := orT_ok isT_ok smT_ok
theorem mul2 {C : Cfg} {t : TypeId} {x y : Operand} {s : Nat} (h : s < 4611686018427387904) : binA C .mul t x y (.v (.int .i64 2)) (.v (.int .i64 (s : Int))) = some (.v (.int .i64 ((2 * s : Nat) : Int))) := by
  rw [bin_mul, show (2 * (s : Int)) = ((2 * s : Nat) : Int) by push_cast; rfl, wrapN64 (by omega)]
theorem mul2' {C : Cfg} {t : TypeId} {x y : Operand} {s : Nat} (h : s < 4611686018427387904) : binA C .mul t x y (.v (.int .i64 (s : Int))) (.v (.int .i64 2)) = some (.v (.int .i64 ((2 * s : Nat) : Int))) := by
  rw [bin_mul, show ((s : Int) * 2) = ((2 * s : Nat) : Int) by push_cast; omega, wrapN64 (by omega)]
set_option maxHeartbeats 16000000 in
set_option maxRecDepth 100000 in
theorem stable_ok (p : So) (hp : p.ok) : CallOk (cfgP w2) 99 [.ex p.b 0 6 0 p.xs.length, .v (.int .i64 (p.xs.length : Int)), fkey] (HB p.H p.b p.xs) (.tup []) (HB p.H p.b (sE p.xs)) := by
  obtain ⟨hb, hok, hlen⟩ := hp
  refine call_of_wk (call := stT) (fn := Tryd.f99) (rs := []) w2_ok stT_ok (fns_cfg Tryd.func99 rfl) rfl rfl ?_
  intro env hl0 hargs
  have hn : env.length = 63 := hl0
  have h0 := hargs 0 _ rfl
  have h1 := hargs 1 _ rfl
  have h2 := hargs 2 _ rfl
  clear hargs hl0
  refine wkT_of ?_
  rw [fe_self hn]
  (try simp -dsimp (disch := omega) only [h0, h1, h2, AS, avals, apairs, bareP, AV.bare, AV.bares, Nat.reduceEqDiff, Nat.reduceLT, Nat.reduceAdd, ↓reduceIte, reduceCtorEq, resA, resA1, resVal, Nat.reduceLeDiff, nb_cfg, Nat.reduceBEq, AX, Int.reduceLT, Int.reduceLE, Int.reduceEq, Int.reduceAdd, Int.reduceSub, Int.reduceMul, Int.reduceNeg, Int.reduceNe])
  refine wt_loop (m := p.xs.length) (fun m e h => SoA p m e h) ?_ ?_
  · clear hn h0 h1 h2
    rintro m e h ⟨hn, h0, h1, h2, h6, X, Y, D, hX, hY, hD, hm, hK, h7, h8, rfl⟩
    rw [fe_self hn]
    have hxl : p.xs.length = X.length + Y.length := by rw [hX, List.length_append]
    have hokD : okL (D ++ Y) := okL_of (fun q hq => by
      rw [hX]
      rcases List.mem_append.1 hq with hq | hq
      · exact List.mem_append_left _ (hm q hq)
      · exact List.mem_append_right _ hq) hok
    by_cases h20 : 20 ≤ Y.length
    · obtain ⟨y, Y', rfl, hy⟩ : ∃ y Y', Y = y ++ Y' ∧ y.length = 20 := ⟨Y.take 20, Y.drop 20, (List.take_append_drop _ _).symm, by rw [List.length_take]; omega⟩
      rw [List.length_append] at hY hxl
      have c : stT 117 [.ex p.b 0 6 0 p.xs.length, .v (.int .i64 (X.length : Int)), .v (.int .i64 ((X.length + 20 : Nat) : Int)), fkey] (HB p.H p.b (D ++ (y ++ Y'))) = some (.tup [], HB p.H p.b (D ++ sE y ++ Y')) := by
        rw [← List.append_assoc] at hokD ⊢
        exact orT_l (isT_at hb hokD (by simp only [List.length_append]; omega) (by omega) (by omega) (by omega))
      (try simp -dsimp (disch := omega) only [h0, h1, h2, h6, h7, h8, wrap64, ct_own (C := cfgP w2) (f := 117) rfl rfl, c, AS, avals, apairs, bareP, AV.bare, AV.bares, Nat.reduceEqDiff, Nat.reduceLT, Nat.reduceAdd, ↓reduceIte, reduceCtorEq, resA, resA1, resVal, Nat.reduceLeDiff, nb_cfg, Nat.reduceBEq, AX, Int.reduceLT, Int.reduceLE, Int.reduceEq, Int.reduceAdd, Int.reduceSub, Int.reduceMul, Int.reduceNeg, Int.reduceNe])
      refine ⟨Y'.length, by omega, fe_len, ?_, ?_, ?_, ?_, X ++ y, Y', D ++ sE y, by rw [hX]; simp, rfl, by rw [List.length_append, List.length_append, hD]; congr 1; exact sortK_length y, ?_, ?_, ?_, ?_, rfl⟩
      case refine_5 =>
        intro q hq
        rcases List.mem_append.1 hq with hq | hq
        · exact List.mem_append_left _ (hm q hq)
        · exact List.mem_append_right _ (sortK_mem.1 hq)
      case refine_6 =>
        intro Y2 Z hc
        rw [List.append_assoc, List.append_assoc]
        exact hK _ _ (Ch.more y Y2 Z hy hc)
      all_goals (try simp -dsimp (disch := omega) only [h0, h1, h2, h6, h7, h8, AS, avals, apairs, bareP, AV.bare, AV.bares, Nat.reduceEqDiff, Nat.reduceLT, Nat.reduceAdd, ↓reduceIte, reduceCtorEq, resA, resA1, resVal, Nat.reduceLeDiff, nb_cfg, Nat.reduceBEq, AX, Int.reduceLT, Int.reduceLE, Int.reduceEq, Int.reduceAdd, Int.reduceSub, Int.reduceMul, Int.reduceNeg, Int.reduceNe])
      · exact congrArg (fun z => AV.v (Value.int IntKind.i64 z)) (by rw [List.length_append]; omega)
      · exact congrArg (fun z => AV.v (Value.int IntKind.i64 z)) (by rw [List.length_append]; omega)
    · have c : stT 117 [.ex p.b 0 6 0 p.xs.length, .v (.int .i64 (X.length : Int)), .v (.int .i64 (p.xs.length : Int)), fkey] (HB p.H p.b (D ++ Y)) = some (.tup [], HB p.H p.b (D ++ sE Y)) := by
        have := isT_at (H := p.H) (b := p.b) (P := D) (S := Y) (Q := []) (n := p.xs.length) (x := (X.length : Int)) (y := (p.xs.length : Int)) hb (by rw [List.append_nil]; exact hokD) (by simp only [List.length_append, List.length_nil]; omega) (by omega) (by omega) (by omega)
        rw [List.append_nil, List.append_nil] at this
        exact orT_l this
      have hch := hK _ _ (Ch.last Y (by omega : Y.length < 20))
      rw [← hX] at hch
      obtain ⟨ys, hys⟩ : ∃ ys, D ++ sE Y = ys := ⟨_, rfl⟩
      rw [hys] at c hch
      (try simp -dsimp (disch := omega) only [h0, h1, h2, h6, h7, h8, wrap64, ct_own (C := cfgP w2) (f := 117) rfl rfl, c, AS, avals, apairs, bareP, AV.bare, AV.bares, Nat.reduceEqDiff, Nat.reduceLT, Nat.reduceAdd, ↓reduceIte, reduceCtorEq, resA, resA1, resVal, Nat.reduceLeDiff, nb_cfg, Nat.reduceBEq, AX, Int.reduceLT, Int.reduceLE, Int.reduceEq, Int.reduceAdd, Int.reduceSub, Int.reduceMul, Int.reduceNeg, Int.reduceNe])
      refine wt_loop (m := p.xs.length - 20) (fun m e h => SoB p m e h) ?_ ?_
      · clear hn h0 h1 h2 h6 h7 h8 c hch hys hK hm hD hokD h20 hX hY hxl
        rintro m e h ⟨hn, h0, h1, h2, s, ys, s0, s1, h6, hch, hsm, rfl⟩
        rw [fe_self hn]
        by_cases hs : ¬ s < p.xs.length
        · rw [hch.le s0 (by omega)]
          (try simp -dsimp (disch := omega) only [h0, h1, h2, h6, AS, avals, apairs, bareP, AV.bare, AV.bares, Nat.reduceEqDiff, Nat.reduceLT, Nat.reduceAdd, ↓reduceIte, reduceCtorEq, resA, resA1, resVal, Nat.reduceLeDiff, nb_cfg, Nat.reduceBEq, AX, Int.reduceLT, Int.reduceLE, Int.reduceEq, Int.reduceAdd, Int.reduceSub, Int.reduceMul, Int.reduceNeg, Int.reduceNe])
        · replace hs : s < p.xs.length := by omega
          (try simp -dsimp (disch := omega) only [h0, h1, h2, h6, wrap64, AS, avals, apairs, bareP, AV.bare, AV.bares, Nat.reduceEqDiff, Nat.reduceLT, Nat.reduceAdd, ↓reduceIte, reduceCtorEq, resA, resA1, resVal, Nat.reduceLeDiff, nb_cfg, Nat.reduceBEq, AX, Int.reduceLT, Int.reduceLE, Int.reduceEq, Int.reduceAdd, Int.reduceSub, Int.reduceMul, Int.reduceNeg, Int.reduceNe])
          refine wt_loop (m := p.xs.length) (fun m e h => SoC p s m e h) ?_ ?_
          · clear hn h0 h1 h2 h6 hch
            rintro m' e h ⟨hn, h0, h1, h2, h6, X, Y, D, ys, hX, hY, hD, hm, hK, hch, h7, h8, rfl⟩
            rw [fe_self hn]
            have hxl : p.xs.length = X.length + Y.length := by rw [hX, List.length_append]
            have hyl := hch.len
            have hokD : okL (D ++ ys) := okL_of (fun q hq => by
              rw [hX]
              rcases List.mem_append.1 hq with hq | hq
              · exact List.mem_append_left _ (hm q hq)
              · exact List.mem_append_right _ (hch.mem hq)) hok
            have eas : (X.length : Int) + (s : Int) = ((X.length + s : Nat) : Int) := by omega
            by_cases h2s : 2 * s ≤ Y.length
            · obtain ⟨y1, Y1, ys1, rfl, rfl, hy1, hc1⟩ := hch.split (by omega)
              rw [List.length_append] at h2s hY hxl
              obtain ⟨y2, Y2, ys2, rfl, rfl, hy2, hc2⟩ := hc1.split (by omega)
              rw [List.length_append] at h2s hY hxl
              have hl1 : (sE y1).length = s := by rw [← hy1]; exact sortK_length y1
              have hl2 : (sE y2).length = s := by rw [← hy2]; exact sortK_length y2
              have hl3 := hc2.len
              have c : stT 118 [.ex p.b 0 6 0 p.xs.length, .v (.int .i64 (X.length : Int)), .v (.int .i64 ((X.length + s : Nat) : Int)), .v (.int .i64 ((X.length + 2 * s : Nat) : Int)), fkey] (HB p.H p.b (D ++ (sE y1 ++ (sE y2 ++ ys2)))) = some (.tup [], HB p.H p.b (D ++ sE (y1 ++ y2) ++ ys2)) := by
                rw [show D ++ (sE y1 ++ (sE y2 ++ ys2)) = D ++ sE y1 ++ sE y2 ++ ys2 by simp] at hokD ⊢
                rw [← show sE (sE y1 ++ sE y2) = sE (y1 ++ y2) from sortK_sorted_both y1 y2]
                exact orT_r (relT_none (by decide)) (smT_at hb hokD (sortK_srt y1) (sortK_srt y2) (List.length_pos_iff.1 (by omega)) (List.length_pos_iff.1 (by omega)) (by simp only [List.length_append]; omega) (by omega) (by omega) (by omega) (by omega))
              (try simp -dsimp (disch := omega) only [h0, h1, h2, h6, h7, h8, wrap64, mul2, eas, ct_own (C := cfgP w2) (f := 118) rfl rfl, c, AS, avals, apairs, bareP, AV.bare, AV.bares, Nat.reduceEqDiff, Nat.reduceLT, Nat.reduceAdd, ↓reduceIte, reduceCtorEq, resA, resA1, resVal, Nat.reduceLeDiff, nb_cfg, Nat.reduceBEq, AX, Int.reduceLT, Int.reduceLE, Int.reduceEq, Int.reduceAdd, Int.reduceSub, Int.reduceMul, Int.reduceNeg, Int.reduceNe])
              refine ⟨Y2.length, by omega, fe_len, ?_, ?_, ?_, ?_, X ++ (y1 ++ y2), Y2, D ++ sE (y1 ++ y2), ys2, by rw [hX]; simp, rfl, ?_, ?_, ?_, hc2, ?_, ?_, rfl⟩
              case refine_5 =>
                rw [List.length_append, List.length_append, hD]; congr 1; exact sortK_length _
              case refine_6 =>
                intro q hq
                rcases List.mem_append.1 hq with hq | hq
                · exact List.mem_append_left _ (hm q hq)
                · exact List.mem_append_right _ (sortK_mem.1 hq)
              case refine_7 =>
                intro Y3 Z hc
                rw [List.append_assoc X, List.append_assoc D]
                exact hK _ _ (Ch.more (y1 ++ y2) Y3 Z (by rw [List.length_append]; omega) hc)
              all_goals (try simp -dsimp (disch := omega) only [h0, h1, h2, h6, h7, h8, AS, avals, apairs, bareP, AV.bare, AV.bares, Nat.reduceEqDiff, Nat.reduceLT, Nat.reduceAdd, ↓reduceIte, reduceCtorEq, resA, resA1, resVal, Nat.reduceLeDiff, nb_cfg, Nat.reduceBEq, AX, Int.reduceLT, Int.reduceLE, Int.reduceEq, Int.reduceAdd, Int.reduceSub, Int.reduceMul, Int.reduceNeg, Int.reduceNe])
              · exact congrArg (fun z => AV.v (Value.int IntKind.i64 z)) (by simp only [List.length_append]; omega)
              · exact congrArg (fun z => AV.v (Value.int IntKind.i64 z)) (by simp only [List.length_append]; omega)
            · have hfin := hK _ _ (Ch.last Y (by omega : Y.length < 2 * s))
              rw [← hX] at hfin
              by_cases hYs : s < Y.length
              · obtain ⟨y1, Y1, ys1, rfl, rfl, hy1, hc1⟩ := hch.split (by omega)
                rw [List.length_append] at h2s hY hxl hYs
                have hl1 : (sE y1).length = s := by rw [← hy1]; exact sortK_length y1
                have := hc1.short (by omega)
                subst this
                have hl2 : (sE Y1).length = Y1.length := sortK_length Y1
                have c : stT 118 [.ex p.b 0 6 0 p.xs.length, .v (.int .i64 (X.length : Int)), .v (.int .i64 ((X.length + s : Nat) : Int)), .v (.int .i64 (p.xs.length : Int)), fkey] (HB p.H p.b (D ++ (sE y1 ++ sE Y1))) = some (.tup [], HB p.H p.b (D ++ sE (y1 ++ Y1))) := by
                  have := smT_at (H := p.H) (b := p.b) (P := D) (A := sE y1) (B := sE Y1) (Q := []) (n := p.xs.length) (x := (X.length : Int)) (y := ((X.length + s : Nat) : Int)) (z := (p.xs.length : Int)) hb (by simpa using hokD) (sortK_srt y1) (sortK_srt Y1) (List.length_pos_iff.1 (by omega)) (List.length_pos_iff.1 (by omega)) (by simp only [List.length_append, List.length_nil]; omega) (by omega) (by omega) (by omega) (by omega)
                  rw [show sE (sE y1 ++ sE Y1) = sE (y1 ++ Y1) from sortK_sorted_both y1 Y1, List.append_nil, List.append_nil, List.append_assoc] at this
                  exact orT_r (relT_none (by decide)) this
                (try simp -dsimp (disch := omega) only [h0, h1, h2, h6, h7, h8, wrap64, mul2', eas, ct_own (C := cfgP w2) (f := 118) rfl rfl, c, AS, avals, apairs, bareP, AV.bare, AV.bares, Nat.reduceEqDiff, Nat.reduceLT, Nat.reduceAdd, ↓reduceIte, reduceCtorEq, resA, resA1, resVal, Nat.reduceLeDiff, nb_cfg, Nat.reduceBEq, AX, Int.reduceLT, Int.reduceLE, Int.reduceEq, Int.reduceAdd, Int.reduceSub, Int.reduceMul, Int.reduceNeg, Int.reduceNe])
                refine ⟨p.xs.length - 2 * s, by omega, fe_len, ?_, ?_, ?_, 2 * s, _, by omega, by omega, ?_, hfin, rfl, rfl⟩
                all_goals (try simp -dsimp (disch := omega) only [h0, h1, h2, h6, h7, h8, AS, avals, apairs, bareP, AV.bare, AV.bares, Nat.reduceEqDiff, Nat.reduceLT, Nat.reduceAdd, ↓reduceIte, reduceCtorEq, resA, resA1, resVal, Nat.reduceLeDiff, nb_cfg, Nat.reduceBEq, AX, Int.reduceLT, Int.reduceLE, Int.reduceEq, Int.reduceAdd, Int.reduceSub, Int.reduceMul, Int.reduceNeg, Int.reduceNe])
                all_goals exact congrArg (fun z => AV.v (Value.int IntKind.i64 z)) (by omega)
              · have := hch.le s0 (by omega)
                subst this
                (try simp -dsimp (disch := omega) only [h0, h1, h2, h6, h7, h8, wrap64, mul2', eas, AS, avals, apairs, bareP, AV.bare, AV.bares, Nat.reduceEqDiff, Nat.reduceLT, Nat.reduceAdd, ↓reduceIte, reduceCtorEq, resA, resA1, resVal, Nat.reduceLeDiff, nb_cfg, Nat.reduceBEq, AX, Int.reduceLT, Int.reduceLE, Int.reduceEq, Int.reduceAdd, Int.reduceSub, Int.reduceMul, Int.reduceNeg, Int.reduceNe])
                refine ⟨p.xs.length - 2 * s, by omega, fe_len, ?_, ?_, ?_, 2 * s, _, by omega, by omega, ?_, hfin, rfl, rfl⟩
                all_goals (try simp -dsimp (disch := omega) only [h0, h1, h2, h6, h7, h8, AS, avals, apairs, bareP, AV.bare, AV.bares, Nat.reduceEqDiff, Nat.reduceLT, Nat.reduceAdd, ↓reduceIte, reduceCtorEq, resA, resA1, resVal, Nat.reduceLeDiff, nb_cfg, Nat.reduceBEq, AX, Int.reduceLT, Int.reduceLE, Int.reduceEq, Int.reduceAdd, Int.reduceSub, Int.reduceMul, Int.reduceNeg, Int.reduceNe])
                all_goals exact congrArg (fun z => AV.v (Value.int IntKind.i64 z)) (by omega)
          · refine ⟨fe_len, ?_, ?_, ?_, ?_, [], p.xs, [], ys, rfl, rfl, rfl, (fun q h => h), (fun _ _ h => h), hch, ?_, ?_, rfl⟩
            all_goals (try simp -dsimp (disch := omega) only [h0, h1, h2, h6, AS, avals, apairs, bareP, AV.bare, AV.bares, Nat.reduceEqDiff, Nat.reduceLT, Nat.reduceAdd, ↓reduceIte, reduceCtorEq, resA, resA1, resVal, Nat.reduceLeDiff, nb_cfg, Nat.reduceBEq, AX, Int.reduceLT, Int.reduceLE, Int.reduceEq, Int.reduceAdd, Int.reduceSub, Int.reduceMul, Int.reduceNeg, Int.reduceNe])
            all_goals exact congrArg (fun z => AV.v (Value.int IntKind.i64 z)) (by simp only [List.length_nil]; omega)
      · refine ⟨fe_len, ?_, ?_, ?_, 20, ys, by decide, by decide, ?_, hch, rfl, rfl⟩
        all_goals (try simp -dsimp (disch := omega) only [h0, h1, h2, h6, AS, avals, apairs, bareP, AV.bare, AV.bares, Nat.reduceEqDiff, Nat.reduceLT, Nat.reduceAdd, ↓reduceIte, reduceCtorEq, resA, resA1, resVal, Nat.reduceLeDiff, nb_cfg, Nat.reduceBEq, AX, Int.reduceLT, Int.reduceLE, Int.reduceEq, Int.reduceAdd, Int.reduceSub, Int.reduceMul, Int.reduceNeg, Int.reduceNe])
        all_goals rfl
  · refine ⟨fe_len, ?_, ?_, ?_, ?_, [], p.xs, [], rfl, rfl, rfl, (fun q h => h), (fun _ _ h => h), ?_, ?_, rfl⟩
    all_goals (try simp -dsimp (disch := omega) only [h0, h1, h2, AS, avals, apairs, bareP, AV.bare, AV.bares, Nat.reduceEqDiff, Nat.reduceLT, Nat.reduceAdd, ↓reduceIte, reduceCtorEq, resA, resA1, resVal, Nat.reduceLeDiff, nb_cfg, Nat.reduceBEq, AX, Int.reduceLT, Int.reduceLE, Int.reduceEq, Int.reduceAdd, Int.reduceSub, Int.reduceMul, Int.reduceNeg, Int.reduceNe])
    all_goals rfl
end Go.Proofs.YtjejeijldllloaaDoor

/- Chapter 2: SortStableFunc, Clone, Map. -/
namespace Go.Proofs.YtjejeijldllloaaDoor
open Go.AM
noncomputable def sbT := relT 99 So.ok (fun p => [.ex p.b 0 6 0 p.xs.length, .v (.int .i64 (p.xs.length : Int)), fkey]) (fun p => HB p.H p.b p.xs) (fun _ => .tup []) (fun p => HB p.H p.b (sE p.xs))
theorem sbT_ok : CallsOk (cfgP w2) sbT := relT_ok (fns_cfg Tryd.func99 rfl) rfl stable_ok
theorem So.inj {p q : So} (hp : p.ok) (hq : q.ok) (ha : [AV.ex p.b 0 6 0 p.xs.length, fkey] = [AV.ex q.b 0 6 0 q.xs.length, fkey]) (hh : HB p.H p.b p.xs = HB q.H q.b q.xs) : HB p.H p.b (sE p.xs) = HB q.H q.b (sE q.xs) := by
  injection ha with a1 _
  injection a1 with e1 _ _ _ _
  rw [← e1] at hh ⊢
  obtain ⟨hx, hz⟩ := HB_inj hp.1 (by rw [e1]; exact hq.1) hh
  rw [hz, hx]
theorem sbT_eq (p : So) (hp : p.ok) : sbT 99 [.ex p.b 0 6 0 p.xs.length, .v (.int .i64 (p.xs.length : Int)), fkey] (HB p.H p.b p.xs) = some (.tup [], HB p.H p.b (sE p.xs)) :=
  relT_eq (f0 := 99) (X := So.ok) (a := fun p => [.ex p.b 0 6 0 p.xs.length, .v (.int .i64 (p.xs.length : Int)), fkey]) (h := fun p => HB p.H p.b p.xs) (r := fun _ => .tup []) (h' := fun p => HB p.H p.b (sE p.xs)) (fun p q hp hq ha hh => ⟨rfl, So.inj hp hq (by injection ha with a1 _; rw [a1]) hh⟩) p hp
section
variable {prim : FuncId → Option (List AV → Option AV)}
theorem len_m {b g es o n : Nat} : lenA (cfgP prim) #[37] [.ex b g es o n] = some (.v (.int .i64 (n : Int))) := len_ex (e := 48) (by kernel_rfl)
end
theorem sort_ok (p : So) (hp : p.ok) : CallOk (cfgP w2) 73 [.ex p.b 0 6 0 p.xs.length, fkey] (HB p.H p.b p.xs) (.tup []) (HB p.H p.b (sE p.xs)) := by
  have c := sbT_eq p hp
  refine call_of_wk (call := sbT) (fn := Tryd.f73) (rs := []) w2_ok sbT_ok (fns_cfg Tryd.func73 rfl) rfl rfl ?_
  intro env hl0 hargs
  have hn : env.length = 9 := hl0
  have h0 := hargs 0 _ rfl
  have h1 := hargs 1 _ rfl
  clear hargs hl0
  refine wkT_of ?_
  rw [fe_self hn]
  (try simp -dsimp (disch := omega) only [h0, h1, len_m, ct_own (C := cfgP w2) (f := 99) rfl rfl, c, AS, avals, apairs, bareP, AV.bare, AV.bares, Nat.reduceEqDiff, Nat.reduceLT, Nat.reduceAdd, ↓reduceIte, reduceCtorEq, resA, resA1, resVal, Nat.reduceLeDiff, nb_cfg, Nat.reduceBEq, AX, Int.reduceLT, Int.reduceLE, Int.reduceEq, Int.reduceAdd, Int.reduceSub, Int.reduceMul, Int.reduceNeg, Int.reduceNe])
noncomputable def soT := relT 73 So.ok (fun p => [.ex p.b 0 6 0 p.xs.length, fkey]) (fun p => HB p.H p.b p.xs) (fun _ => .tup []) (fun p => HB p.H p.b (sE p.xs))
theorem soT_ok : CallsOk (cfgP w2) soT := relT_ok (fns_cfg Tryd.func73 rfl) rfl sort_ok
theorem soT_eq (p : So) (hp : p.ok) : soT 73 [.ex p.b 0 6 0 p.xs.length, fkey] (HB p.H p.b p.xs) = some (.tup [], HB p.H p.b (sE p.xs)) :=
  relT_eq (f0 := 73) (X := So.ok) (a := fun p => [.ex p.b 0 6 0 p.xs.length, fkey]) (h := fun p => HB p.H p.b p.xs) (r := fun _ => .tup []) (h' := fun p => HB p.H p.b (sE p.xs)) (fun p q hp hq ha hh => ⟨rfl, So.inj hp hq ha hh⟩) p hp
/-! ### What is copied -/
/-- An empty member. -/
def z6 : AV := .agg [str [], .v (.int .i64 0), .v (.int .i64 0), str [], .v (.slice none 0 0), .v (.slice none 0 0)]
theorem someSl_el {x : AV} {y : AV} {ys : List AV} (h : elems x = some (y :: ys)) : someSl x = true ∧ x.toV = none ∧ nilSl x = false := by
  unfold elems at h
  split at h
  · injection h with h; exact ⟨rfl, rfl, rfl⟩
  · rename_i f xs
    injection h with h
    subst h
    cases f <;> exact ⟨rfl, rfl, rfl⟩
  · injection h with h; exact ⟨rfl, rfl, rfl⟩
  · cases h
  · cases h
section
variable {prim : FuncId → Option (List AV → Option AV)}
theorem eq_nil {x y : Operand} {a : AV} (h1 : someSl a = true) (h2 : a.toV = none) : binA (cfgP prim) .eql 37 x y a (.v (.slice none 0 0)) = some (.v (.bool false)) := by
  have hu : (cfgP prim).und 37 = some (.slice 48) := by kernel_rfl
  have hn : nilEq (cfgP prim) 37 a (.v (.slice none 0 0)) = true := by
    simp only [nilEq, hu, h1, nilSl]
    simp
  unfold binA
  rw [h2]
  simp only [hn, if_true]
theorem clone_app {x : AV} {e : E} {es : List E} {H : Hp} (hx : elems x = some ((e :: es).map enc)) (he : okE e) (hl : (e :: es).length < 288230376151711744) (hb : (e :: es).length * 96 ≤ 140737488355328) : appXA (cfgP prim) #[37, 37] [.cl true [], x] H = some (.ex H.blks.length 0 6 0 (e :: es).length, { H with blks := H.blks ++ [⟨0, 6, (e :: es).map enc⟩] }) := by
  have h0 : ((#[37, 37] : Array TypeId)[0]?).bind (elemT (cfgP prim)) = some 48 := by kernel_rfl
  have h1 : ((#[37, 37] : Array TypeId)[1]?).bind (cfgP prim).und = some (.slice 48) := by kernel_rfl
  have hz : zeroA (cfgP prim) 48 = some z6 := by kernel_rfl
  have hzl : z6.cells.length = 6 := rfl
  have hc : (cfgP prim).csz 48 = some 6 := by kernel_rfl
  have hby : (cfgP prim).byt 48 = some 96 := by kernel_rfl
  have hel : (enc e).cells.length = 5 + 1 := by rw [enc_cells, List.length_cons, he.1]
  have hroom : roomOk (cfgP prim) 48 ((enc e :: es.map enc).length) = true := by
    simp only [roomOk, hby, Bool.and_eq_true, decide_eq_true_eq]
    simp only [List.length_cons, List.length_map] at hl hb ⊢
    omega
  rw [List.map_cons] at hx
  simp only [appXA, h0, h1, hz, hc, hzl, if_true, appendX, hx, List.map_cons]
  rw [if_pos ⟨hel, hroom⟩]
  simp
end
theorem clone_ok (x : AV) (e : E) (es : List E) (H : Hp) (hx : elems x = some ((e :: es).map enc)) (ho : okL (e :: es)) (hl : (e :: es).length < 4294967296) : CallOk (cfgP w2) 72 [x] H (.ex H.blks.length 0 6 0 (e :: es).length) { H with blks := H.blks ++ [⟨0, 6, (e :: es).map enc⟩] } := by
  obtain ⟨s1, s2, _⟩ := someSl_el hx
  have c := clone_app (prim := w2) (H := H) hx (ho e (by simp)) (by omega) (by omega)
  have nb : nbD 72 (some 7) = true := rfl
  have bs : buildSliceA (cfgP w2) 37 0 [] = some (.cl true []) := by kernel_rfl
  obtain ⟨n, hn0⟩ : ∃ n, (e :: es).length = n := ⟨_, rfl⟩
  obtain ⟨l, hl0⟩ : ∃ l, (e :: es).map enc = l := ⟨_, rfl⟩
  rw [hn0, hl0] at c ⊢
  refine call_of_wk (call := noCall) (fn := Tryd.f72) (rs := [.tmp 2]) w2_ok noCall_ok (fns_cfg Tryd.func72 rfl) rfl rfl ?_
  intro env hl0 hargs
  have hn : env.length = 8 := hl0
  have h0 := hargs 0 _ rfl
  clear hargs hl0
  refine wkT_of ?_
  rw [fe_self hn]
  (try simp -dsimp (disch := omega) only [h0, eq_nil s1 s2, bs, nb, BEq.rfl, appB_t, c, AS, avals, apairs, bareP, AV.bare, AV.bares, Nat.reduceEqDiff, Nat.reduceLT, Nat.reduceAdd, ↓reduceIte, reduceCtorEq, resA, resA1, resVal, Nat.reduceLeDiff, nb_cfg, Nat.reduceBEq, AX, Int.reduceLT, Int.reduceLE, Int.reduceEq, Int.reduceAdd, Int.reduceSub, Int.reduceMul, Int.reduceNeg, Int.reduceNe])
end Go.Proofs.YtjejeijldllloaaDoor

/- Chapter 2: Map. -/
namespace Go.Proofs.YtjejeijldllloaaDoor
open Go.AM
theorem encs_inj : ∀ {xs ys : List E}, xs.map enc = ys.map enc → xs = ys
  | [], [], _ => rfl
  | [], _ :: _, h => by cases h
  | _ :: _, [], h => by cases h
  | x :: xs, y :: ys, h => by
    injection h with h1 h2
    rw [enc_inj h1, encs_inj h2]
structure Cl where
  H : Hp
  x : AV
  e : E
  es : List E
def Cl.ok (p : Cl) : Prop := elems p.x = some ((p.e :: p.es).map enc) ∧ okL (p.e :: p.es) ∧ (p.e :: p.es).length < 4294967296
noncomputable def clT := relT 72 Cl.ok (fun p => [p.x]) (fun p => p.H) (fun p => .ex p.H.blks.length 0 6 0 (p.e :: p.es).length) (fun p => { p.H with blks := p.H.blks ++ [⟨0, 6, (p.e :: p.es).map enc⟩] })
theorem clT_ok : CallsOk (cfgP w2) clT := relT_ok (fns_cfg Tryd.func72 rfl) rfl fun p h => clone_ok p.x p.e p.es p.H h.1 h.2.1 h.2.2
theorem clT_eq (p : Cl) (hp : p.ok) : clT 72 [p.x] p.H = some (.ex p.H.blks.length 0 6 0 (p.e :: p.es).length, { p.H with blks := p.H.blks ++ [⟨0, 6, (p.e :: p.es).map enc⟩] }) :=
  relT_eq (f0 := 72) (X := Cl.ok) (a := fun p => [p.x]) (h := fun p => p.H) (r := fun p => .ex p.H.blks.length 0 6 0 (p.e :: p.es).length) (h' := fun p => { p.H with blks := p.H.blks ++ [⟨0, 6, (p.e :: p.es).map enc⟩] }) (fun p q hp hq ha hh => by
    have h1 : p.x = q.x := by injection ha
    have h2 : (p.e :: p.es).map enc = (q.e :: q.es).map enc := by
      have := hp.1
      rw [h1, hq.1] at this
      exact (Option.some.inj this).symm
    have h3 := encs_inj h2
    have hh' : p.H = q.H := hh
    rw [h3, hh']
    exact ⟨rfl, rfl⟩) p hp
/-! ### Of nothing -/
/-- Nothing: nil, or a literal without elements. -/
def nilm (b : Bool) : AV := if b then .cl true [] else .v (.slice none 0 0)
theorem nilm_len {prim : FuncId → Option (List AV → Option AV)} (b : Bool) : lenA (cfgP prim) #[37] [nilm b] = some (.v (.int .i64 0)) := by cases b <;> kernel_rfl
theorem ins0_ok (b : Bool) (H : Hp) : CallOk (cfgP w2) 117 [nilm b, .v (.int .i64 0), .v (.int .i64 0), fkey] H (.tup []) H := by
  refine call_of_wk (call := noCall) (fn := Tryd.f117) (rs := []) w2_ok noCall_ok (fns_cfg Tryd.func117 rfl) rfl rfl ?_
  intro env hl0 hargs
  have hn : env.length = 53 := hl0
  have h0 := hargs 0 _ rfl
  have h1 := hargs 1 _ rfl
  have h2 := hargs 2 _ rfl
  have h3 := hargs 3 _ rfl
  clear hargs hl0
  refine wkT_of ?_
  rw [fe_self hn]
  (try simp -dsimp (disch := omega) only [h0, h1, h2, h3, wrap64, wt_loop_unfold, AS, avals, apairs, bareP, AV.bare, AV.bares, Nat.reduceEqDiff, Nat.reduceLT, Nat.reduceAdd, ↓reduceIte, reduceCtorEq, resA, resA1, resVal, Nat.reduceLeDiff, nb_cfg, Nat.reduceBEq, AX, Int.reduceLT, Int.reduceLE, Int.reduceEq, Int.reduceAdd, Int.reduceSub, Int.reduceMul, Int.reduceNeg, Int.reduceNe])
noncomputable def i0T := relT 117 (fun _ : Bool × Hp => True) (fun p => [nilm p.1, .v (.int .i64 0), .v (.int .i64 0), fkey]) (fun p => p.2) (fun _ => .tup []) (fun p => p.2)
theorem i0T_ok : CallsOk (cfgP w2) i0T := relT_ok (fns_cfg Tryd.func117 rfl) rfl fun p _ => ins0_ok p.1 p.2
theorem i0T_eq (b : Bool) (H : Hp) : i0T 117 [nilm b, .v (.int .i64 0), .v (.int .i64 0), fkey] H = some (.tup [], H) :=
  relT_eq (f0 := 117) (X := fun _ : Bool × Hp => True) (a := fun p => [nilm p.1, .v (.int .i64 0), .v (.int .i64 0), fkey]) (h := fun p => p.2) (r := fun _ => .tup []) (h' := fun p => p.2) (fun p q _ _ _ h => ⟨rfl, h⟩) (b, H) trivial
theorem st0_ok (b : Bool) (H : Hp) : CallOk (cfgP w2) 99 [nilm b, .v (.int .i64 0), fkey] H (.tup []) H := by
  have c := i0T_eq b H
  refine call_of_wk (call := i0T) (fn := Tryd.f99) (rs := []) w2_ok i0T_ok (fns_cfg Tryd.func99 rfl) rfl rfl ?_
  intro env hl0 hargs
  have hn : env.length = 63 := hl0
  have h0 := hargs 0 _ rfl
  have h1 := hargs 1 _ rfl
  have h2 := hargs 2 _ rfl
  clear hargs hl0
  refine wkT_of ?_
  rw [fe_self hn]
  (try simp -dsimp (disch := omega) only [h0, h1, h2, wrap64, wt_loop_unfold, ct_own (C := cfgP w2) (f := 117) rfl rfl, c, AS, avals, apairs, bareP, AV.bare, AV.bares, Nat.reduceEqDiff, Nat.reduceLT, Nat.reduceAdd, ↓reduceIte, reduceCtorEq, resA, resA1, resVal, Nat.reduceLeDiff, nb_cfg, Nat.reduceBEq, AX, Int.reduceLT, Int.reduceLE, Int.reduceEq, Int.reduceAdd, Int.reduceSub, Int.reduceMul, Int.reduceNeg, Int.reduceNe])
noncomputable def s0T := relT 99 (fun _ : Bool × Hp => True) (fun p => [nilm p.1, .v (.int .i64 0), fkey]) (fun p => p.2) (fun _ => .tup []) (fun p => p.2)
theorem s0T_ok : CallsOk (cfgP w2) s0T := relT_ok (fns_cfg Tryd.func99 rfl) rfl fun p _ => st0_ok p.1 p.2
theorem s0T_eq (b : Bool) (H : Hp) : s0T 99 [nilm b, .v (.int .i64 0), fkey] H = some (.tup [], H) :=
  relT_eq (f0 := 99) (X := fun _ : Bool × Hp => True) (a := fun p => [nilm p.1, .v (.int .i64 0), fkey]) (h := fun p => p.2) (r := fun _ => .tup []) (h' := fun p => p.2) (fun p q _ _ _ h => ⟨rfl, h⟩) (b, H) trivial
theorem so0_ok (b : Bool) (H : Hp) : CallOk (cfgP w2) 73 [nilm b, fkey] H (.tup []) H := by
  have c := s0T_eq b H
  refine call_of_wk (call := s0T) (fn := Tryd.f73) (rs := []) w2_ok s0T_ok (fns_cfg Tryd.func73 rfl) rfl rfl ?_
  intro env hl0 hargs
  have hn : env.length = 9 := hl0
  have h0 := hargs 0 _ rfl
  have h1 := hargs 1 _ rfl
  clear hargs hl0
  refine wkT_of ?_
  rw [fe_self hn]
  (try simp -dsimp (disch := omega) only [h0, h1, nilm_len, ct_own (C := cfgP w2) (f := 99) rfl rfl, c, AS, avals, apairs, bareP, AV.bare, AV.bares, Nat.reduceEqDiff, Nat.reduceLT, Nat.reduceAdd, ↓reduceIte, reduceCtorEq, resA, resA1, resVal, Nat.reduceLeDiff, nb_cfg, Nat.reduceBEq, AX, Int.reduceLT, Int.reduceLE, Int.reduceEq, Int.reduceAdd, Int.reduceSub, Int.reduceMul, Int.reduceNeg, Int.reduceNe])
noncomputable def so0T := relT 73 (fun _ : Bool × Hp => True) (fun p => [nilm p.1, fkey]) (fun p => p.2) (fun _ => .tup []) (fun p => p.2)
theorem so0T_ok : CallsOk (cfgP w2) so0T := relT_ok (fns_cfg Tryd.func73 rfl) rfl fun p _ => so0_ok p.1 p.2
theorem so0T_eq (b : Bool) (H : Hp) : so0T 73 [nilm b, fkey] H = some (.tup [], H) :=
  relT_eq (f0 := 73) (X := fun _ : Bool × Hp => True) (a := fun p => [nilm p.1, fkey]) (h := fun p => p.2) (r := fun _ => .tup []) (h' := fun p => p.2) (fun p q _ _ _ h => ⟨rfl, h⟩) (b, H) trivial
/-- A slice that is nil, or surely not. -/
def slK (x : AV) : Prop := x = .v (.slice none 0 0) ∨ (someSl x = true ∧ x.toV = none)
section
variable {prim : FuncId → Option (List AV → Option AV)}
theorem eq_nn {x y : Operand} : binA (cfgP prim) .eql 37 x y (.v (.slice none 0 0)) (.v (.slice none 0 0)) = some (.v (.bool true)) := by kernel_rfl
theorem clone_app0 {x : AV} {H : Hp} (hx : elems x = some []) : appXA (cfgP prim) #[37, 37] [.cl true [], x] H = some (.cl true [], H) := by
  have h0 : ((#[37, 37] : Array TypeId)[0]?).bind (elemT (cfgP prim)) = some 48 := by kernel_rfl
  have h1 : ((#[37, 37] : Array TypeId)[1]?).bind (cfgP prim).und = some (.slice 48) := by kernel_rfl
  have hz : zeroA (cfgP prim) 48 = some z6 := by kernel_rfl
  have hzl : z6.cells.length = 6 := rfl
  have hc : (cfgP prim).csz 48 = some 6 := by kernel_rfl
  simp only [appXA, h0, h1, hz, hc, hzl, if_true, appendX, hx]
end
theorem clone0_ok (x : AV) (H : Hp) (hx : elems x = some []) (hk : slK x) : CallOk (cfgP w2) 72 [x] H (nilm (someSl x)) H := by
  have nb : nbD 72 (some 7) = true := rfl
  have bs : buildSliceA (cfgP w2) 37 0 [] = some (.cl true []) := by kernel_rfl
  rcases hk with rfl | ⟨k1, k2⟩
  · show CallOk _ _ _ _ (.v (.slice none 0 0)) _
    refine call_of_wk (call := noCall) (fn := Tryd.f72) (rs := [.tmp 2]) w2_ok noCall_ok (fns_cfg Tryd.func72 rfl) rfl rfl ?_
    intro env hl0 hargs
    have hn : env.length = 8 := hl0
    have h0 := hargs 0 _ rfl
    clear hargs hl0
    refine wkT_of ?_
    rw [fe_self hn]
    (try simp -dsimp (disch := omega) only [h0, eq_nn, AS, avals, apairs, bareP, AV.bare, AV.bares, Nat.reduceEqDiff, Nat.reduceLT, Nat.reduceAdd, ↓reduceIte, reduceCtorEq, resA, resA1, resVal, Nat.reduceLeDiff, nb_cfg, Nat.reduceBEq, AX, Int.reduceLT, Int.reduceLE, Int.reduceEq, Int.reduceAdd, Int.reduceSub, Int.reduceMul, Int.reduceNeg, Int.reduceNe])
  · rw [k1]
    show CallOk _ _ _ _ (.cl true []) _
    have c := clone_app0 (prim := w2) (H := H) hx
    refine call_of_wk (call := noCall) (fn := Tryd.f72) (rs := [.tmp 2]) w2_ok noCall_ok (fns_cfg Tryd.func72 rfl) rfl rfl ?_
    intro env hl0 hargs
    have hn : env.length = 8 := hl0
    have h0 := hargs 0 _ rfl
    clear hargs hl0
    refine wkT_of ?_
    rw [fe_self hn]
    (try simp -dsimp (disch := omega) only [h0, eq_nil k1 k2, bs, nb, BEq.rfl, appB_t, c, AS, avals, apairs, bareP, AV.bare, AV.bares, Nat.reduceEqDiff, Nat.reduceLT, Nat.reduceAdd, ↓reduceIte, reduceCtorEq, resA, resA1, resVal, Nat.reduceLeDiff, nb_cfg, Nat.reduceBEq, AX, Int.reduceLT, Int.reduceLE, Int.reduceEq, Int.reduceAdd, Int.reduceSub, Int.reduceMul, Int.reduceNeg, Int.reduceNe])
noncomputable def c0T := relT 72 (fun p : AV × Hp => elems p.1 = some [] ∧ slK p.1) (fun p => [p.1]) (fun p => p.2) (fun p => nilm (someSl p.1)) (fun p => p.2)
theorem c0T_ok : CallsOk (cfgP w2) c0T := relT_ok (fns_cfg Tryd.func72 rfl) rfl fun p h => clone0_ok p.1 p.2 h.1 h.2
theorem c0T_eq {x : AV} {H : Hp} (hx : elems x = some []) (hk : slK x) : c0T 72 [x] H = some (nilm (someSl x), H) :=
  relT_eq (f0 := 72) (X := fun p : AV × Hp => elems p.1 = some [] ∧ slK p.1) (a := fun p => [p.1]) (h := fun p => p.2) (r := fun p => nilm (someSl p.1)) (h' := fun p => p.2) (fun p q _ _ ha h => by
    injection ha with ha
    rw [ha]
    exact ⟨rfl, h⟩) (x, H) ⟨hx, hk⟩
/-- Of one key the last one. -/
def dedup : List E → List E
  | [] => []
  | [x] => [x]
  | x :: y :: r => if x.1 = y.1 then dedup (y :: r) else x :: dedup (y :: r)
/-- What stays of the first so many. -/
def keepAt (ys : List E) (i : Nat) : Bool := decide (i + 1 = ys.length) || !decide ((ys[i + 1]?.map fun p => p.1) = ys[i]?.map fun p => p.1)
def pre (ys : List E) : Nat → List E
  | 0 => []
  | i + 1 => if keepAt ys i then pre ys i ++ (ys[i]?).toList else pre ys i
theorem pre_cons (x : E) (ys : List E) : ∀ i, pre (x :: ys) (i + 1) = (if keepAt (x :: ys) 0 then [x] else []) ++ pre ys i
  | 0 => by simp [pre]
  | i + 1 => by
    have hk : keepAt (x :: ys) (i + 1) = keepAt ys i := by simp [keepAt]
    have e : pre (x :: ys) (i + 1 + 1) = if keepAt (x :: ys) (i + 1) then pre (x :: ys) (i + 1) ++ ((x :: ys)[i + 1]?).toList else pre (x :: ys) (i + 1) := rfl
    have e2 : pre ys (i + 1) = if keepAt ys i then pre ys i ++ (ys[i]?).toList else pre ys i := rfl
    rw [e, e2, hk, pre_cons x ys i, List.getElem?_cons_succ]
    generalize (if keepAt (x :: ys) 0 then [x] else []) = z
    cases keepAt ys i <;> simp
theorem pre_dedup : ∀ ys : List E, pre ys ys.length = dedup ys
  | [] => rfl
  | [x] => rfl
  | x :: y :: r => by
    rw [List.length_cons, pre_cons, pre_dedup (y :: r)]
    have hk : keepAt (x :: y :: r) 0 = !decide (y.1 = x.1) := by simp [keepAt]
    have e : dedup (x :: y :: r) = if x.1 = y.1 then dedup (y :: r) else x :: dedup (y :: r) := by rw [dedup]
    rw [hk, e]
    by_cases h : x.1 = y.1
    · rw [if_pos h]
      simp [h]
    · have h' : ¬ y.1 = x.1 := fun e => h e.symm
      rw [if_neg h]
      simp [h']
theorem pre_le (ys : List E) : ∀ i, (pre ys i).length ≤ i
  | 0 => Nat.le_refl _
  | i + 1 => by
    have := pre_le ys i
    unfold pre
    split
    · rw [List.length_append]
      have : (ys[i]?).toList.length ≤ 1 := by cases ys[i]? <;> simp
      omega
    · omega
theorem pre_mem (ys : List E) : ∀ i q, q ∈ pre ys i → q ∈ ys
  | 0, q, h => by cases h
  | i + 1, q, h => by
    unfold pre at h
    split at h
    · rcases List.mem_append.1 h with h | h
      · exact pre_mem ys i q h
      · cases hy : ys[i]? with
        | none => rw [hy] at h; cases h
        | some y => rw [hy] at h; simp at h; subst h; exact List.mem_of_getElem? hy
    · exact pre_mem ys i q h
/-- The members of a map. -/
def mapL (xs : List E) : List E := dedup (sE xs)
/-- Members as they are handed back. -/
def msl : List E → AV
  | [] => .v (.slice none 0 0)
  | x :: xs => .ro ((x :: xs).map enc)
def mapV (ys : List E) : AV := .agg [.v (.int .i64 5), .v (.int .i64 0), str [], .v (.slice none 0 0), msl ys]
end Go.Proofs.YtjejeijldllloaaDoor

/- Chapter 2: Map: its walk. -/
namespace Go.Proofs.YtjejeijldllloaaDoor
open Go.AM
/-- An empty value. -/
def z5 : AV := .agg [.v (.int .i64 0), .v (.int .i64 0), str [], .v (.slice none 0 0), .v (.slice none 0 0)]
/-- The heap on the way. -/
def mH (tk : List (Nat × TypeId)) (ys : List E) (ext : List Blk) : Hp := { toks := tk, blks := ⟨0, 5, [z5]⟩ :: ⟨0, 6, ys.map enc⟩ :: ext }
section
variable {prim : FuncId → Option (List AV → Option AV)}
theorem mH_alloc {tk : List (Nat × TypeId)} {ys : List E} {ext : List Blk} : allocA (cfgP prim) 48 false (mH tk ys ext) = some (.ptr (ext.length + 2) 0 0 0, mH tk ys (ext ++ [⟨0, 6, [z6]⟩]), 4) := by
  have hz : zeroA (cfgP prim) 48 = some z6 := by kernel_rfl
  have hf : z6.cells.all AV.flat = true := rfl
  have hg : genOf (cfgP prim) 48 = 0 := by kernel_rfl
  simp only [allocA, hz, Option.bind_some, hf, if_true, hg, Bool.false_eq_true, if_false]
  rfl
theorem mH_store {tk : List (Nat × TypeId)} {ys : List E} {ext : List Blk} {y : E} (hy : okE y) : storeA (cfgP prim) 48 (ext.length + 2) 0 0 0 (enc y) (mH tk ys (ext ++ [⟨0, 6, [z6]⟩])) = some (mH tk ys (ext ++ [⟨0, 6, [enc y]⟩])) := by
  have hc : (cfgP prim).csz 48 = some 6 := by kernel_rfl
  have := store_all (C := cfgP prim) (t := 48) (b := ext.length + 2) (n := 6) (x := str y.1 :: y.2) (y := [str [], .v (.int .i64 0), .v (.int .i64 0), str [], .v (.slice none 0 0), .v (.slice none 0 0)]) (H := mH tk ys (ext ++ [⟨0, 6, [z6]⟩])) (by simp [mH, z6]) (by rw [hc, List.length_cons, hy.1]) (by simp [hy.1]) (enc_flat hy)
  rw [show enc y = .agg (str y.1 :: y.2) from rfl, this]
  simp [mH]
theorem mH_b1 {tk : List (Nat × TypeId)} {ys : List E} {ext : List Blk} : blkAt (mH tk ys ext) 1 0 = some ⟨0, 6, ys.map enc⟩ := rfl
theorem mH_bx {tk : List (Nat × TypeId)} {ys : List E} {ext : List Blk} {y : E} : blkAt (mH tk ys (ext ++ [⟨0, 6, [enc y]⟩])) (ext.length + 2) 0 = some ⟨0, 6, [enc y]⟩ := by simp [blkAt, mH]
theorem mf0p {b g i j : Nat} : fieldAddrA (cfgP prim) 48 (.ptr b g i j) 0 = some (.ptr b g i (j + 0)) := by kernel_rfl
theorem mH_new : allocA (cfgP prim) 39 false {} = some (.ptr 0 0 0 0, { toks := [], blks := [⟨0, 5, [z5]⟩] }, 4) := by kernel_rfl
theorem enc_sized (l : List E) (h : okL l) : sized 6 (l.map enc) := fun x hx => by
  obtain ⟨c, hc, rfl⟩ := List.mem_map.1 hx
  rw [enc_cells, List.length_cons, (h c hc).1]
theorem mH_app {out ys : List E} {y : E} {ext : List Blk} (ho : okL out) (hy : okE y) (hl : out.length < 4294967296) : appA (cfgP prim) #[37, 37] [gsl (out.map enc), .cl true [enc y]] (mH (ghp 48 (out.map enc)).toks ys ext) = some (gsl ((out ++ [y]).map enc), mH (ghp 48 ((out ++ [y]).map enc)).toks ys ext) := by
  have := appA_gslH (C := cfgP prim) (ts := #[37, 37]) (e := 48) (t1 := 48) (n := 5) (k := 96) (z := z6) (by kernel_rfl) (by kernel_rfl) (by kernel_rfl) (by kernel_rfl) rfl (by kernel_rfl) (xs := out.map enc) (f := true) (x := enc y) (by rw [enc_cells, List.length_cons, hy.1]) (enc_sized out ho) (by simp only [List.length_map]; omega) (H := mH (ghp 48 (out.map enc)).toks ys ext) rfl
  rw [this]
  simp [mH]
theorem mp48c {p : E} (h : okE p) : partA (cfgP prim) 48 (str p.1 :: p.2) 0 = some (enc p) := mp48e h
theorem bsM {y : E} (h : okE y) : buildSliceA (cfgP prim) 37 1 [(0, enc y)] = some (.cl true [enc y]) := by
  obtain ⟨k, r⟩ := y
  obtain ⟨h1, h2, h3⟩ := h
  match r, h1, h3 with
  | [a, b, c, d, e], _, h3 =>
    have he : elemT (cfgP prim) 37 = some 48 := by kernel_rfl
    have hc : (cfgP prim).csz 48 = some 6 := by kernel_rfl
    have ha : isAggT (cfgP prim) 48 = some true := by kernel_rfl
    have hz : zeroA (cfgP prim) 48 = some z6 := by kernel_rfl
    have hf : (str k :: [a, b, c, d, e]).all AV.flat = true := by rw [List.all_cons, h3]; rfl
    simp only [buildSliceA, he, hc, ha, hz]
    rw [if_pos ⟨by decide, rfl, by decide, rfl⟩]
    have hfill : fillA (fun i => some (i * 6, 6)) ((List.replicate 1 z6.cells).flatten) [(0, enc (k, [a, b, c, d, e]))] = some [str k, a, b, c, d, e] := by
      show (if (AV.agg (str k :: [a, b, c, d, e])).cells.length = 6 ∧ 0 * 6 + 6 ≤ ((List.replicate 1 z6.cells).flatten).length ∧ (AV.agg (str k :: [a, b, c, d, e])).cells.all AV.flat = true then _ else none) = _
      rw [if_pos ⟨rfl, by decide, hf⟩]
      rfl
    rw [hfill]
    rfl
end
structure MpI (ys : List E) (m i : Nat) (e : Env) (h : Hp) : Prop where
  len : e.length = 40
  a0 : aget e 0 = .ex 1 0 6 0 ys.length
  a2 : aget e 2 = .ptr 0 0 0 0
  a3 : aget e 3 = gsl ((pre ys i).map enc)
  a10 : aget e 10 = .ex 1 0 6 0 ys.length
  a11 : aget e 11 = .v (.int .i64 (ys.length : Int))
  a12 : aget e 12 = .v (.int .i64 (i : Int))
  hp : ∃ ext, ext.length = i ∧ h = mH (ghp 48 ((pre ys i).map enc)).toks ys ext
/-- The heap at the end. -/
def mHv (v : AV) (tk : List (Nat × TypeId)) (r : List Blk) : Hp := { toks := tk, blks := ⟨0, 5, [v]⟩ :: r }
def vCells (M : AV) : AV := .agg [.v (.int .i64 5), .v (.int .i64 0), str [], .v (.slice none 0 0), M]
theorem gsl_one (l : List AV) : (gsl l).cells = [gsl l] ∧ (gsl l).flat = true := by cases l <;> exact ⟨rfl, rfl⟩
section
variable {prim : FuncId → Option (List AV → Option AV)}
theorem bV {l : List AV} : buildA (cfgP prim) 39 [(0, .v (.int .i64 5)), (4, gsl l)] = some (vCells (gsl l)) := by
  cases l with
  | nil => kernel_rfl
  | cons x xs => kernel_rfl
theorem mHv_store {l : List AV} {tk : List (Nat × TypeId)} {r : List Blk} : storeA (cfgP prim) 39 0 0 0 0 (vCells (gsl l)) (mHv z5 tk r) = some (mHv (vCells (gsl l)) tk r) := by
  have hc : (cfgP prim).csz 39 = some 5 := by kernel_rfl
  have := store_all (C := cfgP prim) (t := 39) (b := 0) (n := 5) (x := [.v (.int .i64 5), .v (.int .i64 0), str [], .v (.slice none 0 0), gsl l]) (y := [.v (.int .i64 0), .v (.int .i64 0), str [], .v (.slice none 0 0), .v (.slice none 0 0)]) (H := mHv z5 tk r) rfl (by rw [hc]; rfl) rfl (by simp only [List.all_cons, (gsl_one l).2]; rfl)
  rw [show vCells (gsl l) = .agg [.v (.int .i64 5), .v (.int .i64 0), str [], .v (.slice none 0 0), gsl l] from rfl, this]
  rfl
theorem mHv_blk {v : AV} {tk : List (Nat × TypeId)} {r : List Blk} : blkAt (mHv v tk r) 0 0 = some ⟨0, 5, [v]⟩ := rfl
theorem pV {M : AV} : partA (cfgP prim) 39 (vCells M).cells 0 = some (vCells M) := by
  have h1 : isAggT (cfgP prim) 39 = some true := by kernel_rfl
  have h2 : (cfgP prim).csz 39 = some 5 := by kernel_rfl
  simp only [partA, h1, h2]
  rfl
theorem mH_new' : allocA (cfgP prim) 39 false {} = some (.ptr 0 0 0 0, mHv z5 [] [], 4) := mH_new
theorem len_c0 {x : AV} : lenA (cfgP prim) #[37] [nilm (someSl x)] = some (.v (.int .i64 0)) := nilm_len _
end
theorem mH_eq {tk : List (Nat × TypeId)} {ys : List E} {ext : List Blk} : mH tk ys ext = mHv z5 tk (⟨0, 6, ys.map enc⟩ :: ext) := rfl
theorem mapV_thaw (H : Hp) (out : List E) : AV.thaw H 9 (vCells (gsl (out.map enc))) = some (mapV out) := by cases out <;> rfl
noncomputable def mp0T := orT c0T so0T
theorem mp0T_ok : CallsOk (cfgP w2) mp0T := orT_ok c0T_ok so0T_ok
noncomputable def mpT := orT clT soT
theorem mpT_ok : CallsOk (cfgP w2) mpT := orT_ok clT_ok soT_ok
set_option maxHeartbeats 16000000 in
set_option maxRecDepth 100000 in
theorem map0_ok (x : AV) (hx : elems x = some []) (hk : slK x) : PureOk (cfgP w2) 35 [x] (mapV []) := by
  have r2 : (cfgP w2).roBox 35 2 = false := rfl
  have c1 : mp0T 72 [x] (mHv z5 [] []) = some (nilm (someSl x), mHv z5 [] []) := orT_l (c0T_eq hx hk)
  have c2 : mp0T 73 [nilm (someSl x), fkey] (mHv z5 [] []) = some (.tup [], mHv z5 [] []) := orT_r (relT_none (by decide)) (so0T_eq _ _)
  have b0 := bV (prim := w2) (l := [])
  have s0 := mHv_store (prim := w2) (l := []) (tk := []) (r := [])
  have hz : (AV.v (.slice none 0 0)) = gsl [] := rfl
  simp only [fkey] at c2
  refine pure_of_wk (call := mp0T) (fn := Tryd.f35) (rs := [.cell 2 39]) w2_ok mp0T_ok (fns_cfg Tryd.func35 rfl) rfl rfl ?_
  intro env hl0 hargs
  have hn : env.length = 40 := hl0
  have h0 := hargs 0 _ rfl
  clear hargs hl0
  refine wkT_of ?_
  rw [fe_self hn]
  (try simp -dsimp (disch := omega) only [h0, r2, mH_new', ct_own (C := cfgP w2) (f := 72) rfl rfl, ct_own (C := cfgP w2) (f := 73) rfl rfl, c1, c2, len_c0, wt_loop_unfold, hz, b0, s0, mHv_blk, pV, AS, avals, apairs, bareP, AV.bare, AV.bares, Nat.reduceEqDiff, Nat.reduceLT, Nat.reduceAdd, ↓reduceIte, reduceCtorEq, resA, resA1, resVal, Nat.reduceLeDiff, nb_cfg, Nat.reduceBEq, AX, Int.reduceLT, Int.reduceLE, Int.reduceEq, Int.reduceAdd, Int.reduceSub, Int.reduceMul, Int.reduceNeg, Int.reduceNe])
  exact ⟨9, mapV_thaw _ []⟩
set_option maxHeartbeats 16000000 in
set_option maxRecDepth 100000 in
theorem map1_ok (x : AV) (e0 : E) (es : List E) (hx : elems x = some ((e0 :: es).map enc)) (ho : okL (e0 :: es)) (hl : (e0 :: es).length < 1073741824) : PureOk (cfgP w2) 35 [x] (mapV (mapL (e0 :: es))) := by
  have r2 : (cfgP w2).roBox 35 2 = false := rfl
  have r5 : (cfgP w2).roBox 35 5 = false := rfl
  obtain ⟨ys, hys⟩ : ∃ ys, sE (e0 :: es) = ys := ⟨_, rfl⟩
  obtain ⟨n, hnn⟩ : ∃ n, (e0 :: es).length = n := ⟨_, rfl⟩
  have hyl : ys.length = n := by rw [← hys, ← hnn]; exact sortK_length _
  have hoy : okL ys := okL_of (fun q hq => by rw [← hys] at hq; exact sortK_mem.1 hq) ho
  have c1 : mpT 72 [x] (mHv z5 [] []) = some (.ex 1 0 6 0 n, mH [] (e0 :: es) []) := by
    rw [← hnn]
    exact orT_l (clT_eq ⟨mHv z5 [] [], x, e0, es⟩ ⟨hx, ho, by show (e0 :: es).length < _; omega⟩)
  have c2 : mpT 73 [.ex 1 0 6 0 n, fkey] (mH [] (e0 :: es) []) = some (.tup [], mH [] ys []) := by
    rw [← hnn, ← hys]
    exact orT_r (relT_none (by decide)) (soT_eq ⟨mH [] (e0 :: es) [], 1, e0 :: es⟩ ⟨by show 1 < (mH [] (e0 :: es) []).blks.length; simp [mH], ho, by show (e0 :: es).length < _; omega⟩)
  have hml : mapL (e0 :: es) = pre ys n := by
    unfold mapL
    rw [show sE (e0 :: es) = ys from hys, ← hyl, pre_dedup]
  rw [hml]
  simp only [fkey] at c2
  clear hx ho
  rw [hnn] at hl
  refine pure_of_wk (call := mpT) (fn := Tryd.f35) (rs := [.cell 2 39]) w2_ok mpT_ok (fns_cfg Tryd.func35 rfl) rfl rfl ?_
  intro env hl0 hargs
  have hn : env.length = 40 := hl0
  have h0 := hargs 0 _ rfl
  clear hargs hl0
  refine wkT_of ?_
  rw [fe_self hn]
  (try simp -dsimp (disch := omega) only [h0, r2, mH_new', ct_own (C := cfgP w2) (f := 72) rfl rfl, ct_own (C := cfgP w2) (f := 73) rfl rfl, c1, c2, len_m, AS, avals, apairs, bareP, AV.bare, AV.bares, Nat.reduceEqDiff, Nat.reduceLT, Nat.reduceAdd, ↓reduceIte, reduceCtorEq, resA, resA1, resVal, Nat.reduceLeDiff, nb_cfg, Nat.reduceBEq, AX, Int.reduceLT, Int.reduceLE, Int.reduceEq, Int.reduceAdd, Int.reduceSub, Int.reduceMul, Int.reduceNeg, Int.reduceNe])
  refine wt_loop (m := n) (fun m e h => ∃ i, i + m = n ∧ MpI ys m i e h) ?_ ?_
  · clear hn h0 c1 c2 hml hnn hys
    rintro m e h ⟨i, hi, hn, h0, h2, h3, h10, h11, h12, ext, hext, rfl⟩
    rw [fe_self hn]
    have hpl := pre_le ys i
    have hop : okL (pre ys i) := okL_of (pre_mem ys i) hoy
    rw [hyl] at h0 h10 h11
    cases m with
    | zero =>
      obtain rfl : i = n := by omega
      have b0 := bV (prim := w2) (l := (pre ys i).map enc)
      have s0 := mHv_store (prim := w2) (l := (pre ys i).map enc) (tk := (ghp 48 ((pre ys i).map enc)).toks) (r := ⟨0, 6, ys.map enc⟩ :: ext)
      rw [mH_eq]
      (try simp -dsimp (disch := omega) only [h0, h2, h3, h10, h11, h12, b0, s0, mHv_blk, pV, AS, avals, apairs, bareP, AV.bare, AV.bares, Nat.reduceEqDiff, Nat.reduceLT, Nat.reduceAdd, ↓reduceIte, reduceCtorEq, resA, resA1, resVal, Nat.reduceLeDiff, nb_cfg, Nat.reduceBEq, AX, Int.reduceLT, Int.reduceLE, Int.reduceEq, Int.reduceAdd, Int.reduceSub, Int.reduceMul, Int.reduceNeg, Int.reduceNe])
      exact ⟨9, mapV_thaw _ _⟩
    | succ m =>
      obtain ⟨y, hy⟩ : ∃ y, ys[i]? = some y := ⟨ys[i]'(by omega), List.getElem?_eq_getElem (by omega)⟩
      have hoy1 : okE y := hoy y (List.mem_of_getElem? hy)
      have l1 := HB_get hy
      have mi := mix (prim := w2) (b := 1) (i := i) (len := n) (k := .i64) (by omega)
      have al := mH_alloc (prim := w2) (tk := (ghp 48 ((pre ys i).map enc)).toks) (ys := ys) (ext := ext)
      have st := mH_store (prim := w2) (tk := (ghp 48 ((pre ys i).map enc)).toks) (ys := ys) (ext := ext) hoy1
      have bx := mH_bx (tk := (ghp 48 ((pre ys i).map enc)).toks) (ys := ys) (ext := ext) (y := y)
      have b1 := mH_b1 (tk := (ghp 48 ((pre ys i).map enc)).toks) (ys := ys) (ext := ext)
      have b1' := mH_b1 (tk := (ghp 48 ((pre ys i).map enc)).toks) (ys := ys) (ext := ext ++ [⟨0, 6, [enc y]⟩])
      have ap := mH_app (prim := w2) (out := pre ys i) (ys := ys) (y := y) (ext := ext ++ [⟨0, 6, [enc y]⟩]) hop hoy1 (by omega)
      have bs := bsM (prim := w2) hoy1
      have e1 : (i : Int) + 1 = ((i + 1 : Nat) : Int) := by omega
      have fin : ∀ (out : List E) (e' : Env), pre ys (i + 1) = out → e'.length = 40 → aget e' 0 = .ex 1 0 6 0 n → aget e' 2 = .ptr 0 0 0 0 → aget e' 3 = gsl (out.map enc) → aget e' 10 = .ex 1 0 6 0 n → aget e' 11 = .v (.int .i64 (n : Int)) → aget e' 12 = .v (.int .i64 ((i + 1 : Nat) : Int)) →
          ∃ k, k < m + 1 ∧ ∃ i, i + k = n ∧ MpI ys k i e' (mH (ghp 48 (out.map enc)).toks ys (ext ++ [⟨0, 6, [enc y]⟩])) := by
        rintro out e' rfl g1 g2 g3 g4 g5 g6 g7
        exact ⟨m, by omega, i + 1, by omega, g1, by rw [hyl]; exact g2, g3, g4, by rw [hyl]; exact g5, by rw [hyl]; exact g6, g7, _, by simp [hext], rfl⟩
      have hpre : pre ys (i + 1) = if keepAt ys i then pre ys i ++ [y] else pre ys i := by
        rw [show pre ys (i + 1) = if keepAt ys i then pre ys i ++ (ys[i]?).toList else pre ys i from rfl, hy]
        rfl
      by_cases hlast : i + 1 = n
      · have hkeep : keepAt ys i = true := by unfold keepAt; rw [hyl]; simp [hlast]
        rw [hkeep, if_pos rfl] at hpre
        (try simp -dsimp (disch := omega) only [h0, h2, h3, h10, h11, h12, mi, b1, l1, mp48e hoy1, mp48c hoy1, r5, al, st, wrap64, e1, len_m, bx, b1', mf0p, Nat.add_zero, bareP, enc_bare hoy1, bs, ap, AS, avals, apairs, bareP, AV.bare, AV.bares, Nat.reduceEqDiff, Nat.reduceLT, Nat.reduceAdd, ↓reduceIte, reduceCtorEq, resA, resA1, resVal, Nat.reduceLeDiff, nb_cfg, Nat.reduceBEq, AX, Int.reduceLT, Int.reduceLE, Int.reduceEq, Int.reduceAdd, Int.reduceSub, Int.reduceMul, Int.reduceNeg, Int.reduceNe])
        refine ⟨by kernel_rfl, fin _ _ hpre fe_len ?_ ?_ ?_ ?_ ?_ ?_⟩
        all_goals (try simp -dsimp (disch := omega) only [h0, h2, h3, h10, h11, h12, AS, avals, apairs, bareP, AV.bare, AV.bares, Nat.reduceEqDiff, Nat.reduceLT, Nat.reduceAdd, ↓reduceIte, reduceCtorEq, resA, resA1, resVal, Nat.reduceLeDiff, nb_cfg, Nat.reduceBEq, AX, Int.reduceLT, Int.reduceLE, Int.reduceEq, Int.reduceAdd, Int.reduceSub, Int.reduceMul, Int.reduceNeg, Int.reduceNe])
      · obtain ⟨z, hz⟩ : ∃ z, ys[i + 1]? = some z := ⟨ys[i + 1]'(by omega), List.getElem?_eq_getElem (by omega)⟩
        have hoz : okE z := hoy z (List.mem_of_getElem? hz)
        have l2 := HB_get hz
        have mi1 := mix (prim := w2) (b := 1) (i := i + 1) (len := n) (k := .i64) (by omega)
        by_cases hyz : z.1 = y.1
        · have hkeep : keepAt ys i = false := by unfold keepAt; rw [hyl, hy, hz]; simp [hlast, hyz]
          rw [hkeep] at hpre
          have dq : (!decide (z.1 = y.1)) = false := by simp [hyz]
          (try simp -dsimp (disch := omega) only [h0, h2, h3, h10, h11, h12, mi, mi1, b1, l1, l2, mp48e hoy1, mp48c hoy1, r5, al, st, wrap64, e1, len_m, bx, b1', mf0p, mp9, enc_cells, Nat.add_zero, bareP, enc_bare hoy1, dq, AS, avals, apairs, bareP, AV.bare, AV.bares, Nat.reduceEqDiff, Nat.reduceLT, Nat.reduceAdd, ↓reduceIte, reduceCtorEq, resA, resA1, resVal, Nat.reduceLeDiff, nb_cfg, Nat.reduceBEq, AX, Int.reduceLT, Int.reduceLE, Int.reduceEq, Int.reduceAdd, Int.reduceSub, Int.reduceMul, Int.reduceNeg, Int.reduceNe])
          refine ⟨by kernel_rfl, fin _ _ (by simpa using hpre) fe_len ?_ ?_ ?_ ?_ ?_ ?_⟩
          all_goals (try simp -dsimp (disch := omega) only [h0, h2, h3, h10, h11, h12, AS, avals, apairs, bareP, AV.bare, AV.bares, Nat.reduceEqDiff, Nat.reduceLT, Nat.reduceAdd, ↓reduceIte, reduceCtorEq, resA, resA1, resVal, Nat.reduceLeDiff, nb_cfg, Nat.reduceBEq, AX, Int.reduceLT, Int.reduceLE, Int.reduceEq, Int.reduceAdd, Int.reduceSub, Int.reduceMul, Int.reduceNeg, Int.reduceNe])
        · have hkeep : keepAt ys i = true := by unfold keepAt; rw [hyl, hy, hz]; simp [hyz]
          rw [hkeep, if_pos rfl] at hpre
          have dq : (!decide (z.1 = y.1)) = true := by simp [hyz]
          (try simp -dsimp (disch := omega) only [h0, h2, h3, h10, h11, h12, mi, mi1, b1, l1, l2, mp48e hoy1, mp48c hoy1, r5, al, st, wrap64, e1, len_m, bx, b1', mf0p, mp9, enc_cells, Nat.add_zero, bareP, enc_bare hoy1, bs, ap, dq, AS, avals, apairs, bareP, AV.bare, AV.bares, Nat.reduceEqDiff, Nat.reduceLT, Nat.reduceAdd, ↓reduceIte, reduceCtorEq, resA, resA1, resVal, Nat.reduceLeDiff, nb_cfg, Nat.reduceBEq, AX, Int.reduceLT, Int.reduceLE, Int.reduceEq, Int.reduceAdd, Int.reduceSub, Int.reduceMul, Int.reduceNeg, Int.reduceNe])
          refine ⟨by kernel_rfl, fin _ _ hpre fe_len ?_ ?_ ?_ ?_ ?_ ?_⟩
          all_goals (try simp -dsimp (disch := omega) only [h0, h2, h3, h10, h11, h12, AS, avals, apairs, bareP, AV.bare, AV.bares, Nat.reduceEqDiff, Nat.reduceLT, Nat.reduceAdd, ↓reduceIte, reduceCtorEq, resA, resA1, resVal, Nat.reduceLeDiff, nb_cfg, Nat.reduceBEq, AX, Int.reduceLT, Int.reduceLE, Int.reduceEq, Int.reduceAdd, Int.reduceSub, Int.reduceMul, Int.reduceNeg, Int.reduceNe])
  · refine ⟨0, by omega, fe_len, ?_, ?_, ?_, ?_, ?_, ?_, [], rfl, rfl⟩
    all_goals (try simp -dsimp (disch := omega) only [h0, hyl, AS, avals, apairs, bareP, AV.bare, AV.bares, Nat.reduceEqDiff, Nat.reduceLT, Nat.reduceAdd, ↓reduceIte, reduceCtorEq, resA, resA1, resVal, Nat.reduceLeDiff, nb_cfg, Nat.reduceBEq, AX, Int.reduceLT, Int.reduceLE, Int.reduceEq, Int.reduceAdd, Int.reduceSub, Int.reduceMul, Int.reduceNeg, Int.reduceNe])
    all_goals rfl
end Go.Proofs.YtjejeijldllloaaDoor
