/- Contracts of functions, and plain facts about what they compute. -/
import Derived.Test.YtjejeijldllloaaDoorWd
import Derived.Test.YtjejeijldllloaaDoorAmD
set_option linter.unusedSimpArgs false
set_option linter.unusedVariables false
/- Chapter 2: ValueMaps: plain facts. -/
namespace Go.Proofs.YtjejeijldllloaaDoor
open Go.AM
/-- A map of these members. -/
def G5 (m : List (List UInt8 × GV)) : GV := .mk 5 0 [] [] m
theorem G5_may (m : List (List UInt8 × GV)) : (G5 m).may = GV.maym none m := by
  unfold G5
  rw [GV.may]
  simp
theorem maym_of : ∀ (m : List (List UInt8 × GV)) (o : Option (List UInt8)), (∀ p ∈ m, utfB p.1 = true ∧ p.2.may = true) → m.Pairwise (fun a b => bl a.1 b.1 = true) → (∀ q, o = some q → ∀ p ∈ m, bl q p.1 = true) → GV.maym o m = true
  | [], o, _, _, _ => by cases o <;> rfl
  | (k, v) :: r, o, h1, h2, h3 => by
    obtain ⟨g1, g2⟩ := h1 (k, v) (by simp)
    obtain ⟨s1, s2⟩ := List.pairwise_cons.1 h2
    have ih := maym_of r (some k) (fun p hp => h1 p (by simp [hp])) s2 (fun q e p hp => by injection e with e; rw [← e]; exact s1 p hp)
    have hm : GV.mayp (k, v) = true := g2
    cases o with
    | none => rw [GV.maym, hm, ih]; simp [g1]
    | some q =>
      have hq := h3 q rfl (k, v) (by simp)
      have hr := rise q k
      simp only [] at hq g1
      rw [hq] at hr
      rw [GV.maym, hm, ih, ← hr]
      simp [g1]
/-- Some of the members. -/
theorem sub_fms {m : List (List UInt8 × GV)} {es : List E} (h : FMs m (es.map enc)) : ∀ {zs : List E}, (∀ q ∈ zs, q ∈ es) → ∃ m', FMs m' (zs.map enc) ∧ m'.length = zs.length ∧ ∀ p ∈ m', p ∈ m
  | [], _ => ⟨[], rfl, rfl, fun p hp => by cases hp⟩
  | q :: zs, hz => by
    obtain ⟨m', h1, h2, h3⟩ := sub_fms h (zs := zs) fun z hz' => hz z (by simp [hz'])
    obtain ⟨i, hi⟩ := List.getElem?_of_mem (hz q (by simp))
    have hil := (List.getElem?_eq_some_iff.1 hi).1
    have hml : i < m.length := by rw [← h.len, List.length_map]; exact hil
    obtain ⟨y, hy, hp⟩ := h.get (List.getElem?_eq_getElem hml)
    rw [List.getElem?_map, hi] at hy
    injection hy with hy
    subst hy
    refine ⟨m[i] :: m', ⟨_, _, rfl, hp, h1⟩, by simp [h2], fun p hp' => ?_⟩
    rcases List.mem_cons.1 hp' with rfl | hp'
    · exact List.getElem_mem hml
    · exact h3 p hp'
theorem fmp_key {p : List UInt8 × GV} {q : E} (h : FMp p (enc q)) : p.1 = q.1 := by
  obtain ⟨k, v⟩ := p
  obtain ⟨cs, e, _⟩ := h
  injection e with e
  injection e with e _
  exact (str_inj e).symm
theorem fms_rise : ∀ {m : List (List UInt8 × GV)} {ys : List E}, FMs m (ys.map enc) → Str ys → m.Pairwise (fun a b => bl a.1 b.1 = true)
  | [], _, _, _ => List.Pairwise.nil
  | p :: r, [], h, _ => by
    obtain ⟨y, ys, e, _⟩ := h
    cases e
  | p :: r, y :: ys, h, hs => by
    obtain ⟨y', ys', e, h1, h2⟩ := h
    injection e with e1 e2
    subst e1 e2
    obtain ⟨s1, s2⟩ := List.pairwise_cons.1 hs
    refine List.pairwise_cons.2 ⟨fun b hb => ?_, fms_rise h2 s2⟩
    obtain ⟨i, hi⟩ := List.getElem?_of_mem hb
    obtain ⟨z, hz, hp⟩ := h2.get hi
    rw [List.getElem?_map] at hz
    obtain ⟨q, hq, rfl⟩ := Option.map_eq_some_iff.1 hz
    rw [fmp_key h1, fmp_key hp]
    exact s1 q (List.mem_of_getElem? hq)
theorem smlm_all : ∀ {m : List (List UInt8 × GV)}, GV.smlm m → ∀ p ∈ m, GV.smlp p
  | [], _, p, hp => by cases hp
  | q :: r, h, p, hp => by
    rcases List.mem_cons.1 hp with rfl | hp
    · exact h.1
    · exact smlm_all h.2 p hp
theorem smlm_of : ∀ {m : List (List UInt8 × GV)}, (∀ p ∈ m, GV.smlp p) → GV.smlm m
  | [], _ => trivial
  | q :: r, h => ⟨h q (by simp), smlm_of fun p hp => h p (by simp [hp])⟩
theorem G5_sml {m : List (List UInt8 × GV)} (h : ∀ p ∈ m, GV.smlp p) (hl : m.length ≤ 140737488355328) : (G5 m).sml := ⟨by simp, by simp, hl, trivial, smlm_of h⟩
theorem mapV_G5 {m : List (List UInt8 × GV)} {ys : List E} (hm : FMs m (ys.map enc)) (hl : m.length ≤ 9223372036854775807) : FV (G5 m) (mapV ys) := by
  obtain ⟨h1, h2, h3, h4⟩ := msl_ro ys
  exact ⟨.v (.slice none 0 0), msl ys, [], ys.map enc, rfl, rfl, h1, .inl rfl, h2, rfl, h3, rfl, h4, by simp, by simp, hl, rfl, hm⟩
theorem G5_one_good {p : List UInt8 × GV} (h : (G5 [p]).good = true) : utfB p.1 = true ∧ p.2.may = true := by
  unfold GV.good at h
  rw [Bool.and_eq_true, G5_may] at h
  have h2 := h.2
  obtain ⟨k, v⟩ := p
  rw [GV.maym] at h2
  simp only [Bool.and_eq_true] at h2
  exact ⟨h2.1.1.1, h2.1.2⟩
theorem str_distinct {ys : List E} (h : Str ys) : ∀ p ∈ ys, ∀ q ∈ ys, p.1 = q.1 → p = q := by
  intro p hp q hq he
  have hf := str_filter p.1 h
  have h1 : p ∈ ys.filter fun a => a.1 == p.1 := List.mem_filter.2 ⟨hp, by simp⟩
  have h2 : q ∈ ys.filter fun a => a.1 == p.1 := List.mem_filter.2 ⟨hq, by simp [he]⟩
  rw [hf] at h1 h2
  rw [Option.mem_toList] at h1 h2
  rw [h1] at h2
  exact Option.some.inj h2
/-- The same members, each key once, in another order: the same map. -/
theorem mapL_turn {ys zs : List E} (h : Str ys) (h1 : ∀ p, p ∈ zs ↔ p ∈ ys) : mapL zs = ys := by
  refine (mapL_uniq h fun key => ?_).symm
  cases hy : lastK key ys with
  | some p =>
    obtain ⟨a, b⟩ := lastK_key hy
    obtain ⟨q, hq⟩ := lastK_mem ((h1 p).2 a)
    obtain ⟨c, d⟩ := lastK_key hq
    rw [← b, hq, str_distinct h p a q ((h1 q).1 c) d.symm]
  | none =>
    cases hz : lastK key zs with
    | none => rfl
    | some q =>
      obtain ⟨a, b⟩ := lastK_key hz
      obtain ⟨r, hr⟩ := lastK_mem ((h1 q).1 a)
      rw [b, hy] at hr
      cases hr
theorem mapL_twice (es : List E) : mapL (es ++ mapL es) = mapL es := by
  refine mapL_same fun key => ?_
  rw [lastK_append, mapL_last]
  cases lastK key es <;> rfl
/-- Turned round, and on. -/
def bkA (ys : List E) (k : Nat) : Nat → List E
  | 0 => []
  | i + 1 => bkA ys k i ++ (ys[(ys.length - 1 - i + k) % ys.length]?).toList
theorem bkA_mem {ys : List E} {k : Nat} : ∀ {i : Nat} {p : E}, p ∈ bkA ys k i → p ∈ ys
  | 0, _, h => by cases h
  | i + 1, p, h => by
    rcases List.mem_append.1 h with h | h
    · exact bkA_mem h
    · rw [Option.mem_toList] at h
      exact List.mem_of_getElem? h
theorem bkA_has {ys : List E} {k j : Nat} {p : E} (hp : ys[(ys.length - 1 - j + k) % ys.length]? = some p) : ∀ {i : Nat}, j < i → p ∈ bkA ys k i
  | i + 1, h => by
    rcases Nat.lt_or_ge j i with hj | hj
    · exact List.mem_append.2 (.inl (bkA_has hp hj))
    · obtain rfl : j = i := by omega
      exact List.mem_append.2 (.inr (by rw [hp]; simp))
theorem bkA_all {ys : List E} {k : Nat} {p : E} (h : p ∈ ys) : p ∈ bkA ys k ys.length := by
  obtain ⟨a, ha⟩ := List.getElem?_of_mem h
  have hal := (List.getElem?_eq_some_iff.1 ha).1
  obtain ⟨n, hn⟩ : ∃ n, ys.length = n := ⟨_, rfl⟩
  rw [hn] at hal
  have hjl : (n - 1 - a + k) % n < n := Nat.mod_lt _ (by omega)
  refine bkA_has (j := (n - 1 - a + k) % n) ?_ (by rw [hn]; exact hjl)
  rw [hn]
  have hd := Nat.div_add_mod (n - 1 - a + k) n
  have e : n - 1 - (n - 1 - a + k) % n + k = a + n * ((n - 1 - a + k) / n) := by omega
  rw [e, Nat.add_mul_mod_self_left, Nat.mod_eq_of_lt hal]
  exact ha
theorem bkA_len {ys : List E} {k : Nat} : ∀ i, (bkA ys k i).length ≤ i
  | 0 => Nat.le_refl _
  | i + 1 => by
    have := bkA_len (ys := ys) (k := k) i
    rw [bkA, List.length_append]
    have : ((ys[(ys.length - 1 - i + k) % ys.length]?).toList).length ≤ 1 := by cases ys[(ys.length - 1 - i + k) % ys.length]? <;> simp
    omega
theorem bkA_map {ys : List E} (h : Str ys) (k : Nat) : mapL (bkA ys k ys.length) = ys := mapL_turn h fun p => ⟨bkA_mem, bkA_all⟩
end Go.Proofs.YtjejeijldllloaaDoor

/- Chapter 2: ValueMaps. -/
namespace Go.Proofs.YtjejeijldllloaaDoor
open Go.AM
section
variable {prim : FuncId → Option (List AV → Option AV)}
theorem src_sl {x : AV} {xs : List AV} {e : TypeId} (h : elems x = some xs) (hk : slK x) : srcA (cfgP prim) e x = some xs := by
  rcases hk with rfl | ⟨h1, h2⟩
  · exact h
  · cases x <;> first | exact h | (simp [someSl] at h1; done)
theorem room48 {n : Nat} (h : n ≤ 4294967296) : roomOk (cfgP prim) 48 n = true := by
  have hby : (cfgP prim).byt 48 = some 96 := by kernel_rfl
  simp only [roomOk, hby, Bool.and_eq_true, decide_eq_true_eq]
  omega
theorem app_cl {x y : AV} {ys : List AV} {H : Hp} {f : Bool} (h : elems x = some (y :: ys)) (hk : slK x) (hy : y.cells.length = 6) (hl : (y :: ys).length ≤ 4294967296) : appA (cfgP prim) #[37, 37] [.cl f [], x] H = some (.ap H.toks.length (y :: ys), { H with toks := H.toks ++ [((y :: ys).length, 48)] }) := by
  have h0 : ((#[37, 37] : Array TypeId)[0]?).bind (elemT (cfgP prim)) = some 48 := by kernel_rfl
  have h1 : ((#[37, 37] : Array TypeId)[1]?).bind (cfgP prim).und = some (.slice 48) := by kernel_rfl
  have hz : zeroA (cfgP prim) 48 = some z6 := by kernel_rfl
  have hzl : z6.cells.length = 6 := rfl
  have hc : (cfgP prim).csz 48 = some 6 := by kernel_rfl
  simp only [appA, h0, h1, hz, hc, hzl, if_true, appendA, src_sl h hk]
  rw [if_neg (by omega), if_pos ⟨rfl, room48 (by simpa using hl)⟩]
  simp
theorem app_ap {x y z : AV} {ys zs : List AV} {H : Hp} {t : Nat} (h : elems x = some (y :: ys)) (hk : slK x) (hy : y.cells.length = 6) (hz' : z.cells.length = 6) (ht : H.toks[t]? = some ((z :: zs).length, 48)) (hl : (z :: zs).length + (y :: ys).length ≤ 4294967296) : appA (cfgP prim) #[37, 37] [.ap t (z :: zs), x] H = some (.ap t (z :: zs ++ y :: ys), { H with toks := H.toks.set t ((z :: zs).length + (y :: ys).length, 48) }) := by
  have h0 : ((#[37, 37] : Array TypeId)[0]?).bind (elemT (cfgP prim)) = some 48 := by kernel_rfl
  have h1 : ((#[37, 37] : Array TypeId)[1]?).bind (cfgP prim).und = some (.slice 48) := by kernel_rfl
  have hz : zeroA (cfgP prim) 48 = some z6 := by kernel_rfl
  have hzl : z6.cells.length = 6 := rfl
  have hc : (cfgP prim).csz 48 = some 6 := by kernel_rfl
  have hs : szOk (z :: zs) (5 + 1) = true := by simp [szOk, hz']
  simp only [appA, h0, h1, hz, hc, hzl, if_true, appendA, src_sl h hk]
  rw [if_neg (by omega), if_pos ⟨ht, hs, room48 hl⟩]
theorem mv_app {out : List E} {y : E} {v : AV} (ho : okL out) (hy : okE y) (hl : out.length < 4294967296) : appA (cfgP prim) #[37, 37] [gsl (out.map enc), .cl true [enc y]] (mHv v (ghp 48 (out.map enc)).toks []) = some (gsl ((out ++ [y]).map enc), mHv v (ghp 48 ((out ++ [y]).map enc)).toks []) := by
  have := appA_gslH (C := cfgP prim) (ts := #[37, 37]) (e := 48) (t1 := 48) (n := 5) (k := 96) (z := z6) (by kernel_rfl) (by kernel_rfl) (by kernel_rfl) (by kernel_rfl) rfl (by kernel_rfl) (xs := out.map enc) (f := true) (x := enc y) (by rw [enc_cells, List.length_cons, hy.1]) (enc_sized out ho) (by simp only [List.length_map]; omega) (H := mHv v (ghp 48 (out.map enc)).toks []) rfl
  rw [this]
  simp [mHv]
theorem gp4 {b g i j : Nat} : fieldAddrA (cfgP prim) 39 (.ptr b g i j) 4 = some (.ptr b g i (j + 4)) := by kernel_rfl
theorem mv4 {ys : List E} : partA (cfgP prim) 37 (mapV ys).cells 4 = some (msl ys) := by
  rw [vp37]
  rfl
theorem mv0 {ys : List E} : partA (cfgP prim) 39 (mapV ys).cells 0 = some (mapV ys) := vp39 rfl
end
theorem gsl_bare (l : List AV) : ∃ BR, (gsl l).bare = some BR ∧ elems BR = some l ∧ slK BR := by
  cases l with
  | nil => exact ⟨_, rfl, rfl, .inl rfl⟩
  | cons x l => exact ⟨_, rfl, rfl, .inr ⟨rfl, rfl⟩⟩
theorem mapL_one (e : E) : mapL [e] = [e] := rfl
theorem mapL_ne {es : List E} (h : 0 < es.length) : 0 < (mapL es).length := by
  cases es with
  | nil => cases h
  | cons e es =>
    obtain ⟨q, hq⟩ := lastK_mem (xs := e :: es) (p := e) (by simp)
    have := mapL_last e.1 (e :: es)
    rw [hq] at this
    obtain ⟨hm, _⟩ := lastK_key this
    exact List.length_pos_of_mem hm
noncomputable def vm1 : FuncId → Option (List AV → Option AV) := tab [(28, vawakeP), (29, lightT), (30, (vP dwA)), (32, (vP gdA)), (35, mapT), (37, eqP)]
theorem vm1_ok : (cfgP vm1).Ok := cfg_ok (tab_ok ⟨prim_at Tryd.func28 (by kernel_rfl) rfl ((fun xs r h => pureOk_prim (prim' := fun _ => none) (vawake_ok xs r h))), prim_at Tryd.func29 (by kernel_rfl) rfl (lightT_ok), prim_at Tryd.func30 (by kernel_rfl) rfl (dwP_ok), prim_at Tryd.func32 (by kernel_rfl) rfl (gdP_ok), prim_at Tryd.func35 (by kernel_rfl) rfl (mapTp_ok), prim_at Tryd.func37 (by kernel_rfl) rfl (samePv_ok), trivial⟩)
theorem vm1_28 : (cfgP vm1).prim 28 = some vawakeP := rfl
theorem vm1_29 : (cfgP vm1).prim 29 = some lightT := rfl
theorem vm1_30 : (cfgP vm1).prim 30 = some (vP dwA) := rfl
theorem vm1_32 : (cfgP vm1).prim 32 = some (vP gdA) := rfl
theorem vm1_35 : (cfgP vm1).prim 35 = some mapT := rfl
theorem vm1_37 : (cfgP vm1).prim 37 = some eqP := rfl
structure VmI (x : AV) (T : Int) (i : Nat) (e : Env) (h : Hp) : Prop where
  len : e.length = 97
  a0 : aget e 0 = x
  a1 : aget e 1 = .v (.int .i64 T)
  a5 : aget e 5 = .v (.int .i64 (i : Int))
  hp : h = {}
structure VbI (x v : AV) (out : List E) (k i : Nat) (e : Env) (h : Hp) : Prop where
  len : e.length = 97
  a0 : aget e 0 = x
  a6 : aget e 6 = .ptr 0 0 0 0
  a7 : aget e 7 = .v (.int .i64 (k : Int))
  a8 : aget e 8 = gsl (out.map enc)
  a9 : aget e 9 = .v (.int .i64 (i : Int))
  hp : h = mHv v (ghp 48 (out.map enc)).toks []
theorem cv331 {prim : FuncId → Option (List AV → Option AV)} {n : Int} : convA (cfgP prim) 3 31 (.v (.int .i64 n)) = some (.v (.int .u64 (IntKind.u64.wrap n))) := conv_int (j := .i64) (by kernel_rfl) (by kernel_rfl) (by kernel_rfl) (by kernel_rfl)
theorem cv313 {prim : FuncId → Option (List AV → Option AV)} {n : Int} : convA (cfgP prim) 31 3 (.v (.int .u64 n)) = some (.v (.int .i64 (IntKind.i64.wrap n))) := conv_int (j := .u64) (by kernel_rfl) (by kernel_rfl) (by kernel_rfl) (by kernel_rfl)
theorem wrapU {n : Int} : 0 ≤ IntKind.u64.wrap n ∧ IntKind.u64.wrap n < 18446744073709551616 := by
  simp [IntKind.wrap, IntKind.bits, IntKind.signed]
  omega
theorem wrapUN {n : Nat} (h : n < 1000000) : IntKind.u64.wrap (n : Int) = n := by
  simp [IntKind.wrap, IntKind.bits, IntKind.signed]
  omega
set_option maxHeartbeats 16000000 in
set_option maxRecDepth 100000 in
theorem valueMaps_core (x : AV) (T : Int) (hx : Arg Tryd.prog 37 x) (sx : Small x) : PureOk (cfgP vm1) 10 [x, .v (.int .i64 T)] (.v (.bool true)) := by
  obtain ⟨m, zs, y1, y2, y3, y4, y5, y6⟩ := arg_mems hx
  have hmv := mvA_fv y1 y2 y3 y4 y5 y6
  have hmsm := hmv.sml (mvA_small sx)
  have hbd := mvA_build (prim := vm1) (sl_one y3 y4) y5
  have qa : vawakeP [] = some (.v (.bool true)) := rfl
  have qm := lightT_eq (most := 800) hmv
  have hmb := hmv.bare
  obtain ⟨MW, hMW⟩ : ∃ MW, mvA x = MW := ⟨_, rfl⟩
  rw [hMW] at hbd qm hmb
  clear hmv hMW
  obtain ⟨es, rfl, ho, hT⟩ := fms_encs y2
  have hel : es.length = m.length := by rw [← y2.len, List.length_map]
  have hxl : (es.map enc).length = es.length := List.length_map ..
  obtain ⟨L, hL⟩ : ∃ L, es.length = L := ⟨_, rfl⟩
  by_cases L0 : L = 0
  · have d1 : decide ((L : Int) < 1) = true := decide_eq_true (by omega)
    refine pure_of_wk (call := noCall) (fn := Tryd.f10) (rs := [.tmp 4]) vm1_ok noCall_ok (fns_cfg Tryd.func10 rfl) rfl rfl ?_
    intro env hl0 hargs
    have hn : env.length = 97 := hl0
    have h0 := hargs 0 _ rfl
    have h1 := hargs 1 _ rfl
    clear hargs hl0
    refine wkT_of ?_
    rw [fe_self hn]
    (try simp -dsimp (disch := omega) only [h0, h1, ct_prim vm1_28, qa, len37 y1, hxl, hL, d1, Bool.not_true, AS, avals, apairs, bareP, AV.bare, AV.bares, Nat.reduceEqDiff, Nat.reduceLT, Nat.reduceAdd, ↓reduceIte, reduceCtorEq, resA, resA1, resVal, Nat.reduceLeDiff, nb_cfg, Nat.reduceBEq, AX, Int.reduceLT, Int.reduceLE, Int.reduceEq, Int.reduceAdd, Int.reduceSub, Int.reduceMul, Int.reduceNeg, Int.reduceNe])
    exact ⟨1, rfl⟩
  have d1 : decide ((L : Int) < 1) = false := decide_eq_false (by omega)
  by_cases L4 : 40 < L
  · have d2 : decide ((40 : Int) < (L : Int)) = true := decide_eq_true (by omega)
    refine pure_of_wk (call := noCall) (fn := Tryd.f10) (rs := [.tmp 4]) vm1_ok noCall_ok (fns_cfg Tryd.func10 rfl) rfl rfl ?_
    intro env hl0 hargs
    have hn : env.length = 97 := hl0
    have h0 := hargs 0 _ rfl
    have h1 := hargs 1 _ rfl
    clear hargs hl0
    refine wkT_of ?_
    rw [fe_self hn]
    (try simp -dsimp (disch := omega) only [h0, h1, ct_prim vm1_28, qa, len37 y1, hxl, hL, d1, d2, Bool.not_true, AS, avals, apairs, bareP, AV.bare, AV.bares, Nat.reduceEqDiff, Nat.reduceLT, Nat.reduceAdd, ↓reduceIte, reduceCtorEq, resA, resA1, resVal, Nat.reduceLeDiff, nb_cfg, Nat.reduceBEq, AX, Int.reduceLT, Int.reduceLE, Int.reduceEq, Int.reduceAdd, Int.reduceSub, Int.reduceMul, Int.reduceNeg, Int.reduceNe])
    exact ⟨1, rfl⟩
  have d2 : decide ((40 : Int) < (L : Int)) = false := decide_eq_false (by omega)
  cases hlm : decide ((GV.mk 0 0 [] [] m).wt 800 0 ≤ 800) with
  | false =>
    rw [hlm] at qm
    refine pure_of_wk (call := noCall) (fn := Tryd.f10) (rs := [.tmp 4]) vm1_ok noCall_ok (fns_cfg Tryd.func10 rfl) rfl rfl ?_
    intro env hl0 hargs
    have hn : env.length = 97 := hl0
    have h0 := hargs 0 _ rfl
    have h1 := hargs 1 _ rfl
    clear hargs hl0
    refine wkT_of ?_
    rw [fe_self hn]
    (try simp -dsimp (disch := omega) only [h0, h1, ct_prim vm1_28, ct_prim vm1_29, qa, len37 y1, hxl, hL, d1, d2, hbd, hmb, qm, Bool.not_true, Bool.not_false, AS, avals, apairs, bareP, AV.bare, AV.bares, Nat.reduceEqDiff, Nat.reduceLT, Nat.reduceAdd, ↓reduceIte, reduceCtorEq, resA, resA1, resVal, Nat.reduceLeDiff, nb_cfg, Nat.reduceBEq, AX, Int.reduceLT, Int.reduceLE, Int.reduceEq, Int.reduceAdd, Int.reduceSub, Int.reduceMul, Int.reduceNeg, Int.reduceNe])
    exact ⟨1, rfl⟩
  | true =>
    rw [hlm] at qm
    have hsp : ∀ p ∈ m, GV.smlp p := smlm_all hmsm.2.2.2.2
    refine pure_of_wk (call := noCall) (fn := Tryd.f10) (rs := [.tmp 4]) vm1_ok noCall_ok (fns_cfg Tryd.func10 rfl) rfl rfl ?_
    intro env hl0 hargs
    have hn : env.length = 97 := hl0
    have h0 := hargs 0 _ rfl
    have h1 := hargs 1 _ rfl
    clear hargs hl0
    refine wkT_of ?_
    rw [fe_self hn]
    (try simp -dsimp (disch := omega) only [h0, h1, ct_prim vm1_28, ct_prim vm1_29, qa, len37 y1, hxl, hL, d1, d2, hbd, hmb, qm, Bool.not_true, Bool.not_false, AS, avals, apairs, bareP, AV.bare, AV.bares, Nat.reduceEqDiff, Nat.reduceLT, Nat.reduceAdd, ↓reduceIte, reduceCtorEq, resA, resA1, resVal, Nat.reduceLeDiff, nb_cfg, Nat.reduceBEq, AX, Int.reduceLT, Int.reduceLE, Int.reduceEq, Int.reduceAdd, Int.reduceSub, Int.reduceMul, Int.reduceNeg, Int.reduceNe])
    refine wt_loop (m := L) (fun q e h => ∃ i, i + q = L ∧ (∀ j p, j < i → m[j]? = some p → (G5 [p]).good = true) ∧ VmI x T i e h) ?_ ?_
    · clear hn h0 h1 hbd hmb qm d1 d2
      rintro q e h ⟨i, hi, hall, hn, h0, h1, h5, rfl⟩
      rw [fe_self hn]
      cases q with
      | succ q =>
        obtain ⟨p, hp⟩ : ∃ p, m[i]? = some p := ⟨m[i]'(by omega), List.getElem?_eq_getElem (by omega)⟩
        obtain ⟨y, hy, hfp⟩ := y2.get hp
        obtain ⟨e0, he0⟩ : ∃ e0, es[i]? = some e0 := ⟨es[i]'(by omega), List.getElem?_eq_getElem (by omega)⟩
        have hye : y = enc e0 := by
          rw [List.getElem?_map, he0] at hy
          exact (Option.some.inj hy).symm
        subst hye
        have hoe : okE e0 := ho e0 (List.mem_of_getElem? he0)
        have he6 : (str e0.1 :: e0.2).length = 6 := by rw [List.length_cons, hoe.1]
        have ixm := ix37 (prim := vm1) y1 hy he6
        have hmi : MapI [e0] (.cl false [enc e0]) := ⟨rfl, .inr ⟨rfl, rfl⟩, fun q hq => by rw [List.mem_singleton] at hq; rw [hq]; exact hoe, fun q hq => by rw [List.mem_singleton] at hq; rw [hq]; exact (hT e0 (List.mem_of_getElem? he0)).1, by simp⟩
        have qmap := mapT_eq hmi
        rw [mapL_one] at qmap
        have hfv : FV (G5 [p]) (mapV [e0]) := mapV_G5 (m := [p]) ⟨_, _, rfl, hfp, rfl⟩ (by simp)
        have hsv : (G5 [p]).sml := G5_sml (fun q hq => by rw [List.mem_singleton] at hq; rw [hq]; exact hsp p (List.mem_of_getElem? hp)) (by simp)
        have qg := vP_eq (r := gdA) hfv hsv
        have hb2 := hfv.bare
        have di : decide ((i : Int) < (L : Int)) = true := decide_eq_true (by omega)
        have ew : (i : Int) + 1 = ((i + 1 : Nat) : Int) := by omega
        obtain ⟨MV, hMV⟩ : ∃ MV, mapV [e0] = MV := ⟨_, rfl⟩
        rw [hMV] at qmap qg hb2
        simp only [gdA] at qg
        have bb : (AV.cl true [enc e0]).bare = some (.cl false [enc e0]) := rfl
        cases hg : (G5 [p]).good with
        | false =>
          rw [hg] at qg
          (try simp -dsimp (disch := omega) only [h0, h1, h5, len37 y1, hxl, hL, di, ixm, mp48c hoe, cellsA, bareP, enc_bare hoe, bsM hoe, bb, ct_prim vm1_35, ct_prim vm1_32, qmap, hb2, qg, Bool.not_false, AS, avals, apairs, bareP, AV.bare, AV.bares, Nat.reduceEqDiff, Nat.reduceLT, Nat.reduceAdd, ↓reduceIte, reduceCtorEq, resA, resA1, resVal, Nat.reduceLeDiff, nb_cfg, Nat.reduceBEq, AX, Int.reduceLT, Int.reduceLE, Int.reduceEq, Int.reduceAdd, Int.reduceSub, Int.reduceMul, Int.reduceNeg, Int.reduceNe])
          exact ⟨1, rfl⟩
        | true =>
          rw [hg] at qg
          (try simp -dsimp (disch := omega) only [h0, h1, h5, len37 y1, hxl, hL, di, ixm, mp48c hoe, cellsA, bareP, enc_bare hoe, bsM hoe, bb, ct_prim vm1_35, ct_prim vm1_32, qmap, hb2, qg, Bool.not_true, wrap64, ew, AS, avals, apairs, bareP, AV.bare, AV.bares, Nat.reduceEqDiff, Nat.reduceLT, Nat.reduceAdd, ↓reduceIte, reduceCtorEq, resA, resA1, resVal, Nat.reduceLeDiff, nb_cfg, Nat.reduceBEq, AX, Int.reduceLT, Int.reduceLE, Int.reduceEq, Int.reduceAdd, Int.reduceSub, Int.reduceMul, Int.reduceNeg, Int.reduceNe])
          refine ⟨q, by omega, i + 1, by omega, ?_, fe_len, ?_, ?_, ?_, rfl⟩
          case refine_1 =>
            intro j p' hj hp'
            rcases Nat.lt_or_ge j i with hj' | hj'
            · exact hall j p' hj' hp'
            · obtain rfl : j = i := by omega
              rw [hp] at hp'
              injection hp' with hp'
              rw [← hp']
              exact hg
          all_goals (try simp -dsimp (disch := omega) only [h0, h1, h5, AS, avals, apairs, bareP, AV.bare, AV.bares, Nat.reduceEqDiff, Nat.reduceLT, Nat.reduceAdd, ↓reduceIte, reduceCtorEq, resA, resA1, resVal, Nat.reduceLeDiff, nb_cfg, Nat.reduceBEq, AX, Int.reduceLT, Int.reduceLE, Int.reduceEq, Int.reduceAdd, Int.reduceSub, Int.reduceMul, Int.reduceNeg, Int.reduceNe])
      | zero =>
        obtain rfl : i = L := by omega
        have hgood : ∀ p ∈ m, utfB p.1 = true ∧ p.2.may = true := fun p hp => by
          obtain ⟨j, hj⟩ := List.getElem?_of_mem hp
          exact G5_one_good (hall j p (by have := (List.getElem?_eq_some_iff.1 hj).1; omega) hj)
        clear hall
        have hmi : MapI es x := ⟨y1, y3, ho, fun q hq => (hT q hq).1, by omega⟩
        have qmap := mapT_eq hmi
        have hstr := mapL_str es
        obtain ⟨ys, hys⟩ : ∃ ys, mapL es = ys := ⟨_, rfl⟩
        have hyl := mapL_len es
        have hyp := mapL_ne (es := es) (by omega)
        have htw := mapL_twice es
        have hsub : ∀ q ∈ ys, q ∈ es := fun q hq => mapL_mem (by rw [hys]; exact hq)
        rw [hys] at qmap hstr hyl hyp htw
        obtain ⟨n, hn0⟩ : ∃ n, ys.length = n := ⟨_, rfl⟩
        obtain ⟨m', f1, f2, f3⟩ := sub_fms y2 hsub
        have hfv : FV (G5 m') (mapV ys) := mapV_G5 f1 (by omega)
        have hsv : (G5 m').sml := G5_sml (fun p hp => hsp p (f3 p hp)) (by omega)
        have hmay : (G5 m').may = true := by
          rw [G5_may]
          exact maym_of m' none (fun p hp => hgood p (f3 p hp)) (fms_rise f1 hstr) (fun q e => by cases e)
        have qg := vP_eq (r := gdA) hfv hsv
        have qd := vP_eq (r := dwA) hfv hsv
        have hb2 := hfv.bare
        have hf5 : (mapV ys).cells.all AV.flat = true := hfv.fl
        have hoy : okL ys := fun q hq => ho q (hsub q hq)
        have qs := eqP_eq hfv hfv
        rw [dq_eq rfl] at qs
        simp only [gdA] at qg
        simp only [dwA] at qd
        obtain ⟨U, hU⟩ : ∃ U, IntKind.u64.wrap T = U := ⟨_, rfl⟩
        have hU2 : 0 ≤ U ∧ U < 18446744073709551616 := by rw [← hU]; exact wrapU
        have hUL : IntKind.u64.wrap (i : Int) = i := wrapUN (by omega)
        have hrm : ∀ {a b : Operand}, binA (cfgP vm1) .rem 31 a b (.v (.int .u64 U)) (.v (.int .u64 (i : Int))) = some (.v (.int .u64 (Int.tmod U (i : Int)))) := bin_rem (by omega)
        obtain ⟨k, hk⟩ : ∃ k : Nat, Int.tmod U (i : Int) = (k : Int) := by
          rw [Int.tmod_eq_emod_of_nonneg hU2.1]
          exact ⟨(U % (i : Int)).toNat, by rw [Int.toNat_of_nonneg (Int.emod_nonneg _ (by omega))]⟩
        have hkL : k < i := by
          have := Int.emod_lt_of_pos U (show (0 : Int) < (i : Int) by omega)
          rw [← Int.tmod_eq_emod_of_nonneg hU2.1, hk] at this
          omega
        rw [hk] at hrm
        have hwk : IntKind.i64.wrap (k : Int) = (k : Int) := wrap64 (by omega) (by omega)
        have r6 : (cfgP vm1).roBox 10 6 = false := rfl
        have al : allocA (cfgP vm1) 39 false {} = some (.ptr 0 0 0 0, mHv z5 [] [], 2) := mH_new'
        have st : storeA (cfgP vm1) 39 0 0 0 0 (mapV ys) (mHv z5 [] []) = some (mHv (mapV ys) [] []) := nH_store39 (prim := vm1) (ext := []) rfl hf5
        have di : decide ((i : Int) < (i : Int)) = false := decide_eq_false (by omega)
        have hmsl := (msl_ro ys).1
        have hmln : (ys.map enc).length = n := by rw [List.length_map, hn0]
        (try simp -dsimp (disch := omega) only [h0, h1, h5, len37 y1, hxl, hL, di, ct_prim vm1_35, y4, qmap, r6, al, st, cv331, hU, hUL, hrm, cv313, hwk, AS, avals, apairs, bareP, AV.bare, AV.bares, Nat.reduceEqDiff, Nat.reduceLT, Nat.reduceAdd, ↓reduceIte, reduceCtorEq, resA, resA1, resVal, Nat.reduceLeDiff, nb_cfg, Nat.reduceBEq, AX, Int.reduceLT, Int.reduceLE, Int.reduceEq, Int.reduceAdd, Int.reduceSub, Int.reduceMul, Int.reduceNeg, Int.reduceNe])
        clear hrm hU hUL al st di
        refine wt_loop (m := n) (fun q e h => ∃ j, j + q = n ∧ VbI x (mapV ys) (bkA ys k j) k j e h) ?_ ?_
        · clear hn h0 h1 h5
          rintro q e h ⟨j, hj, hn, h0, h6, h7, h8, h9, rfl⟩
          rw [fe_self hn]
          cases q with
          | succ q =>
            have hjn : (n - 1 - j + k) % n < n := Nat.mod_lt _ (by omega)
            obtain ⟨a, ha⟩ : ∃ a, (n - 1 - j + k) % n = a := ⟨_, rfl⟩
            rw [ha] at hjn
            obtain ⟨z, hz⟩ : ∃ z, ys[a]? = some z := ⟨ys[a]'(by omega), List.getElem?_eq_getElem (by omega)⟩
            have hoz : okE z := hoy z (List.mem_of_getElem? hz)
            have hz6 : (str z.1 :: z.2).length = 6 := by rw [List.length_cons, hoz.1]
            have hze : (ys.map enc)[a]? = some (.agg (str z.1 :: z.2)) := HB_get hz
            have ixz := ix37 (prim := vm1) hmsl hze hz6
            have hob : okL (bkA ys k j) := fun q hq => hoy q (bkA_mem hq)
            have hbl := bkA_len (ys := ys) (k := k) j
            have ap := mv_app (prim := vm1) (v := mapV ys) hob hoz (by omega)
            have hbk : bkA ys k (j + 1) = bkA ys k j ++ [z] := by
              rw [bkA, hn0, ha, hz]
              rfl
            rw [← hbk] at ap
            have dj : decide ((j : Int) < (n : Int)) = true := decide_eq_true (by omega)
            have ew : (j : Int) + 1 = ((j + 1 : Nat) : Int) := by omega
            have e1 : (n : Int) - 1 = ((n - 1 : Nat) : Int) := by omega
            have e2 : ((n - 1 : Nat) : Int) - (j : Int) = ((n - 1 - j : Nat) : Int) := by omega
            have e3 : ((n - 1 - j : Nat) : Int) + (k : Int) = ((n - 1 - j + k : Nat) : Int) := by omega
            have hrm : ∀ {a' b' : Operand}, binA (cfgP vm1) .rem 3 a' b' (.v (.int .i64 ((n - 1 - j + k : Nat) : Int))) (.v (.int .i64 (n : Int))) = some (.v (.int .i64 (a : Int))) := by
              intro a' b'
              rw [bin_rem (by omega), Int.tmod_eq_emod_of_nonneg (by omega), ← ha]
              rfl
            obtain ⟨N1, hN1⟩ : ∃ N1 : Nat, n - 1 - j + k = N1 := ⟨_, rfl⟩
            obtain ⟨N2, hN2⟩ : ∃ N2 : Nat, n - 1 - j = N2 := ⟨_, rfl⟩
            obtain ⟨N3, hN3⟩ : ∃ N3 : Nat, n - 1 = N3 := ⟨_, rfl⟩
            rw [hN1] at hrm e3
            rw [hN2] at e2 e3
            rw [hN3] at e1 e2
            (try simp -dsimp (disch := omega) only [h0, h6, h7, h8, h9, gp4, mHv_blk, List.getElem?_cons_zero, mv4, len37 hmsl, hmln, dj, wrap64, e1, e2, e3, hrm, ixz, mp48c hoz, cellsA, bareP, enc_bare hoz, bsM hoz, ap, ew, AS, avals, apairs, bareP, AV.bare, AV.bares, Nat.reduceEqDiff, Nat.reduceLT, Nat.reduceAdd, ↓reduceIte, reduceCtorEq, resA, resA1, resVal, Nat.reduceLeDiff, nb_cfg, Nat.reduceBEq, AX, Int.reduceLT, Int.reduceLE, Int.reduceEq, Int.reduceAdd, Int.reduceSub, Int.reduceMul, Int.reduceNeg, Int.reduceNe])
            refine ⟨by kernel_rfl, q, by omega, j + 1, by omega, fe_len, ?_, ?_, ?_, ?_, ?_, rfl⟩
            all_goals (try simp -dsimp (disch := omega) only [h0, h6, h7, h8, h9, AS, avals, apairs, bareP, AV.bare, AV.bares, Nat.reduceEqDiff, Nat.reduceLT, Nat.reduceAdd, ↓reduceIte, reduceCtorEq, resA, resA1, resVal, Nat.reduceLeDiff, nb_cfg, Nat.reduceBEq, AX, Int.reduceLT, Int.reduceLE, Int.reduceEq, Int.reduceAdd, Int.reduceSub, Int.reduceMul, Int.reduceNeg, Int.reduceNe])
          | zero =>
            obtain rfl : j = n := by omega
            have hback : mapL (bkA ys k j) = ys := by rw [← hn0]; exact bkA_map hstr k
            have hbl := bkA_len (ys := ys) (k := k) j
            obtain ⟨BR, b1, b2, b3⟩ := gsl_bare ((bkA ys k j).map enc)
            have hmb : MapI (bkA ys k j) BR := ⟨b2, b3, fun q hq => hoy q (bkA_mem hq), fun q hq => (hT q (hsub q (bkA_mem hq))).1, by omega⟩
            have qb := mapT_eq hmb
            rw [hback] at qb
            have dj : decide ((j : Int) < (j : Int)) = false := decide_eq_false (by omega)
            cases hdp : decide (50 < (G5 m').dw) with
            | true =>
              (try simp -dsimp (disch := omega) only [h0, h6, h7, h8, h9, gp4, mHv_blk, List.getElem?_cons_zero, mv4, mv0, len37 hmsl, hmln, dj, ct_prim vm1_30, hb2, qd, hdp, AS, avals, apairs, bareP, AV.bare, AV.bares, Nat.reduceEqDiff, Nat.reduceLT, Nat.reduceAdd, ↓reduceIte, reduceCtorEq, resA, resA1, resVal, Nat.reduceLeDiff, nb_cfg, Nat.reduceBEq, AX, Int.reduceLT, Int.reduceLE, Int.reduceEq, Int.reduceAdd, Int.reduceSub, Int.reduceMul, Int.reduceNeg, Int.reduceNe])
              exact ⟨1, rfl⟩
            | false =>
              have hg : (G5 m').good = true := by
                unfold GV.good
                rw [hmay, Bool.and_true]
                rw [decide_eq_false_iff_not] at hdp
                exact decide_eq_true (by omega)
              rw [hg] at qg
              obtain ⟨tk, htk⟩ : ∃ tk, (ghp 48 ((bkA ys k j).map enc)).toks = tk := ⟨_, rfl⟩
              rw [htk]
              obtain ⟨e0, es', he0⟩ : ∃ e0 es', es = e0 :: es' := by
                cases es with
                | nil => simp at hL; omega
                | cons a b => exact ⟨a, b, rfl⟩
              obtain ⟨z0, ys', hz0⟩ : ∃ z0 ys', ys = z0 :: ys' := by
                cases ys with
                | nil => simp at hyp
                | cons a b => exact ⟨a, b, rfl⟩
              have hx1 : elems x = some (enc e0 :: es'.map enc) := by rw [y1, he0]; rfl
              have hx2 : elems (msl ys) = some (enc z0 :: ys'.map enc) := by rw [hmsl, hz0]; rfl
              have c0 : (enc e0).cells.length = 6 := by rw [enc_cells, List.length_cons, (ho e0 (by rw [he0]; simp)).1]
              have c1 : (enc z0).cells.length = 6 := by rw [enc_cells, List.length_cons, (hoy z0 (by rw [hz0]; simp)).1]
              have l0 : (enc e0 :: es'.map enc).length ≤ 40 := by
                have : (e0 :: es').length = i := by rw [← he0]; exact hL
                simp only [List.length_cons, List.length_map] at this ⊢
                omega
              have l1 : (enc z0 :: ys'.map enc).length ≤ 40 := by
                have : (z0 :: ys').length = j := by rw [← hz0]; exact hn0
                simp only [List.length_cons, List.length_map] at this ⊢
                omega
              have a1 := app_cl (prim := vm1) (f := true) (H := mHv (mapV ys) tk []) hx1 y3 c0 (by omega)
              have a2 := app_ap (prim := vm1) (t := tk.length) (H := { mHv (mapV ys) tk [] with toks := tk ++ [((enc e0 :: es'.map enc).length, 48)] }) (z := enc e0) (zs := es'.map enc) hx2 (msl_ro ys).2.1 c1 c0 (by simp) (by omega)
              obtain ⟨H1, hH1⟩ : ∃ H1 : Hp, { mHv (mapV ys) tk [] with toks := tk ++ [((enc e0 :: es'.map enc).length, 48)] } = H1 := ⟨_, rfl⟩
              have hk1 : blkAt H1 0 0 = some ⟨0, 5, [mapV ys]⟩ := by rw [← hH1]; rfl
              rw [hH1] at a2
              replace a1 : appA (cfgP vm1) #[37, 37] [.cl true [], x] (mHv (mapV ys) tk []) = some (.ap tk.length (enc e0 :: es'.map enc), H1) := by rw [← hH1]; exact a1
              obtain ⟨H2, hH2⟩ : ∃ H2 : Hp, { H1 with toks := H1.toks.set tk.length ((enc e0 :: es'.map enc).length + (enc z0 :: ys'.map enc).length, 48) } = H2 := ⟨_, rfl⟩
              have hk2 : blkAt H2 0 0 = some ⟨0, 5, [mapV ys]⟩ := by rw [← hH2, ← hH1]; rfl
              rw [hH2] at a2
              obtain ⟨A, hA⟩ : ∃ A, enc e0 :: es'.map enc = A := ⟨_, rfl⟩
              obtain ⟨A2, hA2⟩ : ∃ A2, enc e0 :: es'.map enc ++ enc z0 :: ys'.map enc = A2 := ⟨_, rfl⟩
              rw [hA2] at a2
              rw [hA] at a1 a2
              have hAll : A2 = (es ++ ys).map enc := by rw [← hA2, he0, hz0]; simp
              have hm2 : MapI (es ++ ys) (.ro A2) := ⟨by rw [hAll]; rfl, .inr ⟨rfl, rfl⟩, okL_append.2 ⟨ho, hoy⟩, fun q hq => by
                rcases List.mem_append.1 hq with hq | hq
                · exact (hT q hq).1
                · exact (hT q (hsub q hq)).1, by rw [List.length_append]; omega⟩
              have qm2 := mapT_eq hm2
              rw [htw] at qm2
              have bs0 : buildSliceA (cfgP vm1) 37 0 [] = some (.cl true []) := by kernel_rfl
              have bap : (AV.ap tk.length A2).bare = some (.ro A2) := rfl
              (try simp -dsimp (disch := omega) only [h0, h6, h7, h8, h9, gp4, mHv_blk, hk1, hk2, List.getElem?_cons_zero, mv4, mv0, len37 hmsl, hmln, dj, ct_prim vm1_30, ct_prim vm1_32, ct_prim vm1_35, ct_prim vm1_37, hb2, qd, hdp, qg, b1, qb, qs, bs0, a1, a2, bap, qm2, AS, avals, apairs, bareP, AV.bare, AV.bares, Nat.reduceEqDiff, Nat.reduceLT, Nat.reduceAdd, ↓reduceIte, reduceCtorEq, resA, resA1, resVal, Nat.reduceLeDiff, nb_cfg, Nat.reduceBEq, AX, Int.reduceLT, Int.reduceLE, Int.reduceEq, Int.reduceAdd, Int.reduceSub, Int.reduceMul, Int.reduceNeg, Int.reduceNe])
              refine ⟨by kernel_rfl, ?_⟩
              exact ⟨1, rfl⟩
        · refine ⟨0, by omega, fe_len, ?_, ?_, ?_, ?_, ?_, rfl⟩
          all_goals (try simp -dsimp (disch := omega) only [h0, AS, avals, apairs, bareP, AV.bare, AV.bares, Nat.reduceEqDiff, Nat.reduceLT, Nat.reduceAdd, ↓reduceIte, reduceCtorEq, resA, resA1, resVal, Nat.reduceLeDiff, nb_cfg, Nat.reduceBEq, AX, Int.reduceLT, Int.reduceLE, Int.reduceEq, Int.reduceAdd, Int.reduceSub, Int.reduceMul, Int.reduceNeg, Int.reduceNe])
          all_goals rfl
    · refine ⟨0, by omega, (fun j p hj => by omega), fe_len, ?_, ?_, ?_, rfl⟩
      all_goals (try simp -dsimp (disch := omega) only [h0, h1, AS, avals, apairs, bareP, AV.bare, AV.bares, Nat.reduceEqDiff, Nat.reduceLT, Nat.reduceAdd, ↓reduceIte, reduceCtorEq, resA, resA1, resVal, Nat.reduceLeDiff, nb_cfg, Nat.reduceBEq, AX, Int.reduceLT, Int.reduceLE, Int.reduceEq, Int.reduceAdd, Int.reduceSub, Int.reduceMul, Int.reduceNeg, Int.reduceNe])
      all_goals rfl
end Go.Proofs.YtjejeijldllloaaDoor
