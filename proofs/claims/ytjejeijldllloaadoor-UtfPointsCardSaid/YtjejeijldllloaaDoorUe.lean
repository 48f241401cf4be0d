/- Contracts of functions, and plain facts about what they compute. -/
import Derived.Test.YtjejeijldllloaaDoorUd
set_option linter.unusedSimpArgs false
set_option linter.unusedVariables false
/- Chapter 1: what is quoted is read back: plain facts. -/
namespace Go.Proofs.YtjejeijldllloaaDoor
open Go.AM
theorem short_long : ∀ n : Fin 256, shortN n.1 ≠ 0 → shortN n.1 ≠ 117 ∧ longN (shortN n.1) = some n.1 := by decide +kernel
theorem short_plain : ∀ n : Fin 256, shortN n.1 = 0 → n.1 ≠ 34 ∧ n.1 ≠ 92 := by decide +kernel
theorem dig_v : ∀ n : Fin 16, digV (digU n.1) = some n.1 := by decide +kernel
theorem putL_big : ∀ n : Fin 256, ∀ x ∈ putL (UInt8.ofNat n.1), 32 ≤ x.toNat ∧ (n.1 < 128 → x.toNat < 128) := by decide +kernel
theorem putL_hi : ∀ n : Fin 256, 128 ≤ n.1 → putL (UInt8.ofNat n.1) = [UInt8.ofNat n.1] := by decide +kernel
theorem u8_of (c : UInt8) : UInt8.ofNat c.toNat = c := UInt8.ofNat_toNat
theorem putL_ge {c x : UInt8} (h : x ∈ putL c) : 32 ≤ x.toNat ∧ (c.toNat < 128 → x.toNat < 128) := by
  have := putL_big ⟨c.toNat, UInt8.toNat_lt c⟩
  simp only [u8_of] at this
  exact this x h
theorem putL_hi' {c : UInt8} (h : 128 ≤ c.toNat) : putL c = [c] := by
  have := putL_hi ⟨c.toNat, UInt8.toNat_lt c⟩ h
  simpa only [u8_of] using this
theorem getA {a b t : List UInt8} {k : Nat} (h : t = a ++ b) (hk : k = a.length) (i : Nat) : t[k + i]? = b[i]? := by
  subst h hk
  rw [List.getElem?_append_right (by omega)]
  congr 1
  omega
theorem enc_small {n : Nat} (h : n ≤ 127) : encU n = [UInt8.ofNat n] := by
  unfold encU encN
  rw [if_pos h]
  rfl
/-- Four digits that stand there. -/
theorem hex_four {t : List UInt8} {k : Nat} {a b c d : UInt8} {na nb nc nd : Nat} (h0 : t[k]? = some a) (h1 : t[k + 1]? = some b) (h2 : t[k + 2]? = some c) (h3 : t[k + 3]? = some d)
    (ha : digV a = some na) (hb : digV b = some nb) (hc : digV c = some nc) (hd : digV d = some nd) : hexF t 4 k 0 = (some (((na * 16 + nb) * 16 + nc) * 16 + nd), k + 4) := by
  simp only [hexF, h0, h1, h2, h3, ha, hb, hc, hd, Nat.zero_mul, Nat.zero_add]
theorem esc_put {t a b : List UInt8} {k : Nat} {c : UInt8} {l : List UInt8} (h : t = a ++ (putL c ++ b)) (hk : k = a.length) (hc : shortN c.toNat ≠ 0 ∨ c.toNat < 32) : t[k]? = some 92 ∧ escF t (k + 1) l = (true, k + (putL c).length, l ++ [c]) := by
  have hcl := UInt8.toNat_lt c
  by_cases h1 : shortN c.toNat = 0
  · have h2 : c.toNat < 32 := hc.resolve_left (by omega)
    have hp : putL c = [92, 117, 48, 48, digU (c.toNat / 16), digU (c.toNat % 16)] := by unfold putL; rw [if_neg (by omega), if_pos h2]
    rw [hp] at h ⊢
    have g := fun i => getA h hk i
    have g0 : t[k]? = some 92 := g 0
    have g1 : t[k + 1]? = some 117 := g 1
    have x2 : t[k + 1 + 1]? = some 48 := g 2
    have x3 : t[k + 1 + 1 + 1]? = some 48 := g 3
    have x4 : t[k + 1 + 1 + 2]? = some (digU (c.toNat / 16)) := g 4
    have x5 : t[k + 1 + 1 + 3]? = some (digU (c.toNat % 16)) := g 5
    have hx := hex_four x2 x3 x4 x5 (na := 0) (nb := 0) (by decide) (by decide) (dig_v ⟨c.toNat / 16, by omega⟩) (dig_v ⟨c.toNat % 16, by omega⟩)
    simp only at hx
    rw [show ((0 * 16 + 0) * 16 + c.toNat / 16) * 16 + c.toNat % 16 = c.toNat by omega] at hx
    refine ⟨g0, ?_⟩
    have hpt : pointF t (k + 1 + 1) = (some c.toNat, k + 1 + 1 + 4) := by
      unfold pointF
      rw [hx]
      simp only
      rw [if_neg (by omega), if_neg (by omega)]
    simp only [escF, g1]
    rw [if_pos (by decide), hpt]
    simp only [pointL, Option.isSome_some]
    rw [enc_small (by omega), u8_of]
    rfl
  · have hp : putL c = [92, UInt8.ofNat (shortN c.toNat)] := by unfold putL; rw [if_pos h1]
    rw [hp] at h ⊢
    have g := fun i => getA h hk i
    have g0 : t[k]? = some 92 := g 0
    have g1 : t[k + 1]? = some (UInt8.ofNat (shortN c.toNat)) := g 1
    refine ⟨g0, ?_⟩
    have hs := short_long ⟨c.toNat, hcl⟩ h1
    simp only at hs
    have hlt := shortN_lt c.toNat
    have ht : (UInt8.ofNat (shortN c.toNat)).toNat = shortN c.toNat := by rw [UInt8.toNat_ofNat', Nat.mod_eq_of_lt hlt]
    simp only [escF, g1, ht]
    rw [if_neg hs.1, hs.2]
    simp only [u8_of]
    rfl
theorem unq_put {t : List UInt8} {b : List UInt8} : ∀ (s a l : List UInt8) (f k : Nat), t = a ++ (s.flatMap putL ++ 34 :: b) → k = a.length → s.length < f →
    unqF t f k l = (utfB (l ++ s), k + (s.flatMap putL).length + 1, l ++ s)
  | [], a, l, f, k, h, hk, hf => by
    obtain ⟨f, rfl⟩ : ∃ f', f = f' + 1 := ⟨f - 1, by simp at hf; omega⟩
    have g0 : t[k]? = some 34 := getA h hk 0
    simp only [unqF, g0]
    rw [if_neg (by decide), if_pos (by decide)]
    simp
  | c :: s, a, l, f, k, h, hk, hf => by
    obtain ⟨f, rfl⟩ : ∃ f', f = f' + 1 := ⟨f - 1, by simp at hf; omega⟩
    rw [List.flatMap_cons, List.append_assoc] at h
    have ih := fun l' k' (e : k' = (a ++ putL c).length) => unq_put (t := t) (b := b) s (a ++ putL c) l' f k' (by rw [h, List.append_assoc]) e (by simp at hf; omega)
    have hcl := UInt8.toNat_lt c
    by_cases hc : shortN c.toNat ≠ 0 ∨ c.toNat < 32
    · obtain ⟨g0, he⟩ := esc_put (l := l) h hk hc
      simp only [unqF, g0]
      rw [if_neg (by decide), if_neg (by decide), if_pos (by decide), he]
      simp only [if_true]
      rw [ih (l ++ [c]) _ (by rw [List.length_append, hk])]
      simp [List.flatMap_cons]
      omega
    · have h1 : shortN c.toNat = 0 := by omega
      have h2 : ¬ c.toNat < 32 := by omega
      have hp : putL c = [c] := by unfold putL; rw [if_neg (by omega), if_neg h2]
      have hn := short_plain ⟨c.toNat, hcl⟩ h1
      simp only at hn
      rw [hp] at h
      have g0 : t[k]? = some c := getA h hk 0
      simp only [unqF, g0]
      rw [if_neg h2, if_neg hn.1, if_neg hn.2, ih (l ++ [c]) _ (by rw [List.length_append, hk, hp]; rfl)]
      simp [List.flatMap_cons, hp]
      omega
theorem quote_back (s rest : List UInt8) (hu : utfB s = true) : textF (quoteL s ++ rest) = (true, (quoteL s).length, s) := by
  have h0 : (quoteL s ++ rest)[0]? = some 34 := rfl
  have := unq_put (t := quoteL s ++ rest) (b := rest) s [34] [] (quoteL s ++ rest).length 1 (by unfold quoteL; simp) rfl (by
    unfold quoteL
    have : s.length ≤ (s.flatMap putL).length := by
      clear hu h0
      induction s with
      | nil => simp
      | cons c s ih =>
        have : 0 < (putL c).length := by
          unfold putL
          repeat' split
          all_goals simp
        rw [List.flatMap_cons, List.length_append, List.length_cons]
        omega
    simp only [List.length_append, List.length_cons]
    omega)
  unfold textF
  rw [h0]
  simp only
  rw [if_pos (by decide), this]
  simp [hu, quoteL]
  omega
theorem utfB_put : ∀ (n : Nat) (s : List UInt8), s.length ≤ n → utfB s = true → utfB (s.flatMap putL) = true
  | _, [], _, _ => rfl
  | 0, c :: s, h, _ => by simp at h
  | n + 1, c :: s, h, hu => by
    by_cases hc : c.toNat < 128
    · have h1 := stepN_ascii (r := s) hc
      rw [utfB_step (by omega), h1] at hu
      have ih := utfB_put n s (by simp at h; omega) hu
      rw [List.flatMap_cons, utfB_ascii (putL c).length _ (by simp) (by
        rw [List.take_left]
        intro x hx
        exact (putL_ge hx).2 hc), List.drop_left]
      exact ih
    · by_cases hs : stepN (c :: s) = 0
      · rw [utfB_bad hs (by simp)] at hu; cases hu
      · obtain ⟨m, hm⟩ : ∃ m, stepN (c :: s) = m := ⟨_, rfl⟩
        have hle := (stepN_le (c :: s)).1
        rw [hm] at hle hs
        rw [utfB_step (by omega), hm] at hu
        have ih := utfB_put n ((c :: s).drop m) (by simp only [List.length_drop, List.length_cons] at h ⊢; omega) hu
        have htk : ((c :: s).take m).flatMap putL = (c :: s).take m := by
          have : ∀ l : List UInt8, (∀ x ∈ l, 128 ≤ x.toNat) → l.flatMap putL = l := by
            intro l hl
            induction l with
            | nil => rfl
            | cons x l ih =>
              rw [List.flatMap_cons, putL_hi' (hl x (by simp)), ih fun y hy => hl y (by simp [hy])]
              rfl
          apply this
          intro x hx
          obtain ⟨i, hi, rfl⟩ := List.getElem_of_mem hx
          rw [List.length_take] at hi
          rw [List.getElem_take]
          rcases Nat.eq_zero_or_pos i with rfl | hp
          · show 128 ≤ c.toNat
            omega
          · exact (step_cont (l := c :: s) (i := i) (by omega) hp (by omega) (List.getElem?_eq_getElem (by omega))).1
        have hst := step_take (l := c :: s) (k := m) (by omega) (by omega)
        have hut : utfB ((c :: s).take m) = true := by
          rw [utfB_step (by rw [hst]; omega), hst, hm, List.drop_take, Nat.sub_self, List.take_zero]
          rfl
        rw [show (c :: s).flatMap putL = ((c :: s).take m).flatMap putL ++ ((c :: s).drop m).flatMap putL by rw [← List.flatMap_append, List.take_append_drop], htk, utfB_append hut]
        exact ih
theorem quote_good (s : List UInt8) (hu : utfB s = true) : utfB (quoteL s) = true := by
  have h := utfB_put _ s (Nat.le_refl _) hu
  show utfB ([34] ++ (s.flatMap putL ++ [34])) = true
  rw [utfB_append (by rfl), utfB_append h]
  rfl
theorem quote_ge (s : List UInt8) : ∀ x ∈ quoteL s, 32 ≤ x.toNat := by
  intro x hx
  unfold quoteL at hx
  simp only [List.mem_append, List.mem_cons, List.mem_flatMap, List.not_mem_nil, or_false] at hx
  rcases hx with (rfl | ⟨c, _, hc⟩) | rfl
  · decide
  · exact (putL_ge hc).1
  · decide
theorem quote_len (s : List UInt8) : (quoteL s).length ≤ 6 * s.length + 2 := by
  have := putL_all s
  unfold quoteL
  simp only [List.length_append, List.length_cons, List.length_nil]
  omega
end Go.Proofs.YtjejeijldllloaaDoor

/- Chapter 1: UtfBack. -/
namespace Go.Proofs.YtjejeijldllloaaDoor
open Go.AM
def uv5 : FuncId → Option (List AV → Option AV) := tab [(18, awakeP), (22, validP), (23, runesQ), (21, (s1P 1073741824 quoteV)), (19, (s1P 68719476736 unqV))]
theorem uv5_ok : (cfgP uv5).Ok := cfg_ok (tab_ok ⟨prim_at Tryd.func18 (by kernel_rfl) rfl (uawake_ok), prim_at Tryd.func22 (by kernel_rfl) rfl ((s1P_of good_ok)), prim_at Tryd.func23 (by kernel_rfl) rfl ((s1P_of runesF_ok)), prim_at Tryd.func21 (by kernel_rfl) rfl ((s1P_of fun l h => quote_ok l (by omega))), prim_at Tryd.func19 (by kernel_rfl) rfl ((s1P_of fun l h => unquote_ok l (by omega))), trivial⟩)
theorem uv5_18 : (cfgP uv5).prim 18 = some awakeP := rfl
theorem uv5_22 : (cfgP uv5).prim 22 = some validP := rfl
theorem uv5_23 : (cfgP uv5).prim 23 = some runesQ := rfl
theorem uv5_21 : (cfgP uv5).prim 21 = some (s1P 1073741824 quoteV) := rfl
theorem uv5_19 : (cfgP uv5).prim 19 = some (s1P 68719476736 unqV) := rfl
section
variable {C : Cfg} {fid : FuncId} {call : FuncId → List AV → Hp → Option (AV × Hp)}
end
structure BkI (s rest q : List UInt8) (m i : Nat) (e : Env) (h : Hp) : Prop where
  len : e.length = 74
  hp : h = {}
  a0 : aget e 0 = str s
  a5 : aget e 5 = str q
  a7 : aget e 7 = str s
  a8 : aget e 8 = .v (.int .i64 (q.length : Int))
  a9 : aget e 9 = .v (.int .i64 0)
  a10 : aget e 10 = .v (.int .i64 (i : Int))
theorem n20 : (!decide ((2 : Int) = 0)) = true := rfl
theorem n00 : (!decide ((0 : Int) = 0)) = false := rfl
set_option maxHeartbeats 4000000 in
set_option maxRecDepth 100000 in
theorem utfBack_core (s rest : List UInt8) : PureOk (cfgP uv5) 4 [str s, str rest] (.v (.bool true)) := by
  by_cases b1 : 300 < s.length
  · have d1 : decide ((300 : Int) < (s.length : Int)) = true := decide_eq_true (by omega)
    refine pure_of_wk (call := noCall) (fn := Tryd.f4) (rs := [.tmp 4]) uv5_ok noCall_ok (fns_cfg Tryd.func4 rfl) rfl rfl ?_
    intro env hl0 hargs
    have hn : env.length = 74 := hl0
    have h0 := hargs 0 _ rfl
    have h1 := hargs 1 _ rfl
    clear hargs hl0
    refine wkT_of ?_
    simp -dsimp only [hn, h0, h1, ct_prim uv5_18, awakeP, len_s, d1, Bool.not_true, wt_seq, wt_block, wt_region, wt_cond, wt_skip, wt_ret, wt_exit, wst_nil, wst_cons, wst_guard, andThen_normal, andThen_ret, andThen_exit, leave_normal, leave_ret, leave_exit, EndsA_ret, EndsA_normal, ot_move, ot_assign, ot_pick, ot_binOp, ot_unOp, ot_convert, ot_field, ot_index, ot_indexAddr, ot_fieldAddr, ot_slice, ot_build, ot_buildSlice, ot_extract, ot_makeInterface, ot_makeFunc, ot_nilCheck, ot_call, ot_len, ot_append, ot_box, ot_load, ot_store, ot_makeSlice, ot_alloc, ot_sliceData, ot_unsafeString, ct_bool, ct_true, ct_false, bt_some, gt_some, aval_tmp, aval_int, aval_bool, aval_str, aval_slice, aval_nilPointer, aval_nilIface, aval_func, aval_global, avals, apairs, bareP, AV.bare, AV.bares, bin_lss, bin_leq, bin_gtr, bin_geq, bin_eql, bin_neq, bin_add, bin_sub, bin_mul, bin_and, bin_or, bin_xor, toV_int, toV_bool, toV_string, un_neg, un_not, bin_str_eql, bin_str_neq, bin_str_lss, bin_str_leq, bin_str_gtr, bin_str_geq, aget_aput, length_aput, aput_none, Nat.reduceEqDiff, Nat.reduceLT, Nat.reduceAdd, ↓reduceIte, reduceCtorEq, Bool.not_false, Bool.not_true, Bool.true_or, true_and, Option.bind_some, Option.map_some, List.nil_append, List.cons_append, resA, resA1, resVal, Option.getD_some, Nat.reduceLeDiff, bnd_some, yieldA_eq, yldOf_some, boolOf_bool, boolOf_undef, gt_none, List.getElem?_toArray, List.getElem?_cons_succ, List.getElem?_cons_zero, bq_true, bq_false, decide_true, decide_false, Option.toList_none, Option.toList_some, List.head?_cons, List.head?_nil, nb_cfg, not_false_eq_true, cv_some, pm_some, pm_none, plainA_v, plain_bool, plain_int, plain_str, Bool.false_eq_true, if_false]
    exact ⟨1, rfl⟩
  have d1 : decide ((300 : Int) < (s.length : Int)) = false := decide_eq_false (by omega)
  by_cases b2 : 300 < rest.length
  · have d2 : decide ((300 : Int) < (rest.length : Int)) = true := decide_eq_true (by omega)
    refine pure_of_wk (call := noCall) (fn := Tryd.f4) (rs := [.tmp 4]) uv5_ok noCall_ok (fns_cfg Tryd.func4 rfl) rfl rfl ?_
    intro env hl0 hargs
    have hn : env.length = 74 := hl0
    have h0 := hargs 0 _ rfl
    have h1 := hargs 1 _ rfl
    clear hargs hl0
    refine wkT_of ?_
    simp -dsimp only [hn, h0, h1, ct_prim uv5_18, awakeP, len_s, d1, d2, Bool.not_true, wt_seq, wt_block, wt_region, wt_cond, wt_skip, wt_ret, wt_exit, wst_nil, wst_cons, wst_guard, andThen_normal, andThen_ret, andThen_exit, leave_normal, leave_ret, leave_exit, EndsA_ret, EndsA_normal, ot_move, ot_assign, ot_pick, ot_binOp, ot_unOp, ot_convert, ot_field, ot_index, ot_indexAddr, ot_fieldAddr, ot_slice, ot_build, ot_buildSlice, ot_extract, ot_makeInterface, ot_makeFunc, ot_nilCheck, ot_call, ot_len, ot_append, ot_box, ot_load, ot_store, ot_makeSlice, ot_alloc, ot_sliceData, ot_unsafeString, ct_bool, ct_true, ct_false, bt_some, gt_some, aval_tmp, aval_int, aval_bool, aval_str, aval_slice, aval_nilPointer, aval_nilIface, aval_func, aval_global, avals, apairs, bareP, AV.bare, AV.bares, bin_lss, bin_leq, bin_gtr, bin_geq, bin_eql, bin_neq, bin_add, bin_sub, bin_mul, bin_and, bin_or, bin_xor, toV_int, toV_bool, toV_string, un_neg, un_not, bin_str_eql, bin_str_neq, bin_str_lss, bin_str_leq, bin_str_gtr, bin_str_geq, aget_aput, length_aput, aput_none, Nat.reduceEqDiff, Nat.reduceLT, Nat.reduceAdd, ↓reduceIte, reduceCtorEq, Bool.not_false, Bool.not_true, Bool.true_or, true_and, Option.bind_some, Option.map_some, List.nil_append, List.cons_append, resA, resA1, resVal, Option.getD_some, Nat.reduceLeDiff, bnd_some, yieldA_eq, yldOf_some, boolOf_bool, boolOf_undef, gt_none, List.getElem?_toArray, List.getElem?_cons_succ, List.getElem?_cons_zero, bq_true, bq_false, decide_true, decide_false, Option.toList_none, Option.toList_some, List.head?_cons, List.head?_nil, nb_cfg, not_false_eq_true, cv_some, pm_some, pm_none, plainA_v, plain_bool, plain_int, plain_str, Bool.false_eq_true, if_false]
    exact ⟨1, rfl⟩
  have d2 : decide ((300 : Int) < (rest.length : Int)) = false := decide_eq_false (by omega)
  have qs := validP_eq (l := s) (by omega)
  have qq := s1P_eq (n := 1073741824) (g := quoteV) (l := s) (by omega)
  cases hs : utfB s with
  | false =>
    rw [hs] at qs
    have ev : quoteV s = .tup [str [], .v (.int .i64 2)] := by unfold quoteV; rw [hs]; rfl
    rw [ev] at qq
    refine pure_of_wk (call := noCall) (fn := Tryd.f4) (rs := [.tmp 4]) uv5_ok noCall_ok (fns_cfg Tryd.func4 rfl) rfl rfl ?_
    intro env hl0 hargs
    have hn : env.length = 74 := hl0
    have h0 := hargs 0 _ rfl
    have h1 := hargs 1 _ rfl
    clear hargs hl0
    refine wkT_of ?_
    simp -dsimp only [hn, h0, h1, ct_prim uv5_18, awakeP, len_s, d1, d2, Bool.not_true, Bool.not_false, ct_prim uv5_22, ct_prim uv5_21, bare_s, qs, qq, n20, wt_seq, wt_block, wt_region, wt_cond, wt_skip, wt_ret, wt_exit, wst_nil, wst_cons, wst_guard, andThen_normal, andThen_ret, andThen_exit, leave_normal, leave_ret, leave_exit, EndsA_ret, EndsA_normal, ot_move, ot_assign, ot_pick, ot_binOp, ot_unOp, ot_convert, ot_field, ot_index, ot_indexAddr, ot_fieldAddr, ot_slice, ot_build, ot_buildSlice, ot_extract, ot_makeInterface, ot_makeFunc, ot_nilCheck, ot_call, ot_len, ot_append, ot_box, ot_load, ot_store, ot_makeSlice, ot_alloc, ot_sliceData, ot_unsafeString, ct_bool, ct_true, ct_false, bt_some, gt_some, aval_tmp, aval_int, aval_bool, aval_str, aval_slice, aval_nilPointer, aval_nilIface, aval_func, aval_global, avals, apairs, bareP, AV.bare, AV.bares, bin_lss, bin_leq, bin_gtr, bin_geq, bin_eql, bin_neq, bin_add, bin_sub, bin_mul, bin_and, bin_or, bin_xor, toV_int, toV_bool, toV_string, un_neg, un_not, bin_str_eql, bin_str_neq, bin_str_lss, bin_str_leq, bin_str_gtr, bin_str_geq, aget_aput, length_aput, aput_none, Nat.reduceEqDiff, Nat.reduceLT, Nat.reduceAdd, ↓reduceIte, reduceCtorEq, Bool.not_false, Bool.not_true, Bool.true_or, true_and, Option.bind_some, Option.map_some, List.nil_append, List.cons_append, resA, resA1, resVal, Option.getD_some, Nat.reduceLeDiff, bnd_some, yieldA_eq, yldOf_some, boolOf_bool, boolOf_undef, gt_none, List.getElem?_toArray, List.getElem?_cons_succ, List.getElem?_cons_zero, bq_true, bq_false, decide_true, decide_false, Option.toList_none, Option.toList_some, List.head?_cons, List.head?_nil, nb_cfg, not_false_eq_true, cv_some, pm_some, pm_none, plainA_v, plain_bool, plain_int, plain_str, Bool.false_eq_true, if_false]
    exact ⟨1, rfl⟩
  | true =>
    have ev : quoteV s = .tup [str (quoteL s), .v (.int .i64 0)] := by unfold quoteV; rw [hs]; rfl
    rw [ev] at qq
    rw [hs] at qs
    have hl := quote_len s
    have hb := quote_back s rest hs
    have hg := quote_good s hs
    have hge := quote_ge s
    obtain ⟨q, hq⟩ : ∃ q, quoteL s = q := ⟨_, rfl⟩
    rw [hq] at qq hl hb hg hge
    have qg := validP_eq (l := q) (by omega)
    rw [hg] at qg
    have ad : ∀ {x y : Operand}, binA (cfgP uv5) .add 9 x y (str q) (str rest) = some (str (q ++ rest)) := bin_str_add (by omega)
    have qu := s1P_eq (n := 68719476736) (g := unqV) (l := q ++ rest) (by rw [List.length_append]; omega)
    have eu : unqV (q ++ rest) = .tup [str s, .v (.int .i64 (q.length : Int)), .v (.int .i64 0)] := by unfold unqV; rw [hb]; rfl
    rw [eu] at qu
    clear eu hb ev hs
    refine pure_of_wk (call := noCall) (fn := Tryd.f4) (rs := [.tmp 4]) uv5_ok noCall_ok (fns_cfg Tryd.func4 rfl) rfl rfl ?_
    intro env hl0 hargs
    have hn : env.length = 74 := hl0
    have h0 := hargs 0 _ rfl
    have h1 := hargs 1 _ rfl
    clear hargs hl0
    refine wkT_of ?_
    simp -dsimp only [hn, h0, h1, ct_prim uv5_18, awakeP, len_s, d1, d2, Bool.not_true, Bool.not_false, ct_prim uv5_22, ct_prim uv5_21, ct_prim uv5_19, bare_s, qs, qq, qu, ad, n00, wt_seq, wt_block, wt_region, wt_cond, wt_skip, wt_ret, wt_exit, wst_nil, wst_cons, wst_guard, andThen_normal, andThen_ret, andThen_exit, leave_normal, leave_ret, leave_exit, EndsA_ret, EndsA_normal, ot_move, ot_assign, ot_pick, ot_binOp, ot_unOp, ot_convert, ot_field, ot_index, ot_indexAddr, ot_fieldAddr, ot_slice, ot_build, ot_buildSlice, ot_extract, ot_makeInterface, ot_makeFunc, ot_nilCheck, ot_call, ot_len, ot_append, ot_box, ot_load, ot_store, ot_makeSlice, ot_alloc, ot_sliceData, ot_unsafeString, ct_bool, ct_true, ct_false, bt_some, gt_some, aval_tmp, aval_int, aval_bool, aval_str, aval_slice, aval_nilPointer, aval_nilIface, aval_func, aval_global, avals, apairs, bareP, AV.bare, AV.bares, bin_lss, bin_leq, bin_gtr, bin_geq, bin_eql, bin_neq, bin_add, bin_sub, bin_mul, bin_and, bin_or, bin_xor, toV_int, toV_bool, toV_string, un_neg, un_not, bin_str_eql, bin_str_neq, bin_str_lss, bin_str_leq, bin_str_gtr, bin_str_geq, aget_aput, length_aput, aput_none, Nat.reduceEqDiff, Nat.reduceLT, Nat.reduceAdd, ↓reduceIte, reduceCtorEq, Bool.not_false, Bool.not_true, Bool.true_or, true_and, Option.bind_some, Option.map_some, List.nil_append, List.cons_append, resA, resA1, resVal, Option.getD_some, Nat.reduceLeDiff, bnd_some, yieldA_eq, yldOf_some, boolOf_bool, boolOf_undef, gt_none, List.getElem?_toArray, List.getElem?_cons_succ, List.getElem?_cons_zero, bq_true, bq_false, decide_true, decide_false, Option.toList_none, Option.toList_some, List.head?_cons, List.head?_nil, nb_cfg, not_false_eq_true, cv_some, pm_some, pm_none, plainA_v, plain_bool, plain_int, plain_str, Bool.false_eq_true, if_false]
    refine wt_loop (m := q.length) (fun m e h => ∃ i, i + m = q.length ∧ BkI s rest q m i e h) ?_ ?_
    · clear hn h0 h1
      rintro m e h ⟨i, hi, hn, rfl, h0, h5, h7, h8, h9, h10⟩
      cases m with
      | zero =>
        obtain rfl : i = q.length := by omega
        have d3 : decide (((q.length : Nat) : Int) < (q.length : Int)) = false := decide_eq_false (by omega)
        have e1 : decide (s = s) = true := by simp
        simp -dsimp only [hn, h0, h5, h7, h8, h9, h10, len_s, d3, ct_prim uv5_22, bare_s, qs, qg, wt_seq, wt_block, wt_region, wt_cond, wt_skip, wt_ret, wt_exit, wst_nil, wst_cons, wst_guard, andThen_normal, andThen_ret, andThen_exit, leave_normal, leave_ret, leave_exit, EndsA_ret, EndsA_normal, ot_move, ot_assign, ot_pick, ot_binOp, ot_unOp, ot_convert, ot_field, ot_index, ot_indexAddr, ot_fieldAddr, ot_slice, ot_build, ot_buildSlice, ot_extract, ot_makeInterface, ot_makeFunc, ot_nilCheck, ot_call, ot_len, ot_append, ot_box, ot_load, ot_store, ot_makeSlice, ot_alloc, ot_sliceData, ot_unsafeString, ct_bool, ct_true, ct_false, bt_some, gt_some, aval_tmp, aval_int, aval_bool, aval_str, aval_slice, aval_nilPointer, aval_nilIface, aval_func, aval_global, avals, apairs, bareP, AV.bare, AV.bares, bin_lss, bin_leq, bin_gtr, bin_geq, bin_eql, bin_neq, bin_add, bin_sub, bin_mul, bin_and, bin_or, bin_xor, toV_int, toV_bool, toV_string, un_neg, un_not, bin_str_eql, bin_str_neq, bin_str_lss, bin_str_leq, bin_str_gtr, bin_str_geq, aget_aput, length_aput, aput_none, Nat.reduceEqDiff, Nat.reduceLT, Nat.reduceAdd, ↓reduceIte, reduceCtorEq, Bool.not_false, Bool.not_true, Bool.true_or, true_and, Option.bind_some, Option.map_some, List.nil_append, List.cons_append, resA, resA1, resVal, Option.getD_some, Nat.reduceLeDiff, bnd_some, yieldA_eq, yldOf_some, boolOf_bool, boolOf_undef, gt_none, List.getElem?_toArray, List.getElem?_cons_succ, List.getElem?_cons_zero, bq_true, bq_false, decide_true, decide_false, Option.toList_none, Option.toList_some, List.head?_cons, List.head?_nil, nb_cfg, not_false_eq_true, cv_some, pm_some, pm_none, plainA_v, plain_bool, plain_int, plain_str, Bool.false_eq_true, if_false]
        exact ⟨1, rfl⟩
      | succ m =>
        have d3 : decide ((i : Int) < (q.length : Int)) = true := decide_eq_true (by omega)
        obtain ⟨c, hc⟩ : ∃ c, q[i]? = some c := ⟨q[i]'(by omega), List.getElem?_eq_getElem (by omega)⟩
        have x0 : indexA (cfgP uv5) 9 (str q) (.v (.int .i64 (i : Int))) = some (.v (.int .u8 c.toNat)) := ixl (k := i) rfl hc
        have h32 := hge c (List.mem_of_getElem? hc)
        have d4 : decide ((c.toNat : Int) < 32) = false := decide_eq_false (by omega)
        have w1 : IntKind.i64.wrap ((i : Int) + 1) = ((i + 1 : Nat) : Int) := wr64 (by omega) (by omega)
        simp -dsimp only [hn, h0, h5, h7, h8, h9, h10, len_s, d3, x0, d4, w1, wt_seq, wt_block, wt_region, wt_cond, wt_skip, wt_ret, wt_exit, wst_nil, wst_cons, wst_guard, andThen_normal, andThen_ret, andThen_exit, leave_normal, leave_ret, leave_exit, EndsA_ret, EndsA_normal, ot_move, ot_assign, ot_pick, ot_binOp, ot_unOp, ot_convert, ot_field, ot_index, ot_indexAddr, ot_fieldAddr, ot_slice, ot_build, ot_buildSlice, ot_extract, ot_makeInterface, ot_makeFunc, ot_nilCheck, ot_call, ot_len, ot_append, ot_box, ot_load, ot_store, ot_makeSlice, ot_alloc, ot_sliceData, ot_unsafeString, ct_bool, ct_true, ct_false, bt_some, gt_some, aval_tmp, aval_int, aval_bool, aval_str, aval_slice, aval_nilPointer, aval_nilIface, aval_func, aval_global, avals, apairs, bareP, AV.bare, AV.bares, bin_lss, bin_leq, bin_gtr, bin_geq, bin_eql, bin_neq, bin_add, bin_sub, bin_mul, bin_and, bin_or, bin_xor, toV_int, toV_bool, toV_string, un_neg, un_not, bin_str_eql, bin_str_neq, bin_str_lss, bin_str_leq, bin_str_gtr, bin_str_geq, aget_aput, length_aput, aput_none, Nat.reduceEqDiff, Nat.reduceLT, Nat.reduceAdd, ↓reduceIte, reduceCtorEq, Bool.not_false, Bool.not_true, Bool.true_or, true_and, Option.bind_some, Option.map_some, List.nil_append, List.cons_append, resA, resA1, resVal, Option.getD_some, Nat.reduceLeDiff, bnd_some, yieldA_eq, yldOf_some, boolOf_bool, boolOf_undef, gt_none, List.getElem?_toArray, List.getElem?_cons_succ, List.getElem?_cons_zero, bq_true, bq_false, decide_true, decide_false, Option.toList_none, Option.toList_some, List.head?_cons, List.head?_nil, nb_cfg, not_false_eq_true, cv_some, pm_some, pm_none, plainA_v, plain_bool, plain_int, plain_str, Bool.false_eq_true, if_false]
        refine ⟨m, by omega, i + 1, by omega, ?_, rfl, ?_, ?_, ?_, ?_, ?_, ?_⟩
        all_goals simp -dsimp only [hn, h0, h5, h7, h8, h9, h10, wt_seq, wt_block, wt_region, wt_cond, wt_skip, wt_ret, wt_exit, wst_nil, wst_cons, wst_guard, andThen_normal, andThen_ret, andThen_exit, leave_normal, leave_ret, leave_exit, EndsA_ret, EndsA_normal, ot_move, ot_assign, ot_pick, ot_binOp, ot_unOp, ot_convert, ot_field, ot_index, ot_indexAddr, ot_fieldAddr, ot_slice, ot_build, ot_buildSlice, ot_extract, ot_makeInterface, ot_makeFunc, ot_nilCheck, ot_call, ot_len, ot_append, ot_box, ot_load, ot_store, ot_makeSlice, ot_alloc, ot_sliceData, ot_unsafeString, ct_bool, ct_true, ct_false, bt_some, gt_some, aval_tmp, aval_int, aval_bool, aval_str, aval_slice, aval_nilPointer, aval_nilIface, aval_func, aval_global, avals, apairs, bareP, AV.bare, AV.bares, bin_lss, bin_leq, bin_gtr, bin_geq, bin_eql, bin_neq, bin_add, bin_sub, bin_mul, bin_and, bin_or, bin_xor, toV_int, toV_bool, toV_string, un_neg, un_not, bin_str_eql, bin_str_neq, bin_str_lss, bin_str_leq, bin_str_gtr, bin_str_geq, aget_aput, length_aput, aput_none, Nat.reduceEqDiff, Nat.reduceLT, Nat.reduceAdd, ↓reduceIte, reduceCtorEq, Bool.not_false, Bool.not_true, Bool.true_or, true_and, Option.bind_some, Option.map_some, List.nil_append, List.cons_append, resA, resA1, resVal, Option.getD_some, Nat.reduceLeDiff, bnd_some, yieldA_eq, yldOf_some, boolOf_bool, boolOf_undef, gt_none, List.getElem?_toArray, List.getElem?_cons_succ, List.getElem?_cons_zero, bq_true, bq_false, decide_true, decide_false, Option.toList_none, Option.toList_some, List.head?_cons, List.head?_nil, nb_cfg, not_false_eq_true, cv_some, pm_some, pm_none, plainA_v, plain_bool, plain_int, plain_str, Bool.false_eq_true, if_false]
    · refine ⟨0, by omega, ?_, rfl, ?_, ?_, ?_, ?_, ?_, ?_⟩
      all_goals simp -dsimp only [hn, h0, h1, wt_seq, wt_block, wt_region, wt_cond, wt_skip, wt_ret, wt_exit, wst_nil, wst_cons, wst_guard, andThen_normal, andThen_ret, andThen_exit, leave_normal, leave_ret, leave_exit, EndsA_ret, EndsA_normal, ot_move, ot_assign, ot_pick, ot_binOp, ot_unOp, ot_convert, ot_field, ot_index, ot_indexAddr, ot_fieldAddr, ot_slice, ot_build, ot_buildSlice, ot_extract, ot_makeInterface, ot_makeFunc, ot_nilCheck, ot_call, ot_len, ot_append, ot_box, ot_load, ot_store, ot_makeSlice, ot_alloc, ot_sliceData, ot_unsafeString, ct_bool, ct_true, ct_false, bt_some, gt_some, aval_tmp, aval_int, aval_bool, aval_str, aval_slice, aval_nilPointer, aval_nilIface, aval_func, aval_global, avals, apairs, bareP, AV.bare, AV.bares, bin_lss, bin_leq, bin_gtr, bin_geq, bin_eql, bin_neq, bin_add, bin_sub, bin_mul, bin_and, bin_or, bin_xor, toV_int, toV_bool, toV_string, un_neg, un_not, bin_str_eql, bin_str_neq, bin_str_lss, bin_str_leq, bin_str_gtr, bin_str_geq, aget_aput, length_aput, aput_none, Nat.reduceEqDiff, Nat.reduceLT, Nat.reduceAdd, ↓reduceIte, reduceCtorEq, Bool.not_false, Bool.not_true, Bool.true_or, true_and, Option.bind_some, Option.map_some, List.nil_append, List.cons_append, resA, resA1, resVal, Option.getD_some, Nat.reduceLeDiff, bnd_some, yieldA_eq, yldOf_some, boolOf_bool, boolOf_undef, gt_none, List.getElem?_toArray, List.getElem?_cons_succ, List.getElem?_cons_zero, bq_true, bq_false, decide_true, decide_false, Option.toList_none, Option.toList_some, List.head?_cons, List.head?_nil, nb_cfg, not_false_eq_true, cv_some, pm_some, pm_none, plainA_v, plain_bool, plain_int, plain_str, Bool.false_eq_true, if_false]
      all_goals rfl
end Go.Proofs.YtjejeijldllloaaDoor
