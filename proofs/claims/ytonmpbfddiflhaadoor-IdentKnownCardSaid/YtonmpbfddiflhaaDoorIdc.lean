/- Contracts of functions, and plain facts about what they compute. -/
import Derived.Test.YtonmpbfddiflhaaDoorIdb
import Derived.Test.YtonmpbfddiflhaaDoorUs
set_option linter.unusedSimpArgs false
set_option linter.unusedVariables false
/- Names of events. -/
namespace Go.Proofs.YtonmpbfddiflhaaDoor
open Go.AM
theorem bin_bool_eql {prim : FuncId → Option (List AV → Option AV)} {x y : Operand} {a b : Bool} : binA (cfgP prim) .eql 4 x y (.v (.bool a)) (.v (.bool b)) = some (.v (.bool (a == b))) := by
  cases a <;> cases b <;> kernel_rfl
def eventB (l : List UInt8) : Bool := match l with
  | [] => false
  | c :: t => decide (c = 36) && match get64 45 95 t with
    | some z => decide (z.length = 32)
    | none => false
theorem eventB_cons (c : UInt8) (t : List UInt8) : eventB (c :: t) = (decide (c = 36) && match get64 45 95 t with
    | some z => decide (z.length = 32)
    | none => false) := rfl
theorem lenB {prim : FuncId → Option (List AV → Option AV)} {l : List UInt8} : lenA (cfgP prim) #[22] [bsl l] = some (.v (.int .i64 l.length)) := by
  have := len22 (prim := prim) (elems_bsl l)
  rw [this]
  simp [byts]
def ev0 : FuncId → Option (List AV → Option AV) := tab [(41, cutPreP), (15, (getW 45 95))]
theorem ev0_ok : (cfgP ev0).Ok := cfgOf_ok mixed fok (tab_ok ⟨prim_at Tryd.func41 (by kernel_rfl) rfl (cutPreP_of sCutPrefix), prim_at Tryd.func15 (by kernel_rfl) rfl ((fun _ _ h => getW_ok GetURL_ok h)), trivial⟩)
theorem ev0_41 : (cfgP ev0).prim 41 = some cutPreP := rfl
theorem ev0_15 : (cfgP ev0).prim 15 = some (getW 45 95) := rfl
theorem i32 (n : Nat) : decide (((n : Nat) : Int) = 32) = decide (n = 32) := by rw [decide_eq_decide]; omega
theorem event_ok (l : List UInt8) (hl : l.length < 2 ^ 40) : PureOk (cfgP ev0) 23 [str l] (.v (.bool (eventB l))) := by
  have hl62 : l.length < 2 ^ 63 := by omega
  have e3 : cutPreP [str l, str [36]] = some (cutPreV l [36]) := cutPreP_eq hl62
  cases hp : ([36] : List UInt8).isPrefixOf l with
  | false =>
    have hE : eventB l = false := by
      cases l with
      | nil => rfl
      | cons c t =>
        have : c ≠ 36 := by
          rintro rfl
          simp [List.isPrefixOf] at hp
        rw [eventB_cons, decide_eq_false this]
        rfl
    have e4 : cutPreV l [36] = .tup [str l, .v (.bool false)] := by unfold cutPreV; rw [hp]; rfl
    rw [hE]
    refine pure_of_wk (call := noCall) (fn := Tryd.f23) (rs := [.tmp 2]) ev0_ok noCall_ok (fns_cfg Tryd.func23 rfl) rfl rfl ?_
    intro env hl0 hargs
    have hn : env.length = 27 := hl0
    have h0 := hargs 0 _ rfl
    clear hargs hl0
    refine wkT_of ?_
    simp -dsimp only [hn, h0, List.toList_toArray, ct_prim ev0_41, ct_prim ev0_15, bare_s, e3, e4, getW_eq (p := 45) (s := 95) hl, getR_eq, wt_seq, wt_block, wt_region, wt_cond, wt_skip, wt_ret, wt_exit, wst_nil, wst_app_nil, wst_app_cons, wst_cons, wst_guard, andThen_normal, andThen_ret, andThen_exit, leave_normal, leave_ret, leave_exit, EndsA_ret, EndsA_normal, ot_move, ot_assign, ot_pick, ot_binOp, ot_unOp, ot_convert, ot_field, ot_index, ot_indexAddr, ot_fieldAddr, ot_slice, ot_build, ot_buildSlice, ot_extract, ot_makeInterface, ot_makeFunc, ot_nilCheck, ot_call, ot_len, ot_append, ot_box, ot_load, ot_store, ot_makeSlice, ct_bool, ct_true, ct_false, bt_some, gt_some, aval_tmp, aval_int, aval_bool, aval_str, aval_slice, aval_nilPointer, aval_nilIface, aval_func, aval_global, avals, apairs, bareP, AV.bare, AV.bares, bin_lss, bin_leq, bin_gtr, bin_geq, bin_eql, bin_neq, bin_add, bin_sub, bin_mul, bin_and, bin_or, bin_xor, toV_int, toV_bool, toV_string, un_neg, un_not, bin_str_eql, bin_str_neq, bin_str_lss, bin_str_leq, bin_str_gtr, bin_str_geq, aget_aput, length_aput, aput_none, Nat.reduceEqDiff, Nat.reduceLT, Nat.reduceAdd, reduceIte, reduceCtorEq, Bool.not_false, Bool.not_true, Bool.true_or, true_and, Option.bind_some, Option.map_some, List.nil_append, List.cons_append, resA, resA1, resVal, Option.getD_some, Nat.reduceLeDiff, bnd_some, yieldA_eq, yldOf_some, boolOf_bool, boolOf_undef, gt_none, List.getElem?_toArray, List.getElem?_cons_succ, List.getElem?_cons_zero, bq_true, bq_false, decide_true, decide_false, Option.toList_none, Option.toList_some, List.head?_cons, List.head?_nil, nb_cfg, not_false_eq_true, cv_some, pm_some, pm_none, plainA_v, plain_bool, plain_int, plain_str, Bool.false_eq_true, if_false]
    exact ⟨1, rfl⟩
  | true =>
    obtain ⟨t, rfl⟩ : ∃ t, l = 36 :: t := by
      rw [List.isPrefixOf_iff_prefix] at hp
      obtain ⟨t, rfl⟩ := hp
      exact ⟨t, rfl⟩
    have e4 : cutPreV (36 :: t) [36] = .tup [str t, .v (.bool true)] := by unfold cutPreV; rw [hp]; rfl
    have ht : t.length < 2 ^ 40 := by simp only [List.length_cons] at hl; omega
    cases hg : get64 45 95 t with
    | none =>
      have hE : eventB (36 :: t) = false := by rw [eventB_cons, hg]; rfl
      rw [hE]
      refine pure_of_wk (call := noCall) (fn := Tryd.f23) (rs := [.tmp 2]) ev0_ok noCall_ok (fns_cfg Tryd.func23 rfl) rfl rfl ?_
      intro env hl0 hargs
      have hn : env.length = 27 := hl0
      have h0 := hargs 0 _ rfl
      clear hargs hl0
      refine wkT_of ?_
      simp -dsimp only [hn, h0, List.toList_toArray, ct_prim ev0_41, ct_prim ev0_15, bare_s, e3, e4, getW_eq (p := 45) (s := 95) ht, hg, getR, show decide ((2 : Int) = 0) = false from rfl, wt_seq, wt_block, wt_region, wt_cond, wt_skip, wt_ret, wt_exit, wst_nil, wst_app_nil, wst_app_cons, wst_cons, wst_guard, andThen_normal, andThen_ret, andThen_exit, leave_normal, leave_ret, leave_exit, EndsA_ret, EndsA_normal, ot_move, ot_assign, ot_pick, ot_binOp, ot_unOp, ot_convert, ot_field, ot_index, ot_indexAddr, ot_fieldAddr, ot_slice, ot_build, ot_buildSlice, ot_extract, ot_makeInterface, ot_makeFunc, ot_nilCheck, ot_call, ot_len, ot_append, ot_box, ot_load, ot_store, ot_makeSlice, ct_bool, ct_true, ct_false, bt_some, gt_some, aval_tmp, aval_int, aval_bool, aval_str, aval_slice, aval_nilPointer, aval_nilIface, aval_func, aval_global, avals, apairs, bareP, AV.bare, AV.bares, bin_lss, bin_leq, bin_gtr, bin_geq, bin_eql, bin_neq, bin_add, bin_sub, bin_mul, bin_and, bin_or, bin_xor, toV_int, toV_bool, toV_string, un_neg, un_not, bin_str_eql, bin_str_neq, bin_str_lss, bin_str_leq, bin_str_gtr, bin_str_geq, aget_aput, length_aput, aput_none, Nat.reduceEqDiff, Nat.reduceLT, Nat.reduceAdd, reduceIte, reduceCtorEq, Bool.not_false, Bool.not_true, Bool.true_or, true_and, Option.bind_some, Option.map_some, List.nil_append, List.cons_append, resA, resA1, resVal, Option.getD_some, Nat.reduceLeDiff, bnd_some, yieldA_eq, yldOf_some, boolOf_bool, boolOf_undef, gt_none, List.getElem?_toArray, List.getElem?_cons_succ, List.getElem?_cons_zero, bq_true, bq_false, decide_true, decide_false, Option.toList_none, Option.toList_some, List.head?_cons, List.head?_nil, nb_cfg, not_false_eq_true, cv_some, pm_some, pm_none, plainA_v, plain_bool, plain_int, plain_str, Bool.false_eq_true, if_false]
      exact ⟨1, rfl⟩
    | some z =>
      have hE : eventB (36 :: t) = decide (z.length = 32) := by rw [eventB_cons, hg]; simp
      rw [hE]
      refine pure_of_wk (call := noCall) (fn := Tryd.f23) (rs := [.tmp 2]) ev0_ok noCall_ok (fns_cfg Tryd.func23 rfl) rfl rfl ?_
      intro env hl0 hargs
      have hn : env.length = 27 := hl0
      have h0 := hargs 0 _ rfl
      clear hargs hl0
      refine wkT_of ?_
      simp -dsimp only [hn, h0, List.toList_toArray, ct_prim ev0_41, ct_prim ev0_15, bare_s, e3, e4, getW_eq (p := 45) (s := 95) ht, hg, getR, show decide ((0 : Int) = 0) = true from rfl, lenB, i32, wt_seq, wt_block, wt_region, wt_cond, wt_skip, wt_ret, wt_exit, wst_nil, wst_app_nil, wst_app_cons, wst_cons, wst_guard, andThen_normal, andThen_ret, andThen_exit, leave_normal, leave_ret, leave_exit, EndsA_ret, EndsA_normal, ot_move, ot_assign, ot_pick, ot_binOp, ot_unOp, ot_convert, ot_field, ot_index, ot_indexAddr, ot_fieldAddr, ot_slice, ot_build, ot_buildSlice, ot_extract, ot_makeInterface, ot_makeFunc, ot_nilCheck, ot_call, ot_len, ot_append, ot_box, ot_load, ot_store, ot_makeSlice, ct_bool, ct_true, ct_false, bt_some, gt_some, aval_tmp, aval_int, aval_bool, aval_str, aval_slice, aval_nilPointer, aval_nilIface, aval_func, aval_global, avals, apairs, bareP, AV.bare, AV.bares, bin_lss, bin_leq, bin_gtr, bin_geq, bin_eql, bin_neq, bin_add, bin_sub, bin_mul, bin_and, bin_or, bin_xor, toV_int, toV_bool, toV_string, un_neg, un_not, bin_str_eql, bin_str_neq, bin_str_lss, bin_str_leq, bin_str_gtr, bin_str_geq, aget_aput, length_aput, aput_none, Nat.reduceEqDiff, Nat.reduceLT, Nat.reduceAdd, reduceIte, reduceCtorEq, Bool.not_false, Bool.not_true, Bool.true_or, true_and, Option.bind_some, Option.map_some, List.nil_append, List.cons_append, resA, resA1, resVal, Option.getD_some, Nat.reduceLeDiff, bnd_some, yieldA_eq, yldOf_some, boolOf_bool, boolOf_undef, gt_none, List.getElem?_toArray, List.getElem?_cons_succ, List.getElem?_cons_zero, bq_true, bq_false, decide_true, decide_false, Option.toList_none, Option.toList_some, List.head?_cons, List.head?_nil, nb_cfg, not_false_eq_true, cv_some, pm_some, pm_none, plainA_v, plain_bool, plain_int, plain_str, Bool.false_eq_true, if_false]
      exact ⟨1, rfl⟩
def ev1 : FuncId → Option (List AV → Option AV) := tab [(16, getY)]
theorem ev1_ok : (cfgP ev1).Ok := cfgOf_ok mixed fok (tab_ok ⟨prim_at Tryd.func16 (by kernel_rfl) rfl ((fun _ _ h => getY_ok h)), trivial⟩)
theorem ev1_16 : (cfgP ev1).prim 16 = some getY := rfl
theorem lenR {prim : FuncId → Option (List AV → Option AV)} {l : List UInt8} : lenA (cfgP prim) #[22] [.ro (byts l)] = some (.v (.int .i64 l.length)) := by
  have := len22 (prim := prim) (x := .ro (byts l)) (xs := byts l) rfl
  rw [this]
  simp [byts]
theorem refEvent_ok (l : List UInt8) (hl : l.length < 2 ^ 36) : PureOk (cfgP ev1) 27 [str l] (.v (.bool (eventB l))) := by
  by_cases h44 : l.length = 44
  · have hd : decide (((l.length : Nat) : Int) = 44) = true := decide_eq_true (by omega)
    cases l with
    | nil => simp at h44
    | cons c t =>
      have ht : t.length < 2 ^ 36 := by simp only [List.length_cons] at hl; omega
      have hsl : sliceA (cfgP ev1) 9 (str (c :: t)) (some (.v (.int .i64 1))) none none = some (str t) := sliceD (i := 1) (l := c :: t) (by simp)
      by_cases hc : c = 36
      · have hdc : decide (((c.toNat : Nat) : Int) = 36) = true := by
          have := byte_eq c 36
          rw [show (((36 : UInt8).toNat : Nat) : Int) = 36 from rfl] at this
          rw [this]; exact decide_eq_true hc
        cases hg : get64 45 95 t with
        | none =>
          have hE : eventB (c :: t) = false := by rw [eventB_cons, hg]; simp
          rw [hE]
          refine pure_of_wk (call := noCall) (fn := Tryd.f27) (rs := [.tmp 2]) ev1_ok noCall_ok (fns_cfg Tryd.func27 rfl) rfl rfl ?_
          intro env hl0 hargs
          have hn : env.length = 26 := hl0
          have h0 := hargs 0 _ rfl
          clear hargs hl0
          refine wkT_of ?_
          simp -dsimp only [hn, h0, len_s, hd, index_s0, hdc, hsl, ct_prim ev1_16, bare_s, getY_eq (u := true) ht, show pU true = 45 from rfl, show sU true = 95 from rfl, hg, getX, show decide ((2 : Int) = 0) = false from rfl, wt_seq, wt_block, wt_region, wt_cond, wt_skip, wt_ret, wt_exit, wst_nil, wst_app_nil, wst_app_cons, wst_cons, wst_guard, andThen_normal, andThen_ret, andThen_exit, leave_normal, leave_ret, leave_exit, EndsA_ret, EndsA_normal, ot_move, ot_assign, ot_pick, ot_binOp, ot_unOp, ot_convert, ot_field, ot_index, ot_indexAddr, ot_fieldAddr, ot_slice, ot_build, ot_buildSlice, ot_extract, ot_makeInterface, ot_makeFunc, ot_nilCheck, ot_call, ot_len, ot_append, ot_box, ot_load, ot_store, ot_makeSlice, ct_bool, ct_true, ct_false, bt_some, gt_some, aval_tmp, aval_int, aval_bool, aval_str, aval_slice, aval_nilPointer, aval_nilIface, aval_func, aval_global, avals, apairs, bareP, AV.bare, AV.bares, bin_lss, bin_leq, bin_gtr, bin_geq, bin_eql, bin_neq, bin_add, bin_sub, bin_mul, bin_and, bin_or, bin_xor, toV_int, toV_bool, toV_string, un_neg, un_not, bin_str_eql, bin_str_neq, bin_str_lss, bin_str_leq, bin_str_gtr, bin_str_geq, aget_aput, length_aput, aput_none, Nat.reduceEqDiff, Nat.reduceLT, Nat.reduceAdd, reduceIte, reduceCtorEq, Bool.not_false, Bool.not_true, Bool.true_or, true_and, Option.bind_some, Option.map_some, List.nil_append, List.cons_append, resA, resA1, resVal, Option.getD_some, Nat.reduceLeDiff, bnd_some, yieldA_eq, yldOf_some, boolOf_bool, boolOf_undef, gt_none, List.getElem?_toArray, List.getElem?_cons_succ, List.getElem?_cons_zero, bq_true, bq_false, decide_true, decide_false, Option.toList_none, Option.toList_some, List.head?_cons, List.head?_nil, nb_cfg, not_false_eq_true, cv_some, pm_some, pm_none, plainA_v, plain_bool, plain_int, plain_str, Bool.false_eq_true, if_false]
          exact ⟨1, rfl⟩
        | some z =>
          have hE : eventB (c :: t) = decide (z.length = 32) := by rw [eventB_cons, hg, decide_eq_true hc]; simp
          rw [hE]
          refine pure_of_wk (call := noCall) (fn := Tryd.f27) (rs := [.tmp 2]) ev1_ok noCall_ok (fns_cfg Tryd.func27 rfl) rfl rfl ?_
          intro env hl0 hargs
          have hn : env.length = 26 := hl0
          have h0 := hargs 0 _ rfl
          clear hargs hl0
          refine wkT_of ?_
          simp -dsimp only [hn, h0, len_s, hd, index_s0, hdc, hsl, ct_prim ev1_16, bare_s, getY_eq (u := true) ht, show pU true = 45 from rfl, show sU true = 95 from rfl, hg, getX, show decide ((0 : Int) = 0) = true from rfl, lenR, i32, wt_seq, wt_block, wt_region, wt_cond, wt_skip, wt_ret, wt_exit, wst_nil, wst_app_nil, wst_app_cons, wst_cons, wst_guard, andThen_normal, andThen_ret, andThen_exit, leave_normal, leave_ret, leave_exit, EndsA_ret, EndsA_normal, ot_move, ot_assign, ot_pick, ot_binOp, ot_unOp, ot_convert, ot_field, ot_index, ot_indexAddr, ot_fieldAddr, ot_slice, ot_build, ot_buildSlice, ot_extract, ot_makeInterface, ot_makeFunc, ot_nilCheck, ot_call, ot_len, ot_append, ot_box, ot_load, ot_store, ot_makeSlice, ct_bool, ct_true, ct_false, bt_some, gt_some, aval_tmp, aval_int, aval_bool, aval_str, aval_slice, aval_nilPointer, aval_nilIface, aval_func, aval_global, avals, apairs, bareP, AV.bare, AV.bares, bin_lss, bin_leq, bin_gtr, bin_geq, bin_eql, bin_neq, bin_add, bin_sub, bin_mul, bin_and, bin_or, bin_xor, toV_int, toV_bool, toV_string, un_neg, un_not, bin_str_eql, bin_str_neq, bin_str_lss, bin_str_leq, bin_str_gtr, bin_str_geq, aget_aput, length_aput, aput_none, Nat.reduceEqDiff, Nat.reduceLT, Nat.reduceAdd, reduceIte, reduceCtorEq, Bool.not_false, Bool.not_true, Bool.true_or, true_and, Option.bind_some, Option.map_some, List.nil_append, List.cons_append, resA, resA1, resVal, Option.getD_some, Nat.reduceLeDiff, bnd_some, yieldA_eq, yldOf_some, boolOf_bool, boolOf_undef, gt_none, List.getElem?_toArray, List.getElem?_cons_succ, List.getElem?_cons_zero, bq_true, bq_false, decide_true, decide_false, Option.toList_none, Option.toList_some, List.head?_cons, List.head?_nil, nb_cfg, not_false_eq_true, cv_some, pm_some, pm_none, plainA_v, plain_bool, plain_int, plain_str, Bool.false_eq_true, if_false]
          exact ⟨1, rfl⟩
      · have hdc : decide (((c.toNat : Nat) : Int) = 36) = false := by
          have := byte_eq c 36
          rw [show (((36 : UInt8).toNat : Nat) : Int) = 36 from rfl] at this
          rw [this]; exact decide_eq_false hc
        have hE : eventB (c :: t) = false := by rw [eventB_cons, decide_eq_false hc]; rfl
        rw [hE]
        refine pure_of_wk (call := noCall) (fn := Tryd.f27) (rs := [.tmp 2]) ev1_ok noCall_ok (fns_cfg Tryd.func27 rfl) rfl rfl ?_
        intro env hl0 hargs
        have hn : env.length = 26 := hl0
        have h0 := hargs 0 _ rfl
        clear hargs hl0
        refine wkT_of ?_
        simp -dsimp only [hn, h0, len_s, hd, index_s0, hdc, wt_seq, wt_block, wt_region, wt_cond, wt_skip, wt_ret, wt_exit, wst_nil, wst_app_nil, wst_app_cons, wst_cons, wst_guard, andThen_normal, andThen_ret, andThen_exit, leave_normal, leave_ret, leave_exit, EndsA_ret, EndsA_normal, ot_move, ot_assign, ot_pick, ot_binOp, ot_unOp, ot_convert, ot_field, ot_index, ot_indexAddr, ot_fieldAddr, ot_slice, ot_build, ot_buildSlice, ot_extract, ot_makeInterface, ot_makeFunc, ot_nilCheck, ot_call, ot_len, ot_append, ot_box, ot_load, ot_store, ot_makeSlice, ct_bool, ct_true, ct_false, bt_some, gt_some, aval_tmp, aval_int, aval_bool, aval_str, aval_slice, aval_nilPointer, aval_nilIface, aval_func, aval_global, avals, apairs, bareP, AV.bare, AV.bares, bin_lss, bin_leq, bin_gtr, bin_geq, bin_eql, bin_neq, bin_add, bin_sub, bin_mul, bin_and, bin_or, bin_xor, toV_int, toV_bool, toV_string, un_neg, un_not, bin_str_eql, bin_str_neq, bin_str_lss, bin_str_leq, bin_str_gtr, bin_str_geq, aget_aput, length_aput, aput_none, Nat.reduceEqDiff, Nat.reduceLT, Nat.reduceAdd, reduceIte, reduceCtorEq, Bool.not_false, Bool.not_true, Bool.true_or, true_and, Option.bind_some, Option.map_some, List.nil_append, List.cons_append, resA, resA1, resVal, Option.getD_some, Nat.reduceLeDiff, bnd_some, yieldA_eq, yldOf_some, boolOf_bool, boolOf_undef, gt_none, List.getElem?_toArray, List.getElem?_cons_succ, List.getElem?_cons_zero, bq_true, bq_false, decide_true, decide_false, Option.toList_none, Option.toList_some, List.head?_cons, List.head?_nil, nb_cfg, not_false_eq_true, cv_some, pm_some, pm_none, plainA_v, plain_bool, plain_int, plain_str, Bool.false_eq_true, if_false]
        exact ⟨1, rfl⟩
  · have hd : decide (((l.length : Nat) : Int) = 44) = false := decide_eq_false (by omega)
    have hE : eventB l = false := by
      cases l with
      | nil => rfl
      | cons c t =>
        rw [eventB_cons]
        cases hg : get64 45 95 t with
        | none => simp
        | some z =>
          by_cases hz : z.length = 32
          · exfalso
            have := put_get alph_url hg
            have hlen := put64_length 45 95 z
            rw [this, hz] at hlen
            simp at h44
            omega
          · simp [hz]
    rw [hE]
    refine pure_of_wk (call := noCall) (fn := Tryd.f27) (rs := [.tmp 2]) ev1_ok noCall_ok (fns_cfg Tryd.func27 rfl) rfl rfl ?_
    intro env hl0 hargs
    have hn : env.length = 26 := hl0
    have h0 := hargs 0 _ rfl
    clear hargs hl0
    refine wkT_of ?_
    simp -dsimp only [hn, h0, len_s, hd, wt_seq, wt_block, wt_region, wt_cond, wt_skip, wt_ret, wt_exit, wst_nil, wst_app_nil, wst_app_cons, wst_cons, wst_guard, andThen_normal, andThen_ret, andThen_exit, leave_normal, leave_ret, leave_exit, EndsA_ret, EndsA_normal, ot_move, ot_assign, ot_pick, ot_binOp, ot_unOp, ot_convert, ot_field, ot_index, ot_indexAddr, ot_fieldAddr, ot_slice, ot_build, ot_buildSlice, ot_extract, ot_makeInterface, ot_makeFunc, ot_nilCheck, ot_call, ot_len, ot_append, ot_box, ot_load, ot_store, ot_makeSlice, ct_bool, ct_true, ct_false, bt_some, gt_some, aval_tmp, aval_int, aval_bool, aval_str, aval_slice, aval_nilPointer, aval_nilIface, aval_func, aval_global, avals, apairs, bareP, AV.bare, AV.bares, bin_lss, bin_leq, bin_gtr, bin_geq, bin_eql, bin_neq, bin_add, bin_sub, bin_mul, bin_and, bin_or, bin_xor, toV_int, toV_bool, toV_string, un_neg, un_not, bin_str_eql, bin_str_neq, bin_str_lss, bin_str_leq, bin_str_gtr, bin_str_geq, aget_aput, length_aput, aput_none, Nat.reduceEqDiff, Nat.reduceLT, Nat.reduceAdd, reduceIte, reduceCtorEq, Bool.not_false, Bool.not_true, Bool.true_or, true_and, Option.bind_some, Option.map_some, List.nil_append, List.cons_append, resA, resA1, resVal, Option.getD_some, Nat.reduceLeDiff, bnd_some, yieldA_eq, yldOf_some, boolOf_bool, boolOf_undef, gt_none, List.getElem?_toArray, List.getElem?_cons_succ, List.getElem?_cons_zero, bq_true, bq_false, decide_true, decide_false, Option.toList_none, Option.toList_some, List.head?_cons, List.head?_nil, nb_cfg, not_false_eq_true, cv_some, pm_some, pm_none, plainA_v, plain_bool, plain_int, plain_str, Bool.false_eq_true, if_false]
    exact ⟨1, rfl⟩
/-- Bounds of some size. -/
def boolQ (n : Nat) (q : List UInt8 → Bool) : List AV → Option AV
  | [x] => match dS x with
    | some l => if l.length < n then some (.v (.bool (q l))) else none
    | none => none
  | _ => none
theorem boolQ_eq {n : Nat} {q : List UInt8 → Bool} {l : List UInt8} (h : l.length < n) : boolQ n q [str l] = some (.v (.bool (q l))) := by simp only [boolQ, dS_str, h, if_true]
theorem boolQ_of {n : Nat} {q : List UInt8 → Bool} {X : List AV → AV → Prop} (h : ∀ l : List UInt8, l.length < n → X [str l] (.v (.bool (q l)))) : ∀ xs r, boolQ n q xs = some r → X xs r := by
  intro xs r hx
  unfold boolQ at hx
  split at hx
  · split at hx
    · rename_i l h1
      rw [dS_iff] at h1
      subst h1
      split at hx
      · rename_i hl
        injection hx with hx; subst hx
        exact h l hl
      · cases hx
    · cases hx
  · cases hx
def serverOfV (l : List UInt8) : AV := str (serverOf l)
def id7 : FuncId → Option (List AV → Option AV) := tab [(19, (avP userV)), (21, (boolP serverB)), (22, (avP serverOfV))]
theorem id7_ok : (cfgP id7).Ok := cfgOf_ok mixed fok (tab_ok ⟨prim_at Tryd.func19 (by kernel_rfl) rfl (avP_of user_ok), prim_at Tryd.func21 (by kernel_rfl) rfl (boolP_of server_ok), prim_at Tryd.func22 (by kernel_rfl) rfl (avP_of serverOf_ok), trivial⟩)
theorem id7_19 : (cfgP id7).prim 19 = some (avP userV) := rfl
theorem id7_21 : (cfgP id7).prim 21 = some (boolP serverB) := rfl
theorem id7_22 : (cfgP id7).prim 22 = some (avP serverOfV) := rfl
theorem iawake_run : (callA (cfgP id7) 200 18 [] {}).map (·.1) = some (.v (.bool true)) := by kernel_rfl
theorem iawake_ok : ∀ xs r, awakeP xs = some r → PureOk (cfgP id7) 18 xs r := by
  intro xs r h
  unfold awakeP at h
  split at h
  · injection h with h; subst h
    obtain ⟨⟨x, H⟩, hr, hx⟩ := Option.map_eq_some_iff.1 iawake_run
    cases hx
    exact pureOk_of (n := 1) (((callA_ok id7_ok 200).ok _ _ _ _ _ hr).2) rfl
  · cases h
def id8 : FuncId → Option (List AV → Option AV) := tab [(18, awakeP), (19, (avP userV)), (20, (avP roomV)), (21, (boolP serverB)), (22, (avP serverOfV)), (23, (boolQ 1099511627776 eventB)), (28, (boolP keyIDB)), (24, (avP userV)), (25, (avP roomV)), (26, (boolP serverB)), (27, (boolQ 68719476736 eventB)), (29, (boolP keyIDB)), (30, (avP serverOfV))]
theorem id8_ok : (cfgP id8).Ok := cfgOf_ok mixed fok (tab_ok ⟨prim_at Tryd.func18 (by kernel_rfl) rfl (iawake_ok), prim_at Tryd.func19 (by kernel_rfl) rfl (avP_of user_ok), prim_at Tryd.func20 (by kernel_rfl) rfl (avP_of room_ok), prim_at Tryd.func21 (by kernel_rfl) rfl (boolP_of server_ok), prim_at Tryd.func22 (by kernel_rfl) rfl (avP_of serverOf_ok), prim_at Tryd.func23 (by kernel_rfl) rfl (boolQ_of event_ok), prim_at Tryd.func28 (by kernel_rfl) rfl (boolP_of keyID_ok), prim_at Tryd.func24 (by kernel_rfl) rfl (avP_of refUser_ok), prim_at Tryd.func25 (by kernel_rfl) rfl (avP_of refRoom_ok), prim_at Tryd.func26 (by kernel_rfl) rfl (boolP_of refServer_ok), prim_at Tryd.func27 (by kernel_rfl) rfl (boolQ_of refEvent_ok), prim_at Tryd.func29 (by kernel_rfl) rfl (boolP_of refKeyID_ok), prim_at Tryd.func30 (by kernel_rfl) rfl (avP_of refServerOf_ok), trivial⟩)
theorem id8_18 : (cfgP id8).prim 18 = some awakeP := rfl
theorem id8_19 : (cfgP id8).prim 19 = some (avP userV) := rfl
theorem id8_20 : (cfgP id8).prim 20 = some (avP roomV) := rfl
theorem id8_21 : (cfgP id8).prim 21 = some (boolP serverB) := rfl
theorem id8_22 : (cfgP id8).prim 22 = some (avP serverOfV) := rfl
theorem id8_23 : (cfgP id8).prim 23 = some (boolQ 1099511627776 eventB) := rfl
theorem id8_28 : (cfgP id8).prim 28 = some (boolP keyIDB) := rfl
theorem id8_24 : (cfgP id8).prim 24 = some (avP userV) := rfl
theorem id8_25 : (cfgP id8).prim 25 = some (avP roomV) := rfl
theorem id8_26 : (cfgP id8).prim 26 = some (boolP serverB) := rfl
theorem id8_27 : (cfgP id8).prim 27 = some (boolQ 68719476736 eventB) := rfl
theorem id8_29 : (cfgP id8).prim 29 = some (boolP keyIDB) := rfl
theorem id8_30 : (cfgP id8).prim 30 = some (avP serverOfV) := rfl
set_option maxRecDepth 100000 in
set_option maxHeartbeats 4000000 in
theorem identSays_core (l : List UInt8) : PureOk (cfgP id8) 8 [str l] (.v (.bool true)) := by
  have hbb : ∀ b : Bool, (b == b) = true := fun b => by cases b <;> rfl
  refine pure_of_wk (call := noCall) (fn := Tryd.f8) (rs := [.tmp 2]) id8_ok noCall_ok (fns_cfg Tryd.func8 rfl) rfl rfl ?_
  intro env hl0 hargs
  have hn : env.length = 100 := hl0
  have h0 := hargs 0 _ rfl
  clear hargs hl0
  refine wkT_of ?_
  simp -dsimp only [hn, h0, ct_prim id8_18, awakeP, len_s, wt_seq, wt_block, wt_region, wt_cond, wt_skip, wt_ret, wt_exit, wst_nil, wst_app_nil, wst_app_cons, wst_cons, wst_guard, andThen_normal, andThen_ret, andThen_exit, leave_normal, leave_ret, leave_exit, EndsA_ret, EndsA_normal, ot_move, ot_assign, ot_pick, ot_binOp, ot_unOp, ot_convert, ot_field, ot_index, ot_indexAddr, ot_fieldAddr, ot_slice, ot_build, ot_buildSlice, ot_extract, ot_makeInterface, ot_makeFunc, ot_nilCheck, ot_call, ot_len, ot_append, ot_box, ot_load, ot_store, ot_makeSlice, ct_bool, ct_true, ct_false, bt_some, gt_some, aval_tmp, aval_int, aval_bool, aval_str, aval_slice, aval_nilPointer, aval_nilIface, aval_func, aval_global, avals, apairs, bareP, AV.bare, AV.bares, bin_lss, bin_leq, bin_gtr, bin_geq, bin_eql, bin_neq, bin_add, bin_sub, bin_mul, bin_and, bin_or, bin_xor, toV_int, toV_bool, toV_string, un_neg, un_not, bin_str_eql, bin_str_neq, bin_str_lss, bin_str_leq, bin_str_gtr, bin_str_geq, aget_aput, length_aput, aput_none, Nat.reduceEqDiff, Nat.reduceLT, Nat.reduceAdd, reduceIte, reduceCtorEq, Bool.not_false, Bool.not_true, Bool.true_or, true_and, Option.bind_some, Option.map_some, List.nil_append, List.cons_append, resA, resA1, resVal, Option.getD_some, Nat.reduceLeDiff, bnd_some, yieldA_eq, yldOf_some, boolOf_bool, boolOf_undef, gt_none, List.getElem?_toArray, List.getElem?_cons_succ, List.getElem?_cons_zero, bq_true, bq_false, decide_true, decide_false, Option.toList_none, Option.toList_some, List.head?_cons, List.head?_nil, nb_cfg, not_false_eq_true, cv_some, pm_some, pm_none, plainA_v, plain_bool, plain_int, plain_str, Bool.false_eq_true, if_false]
  by_cases h400 : 400 < l.length
  · have hd : decide ((400 : Int) < ((l.length : Nat) : Int)) = true := decide_eq_true (by omega)
    simp -dsimp only [hn, h0, hd, wt_seq, wt_block, wt_region, wt_cond, wt_skip, wt_ret, wt_exit, wst_nil, wst_app_nil, wst_app_cons, wst_cons, wst_guard, andThen_normal, andThen_ret, andThen_exit, leave_normal, leave_ret, leave_exit, EndsA_ret, EndsA_normal, ot_move, ot_assign, ot_pick, ot_binOp, ot_unOp, ot_convert, ot_field, ot_index, ot_indexAddr, ot_fieldAddr, ot_slice, ot_build, ot_buildSlice, ot_extract, ot_makeInterface, ot_makeFunc, ot_nilCheck, ot_call, ot_len, ot_append, ot_box, ot_load, ot_store, ot_makeSlice, ct_bool, ct_true, ct_false, bt_some, gt_some, aval_tmp, aval_int, aval_bool, aval_str, aval_slice, aval_nilPointer, aval_nilIface, aval_func, aval_global, avals, apairs, bareP, AV.bare, AV.bares, bin_lss, bin_leq, bin_gtr, bin_geq, bin_eql, bin_neq, bin_add, bin_sub, bin_mul, bin_and, bin_or, bin_xor, toV_int, toV_bool, toV_string, un_neg, un_not, bin_str_eql, bin_str_neq, bin_str_lss, bin_str_leq, bin_str_gtr, bin_str_geq, aget_aput, length_aput, aput_none, Nat.reduceEqDiff, Nat.reduceLT, Nat.reduceAdd, reduceIte, reduceCtorEq, Bool.not_false, Bool.not_true, Bool.true_or, true_and, Option.bind_some, Option.map_some, List.nil_append, List.cons_append, resA, resA1, resVal, Option.getD_some, Nat.reduceLeDiff, bnd_some, yieldA_eq, yldOf_some, boolOf_bool, boolOf_undef, gt_none, List.getElem?_toArray, List.getElem?_cons_succ, List.getElem?_cons_zero, bq_true, bq_false, decide_true, decide_false, Option.toList_none, Option.toList_some, List.head?_cons, List.head?_nil, nb_cfg, not_false_eq_true, cv_some, pm_some, pm_none, plainA_v, plain_bool, plain_int, plain_str, Bool.false_eq_true, if_false]
    exact ⟨1, rfl⟩
  have hd : decide ((400 : Int) < ((l.length : Nat) : Int)) = false := decide_eq_false (by omega)
  have h62 : l.length < 2 ^ 63 := by omega
  simp -dsimp only [hn, h0, hd, ct_prim id8_19, ct_prim id8_20, ct_prim id8_24, ct_prim id8_25, bare_s, avP_eq h62, userV, roomV, partsV_eq,
    ct_prim id8_21, ct_prim id8_26, boolP_eq (q := serverB) h62, bin_bool_eql, hbb, eq_self, ct_prim id8_23, ct_prim id8_27, boolQ_eq (n := 1099511627776) (q := eventB) (show l.length < 1099511627776 by omega), boolQ_eq (n := 68719476736) (q := eventB) (show l.length < 68719476736 by omega),
    ct_prim id8_28, ct_prim id8_29, boolP_eq (q := keyIDB) h62, ct_prim id8_22, ct_prim id8_30, serverOfV, wt_seq, wt_block, wt_region, wt_cond, wt_skip, wt_ret, wt_exit, wst_nil, wst_app_nil, wst_app_cons, wst_cons, wst_guard, andThen_normal, andThen_ret, andThen_exit, leave_normal, leave_ret, leave_exit, EndsA_ret, EndsA_normal, ot_move, ot_assign, ot_pick, ot_binOp, ot_unOp, ot_convert, ot_field, ot_index, ot_indexAddr, ot_fieldAddr, ot_slice, ot_build, ot_buildSlice, ot_extract, ot_makeInterface, ot_makeFunc, ot_nilCheck, ot_call, ot_len, ot_append, ot_box, ot_load, ot_store, ot_makeSlice, ct_bool, ct_true, ct_false, bt_some, gt_some, aval_tmp, aval_int, aval_bool, aval_str, aval_slice, aval_nilPointer, aval_nilIface, aval_func, aval_global, avals, apairs, bareP, AV.bare, AV.bares, bin_lss, bin_leq, bin_gtr, bin_geq, bin_eql, bin_neq, bin_add, bin_sub, bin_mul, bin_and, bin_or, bin_xor, toV_int, toV_bool, toV_string, un_neg, un_not, bin_str_eql, bin_str_neq, bin_str_lss, bin_str_leq, bin_str_gtr, bin_str_geq, aget_aput, length_aput, aput_none, Nat.reduceEqDiff, Nat.reduceLT, Nat.reduceAdd, reduceIte, reduceCtorEq, Bool.not_false, Bool.not_true, Bool.true_or, true_and, Option.bind_some, Option.map_some, List.nil_append, List.cons_append, resA, resA1, resVal, Option.getD_some, Nat.reduceLeDiff, bnd_some, yieldA_eq, yldOf_some, boolOf_bool, boolOf_undef, gt_none, List.getElem?_toArray, List.getElem?_cons_succ, List.getElem?_cons_zero, bq_true, bq_false, decide_true, decide_false, Option.toList_none, Option.toList_some, List.head?_cons, List.head?_nil, nb_cfg, not_false_eq_true, cv_some, pm_some, pm_none, plainA_v, plain_bool, plain_int, plain_str, Bool.false_eq_true, if_false]
  exact ⟨1, rfl⟩
end Go.Proofs.YtonmpbfddiflhaaDoor
