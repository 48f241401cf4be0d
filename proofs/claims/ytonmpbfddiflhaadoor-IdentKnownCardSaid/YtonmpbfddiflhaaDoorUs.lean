/- Contracts of functions, and plain facts about what they compute. -/
import Derived.Test.YtonmpbfddiflhaaDoorU64
import Derived.Test.YtonmpbfddiflhaaDoorAmD
set_option linter.unusedSimpArgs false
set_option linter.unusedVariables false
/- Chapter 5: the document's six, sign, Put64. -/
namespace Go.Proofs.YtonmpbfddiflhaaDoor
open Go.AM
def pU (u : Bool) : UInt8 := if u then 45 else 43
def sU (u : Bool) : UInt8 := if u then 95 else 47
noncomputable def signB (n : Nat) (u : Bool) : Bool := match callA (cfgP prim0) 30 36 [.v (.int .i64 n), .v (.bool u)] {} with
  | some (.v (.int .u8 m), _) => decide (m = ((sg (pU u) (sU u) n).toNat : Int))
  | _ => false
theorem sign36_all : (List.range 64).all (fun n => signB n true && signB n false) = true := by kernel_rfl
theorem sign36_ok (n : Nat) (u : Bool) (h : n < 64) : PureOk (cfgP prim0) 36 [.v (.int .i64 n), .v (.bool u)] (byt (sg (pU u) (sU u) n)) := by
  have h1 : signB n u = true := by
    have := List.all_eq_true.1 sign36_all n (List.mem_range.2 h)
    rw [Bool.and_eq_true] at this
    cases u
    · exact this.2
    · exact this.1
  unfold signB at h1
  split at h1
  · rename_i m H hc
    rw [decide_eq_true_eq] at h1
    subst h1
    exact pureOk_of (n := 1) (((callA_ok cok0 30).ok _ _ _ _ _ hc).2) rfl
  · cases h1
def sign36P : List AV → Option AV
  | [.v (.int .i64 n), .v (.bool u)] => if 0 ≤ n ∧ n < 64 then some (byt (sg (pU u) (sU u) n.toNat)) else none
  | _ => none
theorem sign36P_eq {n : Nat} {u : Bool} (h : n < 64) : sign36P [.v (.int .i64 n), .v (.bool u)] = some (byt (sg (pU u) (sU u) n)) := by
  have h' : (0 : Int) ≤ (n : Int) ∧ ((n : Nat) : Int) < 64 := by omega
  simp only [sign36P, h', and_self, if_true, Int.toNat_natCast]
theorem sign36P_ok {xs : List AV} {r : AV} (h : sign36P xs = some r) : PureOk (cfgP prim0) 36 xs r := by
  unfold sign36P at h
  split at h
  · rename_i n u
    split at h
    · rename_i hn
      injection h with h; subst h
      have := sign36_ok n.toNat u (by omega)
      rwa [show ((n.toNat : Nat) : Int) = n by omega] at this
    · cases h
  · cases h
def prim5 : FuncId → Option (List AV → Option AV) := fun f => if f = 36 then some sign36P else none
theorem cok5 : (cfgP prim5).Ok := cfgOf_ok mixed fok (fun f p h => by
  simp only [prim5] at h
  split at h
  · rename_i hf
    injection h with h; subst h; subst hf
    exact prim_at Tryd.func36 (by kernel_rfl) rfl (fun _ _ h => sign36P_ok h)
  · cases h)
theorem prim5_36 : (cfgP prim5).prim 36 = some sign36P := rfl
def sixR (p s c : UInt8) : Int := if nm p s c < 64 then nm p s c else -1
theorem nm_of {p s c : UInt8} {k : Nat} (hk : k < 64) (h1 : sg p s k = c) (h2 : ∀ i < k, sg p s i ≠ c) : nm p s c = k := by
  have : (List.range 64).find? (fun n : Nat => decide (signN p.toNat s.toNat n = c.toNat)) = some k := by
    refine List.find?_range_eq_some.2 ⟨?_, by simpa using hk, fun i hi => ?_⟩
    · rw [signN_sg p s k hk, h1]; simp
    · rw [signN_sg p s i (by omega)]
      have := h2 i hi
      simp only [Bool.not_eq_true', decide_eq_false_iff_not]
      intro he
      exact this (UInt8.toNat_inj.1 (by omega))
  unfold nm numN
  rw [this]
  simp
theorem nm_none {p s c : UInt8} (h2 : ∀ i < 64, sg p s i ≠ c) : nm p s c = 64 := by
  have : (List.range 64).find? (fun n : Nat => decide (signN p.toNat s.toNat n = c.toNat)) = none := by
    refine List.find?_range_eq_none.2 fun i hi => ?_
    rw [signN_sg p s i (by omega)]
    have := h2 i hi
    simp only [Bool.not_eq_true', decide_eq_false_iff_not]
    intro he
    exact this (UInt8.toNat_inj.1 (by omega))
  unfold nm numN
  rw [this]
  rfl
theorem six_ok (c : UInt8) (u : Bool) : PureOk (cfgP prim5) 35 [byt c, .v (.bool u)] (.v (.int .i64 (sixR (pU u) (sU u) c))) := by
  refine pure_of_wk (call := noCall) (fn := Tryd.f35) (rs := [.tmp 4]) cok5 noCall_ok (fns_cfg Tryd.func35 rfl) rfl rfl ?_
  intro env hl0 ha
  have hl : env.length = 16 := hl0
  have h0 := ha 0 _ rfl
  have h1 := ha 1 _ rfl
  clear ha hl0
  refine wkT_of ?_
  simp -dsimp only [hl, h0, h1, wt_seq, wt_block, wt_region, wt_cond, wt_skip, wt_ret, wt_exit, wst_nil, wst_app_nil, wst_app_cons, wst_cons, wst_guard, andThen_normal, andThen_ret, andThen_exit, leave_normal, leave_ret, leave_exit, EndsA_ret, EndsA_normal, ot_move, ot_assign, ot_pick, ot_binOp, ot_unOp, ot_convert, ot_field, ot_index, ot_indexAddr, ot_fieldAddr, ot_slice, ot_build, ot_buildSlice, ot_extract, ot_makeInterface, ot_makeFunc, ot_nilCheck, ot_call, ot_len, ot_append, ot_box, ot_load, ot_store, ot_makeSlice, ct_bool, ct_true, ct_false, bt_some, gt_some, aval_tmp, aval_int, aval_bool, aval_str, aval_slice, aval_nilPointer, aval_nilIface, aval_func, aval_global, avals, apairs, bareP, AV.bare, AV.bares, bin_lss, bin_leq, bin_gtr, bin_geq, bin_eql, bin_neq, bin_add, bin_sub, bin_mul, bin_and, bin_or, bin_xor, toV_int, toV_bool, toV_string, un_neg, un_not, bin_str_eql, bin_str_neq, bin_str_lss, bin_str_leq, bin_str_gtr, bin_str_geq, aget_aput, length_aput, aput_none, Nat.reduceEqDiff, Nat.reduceLT, Nat.reduceAdd, reduceIte, reduceCtorEq, Bool.not_false, Bool.not_true, Bool.true_or, true_and, Option.bind_some, Option.map_some, List.nil_append, List.cons_append, resA, resA1, resVal, Option.getD_some, Nat.reduceLeDiff, bnd_some, yieldA_eq, yldOf_some, boolOf_bool, boolOf_undef, gt_none, List.getElem?_toArray, List.getElem?_cons_succ, List.getElem?_cons_zero, bq_true, bq_false, decide_true, decide_false, Option.toList_none, Option.toList_some, List.head?_cons, List.head?_nil, nb_cfg, not_false_eq_true, cv_some, pm_some, pm_none, plainA_v, plain_bool, plain_int, plain_str, Bool.false_eq_true, if_false]
  refine wt_loop (m := 64) (fun m e h => h = {} ∧ e.length = 16 ∧ aget e 0 = byt c ∧ aget e 1 = .v (.bool u) ∧ ∃ k : Nat, k + m = 64 ∧ aget e 5 = .v (.int .i64 k) ∧ ∀ i < k, sg (pU u) (sU u) i ≠ c) ?_ ?_
  · rintro m e h ⟨rfl, hl, h0, h1, k, hk, h5, hs⟩
    simp -dsimp only [hl, h0, h1, h5, wt_seq, wt_block, wt_region, wt_cond, wt_skip, wt_ret, wt_exit, wst_nil, wst_app_nil, wst_app_cons, wst_cons, wst_guard, andThen_normal, andThen_ret, andThen_exit, leave_normal, leave_ret, leave_exit, EndsA_ret, EndsA_normal, ot_move, ot_assign, ot_pick, ot_binOp, ot_unOp, ot_convert, ot_field, ot_index, ot_indexAddr, ot_fieldAddr, ot_slice, ot_build, ot_buildSlice, ot_extract, ot_makeInterface, ot_makeFunc, ot_nilCheck, ot_call, ot_len, ot_append, ot_box, ot_load, ot_store, ot_makeSlice, ct_bool, ct_true, ct_false, bt_some, gt_some, aval_tmp, aval_int, aval_bool, aval_str, aval_slice, aval_nilPointer, aval_nilIface, aval_func, aval_global, avals, apairs, bareP, AV.bare, AV.bares, bin_lss, bin_leq, bin_gtr, bin_geq, bin_eql, bin_neq, bin_add, bin_sub, bin_mul, bin_and, bin_or, bin_xor, toV_int, toV_bool, toV_string, un_neg, un_not, bin_str_eql, bin_str_neq, bin_str_lss, bin_str_leq, bin_str_gtr, bin_str_geq, aget_aput, length_aput, aput_none, Nat.reduceEqDiff, Nat.reduceLT, Nat.reduceAdd, reduceIte, reduceCtorEq, Bool.not_false, Bool.not_true, Bool.true_or, true_and, Option.bind_some, Option.map_some, List.nil_append, List.cons_append, resA, resA1, resVal, Option.getD_some, Nat.reduceLeDiff, bnd_some, yieldA_eq, yldOf_some, boolOf_bool, boolOf_undef, gt_none, List.getElem?_toArray, List.getElem?_cons_succ, List.getElem?_cons_zero, bq_true, bq_false, decide_true, decide_false, Option.toList_none, Option.toList_some, List.head?_cons, List.head?_nil, nb_cfg, not_false_eq_true, cv_some, pm_some, pm_none, plainA_v, plain_bool, plain_int, plain_str, Bool.false_eq_true, if_false]
    rw [ct_eq]
    refine ⟨fun h => ?_, fun h => ?_⟩
    · have hk' : k < 64 := by simp at h; omega
      have e1 : IntKind.i64.wrap ((k : Int) + 1) = ((k + 1 : Nat) : Int) := wi64 (by omega) (by omega)
      simp -dsimp only [hl, h0, h1, h5, ct_prim prim5_36, sign36P_eq hk', byt, wt_seq, wt_block, wt_region, wt_cond, wt_skip, wt_ret, wt_exit, wst_nil, wst_app_nil, wst_app_cons, wst_cons, wst_guard, andThen_normal, andThen_ret, andThen_exit, leave_normal, leave_ret, leave_exit, EndsA_ret, EndsA_normal, ot_move, ot_assign, ot_pick, ot_binOp, ot_unOp, ot_convert, ot_field, ot_index, ot_indexAddr, ot_fieldAddr, ot_slice, ot_build, ot_buildSlice, ot_extract, ot_makeInterface, ot_makeFunc, ot_nilCheck, ot_call, ot_len, ot_append, ot_box, ot_load, ot_store, ot_makeSlice, ct_bool, ct_true, ct_false, bt_some, gt_some, aval_tmp, aval_int, aval_bool, aval_str, aval_slice, aval_nilPointer, aval_nilIface, aval_func, aval_global, avals, apairs, bareP, AV.bare, AV.bares, bin_lss, bin_leq, bin_gtr, bin_geq, bin_eql, bin_neq, bin_add, bin_sub, bin_mul, bin_and, bin_or, bin_xor, toV_int, toV_bool, toV_string, un_neg, un_not, bin_str_eql, bin_str_neq, bin_str_lss, bin_str_leq, bin_str_gtr, bin_str_geq, aget_aput, length_aput, aput_none, Nat.reduceEqDiff, Nat.reduceLT, Nat.reduceAdd, reduceIte, reduceCtorEq, Bool.not_false, Bool.not_true, Bool.true_or, true_and, Option.bind_some, Option.map_some, List.nil_append, List.cons_append, resA, resA1, resVal, Option.getD_some, Nat.reduceLeDiff, bnd_some, yieldA_eq, yldOf_some, boolOf_bool, boolOf_undef, gt_none, List.getElem?_toArray, List.getElem?_cons_succ, List.getElem?_cons_zero, bq_true, bq_false, decide_true, decide_false, Option.toList_none, Option.toList_some, List.head?_cons, List.head?_nil, nb_cfg, not_false_eq_true, cv_some, pm_some, pm_none, plainA_v, plain_bool, plain_int, plain_str, Bool.false_eq_true, if_false]
      rw [ct_eq]
      refine ⟨fun h' => ?_, fun h' => ?_⟩
      · simp -dsimp only [hl, h0, h1, h5, wt_seq, wt_block, wt_region, wt_cond, wt_skip, wt_ret, wt_exit, wst_nil, wst_app_nil, wst_app_cons, wst_cons, wst_guard, andThen_normal, andThen_ret, andThen_exit, leave_normal, leave_ret, leave_exit, EndsA_ret, EndsA_normal, ot_move, ot_assign, ot_pick, ot_binOp, ot_unOp, ot_convert, ot_field, ot_index, ot_indexAddr, ot_fieldAddr, ot_slice, ot_build, ot_buildSlice, ot_extract, ot_makeInterface, ot_makeFunc, ot_nilCheck, ot_call, ot_len, ot_append, ot_box, ot_load, ot_store, ot_makeSlice, ct_bool, ct_true, ct_false, bt_some, gt_some, aval_tmp, aval_int, aval_bool, aval_str, aval_slice, aval_nilPointer, aval_nilIface, aval_func, aval_global, avals, apairs, bareP, AV.bare, AV.bares, bin_lss, bin_leq, bin_gtr, bin_geq, bin_eql, bin_neq, bin_add, bin_sub, bin_mul, bin_and, bin_or, bin_xor, toV_int, toV_bool, toV_string, un_neg, un_not, bin_str_eql, bin_str_neq, bin_str_lss, bin_str_leq, bin_str_gtr, bin_str_geq, aget_aput, length_aput, aput_none, Nat.reduceEqDiff, Nat.reduceLT, Nat.reduceAdd, reduceIte, reduceCtorEq, Bool.not_false, Bool.not_true, Bool.true_or, true_and, Option.bind_some, Option.map_some, List.nil_append, List.cons_append, resA, resA1, resVal, Option.getD_some, Nat.reduceLeDiff, bnd_some, yieldA_eq, yldOf_some, boolOf_bool, boolOf_undef, gt_none, List.getElem?_toArray, List.getElem?_cons_succ, List.getElem?_cons_zero, bq_true, bq_false, decide_true, decide_false, Option.toList_none, Option.toList_some, List.head?_cons, List.head?_nil, nb_cfg, not_false_eq_true, cv_some, pm_some, pm_none, plainA_v, plain_bool, plain_int, plain_str, Bool.false_eq_true, if_false]
        refine ⟨1, ?_⟩
        have h2 : sg (pU u) (sU u) k = c := UInt8.toNat_inj.1 (Int.ofNat_inj.1 (by simpa using h'))
        rw [sixR, nm_of hk' h2 hs, if_pos hk']
        rfl
      · simp -dsimp only [hl, h0, h1, h5, e1, wt_seq, wt_block, wt_region, wt_cond, wt_skip, wt_ret, wt_exit, wst_nil, wst_app_nil, wst_app_cons, wst_cons, wst_guard, andThen_normal, andThen_ret, andThen_exit, leave_normal, leave_ret, leave_exit, EndsA_ret, EndsA_normal, ot_move, ot_assign, ot_pick, ot_binOp, ot_unOp, ot_convert, ot_field, ot_index, ot_indexAddr, ot_fieldAddr, ot_slice, ot_build, ot_buildSlice, ot_extract, ot_makeInterface, ot_makeFunc, ot_nilCheck, ot_call, ot_len, ot_append, ot_box, ot_load, ot_store, ot_makeSlice, ct_bool, ct_true, ct_false, bt_some, gt_some, aval_tmp, aval_int, aval_bool, aval_str, aval_slice, aval_nilPointer, aval_nilIface, aval_func, aval_global, avals, apairs, bareP, AV.bare, AV.bares, bin_lss, bin_leq, bin_gtr, bin_geq, bin_eql, bin_neq, bin_add, bin_sub, bin_mul, bin_and, bin_or, bin_xor, toV_int, toV_bool, toV_string, un_neg, un_not, bin_str_eql, bin_str_neq, bin_str_lss, bin_str_leq, bin_str_gtr, bin_str_geq, aget_aput, length_aput, aput_none, Nat.reduceEqDiff, Nat.reduceLT, Nat.reduceAdd, reduceIte, reduceCtorEq, Bool.not_false, Bool.not_true, Bool.true_or, true_and, Option.bind_some, Option.map_some, List.nil_append, List.cons_append, resA, resA1, resVal, Option.getD_some, Nat.reduceLeDiff, bnd_some, yieldA_eq, yldOf_some, boolOf_bool, boolOf_undef, gt_none, List.getElem?_toArray, List.getElem?_cons_succ, List.getElem?_cons_zero, bq_true, bq_false, decide_true, decide_false, Option.toList_none, Option.toList_some, List.head?_cons, List.head?_nil, nb_cfg, not_false_eq_true, cv_some, pm_some, pm_none, plainA_v, plain_bool, plain_int, plain_str, Bool.false_eq_true, if_false]
        refine ⟨m - 1, by omega, k + 1, by omega, rfl, fun i hi => ?_⟩
        rcases Nat.lt_succ_iff_lt_or_eq.1 hi with hi | rfl
        · exact hs i hi
        · intro he
          rw [he] at h'
          simp at h'
    · simp -dsimp only [hl, h0, h1, h5, wt_seq, wt_block, wt_region, wt_cond, wt_skip, wt_ret, wt_exit, wst_nil, wst_app_nil, wst_app_cons, wst_cons, wst_guard, andThen_normal, andThen_ret, andThen_exit, leave_normal, leave_ret, leave_exit, EndsA_ret, EndsA_normal, ot_move, ot_assign, ot_pick, ot_binOp, ot_unOp, ot_convert, ot_field, ot_index, ot_indexAddr, ot_fieldAddr, ot_slice, ot_build, ot_buildSlice, ot_extract, ot_makeInterface, ot_makeFunc, ot_nilCheck, ot_call, ot_len, ot_append, ot_box, ot_load, ot_store, ot_makeSlice, ct_bool, ct_true, ct_false, bt_some, gt_some, aval_tmp, aval_int, aval_bool, aval_str, aval_slice, aval_nilPointer, aval_nilIface, aval_func, aval_global, avals, apairs, bareP, AV.bare, AV.bares, bin_lss, bin_leq, bin_gtr, bin_geq, bin_eql, bin_neq, bin_add, bin_sub, bin_mul, bin_and, bin_or, bin_xor, toV_int, toV_bool, toV_string, un_neg, un_not, bin_str_eql, bin_str_neq, bin_str_lss, bin_str_leq, bin_str_gtr, bin_str_geq, aget_aput, length_aput, aput_none, Nat.reduceEqDiff, Nat.reduceLT, Nat.reduceAdd, reduceIte, reduceCtorEq, Bool.not_false, Bool.not_true, Bool.true_or, true_and, Option.bind_some, Option.map_some, List.nil_append, List.cons_append, resA, resA1, resVal, Option.getD_some, Nat.reduceLeDiff, bnd_some, yieldA_eq, yldOf_some, boolOf_bool, boolOf_undef, gt_none, List.getElem?_toArray, List.getElem?_cons_succ, List.getElem?_cons_zero, bq_true, bq_false, decide_true, decide_false, Option.toList_none, Option.toList_some, List.head?_cons, List.head?_nil, nb_cfg, not_false_eq_true, cv_some, pm_some, pm_none, plainA_v, plain_bool, plain_int, plain_str, Bool.false_eq_true, if_false]
      refine ⟨1, ?_⟩
      have hk' : k = 64 := by simp at h; omega
      subst hk'
      rw [sixR, nm_none hs]
      rfl
  · refine ⟨rfl, by simp only [length_aput, hl], by simp -dsimp only [hl, h0, wt_seq, wt_block, wt_region, wt_cond, wt_skip, wt_ret, wt_exit, wst_nil, wst_app_nil, wst_app_cons, wst_cons, wst_guard, andThen_normal, andThen_ret, andThen_exit, leave_normal, leave_ret, leave_exit, EndsA_ret, EndsA_normal, ot_move, ot_assign, ot_pick, ot_binOp, ot_unOp, ot_convert, ot_field, ot_index, ot_indexAddr, ot_fieldAddr, ot_slice, ot_build, ot_buildSlice, ot_extract, ot_makeInterface, ot_makeFunc, ot_nilCheck, ot_call, ot_len, ot_append, ot_box, ot_load, ot_store, ot_makeSlice, ct_bool, ct_true, ct_false, bt_some, gt_some, aval_tmp, aval_int, aval_bool, aval_str, aval_slice, aval_nilPointer, aval_nilIface, aval_func, aval_global, avals, apairs, bareP, AV.bare, AV.bares, bin_lss, bin_leq, bin_gtr, bin_geq, bin_eql, bin_neq, bin_add, bin_sub, bin_mul, bin_and, bin_or, bin_xor, toV_int, toV_bool, toV_string, un_neg, un_not, bin_str_eql, bin_str_neq, bin_str_lss, bin_str_leq, bin_str_gtr, bin_str_geq, aget_aput, length_aput, aput_none, Nat.reduceEqDiff, Nat.reduceLT, Nat.reduceAdd, reduceIte, reduceCtorEq, Bool.not_false, Bool.not_true, Bool.true_or, true_and, Option.bind_some, Option.map_some, List.nil_append, List.cons_append, resA, resA1, resVal, Option.getD_some, Nat.reduceLeDiff, bnd_some, yieldA_eq, yldOf_some, boolOf_bool, boolOf_undef, gt_none, List.getElem?_toArray, List.getElem?_cons_succ, List.getElem?_cons_zero, bq_true, bq_false, decide_true, decide_false, Option.toList_none, Option.toList_some, List.head?_cons, List.head?_nil, nb_cfg, not_false_eq_true, cv_some, pm_some, pm_none, plainA_v, plain_bool, plain_int, plain_str, Bool.false_eq_true, if_false], by simp -dsimp only [hl, h1, wt_seq, wt_block, wt_region, wt_cond, wt_skip, wt_ret, wt_exit, wst_nil, wst_app_nil, wst_app_cons, wst_cons, wst_guard, andThen_normal, andThen_ret, andThen_exit, leave_normal, leave_ret, leave_exit, EndsA_ret, EndsA_normal, ot_move, ot_assign, ot_pick, ot_binOp, ot_unOp, ot_convert, ot_field, ot_index, ot_indexAddr, ot_fieldAddr, ot_slice, ot_build, ot_buildSlice, ot_extract, ot_makeInterface, ot_makeFunc, ot_nilCheck, ot_call, ot_len, ot_append, ot_box, ot_load, ot_store, ot_makeSlice, ct_bool, ct_true, ct_false, bt_some, gt_some, aval_tmp, aval_int, aval_bool, aval_str, aval_slice, aval_nilPointer, aval_nilIface, aval_func, aval_global, avals, apairs, bareP, AV.bare, AV.bares, bin_lss, bin_leq, bin_gtr, bin_geq, bin_eql, bin_neq, bin_add, bin_sub, bin_mul, bin_and, bin_or, bin_xor, toV_int, toV_bool, toV_string, un_neg, un_not, bin_str_eql, bin_str_neq, bin_str_lss, bin_str_leq, bin_str_gtr, bin_str_geq, aget_aput, length_aput, aput_none, Nat.reduceEqDiff, Nat.reduceLT, Nat.reduceAdd, reduceIte, reduceCtorEq, Bool.not_false, Bool.not_true, Bool.true_or, true_and, Option.bind_some, Option.map_some, List.nil_append, List.cons_append, resA, resA1, resVal, Option.getD_some, Nat.reduceLeDiff, bnd_some, yieldA_eq, yldOf_some, boolOf_bool, boolOf_undef, gt_none, List.getElem?_toArray, List.getElem?_cons_succ, List.getElem?_cons_zero, bq_true, bq_false, decide_true, decide_false, Option.toList_none, Option.toList_some, List.head?_cons, List.head?_nil, nb_cfg, not_false_eq_true, cv_some, pm_some, pm_none, plainA_v, plain_bool, plain_int, plain_str, Bool.false_eq_true, if_false], 0, rfl, by simp -dsimp only [hl, h1, wt_seq, wt_block, wt_region, wt_cond, wt_skip, wt_ret, wt_exit, wst_nil, wst_app_nil, wst_app_cons, wst_cons, wst_guard, andThen_normal, andThen_ret, andThen_exit, leave_normal, leave_ret, leave_exit, EndsA_ret, EndsA_normal, ot_move, ot_assign, ot_pick, ot_binOp, ot_unOp, ot_convert, ot_field, ot_index, ot_indexAddr, ot_fieldAddr, ot_slice, ot_build, ot_buildSlice, ot_extract, ot_makeInterface, ot_makeFunc, ot_nilCheck, ot_call, ot_len, ot_append, ot_box, ot_load, ot_store, ot_makeSlice, ct_bool, ct_true, ct_false, bt_some, gt_some, aval_tmp, aval_int, aval_bool, aval_str, aval_slice, aval_nilPointer, aval_nilIface, aval_func, aval_global, avals, apairs, bareP, AV.bare, AV.bares, bin_lss, bin_leq, bin_gtr, bin_geq, bin_eql, bin_neq, bin_add, bin_sub, bin_mul, bin_and, bin_or, bin_xor, toV_int, toV_bool, toV_string, un_neg, un_not, bin_str_eql, bin_str_neq, bin_str_lss, bin_str_leq, bin_str_gtr, bin_str_geq, aget_aput, length_aput, aput_none, Nat.reduceEqDiff, Nat.reduceLT, Nat.reduceAdd, reduceIte, reduceCtorEq, Bool.not_false, Bool.not_true, Bool.true_or, true_and, Option.bind_some, Option.map_some, List.nil_append, List.cons_append, resA, resA1, resVal, Option.getD_some, Nat.reduceLeDiff, bnd_some, yieldA_eq, yldOf_some, boolOf_bool, boolOf_undef, gt_none, List.getElem?_toArray, List.getElem?_cons_succ, List.getElem?_cons_zero, bq_true, bq_false, decide_true, decide_false, Option.toList_none, Option.toList_some, List.head?_cons, List.head?_nil, nb_cfg, not_false_eq_true, cv_some, pm_some, pm_none, plainA_v, plain_bool, plain_int, plain_str, Bool.false_eq_true, if_false]; rfl, fun i hi => absurd hi (Nat.not_lt_zero _)⟩
def sixP : List AV → Option AV
  | [c, .v (.bool u)] => (decByte c).map fun c => .v (.int .i64 (sixR (pU u) (sU u) c))
  | _ => none
theorem sixP_eq {c : UInt8} {u : Bool} : sixP [.v (.int .u8 c.toNat), .v (.bool u)] = some (.v (.int .i64 (sixR (pU u) (sU u) c))) := by
  have := dec_byt c
  unfold byt at this
  simp only [sixP, this, Option.map_some]
theorem sixP_ok {xs : List AV} {r : AV} (h : sixP xs = some r) : PureOk (cfgP prim5) 35 xs r := by
  unfold sixP at h
  split at h
  · rw [Option.map_eq_some_iff] at h
    obtain ⟨c, hc, rfl⟩ := h
    rw [decByte_iff] at hc
    subst hc
    exact six_ok c _
  · cases h
end Go.Proofs.YtonmpbfddiflhaaDoor

/- Chapter 5: the document's Put64. -/
namespace Go.Proofs.YtonmpbfddiflhaaDoor
open Go.AM
theorem Nn_take_div (l : List UInt8) (m : Nat) (h : m ≤ l.length) : Nn (l.take m) = Nn l / 2 ^ (8 * (l.length - m)) := by
  have e : Nn l = Nn (l.take m) * 2 ^ (8 * (l.length - m)) + Nn (l.drop m) := by
    have h1 : Nn l = Nn (l.take m ++ l.drop m) := by rw [List.take_append_drop]
    rw [h1]
    unfold Nn
    rw [List.map_append, Digs.val_append, List.length_map, List.length_drop, show 256 = 2 ^ 8 from rfl, ← Nat.pow_mul]
  have h2 := Nn_lt (l.drop m)
  rw [List.length_drop] at h2
  rw [e, Nat.mul_comm, Nat.mul_add_div (Nat.pow_pos (by decide)), Nat.div_eq_of_lt h2, Nat.add_zero]
theorem byte_bit (l : List UInt8) (j r : Nat) (hj : j < l.length) (hr : r < 8) : Nn l / 2 ^ (8 * l.length - 1 - (8 * j + r)) % 2 = (l[j]).toNat / 2 ^ (7 - r) % 2 := by
  rw [show 8 * l.length - 1 - (8 * j + r) = 8 * (l.length - (j + 1)) + (7 - r) by omega, Nat.pow_add, ← Nat.div_div_eq_div_mul, ← Nn_take_div l (j + 1) (by omega), Nn_take l j hj]
  have h1 : (256 : Nat) = 2 ^ (7 - r) * (2 ^ r * 2) := by
    rw [← Nat.pow_succ, ← Nat.pow_add, show 7 - r + (r + 1) = 8 by omega]
  rw [show Nn (l.take j) * 256 + (l[j]).toNat = 2 ^ (7 - r) * (Nn (l.take j) * (2 ^ r * 2)) + (l[j]).toNat by rw [h1, ← Nat.mul_assoc, Nat.mul_comm (Nn _), Nat.mul_assoc], Nat.mul_add_div (Nat.pow_pos (by decide))]
  rw [← Nat.mul_assoc, Nat.add_comm, Nat.add_mul_mod_self_right]
theorem half_mod (w j : Nat) : w / 2 % 2 ^ j * 2 + w % 2 = w % 2 ^ (j + 1) := by
  rw [Nat.pow_succ, Nat.mul_comm (2 ^ j), Nat.mod_mul]
  omega
/-- What is written: the bytes' number, and as many noughts as lack. -/
def Zn (l : List UInt8) : Nat := Nn l * 2 ^ (6 * ((8 * l.length + 5) / 6) - 8 * l.length)
def Sn (l : List UInt8) : Nat := (8 * l.length + 5) / 6
theorem Zn_bit (l : List UInt8) (k : Nat) (h : k < 8 * l.length) : Zn l / 2 ^ (6 * Sn l - (k + 1)) % 2 = (l[k / 8]'(by omega)).toNat / 2 ^ (7 - k % 8) % 2 := by
  have hS : Sn l = (8 * l.length + 5) / 6 := rfl
  rw [← byte_bit l (k / 8) (k % 8) (by omega) (by omega), Zn, ← hS]
  rw [show 6 * Sn l - (k + 1) = (6 * Sn l - 8 * l.length) + (8 * l.length - 1 - (8 * (k / 8) + k % 8)) by omega, Nat.pow_add, Nat.mul_comm (Nn l), Nat.mul_div_mul_left _ _ (Nat.pow_pos (by decide))]
theorem Zn_bit0 (l : List UInt8) (k : Nat) (h : ¬ k < 8 * l.length) (hk : k < 6 * Sn l) : Zn l / 2 ^ (6 * Sn l - (k + 1)) % 2 = 0 := by
  have hS : Sn l = (8 * l.length + 5) / 6 := rfl
  rw [Zn, ← hS, show 6 * Sn l - 8 * l.length = (6 * Sn l - (k + 1)) + (k - 8 * l.length + 1) by omega, Nat.pow_add, Nat.mul_comm (2 ^ (6 * Sn l - (k + 1))), ← Nat.mul_assoc, Nat.mul_div_cancel _ (Nat.pow_pos (by decide)), Nat.pow_succ, ← Nat.mul_assoc, Nat.mul_mod_left]
theorem shl1 (n : Nat) (h : n < 2 ^ 60) : IntKind.i64.wrap ((n : Int) * 2 ^ min (1 : Int).toNat IntKind.i64.bits) = ((n * 2 : Nat) : Int) := by
  have : min (1 : Int).toNat IntKind.i64.bits = 1 := by decide
  rw [this, show (n : Int) * 2 ^ 1 = ((n * 2 : Nat) : Int) by omega]
  exact wi64 (by omega) (by omega)
theorem or_bit (n b : Nat) (h : n < 2 ^ 60) (hb : b < 2) : IntKind.i64.wrap ((BitVec.ofInt IntKind.i64.bits ((n * 2 : Nat) : Int) ||| BitVec.ofInt IntKind.i64.bits (b : Int)).toNat : Nat) = ((n * 2 + b : Nat) : Int) := by
  rw [show IntKind.i64.bits = 64 from rfl]
  simp only [BitVec.ofInt_natCast, BitVec.toNat_or, BitVec.toNat_ofNat]
  rw [Nat.mod_eq_of_lt (show n * 2 < 2 ^ 64 by omega), Nat.mod_eq_of_lt (show b < 2 ^ 64 by omega)]
  have h1 := Nat.shiftLeft_add_eq_or_of_lt (show b < 2 ^ 1 by omega) n
  rw [Nat.shiftLeft_eq, Nat.pow_one] at h1
  rw [← h1]
  exact wi64 (by omega) (by omega)
theorem bit_of (c : UInt8) (r : Nat) (hr : r < 8) : IntKind.i64.wrap ((BitVec.ofInt IntKind.i64.bits (IntKind.i64.wrap (((c.toNat : Nat) : Int).fdiv (2 ^ min (((7 - r : Nat) : Int)).toNat IntKind.u8.bits))) &&& BitVec.ofInt IntKind.i64.bits 1).toNat : Nat) = ((c.toNat / 2 ^ (7 - r) % 2 : Nat) : Int) := by
  have e0 : min (((7 - r : Nat) : Int)).toNat IntKind.u8.bits = 7 - r := by
    rw [show IntKind.u8.bits = 8 from rfl]; omega
  have e1 : ((c.toNat : Nat) : Int).fdiv (2 ^ (7 - r)) = ((c.toNat / 2 ^ (7 - r) : Nat) : Int) := by
    rw [show (2 : Int) ^ (7 - r) = ((2 ^ (7 - r) : Nat) : Int) by rw [Int.natCast_pow]; rfl, Int.fdiv_eq_ediv_of_nonneg _ (Int.natCast_nonneg _)]; rfl
  have hc := UInt8.toNat_lt c
  have hd : c.toNat / 2 ^ (7 - r) < 256 := Nat.lt_of_le_of_lt (Nat.div_le_self _ _) hc
  rw [e0, e1]
  generalize c.toNat / 2 ^ (7 - r) = q at *
  have e2 : IntKind.i64.wrap ((q : Nat) : Int) = (q : Int) := wi64 (by omega) (by omega)
  rw [e2, show IntKind.i64.bits = 64 from rfl, show (1 : Int) = ((1 : Nat) : Int) from rfl]
  simp only [BitVec.ofInt_natCast, BitVec.toNat_and, BitVec.toNat_ofNat]
  rw [Nat.mod_eq_of_lt (show q < 2 ^ 64 by omega), show 1 % 2 ^ 64 = 2 ^ 1 - 1 from rfl, Nat.and_two_pow_sub_one_eq_mod]
  have := Nat.mod_lt q (show 0 < 2 ^ 1 by decide)
  exact wi64 (by omega) (by omega)
section
variable {prim : FuncId → Option (List AV → Option AV)}
theorem conv5_3 {n : Int} : convA (cfgP prim) 5 3 (.v (.int .u8 n)) = some (.v (.int .i64 (IntKind.i64.wrap n))) := conv_int Tryd.underlying5 Tryd.underlying3 Tryd.underlying5 Tryd.underlying3
end
structure outI (p s : UInt8) (u : Bool) (l : List UInt8) (x : AV) (t : Nat) (e : Env) (h : Hp) : Prop where
  len : e.length = 51
  hp : h = ghp 5 (byts (outs p s t (Zn l / 2 ^ (6 * (Sn l - t)))))
  a0 : aget e 0 = x
  a1 : aget e 1 = .v (.bool u)
  a6 : aget e 6 = .v (.int .i64 (6 * t : Nat))
  a5 : aget e 5 = gsl (byts (outs p s t (Zn l / 2 ^ (6 * (Sn l - t)))))
structure inI (p s : UInt8) (u : Bool) (l : List UInt8) (x : AV) (t j : Nat) (e : Env) (h : Hp) : Prop where
  out : outI p s u l x t e h
  a8 : aget e 8 = .v (.int .i64 (6 * t + j : Nat))
  a7 : aget e 7 = .v (.int .i64 (Zn l / 2 ^ (6 * Sn l - (6 * t + j)) % 2 ^ j : Nat))
theorem Put64_ok (u : Bool) (l : List UInt8) (x : AV) (hx : elems x = some (byts l)) (hl : l.length < 2 ^ 40) : PureOk (cfgP prim5) 17 [x, .v (.bool u)] (str (put64 (pU u) (sU u) l)) := by
  have hlb : (byts l).length = l.length := by simp [byts]
  have hS : Sn l = (8 * l.length + 5) / 6 := rfl
  have e8 : IntKind.i64.wrap (8 * (l.length : Int)) = ((8 * l.length : Nat) : Int) := by
    rw [show (8 * (l.length : Int)) = ((8 * l.length : Nat) : Int) by omega]; exact wi64 (by omega) (by omega)
  obtain ⟨p, hp⟩ : ∃ p, p = pU u := ⟨_, rfl⟩
  obtain ⟨s, hs⟩ : ∃ s, s = sU u := ⟨_, rfl⟩
  refine pure_of_wk (call := noCall) (fn := Tryd.f17) (rs := [.tmp 4]) cok5 noCall_ok (fns_cfg Tryd.func17 rfl) rfl rfl ?_
  intro env hl0 ha
  have hn : env.length = 51 := hl0
  have h0 := ha 0 _ rfl
  have h1 := ha 1 _ rfl
  clear ha hl0
  refine wkT_of ?_
  simp -dsimp only [hn, h0, h1, wt_seq, wt_block, wt_region, wt_cond, wt_skip, wt_ret, wt_exit, wst_nil, wst_app_nil, wst_app_cons, wst_cons, wst_guard, andThen_normal, andThen_ret, andThen_exit, leave_normal, leave_ret, leave_exit, EndsA_ret, EndsA_normal, ot_move, ot_assign, ot_pick, ot_binOp, ot_unOp, ot_convert, ot_field, ot_index, ot_indexAddr, ot_fieldAddr, ot_slice, ot_build, ot_buildSlice, ot_extract, ot_makeInterface, ot_makeFunc, ot_nilCheck, ot_call, ot_len, ot_append, ot_box, ot_load, ot_store, ot_makeSlice, ct_bool, ct_true, ct_false, bt_some, gt_some, aval_tmp, aval_int, aval_bool, aval_str, aval_slice, aval_nilPointer, aval_nilIface, aval_func, aval_global, avals, apairs, bareP, AV.bare, AV.bares, bin_lss, bin_leq, bin_gtr, bin_geq, bin_eql, bin_neq, bin_add, bin_sub, bin_mul, bin_and, bin_or, bin_xor, toV_int, toV_bool, toV_string, un_neg, un_not, bin_str_eql, bin_str_neq, bin_str_lss, bin_str_leq, bin_str_gtr, bin_str_geq, aget_aput, length_aput, aput_none, Nat.reduceEqDiff, Nat.reduceLT, Nat.reduceAdd, reduceIte, reduceCtorEq, Bool.not_false, Bool.not_true, Bool.true_or, true_and, Option.bind_some, Option.map_some, List.nil_append, List.cons_append, resA, resA1, resVal, Option.getD_some, Nat.reduceLeDiff, bnd_some, yieldA_eq, yldOf_some, boolOf_bool, boolOf_undef, gt_none, List.getElem?_toArray, List.getElem?_cons_succ, List.getElem?_cons_zero, bq_true, bq_false, decide_true, decide_false, Option.toList_none, Option.toList_some, List.head?_cons, List.head?_nil, nb_cfg, not_false_eq_true, cv_some, pm_some, pm_none, plainA_v, plain_bool, plain_int, plain_str, Bool.false_eq_true, if_false]
  refine wt_loop (m := Sn l) (fun m e h => ∃ t, t + m = Sn l ∧ outI p s u l x t e h) ?_ ?_
  · rintro mm e h ⟨t, ht, hn, rfl, h0, h1, h6, h5⟩
    simp -dsimp only [hn, h0, h1, h6, h5, len22 hx, hlb, e8, wt_seq, wt_block, wt_region, wt_cond, wt_skip, wt_ret, wt_exit, wst_nil, wst_app_nil, wst_app_cons, wst_cons, wst_guard, andThen_normal, andThen_ret, andThen_exit, leave_normal, leave_ret, leave_exit, EndsA_ret, EndsA_normal, ot_move, ot_assign, ot_pick, ot_binOp, ot_unOp, ot_convert, ot_field, ot_index, ot_indexAddr, ot_fieldAddr, ot_slice, ot_build, ot_buildSlice, ot_extract, ot_makeInterface, ot_makeFunc, ot_nilCheck, ot_call, ot_len, ot_append, ot_box, ot_load, ot_store, ot_makeSlice, ct_bool, ct_true, ct_false, bt_some, gt_some, aval_tmp, aval_int, aval_bool, aval_str, aval_slice, aval_nilPointer, aval_nilIface, aval_func, aval_global, avals, apairs, bareP, AV.bare, AV.bares, bin_lss, bin_leq, bin_gtr, bin_geq, bin_eql, bin_neq, bin_add, bin_sub, bin_mul, bin_and, bin_or, bin_xor, toV_int, toV_bool, toV_string, un_neg, un_not, bin_str_eql, bin_str_neq, bin_str_lss, bin_str_leq, bin_str_gtr, bin_str_geq, aget_aput, length_aput, aput_none, Nat.reduceEqDiff, Nat.reduceLT, Nat.reduceAdd, reduceIte, reduceCtorEq, Bool.not_false, Bool.not_true, Bool.true_or, true_and, Option.bind_some, Option.map_some, List.nil_append, List.cons_append, resA, resA1, resVal, Option.getD_some, Nat.reduceLeDiff, bnd_some, yieldA_eq, yldOf_some, boolOf_bool, boolOf_undef, gt_none, List.getElem?_toArray, List.getElem?_cons_succ, List.getElem?_cons_zero, bq_true, bq_false, decide_true, decide_false, Option.toList_none, Option.toList_some, List.head?_cons, List.head?_nil, nb_cfg, not_false_eq_true, cv_some, pm_some, pm_none, plainA_v, plain_bool, plain_int, plain_str, Bool.false_eq_true, if_false]
    rw [ct_eq]
    refine ⟨fun h => ?_, fun h => ?_⟩
    · have htS : t < Sn l := by simp at h; omega
      simp -dsimp only [hn, h0, h1, h6, h5, wt_seq, wt_block, wt_region, wt_cond, wt_skip, wt_ret, wt_exit, wst_nil, wst_app_nil, wst_app_cons, wst_cons, wst_guard, andThen_normal, andThen_ret, andThen_exit, leave_normal, leave_ret, leave_exit, EndsA_ret, EndsA_normal, ot_move, ot_assign, ot_pick, ot_binOp, ot_unOp, ot_convert, ot_field, ot_index, ot_indexAddr, ot_fieldAddr, ot_slice, ot_build, ot_buildSlice, ot_extract, ot_makeInterface, ot_makeFunc, ot_nilCheck, ot_call, ot_len, ot_append, ot_box, ot_load, ot_store, ot_makeSlice, ct_bool, ct_true, ct_false, bt_some, gt_some, aval_tmp, aval_int, aval_bool, aval_str, aval_slice, aval_nilPointer, aval_nilIface, aval_func, aval_global, avals, apairs, bareP, AV.bare, AV.bares, bin_lss, bin_leq, bin_gtr, bin_geq, bin_eql, bin_neq, bin_add, bin_sub, bin_mul, bin_and, bin_or, bin_xor, toV_int, toV_bool, toV_string, un_neg, un_not, bin_str_eql, bin_str_neq, bin_str_lss, bin_str_leq, bin_str_gtr, bin_str_geq, aget_aput, length_aput, aput_none, Nat.reduceEqDiff, Nat.reduceLT, Nat.reduceAdd, reduceIte, reduceCtorEq, Bool.not_false, Bool.not_true, Bool.true_or, true_and, Option.bind_some, Option.map_some, List.nil_append, List.cons_append, resA, resA1, resVal, Option.getD_some, Nat.reduceLeDiff, bnd_some, yieldA_eq, yldOf_some, boolOf_bool, boolOf_undef, gt_none, List.getElem?_toArray, List.getElem?_cons_succ, List.getElem?_cons_zero, bq_true, bq_false, decide_true, decide_false, Option.toList_none, Option.toList_some, List.head?_cons, List.head?_nil, nb_cfg, not_false_eq_true, cv_some, pm_some, pm_none, plainA_v, plain_bool, plain_int, plain_str, Bool.false_eq_true, if_false]
      refine wt_loop (m := 6) (fun m e h => ∃ j, j + m = 6 ∧ inI p s u l x t j e h) ?_ ?_
      · rintro m e h ⟨j, hj, ⟨hn, rfl, h0, h1, h6, h5⟩, h8, h7⟩
        have e6 : IntKind.i64.wrap (((6 * t : Nat) : Int) + 6) = ((6 * t + 6 : Nat) : Int) := wi64 (by omega) (by omega)
        simp -dsimp only [hn, h0, h1, h6, h5, h7, h8, e6, wt_seq, wt_block, wt_region, wt_cond, wt_skip, wt_ret, wt_exit, wst_nil, wst_app_nil, wst_app_cons, wst_cons, wst_guard, andThen_normal, andThen_ret, andThen_exit, leave_normal, leave_ret, leave_exit, EndsA_ret, EndsA_normal, ot_move, ot_assign, ot_pick, ot_binOp, ot_unOp, ot_convert, ot_field, ot_index, ot_indexAddr, ot_fieldAddr, ot_slice, ot_build, ot_buildSlice, ot_extract, ot_makeInterface, ot_makeFunc, ot_nilCheck, ot_call, ot_len, ot_append, ot_box, ot_load, ot_store, ot_makeSlice, ct_bool, ct_true, ct_false, bt_some, gt_some, aval_tmp, aval_int, aval_bool, aval_str, aval_slice, aval_nilPointer, aval_nilIface, aval_func, aval_global, avals, apairs, bareP, AV.bare, AV.bares, bin_lss, bin_leq, bin_gtr, bin_geq, bin_eql, bin_neq, bin_add, bin_sub, bin_mul, bin_and, bin_or, bin_xor, toV_int, toV_bool, toV_string, un_neg, un_not, bin_str_eql, bin_str_neq, bin_str_lss, bin_str_leq, bin_str_gtr, bin_str_geq, aget_aput, length_aput, aput_none, Nat.reduceEqDiff, Nat.reduceLT, Nat.reduceAdd, reduceIte, reduceCtorEq, Bool.not_false, Bool.not_true, Bool.true_or, true_and, Option.bind_some, Option.map_some, List.nil_append, List.cons_append, resA, resA1, resVal, Option.getD_some, Nat.reduceLeDiff, bnd_some, yieldA_eq, yldOf_some, boolOf_bool, boolOf_undef, gt_none, List.getElem?_toArray, List.getElem?_cons_succ, List.getElem?_cons_zero, bq_true, bq_false, decide_true, decide_false, Option.toList_none, Option.toList_some, List.head?_cons, List.head?_nil, nb_cfg, not_false_eq_true, cv_some, pm_some, pm_none, plainA_v, plain_bool, plain_int, plain_str, Bool.false_eq_true, if_false]
        rw [ct_eq]
        refine ⟨fun h => ?_, fun h => ?_⟩
        · have hj6 : j < 6 := by simp at h; omega
          have hw : Zn l / 2 ^ (6 * Sn l - (6 * t + j)) % 2 ^ j < 2 ^ 60 := by
            have := Nat.mod_lt (Zn l / 2 ^ (6 * Sn l - (6 * t + j))) (Nat.pow_pos (n := j) (show 0 < 2 by decide))
            have h2 : 2 ^ j ≤ 2 ^ 6 := Nat.pow_le_pow_right (by decide) (by omega)
            omega
          have hww : Zn l / 2 ^ (6 * Sn l - (6 * t + j)) = Zn l / 2 ^ (6 * Sn l - (6 * t + j + 1)) / 2 := by
            rw [Nat.div_div_eq_div_mul, ← Nat.pow_succ]
            congr 2
            omega
          have e9 : IntKind.i64.wrap (((6 * t + j : Nat) : Int) + 1) = ((6 * t + (j + 1) : Nat) : Int) := wi64 (by omega) (by omega)
          simp -dsimp only [hn, h0, h1, h6, h5, h7, h8, bin_shl (show (0 : Int) ≤ 1 by decide), shl1 _ hw, len22 hx, hlb, e8, wt_seq, wt_block, wt_region, wt_cond, wt_skip, wt_ret, wt_exit, wst_nil, wst_app_nil, wst_app_cons, wst_cons, wst_guard, andThen_normal, andThen_ret, andThen_exit, leave_normal, leave_ret, leave_exit, EndsA_ret, EndsA_normal, ot_move, ot_assign, ot_pick, ot_binOp, ot_unOp, ot_convert, ot_field, ot_index, ot_indexAddr, ot_fieldAddr, ot_slice, ot_build, ot_buildSlice, ot_extract, ot_makeInterface, ot_makeFunc, ot_nilCheck, ot_call, ot_len, ot_append, ot_box, ot_load, ot_store, ot_makeSlice, ct_bool, ct_true, ct_false, bt_some, gt_some, aval_tmp, aval_int, aval_bool, aval_str, aval_slice, aval_nilPointer, aval_nilIface, aval_func, aval_global, avals, apairs, bareP, AV.bare, AV.bares, bin_lss, bin_leq, bin_gtr, bin_geq, bin_eql, bin_neq, bin_add, bin_sub, bin_mul, bin_and, bin_or, bin_xor, toV_int, toV_bool, toV_string, un_neg, un_not, bin_str_eql, bin_str_neq, bin_str_lss, bin_str_leq, bin_str_gtr, bin_str_geq, aget_aput, length_aput, aput_none, Nat.reduceEqDiff, Nat.reduceLT, Nat.reduceAdd, reduceIte, reduceCtorEq, Bool.not_false, Bool.not_true, Bool.true_or, true_and, Option.bind_some, Option.map_some, List.nil_append, List.cons_append, resA, resA1, resVal, Option.getD_some, Nat.reduceLeDiff, bnd_some, yieldA_eq, yldOf_some, boolOf_bool, boolOf_undef, gt_none, List.getElem?_toArray, List.getElem?_cons_succ, List.getElem?_cons_zero, bq_true, bq_false, decide_true, decide_false, Option.toList_none, Option.toList_some, List.head?_cons, List.head?_nil, nb_cfg, not_false_eq_true, cv_some, pm_some, pm_none, plainA_v, plain_bool, plain_int, plain_str, Bool.false_eq_true, if_false]
          rw [ct_eq]
          refine ⟨fun h => ?_, fun h => ?_⟩
          · have hk : 6 * t + j < 8 * l.length := by simp at h; omega
            have q1 : IntKind.i64.wrap (Int.tdiv ((6 * t + j : Nat) : Int) 8) = (((6 * t + j) / 8 : Nat) : Int) := by
              rw [Int.tdiv_eq_ediv_of_nonneg (by omega)]; exact wi64 (by omega) (by omega)
            have q2 : IntKind.i64.wrap (7 - Int.tmod ((6 * t + j : Nat) : Int) 8) = ((7 - (6 * t + j) % 8 : Nat) : Int) := by
              rw [Int.tmod_eq_emod_of_nonneg (by omega), show (7 - ((6 * t + j : Nat) : Int) % 8) = ((7 - (6 * t + j) % 8 : Nat) : Int) by omega]; exact wi64 (by omega) (by omega)
            have hz : (byts l)[(6 * t + j) / 8]? = some (byt (l[(6 * t + j) / 8]'(by omega))) := by
              rw [byts, List.getElem?_map, List.getElem?_eq_getElem (by omega)]; rfl
            have hb := Zn_bit l (6 * t + j) hk
            simp -dsimp only [hn, h0, h1, h6, h5, h7, h8, bin_quo (show (8 : Int) ≠ 0 by decide), q1, idx22 hx hz rfl, part5, AV.cells, byt, bin_rem (show (8 : Int) ≠ 0 by decide), q2, bin_shr (show (0 : Int) ≤ ((7 - (6 * t + j) % 8 : Nat) : Int) by omega), conv5_3, bit_of _ ((6 * t + j) % 8) (Nat.mod_lt _ (by decide)), ← hb, or_bit _ _ hw (Nat.mod_lt _ (show 0 < 2 by decide)), e9, wt_seq, wt_block, wt_region, wt_cond, wt_skip, wt_ret, wt_exit, wst_nil, wst_app_nil, wst_app_cons, wst_cons, wst_guard, andThen_normal, andThen_ret, andThen_exit, leave_normal, leave_ret, leave_exit, EndsA_ret, EndsA_normal, ot_move, ot_assign, ot_pick, ot_binOp, ot_unOp, ot_convert, ot_field, ot_index, ot_indexAddr, ot_fieldAddr, ot_slice, ot_build, ot_buildSlice, ot_extract, ot_makeInterface, ot_makeFunc, ot_nilCheck, ot_call, ot_len, ot_append, ot_box, ot_load, ot_store, ot_makeSlice, ct_bool, ct_true, ct_false, bt_some, gt_some, aval_tmp, aval_int, aval_bool, aval_str, aval_slice, aval_nilPointer, aval_nilIface, aval_func, aval_global, avals, apairs, bareP, AV.bare, AV.bares, bin_lss, bin_leq, bin_gtr, bin_geq, bin_eql, bin_neq, bin_add, bin_sub, bin_mul, bin_and, bin_or, bin_xor, toV_int, toV_bool, toV_string, un_neg, un_not, bin_str_eql, bin_str_neq, bin_str_lss, bin_str_leq, bin_str_gtr, bin_str_geq, aget_aput, length_aput, aput_none, Nat.reduceEqDiff, Nat.reduceLT, Nat.reduceAdd, reduceIte, reduceCtorEq, Bool.not_false, Bool.not_true, Bool.true_or, true_and, Option.bind_some, Option.map_some, List.nil_append, List.cons_append, resA, resA1, resVal, Option.getD_some, Nat.reduceLeDiff, bnd_some, yieldA_eq, yldOf_some, boolOf_bool, boolOf_undef, gt_none, List.getElem?_toArray, List.getElem?_cons_succ, List.getElem?_cons_zero, bq_true, bq_false, decide_true, decide_false, Option.toList_none, Option.toList_some, List.head?_cons, List.head?_nil, nb_cfg, not_false_eq_true, cv_some, pm_some, pm_none, plainA_v, plain_bool, plain_int, plain_str, Bool.false_eq_true, if_false]
            refine ⟨m - 1, by omega, j + 1, by omega, ⟨?_, rfl, ?_, ?_, ?_, ?_⟩, ?_, ?_⟩
            all_goals simp -dsimp only [hn, h0, h1, h6, h5, wt_seq, wt_block, wt_region, wt_cond, wt_skip, wt_ret, wt_exit, wst_nil, wst_app_nil, wst_app_cons, wst_cons, wst_guard, andThen_normal, andThen_ret, andThen_exit, leave_normal, leave_ret, leave_exit, EndsA_ret, EndsA_normal, ot_move, ot_assign, ot_pick, ot_binOp, ot_unOp, ot_convert, ot_field, ot_index, ot_indexAddr, ot_fieldAddr, ot_slice, ot_build, ot_buildSlice, ot_extract, ot_makeInterface, ot_makeFunc, ot_nilCheck, ot_call, ot_len, ot_append, ot_box, ot_load, ot_store, ot_makeSlice, ct_bool, ct_true, ct_false, bt_some, gt_some, aval_tmp, aval_int, aval_bool, aval_str, aval_slice, aval_nilPointer, aval_nilIface, aval_func, aval_global, avals, apairs, bareP, AV.bare, AV.bares, bin_lss, bin_leq, bin_gtr, bin_geq, bin_eql, bin_neq, bin_add, bin_sub, bin_mul, bin_and, bin_or, bin_xor, toV_int, toV_bool, toV_string, un_neg, un_not, bin_str_eql, bin_str_neq, bin_str_lss, bin_str_leq, bin_str_gtr, bin_str_geq, aget_aput, length_aput, aput_none, Nat.reduceEqDiff, Nat.reduceLT, Nat.reduceAdd, reduceIte, reduceCtorEq, Bool.not_false, Bool.not_true, Bool.true_or, true_and, Option.bind_some, Option.map_some, List.nil_append, List.cons_append, resA, resA1, resVal, Option.getD_some, Nat.reduceLeDiff, bnd_some, yieldA_eq, yldOf_some, boolOf_bool, boolOf_undef, gt_none, List.getElem?_toArray, List.getElem?_cons_succ, List.getElem?_cons_zero, bq_true, bq_false, decide_true, decide_false, Option.toList_none, Option.toList_some, List.head?_cons, List.head?_nil, nb_cfg, not_false_eq_true, cv_some, pm_some, pm_none, plainA_v, plain_bool, plain_int, plain_str, Bool.false_eq_true, if_false]
            rw [hww, half_mod]
            rfl
          · have hk : ¬ 6 * t + j < 8 * l.length := by simp at h; omega
            have hb := Zn_bit0 l (6 * t + j) hk (by omega)
            simp -dsimp only [hn, h0, h1, h6, h5, h7, h8, e9, wt_seq, wt_block, wt_region, wt_cond, wt_skip, wt_ret, wt_exit, wst_nil, wst_app_nil, wst_app_cons, wst_cons, wst_guard, andThen_normal, andThen_ret, andThen_exit, leave_normal, leave_ret, leave_exit, EndsA_ret, EndsA_normal, ot_move, ot_assign, ot_pick, ot_binOp, ot_unOp, ot_convert, ot_field, ot_index, ot_indexAddr, ot_fieldAddr, ot_slice, ot_build, ot_buildSlice, ot_extract, ot_makeInterface, ot_makeFunc, ot_nilCheck, ot_call, ot_len, ot_append, ot_box, ot_load, ot_store, ot_makeSlice, ct_bool, ct_true, ct_false, bt_some, gt_some, aval_tmp, aval_int, aval_bool, aval_str, aval_slice, aval_nilPointer, aval_nilIface, aval_func, aval_global, avals, apairs, bareP, AV.bare, AV.bares, bin_lss, bin_leq, bin_gtr, bin_geq, bin_eql, bin_neq, bin_add, bin_sub, bin_mul, bin_and, bin_or, bin_xor, toV_int, toV_bool, toV_string, un_neg, un_not, bin_str_eql, bin_str_neq, bin_str_lss, bin_str_leq, bin_str_gtr, bin_str_geq, aget_aput, length_aput, aput_none, Nat.reduceEqDiff, Nat.reduceLT, Nat.reduceAdd, reduceIte, reduceCtorEq, Bool.not_false, Bool.not_true, Bool.true_or, true_and, Option.bind_some, Option.map_some, List.nil_append, List.cons_append, resA, resA1, resVal, Option.getD_some, Nat.reduceLeDiff, bnd_some, yieldA_eq, yldOf_some, boolOf_bool, boolOf_undef, gt_none, List.getElem?_toArray, List.getElem?_cons_succ, List.getElem?_cons_zero, bq_true, bq_false, decide_true, decide_false, Option.toList_none, Option.toList_some, List.head?_cons, List.head?_nil, nb_cfg, not_false_eq_true, cv_some, pm_some, pm_none, plainA_v, plain_bool, plain_int, plain_str, Bool.false_eq_true, if_false]
            refine ⟨m - 1, by omega, j + 1, by omega, ⟨?_, rfl, ?_, ?_, ?_, ?_⟩, ?_, ?_⟩
            all_goals simp -dsimp only [hn, h0, h1, h6, h5, wt_seq, wt_block, wt_region, wt_cond, wt_skip, wt_ret, wt_exit, wst_nil, wst_app_nil, wst_app_cons, wst_cons, wst_guard, andThen_normal, andThen_ret, andThen_exit, leave_normal, leave_ret, leave_exit, EndsA_ret, EndsA_normal, ot_move, ot_assign, ot_pick, ot_binOp, ot_unOp, ot_convert, ot_field, ot_index, ot_indexAddr, ot_fieldAddr, ot_slice, ot_build, ot_buildSlice, ot_extract, ot_makeInterface, ot_makeFunc, ot_nilCheck, ot_call, ot_len, ot_append, ot_box, ot_load, ot_store, ot_makeSlice, ct_bool, ct_true, ct_false, bt_some, gt_some, aval_tmp, aval_int, aval_bool, aval_str, aval_slice, aval_nilPointer, aval_nilIface, aval_func, aval_global, avals, apairs, bareP, AV.bare, AV.bares, bin_lss, bin_leq, bin_gtr, bin_geq, bin_eql, bin_neq, bin_add, bin_sub, bin_mul, bin_and, bin_or, bin_xor, toV_int, toV_bool, toV_string, un_neg, un_not, bin_str_eql, bin_str_neq, bin_str_lss, bin_str_leq, bin_str_gtr, bin_str_geq, aget_aput, length_aput, aput_none, Nat.reduceEqDiff, Nat.reduceLT, Nat.reduceAdd, reduceIte, reduceCtorEq, Bool.not_false, Bool.not_true, Bool.true_or, true_and, Option.bind_some, Option.map_some, List.nil_append, List.cons_append, resA, resA1, resVal, Option.getD_some, Nat.reduceLeDiff, bnd_some, yieldA_eq, yldOf_some, boolOf_bool, boolOf_undef, gt_none, List.getElem?_toArray, List.getElem?_cons_succ, List.getElem?_cons_zero, bq_true, bq_false, decide_true, decide_false, Option.toList_none, Option.toList_some, List.head?_cons, List.head?_nil, nb_cfg, not_false_eq_true, cv_some, pm_some, pm_none, plainA_v, plain_bool, plain_int, plain_str, Bool.false_eq_true, if_false]
            rw [hww, ← half_mod, show 6 * t + (j + 1) = 6 * t + j + 1 by omega, hb]
            rfl
        · have hj6 : j = 6 := by simp at h; omega
          subst hj6
          have e10 : IntKind.i64.wrap (((6 * t : Nat) : Int) + 6) = ((6 * (t + 1) : Nat) : Int) := wi64 (by omega) (by omega)
          have hx1 : 6 * Sn l - (6 * t + 6) = 6 * (Sn l - (t + 1)) := by omega
          have hx2 : Zn l / 2 ^ (6 * (Sn l - t)) = Zn l / 2 ^ (6 * (Sn l - (t + 1))) / 64 := by
            rw [Nat.div_div_eq_div_mul, show 64 = 2 ^ 6 from rfl, ← Nat.pow_add]
            congr 2
            omega
          rw [hx1] at h7
          rw [hx2] at h5 ⊢
          rw [wt_exit]
          have hv : Zn l / 2 ^ (6 * (Sn l - (t + 1))) % 2 ^ 6 < 64 := Nat.mod_lt _ (by decide)
          have hsx := sign36P_eq (u := u) hv
          rw [← hp, ← hs] at hsx
          have e11 : byts (outs p s t (Zn l / 2 ^ (6 * (Sn l - (t + 1))) / 64)) ++ [byt (sg p s (Zn l / 2 ^ (6 * (Sn l - (t + 1))) % 2 ^ 6))] = byts (outs p s (t + 1) (Zn l / 2 ^ (6 * (Sn l - (t + 1))))) := by
            rw [outs_succ, byts_snoc]
          have happ := app22 (prim := prim5) (x := byt (sg p s (Zn l / 2 ^ (6 * (Sn l - (t + 1))) % 2 ^ 6))) (f := true) rfl (sized_byts (outs p s t (Zn l / 2 ^ (6 * (Sn l - (t + 1))) / 64))) (by simp only [byts, List.length_map, outs_length]; omega)
          rw [e11] at happ
          have hbs : ∀ c : UInt8, buildSliceA (cfgP prim5) 22 1 [(0, byt c)] = some (.cl true [byt c]) := fun c => bs22
          have hbb : ∀ c : UInt8, AV.bare (byt c) = some (byt c) := fun c => rfl
          simp -dsimp only [hn, h0, h1, h6, h5, h7, h8, ct_prim prim5_36, hsx, hbb, hbs, happ, e10, wt_seq, wt_block, wt_region, wt_cond, wt_skip, wt_ret, wt_exit, wst_nil, wst_app_nil, wst_app_cons, wst_cons, wst_guard, andThen_normal, andThen_ret, andThen_exit, leave_normal, leave_ret, leave_exit, EndsA_ret, EndsA_normal, ot_move, ot_assign, ot_pick, ot_binOp, ot_unOp, ot_convert, ot_field, ot_index, ot_indexAddr, ot_fieldAddr, ot_slice, ot_build, ot_buildSlice, ot_extract, ot_makeInterface, ot_makeFunc, ot_nilCheck, ot_call, ot_len, ot_append, ot_box, ot_load, ot_store, ot_makeSlice, ct_bool, ct_true, ct_false, bt_some, gt_some, aval_tmp, aval_int, aval_bool, aval_str, aval_slice, aval_nilPointer, aval_nilIface, aval_func, aval_global, avals, apairs, bareP, AV.bare, AV.bares, bin_lss, bin_leq, bin_gtr, bin_geq, bin_eql, bin_neq, bin_add, bin_sub, bin_mul, bin_and, bin_or, bin_xor, toV_int, toV_bool, toV_string, un_neg, un_not, bin_str_eql, bin_str_neq, bin_str_lss, bin_str_leq, bin_str_gtr, bin_str_geq, aget_aput, length_aput, aput_none, Nat.reduceEqDiff, Nat.reduceLT, Nat.reduceAdd, reduceIte, reduceCtorEq, Bool.not_false, Bool.not_true, Bool.true_or, true_and, Option.bind_some, Option.map_some, List.nil_append, List.cons_append, resA, resA1, resVal, Option.getD_some, Nat.reduceLeDiff, bnd_some, yieldA_eq, yldOf_some, boolOf_bool, boolOf_undef, gt_none, List.getElem?_toArray, List.getElem?_cons_succ, List.getElem?_cons_zero, bq_true, bq_false, decide_true, decide_false, Option.toList_none, Option.toList_some, List.head?_cons, List.head?_nil, nb_cfg, not_false_eq_true, cv_some, pm_some, pm_none, plainA_v, plain_bool, plain_int, plain_str, Bool.false_eq_true, if_false]
          refine ⟨mm - 1, by omega, t + 1, by omega, ?_, rfl, ?_, ?_, ?_, ?_⟩
          all_goals simp -dsimp only [hn, h0, h1, h6, h5, wt_seq, wt_block, wt_region, wt_cond, wt_skip, wt_ret, wt_exit, wst_nil, wst_app_nil, wst_app_cons, wst_cons, wst_guard, andThen_normal, andThen_ret, andThen_exit, leave_normal, leave_ret, leave_exit, EndsA_ret, EndsA_normal, ot_move, ot_assign, ot_pick, ot_binOp, ot_unOp, ot_convert, ot_field, ot_index, ot_indexAddr, ot_fieldAddr, ot_slice, ot_build, ot_buildSlice, ot_extract, ot_makeInterface, ot_makeFunc, ot_nilCheck, ot_call, ot_len, ot_append, ot_box, ot_load, ot_store, ot_makeSlice, ct_bool, ct_true, ct_false, bt_some, gt_some, aval_tmp, aval_int, aval_bool, aval_str, aval_slice, aval_nilPointer, aval_nilIface, aval_func, aval_global, avals, apairs, bareP, AV.bare, AV.bares, bin_lss, bin_leq, bin_gtr, bin_geq, bin_eql, bin_neq, bin_add, bin_sub, bin_mul, bin_and, bin_or, bin_xor, toV_int, toV_bool, toV_string, un_neg, un_not, bin_str_eql, bin_str_neq, bin_str_lss, bin_str_leq, bin_str_gtr, bin_str_geq, aget_aput, length_aput, aput_none, Nat.reduceEqDiff, Nat.reduceLT, Nat.reduceAdd, reduceIte, reduceCtorEq, Bool.not_false, Bool.not_true, Bool.true_or, true_and, Option.bind_some, Option.map_some, List.nil_append, List.cons_append, resA, resA1, resVal, Option.getD_some, Nat.reduceLeDiff, bnd_some, yieldA_eq, yldOf_some, boolOf_bool, boolOf_undef, gt_none, List.getElem?_toArray, List.getElem?_cons_succ, List.getElem?_cons_zero, bq_true, bq_false, decide_true, decide_false, Option.toList_none, Option.toList_some, List.head?_cons, List.head?_nil, nb_cfg, not_false_eq_true, cv_some, pm_some, pm_none, plainA_v, plain_bool, plain_int, plain_str, Bool.false_eq_true, if_false]
      · refine ⟨0, rfl, ⟨?_, rfl, ?_, ?_, ?_, ?_⟩, ?_, ?_⟩
        any_goals simp -dsimp only [hn, h0, h1, h6, h5, wt_seq, wt_block, wt_region, wt_cond, wt_skip, wt_ret, wt_exit, wst_nil, wst_app_nil, wst_app_cons, wst_cons, wst_guard, andThen_normal, andThen_ret, andThen_exit, leave_normal, leave_ret, leave_exit, EndsA_ret, EndsA_normal, ot_move, ot_assign, ot_pick, ot_binOp, ot_unOp, ot_convert, ot_field, ot_index, ot_indexAddr, ot_fieldAddr, ot_slice, ot_build, ot_buildSlice, ot_extract, ot_makeInterface, ot_makeFunc, ot_nilCheck, ot_call, ot_len, ot_append, ot_box, ot_load, ot_store, ot_makeSlice, ct_bool, ct_true, ct_false, bt_some, gt_some, aval_tmp, aval_int, aval_bool, aval_str, aval_slice, aval_nilPointer, aval_nilIface, aval_func, aval_global, avals, apairs, bareP, AV.bare, AV.bares, bin_lss, bin_leq, bin_gtr, bin_geq, bin_eql, bin_neq, bin_add, bin_sub, bin_mul, bin_and, bin_or, bin_xor, toV_int, toV_bool, toV_string, un_neg, un_not, bin_str_eql, bin_str_neq, bin_str_lss, bin_str_leq, bin_str_gtr, bin_str_geq, aget_aput, length_aput, aput_none, Nat.reduceEqDiff, Nat.reduceLT, Nat.reduceAdd, reduceIte, reduceCtorEq, Bool.not_false, Bool.not_true, Bool.true_or, true_and, Option.bind_some, Option.map_some, List.nil_append, List.cons_append, resA, resA1, resVal, Option.getD_some, Nat.reduceLeDiff, bnd_some, yieldA_eq, yldOf_some, boolOf_bool, boolOf_undef, gt_none, List.getElem?_toArray, List.getElem?_cons_succ, List.getElem?_cons_zero, bq_true, bq_false, decide_true, decide_false, Option.toList_none, Option.toList_some, List.head?_cons, List.head?_nil, nb_cfg, not_false_eq_true, cv_some, pm_some, pm_none, plainA_v, plain_bool, plain_int, plain_str, Bool.false_eq_true, if_false]
        all_goals simp [Nat.mod_one]
    · have htS : t = Sn l := by simp at h; omega
      subst htS
      rw [Nat.sub_self, Nat.mul_zero, Nat.pow_zero, Nat.div_one] at h5 ⊢
      simp -dsimp only [hn, h0, h1, h6, h5, wt_seq, wt_block, wt_region, wt_cond, wt_skip, wt_ret, wt_exit, wst_nil, wst_app_nil, wst_app_cons, wst_cons, wst_guard, andThen_normal, andThen_ret, andThen_exit, leave_normal, leave_ret, leave_exit, EndsA_ret, EndsA_normal, ot_move, ot_assign, ot_pick, ot_binOp, ot_unOp, ot_convert, ot_field, ot_index, ot_indexAddr, ot_fieldAddr, ot_slice, ot_build, ot_buildSlice, ot_extract, ot_makeInterface, ot_makeFunc, ot_nilCheck, ot_call, ot_len, ot_append, ot_box, ot_load, ot_store, ot_makeSlice, ct_bool, ct_true, ct_false, bt_some, gt_some, aval_tmp, aval_int, aval_bool, aval_str, aval_slice, aval_nilPointer, aval_nilIface, aval_func, aval_global, avals, apairs, bareP, AV.bare, AV.bares, bin_lss, bin_leq, bin_gtr, bin_geq, bin_eql, bin_neq, bin_add, bin_sub, bin_mul, bin_and, bin_or, bin_xor, toV_int, toV_bool, toV_string, un_neg, un_not, bin_str_eql, bin_str_neq, bin_str_lss, bin_str_leq, bin_str_gtr, bin_str_geq, aget_aput, length_aput, aput_none, Nat.reduceEqDiff, Nat.reduceLT, Nat.reduceAdd, reduceIte, reduceCtorEq, Bool.not_false, Bool.not_true, Bool.true_or, true_and, Option.bind_some, Option.map_some, List.nil_append, List.cons_append, resA, resA1, resVal, Option.getD_some, Nat.reduceLeDiff, bnd_some, yieldA_eq, yldOf_some, boolOf_bool, boolOf_undef, gt_none, List.getElem?_toArray, List.getElem?_cons_succ, List.getElem?_cons_zero, bq_true, bq_false, decide_true, decide_false, Option.toList_none, Option.toList_some, List.head?_cons, List.head?_nil, nb_cfg, not_false_eq_true, cv_some, pm_some, pm_none, plainA_v, plain_bool, plain_int, plain_str, Bool.false_eq_true, if_false]
      rw [conv22_9]
      simp -dsimp only [hn, wt_seq, wt_block, wt_region, wt_cond, wt_skip, wt_ret, wt_exit, wst_nil, wst_app_nil, wst_app_cons, wst_cons, wst_guard, andThen_normal, andThen_ret, andThen_exit, leave_normal, leave_ret, leave_exit, EndsA_ret, EndsA_normal, ot_move, ot_assign, ot_pick, ot_binOp, ot_unOp, ot_convert, ot_field, ot_index, ot_indexAddr, ot_fieldAddr, ot_slice, ot_build, ot_buildSlice, ot_extract, ot_makeInterface, ot_makeFunc, ot_nilCheck, ot_call, ot_len, ot_append, ot_box, ot_load, ot_store, ot_makeSlice, ct_bool, ct_true, ct_false, bt_some, gt_some, aval_tmp, aval_int, aval_bool, aval_str, aval_slice, aval_nilPointer, aval_nilIface, aval_func, aval_global, avals, apairs, bareP, AV.bare, AV.bares, bin_lss, bin_leq, bin_gtr, bin_geq, bin_eql, bin_neq, bin_add, bin_sub, bin_mul, bin_and, bin_or, bin_xor, toV_int, toV_bool, toV_string, un_neg, un_not, bin_str_eql, bin_str_neq, bin_str_lss, bin_str_leq, bin_str_gtr, bin_str_geq, aget_aput, length_aput, aput_none, Nat.reduceEqDiff, Nat.reduceLT, Nat.reduceAdd, reduceIte, reduceCtorEq, Bool.not_false, Bool.not_true, Bool.true_or, true_and, Option.bind_some, Option.map_some, List.nil_append, List.cons_append, resA, resA1, resVal, Option.getD_some, Nat.reduceLeDiff, bnd_some, yieldA_eq, yldOf_some, boolOf_bool, boolOf_undef, gt_none, List.getElem?_toArray, List.getElem?_cons_succ, List.getElem?_cons_zero, bq_true, bq_false, decide_true, decide_false, Option.toList_none, Option.toList_some, List.head?_cons, List.head?_nil, nb_cfg, not_false_eq_true, cv_some, pm_some, pm_none, plainA_v, plain_bool, plain_int, plain_str, Bool.false_eq_true, if_false]
      refine ⟨1, ?_⟩
      rw [← hp, ← hs]
      rfl
  · refine ⟨0, by omega, ?_, ?_, ?_, ?_, ?_, ?_⟩
    any_goals simp -dsimp only [hn, h0, h1, wt_seq, wt_block, wt_region, wt_cond, wt_skip, wt_ret, wt_exit, wst_nil, wst_app_nil, wst_app_cons, wst_cons, wst_guard, andThen_normal, andThen_ret, andThen_exit, leave_normal, leave_ret, leave_exit, EndsA_ret, EndsA_normal, ot_move, ot_assign, ot_pick, ot_binOp, ot_unOp, ot_convert, ot_field, ot_index, ot_indexAddr, ot_fieldAddr, ot_slice, ot_build, ot_buildSlice, ot_extract, ot_makeInterface, ot_makeFunc, ot_nilCheck, ot_call, ot_len, ot_append, ot_box, ot_load, ot_store, ot_makeSlice, ct_bool, ct_true, ct_false, bt_some, gt_some, aval_tmp, aval_int, aval_bool, aval_str, aval_slice, aval_nilPointer, aval_nilIface, aval_func, aval_global, avals, apairs, bareP, AV.bare, AV.bares, bin_lss, bin_leq, bin_gtr, bin_geq, bin_eql, bin_neq, bin_add, bin_sub, bin_mul, bin_and, bin_or, bin_xor, toV_int, toV_bool, toV_string, un_neg, un_not, bin_str_eql, bin_str_neq, bin_str_lss, bin_str_leq, bin_str_gtr, bin_str_geq, aget_aput, length_aput, aput_none, Nat.reduceEqDiff, Nat.reduceLT, Nat.reduceAdd, reduceIte, reduceCtorEq, Bool.not_false, Bool.not_true, Bool.true_or, true_and, Option.bind_some, Option.map_some, List.nil_append, List.cons_append, resA, resA1, resVal, Option.getD_some, Nat.reduceLeDiff, bnd_some, yieldA_eq, yldOf_some, boolOf_bool, boolOf_undef, gt_none, List.getElem?_toArray, List.getElem?_cons_succ, List.getElem?_cons_zero, bq_true, bq_false, decide_true, decide_false, Option.toList_none, Option.toList_some, List.head?_cons, List.head?_nil, nb_cfg, not_false_eq_true, cv_some, pm_some, pm_none, plainA_v, plain_bool, plain_int, plain_str, Bool.false_eq_true, if_false]
    all_goals simp [outs, Digs.digs, byts, gsl, ghp]
end Go.Proofs.YtonmpbfddiflhaaDoor

/- Chapter 5: plain facts for the document's Get64. -/
namespace Go.Proofs.YtonmpbfddiflhaaDoor
open Go.AM
theorem digs_get (B : Nat) : ∀ (n i Y : Nat), i < n → (Digs.digs B n Y)[i]? = some (Y / B ^ (n - 1 - i) % B)
  | 0, _, _, h => by omega
  | n + 1, i, Y, h => by
    rw [Digs.digs]
    by_cases hi : i < n
    · rw [List.getElem?_append_left (by rw [Digs.digs_length]; exact hi), digs_get B n i _ hi, Nat.div_div_eq_div_mul, ← Nat.pow_succ']
      congr 4
      omega
    · have : i = n := by omega
      subst this
      rw [List.getElem?_append_right (by rw [Digs.digs_length]; exact Nat.le_refl _), Digs.digs_length, Nat.sub_self, show i + 1 - 1 - i = 0 by omega]
      simp
theorem digs_add (B : Nat) (hB : 0 < B) : ∀ (n e Y d : Nat), e < n → Y / B ^ e % B + d < B → Digs.digs B n (Y + d * B ^ e) = (Digs.digs B n Y).set (n - 1 - e) (Y / B ^ e % B + d)
  | 0, _, _, _, h, _ => by omega
  | n + 1, 0, Y, d, _, h => by
    rw [Nat.pow_zero, Nat.div_one] at h
    rw [Digs.digs, Digs.digs, Nat.pow_zero, Nat.mul_one, Nat.div_one]
    have h0 := Nat.div_add_mod Y B
    have e1 : Y + d = B * (Y / B) + (Y % B + d) := by omega
    have e2 : (Y + d) / B = Y / B := by rw [e1, Nat.mul_add_div hB, Nat.div_eq_of_lt h, Nat.add_zero]
    have e3 : (Y + d) % B = Y % B + d := by rw [e1, Nat.mul_add_mod, Nat.mod_eq_of_lt h]
    rw [e2, e3, List.set_append_right _ _ (by rw [Digs.digs_length]; omega), Digs.digs_length]
    simp
  | n + 1, e + 1, Y, d, he, h => by
    rw [Digs.digs, Digs.digs]
    have e1 : Y + d * B ^ (e + 1) = B * (d * B ^ e) + Y := by rw [Nat.pow_succ', Nat.mul_left_comm, Nat.add_comm]
    have e2 : (Y + d * B ^ (e + 1)) / B = Y / B + d * B ^ e := by rw [e1, Nat.mul_add_div hB, Nat.add_comm]
    have e3 : (Y + d * B ^ (e + 1)) % B = Y % B := by rw [e1, Nat.mul_add_mod]
    have e4 : Y / B ^ (e + 1) = Y / B / B ^ e := by rw [Nat.pow_succ', Nat.div_div_eq_div_mul]
    rw [e4] at h ⊢
    rw [e2, e3, digs_add B hB n e (Y / B) d (by omega) h, List.set_append_left _ _ (by rw [Digs.digs_length]; omega)]
    congr 2
    omega
theorem V_take_div (p s : UInt8) (l : List UInt8) (hs : ∀ c ∈ l, nm p s c < 64) (m : Nat) (h : m ≤ l.length) : V p s (l.take m) = V p s l / 2 ^ (6 * (l.length - m)) := by
  have e : V p s l = V p s (l.take m) * 2 ^ (6 * (l.length - m)) + V p s (l.drop m) := by
    have h1 : V p s l = V p s (l.take m ++ l.drop m) := by rw [List.take_append_drop]
    rw [h1]
    unfold V
    rw [List.map_append, Digs.val_append, List.length_map, List.length_drop, show 64 = 2 ^ 6 from rfl, ← Nat.pow_mul]
  have h2 := V_lt p s (l.drop m) fun c hc => hs c (List.mem_of_mem_drop hc)
  rw [List.length_drop] at h2
  rw [e, Nat.mul_comm, Nat.mul_add_div (Nat.pow_pos (by decide)), Nat.div_eq_of_lt h2, Nat.add_zero]
theorem V_bit (p s : UInt8) (l : List UInt8) (hs : ∀ c ∈ l, nm p s c < 64) (i k : Nat) (hi : i < l.length) (hk : k < 6) : V p s l / 2 ^ (6 * l.length - 1 - (6 * i + k)) % 2 = nm p s l[i] / 2 ^ (5 - k) % 2 := by
  rw [show 6 * l.length - 1 - (6 * i + k) = 6 * (l.length - (i + 1)) + (5 - k) by omega, Nat.pow_add, ← Nat.div_div_eq_div_mul, ← V_take_div p s l hs (i + 1) (by omega), V_take p s l i hi]
  have h1 : (64 : Nat) = 2 ^ (5 - k) * (2 ^ k * 2) := by
    rw [← Nat.pow_succ, ← Nat.pow_add, show 5 - k + (k + 1) = 6 by omega]
  rw [show V p s (l.take i) * 64 + nm p s l[i] = 2 ^ (5 - k) * (V p s (l.take i) * (2 ^ k * 2)) + nm p s l[i] by rw [h1, ← Nat.mul_assoc, Nat.mul_comm (V p s _), Nat.mul_assoc], Nat.mul_add_div (Nat.pow_pos (by decide))]
  rw [← Nat.mul_assoc, Nat.add_comm, Nat.add_mul_mod_self_right]
theorem get64_none_bit {p s : UInt8} {l : List UInt8} {i k : Nat} (hi : i < l.length) (hk : k < 6) (hb : nm p s l[i] / 2 ^ (5 - k) % 2 = 1) (hL : 6 * l.length / 8 ≤ (6 * i + k) / 8) : get64 p s l = none := by
  unfold get64
  rw [if_neg]
  rintro ⟨h1, h2, h3⟩
  have hall : ∀ c ∈ l, nm p s c < 64 := fun c hc => by
    rw [List.all_eq_true] at h1
    simpa using h1 _ (List.mem_map.2 ⟨c, hc, rfl⟩)
  have hv := V_bit p s l hall i k hi hk
  rw [hb] at hv
  obtain ⟨q, hq⟩ := Nat.dvd_of_mod_eq_zero (show V p s l % 2 ^ (6 * l.length % 8) = 0 from h3)
  rw [hq, show 6 * l.length % 8 = (6 * l.length - 1 - (6 * i + k)) + ((6 * l.length % 8 - 1 - (6 * l.length - 1 - (6 * i + k))) + 1) by omega, Nat.pow_add, Nat.mul_assoc, Nat.mul_div_cancel_left _ (Nat.pow_pos (by decide)), Nat.pow_succ, Nat.mul_assoc, Nat.mul_left_comm, Nat.mul_mod_right] at hv
  omega
/-- A bit that is set. -/
theorem set_bit (L at' m Y : Nat) (h : at' < 8 * L) (hY : Y * 2 ^ at' = m * 2 ^ (8 * L)) : Y / 256 ^ (L - 1 - at' / 8) % 256 % 2 ^ (8 - at' % 8) = 0 ∧ Y / 256 ^ (L - 1 - at' / 8) % 256 + 2 ^ (7 - at' % 8) < 256 ∧
    outB L (Y + 2 ^ (8 * L - 1 - at')) = (outB L Y).set (at' / 8) (UInt8.ofNat (Y / 256 ^ (L - 1 - at' / 8) % 256 + 2 ^ (7 - at' % 8))) ∧ (Y + 2 ^ (8 * L - 1 - at')) * 2 ^ (at' + 1) = (2 * m + 1) * 2 ^ (8 * L) := by
  have e1 : Y = m * 2 ^ (8 * L - at') := by
    have : 2 ^ (8 * L) = 2 ^ (8 * L - at') * 2 ^ at' := by rw [← Nat.pow_add]; congr 1; omega
    rw [this, ← Nat.mul_assoc] at hY
    exact Nat.eq_of_mul_eq_mul_right (Nat.pow_pos (by decide)) hY
  obtain ⟨e, he⟩ : ∃ e, e = L - 1 - at' / 8 := ⟨_, rfl⟩
  obtain ⟨r, hr⟩ : ∃ r, r = at' % 8 := ⟨_, rfl⟩
  have e2 : 8 * L - at' = 8 * e + (8 - r) := by omega
  have e3 : Y / 256 ^ e = m * 2 ^ (8 - r) := by
    rw [e1, e2, Nat.pow_add, show 256 = 2 ^ 8 from rfl, ← Nat.pow_mul, Nat.mul_comm (2 ^ (8 * e)), ← Nat.mul_assoc, Nat.mul_div_cancel _ (Nat.pow_pos (by decide))]
  rw [← he, ← hr, e3]
  have hr8 : r < 8 := by omega
  have h256 : (256 : Nat) = 2 ^ (8 - r) * 2 ^ r := by rw [← Nat.pow_add, show 8 - r + r = 8 by omega]
  have e4 : m * 2 ^ (8 - r) % 256 = (m % 2 ^ r) * 2 ^ (8 - r) := by
    rw [h256, Nat.mul_comm (2 ^ (8 - r)), Nat.mul_mod_mul_right]
  have e5 : m * 2 ^ (8 - r) % 256 + 2 ^ (7 - r) < 256 := by
    have h1 := Nat.mod_lt m (Nat.pow_pos (n := r) (show 0 < 2 by decide))
    have h2 : (m % 2 ^ r + 1) * 2 ^ (8 - r) ≤ 2 ^ r * 2 ^ (8 - r) := Nat.mul_le_mul_right _ h1
    rw [Nat.mul_comm (2 ^ r), ← h256, Nat.add_mul, Nat.one_mul] at h2
    have h3 : 2 ^ (7 - r) < 2 ^ (8 - r) := Nat.pow_lt_pow_right (by decide) (by omega)
    omega
  refine ⟨by rw [e4, Nat.mul_mod_left], e5, ?_, ?_⟩
  · have e6 : 2 ^ (8 * L - 1 - at') = 2 ^ (7 - r) * 256 ^ e := by
      rw [show 256 = 2 ^ 8 from rfl, ← Nat.pow_mul, ← Nat.pow_add]
      congr 1
      omega
    unfold outB
    rw [e6, digs_add 256 (by decide) L e Y (2 ^ (7 - r)) (by omega) (by rw [e3]; exact e5), List.map_set, e3]
    congr 1
    omega
  · have e7 : 2 ^ (8 * L - 1 - at') * 2 ^ (at' + 1) = 2 ^ (8 * L) := by
      rw [← Nat.pow_add]; congr 1; omega
    rw [Nat.add_mul, e7, Nat.pow_succ, ← Nat.mul_assoc, hY, Nat.add_mul, Nat.one_mul, Nat.mul_comm 2 m, Nat.mul_right_comm]
theorem or_pow (c r : Nat) (hc : c < 256) (hr : r < 8) (h : c % 2 ^ (8 - r) = 0) (h2 : c + 2 ^ (7 - r) < 256) : IntKind.u8.wrap ((BitVec.ofInt IntKind.u8.bits (c : Int) ||| BitVec.ofInt IntKind.u8.bits (IntKind.u8.wrap (1 * 2 ^ min (((7 - r : Nat) : Int)).toNat IntKind.u8.bits))).toNat : Nat) = ((UInt8.ofNat (c + 2 ^ (7 - r))).toNat : Int) := by
  have e0 : min (((7 - r : Nat) : Int)).toNat IntKind.u8.bits = 7 - r := by
    rw [show IntKind.u8.bits = 8 from rfl]; omega
  have hp : 2 ^ (7 - r) < 256 := by omega
  have e1 : IntKind.u8.wrap (1 * 2 ^ (7 - r)) = ((2 ^ (7 - r) : Nat) : Int) := by
    rw [show (1 * 2 ^ (7 - r) : Int) = ((2 ^ (7 - r) : Nat) : Int) by rw [Int.one_mul, Int.natCast_pow]; rfl, wrap8, Nat.mod_eq_of_lt hp]
  rw [e0, e1, show IntKind.u8.bits = 8 from rfl, wrap8]
  simp only [BitVec.ofInt_natCast, BitVec.toNat_or, BitVec.toNat_ofNat]
  obtain ⟨q, hq⟩ := Nat.dvd_of_mod_eq_zero h
  rw [Nat.mod_eq_of_lt (show c < 2 ^ 8 from hc), Nat.mod_eq_of_lt (show 2 ^ (7 - r) < 2 ^ 8 from hp)]
  have h3 := Nat.shiftLeft_add_eq_or_of_lt (show 2 ^ (7 - r) < 2 ^ (8 - r) from Nat.pow_lt_pow_right (by decide) (by omega)) q
  rw [Nat.shiftLeft_eq, Nat.mul_comm, ← hq] at h3
  rw [← h3, Nat.mod_eq_of_lt h2, UInt8.toNat_ofNat', Nat.mod_eq_of_lt h2]
theorem bit6 (n k : Nat) (hn : n < 64) (hk : k < 6) : IntKind.i64.wrap ((BitVec.ofInt IntKind.i64.bits (((n : Nat) : Int).fdiv (2 ^ min (((5 - k : Nat) : Int)).toNat IntKind.i64.bits)) &&& BitVec.ofInt IntKind.i64.bits 1).toNat : Nat) = ((n / 2 ^ (5 - k) % 2 : Nat) : Int) := by
  have e0 : min (((5 - k : Nat) : Int)).toNat IntKind.i64.bits = 5 - k := by
    rw [show IntKind.i64.bits = 64 from rfl]; omega
  have e1 : ((n : Nat) : Int).fdiv (2 ^ (5 - k)) = ((n / 2 ^ (5 - k) : Nat) : Int) := by
    rw [show (2 : Int) ^ (5 - k) = ((2 ^ (5 - k) : Nat) : Int) by rw [Int.natCast_pow]; rfl, Int.fdiv_eq_ediv_of_nonneg _ (Int.natCast_nonneg _)]; rfl
  have hd : n / 2 ^ (5 - k) < 64 := Nat.lt_of_le_of_lt (Nat.div_le_self _ _) hn
  rw [e0, e1, show IntKind.i64.bits = 64 from rfl, show (1 : Int) = ((1 : Nat) : Int) from rfl]
  generalize n / 2 ^ (5 - k) = q at *
  simp only [BitVec.ofInt_natCast, BitVec.toNat_and, BitVec.toNat_ofNat]
  rw [Nat.mod_eq_of_lt (show q < 2 ^ 64 by omega), show 1 % 2 ^ 64 = 2 ^ 1 - 1 from rfl, Nat.and_two_pow_sub_one_eq_mod]
  have := Nat.mod_lt q (show 0 < 2 ^ 1 by decide)
  exact wi64 (by omega) (by omega)
end Go.Proofs.YtonmpbfddiflhaaDoor

/- Chapter 5: the document's Get64. -/
namespace Go.Proofs.YtonmpbfddiflhaaDoor
open Go.AM
def prim6 : FuncId → Option (List AV → Option AV) := fun f => if f = 35 then some sixP else none
theorem cok6 : (cfgP prim6).Ok := cfgOf_ok mixed fok (fun f p h => by
  simp only [prim6] at h
  split at h
  · rename_i hf
    injection h with h; subst h; subst hf
    exact prim_at Tryd.func35 (by kernel_rfl) rfl (fun _ _ h => sixP_ok h)
  · cases h)
theorem prim6_35 : (cfgP prim6).prim 35 = some sixP := rfl
section
variable {prim : FuncId → Option (List AV → Option AV)}
theorem make22 {L : Nat} (h : L < 2 ^ 40) : makeA (cfgP prim) 22 (.v (.int .i64 L)) (.v (.int .i64 L)) {} = some (.ex 0 0 1 0 L, hb1 1 (byts (outB L 0))) := by
  have e : byts (outB L 0) = List.replicate L (AV.v (.int .u8 0)) := by
    have : ∀ L : Nat, Digs.digs 256 L 0 = List.replicate L 0 := by
      intro L
      induction L with
      | zero => rfl
      | succ L ih => rw [Digs.digs, Nat.zero_div, ih, List.replicate_succ']
    simp only [byts, outB, this, List.map_replicate]
    rfl
  rw [e]
  exact make_hb1 (n := 0) (b := 1) (e := 5) (by kernel_rfl) (by kernel_rfl) csz5 rfl rfl (by kernel_rfl) (by omega)
theorem idxE {L i : Nat} {k : IntKind} (h : i < L) : indexAddrA (cfgP prim) 22 (.ex 0 0 1 0 L) (.v (.int k i)) = some (.ptr 0 0 i 0) := indexAddr_ex (n := 0) (e := 5) (by kernel_rfl) csz5 h
theorem lenE {L : Nat} : lenA (cfgP prim) #[22] [.ex 0 0 1 0 L] = some (.v (.int .i64 L)) := len_ex (e := 5) (by kernel_rfl)
end
structure gO (p s : UInt8) (u : Bool) (l : List UInt8) (L i Y : Nat) (e : Env) (h : Hp) : Prop where
  len : e.length = 64
  hp : h = hb1 1 (byts (outB L Y))
  a0 : aget e 0 = str l
  a1 : aget e 1 = .v (.bool u)
  a6 : aget e 6 = .ex 0 0 1 0 L
  a7 : aget e 7 = .v (.int .i64 i)
structure gIn (p s : UInt8) (u : Bool) (l : List UInt8) (L i Y n k : Nat) (e : Env) (h : Hp) : Prop where
  out : gO p s u l L i Y e h
  a8 : aget e 8 = .v (.int .i64 n)
  a9 : aget e 9 = .v (.int .i64 k)
theorem thaw_ex (L : Nat) (l : List UInt8) (h : l.length = L) : (AV.tup [.ex 0 0 1 0 L, .v (.int .i64 0)]).thaw (hb1 1 (byts l)) (L + 10) = some (.tup [.ro (byts l), .v (.int .i64 0)]) := by
  have h1 : ∀ (l : List UInt8) (n : Nat) (H : Hp), l.length + 2 ≤ n → AV.thaws H n (byts l) = some (byts l) := by
    intro l
    induction l with
    | nil => intro n H hn; obtain ⟨m, rfl⟩ : ∃ m, n = m + 1 := ⟨n - 1, by omega⟩; rfl
    | cons c l ih =>
      intro n H hn
      obtain ⟨m, rfl⟩ : ∃ m, n = m + 2 := ⟨n - 2, by simp at hn; omega⟩
      have := ih (m + 1) H (by simp at hn; omega)
      simp only [byts, List.map_cons, AV.thaws, byt, AV.thaw] at this ⊢
      rw [this]
  subst h
  have h2 := h1 l (l.length + 7) (hb1 1 (byts l)) (by omega)
  have h3 : 0 + l.length ≤ (byts l).length ∧ (1 : Nat) = 1 := by simp [byts]
  have h4 : ((byts l).drop 0).take l.length = byts l := by
    rw [List.drop_zero, List.take_of_length_le (by simp [byts])]
  simp only [AV.thaw, AV.thaws, blk_hb1, h3, and_self, if_true, h4, h2, Option.map_some]
/-- What Get64 hands back. -/
def getX : Option (List UInt8) → AV
  | some l => .tup [.ro (byts l), .v (.int .i64 0)]
  | none => .tup [.v (.slice none 0 0), .v (.int .i64 2)]
theorem Get64_ok (u : Bool) (l : List UInt8) (hl : l.length < 2 ^ 36) : PureOk (cfgP prim6) 16 [str l, .v (.bool u)] (getX (get64 (pU u) (sU u) l)) := by
  obtain ⟨p, hp⟩ : ∃ p, p = pU u := ⟨_, rfl⟩
  obtain ⟨s, hs⟩ : ∃ s, s = sU u := ⟨_, rfl⟩
  obtain ⟨L, hL⟩ : ∃ L, L = 6 * l.length / 8 := ⟨_, rfl⟩
  have hsx : ∀ c : UInt8, sixP [.v (.int .u8 c.toNat), .v (.bool u)] = some (.v (.int .i64 (sixR p s c))) := fun c => by rw [hp, hs]; exact sixP_eq
  rw [← hp, ← hs]
  have e1 : IntKind.i64.wrap (6 * (l.length : Int)) = ((6 * l.length : Nat) : Int) := by
    rw [show (6 * (l.length : Int)) = ((6 * l.length : Nat) : Int) by omega]; exact wi64 (by omega) (by omega)
  have e2 : IntKind.i64.wrap (Int.tdiv ((6 * l.length : Nat) : Int) 8) = (L : Int) := by
    rw [Int.tdiv_eq_ediv_of_nonneg (by omega), hL]; exact wi64 (by omega) (by omega)
  have hbyt : ∀ c : UInt8, AV.v (.int .u8 c.toNat) = byt c := fun _ => rfl
  refine pure_of_wk (call := noCall) (fn := Tryd.f16) (rs := [.tmp 4, .tmp 5]) cok6 noCall_ok (fns_cfg Tryd.func16 rfl) rfl rfl ?_
  intro env hl0 ha
  have hn : env.length = 64 := hl0
  have h0 := ha 0 _ rfl
  have h1 := ha 1 _ rfl
  clear ha hl0
  refine wkT_of ?_
  simp -dsimp only [hn, h0, h1, len9, e1, bin_quo (show (8 : Int) ≠ 0 by decide), e2, make22 (show L < 2 ^ 40 by omega), wt_seq, wt_block, wt_region, wt_cond, wt_skip, wt_ret, wt_exit, wst_nil, wst_app_nil, wst_app_cons, wst_cons, wst_guard, andThen_normal, andThen_ret, andThen_exit, leave_normal, leave_ret, leave_exit, EndsA_ret, EndsA_normal, ot_move, ot_assign, ot_pick, ot_binOp, ot_unOp, ot_convert, ot_field, ot_index, ot_indexAddr, ot_fieldAddr, ot_slice, ot_build, ot_buildSlice, ot_extract, ot_makeInterface, ot_makeFunc, ot_nilCheck, ot_call, ot_len, ot_append, ot_box, ot_load, ot_store, ot_makeSlice, ct_bool, ct_true, ct_false, bt_some, gt_some, aval_tmp, aval_int, aval_bool, aval_str, aval_slice, aval_nilPointer, aval_nilIface, aval_func, aval_global, avals, apairs, bareP, AV.bare, AV.bares, bin_lss, bin_leq, bin_gtr, bin_geq, bin_eql, bin_neq, bin_add, bin_sub, bin_mul, bin_and, bin_or, bin_xor, toV_int, toV_bool, toV_string, un_neg, un_not, bin_str_eql, bin_str_neq, bin_str_lss, bin_str_leq, bin_str_gtr, bin_str_geq, aget_aput, length_aput, aput_none, Nat.reduceEqDiff, Nat.reduceLT, Nat.reduceAdd, reduceIte, reduceCtorEq, Bool.not_false, Bool.not_true, Bool.true_or, true_and, Option.bind_some, Option.map_some, List.nil_append, List.cons_append, resA, resA1, resVal, Option.getD_some, Nat.reduceLeDiff, bnd_some, yieldA_eq, yldOf_some, boolOf_bool, boolOf_undef, gt_none, List.getElem?_toArray, List.getElem?_cons_succ, List.getElem?_cons_zero, bq_true, bq_false, decide_true, decide_false, Option.toList_none, Option.toList_some, List.head?_cons, List.head?_nil, nb_cfg, not_false_eq_true, cv_some, pm_some, pm_none, plainA_v, plain_bool, plain_int, plain_str, Bool.false_eq_true, if_false]
  refine wt_loop (m := l.length) (fun m e h => ∃ i Y, i + m = l.length ∧ gO p s u l L i Y e h ∧ Y * 2 ^ (6 * i) = V p s (l.take i) * 2 ^ (8 * L) ∧ ∀ c ∈ l.take i, nm p s c < 64) ?_ ?_
  · rintro mm e h ⟨i, Y, hi, ⟨hn, rfl, h0, h1, h6, h7⟩, hY, hsm⟩
    simp -dsimp only [hn, h0, h1, h6, h7, len9, wt_seq, wt_block, wt_region, wt_cond, wt_skip, wt_ret, wt_exit, wst_nil, wst_app_nil, wst_app_cons, wst_cons, wst_guard, andThen_normal, andThen_ret, andThen_exit, leave_normal, leave_ret, leave_exit, EndsA_ret, EndsA_normal, ot_move, ot_assign, ot_pick, ot_binOp, ot_unOp, ot_convert, ot_field, ot_index, ot_indexAddr, ot_fieldAddr, ot_slice, ot_build, ot_buildSlice, ot_extract, ot_makeInterface, ot_makeFunc, ot_nilCheck, ot_call, ot_len, ot_append, ot_box, ot_load, ot_store, ot_makeSlice, ct_bool, ct_true, ct_false, bt_some, gt_some, aval_tmp, aval_int, aval_bool, aval_str, aval_slice, aval_nilPointer, aval_nilIface, aval_func, aval_global, avals, apairs, bareP, AV.bare, AV.bares, bin_lss, bin_leq, bin_gtr, bin_geq, bin_eql, bin_neq, bin_add, bin_sub, bin_mul, bin_and, bin_or, bin_xor, toV_int, toV_bool, toV_string, un_neg, un_not, bin_str_eql, bin_str_neq, bin_str_lss, bin_str_leq, bin_str_gtr, bin_str_geq, aget_aput, length_aput, aput_none, Nat.reduceEqDiff, Nat.reduceLT, Nat.reduceAdd, reduceIte, reduceCtorEq, Bool.not_false, Bool.not_true, Bool.true_or, true_and, Option.bind_some, Option.map_some, List.nil_append, List.cons_append, resA, resA1, resVal, Option.getD_some, Nat.reduceLeDiff, bnd_some, yieldA_eq, yldOf_some, boolOf_bool, boolOf_undef, gt_none, List.getElem?_toArray, List.getElem?_cons_succ, List.getElem?_cons_zero, bq_true, bq_false, decide_true, decide_false, Option.toList_none, Option.toList_some, List.head?_cons, List.head?_nil, nb_cfg, not_false_eq_true, cv_some, pm_some, pm_none, plainA_v, plain_bool, plain_int, plain_str, Bool.false_eq_true, if_false]
    rw [ct_eq]
    refine ⟨fun h => ?_, fun h => ?_⟩
    · have hil : i < l.length := by simpa using h
      simp -dsimp only [hn, h0, h1, h6, h7, index9 hil, ct_prim prim6_35, byt, hsx, wt_seq, wt_block, wt_region, wt_cond, wt_skip, wt_ret, wt_exit, wst_nil, wst_app_nil, wst_app_cons, wst_cons, wst_guard, andThen_normal, andThen_ret, andThen_exit, leave_normal, leave_ret, leave_exit, EndsA_ret, EndsA_normal, ot_move, ot_assign, ot_pick, ot_binOp, ot_unOp, ot_convert, ot_field, ot_index, ot_indexAddr, ot_fieldAddr, ot_slice, ot_build, ot_buildSlice, ot_extract, ot_makeInterface, ot_makeFunc, ot_nilCheck, ot_call, ot_len, ot_append, ot_box, ot_load, ot_store, ot_makeSlice, ct_bool, ct_true, ct_false, bt_some, gt_some, aval_tmp, aval_int, aval_bool, aval_str, aval_slice, aval_nilPointer, aval_nilIface, aval_func, aval_global, avals, apairs, bareP, AV.bare, AV.bares, bin_lss, bin_leq, bin_gtr, bin_geq, bin_eql, bin_neq, bin_add, bin_sub, bin_mul, bin_and, bin_or, bin_xor, toV_int, toV_bool, toV_string, un_neg, un_not, bin_str_eql, bin_str_neq, bin_str_lss, bin_str_leq, bin_str_gtr, bin_str_geq, aget_aput, length_aput, aput_none, Nat.reduceEqDiff, Nat.reduceLT, Nat.reduceAdd, reduceIte, reduceCtorEq, Bool.not_false, Bool.not_true, Bool.true_or, true_and, Option.bind_some, Option.map_some, List.nil_append, List.cons_append, resA, resA1, resVal, Option.getD_some, Nat.reduceLeDiff, bnd_some, yieldA_eq, yldOf_some, boolOf_bool, boolOf_undef, gt_none, List.getElem?_toArray, List.getElem?_cons_succ, List.getElem?_cons_zero, bq_true, bq_false, decide_true, decide_false, Option.toList_none, Option.toList_some, List.head?_cons, List.head?_nil, nb_cfg, not_false_eq_true, cv_some, pm_some, pm_none, plainA_v, plain_bool, plain_int, plain_str, Bool.false_eq_true, if_false]
      by_cases hc : nm p s l[i] < 64
      · have hx : sixR p s l[i] = (nm p s l[i] : Int) := if_pos hc
        have hd : decide (((nm p s l[i] : Nat) : Int) < 0) = false := by simp
        simp -dsimp only [hn, h0, h1, h6, h7, hx, hd, wt_seq, wt_block, wt_region, wt_cond, wt_skip, wt_ret, wt_exit, wst_nil, wst_app_nil, wst_app_cons, wst_cons, wst_guard, andThen_normal, andThen_ret, andThen_exit, leave_normal, leave_ret, leave_exit, EndsA_ret, EndsA_normal, ot_move, ot_assign, ot_pick, ot_binOp, ot_unOp, ot_convert, ot_field, ot_index, ot_indexAddr, ot_fieldAddr, ot_slice, ot_build, ot_buildSlice, ot_extract, ot_makeInterface, ot_makeFunc, ot_nilCheck, ot_call, ot_len, ot_append, ot_box, ot_load, ot_store, ot_makeSlice, ct_bool, ct_true, ct_false, bt_some, gt_some, aval_tmp, aval_int, aval_bool, aval_str, aval_slice, aval_nilPointer, aval_nilIface, aval_func, aval_global, avals, apairs, bareP, AV.bare, AV.bares, bin_lss, bin_leq, bin_gtr, bin_geq, bin_eql, bin_neq, bin_add, bin_sub, bin_mul, bin_and, bin_or, bin_xor, toV_int, toV_bool, toV_string, un_neg, un_not, bin_str_eql, bin_str_neq, bin_str_lss, bin_str_leq, bin_str_gtr, bin_str_geq, aget_aput, length_aput, aput_none, Nat.reduceEqDiff, Nat.reduceLT, Nat.reduceAdd, reduceIte, reduceCtorEq, Bool.not_false, Bool.not_true, Bool.true_or, true_and, Option.bind_some, Option.map_some, List.nil_append, List.cons_append, resA, resA1, resVal, Option.getD_some, Nat.reduceLeDiff, bnd_some, yieldA_eq, yldOf_some, boolOf_bool, boolOf_undef, gt_none, List.getElem?_toArray, List.getElem?_cons_succ, List.getElem?_cons_zero, bq_true, bq_false, decide_true, decide_false, Option.toList_none, Option.toList_some, List.head?_cons, List.head?_nil, nb_cfg, not_false_eq_true, cv_some, pm_some, pm_none, plainA_v, plain_bool, plain_int, plain_str, Bool.false_eq_true, if_false]
        refine wt_loop (m := 6) (fun m e h => ∃ k Y, k + m = 6 ∧ gIn p s u l L i Y (nm p s l[i]) k e h ∧ Y * 2 ^ (6 * i + k) = (V p s (l.take i) * 2 ^ k + nm p s l[i] / 2 ^ (6 - k)) * 2 ^ (8 * L)) ?_ ?_
        · rintro m e h ⟨k, Y, hk, ⟨⟨hn, rfl, h0, h1, h6, h7⟩, h8, h9⟩, hY⟩
          have e5 : IntKind.i64.wrap ((k : Int) + 1) = ((k + 1 : Nat) : Int) := wi64 (by omega) (by omega)
          simp -dsimp only [hn, h0, h1, h6, h7, h8, h9, wt_seq, wt_block, wt_region, wt_cond, wt_skip, wt_ret, wt_exit, wst_nil, wst_app_nil, wst_app_cons, wst_cons, wst_guard, andThen_normal, andThen_ret, andThen_exit, leave_normal, leave_ret, leave_exit, EndsA_ret, EndsA_normal, ot_move, ot_assign, ot_pick, ot_binOp, ot_unOp, ot_convert, ot_field, ot_index, ot_indexAddr, ot_fieldAddr, ot_slice, ot_build, ot_buildSlice, ot_extract, ot_makeInterface, ot_makeFunc, ot_nilCheck, ot_call, ot_len, ot_append, ot_box, ot_load, ot_store, ot_makeSlice, ct_bool, ct_true, ct_false, bt_some, gt_some, aval_tmp, aval_int, aval_bool, aval_str, aval_slice, aval_nilPointer, aval_nilIface, aval_func, aval_global, avals, apairs, bareP, AV.bare, AV.bares, bin_lss, bin_leq, bin_gtr, bin_geq, bin_eql, bin_neq, bin_add, bin_sub, bin_mul, bin_and, bin_or, bin_xor, toV_int, toV_bool, toV_string, un_neg, un_not, bin_str_eql, bin_str_neq, bin_str_lss, bin_str_leq, bin_str_gtr, bin_str_geq, aget_aput, length_aput, aput_none, Nat.reduceEqDiff, Nat.reduceLT, Nat.reduceAdd, reduceIte, reduceCtorEq, Bool.not_false, Bool.not_true, Bool.true_or, true_and, Option.bind_some, Option.map_some, List.nil_append, List.cons_append, resA, resA1, resVal, Option.getD_some, Nat.reduceLeDiff, bnd_some, yieldA_eq, yldOf_some, boolOf_bool, boolOf_undef, gt_none, List.getElem?_toArray, List.getElem?_cons_succ, List.getElem?_cons_zero, bq_true, bq_false, decide_true, decide_false, Option.toList_none, Option.toList_some, List.head?_cons, List.head?_nil, nb_cfg, not_false_eq_true, cv_some, pm_some, pm_none, plainA_v, plain_bool, plain_int, plain_str, Bool.false_eq_true, if_false]
          rw [ct_eq]
          refine ⟨fun h => ?_, fun h => ?_⟩
          · have hk6 : k < 6 := by simp at h; omega
            have e3 : IntKind.i64.wrap (6 * (i : Int)) = ((6 * i : Nat) : Int) := by
              rw [show (6 * (i : Int)) = ((6 * i : Nat) : Int) by omega]; exact wi64 (by omega) (by omega)
            have e4 : IntKind.i64.wrap (((6 * i : Nat) : Int) + (k : Int)) = ((6 * i + k : Nat) : Int) := wi64 (by omega) (by omega)
            have e6 : IntKind.i64.wrap (5 - (k : Int)) = ((5 - k : Nat) : Int) := by
              rw [show (5 - (k : Int)) = ((5 - k : Nat) : Int) by omega]; exact wi64 (by omega) (by omega)
            have e7 : nm p s l[i] / 2 ^ (6 - (k + 1)) = 2 * (nm p s l[i] / 2 ^ (6 - k)) + nm p s l[i] / 2 ^ (5 - k) % 2 := by
              have : nm p s l[i] / 2 ^ (6 - k) = nm p s l[i] / 2 ^ (5 - k) / 2 := by
                rw [Nat.div_div_eq_div_mul, ← Nat.pow_succ]; congr 2; omega
              rw [this, show 6 - (k + 1) = 5 - k by omega]
              omega
            simp -dsimp only [hn, h0, h1, h6, h7, h8, h9, e3, e4, e6, bin_shr (show (0 : Int) ≤ ((5 - k : Nat) : Int) by omega), bit6 _ k hc hk6, wt_seq, wt_block, wt_region, wt_cond, wt_skip, wt_ret, wt_exit, wst_nil, wst_app_nil, wst_app_cons, wst_cons, wst_guard, andThen_normal, andThen_ret, andThen_exit, leave_normal, leave_ret, leave_exit, EndsA_ret, EndsA_normal, ot_move, ot_assign, ot_pick, ot_binOp, ot_unOp, ot_convert, ot_field, ot_index, ot_indexAddr, ot_fieldAddr, ot_slice, ot_build, ot_buildSlice, ot_extract, ot_makeInterface, ot_makeFunc, ot_nilCheck, ot_call, ot_len, ot_append, ot_box, ot_load, ot_store, ot_makeSlice, ct_bool, ct_true, ct_false, bt_some, gt_some, aval_tmp, aval_int, aval_bool, aval_str, aval_slice, aval_nilPointer, aval_nilIface, aval_func, aval_global, avals, apairs, bareP, AV.bare, AV.bares, bin_lss, bin_leq, bin_gtr, bin_geq, bin_eql, bin_neq, bin_add, bin_sub, bin_mul, bin_and, bin_or, bin_xor, toV_int, toV_bool, toV_string, un_neg, un_not, bin_str_eql, bin_str_neq, bin_str_lss, bin_str_leq, bin_str_gtr, bin_str_geq, aget_aput, length_aput, aput_none, Nat.reduceEqDiff, Nat.reduceLT, Nat.reduceAdd, reduceIte, reduceCtorEq, Bool.not_false, Bool.not_true, Bool.true_or, true_and, Option.bind_some, Option.map_some, List.nil_append, List.cons_append, resA, resA1, resVal, Option.getD_some, Nat.reduceLeDiff, bnd_some, yieldA_eq, yldOf_some, boolOf_bool, boolOf_undef, gt_none, List.getElem?_toArray, List.getElem?_cons_succ, List.getElem?_cons_zero, bq_true, bq_false, decide_true, decide_false, Option.toList_none, Option.toList_some, List.head?_cons, List.head?_nil, nb_cfg, not_false_eq_true, cv_some, pm_some, pm_none, plainA_v, plain_bool, plain_int, plain_str, Bool.false_eq_true, if_false]
            by_cases hb : nm p s l[i] / 2 ^ (5 - k) % 2 = 0
            · rw [hb] at e7 ⊢
              simp -dsimp only [hn, h0, h1, h6, h7, h8, h9, e5, show decide (((0 : Nat) : Int) = 0) = true from rfl, wt_seq, wt_block, wt_region, wt_cond, wt_skip, wt_ret, wt_exit, wst_nil, wst_app_nil, wst_app_cons, wst_cons, wst_guard, andThen_normal, andThen_ret, andThen_exit, leave_normal, leave_ret, leave_exit, EndsA_ret, EndsA_normal, ot_move, ot_assign, ot_pick, ot_binOp, ot_unOp, ot_convert, ot_field, ot_index, ot_indexAddr, ot_fieldAddr, ot_slice, ot_build, ot_buildSlice, ot_extract, ot_makeInterface, ot_makeFunc, ot_nilCheck, ot_call, ot_len, ot_append, ot_box, ot_load, ot_store, ot_makeSlice, ct_bool, ct_true, ct_false, bt_some, gt_some, aval_tmp, aval_int, aval_bool, aval_str, aval_slice, aval_nilPointer, aval_nilIface, aval_func, aval_global, avals, apairs, bareP, AV.bare, AV.bares, bin_lss, bin_leq, bin_gtr, bin_geq, bin_eql, bin_neq, bin_add, bin_sub, bin_mul, bin_and, bin_or, bin_xor, toV_int, toV_bool, toV_string, un_neg, un_not, bin_str_eql, bin_str_neq, bin_str_lss, bin_str_leq, bin_str_gtr, bin_str_geq, aget_aput, length_aput, aput_none, Nat.reduceEqDiff, Nat.reduceLT, Nat.reduceAdd, reduceIte, reduceCtorEq, Bool.not_false, Bool.not_true, Bool.true_or, true_and, Option.bind_some, Option.map_some, List.nil_append, List.cons_append, resA, resA1, resVal, Option.getD_some, Nat.reduceLeDiff, bnd_some, yieldA_eq, yldOf_some, boolOf_bool, boolOf_undef, gt_none, List.getElem?_toArray, List.getElem?_cons_succ, List.getElem?_cons_zero, bq_true, bq_false, decide_true, decide_false, Option.toList_none, Option.toList_some, List.head?_cons, List.head?_nil, nb_cfg, not_false_eq_true, cv_some, pm_some, pm_none, plainA_v, plain_bool, plain_int, plain_str, Bool.false_eq_true, if_false]
              refine ⟨m - 1, by omega, k + 1, Y, by omega, ⟨⟨?_, rfl, ?_, ?_, ?_, ?_⟩, ?_, ?_⟩, ?_⟩
              any_goals simp -dsimp only [hn, h0, h1, h6, h7, h8, wt_seq, wt_block, wt_region, wt_cond, wt_skip, wt_ret, wt_exit, wst_nil, wst_app_nil, wst_app_cons, wst_cons, wst_guard, andThen_normal, andThen_ret, andThen_exit, leave_normal, leave_ret, leave_exit, EndsA_ret, EndsA_normal, ot_move, ot_assign, ot_pick, ot_binOp, ot_unOp, ot_convert, ot_field, ot_index, ot_indexAddr, ot_fieldAddr, ot_slice, ot_build, ot_buildSlice, ot_extract, ot_makeInterface, ot_makeFunc, ot_nilCheck, ot_call, ot_len, ot_append, ot_box, ot_load, ot_store, ot_makeSlice, ct_bool, ct_true, ct_false, bt_some, gt_some, aval_tmp, aval_int, aval_bool, aval_str, aval_slice, aval_nilPointer, aval_nilIface, aval_func, aval_global, avals, apairs, bareP, AV.bare, AV.bares, bin_lss, bin_leq, bin_gtr, bin_geq, bin_eql, bin_neq, bin_add, bin_sub, bin_mul, bin_and, bin_or, bin_xor, toV_int, toV_bool, toV_string, un_neg, un_not, bin_str_eql, bin_str_neq, bin_str_lss, bin_str_leq, bin_str_gtr, bin_str_geq, aget_aput, length_aput, aput_none, Nat.reduceEqDiff, Nat.reduceLT, Nat.reduceAdd, reduceIte, reduceCtorEq, Bool.not_false, Bool.not_true, Bool.true_or, true_and, Option.bind_some, Option.map_some, List.nil_append, List.cons_append, resA, resA1, resVal, Option.getD_some, Nat.reduceLeDiff, bnd_some, yieldA_eq, yldOf_some, boolOf_bool, boolOf_undef, gt_none, List.getElem?_toArray, List.getElem?_cons_succ, List.getElem?_cons_zero, bq_true, bq_false, decide_true, decide_false, Option.toList_none, Option.toList_some, List.head?_cons, List.head?_nil, nb_cfg, not_false_eq_true, cv_some, pm_some, pm_none, plainA_v, plain_bool, plain_int, plain_str, Bool.false_eq_true, if_false]
              rw [e7, ← Nat.add_assoc, Nat.pow_succ, ← Nat.mul_assoc, hY, Nat.pow_succ, ← Nat.mul_assoc]
              generalize V p s (l.take i) * 2 ^ k = A
              generalize nm p s l[i] / 2 ^ (6 - k) = B
              rw [Nat.mul_right_comm]
              congr 1
              omega
            · have hb1 : nm p s l[i] / 2 ^ (5 - k) % 2 = 1 := by omega
              rw [hb1] at e7 ⊢
              have q1 : IntKind.i64.wrap (Int.tdiv ((6 * i + k : Nat) : Int) 8) = (((6 * i + k) / 8 : Nat) : Int) := by
                rw [Int.tdiv_eq_ediv_of_nonneg (by omega)]; exact wi64 (by omega) (by omega)
              have q2 : IntKind.i64.wrap (7 - Int.tmod ((6 * i + k : Nat) : Int) 8) = ((7 - (6 * i + k) % 8 : Nat) : Int) := by
                rw [Int.tmod_eq_emod_of_nonneg (by omega), show (7 - ((6 * i + k : Nat) : Int) % 8) = ((7 - (6 * i + k) % 8 : Nat) : Int) by omega]; exact wi64 (by omega) (by omega)
              simp -dsimp only [hn, h0, h1, h6, h7, h8, h9, show decide (((1 : Nat) : Int) = 0) = false from rfl, bin_quo (show (8 : Int) ≠ 0 by decide), q1, lenE, wt_seq, wt_block, wt_region, wt_cond, wt_skip, wt_ret, wt_exit, wst_nil, wst_app_nil, wst_app_cons, wst_cons, wst_guard, andThen_normal, andThen_ret, andThen_exit, leave_normal, leave_ret, leave_exit, EndsA_ret, EndsA_normal, ot_move, ot_assign, ot_pick, ot_binOp, ot_unOp, ot_convert, ot_field, ot_index, ot_indexAddr, ot_fieldAddr, ot_slice, ot_build, ot_buildSlice, ot_extract, ot_makeInterface, ot_makeFunc, ot_nilCheck, ot_call, ot_len, ot_append, ot_box, ot_load, ot_store, ot_makeSlice, ct_bool, ct_true, ct_false, bt_some, gt_some, aval_tmp, aval_int, aval_bool, aval_str, aval_slice, aval_nilPointer, aval_nilIface, aval_func, aval_global, avals, apairs, bareP, AV.bare, AV.bares, bin_lss, bin_leq, bin_gtr, bin_geq, bin_eql, bin_neq, bin_add, bin_sub, bin_mul, bin_and, bin_or, bin_xor, toV_int, toV_bool, toV_string, un_neg, un_not, bin_str_eql, bin_str_neq, bin_str_lss, bin_str_leq, bin_str_gtr, bin_str_geq, aget_aput, length_aput, aput_none, Nat.reduceEqDiff, Nat.reduceLT, Nat.reduceAdd, reduceIte, reduceCtorEq, Bool.not_false, Bool.not_true, Bool.true_or, true_and, Option.bind_some, Option.map_some, List.nil_append, List.cons_append, resA, resA1, resVal, Option.getD_some, Nat.reduceLeDiff, bnd_some, yieldA_eq, yldOf_some, boolOf_bool, boolOf_undef, gt_none, List.getElem?_toArray, List.getElem?_cons_succ, List.getElem?_cons_zero, bq_true, bq_false, decide_true, decide_false, Option.toList_none, Option.toList_some, List.head?_cons, List.head?_nil, nb_cfg, not_false_eq_true, cv_some, pm_some, pm_none, plainA_v, plain_bool, plain_int, plain_str, Bool.false_eq_true, if_false]
              rw [ct_eq]
              refine ⟨fun h => ?_, fun h => ?_⟩
              · simp -dsimp only [hn, h0, h1, h6, h7, h8, h9, wt_seq, wt_block, wt_region, wt_cond, wt_skip, wt_ret, wt_exit, wst_nil, wst_app_nil, wst_app_cons, wst_cons, wst_guard, andThen_normal, andThen_ret, andThen_exit, leave_normal, leave_ret, leave_exit, EndsA_ret, EndsA_normal, ot_move, ot_assign, ot_pick, ot_binOp, ot_unOp, ot_convert, ot_field, ot_index, ot_indexAddr, ot_fieldAddr, ot_slice, ot_build, ot_buildSlice, ot_extract, ot_makeInterface, ot_makeFunc, ot_nilCheck, ot_call, ot_len, ot_append, ot_box, ot_load, ot_store, ot_makeSlice, ct_bool, ct_true, ct_false, bt_some, gt_some, aval_tmp, aval_int, aval_bool, aval_str, aval_slice, aval_nilPointer, aval_nilIface, aval_func, aval_global, avals, apairs, bareP, AV.bare, AV.bares, bin_lss, bin_leq, bin_gtr, bin_geq, bin_eql, bin_neq, bin_add, bin_sub, bin_mul, bin_and, bin_or, bin_xor, toV_int, toV_bool, toV_string, un_neg, un_not, bin_str_eql, bin_str_neq, bin_str_lss, bin_str_leq, bin_str_gtr, bin_str_geq, aget_aput, length_aput, aput_none, Nat.reduceEqDiff, Nat.reduceLT, Nat.reduceAdd, reduceIte, reduceCtorEq, Bool.not_false, Bool.not_true, Bool.true_or, true_and, Option.bind_some, Option.map_some, List.nil_append, List.cons_append, resA, resA1, resVal, Option.getD_some, Nat.reduceLeDiff, bnd_some, yieldA_eq, yldOf_some, boolOf_bool, boolOf_undef, gt_none, List.getElem?_toArray, List.getElem?_cons_succ, List.getElem?_cons_zero, bq_true, bq_false, decide_true, decide_false, Option.toList_none, Option.toList_some, List.head?_cons, List.head?_nil, nb_cfg, not_false_eq_true, cv_some, pm_some, pm_none, plainA_v, plain_bool, plain_int, plain_str, Bool.false_eq_true, if_false]
                refine ⟨5, ?_⟩
                rw [get64_none_bit hil hk6 hb1 (by simp at h; omega)]
                rfl
              · have hat : (6 * i + k) / 8 < L := by simp at h; omega
                obtain ⟨r1, r2, r3, r4⟩ := set_bit L (6 * i + k) _ Y (by omega) hY
                have hz : (byts (outB L Y))[(6 * i + k) / 8]? = some (AV.v (.int .u8 (Y / 256 ^ (L - 1 - (6 * i + k) / 8) % 256 : Nat))) := by
                  rw [byts, outB, List.map_map, List.getElem?_map, digs_get 256 L _ Y hat]
                  simp only [Option.map_some, Function.comp, byt, UInt8.toNat_ofNat']
                  congr 4
                  exact Nat.mod_eq_of_lt (Nat.mod_lt _ (by decide))
                have hst := store_hb1 (C := cfgP prim6) (t := 5) (i := (6 * i + k) / 8) (x := byt (UInt8.ofNat (Y / 256 ^ (L - 1 - (6 * i + k) / 8) % 256 + 2 ^ (7 - (6 * i + k) % 8)))) (xs := byts (outB L Y)) rfl rfl csz5 hz (fun cs h => by cases h)
                have hset : (byts (outB L Y)).set ((6 * i + k) / 8) (byt (UInt8.ofNat (Y / 256 ^ (L - 1 - (6 * i + k) / 8) % 256 + 2 ^ (7 - (6 * i + k) % 8)))) = byts (outB L (Y + 2 ^ (8 * L - 1 - (6 * i + k)))) := by
                  rw [r3, byts, byts, List.map_set]
                rw [hset] at hst
                simp -dsimp only [hn, h0, h1, h6, h7, h8, h9, bin_quo (show (8 : Int) ≠ 0 by decide), q1, idxE hat, blk_hb1, hz, part5, AV.cells, bin_rem (show (8 : Int) ≠ 0 by decide), q2, bin_shl (show (0 : Int) ≤ ((7 - (6 * i + k) % 8 : Nat) : Int) by omega), or_pow _ _ (Nat.mod_lt _ (by decide)) (Nat.mod_lt _ (by decide)) r1 r2, hbyt, hst, e5, wt_seq, wt_block, wt_region, wt_cond, wt_skip, wt_ret, wt_exit, wst_nil, wst_app_nil, wst_app_cons, wst_cons, wst_guard, andThen_normal, andThen_ret, andThen_exit, leave_normal, leave_ret, leave_exit, EndsA_ret, EndsA_normal, ot_move, ot_assign, ot_pick, ot_binOp, ot_unOp, ot_convert, ot_field, ot_index, ot_indexAddr, ot_fieldAddr, ot_slice, ot_build, ot_buildSlice, ot_extract, ot_makeInterface, ot_makeFunc, ot_nilCheck, ot_call, ot_len, ot_append, ot_box, ot_load, ot_store, ot_makeSlice, ct_bool, ct_true, ct_false, bt_some, gt_some, aval_tmp, aval_int, aval_bool, aval_str, aval_slice, aval_nilPointer, aval_nilIface, aval_func, aval_global, avals, apairs, bareP, AV.bare, AV.bares, bin_lss, bin_leq, bin_gtr, bin_geq, bin_eql, bin_neq, bin_add, bin_sub, bin_mul, bin_and, bin_or, bin_xor, toV_int, toV_bool, toV_string, un_neg, un_not, bin_str_eql, bin_str_neq, bin_str_lss, bin_str_leq, bin_str_gtr, bin_str_geq, aget_aput, length_aput, aput_none, Nat.reduceEqDiff, Nat.reduceLT, Nat.reduceAdd, reduceIte, reduceCtorEq, Bool.not_false, Bool.not_true, Bool.true_or, true_and, Option.bind_some, Option.map_some, List.nil_append, List.cons_append, resA, resA1, resVal, Option.getD_some, Nat.reduceLeDiff, bnd_some, yieldA_eq, yldOf_some, boolOf_bool, boolOf_undef, gt_none, List.getElem?_toArray, List.getElem?_cons_succ, List.getElem?_cons_zero, bq_true, bq_false, decide_true, decide_false, Option.toList_none, Option.toList_some, List.head?_cons, List.head?_nil, nb_cfg, not_false_eq_true, cv_some, pm_some, pm_none, plainA_v, plain_bool, plain_int, plain_str, Bool.false_eq_true, if_false]
                refine ⟨by kernel_rfl, m - 1, by omega, k + 1, Y + 2 ^ (8 * L - 1 - (6 * i + k)), by omega, ⟨⟨?_, rfl, ?_, ?_, ?_, ?_⟩, ?_, ?_⟩, ?_⟩
                any_goals simp -dsimp only [hn, h0, h1, h6, h7, h8, wt_seq, wt_block, wt_region, wt_cond, wt_skip, wt_ret, wt_exit, wst_nil, wst_app_nil, wst_app_cons, wst_cons, wst_guard, andThen_normal, andThen_ret, andThen_exit, leave_normal, leave_ret, leave_exit, EndsA_ret, EndsA_normal, ot_move, ot_assign, ot_pick, ot_binOp, ot_unOp, ot_convert, ot_field, ot_index, ot_indexAddr, ot_fieldAddr, ot_slice, ot_build, ot_buildSlice, ot_extract, ot_makeInterface, ot_makeFunc, ot_nilCheck, ot_call, ot_len, ot_append, ot_box, ot_load, ot_store, ot_makeSlice, ct_bool, ct_true, ct_false, bt_some, gt_some, aval_tmp, aval_int, aval_bool, aval_str, aval_slice, aval_nilPointer, aval_nilIface, aval_func, aval_global, avals, apairs, bareP, AV.bare, AV.bares, bin_lss, bin_leq, bin_gtr, bin_geq, bin_eql, bin_neq, bin_add, bin_sub, bin_mul, bin_and, bin_or, bin_xor, toV_int, toV_bool, toV_string, un_neg, un_not, bin_str_eql, bin_str_neq, bin_str_lss, bin_str_leq, bin_str_gtr, bin_str_geq, aget_aput, length_aput, aput_none, Nat.reduceEqDiff, Nat.reduceLT, Nat.reduceAdd, reduceIte, reduceCtorEq, Bool.not_false, Bool.not_true, Bool.true_or, true_and, Option.bind_some, Option.map_some, List.nil_append, List.cons_append, resA, resA1, resVal, Option.getD_some, Nat.reduceLeDiff, bnd_some, yieldA_eq, yldOf_some, boolOf_bool, boolOf_undef, gt_none, List.getElem?_toArray, List.getElem?_cons_succ, List.getElem?_cons_zero, bq_true, bq_false, decide_true, decide_false, Option.toList_none, Option.toList_some, List.head?_cons, List.head?_nil, nb_cfg, not_false_eq_true, cv_some, pm_some, pm_none, plainA_v, plain_bool, plain_int, plain_str, Bool.false_eq_true, if_false]
                rw [← Nat.add_assoc, r4, e7, Nat.pow_succ, ← Nat.mul_assoc]
                generalize V p s (l.take i) * 2 ^ k = A
                generalize nm p s l[i] / 2 ^ (6 - k) = B
                congr 1
                omega
          · have hk6 : k = 6 := by simp at h; omega
            subst hk6
            rw [wt_exit]
            have e8 : IntKind.i64.wrap ((i : Int) + 1) = ((i + 1 : Nat) : Int) := wi64 (by omega) (by omega)
            simp -dsimp only [hn, h0, h1, h6, h7, h8, h9, e8, wt_seq, wt_block, wt_region, wt_cond, wt_skip, wt_ret, wt_exit, wst_nil, wst_app_nil, wst_app_cons, wst_cons, wst_guard, andThen_normal, andThen_ret, andThen_exit, leave_normal, leave_ret, leave_exit, EndsA_ret, EndsA_normal, ot_move, ot_assign, ot_pick, ot_binOp, ot_unOp, ot_convert, ot_field, ot_index, ot_indexAddr, ot_fieldAddr, ot_slice, ot_build, ot_buildSlice, ot_extract, ot_makeInterface, ot_makeFunc, ot_nilCheck, ot_call, ot_len, ot_append, ot_box, ot_load, ot_store, ot_makeSlice, ct_bool, ct_true, ct_false, bt_some, gt_some, aval_tmp, aval_int, aval_bool, aval_str, aval_slice, aval_nilPointer, aval_nilIface, aval_func, aval_global, avals, apairs, bareP, AV.bare, AV.bares, bin_lss, bin_leq, bin_gtr, bin_geq, bin_eql, bin_neq, bin_add, bin_sub, bin_mul, bin_and, bin_or, bin_xor, toV_int, toV_bool, toV_string, un_neg, un_not, bin_str_eql, bin_str_neq, bin_str_lss, bin_str_leq, bin_str_gtr, bin_str_geq, aget_aput, length_aput, aput_none, Nat.reduceEqDiff, Nat.reduceLT, Nat.reduceAdd, reduceIte, reduceCtorEq, Bool.not_false, Bool.not_true, Bool.true_or, true_and, Option.bind_some, Option.map_some, List.nil_append, List.cons_append, resA, resA1, resVal, Option.getD_some, Nat.reduceLeDiff, bnd_some, yieldA_eq, yldOf_some, boolOf_bool, boolOf_undef, gt_none, List.getElem?_toArray, List.getElem?_cons_succ, List.getElem?_cons_zero, bq_true, bq_false, decide_true, decide_false, Option.toList_none, Option.toList_some, List.head?_cons, List.head?_nil, nb_cfg, not_false_eq_true, cv_some, pm_some, pm_none, plainA_v, plain_bool, plain_int, plain_str, Bool.false_eq_true, if_false]
            refine ⟨mm - 1, by omega, i + 1, Y, by omega, ⟨?_, rfl, ?_, ?_, ?_, ?_⟩, ?_, ?_⟩
            any_goals simp -dsimp only [hn, h0, h1, h6, wt_seq, wt_block, wt_region, wt_cond, wt_skip, wt_ret, wt_exit, wst_nil, wst_app_nil, wst_app_cons, wst_cons, wst_guard, andThen_normal, andThen_ret, andThen_exit, leave_normal, leave_ret, leave_exit, EndsA_ret, EndsA_normal, ot_move, ot_assign, ot_pick, ot_binOp, ot_unOp, ot_convert, ot_field, ot_index, ot_indexAddr, ot_fieldAddr, ot_slice, ot_build, ot_buildSlice, ot_extract, ot_makeInterface, ot_makeFunc, ot_nilCheck, ot_call, ot_len, ot_append, ot_box, ot_load, ot_store, ot_makeSlice, ct_bool, ct_true, ct_false, bt_some, gt_some, aval_tmp, aval_int, aval_bool, aval_str, aval_slice, aval_nilPointer, aval_nilIface, aval_func, aval_global, avals, apairs, bareP, AV.bare, AV.bares, bin_lss, bin_leq, bin_gtr, bin_geq, bin_eql, bin_neq, bin_add, bin_sub, bin_mul, bin_and, bin_or, bin_xor, toV_int, toV_bool, toV_string, un_neg, un_not, bin_str_eql, bin_str_neq, bin_str_lss, bin_str_leq, bin_str_gtr, bin_str_geq, aget_aput, length_aput, aput_none, Nat.reduceEqDiff, Nat.reduceLT, Nat.reduceAdd, reduceIte, reduceCtorEq, Bool.not_false, Bool.not_true, Bool.true_or, true_and, Option.bind_some, Option.map_some, List.nil_append, List.cons_append, resA, resA1, resVal, Option.getD_some, Nat.reduceLeDiff, bnd_some, yieldA_eq, yldOf_some, boolOf_bool, boolOf_undef, gt_none, List.getElem?_toArray, List.getElem?_cons_succ, List.getElem?_cons_zero, bq_true, bq_false, decide_true, decide_false, Option.toList_none, Option.toList_some, List.head?_cons, List.head?_nil, nb_cfg, not_false_eq_true, cv_some, pm_some, pm_none, plainA_v, plain_bool, plain_int, plain_str, Bool.false_eq_true, if_false]
            · rw [V_take p s l i hil, Nat.mul_add, Nat.mul_one, hY, Nat.sub_self, Nat.pow_zero, Nat.div_one]
            · intro c hc'
              rw [List.take_succ_eq_append_getElem hil, List.mem_append, List.mem_singleton] at hc'
              rcases hc' with hc' | rfl
              · exact hsm c hc'
              · exact hc
        · refine ⟨0, Y, rfl, ⟨⟨?_, rfl, ?_, ?_, ?_, ?_⟩, ?_, ?_⟩, ?_⟩
          any_goals simp -dsimp only [hn, h0, h1, h6, h7, wt_seq, wt_block, wt_region, wt_cond, wt_skip, wt_ret, wt_exit, wst_nil, wst_app_nil, wst_app_cons, wst_cons, wst_guard, andThen_normal, andThen_ret, andThen_exit, leave_normal, leave_ret, leave_exit, EndsA_ret, EndsA_normal, ot_move, ot_assign, ot_pick, ot_binOp, ot_unOp, ot_convert, ot_field, ot_index, ot_indexAddr, ot_fieldAddr, ot_slice, ot_build, ot_buildSlice, ot_extract, ot_makeInterface, ot_makeFunc, ot_nilCheck, ot_call, ot_len, ot_append, ot_box, ot_load, ot_store, ot_makeSlice, ct_bool, ct_true, ct_false, bt_some, gt_some, aval_tmp, aval_int, aval_bool, aval_str, aval_slice, aval_nilPointer, aval_nilIface, aval_func, aval_global, avals, apairs, bareP, AV.bare, AV.bares, bin_lss, bin_leq, bin_gtr, bin_geq, bin_eql, bin_neq, bin_add, bin_sub, bin_mul, bin_and, bin_or, bin_xor, toV_int, toV_bool, toV_string, un_neg, un_not, bin_str_eql, bin_str_neq, bin_str_lss, bin_str_leq, bin_str_gtr, bin_str_geq, aget_aput, length_aput, aput_none, Nat.reduceEqDiff, Nat.reduceLT, Nat.reduceAdd, reduceIte, reduceCtorEq, Bool.not_false, Bool.not_true, Bool.true_or, true_and, Option.bind_some, Option.map_some, List.nil_append, List.cons_append, resA, resA1, resVal, Option.getD_some, Nat.reduceLeDiff, bnd_some, yieldA_eq, yldOf_some, boolOf_bool, boolOf_undef, gt_none, List.getElem?_toArray, List.getElem?_cons_succ, List.getElem?_cons_zero, bq_true, bq_false, decide_true, decide_false, Option.toList_none, Option.toList_some, List.head?_cons, List.head?_nil, nb_cfg, not_false_eq_true, cv_some, pm_some, pm_none, plainA_v, plain_bool, plain_int, plain_str, Bool.false_eq_true, if_false]
          · rfl
          · rw [Nat.add_zero, hY, Nat.pow_zero, Nat.mul_one, Nat.div_eq_of_lt (show nm p s l[i] < 2 ^ (6 - 0) from hc), Nat.add_zero]
      · have hx : sixR p s l[i] = -1 := if_neg hc
        simp -dsimp only [hn, h0, h1, h6, h7, hx, show decide ((-1 : Int) < 0) = true from rfl, wt_seq, wt_block, wt_region, wt_cond, wt_skip, wt_ret, wt_exit, wst_nil, wst_app_nil, wst_app_cons, wst_cons, wst_guard, andThen_normal, andThen_ret, andThen_exit, leave_normal, leave_ret, leave_exit, EndsA_ret, EndsA_normal, ot_move, ot_assign, ot_pick, ot_binOp, ot_unOp, ot_convert, ot_field, ot_index, ot_indexAddr, ot_fieldAddr, ot_slice, ot_build, ot_buildSlice, ot_extract, ot_makeInterface, ot_makeFunc, ot_nilCheck, ot_call, ot_len, ot_append, ot_box, ot_load, ot_store, ot_makeSlice, ct_bool, ct_true, ct_false, bt_some, gt_some, aval_tmp, aval_int, aval_bool, aval_str, aval_slice, aval_nilPointer, aval_nilIface, aval_func, aval_global, avals, apairs, bareP, AV.bare, AV.bares, bin_lss, bin_leq, bin_gtr, bin_geq, bin_eql, bin_neq, bin_add, bin_sub, bin_mul, bin_and, bin_or, bin_xor, toV_int, toV_bool, toV_string, un_neg, un_not, bin_str_eql, bin_str_neq, bin_str_lss, bin_str_leq, bin_str_gtr, bin_str_geq, aget_aput, length_aput, aput_none, Nat.reduceEqDiff, Nat.reduceLT, Nat.reduceAdd, reduceIte, reduceCtorEq, Bool.not_false, Bool.not_true, Bool.true_or, true_and, Option.bind_some, Option.map_some, List.nil_append, List.cons_append, resA, resA1, resVal, Option.getD_some, Nat.reduceLeDiff, bnd_some, yieldA_eq, yldOf_some, boolOf_bool, boolOf_undef, gt_none, List.getElem?_toArray, List.getElem?_cons_succ, List.getElem?_cons_zero, bq_true, bq_false, decide_true, decide_false, Option.toList_none, Option.toList_some, List.head?_cons, List.head?_nil, nb_cfg, not_false_eq_true, cv_some, pm_some, pm_none, plainA_v, plain_bool, plain_int, plain_str, Bool.false_eq_true, if_false]
        refine ⟨5, ?_⟩
        rw [get64_none hil (by have := (numN_nm p s l[i]).2; omega)]
        rfl
    · have hil : i = l.length := by simp at h; omega
      subst hil
      rw [List.take_length] at hY hsm
      have e3 : Int.tmod (l.length : Int) 4 = ((l.length % 4 : Nat) : Int) := by
        rw [Int.tmod_eq_emod_of_nonneg (by omega)]; rfl
      rw [wt_exit]
      simp -dsimp only [hn, h0, h1, h6, h7, len9, bin_rem (show (4 : Int) ≠ 0 by decide), e3, wt_seq, wt_block, wt_region, wt_cond, wt_skip, wt_ret, wt_exit, wst_nil, wst_app_nil, wst_app_cons, wst_cons, wst_guard, andThen_normal, andThen_ret, andThen_exit, leave_normal, leave_ret, leave_exit, EndsA_ret, EndsA_normal, ot_move, ot_assign, ot_pick, ot_binOp, ot_unOp, ot_convert, ot_field, ot_index, ot_indexAddr, ot_fieldAddr, ot_slice, ot_build, ot_buildSlice, ot_extract, ot_makeInterface, ot_makeFunc, ot_nilCheck, ot_call, ot_len, ot_append, ot_box, ot_load, ot_store, ot_makeSlice, ct_bool, ct_true, ct_false, bt_some, gt_some, aval_tmp, aval_int, aval_bool, aval_str, aval_slice, aval_nilPointer, aval_nilIface, aval_func, aval_global, avals, apairs, bareP, AV.bare, AV.bares, bin_lss, bin_leq, bin_gtr, bin_geq, bin_eql, bin_neq, bin_add, bin_sub, bin_mul, bin_and, bin_or, bin_xor, toV_int, toV_bool, toV_string, un_neg, un_not, bin_str_eql, bin_str_neq, bin_str_lss, bin_str_leq, bin_str_gtr, bin_str_geq, aget_aput, length_aput, aput_none, Nat.reduceEqDiff, Nat.reduceLT, Nat.reduceAdd, reduceIte, reduceCtorEq, Bool.not_false, Bool.not_true, Bool.true_or, true_and, Option.bind_some, Option.map_some, List.nil_append, List.cons_append, resA, resA1, resVal, Option.getD_some, Nat.reduceLeDiff, bnd_some, yieldA_eq, yldOf_some, boolOf_bool, boolOf_undef, gt_none, List.getElem?_toArray, List.getElem?_cons_succ, List.getElem?_cons_zero, bq_true, bq_false, decide_true, decide_false, Option.toList_none, Option.toList_some, List.head?_cons, List.head?_nil, nb_cfg, not_false_eq_true, cv_some, pm_some, pm_none, plainA_v, plain_bool, plain_int, plain_str, Bool.false_eq_true, if_false]
      by_cases h4 : l.length % 4 = 1
      · have hd : decide (((l.length % 4 : Nat) : Int) = 1) = true := by simp; omega
        simp -dsimp only [hn, h0, h1, h6, h7, hd, wt_seq, wt_block, wt_region, wt_cond, wt_skip, wt_ret, wt_exit, wst_nil, wst_app_nil, wst_app_cons, wst_cons, wst_guard, andThen_normal, andThen_ret, andThen_exit, leave_normal, leave_ret, leave_exit, EndsA_ret, EndsA_normal, ot_move, ot_assign, ot_pick, ot_binOp, ot_unOp, ot_convert, ot_field, ot_index, ot_indexAddr, ot_fieldAddr, ot_slice, ot_build, ot_buildSlice, ot_extract, ot_makeInterface, ot_makeFunc, ot_nilCheck, ot_call, ot_len, ot_append, ot_box, ot_load, ot_store, ot_makeSlice, ct_bool, ct_true, ct_false, bt_some, gt_some, aval_tmp, aval_int, aval_bool, aval_str, aval_slice, aval_nilPointer, aval_nilIface, aval_func, aval_global, avals, apairs, bareP, AV.bare, AV.bares, bin_lss, bin_leq, bin_gtr, bin_geq, bin_eql, bin_neq, bin_add, bin_sub, bin_mul, bin_and, bin_or, bin_xor, toV_int, toV_bool, toV_string, un_neg, un_not, bin_str_eql, bin_str_neq, bin_str_lss, bin_str_leq, bin_str_gtr, bin_str_geq, aget_aput, length_aput, aput_none, Nat.reduceEqDiff, Nat.reduceLT, Nat.reduceAdd, reduceIte, reduceCtorEq, Bool.not_false, Bool.not_true, Bool.true_or, true_and, Option.bind_some, Option.map_some, List.nil_append, List.cons_append, resA, resA1, resVal, Option.getD_some, Nat.reduceLeDiff, bnd_some, yieldA_eq, yldOf_some, boolOf_bool, boolOf_undef, gt_none, List.getElem?_toArray, List.getElem?_cons_succ, List.getElem?_cons_zero, bq_true, bq_false, decide_true, decide_false, Option.toList_none, Option.toList_some, List.head?_cons, List.head?_nil, nb_cfg, not_false_eq_true, cv_some, pm_some, pm_none, plainA_v, plain_bool, plain_int, plain_str, Bool.false_eq_true, if_false]
        refine ⟨5, ?_⟩
        have : get64 p s l = none := if_neg fun h => by omega
        rw [this]
        rfl
      · have hd : decide (((l.length % 4 : Nat) : Int) = 1) = false := by simp; omega
        simp -dsimp only [hn, h0, h1, h6, h7, hd, wt_seq, wt_block, wt_region, wt_cond, wt_skip, wt_ret, wt_exit, wst_nil, wst_app_nil, wst_app_cons, wst_cons, wst_guard, andThen_normal, andThen_ret, andThen_exit, leave_normal, leave_ret, leave_exit, EndsA_ret, EndsA_normal, ot_move, ot_assign, ot_pick, ot_binOp, ot_unOp, ot_convert, ot_field, ot_index, ot_indexAddr, ot_fieldAddr, ot_slice, ot_build, ot_buildSlice, ot_extract, ot_makeInterface, ot_makeFunc, ot_nilCheck, ot_call, ot_len, ot_append, ot_box, ot_load, ot_store, ot_makeSlice, ct_bool, ct_true, ct_false, bt_some, gt_some, aval_tmp, aval_int, aval_bool, aval_str, aval_slice, aval_nilPointer, aval_nilIface, aval_func, aval_global, avals, apairs, bareP, AV.bare, AV.bares, bin_lss, bin_leq, bin_gtr, bin_geq, bin_eql, bin_neq, bin_add, bin_sub, bin_mul, bin_and, bin_or, bin_xor, toV_int, toV_bool, toV_string, un_neg, un_not, bin_str_eql, bin_str_neq, bin_str_lss, bin_str_leq, bin_str_gtr, bin_str_geq, aget_aput, length_aput, aput_none, Nat.reduceEqDiff, Nat.reduceLT, Nat.reduceAdd, reduceIte, reduceCtorEq, Bool.not_false, Bool.not_true, Bool.true_or, true_and, Option.bind_some, Option.map_some, List.nil_append, List.cons_append, resA, resA1, resVal, Option.getD_some, Nat.reduceLeDiff, bnd_some, yieldA_eq, yldOf_some, boolOf_bool, boolOf_undef, gt_none, List.getElem?_toArray, List.getElem?_cons_succ, List.getElem?_cons_zero, bq_true, bq_false, decide_true, decide_false, Option.toList_none, Option.toList_some, List.head?_cons, List.head?_nil, nb_cfg, not_false_eq_true, cv_some, pm_some, pm_none, plainA_v, plain_bool, plain_int, plain_str, Bool.false_eq_true, if_false]
        refine ⟨L + 10, ?_⟩
        rw [thaw_ex L _ (outB_length _ _)]
        have hr : 6 * l.length = 8 * L + 6 * l.length % 8 := by omega
        have hYV : Y * 2 ^ (6 * l.length % 8) = V p s l := by
          rw [hr, Nat.pow_add, Nat.mul_comm (2 ^ (8 * L)), ← Nat.mul_assoc] at hY
          have := Nat.eq_of_mul_eq_mul_right (Nat.pow_pos (by decide)) hY
          exact this
        have : get64 p s l = some (outB L Y) := by
          unfold get64
          rw [if_pos]
          · rw [← hL]
            congr 1
            show outB L (V p s l / 2 ^ (6 * l.length % 8)) = _
            rw [← hYV, Nat.mul_div_cancel _ (Nat.pow_pos (by decide))]
          · refine ⟨?_, by omega, ?_⟩
            · rw [List.all_eq_true]
              intro n hn
              obtain ⟨c, hc, rfl⟩ := List.mem_map.1 hn
              simpa using hsm c hc
            · show V p s l % 2 ^ (6 * l.length % 8) = 0
              rw [← hYV, Nat.mul_mod_left]
        rw [this]
        rfl
  · refine ⟨0, 0, by omega, ⟨?_, rfl, ?_, ?_, ?_, ?_⟩, ?_, ?_⟩
    any_goals simp -dsimp only [hn, h0, h1, wt_seq, wt_block, wt_region, wt_cond, wt_skip, wt_ret, wt_exit, wst_nil, wst_app_nil, wst_app_cons, wst_cons, wst_guard, andThen_normal, andThen_ret, andThen_exit, leave_normal, leave_ret, leave_exit, EndsA_ret, EndsA_normal, ot_move, ot_assign, ot_pick, ot_binOp, ot_unOp, ot_convert, ot_field, ot_index, ot_indexAddr, ot_fieldAddr, ot_slice, ot_build, ot_buildSlice, ot_extract, ot_makeInterface, ot_makeFunc, ot_nilCheck, ot_call, ot_len, ot_append, ot_box, ot_load, ot_store, ot_makeSlice, ct_bool, ct_true, ct_false, bt_some, gt_some, aval_tmp, aval_int, aval_bool, aval_str, aval_slice, aval_nilPointer, aval_nilIface, aval_func, aval_global, avals, apairs, bareP, AV.bare, AV.bares, bin_lss, bin_leq, bin_gtr, bin_geq, bin_eql, bin_neq, bin_add, bin_sub, bin_mul, bin_and, bin_or, bin_xor, toV_int, toV_bool, toV_string, un_neg, un_not, bin_str_eql, bin_str_neq, bin_str_lss, bin_str_leq, bin_str_gtr, bin_str_geq, aget_aput, length_aput, aput_none, Nat.reduceEqDiff, Nat.reduceLT, Nat.reduceAdd, reduceIte, reduceCtorEq, Bool.not_false, Bool.not_true, Bool.true_or, true_and, Option.bind_some, Option.map_some, List.nil_append, List.cons_append, resA, resA1, resVal, Option.getD_some, Nat.reduceLeDiff, bnd_some, yieldA_eq, yldOf_some, boolOf_bool, boolOf_undef, gt_none, List.getElem?_toArray, List.getElem?_cons_succ, List.getElem?_cons_zero, bq_true, bq_false, decide_true, decide_false, Option.toList_none, Option.toList_some, List.head?_cons, List.head?_nil, nb_cfg, not_false_eq_true, cv_some, pm_some, pm_none, plainA_v, plain_bool, plain_int, plain_str, Bool.false_eq_true, if_false]
    all_goals simp [V, Digs.val]
end Go.Proofs.YtonmpbfddiflhaaDoor

/- Chapter 5: BaseSays. -/
namespace Go.Proofs.YtonmpbfddiflhaaDoor
open Go.AM
def putX : List AV → Option AV
  | [x, .v (.bool u)] => match dB x with
    | some l => if l.length < 2 ^ 40 then some (str (put64 (pU u) (sU u) l)) else none
    | none => none
  | _ => none
def getY : List AV → Option AV
  | [x, .v (.bool u)] => match dS x with
    | some l => if l.length < 2 ^ 36 then some (getX (get64 (pU u) (sU u) l)) else none
    | none => none
  | _ => none
theorem putX_eq {x : AV} {l : List UInt8} {u : Bool} (h : elems x = some (byts l)) (hl : l.length < 2 ^ 40) : putX [x, .v (.bool u)] = some (str (put64 (pU u) (sU u) l)) := by simp only [putX, dB_iff.2 h, hl, if_true]
theorem getY_eq {l : List UInt8} {u : Bool} (hl : l.length < 2 ^ 36) : getY [str l, .v (.bool u)] = some (getX (get64 (pU u) (sU u) l)) := by simp only [getY, dS_str, hl, if_true]
theorem putX_ok {xs : List AV} {r : AV} (h : putX xs = some r) : PureOk (cfgP prim5) 17 xs r := by
  unfold putX at h
  split at h
  · split at h
    · rename_i l h1
      split at h
      · rename_i hl
        injection h with h; subst h
        exact Put64_ok _ l _ (dB_iff.1 h1) hl
      · cases h
    · cases h
  · cases h
theorem getY_ok {xs : List AV} {r : AV} (h : getY xs = some r) : PureOk (cfgP prim6) 16 xs r := by
  unfold getY at h
  split at h
  · split at h
    · rename_i l h1
      split at h
      · rename_i hl
        injection h with h; subst h
        rw [dS_iff] at h1
        subst h1
        exact Get64_ok _ l hl
      · cases h
    · cases h
  · cases h
end Go.Proofs.YtonmpbfddiflhaaDoor
