/- Contracts of functions, and plain facts about what they compute. -/
import Derived.Test.YtonmpbfddiflhaaDoorIda
set_option linter.unusedSimpArgs false
set_option linter.unusedVariables false
/- The document's names: Server. -/
namespace Go.Proofs.YtonmpbfddiflhaaDoor
open Go.AM
structure rsI (l : List UInt8) (i : Nat) (e : Env) (h : Hp) : Prop where
  len : e.length = 76
  hp : h = {}
  a0 : aget e 0 = str l
  a3 : aget e 3 = .v (.int .i64 i)
structure rsJ (l p : List UInt8) (i k : Nat) (e : Env) (h : Hp) : Prop where
  out : rsI l i e h
  a4 : aget e 4 = str p
  a5 : aget e 5 = .v (.int .i64 k)
set_option maxHeartbeats 4000000 in
theorem refServer_ok (l : List UInt8) (hl : l.length < 2 ^ 63) : PureOk (cfgP rf0) 26 [str l] (.v (.bool (serverB l))) := by
  refine pure_of_wk (call := noCall) (fn := Tryd.f26) (rs := [.tmp 2]) rf0_ok noCall_ok (fns_cfg Tryd.func26 rfl) rfl rfl ?_
  intro env hl0 hargs
  have hn : env.length = 76 := hl0
  have h0 := hargs 0 _ rfl
  clear hargs hl0
  refine wkT_of ?_
  simp -dsimp only [hn, h0, wt_seq, wt_block, wt_region, wt_cond, wt_skip, wt_ret, wt_exit, wst_nil, wst_app_nil, wst_app_cons, wst_cons, wst_guard, andThen_normal, andThen_ret, andThen_exit, leave_normal, leave_ret, leave_exit, EndsA_ret, EndsA_normal, ot_move, ot_assign, ot_pick, ot_binOp, ot_unOp, ot_convert, ot_field, ot_index, ot_indexAddr, ot_fieldAddr, ot_slice, ot_build, ot_buildSlice, ot_extract, ot_makeInterface, ot_makeFunc, ot_nilCheck, ot_call, ot_len, ot_append, ot_box, ot_load, ot_store, ot_makeSlice, ct_bool, ct_true, ct_false, bt_some, gt_some, aval_tmp, aval_int, aval_bool, aval_str, aval_slice, aval_nilPointer, aval_nilIface, aval_func, aval_global, avals, apairs, bareP, AV.bare, AV.bares, bin_lss, bin_leq, bin_gtr, bin_geq, bin_eql, bin_neq, bin_add, bin_sub, bin_mul, bin_and, bin_or, bin_xor, toV_int, toV_bool, toV_string, un_neg, un_not, bin_str_eql, bin_str_neq, bin_str_lss, bin_str_leq, bin_str_gtr, bin_str_geq, aget_aput, length_aput, aput_none, Nat.reduceEqDiff, Nat.reduceLT, Nat.reduceAdd, reduceIte, reduceCtorEq, Bool.not_false, Bool.not_true, Bool.true_or, true_and, Option.bind_some, Option.map_some, List.nil_append, List.cons_append, resA, resA1, resVal, Option.getD_some, Nat.reduceLeDiff, bnd_some, yieldA_eq, yldOf_some, boolOf_bool, boolOf_undef, gt_none, List.getElem?_toArray, List.getElem?_cons_succ, List.getElem?_cons_zero, bq_true, bq_false, decide_true, decide_false, Option.toList_none, Option.toList_some, List.head?_cons, List.head?_nil, nb_cfg, not_false_eq_true, cv_some, pm_some, pm_none, plainA_v, plain_bool, plain_int, plain_str, Bool.false_eq_true, if_false]
  refine wt_loop (m := l.length) (fun m e h => ∃ i, i + m = l.length ∧ rsI l i e h ∧ ∀ c ∈ l.take i, inName c = true) ?_ ?_
  · rintro m e h ⟨i, hi, ⟨hn, rfl, h0, h3⟩, ok⟩
    by_cases hb : ∃ h : i < l.length, inName l[i] = true
    · obtain ⟨hil, hq⟩ := hb
      have hd : decide ((i : Int) < (l.length : Int)) = true := decide_eq_true (by omega)
      have e1 : IntKind.i64.wrap ((i : Int) + 1) = ((i + 1 : Nat) : Int) := wr64 (by omega) (by omega)
      have hq' := hq
      rw [inName_eq] at hq'
      cases q1 : letterB l[i] <;> cases q2 : inDigits l[i] <;> cases q3 : decide ((((l[i]).toNat : Nat) : Int) = 46) <;> cases q4 : decide ((((l[i]).toNat : Nat) : Int) = 45) <;> rw [q1, q2, q3, q4] at hq' <;> first
        | (exfalso; exact absurd hq' (by decide))
        | (simp -dsimp only [hn, h0, h3, len_s, hd, index_s hil, byt, ct_prim rf0_43, ct_prim rf0_44, qP_eq, q1, q2, q3, q4, e1, wt_seq, wt_block, wt_region, wt_cond, wt_skip, wt_ret, wt_exit, wst_nil, wst_app_nil, wst_app_cons, wst_cons, wst_guard, andThen_normal, andThen_ret, andThen_exit, leave_normal, leave_ret, leave_exit, EndsA_ret, EndsA_normal, ot_move, ot_assign, ot_pick, ot_binOp, ot_unOp, ot_convert, ot_field, ot_index, ot_indexAddr, ot_fieldAddr, ot_slice, ot_build, ot_buildSlice, ot_extract, ot_makeInterface, ot_makeFunc, ot_nilCheck, ot_call, ot_len, ot_append, ot_box, ot_load, ot_store, ot_makeSlice, ct_bool, ct_true, ct_false, bt_some, gt_some, aval_tmp, aval_int, aval_bool, aval_str, aval_slice, aval_nilPointer, aval_nilIface, aval_func, aval_global, avals, apairs, bareP, AV.bare, AV.bares, bin_lss, bin_leq, bin_gtr, bin_geq, bin_eql, bin_neq, bin_add, bin_sub, bin_mul, bin_and, bin_or, bin_xor, toV_int, toV_bool, toV_string, un_neg, un_not, bin_str_eql, bin_str_neq, bin_str_lss, bin_str_leq, bin_str_gtr, bin_str_geq, aget_aput, length_aput, aput_none, Nat.reduceEqDiff, Nat.reduceLT, Nat.reduceAdd, reduceIte, reduceCtorEq, Bool.not_false, Bool.not_true, Bool.true_or, true_and, Option.bind_some, Option.map_some, List.nil_append, List.cons_append, resA, resA1, resVal, Option.getD_some, Nat.reduceLeDiff, bnd_some, yieldA_eq, yldOf_some, boolOf_bool, boolOf_undef, gt_none, List.getElem?_toArray, List.getElem?_cons_succ, List.getElem?_cons_zero, bq_true, bq_false, decide_true, decide_false, Option.toList_none, Option.toList_some, List.head?_cons, List.head?_nil, nb_cfg, not_false_eq_true, cv_some, pm_some, pm_none, plainA_v, plain_bool, plain_int, plain_str, Bool.false_eq_true, if_false]
           refine ⟨m - 1, by omega, i + 1, by omega, ⟨?_, rfl, ?_, ?_⟩, all_take hil ok hq⟩
           all_goals simp -dsimp only [hn, h0, wt_seq, wt_block, wt_region, wt_cond, wt_skip, wt_ret, wt_exit, wst_nil, wst_app_nil, wst_app_cons, wst_cons, wst_guard, andThen_normal, andThen_ret, andThen_exit, leave_normal, leave_ret, leave_exit, EndsA_ret, EndsA_normal, ot_move, ot_assign, ot_pick, ot_binOp, ot_unOp, ot_convert, ot_field, ot_index, ot_indexAddr, ot_fieldAddr, ot_slice, ot_build, ot_buildSlice, ot_extract, ot_makeInterface, ot_makeFunc, ot_nilCheck, ot_call, ot_len, ot_append, ot_box, ot_load, ot_store, ot_makeSlice, ct_bool, ct_true, ct_false, bt_some, gt_some, aval_tmp, aval_int, aval_bool, aval_str, aval_slice, aval_nilPointer, aval_nilIface, aval_func, aval_global, avals, apairs, bareP, AV.bare, AV.bares, bin_lss, bin_leq, bin_gtr, bin_geq, bin_eql, bin_neq, bin_add, bin_sub, bin_mul, bin_and, bin_or, bin_xor, toV_int, toV_bool, toV_string, un_neg, un_not, bin_str_eql, bin_str_neq, bin_str_lss, bin_str_leq, bin_str_gtr, bin_str_geq, aget_aput, length_aput, aput_none, Nat.reduceEqDiff, Nat.reduceLT, Nat.reduceAdd, reduceIte, reduceCtorEq, Bool.not_false, Bool.not_true, Bool.true_or, true_and, Option.bind_some, Option.map_some, List.nil_append, List.cons_append, resA, resA1, resVal, Option.getD_some, Nat.reduceLeDiff, bnd_some, yieldA_eq, yldOf_some, boolOf_bool, boolOf_undef, gt_none, List.getElem?_toArray, List.getElem?_cons_succ, List.getElem?_cons_zero, bq_true, bq_false, decide_true, decide_false, Option.toList_none, Option.toList_some, List.head?_cons, List.head?_nil, nb_cfg, not_false_eq_true, cv_some, pm_some, pm_none, plainA_v, plain_bool, plain_int, plain_str, Bool.false_eq_true, if_false])
    · have hx : i = l.length ∨ ∃ h : i < l.length, inName l[i] = false := by
        by_cases hil : i < l.length
        · right
          refine ⟨hil, ?_⟩
          cases hq : inName l[i] with
          | false => rfl
          | true => exact absurd ⟨hil, hq⟩ hb
        · left; omega
      have hle : i ≤ l.length := by omega
      have hR := refS_eq hle ok hx
      have hx' := hx
      rcases hx' with hil | ⟨hil, hq⟩
      all_goals first
        | (have hd : decide ((i : Int) < (l.length : Int)) = false := decide_eq_false (by omega)
           simp -dsimp only [hn, h0, h3, len_s, hd, wt_seq, wt_block, wt_region, wt_cond, wt_skip, wt_ret, wt_exit, wst_nil, wst_app_nil, wst_app_cons, wst_cons, wst_guard, andThen_normal, andThen_ret, andThen_exit, leave_normal, leave_ret, leave_exit, EndsA_ret, EndsA_normal, ot_move, ot_assign, ot_pick, ot_binOp, ot_unOp, ot_convert, ot_field, ot_index, ot_indexAddr, ot_fieldAddr, ot_slice, ot_build, ot_buildSlice, ot_extract, ot_makeInterface, ot_makeFunc, ot_nilCheck, ot_call, ot_len, ot_append, ot_box, ot_load, ot_store, ot_makeSlice, ct_bool, ct_true, ct_false, bt_some, gt_some, aval_tmp, aval_int, aval_bool, aval_str, aval_slice, aval_nilPointer, aval_nilIface, aval_func, aval_global, avals, apairs, bareP, AV.bare, AV.bares, bin_lss, bin_leq, bin_gtr, bin_geq, bin_eql, bin_neq, bin_add, bin_sub, bin_mul, bin_and, bin_or, bin_xor, toV_int, toV_bool, toV_string, un_neg, un_not, bin_str_eql, bin_str_neq, bin_str_lss, bin_str_leq, bin_str_gtr, bin_str_geq, aget_aput, length_aput, aput_none, Nat.reduceEqDiff, Nat.reduceLT, Nat.reduceAdd, reduceIte, reduceCtorEq, Bool.not_false, Bool.not_true, Bool.true_or, true_and, Option.bind_some, Option.map_some, List.nil_append, List.cons_append, resA, resA1, resVal, Option.getD_some, Nat.reduceLeDiff, bnd_some, yieldA_eq, yldOf_some, boolOf_bool, boolOf_undef, gt_none, List.getElem?_toArray, List.getElem?_cons_succ, List.getElem?_cons_zero, bq_true, bq_false, decide_true, decide_false, Option.toList_none, Option.toList_some, List.head?_cons, List.head?_nil, nb_cfg, not_false_eq_true, cv_some, pm_some, pm_none, plainA_v, plain_bool, plain_int, plain_str, Bool.false_eq_true, if_false])
        | (have hd : decide ((i : Int) < (l.length : Int)) = true := decide_eq_true (by omega)
           have hq' := hq
           rw [inName_eq] at hq'
           simp only [Bool.or_eq_false_iff] at hq'
           obtain ⟨⟨⟨q1, q2⟩, q3⟩, q4⟩ := hq'
           simp -dsimp only [hn, h0, h3, len_s, hd, index_s hil, byt, ct_prim rf0_43, ct_prim rf0_44, qP_eq, q1, q2, q3, q4, wt_seq, wt_block, wt_region, wt_cond, wt_skip, wt_ret, wt_exit, wst_nil, wst_app_nil, wst_app_cons, wst_cons, wst_guard, andThen_normal, andThen_ret, andThen_exit, leave_normal, leave_ret, leave_exit, EndsA_ret, EndsA_normal, ot_move, ot_assign, ot_pick, ot_binOp, ot_unOp, ot_convert, ot_field, ot_index, ot_indexAddr, ot_fieldAddr, ot_slice, ot_build, ot_buildSlice, ot_extract, ot_makeInterface, ot_makeFunc, ot_nilCheck, ot_call, ot_len, ot_append, ot_box, ot_load, ot_store, ot_makeSlice, ct_bool, ct_true, ct_false, bt_some, gt_some, aval_tmp, aval_int, aval_bool, aval_str, aval_slice, aval_nilPointer, aval_nilIface, aval_func, aval_global, avals, apairs, bareP, AV.bare, AV.bares, bin_lss, bin_leq, bin_gtr, bin_geq, bin_eql, bin_neq, bin_add, bin_sub, bin_mul, bin_and, bin_or, bin_xor, toV_int, toV_bool, toV_string, un_neg, un_not, bin_str_eql, bin_str_neq, bin_str_lss, bin_str_leq, bin_str_gtr, bin_str_geq, aget_aput, length_aput, aput_none, Nat.reduceEqDiff, Nat.reduceLT, Nat.reduceAdd, reduceIte, reduceCtorEq, Bool.not_false, Bool.not_true, Bool.true_or, true_and, Option.bind_some, Option.map_some, List.nil_append, List.cons_append, resA, resA1, resVal, Option.getD_some, Nat.reduceLeDiff, bnd_some, yieldA_eq, yldOf_some, boolOf_bool, boolOf_undef, gt_none, List.getElem?_toArray, List.getElem?_cons_succ, List.getElem?_cons_zero, bq_true, bq_false, decide_true, decide_false, Option.toList_none, Option.toList_some, List.head?_cons, List.head?_nil, nb_cfg, not_false_eq_true, cv_some, pm_some, pm_none, plainA_v, plain_bool, plain_int, plain_str, Bool.false_eq_true, if_false])
      all_goals
        by_cases hz : i = 0
        · have hd : decide ((i : Int) = 0) = true := decide_eq_true (by omega)
          simp -dsimp only [hn, h0, h3, hd, wt_seq, wt_block, wt_region, wt_cond, wt_skip, wt_ret, wt_exit, wst_nil, wst_app_nil, wst_app_cons, wst_cons, wst_guard, andThen_normal, andThen_ret, andThen_exit, leave_normal, leave_ret, leave_exit, EndsA_ret, EndsA_normal, ot_move, ot_assign, ot_pick, ot_binOp, ot_unOp, ot_convert, ot_field, ot_index, ot_indexAddr, ot_fieldAddr, ot_slice, ot_build, ot_buildSlice, ot_extract, ot_makeInterface, ot_makeFunc, ot_nilCheck, ot_call, ot_len, ot_append, ot_box, ot_load, ot_store, ot_makeSlice, ct_bool, ct_true, ct_false, bt_some, gt_some, aval_tmp, aval_int, aval_bool, aval_str, aval_slice, aval_nilPointer, aval_nilIface, aval_func, aval_global, avals, apairs, bareP, AV.bare, AV.bares, bin_lss, bin_leq, bin_gtr, bin_geq, bin_eql, bin_neq, bin_add, bin_sub, bin_mul, bin_and, bin_or, bin_xor, toV_int, toV_bool, toV_string, un_neg, un_not, bin_str_eql, bin_str_neq, bin_str_lss, bin_str_leq, bin_str_gtr, bin_str_geq, aget_aput, length_aput, aput_none, Nat.reduceEqDiff, Nat.reduceLT, Nat.reduceAdd, reduceIte, reduceCtorEq, Bool.not_false, Bool.not_true, Bool.true_or, true_and, Option.bind_some, Option.map_some, List.nil_append, List.cons_append, resA, resA1, resVal, Option.getD_some, Nat.reduceLeDiff, bnd_some, yieldA_eq, yldOf_some, boolOf_bool, boolOf_undef, gt_none, List.getElem?_toArray, List.getElem?_cons_succ, List.getElem?_cons_zero, bq_true, bq_false, decide_true, decide_false, Option.toList_none, Option.toList_some, List.head?_cons, List.head?_nil, nb_cfg, not_false_eq_true, cv_some, pm_some, pm_none, plainA_v, plain_bool, plain_int, plain_str, Bool.false_eq_true, if_false]
          refine ⟨1, ?_⟩
          rw [← hR, refS, if_pos (Or.inl hz)]
          rfl
        have hdz : decide ((i : Int) = 0) = false := decide_eq_false (by omega)
        by_cases hL : 255 < l.length
        · have hd : decide ((255 : Int) < ((l.length : Nat) : Int)) = true := decide_eq_true (by omega)
          simp -dsimp only [hn, h0, h3, hdz, hd, len_s, wt_seq, wt_block, wt_region, wt_cond, wt_skip, wt_ret, wt_exit, wst_nil, wst_app_nil, wst_app_cons, wst_cons, wst_guard, andThen_normal, andThen_ret, andThen_exit, leave_normal, leave_ret, leave_exit, EndsA_ret, EndsA_normal, ot_move, ot_assign, ot_pick, ot_binOp, ot_unOp, ot_convert, ot_field, ot_index, ot_indexAddr, ot_fieldAddr, ot_slice, ot_build, ot_buildSlice, ot_extract, ot_makeInterface, ot_makeFunc, ot_nilCheck, ot_call, ot_len, ot_append, ot_box, ot_load, ot_store, ot_makeSlice, ct_bool, ct_true, ct_false, bt_some, gt_some, aval_tmp, aval_int, aval_bool, aval_str, aval_slice, aval_nilPointer, aval_nilIface, aval_func, aval_global, avals, apairs, bareP, AV.bare, AV.bares, bin_lss, bin_leq, bin_gtr, bin_geq, bin_eql, bin_neq, bin_add, bin_sub, bin_mul, bin_and, bin_or, bin_xor, toV_int, toV_bool, toV_string, un_neg, un_not, bin_str_eql, bin_str_neq, bin_str_lss, bin_str_leq, bin_str_gtr, bin_str_geq, aget_aput, length_aput, aput_none, Nat.reduceEqDiff, Nat.reduceLT, Nat.reduceAdd, reduceIte, reduceCtorEq, Bool.not_false, Bool.not_true, Bool.true_or, true_and, Option.bind_some, Option.map_some, List.nil_append, List.cons_append, resA, resA1, resVal, Option.getD_some, Nat.reduceLeDiff, bnd_some, yieldA_eq, yldOf_some, boolOf_bool, boolOf_undef, gt_none, List.getElem?_toArray, List.getElem?_cons_succ, List.getElem?_cons_zero, bq_true, bq_false, decide_true, decide_false, Option.toList_none, Option.toList_some, List.head?_cons, List.head?_nil, nb_cfg, not_false_eq_true, cv_some, pm_some, pm_none, plainA_v, plain_bool, plain_int, plain_str, Bool.false_eq_true, if_false]
          refine ⟨1, ?_⟩
          rw [← hR, refS, if_pos (Or.inr hL)]
          rfl
        have hdL : decide ((255 : Int) < ((l.length : Nat) : Int)) = false := decide_eq_false (by omega)
        by_cases he : i = l.length
        · have hd : decide ((i : Int) = ((l.length : Nat) : Int)) = true := decide_eq_true (by omega)
          simp -dsimp only [hn, h0, h3, hdz, hdL, hd, len_s, wt_seq, wt_block, wt_region, wt_cond, wt_skip, wt_ret, wt_exit, wst_nil, wst_app_nil, wst_app_cons, wst_cons, wst_guard, andThen_normal, andThen_ret, andThen_exit, leave_normal, leave_ret, leave_exit, EndsA_ret, EndsA_normal, ot_move, ot_assign, ot_pick, ot_binOp, ot_unOp, ot_convert, ot_field, ot_index, ot_indexAddr, ot_fieldAddr, ot_slice, ot_build, ot_buildSlice, ot_extract, ot_makeInterface, ot_makeFunc, ot_nilCheck, ot_call, ot_len, ot_append, ot_box, ot_load, ot_store, ot_makeSlice, ct_bool, ct_true, ct_false, bt_some, gt_some, aval_tmp, aval_int, aval_bool, aval_str, aval_slice, aval_nilPointer, aval_nilIface, aval_func, aval_global, avals, apairs, bareP, AV.bare, AV.bares, bin_lss, bin_leq, bin_gtr, bin_geq, bin_eql, bin_neq, bin_add, bin_sub, bin_mul, bin_and, bin_or, bin_xor, toV_int, toV_bool, toV_string, un_neg, un_not, bin_str_eql, bin_str_neq, bin_str_lss, bin_str_leq, bin_str_gtr, bin_str_geq, aget_aput, length_aput, aput_none, Nat.reduceEqDiff, Nat.reduceLT, Nat.reduceAdd, reduceIte, reduceCtorEq, Bool.not_false, Bool.not_true, Bool.true_or, true_and, Option.bind_some, Option.map_some, List.nil_append, List.cons_append, resA, resA1, resVal, Option.getD_some, Nat.reduceLeDiff, bnd_some, yieldA_eq, yldOf_some, boolOf_bool, boolOf_undef, gt_none, List.getElem?_toArray, List.getElem?_cons_succ, List.getElem?_cons_zero, bq_true, bq_false, decide_true, decide_false, Option.toList_none, Option.toList_some, List.head?_cons, List.head?_nil, nb_cfg, not_false_eq_true, cv_some, pm_some, pm_none, plainA_v, plain_bool, plain_int, plain_str, Bool.false_eq_true, if_false]
          refine ⟨1, ?_⟩
          rw [← hR, refS, if_neg (by omega), if_pos he]
          rfl
        have hde : decide ((i : Int) = ((l.length : Nat) : Int)) = false := decide_eq_false (by omega)
        have hil : i < l.length := by omega
        have e1 : IntKind.i64.wrap ((i : Int) + 1) = ((i + 1 : Nat) : Int) := wr64 (by omega) (by omega)
        rw [← hR, refS, if_neg (by omega), if_neg he]
        generalize hp : l.drop (i + 1) = p
        have hpl : p.length + (i + 1) = l.length := by rw [← hp, List.length_drop]; omega
        simp -dsimp only [hn, h0, h3, hdz, hdL, hde, len_s, e1, sliceD (show i + 1 ≤ l.length by omega), hp, wt_seq, wt_block, wt_region, wt_cond, wt_skip, wt_ret, wt_exit, wst_nil, wst_app_nil, wst_app_cons, wst_cons, wst_guard, andThen_normal, andThen_ret, andThen_exit, leave_normal, leave_ret, leave_exit, EndsA_ret, EndsA_normal, ot_move, ot_assign, ot_pick, ot_binOp, ot_unOp, ot_convert, ot_field, ot_index, ot_indexAddr, ot_fieldAddr, ot_slice, ot_build, ot_buildSlice, ot_extract, ot_makeInterface, ot_makeFunc, ot_nilCheck, ot_call, ot_len, ot_append, ot_box, ot_load, ot_store, ot_makeSlice, ct_bool, ct_true, ct_false, bt_some, gt_some, aval_tmp, aval_int, aval_bool, aval_str, aval_slice, aval_nilPointer, aval_nilIface, aval_func, aval_global, avals, apairs, bareP, AV.bare, AV.bares, bin_lss, bin_leq, bin_gtr, bin_geq, bin_eql, bin_neq, bin_add, bin_sub, bin_mul, bin_and, bin_or, bin_xor, toV_int, toV_bool, toV_string, un_neg, un_not, bin_str_eql, bin_str_neq, bin_str_lss, bin_str_leq, bin_str_gtr, bin_str_geq, aget_aput, length_aput, aput_none, Nat.reduceEqDiff, Nat.reduceLT, Nat.reduceAdd, reduceIte, reduceCtorEq, Bool.not_false, Bool.not_true, Bool.true_or, true_and, Option.bind_some, Option.map_some, List.nil_append, List.cons_append, resA, resA1, resVal, Option.getD_some, Nat.reduceLeDiff, bnd_some, yieldA_eq, yldOf_some, boolOf_bool, boolOf_undef, gt_none, List.getElem?_toArray, List.getElem?_cons_succ, List.getElem?_cons_zero, bq_true, bq_false, decide_true, decide_false, Option.toList_none, Option.toList_some, List.head?_cons, List.head?_nil, nb_cfg, not_false_eq_true, cv_some, pm_some, pm_none, plainA_v, plain_bool, plain_int, plain_str, Bool.false_eq_true, if_false]
        refine wt_loop (m := p.length) (fun m e h => ∃ k, k + m = p.length ∧ rsJ l p i k e h ∧ ∀ c ∈ p.take k, inDigits c = true) ?_ ?_
        · rintro m e h ⟨k, hk, ⟨⟨hn, rfl, h0, h3⟩, h4, h5⟩, okk⟩
          simp -dsimp only [hn, h0, h3, h4, h5, len_s, wt_seq, wt_block, wt_region, wt_cond, wt_skip, wt_ret, wt_exit, wst_nil, wst_app_nil, wst_app_cons, wst_cons, wst_guard, andThen_normal, andThen_ret, andThen_exit, leave_normal, leave_ret, leave_exit, EndsA_ret, EndsA_normal, ot_move, ot_assign, ot_pick, ot_binOp, ot_unOp, ot_convert, ot_field, ot_index, ot_indexAddr, ot_fieldAddr, ot_slice, ot_build, ot_buildSlice, ot_extract, ot_makeInterface, ot_makeFunc, ot_nilCheck, ot_call, ot_len, ot_append, ot_box, ot_load, ot_store, ot_makeSlice, ct_bool, ct_true, ct_false, bt_some, gt_some, aval_tmp, aval_int, aval_bool, aval_str, aval_slice, aval_nilPointer, aval_nilIface, aval_func, aval_global, avals, apairs, bareP, AV.bare, AV.bares, bin_lss, bin_leq, bin_gtr, bin_geq, bin_eql, bin_neq, bin_add, bin_sub, bin_mul, bin_and, bin_or, bin_xor, toV_int, toV_bool, toV_string, un_neg, un_not, bin_str_eql, bin_str_neq, bin_str_lss, bin_str_leq, bin_str_gtr, bin_str_geq, aget_aput, length_aput, aput_none, Nat.reduceEqDiff, Nat.reduceLT, Nat.reduceAdd, reduceIte, reduceCtorEq, Bool.not_false, Bool.not_true, Bool.true_or, true_and, Option.bind_some, Option.map_some, List.nil_append, List.cons_append, resA, resA1, resVal, Option.getD_some, Nat.reduceLeDiff, bnd_some, yieldA_eq, yldOf_some, boolOf_bool, boolOf_undef, gt_none, List.getElem?_toArray, List.getElem?_cons_succ, List.getElem?_cons_zero, bq_true, bq_false, decide_true, decide_false, Option.toList_none, Option.toList_some, List.head?_cons, List.head?_nil, nb_cfg, not_false_eq_true, cv_some, pm_some, pm_none, plainA_v, plain_bool, plain_int, plain_str, Bool.false_eq_true, if_false]
          by_cases hkl : k < p.length
          · have hd : decide ((k : Int) < ((p.length : Nat) : Int)) = true := decide_eq_true (by omega)
            have e2 : IntKind.i64.wrap ((k : Int) + 1) = ((k + 1 : Nat) : Int) := wr64 (by omega) (by omega)
            simp -dsimp only [hn, h0, h3, h4, h5, hd, index_s hkl, byt, ct_prim rf0_44, qP_eq, wt_seq, wt_block, wt_region, wt_cond, wt_skip, wt_ret, wt_exit, wst_nil, wst_app_nil, wst_app_cons, wst_cons, wst_guard, andThen_normal, andThen_ret, andThen_exit, leave_normal, leave_ret, leave_exit, EndsA_ret, EndsA_normal, ot_move, ot_assign, ot_pick, ot_binOp, ot_unOp, ot_convert, ot_field, ot_index, ot_indexAddr, ot_fieldAddr, ot_slice, ot_build, ot_buildSlice, ot_extract, ot_makeInterface, ot_makeFunc, ot_nilCheck, ot_call, ot_len, ot_append, ot_box, ot_load, ot_store, ot_makeSlice, ct_bool, ct_true, ct_false, bt_some, gt_some, aval_tmp, aval_int, aval_bool, aval_str, aval_slice, aval_nilPointer, aval_nilIface, aval_func, aval_global, avals, apairs, bareP, AV.bare, AV.bares, bin_lss, bin_leq, bin_gtr, bin_geq, bin_eql, bin_neq, bin_add, bin_sub, bin_mul, bin_and, bin_or, bin_xor, toV_int, toV_bool, toV_string, un_neg, un_not, bin_str_eql, bin_str_neq, bin_str_lss, bin_str_leq, bin_str_gtr, bin_str_geq, aget_aput, length_aput, aput_none, Nat.reduceEqDiff, Nat.reduceLT, Nat.reduceAdd, reduceIte, reduceCtorEq, Bool.not_false, Bool.not_true, Bool.true_or, true_and, Option.bind_some, Option.map_some, List.nil_append, List.cons_append, resA, resA1, resVal, Option.getD_some, Nat.reduceLeDiff, bnd_some, yieldA_eq, yldOf_some, boolOf_bool, boolOf_undef, gt_none, List.getElem?_toArray, List.getElem?_cons_succ, List.getElem?_cons_zero, bq_true, bq_false, decide_true, decide_false, Option.toList_none, Option.toList_some, List.head?_cons, List.head?_nil, nb_cfg, not_false_eq_true, cv_some, pm_some, pm_none, plainA_v, plain_bool, plain_int, plain_str, Bool.false_eq_true, if_false]
            cases q : inDigits p[k] with
            | true =>
              simp -dsimp only [hn, h0, h3, h4, h5, q, e2, wt_seq, wt_block, wt_region, wt_cond, wt_skip, wt_ret, wt_exit, wst_nil, wst_app_nil, wst_app_cons, wst_cons, wst_guard, andThen_normal, andThen_ret, andThen_exit, leave_normal, leave_ret, leave_exit, EndsA_ret, EndsA_normal, ot_move, ot_assign, ot_pick, ot_binOp, ot_unOp, ot_convert, ot_field, ot_index, ot_indexAddr, ot_fieldAddr, ot_slice, ot_build, ot_buildSlice, ot_extract, ot_makeInterface, ot_makeFunc, ot_nilCheck, ot_call, ot_len, ot_append, ot_box, ot_load, ot_store, ot_makeSlice, ct_bool, ct_true, ct_false, bt_some, gt_some, aval_tmp, aval_int, aval_bool, aval_str, aval_slice, aval_nilPointer, aval_nilIface, aval_func, aval_global, avals, apairs, bareP, AV.bare, AV.bares, bin_lss, bin_leq, bin_gtr, bin_geq, bin_eql, bin_neq, bin_add, bin_sub, bin_mul, bin_and, bin_or, bin_xor, toV_int, toV_bool, toV_string, un_neg, un_not, bin_str_eql, bin_str_neq, bin_str_lss, bin_str_leq, bin_str_gtr, bin_str_geq, aget_aput, length_aput, aput_none, Nat.reduceEqDiff, Nat.reduceLT, Nat.reduceAdd, reduceIte, reduceCtorEq, Bool.not_false, Bool.not_true, Bool.true_or, true_and, Option.bind_some, Option.map_some, List.nil_append, List.cons_append, resA, resA1, resVal, Option.getD_some, Nat.reduceLeDiff, bnd_some, yieldA_eq, yldOf_some, boolOf_bool, boolOf_undef, gt_none, List.getElem?_toArray, List.getElem?_cons_succ, List.getElem?_cons_zero, bq_true, bq_false, decide_true, decide_false, Option.toList_none, Option.toList_some, List.head?_cons, List.head?_nil, nb_cfg, not_false_eq_true, cv_some, pm_some, pm_none, plainA_v, plain_bool, plain_int, plain_str, Bool.false_eq_true, if_false]
              refine ⟨m - 1, by omega, k + 1, by omega, ⟨⟨?_, rfl, ?_, ?_⟩, ?_, ?_⟩, all_take hkl okk q⟩
              all_goals simp -dsimp only [hn, h0, h3, h4, wt_seq, wt_block, wt_region, wt_cond, wt_skip, wt_ret, wt_exit, wst_nil, wst_app_nil, wst_app_cons, wst_cons, wst_guard, andThen_normal, andThen_ret, andThen_exit, leave_normal, leave_ret, leave_exit, EndsA_ret, EndsA_normal, ot_move, ot_assign, ot_pick, ot_binOp, ot_unOp, ot_convert, ot_field, ot_index, ot_indexAddr, ot_fieldAddr, ot_slice, ot_build, ot_buildSlice, ot_extract, ot_makeInterface, ot_makeFunc, ot_nilCheck, ot_call, ot_len, ot_append, ot_box, ot_load, ot_store, ot_makeSlice, ct_bool, ct_true, ct_false, bt_some, gt_some, aval_tmp, aval_int, aval_bool, aval_str, aval_slice, aval_nilPointer, aval_nilIface, aval_func, aval_global, avals, apairs, bareP, AV.bare, AV.bares, bin_lss, bin_leq, bin_gtr, bin_geq, bin_eql, bin_neq, bin_add, bin_sub, bin_mul, bin_and, bin_or, bin_xor, toV_int, toV_bool, toV_string, un_neg, un_not, bin_str_eql, bin_str_neq, bin_str_lss, bin_str_leq, bin_str_gtr, bin_str_geq, aget_aput, length_aput, aput_none, Nat.reduceEqDiff, Nat.reduceLT, Nat.reduceAdd, reduceIte, reduceCtorEq, Bool.not_false, Bool.not_true, Bool.true_or, true_and, Option.bind_some, Option.map_some, List.nil_append, List.cons_append, resA, resA1, resVal, Option.getD_some, Nat.reduceLeDiff, bnd_some, yieldA_eq, yldOf_some, boolOf_bool, boolOf_undef, gt_none, List.getElem?_toArray, List.getElem?_cons_succ, List.getElem?_cons_zero, bq_true, bq_false, decide_true, decide_false, Option.toList_none, Option.toList_some, List.head?_cons, List.head?_nil, nb_cfg, not_false_eq_true, cv_some, pm_some, pm_none, plainA_v, plain_bool, plain_int, plain_str, Bool.false_eq_true, if_false]
            | false =>
              simp -dsimp only [hn, h0, h3, h4, h5, q, wt_seq, wt_block, wt_region, wt_cond, wt_skip, wt_ret, wt_exit, wst_nil, wst_app_nil, wst_app_cons, wst_cons, wst_guard, andThen_normal, andThen_ret, andThen_exit, leave_normal, leave_ret, leave_exit, EndsA_ret, EndsA_normal, ot_move, ot_assign, ot_pick, ot_binOp, ot_unOp, ot_convert, ot_field, ot_index, ot_indexAddr, ot_fieldAddr, ot_slice, ot_build, ot_buildSlice, ot_extract, ot_makeInterface, ot_makeFunc, ot_nilCheck, ot_call, ot_len, ot_append, ot_box, ot_load, ot_store, ot_makeSlice, ct_bool, ct_true, ct_false, bt_some, gt_some, aval_tmp, aval_int, aval_bool, aval_str, aval_slice, aval_nilPointer, aval_nilIface, aval_func, aval_global, avals, apairs, bareP, AV.bare, AV.bares, bin_lss, bin_leq, bin_gtr, bin_geq, bin_eql, bin_neq, bin_add, bin_sub, bin_mul, bin_and, bin_or, bin_xor, toV_int, toV_bool, toV_string, un_neg, un_not, bin_str_eql, bin_str_neq, bin_str_lss, bin_str_leq, bin_str_gtr, bin_str_geq, aget_aput, length_aput, aput_none, Nat.reduceEqDiff, Nat.reduceLT, Nat.reduceAdd, reduceIte, reduceCtorEq, Bool.not_false, Bool.not_true, Bool.true_or, true_and, Option.bind_some, Option.map_some, List.nil_append, List.cons_append, resA, resA1, resVal, Option.getD_some, Nat.reduceLeDiff, bnd_some, yieldA_eq, yldOf_some, boolOf_bool, boolOf_undef, gt_none, List.getElem?_toArray, List.getElem?_cons_succ, List.getElem?_cons_zero, bq_true, bq_false, decide_true, decide_false, Option.toList_none, Option.toList_some, List.head?_cons, List.head?_nil, nb_cfg, not_false_eq_true, cv_some, pm_some, pm_none, plainA_v, plain_bool, plain_int, plain_str, Bool.false_eq_true, if_false]
              refine ⟨1, ?_⟩
              have : p.all inDigits = false := by
                rw [List.all_eq_false]
                exact ⟨p[k], List.getElem_mem hkl, by simp [q]⟩
              rw [this]
              rfl
          · have hd : decide ((k : Int) < ((p.length : Nat) : Int)) = false := decide_eq_false (by omega)
            have hke : k = p.length := by omega
            subst hke
            rw [List.take_length] at okk
            have hall : p.all inDigits = true := List.all_eq_true.2 okk
            have hg : decide (l[i]? = some 58) = decide ((((l[i]).toNat : Nat) : Int) = 58) := by
              rw [colon, List.getElem?_eq_getElem hil]
              simp
            have h1p : decide (1 ≤ p.length) = decide ((1 : Int) ≤ ((p.length : Nat) : Int)) := by
              rw [decide_eq_decide]; omega
            have h5p : decide (p.length ≤ 5) = decide (((p.length : Nat) : Int) ≤ 5) := by
              rw [decide_eq_decide]; omega
            rw [hall, hg, h1p, h5p]
            cases q1 : decide ((((l[i]).toNat : Nat) : Int) = 58) <;> cases q2 : decide ((1 : Int) ≤ ((p.length : Nat) : Int)) <;> cases q3 : decide (((p.length : Nat) : Int) ≤ 5) <;>
              (simp -dsimp only [hn, h0, h3, h4, h5, hd, index_s hil, byt, len_s, q1, q2, q3, wt_seq, wt_block, wt_region, wt_cond, wt_skip, wt_ret, wt_exit, wst_nil, wst_app_nil, wst_app_cons, wst_cons, wst_guard, andThen_normal, andThen_ret, andThen_exit, leave_normal, leave_ret, leave_exit, EndsA_ret, EndsA_normal, ot_move, ot_assign, ot_pick, ot_binOp, ot_unOp, ot_convert, ot_field, ot_index, ot_indexAddr, ot_fieldAddr, ot_slice, ot_build, ot_buildSlice, ot_extract, ot_makeInterface, ot_makeFunc, ot_nilCheck, ot_call, ot_len, ot_append, ot_box, ot_load, ot_store, ot_makeSlice, ct_bool, ct_true, ct_false, bt_some, gt_some, aval_tmp, aval_int, aval_bool, aval_str, aval_slice, aval_nilPointer, aval_nilIface, aval_func, aval_global, avals, apairs, bareP, AV.bare, AV.bares, bin_lss, bin_leq, bin_gtr, bin_geq, bin_eql, bin_neq, bin_add, bin_sub, bin_mul, bin_and, bin_or, bin_xor, toV_int, toV_bool, toV_string, un_neg, un_not, bin_str_eql, bin_str_neq, bin_str_lss, bin_str_leq, bin_str_gtr, bin_str_geq, aget_aput, length_aput, aput_none, Nat.reduceEqDiff, Nat.reduceLT, Nat.reduceAdd, reduceIte, reduceCtorEq, Bool.not_false, Bool.not_true, Bool.true_or, true_and, Option.bind_some, Option.map_some, List.nil_append, List.cons_append, resA, resA1, resVal, Option.getD_some, Nat.reduceLeDiff, bnd_some, yieldA_eq, yldOf_some, boolOf_bool, boolOf_undef, gt_none, List.getElem?_toArray, List.getElem?_cons_succ, List.getElem?_cons_zero, bq_true, bq_false, decide_true, decide_false, Option.toList_none, Option.toList_some, List.head?_cons, List.head?_nil, nb_cfg, not_false_eq_true, cv_some, pm_some, pm_none, plainA_v, plain_bool, plain_int, plain_str, Bool.false_eq_true, if_false]
               exact ⟨1, rfl⟩)
        · refine ⟨0, Nat.zero_add _, ⟨⟨?_, rfl, ?_, ?_⟩, ?_, ?_⟩, fun c hc => by simp at hc⟩
          any_goals simp -dsimp only [hn, h0, h3, wt_seq, wt_block, wt_region, wt_cond, wt_skip, wt_ret, wt_exit, wst_nil, wst_app_nil, wst_app_cons, wst_cons, wst_guard, andThen_normal, andThen_ret, andThen_exit, leave_normal, leave_ret, leave_exit, EndsA_ret, EndsA_normal, ot_move, ot_assign, ot_pick, ot_binOp, ot_unOp, ot_convert, ot_field, ot_index, ot_indexAddr, ot_fieldAddr, ot_slice, ot_build, ot_buildSlice, ot_extract, ot_makeInterface, ot_makeFunc, ot_nilCheck, ot_call, ot_len, ot_append, ot_box, ot_load, ot_store, ot_makeSlice, ct_bool, ct_true, ct_false, bt_some, gt_some, aval_tmp, aval_int, aval_bool, aval_str, aval_slice, aval_nilPointer, aval_nilIface, aval_func, aval_global, avals, apairs, bareP, AV.bare, AV.bares, bin_lss, bin_leq, bin_gtr, bin_geq, bin_eql, bin_neq, bin_add, bin_sub, bin_mul, bin_and, bin_or, bin_xor, toV_int, toV_bool, toV_string, un_neg, un_not, bin_str_eql, bin_str_neq, bin_str_lss, bin_str_leq, bin_str_gtr, bin_str_geq, aget_aput, length_aput, aput_none, Nat.reduceEqDiff, Nat.reduceLT, Nat.reduceAdd, reduceIte, reduceCtorEq, Bool.not_false, Bool.not_true, Bool.true_or, true_and, Option.bind_some, Option.map_some, List.nil_append, List.cons_append, resA, resA1, resVal, Option.getD_some, Nat.reduceLeDiff, bnd_some, yieldA_eq, yldOf_some, boolOf_bool, boolOf_undef, gt_none, List.getElem?_toArray, List.getElem?_cons_succ, List.getElem?_cons_zero, bq_true, bq_false, decide_true, decide_false, Option.toList_none, Option.toList_some, List.head?_cons, List.head?_nil, nb_cfg, not_false_eq_true, cv_some, pm_some, pm_none, plainA_v, plain_bool, plain_int, plain_str, Bool.false_eq_true, if_false]
          rfl
  · refine ⟨0, Nat.zero_add _, ⟨?_, rfl, ?_, ?_⟩, fun c hc => by simp at hc⟩
    any_goals simp -dsimp only [hn, h0, wt_seq, wt_block, wt_region, wt_cond, wt_skip, wt_ret, wt_exit, wst_nil, wst_app_nil, wst_app_cons, wst_cons, wst_guard, andThen_normal, andThen_ret, andThen_exit, leave_normal, leave_ret, leave_exit, EndsA_ret, EndsA_normal, ot_move, ot_assign, ot_pick, ot_binOp, ot_unOp, ot_convert, ot_field, ot_index, ot_indexAddr, ot_fieldAddr, ot_slice, ot_build, ot_buildSlice, ot_extract, ot_makeInterface, ot_makeFunc, ot_nilCheck, ot_call, ot_len, ot_append, ot_box, ot_load, ot_store, ot_makeSlice, ct_bool, ct_true, ct_false, bt_some, gt_some, aval_tmp, aval_int, aval_bool, aval_str, aval_slice, aval_nilPointer, aval_nilIface, aval_func, aval_global, avals, apairs, bareP, AV.bare, AV.bares, bin_lss, bin_leq, bin_gtr, bin_geq, bin_eql, bin_neq, bin_add, bin_sub, bin_mul, bin_and, bin_or, bin_xor, toV_int, toV_bool, toV_string, un_neg, un_not, bin_str_eql, bin_str_neq, bin_str_lss, bin_str_leq, bin_str_gtr, bin_str_geq, aget_aput, length_aput, aput_none, Nat.reduceEqDiff, Nat.reduceLT, Nat.reduceAdd, reduceIte, reduceCtorEq, Bool.not_false, Bool.not_true, Bool.true_or, true_and, Option.bind_some, Option.map_some, List.nil_append, List.cons_append, resA, resA1, resVal, Option.getD_some, Nat.reduceLeDiff, bnd_some, yieldA_eq, yldOf_some, boolOf_bool, boolOf_undef, gt_none, List.getElem?_toArray, List.getElem?_cons_succ, List.getElem?_cons_zero, bq_true, bq_false, decide_true, decide_false, Option.toList_none, Option.toList_some, List.head?_cons, List.head?_nil, nb_cfg, not_false_eq_true, cv_some, pm_some, pm_none, plainA_v, plain_bool, plain_int, plain_str, Bool.false_eq_true, if_false]
    rfl
end Go.Proofs.YtonmpbfddiflhaaDoor

/- The document's names: KeyID. -/
namespace Go.Proofs.YtonmpbfddiflhaaDoor
open Go.AM
structure rkI (l : List UInt8) (i : Nat) (e : Env) (h : Hp) : Prop where
  len : e.length = 41
  hp : h = {}
  a0 : aget e 0 = str l
  a3 : aget e 3 = .v (.int .i64 i)
theorem take8 (l : List UInt8) : decide (l.take 8 = [101, 100, 50, 53, 53, 49, 57, 58]) = edL.isPrefixOf l := by
  rw [Bool.eq_iff_iff, decide_eq_true_eq, List.isPrefixOf_iff_prefix, List.prefix_iff_eq_take]
  exact ⟨fun h => h.symm, fun h => h.symm⟩
set_option maxHeartbeats 4000000 in
theorem refKeyID_ok (l : List UInt8) (hl : l.length < 2 ^ 63) : PureOk (cfgP rf0) 29 [str l] (.v (.bool (keyIDB l))) := by
  have s32 := allS_eq (l.drop 8) 32 inKeyName
  rw [show ((32 : Nat) : Int) = 32 from rfl] at s32
  refine pure_of_wk (call := noCall) (fn := Tryd.f29) (rs := [.tmp 2]) rf0_ok noCall_ok (fns_cfg Tryd.func29 rfl) rfl rfl ?_
  intro env hl0 hargs
  have hn : env.length = 41 := hl0
  have h0 := hargs 0 _ rfl
  clear hargs hl0
  refine wkT_of ?_
  simp -dsimp only [hn, h0, len_s, wt_seq, wt_block, wt_region, wt_cond, wt_skip, wt_ret, wt_exit, wst_nil, wst_app_nil, wst_app_cons, wst_cons, wst_guard, andThen_normal, andThen_ret, andThen_exit, leave_normal, leave_ret, leave_exit, EndsA_ret, EndsA_normal, ot_move, ot_assign, ot_pick, ot_binOp, ot_unOp, ot_convert, ot_field, ot_index, ot_indexAddr, ot_fieldAddr, ot_slice, ot_build, ot_buildSlice, ot_extract, ot_makeInterface, ot_makeFunc, ot_nilCheck, ot_call, ot_len, ot_append, ot_box, ot_load, ot_store, ot_makeSlice, ct_bool, ct_true, ct_false, bt_some, gt_some, aval_tmp, aval_int, aval_bool, aval_str, aval_slice, aval_nilPointer, aval_nilIface, aval_func, aval_global, avals, apairs, bareP, AV.bare, AV.bares, bin_lss, bin_leq, bin_gtr, bin_geq, bin_eql, bin_neq, bin_add, bin_sub, bin_mul, bin_and, bin_or, bin_xor, toV_int, toV_bool, toV_string, un_neg, un_not, bin_str_eql, bin_str_neq, bin_str_lss, bin_str_leq, bin_str_gtr, bin_str_geq, aget_aput, length_aput, aput_none, Nat.reduceEqDiff, Nat.reduceLT, Nat.reduceAdd, reduceIte, reduceCtorEq, Bool.not_false, Bool.not_true, Bool.true_or, true_and, Option.bind_some, Option.map_some, List.nil_append, List.cons_append, resA, resA1, resVal, Option.getD_some, Nat.reduceLeDiff, bnd_some, yieldA_eq, yldOf_some, boolOf_bool, boolOf_undef, gt_none, List.getElem?_toArray, List.getElem?_cons_succ, List.getElem?_cons_zero, bq_true, bq_false, decide_true, decide_false, Option.toList_none, Option.toList_some, List.head?_cons, List.head?_nil, nb_cfg, not_false_eq_true, cv_some, pm_some, pm_none, plainA_v, plain_bool, plain_int, plain_str, Bool.false_eq_true, if_false]
  by_cases h8 : l.length ≤ 8
  · have hd : decide (((l.length : Nat) : Int) ≤ 8) = true := decide_eq_true (by omega)
    simp -dsimp only [hn, h0, len_s, hd, wt_seq, wt_block, wt_region, wt_cond, wt_skip, wt_ret, wt_exit, wst_nil, wst_app_nil, wst_app_cons, wst_cons, wst_guard, andThen_normal, andThen_ret, andThen_exit, leave_normal, leave_ret, leave_exit, EndsA_ret, EndsA_normal, ot_move, ot_assign, ot_pick, ot_binOp, ot_unOp, ot_convert, ot_field, ot_index, ot_indexAddr, ot_fieldAddr, ot_slice, ot_build, ot_buildSlice, ot_extract, ot_makeInterface, ot_makeFunc, ot_nilCheck, ot_call, ot_len, ot_append, ot_box, ot_load, ot_store, ot_makeSlice, ct_bool, ct_true, ct_false, bt_some, gt_some, aval_tmp, aval_int, aval_bool, aval_str, aval_slice, aval_nilPointer, aval_nilIface, aval_func, aval_global, avals, apairs, bareP, AV.bare, AV.bares, bin_lss, bin_leq, bin_gtr, bin_geq, bin_eql, bin_neq, bin_add, bin_sub, bin_mul, bin_and, bin_or, bin_xor, toV_int, toV_bool, toV_string, un_neg, un_not, bin_str_eql, bin_str_neq, bin_str_lss, bin_str_leq, bin_str_gtr, bin_str_geq, aget_aput, length_aput, aput_none, Nat.reduceEqDiff, Nat.reduceLT, Nat.reduceAdd, reduceIte, reduceCtorEq, Bool.not_false, Bool.not_true, Bool.true_or, true_and, Option.bind_some, Option.map_some, List.nil_append, List.cons_append, resA, resA1, resVal, Option.getD_some, Nat.reduceLeDiff, bnd_some, yieldA_eq, yldOf_some, boolOf_bool, boolOf_undef, gt_none, List.getElem?_toArray, List.getElem?_cons_succ, List.getElem?_cons_zero, bq_true, bq_false, decide_true, decide_false, Option.toList_none, Option.toList_some, List.head?_cons, List.head?_nil, nb_cfg, not_false_eq_true, cv_some, pm_some, pm_none, plainA_v, plain_bool, plain_int, plain_str, Bool.false_eq_true, if_false]
    refine ⟨1, ?_⟩
    have : keyIDB l = false := by
      unfold keyIDB
      rw [s32]
      have : ¬ 0 < (l.drop 8).length := by simp; omega
      simp [this]
      intro _ _ h
      omega
    rw [this]
    rfl
  have hd8 : decide (((l.length : Nat) : Int) ≤ 8) = false := decide_eq_false (by omega)
  by_cases h40 : 40 < l.length
  · have hd : decide ((40 : Int) < ((l.length : Nat) : Int)) = true := decide_eq_true (by omega)
    simp -dsimp only [hn, h0, len_s, hd8, hd, wt_seq, wt_block, wt_region, wt_cond, wt_skip, wt_ret, wt_exit, wst_nil, wst_app_nil, wst_app_cons, wst_cons, wst_guard, andThen_normal, andThen_ret, andThen_exit, leave_normal, leave_ret, leave_exit, EndsA_ret, EndsA_normal, ot_move, ot_assign, ot_pick, ot_binOp, ot_unOp, ot_convert, ot_field, ot_index, ot_indexAddr, ot_fieldAddr, ot_slice, ot_build, ot_buildSlice, ot_extract, ot_makeInterface, ot_makeFunc, ot_nilCheck, ot_call, ot_len, ot_append, ot_box, ot_load, ot_store, ot_makeSlice, ct_bool, ct_true, ct_false, bt_some, gt_some, aval_tmp, aval_int, aval_bool, aval_str, aval_slice, aval_nilPointer, aval_nilIface, aval_func, aval_global, avals, apairs, bareP, AV.bare, AV.bares, bin_lss, bin_leq, bin_gtr, bin_geq, bin_eql, bin_neq, bin_add, bin_sub, bin_mul, bin_and, bin_or, bin_xor, toV_int, toV_bool, toV_string, un_neg, un_not, bin_str_eql, bin_str_neq, bin_str_lss, bin_str_leq, bin_str_gtr, bin_str_geq, aget_aput, length_aput, aput_none, Nat.reduceEqDiff, Nat.reduceLT, Nat.reduceAdd, reduceIte, reduceCtorEq, Bool.not_false, Bool.not_true, Bool.true_or, true_and, Option.bind_some, Option.map_some, List.nil_append, List.cons_append, resA, resA1, resVal, Option.getD_some, Nat.reduceLeDiff, bnd_some, yieldA_eq, yldOf_some, boolOf_bool, boolOf_undef, gt_none, List.getElem?_toArray, List.getElem?_cons_succ, List.getElem?_cons_zero, bq_true, bq_false, decide_true, decide_false, Option.toList_none, Option.toList_some, List.head?_cons, List.head?_nil, nb_cfg, not_false_eq_true, cv_some, pm_some, pm_none, plainA_v, plain_bool, plain_int, plain_str, Bool.false_eq_true, if_false]
    refine ⟨1, ?_⟩
    have : keyIDB l = false := by
      unfold keyIDB
      rw [s32]
      have : ¬ (l.drop 8).length ≤ 32 := by simp; omega
      rw [decide_eq_false this]
      simp
    rw [this]
    rfl
  have hd40 : decide ((40 : Int) < ((l.length : Nat) : Int)) = false := decide_eq_false (by omega)
  have hsl : sliceA (cfgP rf0) 9 (str l) none (some (.v (.int .i64 8))) none = some (str (l.take 8)) := sliceT (i := 8) (by omega)
  cases hp : edL.isPrefixOf l with
  | false =>
    have ht := take8 l
    rw [hp] at ht
    simp -dsimp only [hn, h0, len_s, hd8, hd40, hsl, List.toList_toArray, ht, wt_seq, wt_block, wt_region, wt_cond, wt_skip, wt_ret, wt_exit, wst_nil, wst_app_nil, wst_app_cons, wst_cons, wst_guard, andThen_normal, andThen_ret, andThen_exit, leave_normal, leave_ret, leave_exit, EndsA_ret, EndsA_normal, ot_move, ot_assign, ot_pick, ot_binOp, ot_unOp, ot_convert, ot_field, ot_index, ot_indexAddr, ot_fieldAddr, ot_slice, ot_build, ot_buildSlice, ot_extract, ot_makeInterface, ot_makeFunc, ot_nilCheck, ot_call, ot_len, ot_append, ot_box, ot_load, ot_store, ot_makeSlice, ct_bool, ct_true, ct_false, bt_some, gt_some, aval_tmp, aval_int, aval_bool, aval_str, aval_slice, aval_nilPointer, aval_nilIface, aval_func, aval_global, avals, apairs, bareP, AV.bare, AV.bares, bin_lss, bin_leq, bin_gtr, bin_geq, bin_eql, bin_neq, bin_add, bin_sub, bin_mul, bin_and, bin_or, bin_xor, toV_int, toV_bool, toV_string, un_neg, un_not, bin_str_eql, bin_str_neq, bin_str_lss, bin_str_leq, bin_str_gtr, bin_str_geq, aget_aput, length_aput, aput_none, Nat.reduceEqDiff, Nat.reduceLT, Nat.reduceAdd, reduceIte, reduceCtorEq, Bool.not_false, Bool.not_true, Bool.true_or, true_and, Option.bind_some, Option.map_some, List.nil_append, List.cons_append, resA, resA1, resVal, Option.getD_some, Nat.reduceLeDiff, bnd_some, yieldA_eq, yldOf_some, boolOf_bool, boolOf_undef, gt_none, List.getElem?_toArray, List.getElem?_cons_succ, List.getElem?_cons_zero, bq_true, bq_false, decide_true, decide_false, Option.toList_none, Option.toList_some, List.head?_cons, List.head?_nil, nb_cfg, not_false_eq_true, cv_some, pm_some, pm_none, plainA_v, plain_bool, plain_int, plain_str, Bool.false_eq_true, if_false]
    refine ⟨1, ?_⟩
    have : keyIDB l = false := by unfold keyIDB; rw [hp]; rfl
    rw [this]
    rfl
  | true =>
    have ht := take8 l
    rw [hp] at ht
    have hk : keyIDB l = (l.drop 8).all inKeyName := by
      unfold keyIDB
      rw [hp, s32, decide_eq_true (show 0 < (l.drop 8).length by simp; omega), decide_eq_true (show (l.drop 8).length ≤ 32 by simp; omega)]
      simp
    rw [hk]
    simp -dsimp only [hn, h0, len_s, hd8, hd40, hsl, List.toList_toArray, ht, wt_seq, wt_block, wt_region, wt_cond, wt_skip, wt_ret, wt_exit, wst_nil, wst_app_nil, wst_app_cons, wst_cons, wst_guard, andThen_normal, andThen_ret, andThen_exit, leave_normal, leave_ret, leave_exit, EndsA_ret, EndsA_normal, ot_move, ot_assign, ot_pick, ot_binOp, ot_unOp, ot_convert, ot_field, ot_index, ot_indexAddr, ot_fieldAddr, ot_slice, ot_build, ot_buildSlice, ot_extract, ot_makeInterface, ot_makeFunc, ot_nilCheck, ot_call, ot_len, ot_append, ot_box, ot_load, ot_store, ot_makeSlice, ct_bool, ct_true, ct_false, bt_some, gt_some, aval_tmp, aval_int, aval_bool, aval_str, aval_slice, aval_nilPointer, aval_nilIface, aval_func, aval_global, avals, apairs, bareP, AV.bare, AV.bares, bin_lss, bin_leq, bin_gtr, bin_geq, bin_eql, bin_neq, bin_add, bin_sub, bin_mul, bin_and, bin_or, bin_xor, toV_int, toV_bool, toV_string, un_neg, un_not, bin_str_eql, bin_str_neq, bin_str_lss, bin_str_leq, bin_str_gtr, bin_str_geq, aget_aput, length_aput, aput_none, Nat.reduceEqDiff, Nat.reduceLT, Nat.reduceAdd, reduceIte, reduceCtorEq, Bool.not_false, Bool.not_true, Bool.true_or, true_and, Option.bind_some, Option.map_some, List.nil_append, List.cons_append, resA, resA1, resVal, Option.getD_some, Nat.reduceLeDiff, bnd_some, yieldA_eq, yldOf_some, boolOf_bool, boolOf_undef, gt_none, List.getElem?_toArray, List.getElem?_cons_succ, List.getElem?_cons_zero, bq_true, bq_false, decide_true, decide_false, Option.toList_none, Option.toList_some, List.head?_cons, List.head?_nil, nb_cfg, not_false_eq_true, cv_some, pm_some, pm_none, plainA_v, plain_bool, plain_int, plain_str, Bool.false_eq_true, if_false]
    refine wt_loop (m := l.length - 8) (fun m e h => ∃ i, i + m = l.length ∧ 8 ≤ i ∧ rkI l i e h ∧ ∀ c ∈ (l.drop 8).take (i - 8), inKeyName c = true) ?_ ?_
    · rintro m e h ⟨i, hi, hi8, ⟨hn, rfl, h0, h3⟩, ok⟩
      by_cases hil : i < l.length
      · have hd : decide ((i : Int) < (l.length : Int)) = true := decide_eq_true (by omega)
        have e1 : IntKind.i64.wrap ((i : Int) + 1) = ((i + 1 : Nat) : Int) := wr64 (by omega) (by omega)
        have hdl : i - 8 < (l.drop 8).length := by simp; omega
        have hg : (l.drop 8)[i - 8] = l[i] := by
          rw [List.getElem_drop]
          congr 1
          omega
        cases hq : inKeyName l[i] with
        | true =>
          have hq' := hq
          rw [inKeyName_eq] at hq'
          cases q1 : letterB l[i] <;> cases q2 : inDigits l[i] <;> cases q3 : decide ((((l[i]).toNat : Nat) : Int) = 95) <;> rw [q1, q2, q3] at hq' <;> first
            | (exfalso; exact absurd hq' (by decide))
            | (simp -dsimp only [hn, h0, h3, len_s, hd, index_s hil, byt, ct_prim rf0_43, ct_prim rf0_44, qP_eq, q1, q2, q3, e1, wt_seq, wt_block, wt_region, wt_cond, wt_skip, wt_ret, wt_exit, wst_nil, wst_app_nil, wst_app_cons, wst_cons, wst_guard, andThen_normal, andThen_ret, andThen_exit, leave_normal, leave_ret, leave_exit, EndsA_ret, EndsA_normal, ot_move, ot_assign, ot_pick, ot_binOp, ot_unOp, ot_convert, ot_field, ot_index, ot_indexAddr, ot_fieldAddr, ot_slice, ot_build, ot_buildSlice, ot_extract, ot_makeInterface, ot_makeFunc, ot_nilCheck, ot_call, ot_len, ot_append, ot_box, ot_load, ot_store, ot_makeSlice, ct_bool, ct_true, ct_false, bt_some, gt_some, aval_tmp, aval_int, aval_bool, aval_str, aval_slice, aval_nilPointer, aval_nilIface, aval_func, aval_global, avals, apairs, bareP, AV.bare, AV.bares, bin_lss, bin_leq, bin_gtr, bin_geq, bin_eql, bin_neq, bin_add, bin_sub, bin_mul, bin_and, bin_or, bin_xor, toV_int, toV_bool, toV_string, un_neg, un_not, bin_str_eql, bin_str_neq, bin_str_lss, bin_str_leq, bin_str_gtr, bin_str_geq, aget_aput, length_aput, aput_none, Nat.reduceEqDiff, Nat.reduceLT, Nat.reduceAdd, reduceIte, reduceCtorEq, Bool.not_false, Bool.not_true, Bool.true_or, true_and, Option.bind_some, Option.map_some, List.nil_append, List.cons_append, resA, resA1, resVal, Option.getD_some, Nat.reduceLeDiff, bnd_some, yieldA_eq, yldOf_some, boolOf_bool, boolOf_undef, gt_none, List.getElem?_toArray, List.getElem?_cons_succ, List.getElem?_cons_zero, bq_true, bq_false, decide_true, decide_false, Option.toList_none, Option.toList_some, List.head?_cons, List.head?_nil, nb_cfg, not_false_eq_true, cv_some, pm_some, pm_none, plainA_v, plain_bool, plain_int, plain_str, Bool.false_eq_true, if_false]
               refine ⟨m - 1, by omega, i + 1, by omega, by omega, ⟨?_, rfl, ?_, ?_⟩, ?_⟩
               any_goals simp -dsimp only [hn, h0, wt_seq, wt_block, wt_region, wt_cond, wt_skip, wt_ret, wt_exit, wst_nil, wst_app_nil, wst_app_cons, wst_cons, wst_guard, andThen_normal, andThen_ret, andThen_exit, leave_normal, leave_ret, leave_exit, EndsA_ret, EndsA_normal, ot_move, ot_assign, ot_pick, ot_binOp, ot_unOp, ot_convert, ot_field, ot_index, ot_indexAddr, ot_fieldAddr, ot_slice, ot_build, ot_buildSlice, ot_extract, ot_makeInterface, ot_makeFunc, ot_nilCheck, ot_call, ot_len, ot_append, ot_box, ot_load, ot_store, ot_makeSlice, ct_bool, ct_true, ct_false, bt_some, gt_some, aval_tmp, aval_int, aval_bool, aval_str, aval_slice, aval_nilPointer, aval_nilIface, aval_func, aval_global, avals, apairs, bareP, AV.bare, AV.bares, bin_lss, bin_leq, bin_gtr, bin_geq, bin_eql, bin_neq, bin_add, bin_sub, bin_mul, bin_and, bin_or, bin_xor, toV_int, toV_bool, toV_string, un_neg, un_not, bin_str_eql, bin_str_neq, bin_str_lss, bin_str_leq, bin_str_gtr, bin_str_geq, aget_aput, length_aput, aput_none, Nat.reduceEqDiff, Nat.reduceLT, Nat.reduceAdd, reduceIte, reduceCtorEq, Bool.not_false, Bool.not_true, Bool.true_or, true_and, Option.bind_some, Option.map_some, List.nil_append, List.cons_append, resA, resA1, resVal, Option.getD_some, Nat.reduceLeDiff, bnd_some, yieldA_eq, yldOf_some, boolOf_bool, boolOf_undef, gt_none, List.getElem?_toArray, List.getElem?_cons_succ, List.getElem?_cons_zero, bq_true, bq_false, decide_true, decide_false, Option.toList_none, Option.toList_some, List.head?_cons, List.head?_nil, nb_cfg, not_false_eq_true, cv_some, pm_some, pm_none, plainA_v, plain_bool, plain_int, plain_str, Bool.false_eq_true, if_false]
               rw [show i + 1 - 8 = i - 8 + 1 by omega]
               exact all_take hdl ok (by rw [hg]; exact hq))
        | false =>
          have hq' := hq
          rw [inKeyName_eq] at hq'
          simp only [Bool.or_eq_false_iff] at hq'
          obtain ⟨⟨q1, q2⟩, q3⟩ := hq'
          simp -dsimp only [hn, h0, h3, len_s, hd, index_s hil, byt, ct_prim rf0_43, ct_prim rf0_44, qP_eq, q1, q2, q3, wt_seq, wt_block, wt_region, wt_cond, wt_skip, wt_ret, wt_exit, wst_nil, wst_app_nil, wst_app_cons, wst_cons, wst_guard, andThen_normal, andThen_ret, andThen_exit, leave_normal, leave_ret, leave_exit, EndsA_ret, EndsA_normal, ot_move, ot_assign, ot_pick, ot_binOp, ot_unOp, ot_convert, ot_field, ot_index, ot_indexAddr, ot_fieldAddr, ot_slice, ot_build, ot_buildSlice, ot_extract, ot_makeInterface, ot_makeFunc, ot_nilCheck, ot_call, ot_len, ot_append, ot_box, ot_load, ot_store, ot_makeSlice, ct_bool, ct_true, ct_false, bt_some, gt_some, aval_tmp, aval_int, aval_bool, aval_str, aval_slice, aval_nilPointer, aval_nilIface, aval_func, aval_global, avals, apairs, bareP, AV.bare, AV.bares, bin_lss, bin_leq, bin_gtr, bin_geq, bin_eql, bin_neq, bin_add, bin_sub, bin_mul, bin_and, bin_or, bin_xor, toV_int, toV_bool, toV_string, un_neg, un_not, bin_str_eql, bin_str_neq, bin_str_lss, bin_str_leq, bin_str_gtr, bin_str_geq, aget_aput, length_aput, aput_none, Nat.reduceEqDiff, Nat.reduceLT, Nat.reduceAdd, reduceIte, reduceCtorEq, Bool.not_false, Bool.not_true, Bool.true_or, true_and, Option.bind_some, Option.map_some, List.nil_append, List.cons_append, resA, resA1, resVal, Option.getD_some, Nat.reduceLeDiff, bnd_some, yieldA_eq, yldOf_some, boolOf_bool, boolOf_undef, gt_none, List.getElem?_toArray, List.getElem?_cons_succ, List.getElem?_cons_zero, bq_true, bq_false, decide_true, decide_false, Option.toList_none, Option.toList_some, List.head?_cons, List.head?_nil, nb_cfg, not_false_eq_true, cv_some, pm_some, pm_none, plainA_v, plain_bool, plain_int, plain_str, Bool.false_eq_true, if_false]
          refine ⟨1, ?_⟩
          have : (l.drop 8).all inKeyName = false := by
            rw [List.all_eq_false]
            exact ⟨(l.drop 8)[i - 8], List.getElem_mem hdl, by rw [hg, hq]; simp⟩
          rw [this]
          rfl
      · have hd : decide ((i : Int) < (l.length : Int)) = false := decide_eq_false (by omega)
        have he : i = l.length := by omega
        have hall : (l.drop 8).all inKeyName = true := by
          rw [List.all_eq_true]
          intro c hc
          refine ok c ?_
          rw [List.take_of_length_le (by simp; omega)]
          exact hc
        simp -dsimp only [hn, h0, h3, len_s, hd, wt_seq, wt_block, wt_region, wt_cond, wt_skip, wt_ret, wt_exit, wst_nil, wst_app_nil, wst_app_cons, wst_cons, wst_guard, andThen_normal, andThen_ret, andThen_exit, leave_normal, leave_ret, leave_exit, EndsA_ret, EndsA_normal, ot_move, ot_assign, ot_pick, ot_binOp, ot_unOp, ot_convert, ot_field, ot_index, ot_indexAddr, ot_fieldAddr, ot_slice, ot_build, ot_buildSlice, ot_extract, ot_makeInterface, ot_makeFunc, ot_nilCheck, ot_call, ot_len, ot_append, ot_box, ot_load, ot_store, ot_makeSlice, ct_bool, ct_true, ct_false, bt_some, gt_some, aval_tmp, aval_int, aval_bool, aval_str, aval_slice, aval_nilPointer, aval_nilIface, aval_func, aval_global, avals, apairs, bareP, AV.bare, AV.bares, bin_lss, bin_leq, bin_gtr, bin_geq, bin_eql, bin_neq, bin_add, bin_sub, bin_mul, bin_and, bin_or, bin_xor, toV_int, toV_bool, toV_string, un_neg, un_not, bin_str_eql, bin_str_neq, bin_str_lss, bin_str_leq, bin_str_gtr, bin_str_geq, aget_aput, length_aput, aput_none, Nat.reduceEqDiff, Nat.reduceLT, Nat.reduceAdd, reduceIte, reduceCtorEq, Bool.not_false, Bool.not_true, Bool.true_or, true_and, Option.bind_some, Option.map_some, List.nil_append, List.cons_append, resA, resA1, resVal, Option.getD_some, Nat.reduceLeDiff, bnd_some, yieldA_eq, yldOf_some, boolOf_bool, boolOf_undef, gt_none, List.getElem?_toArray, List.getElem?_cons_succ, List.getElem?_cons_zero, bq_true, bq_false, decide_true, decide_false, Option.toList_none, Option.toList_some, List.head?_cons, List.head?_nil, nb_cfg, not_false_eq_true, cv_some, pm_some, pm_none, plainA_v, plain_bool, plain_int, plain_str, Bool.false_eq_true, if_false]
        refine ⟨1, ?_⟩
        rw [hall]
        rfl
    · refine ⟨8, by omega, Nat.le_refl 8, ⟨?_, rfl, ?_, ?_⟩, fun c hc => by simp at hc⟩
      any_goals simp -dsimp only [hn, h0, wt_seq, wt_block, wt_region, wt_cond, wt_skip, wt_ret, wt_exit, wst_nil, wst_app_nil, wst_app_cons, wst_cons, wst_guard, andThen_normal, andThen_ret, andThen_exit, leave_normal, leave_ret, leave_exit, EndsA_ret, EndsA_normal, ot_move, ot_assign, ot_pick, ot_binOp, ot_unOp, ot_convert, ot_field, ot_index, ot_indexAddr, ot_fieldAddr, ot_slice, ot_build, ot_buildSlice, ot_extract, ot_makeInterface, ot_makeFunc, ot_nilCheck, ot_call, ot_len, ot_append, ot_box, ot_load, ot_store, ot_makeSlice, ct_bool, ct_true, ct_false, bt_some, gt_some, aval_tmp, aval_int, aval_bool, aval_str, aval_slice, aval_nilPointer, aval_nilIface, aval_func, aval_global, avals, apairs, bareP, AV.bare, AV.bares, bin_lss, bin_leq, bin_gtr, bin_geq, bin_eql, bin_neq, bin_add, bin_sub, bin_mul, bin_and, bin_or, bin_xor, toV_int, toV_bool, toV_string, un_neg, un_not, bin_str_eql, bin_str_neq, bin_str_lss, bin_str_leq, bin_str_gtr, bin_str_geq, aget_aput, length_aput, aput_none, Nat.reduceEqDiff, Nat.reduceLT, Nat.reduceAdd, reduceIte, reduceCtorEq, Bool.not_false, Bool.not_true, Bool.true_or, true_and, Option.bind_some, Option.map_some, List.nil_append, List.cons_append, resA, resA1, resVal, Option.getD_some, Nat.reduceLeDiff, bnd_some, yieldA_eq, yldOf_some, boolOf_bool, boolOf_undef, gt_none, List.getElem?_toArray, List.getElem?_cons_succ, List.getElem?_cons_zero, bq_true, bq_false, decide_true, decide_false, Option.toList_none, Option.toList_some, List.head?_cons, List.head?_nil, nb_cfg, not_false_eq_true, cv_some, pm_some, pm_none, plainA_v, plain_bool, plain_int, plain_str, Bool.false_eq_true, if_false]
      rfl
end Go.Proofs.YtonmpbfddiflhaaDoor

/- Names: signs that are shown. -/
namespace Go.Proofs.YtonmpbfddiflhaaDoor
open Go.AM
def shownB (c : UInt8) : Bool := decide (33 ≤ c.toNat) && decide (c.toNat ≤ 126) && decide (c ≠ 58)
noncomputable def shownN (c : Nat) : Bool := match callA (cfgP id1) 30 46 [.agg [], .v (.int .u8 c)] {} with
  | some (.v (.bool b), _) => b == (decide (33 ≤ c) && decide (c ≤ 126) && decide (c ≠ 58))
  | _ => false
theorem shown_all : (List.range 256).all shownN = true := by kernel_rfl
theorem shownHas (c : UInt8) : PureOk (cfgP id1) 46 [.agg [], byt c] (.v (.bool (shownB c))) := by
  have h1 := List.all_eq_true.1 shown_all c.toNat (List.mem_range.2 (UInt8.toNat_lt c))
  unfold shownN at h1
  split at h1
  · rename_i b H hc
    have hb : b = shownB c := by
      rw [beq_iff_eq] at h1
      rw [h1]
      unfold shownB
      congr 1
      have : c.toNat ≠ 58 ↔ c ≠ 58 := by
        constructor
        · rintro h rfl; exact h rfl
        · intro h h'; exact h (UInt8.toNat_inj.1 h')
      simp only [this]
    subst hb
    exact pureOk_of (n := 1) (((callA_ok id1_ok 30).ok _ _ _ _ _ hc).2) rfl
  · cases h1
def shP : List AV → Option AV
  | [.agg [], c] => (decByte c).map fun c => .v (.bool (shownB c))
  | _ => none
theorem shP_eq {c : UInt8} : shP [.agg [], .v (.int .u8 c.toNat)] = some (.v (.bool (shownB c))) := by
  have := dec_byt c
  unfold byt at this
  simp only [shP, this, Option.map_some]
theorem shP_ok : ∀ xs r, shP xs = some r → PureOk (cfgP id1) 46 xs r := by
  intro xs r h
  unfold shP at h
  split at h
  · rw [Option.map_eq_some_iff] at h
    obtain ⟨c, hc, rfl⟩ := h
    rw [decByte_iff] at hc
    subst hc
    exact shownHas c
  · cases h
def id2 : FuncId → Option (List AV → Option AV) := tab [(46, shP)]
theorem id2_ok : (cfgP id2).Ok := cfgOf_ok mixed fok (tab_ok ⟨prim_at Tryd.func46 (by kernel_rfl) rfl (shP_ok), trivial⟩)
theorem id2_46 : (cfgP id2).prim 46 = some shP := rfl
theorem partAgg0 {prim : FuncId → Option (List AV → Option AV)} : partA (cfgP prim) 58 (AV.agg []).cells 0 = some (.agg []) := by kernel_rfl
structure allJ (l : List UInt8) (n : Int) (nt i : Nat) (e : Env) (h : Hp) : Prop where
  out : allI l n (.agg []) (.fn (.func 46) [] []) shownB nt i e h
  a6 : aget e 6 = .rp (.agg []) 0
theorem allShown (l : List UInt8) (n : Int) (hl : l.length < 2 ^ 63) : PureOk (cfgP id2) 45 [str l, .v (.int .i64 n), .agg [], .fn (.func 46) [] []] (.v (.bool (allS l n shownB))) := by
  have hb : AV.bare (.agg []) = some (.agg []) := rfl
  have hf : (AV.agg []).cells.all AV.flat = true := rfl
  refine pure_of_wk (call := noCall) (fn := Tryd.f45) (rs := [.tmp 8]) id2_ok noCall_ok (fns_cfg Tryd.func45 rfl) rfl rfl ?_
  intro env hl0 hargs
  have hn : env.length = 32 := hl0
  have h0 := hargs 0 _ rfl
  have h1 := hargs 1 _ rfl
  have h2 := hargs 2 _ rfl
  have h3 := hargs 3 _ rfl
  clear hargs hl0
  refine wkT_of ?_
  simp -dsimp only [hn, h0, h1, h2, h3, len_s, ro_cfg 45 6, bxt_ro hb hf, wt_seq, wt_block, wt_region, wt_cond, wt_skip, wt_ret, wt_exit, wst_nil, wst_app_nil, wst_app_cons, wst_cons, wst_guard, andThen_normal, andThen_ret, andThen_exit, leave_normal, leave_ret, leave_exit, EndsA_ret, EndsA_normal, ot_move, ot_assign, ot_pick, ot_binOp, ot_unOp, ot_convert, ot_field, ot_index, ot_indexAddr, ot_fieldAddr, ot_slice, ot_build, ot_buildSlice, ot_extract, ot_makeInterface, ot_makeFunc, ot_nilCheck, ot_call, ot_len, ot_append, ot_box, ot_load, ot_store, ot_makeSlice, ct_bool, ct_true, ct_false, bt_some, gt_some, aval_tmp, aval_int, aval_bool, aval_str, aval_slice, aval_nilPointer, aval_nilIface, aval_func, aval_global, avals, apairs, bareP, AV.bare, AV.bares, bin_lss, bin_leq, bin_gtr, bin_geq, bin_eql, bin_neq, bin_add, bin_sub, bin_mul, bin_and, bin_or, bin_xor, toV_int, toV_bool, toV_string, un_neg, un_not, bin_str_eql, bin_str_neq, bin_str_lss, bin_str_leq, bin_str_gtr, bin_str_geq, aget_aput, length_aput, aput_none, Nat.reduceEqDiff, Nat.reduceLT, Nat.reduceAdd, reduceIte, reduceCtorEq, Bool.not_false, Bool.not_true, Bool.true_or, true_and, Option.bind_some, Option.map_some, List.nil_append, List.cons_append, resA, resA1, resVal, Option.getD_some, Nat.reduceLeDiff, bnd_some, yieldA_eq, yldOf_some, boolOf_bool, boolOf_undef, gt_none, List.getElem?_toArray, List.getElem?_cons_succ, List.getElem?_cons_zero, bq_true, bq_false, decide_true, decide_false, Option.toList_none, Option.toList_some, List.head?_cons, List.head?_nil, nb_cfg, not_false_eq_true, cv_some, pm_some, pm_none, plainA_v, plain_bool, plain_int, plain_str, Bool.false_eq_true, if_false]
  refine wt_loop (m := l.length) (fun m e h => ∃ i, i + m = l.length ∧ allJ l n 32 i e h) ?_ ?_
  · rintro m e h ⟨i, hi, ⟨hn, rfl, h0, h1, h2, h3, h11, h12, ok⟩, h6⟩
    simp -dsimp only [hn, h0, h1, h2, h3, h11, h12, h6, wt_seq, wt_block, wt_region, wt_cond, wt_skip, wt_ret, wt_exit, wst_nil, wst_app_nil, wst_app_cons, wst_cons, wst_guard, andThen_normal, andThen_ret, andThen_exit, leave_normal, leave_ret, leave_exit, EndsA_ret, EndsA_normal, ot_move, ot_assign, ot_pick, ot_binOp, ot_unOp, ot_convert, ot_field, ot_index, ot_indexAddr, ot_fieldAddr, ot_slice, ot_build, ot_buildSlice, ot_extract, ot_makeInterface, ot_makeFunc, ot_nilCheck, ot_call, ot_len, ot_append, ot_box, ot_load, ot_store, ot_makeSlice, ct_bool, ct_true, ct_false, bt_some, gt_some, aval_tmp, aval_int, aval_bool, aval_str, aval_slice, aval_nilPointer, aval_nilIface, aval_func, aval_global, avals, apairs, bareP, AV.bare, AV.bares, bin_lss, bin_leq, bin_gtr, bin_geq, bin_eql, bin_neq, bin_add, bin_sub, bin_mul, bin_and, bin_or, bin_xor, toV_int, toV_bool, toV_string, un_neg, un_not, bin_str_eql, bin_str_neq, bin_str_lss, bin_str_leq, bin_str_gtr, bin_str_geq, aget_aput, length_aput, aput_none, Nat.reduceEqDiff, Nat.reduceLT, Nat.reduceAdd, reduceIte, reduceCtorEq, Bool.not_false, Bool.not_true, Bool.true_or, true_and, Option.bind_some, Option.map_some, List.nil_append, List.cons_append, resA, resA1, resVal, Option.getD_some, Nat.reduceLeDiff, bnd_some, yieldA_eq, yldOf_some, boolOf_bool, boolOf_undef, gt_none, List.getElem?_toArray, List.getElem?_cons_succ, List.getElem?_cons_zero, bq_true, bq_false, decide_true, decide_false, Option.toList_none, Option.toList_some, List.head?_cons, List.head?_nil, nb_cfg, not_false_eq_true, cv_some, pm_some, pm_none, plainA_v, plain_bool, plain_int, plain_str, Bool.false_eq_true, if_false]
    by_cases hil : i < l.length
    · have hd : decide ((i : Int) < (l.length : Int)) = true := decide_eq_true (by omega)
      have e1 : IntKind.i64.wrap ((i : Int) + 1) = ((i + 1 : Nat) : Int) := wr64 (by omega) (by omega)
      simp -dsimp only [hn, h0, h1, h2, h3, h11, h12, h6, hd, partAgg0, index_s hil, byt, ct_prim id2_46, shP_eq, wt_seq, wt_block, wt_region, wt_cond, wt_skip, wt_ret, wt_exit, wst_nil, wst_app_nil, wst_app_cons, wst_cons, wst_guard, andThen_normal, andThen_ret, andThen_exit, leave_normal, leave_ret, leave_exit, EndsA_ret, EndsA_normal, ot_move, ot_assign, ot_pick, ot_binOp, ot_unOp, ot_convert, ot_field, ot_index, ot_indexAddr, ot_fieldAddr, ot_slice, ot_build, ot_buildSlice, ot_extract, ot_makeInterface, ot_makeFunc, ot_nilCheck, ot_call, ot_len, ot_append, ot_box, ot_load, ot_store, ot_makeSlice, ct_bool, ct_true, ct_false, bt_some, gt_some, aval_tmp, aval_int, aval_bool, aval_str, aval_slice, aval_nilPointer, aval_nilIface, aval_func, aval_global, avals, apairs, bareP, AV.bare, AV.bares, bin_lss, bin_leq, bin_gtr, bin_geq, bin_eql, bin_neq, bin_add, bin_sub, bin_mul, bin_and, bin_or, bin_xor, toV_int, toV_bool, toV_string, un_neg, un_not, bin_str_eql, bin_str_neq, bin_str_lss, bin_str_leq, bin_str_gtr, bin_str_geq, aget_aput, length_aput, aput_none, Nat.reduceEqDiff, Nat.reduceLT, Nat.reduceAdd, reduceIte, reduceCtorEq, Bool.not_false, Bool.not_true, Bool.true_or, true_and, Option.bind_some, Option.map_some, List.nil_append, List.cons_append, resA, resA1, resVal, Option.getD_some, Nat.reduceLeDiff, bnd_some, yieldA_eq, yldOf_some, boolOf_bool, boolOf_undef, gt_none, List.getElem?_toArray, List.getElem?_cons_succ, List.getElem?_cons_zero, bq_true, bq_false, decide_true, decide_false, Option.toList_none, Option.toList_some, List.head?_cons, List.head?_nil, nb_cfg, not_false_eq_true, cv_some, pm_some, pm_none, plainA_v, plain_bool, plain_int, plain_str, Bool.false_eq_true, if_false]
      refine ⟨by kernel_rfl, ?_⟩
      by_cases hq : shownB l[i] = true
      · simp -dsimp only [hn, h0, h1, h2, h3, h11, h12, h6, hq, e1, wt_seq, wt_block, wt_region, wt_cond, wt_skip, wt_ret, wt_exit, wst_nil, wst_app_nil, wst_app_cons, wst_cons, wst_guard, andThen_normal, andThen_ret, andThen_exit, leave_normal, leave_ret, leave_exit, EndsA_ret, EndsA_normal, ot_move, ot_assign, ot_pick, ot_binOp, ot_unOp, ot_convert, ot_field, ot_index, ot_indexAddr, ot_fieldAddr, ot_slice, ot_build, ot_buildSlice, ot_extract, ot_makeInterface, ot_makeFunc, ot_nilCheck, ot_call, ot_len, ot_append, ot_box, ot_load, ot_store, ot_makeSlice, ct_bool, ct_true, ct_false, bt_some, gt_some, aval_tmp, aval_int, aval_bool, aval_str, aval_slice, aval_nilPointer, aval_nilIface, aval_func, aval_global, avals, apairs, bareP, AV.bare, AV.bares, bin_lss, bin_leq, bin_gtr, bin_geq, bin_eql, bin_neq, bin_add, bin_sub, bin_mul, bin_and, bin_or, bin_xor, toV_int, toV_bool, toV_string, un_neg, un_not, bin_str_eql, bin_str_neq, bin_str_lss, bin_str_leq, bin_str_gtr, bin_str_geq, aget_aput, length_aput, aput_none, Nat.reduceEqDiff, Nat.reduceLT, Nat.reduceAdd, reduceIte, reduceCtorEq, Bool.not_false, Bool.not_true, Bool.true_or, true_and, Option.bind_some, Option.map_some, List.nil_append, List.cons_append, resA, resA1, resVal, Option.getD_some, Nat.reduceLeDiff, bnd_some, yieldA_eq, yldOf_some, boolOf_bool, boolOf_undef, gt_none, List.getElem?_toArray, List.getElem?_cons_succ, List.getElem?_cons_zero, bq_true, bq_false, decide_true, decide_false, Option.toList_none, Option.toList_some, List.head?_cons, List.head?_nil, nb_cfg, not_false_eq_true, cv_some, pm_some, pm_none, plainA_v, plain_bool, plain_int, plain_str, Bool.false_eq_true, if_false]
        refine ⟨m - 1, by omega, i + 1, by omega, ⟨?_, rfl, ?_, ?_, ?_, ?_, ?_, ?_, all_take hil ok hq⟩, ?_⟩
        all_goals simp -dsimp only [hn, h0, h1, h2, h3, h11, h6, wt_seq, wt_block, wt_region, wt_cond, wt_skip, wt_ret, wt_exit, wst_nil, wst_app_nil, wst_app_cons, wst_cons, wst_guard, andThen_normal, andThen_ret, andThen_exit, leave_normal, leave_ret, leave_exit, EndsA_ret, EndsA_normal, ot_move, ot_assign, ot_pick, ot_binOp, ot_unOp, ot_convert, ot_field, ot_index, ot_indexAddr, ot_fieldAddr, ot_slice, ot_build, ot_buildSlice, ot_extract, ot_makeInterface, ot_makeFunc, ot_nilCheck, ot_call, ot_len, ot_append, ot_box, ot_load, ot_store, ot_makeSlice, ct_bool, ct_true, ct_false, bt_some, gt_some, aval_tmp, aval_int, aval_bool, aval_str, aval_slice, aval_nilPointer, aval_nilIface, aval_func, aval_global, avals, apairs, bareP, AV.bare, AV.bares, bin_lss, bin_leq, bin_gtr, bin_geq, bin_eql, bin_neq, bin_add, bin_sub, bin_mul, bin_and, bin_or, bin_xor, toV_int, toV_bool, toV_string, un_neg, un_not, bin_str_eql, bin_str_neq, bin_str_lss, bin_str_leq, bin_str_gtr, bin_str_geq, aget_aput, length_aput, aput_none, Nat.reduceEqDiff, Nat.reduceLT, Nat.reduceAdd, reduceIte, reduceCtorEq, Bool.not_false, Bool.not_true, Bool.true_or, true_and, Option.bind_some, Option.map_some, List.nil_append, List.cons_append, resA, resA1, resVal, Option.getD_some, Nat.reduceLeDiff, bnd_some, yieldA_eq, yldOf_some, boolOf_bool, boolOf_undef, gt_none, List.getElem?_toArray, List.getElem?_cons_succ, List.getElem?_cons_zero, bq_true, bq_false, decide_true, decide_false, Option.toList_none, Option.toList_some, List.head?_cons, List.head?_nil, nb_cfg, not_false_eq_true, cv_some, pm_some, pm_none, plainA_v, plain_bool, plain_int, plain_str, Bool.false_eq_true, if_false]
      · have hq' : shownB l[i] = false := by simpa using hq
        simp -dsimp only [hn, h0, h1, h2, h3, h11, h12, h6, hq', wt_seq, wt_block, wt_region, wt_cond, wt_skip, wt_ret, wt_exit, wst_nil, wst_app_nil, wst_app_cons, wst_cons, wst_guard, andThen_normal, andThen_ret, andThen_exit, leave_normal, leave_ret, leave_exit, EndsA_ret, EndsA_normal, ot_move, ot_assign, ot_pick, ot_binOp, ot_unOp, ot_convert, ot_field, ot_index, ot_indexAddr, ot_fieldAddr, ot_slice, ot_build, ot_buildSlice, ot_extract, ot_makeInterface, ot_makeFunc, ot_nilCheck, ot_call, ot_len, ot_append, ot_box, ot_load, ot_store, ot_makeSlice, ct_bool, ct_true, ct_false, bt_some, gt_some, aval_tmp, aval_int, aval_bool, aval_str, aval_slice, aval_nilPointer, aval_nilIface, aval_func, aval_global, avals, apairs, bareP, AV.bare, AV.bares, bin_lss, bin_leq, bin_gtr, bin_geq, bin_eql, bin_neq, bin_add, bin_sub, bin_mul, bin_and, bin_or, bin_xor, toV_int, toV_bool, toV_string, un_neg, un_not, bin_str_eql, bin_str_neq, bin_str_lss, bin_str_leq, bin_str_gtr, bin_str_geq, aget_aput, length_aput, aput_none, Nat.reduceEqDiff, Nat.reduceLT, Nat.reduceAdd, reduceIte, reduceCtorEq, Bool.not_false, Bool.not_true, Bool.true_or, true_and, Option.bind_some, Option.map_some, List.nil_append, List.cons_append, resA, resA1, resVal, Option.getD_some, Nat.reduceLeDiff, bnd_some, yieldA_eq, yldOf_some, boolOf_bool, boolOf_undef, gt_none, List.getElem?_toArray, List.getElem?_cons_succ, List.getElem?_cons_zero, bq_true, bq_false, decide_true, decide_false, Option.toList_none, Option.toList_some, List.head?_cons, List.head?_nil, nb_cfg, not_false_eq_true, cv_some, pm_some, pm_none, plainA_v, plain_bool, plain_int, plain_str, Bool.false_eq_true, if_false]
        exact ⟨1, by rw [allS_false hil hq']; rfl⟩
    · have hd : decide ((i : Int) < (l.length : Int)) = false := decide_eq_false (by omega)
      have he : i = l.length := by omega
      subst he
      rw [List.take_length] at ok
      simp -dsimp only [hn, h0, h1, h2, h3, h11, h12, h6, hd, len_s, wt_seq, wt_block, wt_region, wt_cond, wt_skip, wt_ret, wt_exit, wst_nil, wst_app_nil, wst_app_cons, wst_cons, wst_guard, andThen_normal, andThen_ret, andThen_exit, leave_normal, leave_ret, leave_exit, EndsA_ret, EndsA_normal, ot_move, ot_assign, ot_pick, ot_binOp, ot_unOp, ot_convert, ot_field, ot_index, ot_indexAddr, ot_fieldAddr, ot_slice, ot_build, ot_buildSlice, ot_extract, ot_makeInterface, ot_makeFunc, ot_nilCheck, ot_call, ot_len, ot_append, ot_box, ot_load, ot_store, ot_makeSlice, ct_bool, ct_true, ct_false, bt_some, gt_some, aval_tmp, aval_int, aval_bool, aval_str, aval_slice, aval_nilPointer, aval_nilIface, aval_func, aval_global, avals, apairs, bareP, AV.bare, AV.bares, bin_lss, bin_leq, bin_gtr, bin_geq, bin_eql, bin_neq, bin_add, bin_sub, bin_mul, bin_and, bin_or, bin_xor, toV_int, toV_bool, toV_string, un_neg, un_not, bin_str_eql, bin_str_neq, bin_str_lss, bin_str_leq, bin_str_gtr, bin_str_geq, aget_aput, length_aput, aput_none, Nat.reduceEqDiff, Nat.reduceLT, Nat.reduceAdd, reduceIte, reduceCtorEq, Bool.not_false, Bool.not_true, Bool.true_or, true_and, Option.bind_some, Option.map_some, List.nil_append, List.cons_append, resA, resA1, resVal, Option.getD_some, Nat.reduceLeDiff, bnd_some, yieldA_eq, yldOf_some, boolOf_bool, boolOf_undef, gt_none, List.getElem?_toArray, List.getElem?_cons_succ, List.getElem?_cons_zero, bq_true, bq_false, decide_true, decide_false, Option.toList_none, Option.toList_some, List.head?_cons, List.head?_nil, nb_cfg, not_false_eq_true, cv_some, pm_some, pm_none, plainA_v, plain_bool, plain_int, plain_str, Bool.false_eq_true, if_false]
      by_cases hz : 0 < l.length
      · have hd2 : decide ((0 : Int) < ((l.length : Nat) : Int)) = true := decide_eq_true (by omega)
        simp -dsimp only [hn, h0, h1, h2, h3, h11, h12, h6, hd2, len_s, wt_seq, wt_block, wt_region, wt_cond, wt_skip, wt_ret, wt_exit, wst_nil, wst_app_nil, wst_app_cons, wst_cons, wst_guard, andThen_normal, andThen_ret, andThen_exit, leave_normal, leave_ret, leave_exit, EndsA_ret, EndsA_normal, ot_move, ot_assign, ot_pick, ot_binOp, ot_unOp, ot_convert, ot_field, ot_index, ot_indexAddr, ot_fieldAddr, ot_slice, ot_build, ot_buildSlice, ot_extract, ot_makeInterface, ot_makeFunc, ot_nilCheck, ot_call, ot_len, ot_append, ot_box, ot_load, ot_store, ot_makeSlice, ct_bool, ct_true, ct_false, bt_some, gt_some, aval_tmp, aval_int, aval_bool, aval_str, aval_slice, aval_nilPointer, aval_nilIface, aval_func, aval_global, avals, apairs, bareP, AV.bare, AV.bares, bin_lss, bin_leq, bin_gtr, bin_geq, bin_eql, bin_neq, bin_add, bin_sub, bin_mul, bin_and, bin_or, bin_xor, toV_int, toV_bool, toV_string, un_neg, un_not, bin_str_eql, bin_str_neq, bin_str_lss, bin_str_leq, bin_str_gtr, bin_str_geq, aget_aput, length_aput, aput_none, Nat.reduceEqDiff, Nat.reduceLT, Nat.reduceAdd, reduceIte, reduceCtorEq, Bool.not_false, Bool.not_true, Bool.true_or, true_and, Option.bind_some, Option.map_some, List.nil_append, List.cons_append, resA, resA1, resVal, Option.getD_some, Nat.reduceLeDiff, bnd_some, yieldA_eq, yldOf_some, boolOf_bool, boolOf_undef, gt_none, List.getElem?_toArray, List.getElem?_cons_succ, List.getElem?_cons_zero, bq_true, bq_false, decide_true, decide_false, Option.toList_none, Option.toList_some, List.head?_cons, List.head?_nil, nb_cfg, not_false_eq_true, cv_some, pm_some, pm_none, plainA_v, plain_bool, plain_int, plain_str, Bool.false_eq_true, if_false]
        exact ⟨1, by rw [allS_true ok, hd2]; rfl⟩
      · have hd2 : decide ((0 : Int) < ((l.length : Nat) : Int)) = false := decide_eq_false (by omega)
        simp -dsimp only [hn, h0, h1, h2, h3, h11, h12, h6, hd2, len_s, wt_seq, wt_block, wt_region, wt_cond, wt_skip, wt_ret, wt_exit, wst_nil, wst_app_nil, wst_app_cons, wst_cons, wst_guard, andThen_normal, andThen_ret, andThen_exit, leave_normal, leave_ret, leave_exit, EndsA_ret, EndsA_normal, ot_move, ot_assign, ot_pick, ot_binOp, ot_unOp, ot_convert, ot_field, ot_index, ot_indexAddr, ot_fieldAddr, ot_slice, ot_build, ot_buildSlice, ot_extract, ot_makeInterface, ot_makeFunc, ot_nilCheck, ot_call, ot_len, ot_append, ot_box, ot_load, ot_store, ot_makeSlice, ct_bool, ct_true, ct_false, bt_some, gt_some, aval_tmp, aval_int, aval_bool, aval_str, aval_slice, aval_nilPointer, aval_nilIface, aval_func, aval_global, avals, apairs, bareP, AV.bare, AV.bares, bin_lss, bin_leq, bin_gtr, bin_geq, bin_eql, bin_neq, bin_add, bin_sub, bin_mul, bin_and, bin_or, bin_xor, toV_int, toV_bool, toV_string, un_neg, un_not, bin_str_eql, bin_str_neq, bin_str_lss, bin_str_leq, bin_str_gtr, bin_str_geq, aget_aput, length_aput, aput_none, Nat.reduceEqDiff, Nat.reduceLT, Nat.reduceAdd, reduceIte, reduceCtorEq, Bool.not_false, Bool.not_true, Bool.true_or, true_and, Option.bind_some, Option.map_some, List.nil_append, List.cons_append, resA, resA1, resVal, Option.getD_some, Nat.reduceLeDiff, bnd_some, yieldA_eq, yldOf_some, boolOf_bool, boolOf_undef, gt_none, List.getElem?_toArray, List.getElem?_cons_succ, List.getElem?_cons_zero, bq_true, bq_false, decide_true, decide_false, Option.toList_none, Option.toList_some, List.head?_cons, List.head?_nil, nb_cfg, not_false_eq_true, cv_some, pm_some, pm_none, plainA_v, plain_bool, plain_int, plain_str, Bool.false_eq_true, if_false]
        exact ⟨1, by rw [allS_true ok, hd2]; rfl⟩
  · refine ⟨0, Nat.zero_add _, ⟨?_, rfl, ?_, ?_, ?_, ?_, ?_, ?_, fun c hc => by simp at hc⟩, ?_⟩
    any_goals simp -dsimp only [hn, h0, h1, h2, h3, wt_seq, wt_block, wt_region, wt_cond, wt_skip, wt_ret, wt_exit, wst_nil, wst_app_nil, wst_app_cons, wst_cons, wst_guard, andThen_normal, andThen_ret, andThen_exit, leave_normal, leave_ret, leave_exit, EndsA_ret, EndsA_normal, ot_move, ot_assign, ot_pick, ot_binOp, ot_unOp, ot_convert, ot_field, ot_index, ot_indexAddr, ot_fieldAddr, ot_slice, ot_build, ot_buildSlice, ot_extract, ot_makeInterface, ot_makeFunc, ot_nilCheck, ot_call, ot_len, ot_append, ot_box, ot_load, ot_store, ot_makeSlice, ct_bool, ct_true, ct_false, bt_some, gt_some, aval_tmp, aval_int, aval_bool, aval_str, aval_slice, aval_nilPointer, aval_nilIface, aval_func, aval_global, avals, apairs, bareP, AV.bare, AV.bares, bin_lss, bin_leq, bin_gtr, bin_geq, bin_eql, bin_neq, bin_add, bin_sub, bin_mul, bin_and, bin_or, bin_xor, toV_int, toV_bool, toV_string, un_neg, un_not, bin_str_eql, bin_str_neq, bin_str_lss, bin_str_leq, bin_str_gtr, bin_str_geq, aget_aput, length_aput, aput_none, Nat.reduceEqDiff, Nat.reduceLT, Nat.reduceAdd, reduceIte, reduceCtorEq, Bool.not_false, Bool.not_true, Bool.true_or, true_and, Option.bind_some, Option.map_some, List.nil_append, List.cons_append, resA, resA1, resVal, Option.getD_some, Nat.reduceLeDiff, bnd_some, yieldA_eq, yldOf_some, boolOf_bool, boolOf_undef, gt_none, List.getElem?_toArray, List.getElem?_cons_succ, List.getElem?_cons_zero, bq_true, bq_false, decide_true, decide_false, Option.toList_none, Option.toList_some, List.head?_cons, List.head?_nil, nb_cfg, not_false_eq_true, cv_some, pm_some, pm_none, plainA_v, plain_bool, plain_int, plain_str, Bool.false_eq_true, if_false]
    rfl
def allNP : List AV → Option AV
  | [x, .v (.int .i64 n), .agg [], .fn (.func 46) [] []] => match dS x with
    | some l => if l.length < 2 ^ 63 then some (.v (.bool (allS l n shownB))) else none
    | _ => none
  | _ => none
theorem allNP_eq {l : List UInt8} {n : Int} (h : l.length < 2 ^ 63) : allNP [str l, .v (.int .i64 n), .agg [], .fn (.func 46) [] []] = some (.v (.bool (allS l n shownB))) := by simp only [allNP, dS_str, h, if_true]
theorem allNP_ok : ∀ xs r, allNP xs = some r → PureOk (cfgP id2) 45 xs r := by
  intro xs r hx
  unfold allNP at hx
  split at hx
  · split at hx
    · rename_i l h1
      rw [dS_iff] at h1
      subst h1
      split at hx
      · rename_i hl
        injection hx with hx; subst hx
        exact allShown l _ hl
      · cases hx
    · cases hx
  · cases hx
end Go.Proofs.YtonmpbfddiflhaaDoor

/- Names of two parts: users, rooms. -/
namespace Go.Proofs.YtonmpbfddiflhaaDoor
open Go.AM
def partsO (l : List UInt8) (sign : UInt8) : Option (List UInt8 × List UInt8) := match l with
  | [] => none
  | c :: r => if c ≠ sign ∨ 255 < (c :: r).length then none else match cutB r 58 with
    | (a, b, ok) => if ok && allS a 255 shownB && serverB b then some (a, b) else none
def partsV : Option (List UInt8 × List UInt8) → AV
  | some (a, b) => .tup [str a, str b, .v (.bool true)]
  | none => .tup [str [], str [], .v (.bool false)]
theorem byte_eq (c d : UInt8) : decide (((c.toNat : Nat) : Int) = ((d.toNat : Nat) : Int)) = decide (c = d) := by
  rw [decide_eq_decide]
  constructor
  · intro h; exact UInt8.toNat_inj.1 (by omega)
  · rintro rfl; rfl
def id4 : FuncId → Option (List AV → Option AV) := tab [(38, cutP), (45, allNP), (21, (boolP serverB))]
theorem id4_ok : (cfgP id4).Ok := cfgOf_ok mixed fok (tab_ok ⟨prim_at Tryd.func38 (by kernel_rfl) rfl (cutP_of sCut), prim_at Tryd.func45 (by kernel_rfl) rfl (allNP_ok), prim_at Tryd.func21 (by kernel_rfl) rfl (boolP_of server_ok), trivial⟩)
theorem id4_38 : (cfgP id4).prim 38 = some cutP := rfl
theorem id4_45 : (cfgP id4).prim 45 = some allNP := rfl
theorem id4_21 : (cfgP id4).prim 21 = some (boolP serverB) := rfl
section
variable {prim : FuncId → Option (List AV → Option AV)}
theorem build0 : buildA (cfgP prim) 58 [] = some (.agg []) := by kernel_rfl
end
theorem bare_a0 : AV.bare (.agg []) = some (.agg []) := rfl
set_option maxHeartbeats 4000000 in
theorem parts_ok (l : List UInt8) (sign : UInt8) (hl : l.length < 2 ^ 63) : PureOk (cfgP id4) 37 [str l, byt sign] (partsV (partsO l sign)) := by
  cases l with
  | nil =>
    refine pure_of_wk (call := noCall) (fn := Tryd.f37) (rs := [.tmp 4, .tmp 5, .tmp 6]) id4_ok noCall_ok (fns_cfg Tryd.func37 rfl) rfl rfl ?_
    intro env hl0 hargs
    have hn : env.length = 45 := hl0
    have h0 := hargs 0 _ rfl
    have h1 := hargs 1 _ rfl
    clear hargs hl0
    refine wkT_of ?_
    simp -dsimp only [hn, h0, h1, eq_self, decide_true, wt_seq, wt_block, wt_region, wt_cond, wt_skip, wt_ret, wt_exit, wst_nil, wst_app_nil, wst_app_cons, wst_cons, wst_guard, andThen_normal, andThen_ret, andThen_exit, leave_normal, leave_ret, leave_exit, EndsA_ret, EndsA_normal, ot_move, ot_assign, ot_pick, ot_binOp, ot_unOp, ot_convert, ot_field, ot_index, ot_indexAddr, ot_fieldAddr, ot_slice, ot_build, ot_buildSlice, ot_extract, ot_makeInterface, ot_makeFunc, ot_nilCheck, ot_call, ot_len, ot_append, ot_box, ot_load, ot_store, ot_makeSlice, ct_bool, ct_true, ct_false, bt_some, gt_some, aval_tmp, aval_int, aval_bool, aval_str, aval_slice, aval_nilPointer, aval_nilIface, aval_func, aval_global, avals, apairs, bareP, AV.bare, AV.bares, bin_lss, bin_leq, bin_gtr, bin_geq, bin_eql, bin_neq, bin_add, bin_sub, bin_mul, bin_and, bin_or, bin_xor, toV_int, toV_bool, toV_string, un_neg, un_not, bin_str_eql, bin_str_neq, bin_str_lss, bin_str_leq, bin_str_gtr, bin_str_geq, aget_aput, length_aput, aput_none, Nat.reduceEqDiff, Nat.reduceLT, Nat.reduceAdd, reduceIte, reduceCtorEq, Bool.not_false, Bool.not_true, Bool.true_or, true_and, Option.bind_some, Option.map_some, List.nil_append, List.cons_append, resA, resA1, resVal, Option.getD_some, Nat.reduceLeDiff, bnd_some, yieldA_eq, yldOf_some, boolOf_bool, boolOf_undef, gt_none, List.getElem?_toArray, List.getElem?_cons_succ, List.getElem?_cons_zero, bq_true, bq_false, decide_true, decide_false, Option.toList_none, Option.toList_some, List.head?_cons, List.head?_nil, nb_cfg, not_false_eq_true, cv_some, pm_some, pm_none, plainA_v, plain_bool, plain_int, plain_str, Bool.false_eq_true, if_false]
    exact ⟨5, rfl⟩
  | cons c r =>
    have hne : decide ((c :: r) = ([] : List UInt8)) = false := by simp
    have hrl : r.length < 2 ^ 63 := by simp only [List.length_cons] at hl; omega
    obtain ⟨a, b, ok, hc⟩ : ∃ a b ok, cutB r 58 = (a, b, ok) := ⟨_, _, _, rfl⟩
    obtain ⟨la, lb⟩ := cutB_len hc
    have hsl : sliceA (cfgP id4) 9 (str (c :: r)) (some (.v (.int .i64 1))) none none = some (str r) := sliceD (i := 1) (l := c :: r) (by simp)
    have hP : partsO (c :: r) sign = if c ≠ sign ∨ 255 < (c :: r).length then none else if ok && allS a 255 shownB && serverB b then some (a, b) else none := by
      unfold partsO
      simp only [hc]
    by_cases hs : c = sign
    · have hd1 : decide (((c.toNat : Nat) : Int) = ((sign.toNat : Nat) : Int)) = true := by rw [byte_eq]; exact decide_eq_true hs
      by_cases hL : 255 < (c :: r).length
      · have hd2 : decide ((255 : Int) < (((c :: r).length : Nat) : Int)) = true := decide_eq_true (by omega)
        rw [hP, if_pos (Or.inr hL)]
        refine pure_of_wk (call := noCall) (fn := Tryd.f37) (rs := [.tmp 4, .tmp 5, .tmp 6]) id4_ok noCall_ok (fns_cfg Tryd.func37 rfl) rfl rfl ?_
        intro env hl0 hargs
        have hn : env.length = 45 := hl0
        have h0 := hargs 0 _ rfl
        have h1 := hargs 1 _ rfl
        clear hargs hl0
        refine wkT_of ?_
        simp -dsimp only [hn, h0, h1, hne, index_s0, byt, hd1, len_s, hd2, wt_seq, wt_block, wt_region, wt_cond, wt_skip, wt_ret, wt_exit, wst_nil, wst_app_nil, wst_app_cons, wst_cons, wst_guard, andThen_normal, andThen_ret, andThen_exit, leave_normal, leave_ret, leave_exit, EndsA_ret, EndsA_normal, ot_move, ot_assign, ot_pick, ot_binOp, ot_unOp, ot_convert, ot_field, ot_index, ot_indexAddr, ot_fieldAddr, ot_slice, ot_build, ot_buildSlice, ot_extract, ot_makeInterface, ot_makeFunc, ot_nilCheck, ot_call, ot_len, ot_append, ot_box, ot_load, ot_store, ot_makeSlice, ct_bool, ct_true, ct_false, bt_some, gt_some, aval_tmp, aval_int, aval_bool, aval_str, aval_slice, aval_nilPointer, aval_nilIface, aval_func, aval_global, avals, apairs, bareP, AV.bare, AV.bares, bin_lss, bin_leq, bin_gtr, bin_geq, bin_eql, bin_neq, bin_add, bin_sub, bin_mul, bin_and, bin_or, bin_xor, toV_int, toV_bool, toV_string, un_neg, un_not, bin_str_eql, bin_str_neq, bin_str_lss, bin_str_leq, bin_str_gtr, bin_str_geq, aget_aput, length_aput, aput_none, Nat.reduceEqDiff, Nat.reduceLT, Nat.reduceAdd, reduceIte, reduceCtorEq, Bool.not_false, Bool.not_true, Bool.true_or, true_and, Option.bind_some, Option.map_some, List.nil_append, List.cons_append, resA, resA1, resVal, Option.getD_some, Nat.reduceLeDiff, bnd_some, yieldA_eq, yldOf_some, boolOf_bool, boolOf_undef, gt_none, List.getElem?_toArray, List.getElem?_cons_succ, List.getElem?_cons_zero, bq_true, bq_false, decide_true, decide_false, Option.toList_none, Option.toList_some, List.head?_cons, List.head?_nil, nb_cfg, not_false_eq_true, cv_some, pm_some, pm_none, plainA_v, plain_bool, plain_int, plain_str, Bool.false_eq_true, if_false]
        exact ⟨5, rfl⟩
      · have hd2 : decide ((255 : Int) < (((c :: r).length : Nat) : Int)) = false := decide_eq_false (by omega)
        rw [hP, if_neg (by rintro (h | h); exact h hs; exact hL h)]
        cases q1 : ok <;> cases q2 : allS a 255 shownB <;> cases q3 : serverB b
        all_goals
          subst q1
          refine pure_of_wk (call := noCall) (fn := Tryd.f37) (rs := [.tmp 4, .tmp 5, .tmp 6]) id4_ok noCall_ok (fns_cfg Tryd.func37 rfl) rfl rfl ?_
          intro env hl0 hargs
          have hn : env.length = 45 := hl0
          have h0 := hargs 0 _ rfl
          have h1 := hargs 1 _ rfl
          clear hargs hl0
          refine wkT_of ?_
          simp -dsimp only [hn, h0, h1, hne, index_s0, byt, hd1, len_s, hd2, hsl, List.toList_toArray, ct_prim id4_38, bare_s, cutP_eq hrl, cutV, hc, build0, bare_a0, ct_prim id4_45, allNP_eq (l := a) (n := 255) (show a.length < 2 ^ 63 by omega), q2, ct_prim id4_21, boolP_eq (q := serverB) (l := b) (show b.length < 2 ^ 63 by omega), q3, wt_seq, wt_block, wt_region, wt_cond, wt_skip, wt_ret, wt_exit, wst_nil, wst_app_nil, wst_app_cons, wst_cons, wst_guard, andThen_normal, andThen_ret, andThen_exit, leave_normal, leave_ret, leave_exit, EndsA_ret, EndsA_normal, ot_move, ot_assign, ot_pick, ot_binOp, ot_unOp, ot_convert, ot_field, ot_index, ot_indexAddr, ot_fieldAddr, ot_slice, ot_build, ot_buildSlice, ot_extract, ot_makeInterface, ot_makeFunc, ot_nilCheck, ot_call, ot_len, ot_append, ot_box, ot_load, ot_store, ot_makeSlice, ct_bool, ct_true, ct_false, bt_some, gt_some, aval_tmp, aval_int, aval_bool, aval_str, aval_slice, aval_nilPointer, aval_nilIface, aval_func, aval_global, avals, apairs, bareP, AV.bare, AV.bares, bin_lss, bin_leq, bin_gtr, bin_geq, bin_eql, bin_neq, bin_add, bin_sub, bin_mul, bin_and, bin_or, bin_xor, toV_int, toV_bool, toV_string, un_neg, un_not, bin_str_eql, bin_str_neq, bin_str_lss, bin_str_leq, bin_str_gtr, bin_str_geq, aget_aput, length_aput, aput_none, Nat.reduceEqDiff, Nat.reduceLT, Nat.reduceAdd, reduceIte, reduceCtorEq, Bool.not_false, Bool.not_true, Bool.true_or, true_and, Option.bind_some, Option.map_some, List.nil_append, List.cons_append, resA, resA1, resVal, Option.getD_some, Nat.reduceLeDiff, bnd_some, yieldA_eq, yldOf_some, boolOf_bool, boolOf_undef, gt_none, List.getElem?_toArray, List.getElem?_cons_succ, List.getElem?_cons_zero, bq_true, bq_false, decide_true, decide_false, Option.toList_none, Option.toList_some, List.head?_cons, List.head?_nil, nb_cfg, not_false_eq_true, cv_some, pm_some, pm_none, plainA_v, plain_bool, plain_int, plain_str, Bool.false_eq_true, if_false]
          exact ⟨5, rfl⟩
    · have hd1 : decide (((c.toNat : Nat) : Int) = ((sign.toNat : Nat) : Int)) = false := by rw [byte_eq]; exact decide_eq_false hs
      rw [hP, if_pos (Or.inl hs)]
      refine pure_of_wk (call := noCall) (fn := Tryd.f37) (rs := [.tmp 4, .tmp 5, .tmp 6]) id4_ok noCall_ok (fns_cfg Tryd.func37 rfl) rfl rfl ?_
      intro env hl0 hargs
      have hn : env.length = 45 := hl0
      have h0 := hargs 0 _ rfl
      have h1 := hargs 1 _ rfl
      clear hargs hl0
      refine wkT_of ?_
      simp -dsimp only [hn, h0, h1, hne, index_s0, byt, hd1, wt_seq, wt_block, wt_region, wt_cond, wt_skip, wt_ret, wt_exit, wst_nil, wst_app_nil, wst_app_cons, wst_cons, wst_guard, andThen_normal, andThen_ret, andThen_exit, leave_normal, leave_ret, leave_exit, EndsA_ret, EndsA_normal, ot_move, ot_assign, ot_pick, ot_binOp, ot_unOp, ot_convert, ot_field, ot_index, ot_indexAddr, ot_fieldAddr, ot_slice, ot_build, ot_buildSlice, ot_extract, ot_makeInterface, ot_makeFunc, ot_nilCheck, ot_call, ot_len, ot_append, ot_box, ot_load, ot_store, ot_makeSlice, ct_bool, ct_true, ct_false, bt_some, gt_some, aval_tmp, aval_int, aval_bool, aval_str, aval_slice, aval_nilPointer, aval_nilIface, aval_func, aval_global, avals, apairs, bareP, AV.bare, AV.bares, bin_lss, bin_leq, bin_gtr, bin_geq, bin_eql, bin_neq, bin_add, bin_sub, bin_mul, bin_and, bin_or, bin_xor, toV_int, toV_bool, toV_string, un_neg, un_not, bin_str_eql, bin_str_neq, bin_str_lss, bin_str_leq, bin_str_gtr, bin_str_geq, aget_aput, length_aput, aput_none, Nat.reduceEqDiff, Nat.reduceLT, Nat.reduceAdd, reduceIte, reduceCtorEq, Bool.not_false, Bool.not_true, Bool.true_or, true_and, Option.bind_some, Option.map_some, List.nil_append, List.cons_append, resA, resA1, resVal, Option.getD_some, Nat.reduceLeDiff, bnd_some, yieldA_eq, yldOf_some, boolOf_bool, boolOf_undef, gt_none, List.getElem?_toArray, List.getElem?_cons_succ, List.getElem?_cons_zero, bq_true, bq_false, decide_true, decide_false, Option.toList_none, Option.toList_some, List.head?_cons, List.head?_nil, nb_cfg, not_false_eq_true, cv_some, pm_some, pm_none, plainA_v, plain_bool, plain_int, plain_str, Bool.false_eq_true, if_false]
      exact ⟨5, rfl⟩
def partsP : List AV → Option AV
  | [x, y] => match dS x, decByte y with
    | some l, some c => if l.length < 2 ^ 63 then some (partsV (partsO l c)) else none
    | _, _ => none
  | _ => none
theorem partsP_of {X : List AV → AV → Prop} (h : ∀ (l : List UInt8) (c : UInt8), l.length < 2 ^ 63 → X [str l, byt c] (partsV (partsO l c))) : ∀ xs r, partsP xs = some r → X xs r := by
  intro xs r hx
  unfold partsP at hx
  split at hx
  · split at hx
    · rename_i l c h1 h2
      rw [dS_iff] at h1
      rw [decByte_iff] at h2
      subst h1 h2
      split at hx
      · rename_i hl
        injection hx with hx; subst hx
        exact h l c hl
      · cases hx
    · cases hx
  · cases hx
theorem partsP_at {l : List UInt8} (h : l.length < 2 ^ 63) : partsP [str l, .v (.int .u8 64)] = some (partsV (partsO l 64)) := by
  have : decByte (.v (.int .u8 64)) = some 64 := dec_byt 64
  simp only [partsP, dS_str, this, h, if_true]
theorem partsP_bang {l : List UInt8} (h : l.length < 2 ^ 63) : partsP [str l, .v (.int .u8 33)] = some (partsV (partsO l 33)) := by
  have : decByte (.v (.int .u8 33)) = some 33 := dec_byt 33
  simp only [partsP, dS_str, this, h, if_true]
def partsA : Option (List UInt8 × List UInt8) → List UInt8
  | some (a, _) => a
  | none => []
def partsB : Option (List UInt8 × List UInt8) → List UInt8
  | some (_, b) => b
  | none => []
theorem partsV_eq (o : Option (List UInt8 × List UInt8)) : partsV o = .tup [str (partsA o), str (partsB o), .v (.bool o.isSome)] := by
  rcases o with _ | ⟨a, b⟩ <;> rfl
def id5 : FuncId → Option (List AV → Option AV) := tab [(37, partsP)]
theorem id5_ok : (cfgP id5).Ok := cfgOf_ok mixed fok (tab_ok ⟨prim_at Tryd.func37 (by kernel_rfl) rfl (partsP_of parts_ok), trivial⟩)
theorem id5_37 : (cfgP id5).prim 37 = some partsP := rfl
theorem user_ok (l : List UInt8) (hl : l.length < 2 ^ 63) : PureOk (cfgP id5) 19 [str l] (partsV (partsO l 64)) := by
  refine pure_of_wk (call := noCall) (fn := Tryd.f19) (rs := [.tmp 2, .tmp 3, .tmp 4]) id5_ok noCall_ok (fns_cfg Tryd.func19 rfl) rfl rfl ?_
  intro env hl0 hargs
  have hn : env.length = 10 := hl0
  have h0 := hargs 0 _ rfl
  clear hargs hl0
  refine wkT_of ?_
  simp -dsimp only [hn, h0, ct_prim id5_37, bare_s, partsP_at hl, partsV_eq, wt_seq, wt_block, wt_region, wt_cond, wt_skip, wt_ret, wt_exit, wst_nil, wst_app_nil, wst_app_cons, wst_cons, wst_guard, andThen_normal, andThen_ret, andThen_exit, leave_normal, leave_ret, leave_exit, EndsA_ret, EndsA_normal, ot_move, ot_assign, ot_pick, ot_binOp, ot_unOp, ot_convert, ot_field, ot_index, ot_indexAddr, ot_fieldAddr, ot_slice, ot_build, ot_buildSlice, ot_extract, ot_makeInterface, ot_makeFunc, ot_nilCheck, ot_call, ot_len, ot_append, ot_box, ot_load, ot_store, ot_makeSlice, ct_bool, ct_true, ct_false, bt_some, gt_some, aval_tmp, aval_int, aval_bool, aval_str, aval_slice, aval_nilPointer, aval_nilIface, aval_func, aval_global, avals, apairs, bareP, AV.bare, AV.bares, bin_lss, bin_leq, bin_gtr, bin_geq, bin_eql, bin_neq, bin_add, bin_sub, bin_mul, bin_and, bin_or, bin_xor, toV_int, toV_bool, toV_string, un_neg, un_not, bin_str_eql, bin_str_neq, bin_str_lss, bin_str_leq, bin_str_gtr, bin_str_geq, aget_aput, length_aput, aput_none, Nat.reduceEqDiff, Nat.reduceLT, Nat.reduceAdd, reduceIte, reduceCtorEq, Bool.not_false, Bool.not_true, Bool.true_or, true_and, Option.bind_some, Option.map_some, List.nil_append, List.cons_append, resA, resA1, resVal, Option.getD_some, Nat.reduceLeDiff, bnd_some, yieldA_eq, yldOf_some, boolOf_bool, boolOf_undef, gt_none, List.getElem?_toArray, List.getElem?_cons_succ, List.getElem?_cons_zero, bq_true, bq_false, decide_true, decide_false, Option.toList_none, Option.toList_some, List.head?_cons, List.head?_nil, nb_cfg, not_false_eq_true, cv_some, pm_some, pm_none, plainA_v, plain_bool, plain_int, plain_str, Bool.false_eq_true, if_false]
  exact ⟨5, rfl⟩
theorem room_ok (l : List UInt8) (hl : l.length < 2 ^ 63) : PureOk (cfgP id5) 20 [str l] (partsV (partsO l 33)) := by
  refine pure_of_wk (call := noCall) (fn := Tryd.f20) (rs := [.tmp 2, .tmp 3, .tmp 4]) id5_ok noCall_ok (fns_cfg Tryd.func20 rfl) rfl rfl ?_
  intro env hl0 hargs
  have hn : env.length = 10 := hl0
  have h0 := hargs 0 _ rfl
  clear hargs hl0
  refine wkT_of ?_
  simp -dsimp only [hn, h0, ct_prim id5_37, bare_s, partsP_bang hl, partsV_eq, wt_seq, wt_block, wt_region, wt_cond, wt_skip, wt_ret, wt_exit, wst_nil, wst_app_nil, wst_app_cons, wst_cons, wst_guard, andThen_normal, andThen_ret, andThen_exit, leave_normal, leave_ret, leave_exit, EndsA_ret, EndsA_normal, ot_move, ot_assign, ot_pick, ot_binOp, ot_unOp, ot_convert, ot_field, ot_index, ot_indexAddr, ot_fieldAddr, ot_slice, ot_build, ot_buildSlice, ot_extract, ot_makeInterface, ot_makeFunc, ot_nilCheck, ot_call, ot_len, ot_append, ot_box, ot_load, ot_store, ot_makeSlice, ct_bool, ct_true, ct_false, bt_some, gt_some, aval_tmp, aval_int, aval_bool, aval_str, aval_slice, aval_nilPointer, aval_nilIface, aval_func, aval_global, avals, apairs, bareP, AV.bare, AV.bares, bin_lss, bin_leq, bin_gtr, bin_geq, bin_eql, bin_neq, bin_add, bin_sub, bin_mul, bin_and, bin_or, bin_xor, toV_int, toV_bool, toV_string, un_neg, un_not, bin_str_eql, bin_str_neq, bin_str_lss, bin_str_leq, bin_str_gtr, bin_str_geq, aget_aput, length_aput, aput_none, Nat.reduceEqDiff, Nat.reduceLT, Nat.reduceAdd, reduceIte, reduceCtorEq, Bool.not_false, Bool.not_true, Bool.true_or, true_and, Option.bind_some, Option.map_some, List.nil_append, List.cons_append, resA, resA1, resVal, Option.getD_some, Nat.reduceLeDiff, bnd_some, yieldA_eq, yldOf_some, boolOf_bool, boolOf_undef, gt_none, List.getElem?_toArray, List.getElem?_cons_succ, List.getElem?_cons_zero, bq_true, bq_false, decide_true, decide_false, Option.toList_none, Option.toList_some, List.head?_cons, List.head?_nil, nb_cfg, not_false_eq_true, cv_some, pm_some, pm_none, plainA_v, plain_bool, plain_int, plain_str, Bool.false_eq_true, if_false]
  exact ⟨5, rfl⟩
def avP (q : List UInt8 → AV) : List AV → Option AV
  | [x] => match dS x with
    | some l => if l.length < 2 ^ 63 then some (q l) else none
    | none => none
  | _ => none
theorem avP_eq {q : List UInt8 → AV} {l : List UInt8} (h : l.length < 2 ^ 63) : avP q [str l] = some (q l) := by simp only [avP, dS_str, h, if_true]
theorem avP_of {q : List UInt8 → AV} {X : List AV → AV → Prop} (h : ∀ l : List UInt8, l.length < 2 ^ 63 → X [str l] (q l)) : ∀ xs r, avP q xs = some r → X xs r := by
  intro xs r hx
  unfold avP at hx
  split at hx
  · split at hx
    · rename_i l h1
      rw [dS_iff] at h1
      subst h1
      split at hx
      · rename_i hl
        injection hx with hx; subst hx
        exact h l hl
      · cases hx
    · cases hx
  · cases hx
def userV (l : List UInt8) : AV := partsV (partsO l 64)
def roomV (l : List UInt8) : AV := partsV (partsO l 33)
def id6 : FuncId → Option (List AV → Option AV) := tab [(19, (avP userV)), (20, (avP roomV))]
theorem id6_ok : (cfgP id6).Ok := cfgOf_ok mixed fok (tab_ok ⟨prim_at Tryd.func19 (by kernel_rfl) rfl (avP_of user_ok), prim_at Tryd.func20 (by kernel_rfl) rfl (avP_of room_ok), trivial⟩)
theorem id6_19 : (cfgP id6).prim 19 = some (avP userV) := rfl
theorem id6_20 : (cfgP id6).prim 20 = some (avP roomV) := rfl
def serverOf (l : List UInt8) : List UInt8 := match partsO l 64 with
  | some (_, b) => b
  | none => partsB (partsO l 33)
theorem serverOf_ok (l : List UInt8) (hl : l.length < 2 ^ 63) : PureOk (cfgP id6) 22 [str l] (str (serverOf l)) := by
  cases hu : partsO l 64 with
  | some p =>
    obtain ⟨a, b⟩ := p
    have e : serverOf l = b := by unfold serverOf; rw [hu]
    refine pure_of_wk (call := noCall) (fn := Tryd.f22) (rs := [.tmp 2]) id6_ok noCall_ok (fns_cfg Tryd.func22 rfl) rfl rfl ?_
    intro env hl0 hargs
    have hn : env.length = 24 := hl0
    have h0 := hargs 0 _ rfl
    clear hargs hl0
    refine wkT_of ?_
    simp -dsimp only [hn, h0, ct_prim id6_19, bare_s, avP_eq hl, userV, hu, partsV_eq, partsA, partsB, Option.isSome_some, wt_seq, wt_block, wt_region, wt_cond, wt_skip, wt_ret, wt_exit, wst_nil, wst_app_nil, wst_app_cons, wst_cons, wst_guard, andThen_normal, andThen_ret, andThen_exit, leave_normal, leave_ret, leave_exit, EndsA_ret, EndsA_normal, ot_move, ot_assign, ot_pick, ot_binOp, ot_unOp, ot_convert, ot_field, ot_index, ot_indexAddr, ot_fieldAddr, ot_slice, ot_build, ot_buildSlice, ot_extract, ot_makeInterface, ot_makeFunc, ot_nilCheck, ot_call, ot_len, ot_append, ot_box, ot_load, ot_store, ot_makeSlice, ct_bool, ct_true, ct_false, bt_some, gt_some, aval_tmp, aval_int, aval_bool, aval_str, aval_slice, aval_nilPointer, aval_nilIface, aval_func, aval_global, avals, apairs, bareP, AV.bare, AV.bares, bin_lss, bin_leq, bin_gtr, bin_geq, bin_eql, bin_neq, bin_add, bin_sub, bin_mul, bin_and, bin_or, bin_xor, toV_int, toV_bool, toV_string, un_neg, un_not, bin_str_eql, bin_str_neq, bin_str_lss, bin_str_leq, bin_str_gtr, bin_str_geq, aget_aput, length_aput, aput_none, Nat.reduceEqDiff, Nat.reduceLT, Nat.reduceAdd, reduceIte, reduceCtorEq, Bool.not_false, Bool.not_true, Bool.true_or, true_and, Option.bind_some, Option.map_some, List.nil_append, List.cons_append, resA, resA1, resVal, Option.getD_some, Nat.reduceLeDiff, bnd_some, yieldA_eq, yldOf_some, boolOf_bool, boolOf_undef, gt_none, List.getElem?_toArray, List.getElem?_cons_succ, List.getElem?_cons_zero, bq_true, bq_false, decide_true, decide_false, Option.toList_none, Option.toList_some, List.head?_cons, List.head?_nil, nb_cfg, not_false_eq_true, cv_some, pm_some, pm_none, plainA_v, plain_bool, plain_int, plain_str, Bool.false_eq_true, if_false]
    exact ⟨1, by rw [e]; rfl⟩
  | none =>
    have e : serverOf l = partsB (partsO l 33) := by unfold serverOf; rw [hu]
    refine pure_of_wk (call := noCall) (fn := Tryd.f22) (rs := [.tmp 2]) id6_ok noCall_ok (fns_cfg Tryd.func22 rfl) rfl rfl ?_
    intro env hl0 hargs
    have hn : env.length = 24 := hl0
    have h0 := hargs 0 _ rfl
    clear hargs hl0
    refine wkT_of ?_
    simp -dsimp only [hn, h0, ct_prim id6_19, ct_prim id6_20, bare_s, avP_eq hl, userV, hu, roomV, partsV_eq, partsA, partsB, Option.isSome_none, wt_seq, wt_block, wt_region, wt_cond, wt_skip, wt_ret, wt_exit, wst_nil, wst_app_nil, wst_app_cons, wst_cons, wst_guard, andThen_normal, andThen_ret, andThen_exit, leave_normal, leave_ret, leave_exit, EndsA_ret, EndsA_normal, ot_move, ot_assign, ot_pick, ot_binOp, ot_unOp, ot_convert, ot_field, ot_index, ot_indexAddr, ot_fieldAddr, ot_slice, ot_build, ot_buildSlice, ot_extract, ot_makeInterface, ot_makeFunc, ot_nilCheck, ot_call, ot_len, ot_append, ot_box, ot_load, ot_store, ot_makeSlice, ct_bool, ct_true, ct_false, bt_some, gt_some, aval_tmp, aval_int, aval_bool, aval_str, aval_slice, aval_nilPointer, aval_nilIface, aval_func, aval_global, avals, apairs, bareP, AV.bare, AV.bares, bin_lss, bin_leq, bin_gtr, bin_geq, bin_eql, bin_neq, bin_add, bin_sub, bin_mul, bin_and, bin_or, bin_xor, toV_int, toV_bool, toV_string, un_neg, un_not, bin_str_eql, bin_str_neq, bin_str_lss, bin_str_leq, bin_str_gtr, bin_str_geq, aget_aput, length_aput, aput_none, Nat.reduceEqDiff, Nat.reduceLT, Nat.reduceAdd, reduceIte, reduceCtorEq, Bool.not_false, Bool.not_true, Bool.true_or, true_and, Option.bind_some, Option.map_some, List.nil_append, List.cons_append, resA, resA1, resVal, Option.getD_some, Nat.reduceLeDiff, bnd_some, yieldA_eq, yldOf_some, boolOf_bool, boolOf_undef, gt_none, List.getElem?_toArray, List.getElem?_cons_succ, List.getElem?_cons_zero, bq_true, bq_false, decide_true, decide_false, Option.toList_none, Option.toList_some, List.head?_cons, List.head?_nil, nb_cfg, not_false_eq_true, cv_some, pm_some, pm_none, plainA_v, plain_bool, plain_int, plain_str, Bool.false_eq_true, if_false]
    exact ⟨1, by rw [e]; rfl⟩
end Go.Proofs.YtonmpbfddiflhaaDoor

/- The document's names of two parts. -/
namespace Go.Proofs.YtonmpbfddiflhaaDoor
open Go.AM
def rf1 : FuncId → Option (List AV → Option AV) := tab [(26, (boolP serverB))]
theorem rf1_ok : (cfgP rf1).Ok := cfgOf_ok mixed fok (tab_ok ⟨prim_at Tryd.func26 (by kernel_rfl) rfl (boolP_of refServer_ok), trivial⟩)
theorem rf1_26 : (cfgP rf1).prim 26 = some (boolP serverB) := rfl
structure rpI (l : List UInt8) (i : Nat) (e : Env) (h : Hp) : Prop where
  len : e.length = 59
  hp : h = {}
  a0 : aget e 0 = str l
  a7 : aget e 7 = .v (.int .i64 i)
/-- What is no sign that is shown. -/
theorem shown_not (c : UInt8) (h : c ≠ 58) : shownB c = (!(decide (((c.toNat : Nat) : Int) < 33)) && !(decide ((126 : Int) < ((c.toNat : Nat) : Int)))) := by
  have := all256 (q := fun c => decide (c = 58) || (shownB c == (!(decide (((c.toNat : Nat) : Int) < 33)) && !(decide ((126 : Int) < ((c.toNat : Nat) : Int)))))) (by kernel_rfl) c
  simpa [h] using this
theorem shown58 : shownB 58 = false := by decide +kernel
theorem not58 {a : List UInt8} (h : ∀ c ∈ a, shownB c = true) : (58 : UInt8) ∉ a := fun hm => by
  have := h 58 hm
  rw [shown58] at this
  cases this
theorem partsO_cons (c : UInt8) (r : List UInt8) (sign : UInt8) : partsO (c :: r) sign = if c ≠ sign ∨ 255 < (c :: r).length then none else match cutB r 58 with
  | (a, b, ok) => if ok && allS a 255 shownB && serverB b then some (a, b) else none := rfl
theorem cons_get (c : UInt8) (r : List UInt8) (i : Nat) (h1 : 1 ≤ i) (h : i < (c :: r).length) (h' : i - 1 < r.length) : r[i - 1] = (c :: r)[i] := by
  rw [List.getElem_cons, dif_neg (by omega)]
set_option maxHeartbeats 4000000 in
theorem parted_ok (l : List UInt8) (sign : UInt8) (hl : l.length < 2 ^ 63) : PureOk (cfgP rf1) 42 [str l, byt sign] (partsV (partsO l sign)) := by
  cases l with
  | nil =>
    refine pure_of_wk (call := noCall) (fn := Tryd.f42) (rs := [.tmp 4, .tmp 5, .tmp 6]) rf1_ok noCall_ok (fns_cfg Tryd.func42 rfl) rfl rfl ?_
    intro env hl0 hargs
    have hn : env.length = 59 := hl0
    have h0 := hargs 0 _ rfl
    have h1 := hargs 1 _ rfl
    clear hargs hl0
    refine wkT_of ?_
    simp -dsimp only [hn, h0, h1, len_s, List.length_nil, show decide (((0 : Nat) : Int) = 0) = true from rfl, wt_seq, wt_block, wt_region, wt_cond, wt_skip, wt_ret, wt_exit, wst_nil, wst_app_nil, wst_app_cons, wst_cons, wst_guard, andThen_normal, andThen_ret, andThen_exit, leave_normal, leave_ret, leave_exit, EndsA_ret, EndsA_normal, ot_move, ot_assign, ot_pick, ot_binOp, ot_unOp, ot_convert, ot_field, ot_index, ot_indexAddr, ot_fieldAddr, ot_slice, ot_build, ot_buildSlice, ot_extract, ot_makeInterface, ot_makeFunc, ot_nilCheck, ot_call, ot_len, ot_append, ot_box, ot_load, ot_store, ot_makeSlice, ct_bool, ct_true, ct_false, bt_some, gt_some, aval_tmp, aval_int, aval_bool, aval_str, aval_slice, aval_nilPointer, aval_nilIface, aval_func, aval_global, avals, apairs, bareP, AV.bare, AV.bares, bin_lss, bin_leq, bin_gtr, bin_geq, bin_eql, bin_neq, bin_add, bin_sub, bin_mul, bin_and, bin_or, bin_xor, toV_int, toV_bool, toV_string, un_neg, un_not, bin_str_eql, bin_str_neq, bin_str_lss, bin_str_leq, bin_str_gtr, bin_str_geq, aget_aput, length_aput, aput_none, Nat.reduceEqDiff, Nat.reduceLT, Nat.reduceAdd, reduceIte, reduceCtorEq, Bool.not_false, Bool.not_true, Bool.true_or, true_and, Option.bind_some, Option.map_some, List.nil_append, List.cons_append, resA, resA1, resVal, Option.getD_some, Nat.reduceLeDiff, bnd_some, yieldA_eq, yldOf_some, boolOf_bool, boolOf_undef, gt_none, List.getElem?_toArray, List.getElem?_cons_succ, List.getElem?_cons_zero, bq_true, bq_false, decide_true, decide_false, Option.toList_none, Option.toList_some, List.head?_cons, List.head?_nil, nb_cfg, not_false_eq_true, cv_some, pm_some, pm_none, plainA_v, plain_bool, plain_int, plain_str, Bool.false_eq_true, if_false]
    exact ⟨5, rfl⟩
  | cons c r =>
    have hL0 : decide ((((c :: r).length : Nat) : Int) = 0) = false := decide_eq_false (by simp only [List.length_cons]; omega)
    have hs255 := fun a => allS_eq a 255 shownB
    rw [show ((255 : Nat) : Int) = 255 from rfl] at hs255
    have hi0 : indexA (cfgP rf1) 9 (str (c :: r)) (.v (.int .i64 0)) = some (.v (.int .u8 c.toNat)) := index_s0
    have hP0 := partsO_cons c r sign
    have hlen : r.length + 1 = (c :: r).length := by simp
    have hgg := cons_get c r
    have hdr0 : ∀ i, (c :: r).drop (i + 1) = r.drop i := fun i => rfl
    have hdr1 : (c :: r).drop 1 = r := rfl
    generalize c :: r = l at *
    by_cases hs : c = sign
    · have hd1 : decide (((c.toNat : Nat) : Int) = ((sign.toNat : Nat) : Int)) = true := by rw [byte_eq]; exact decide_eq_true hs
      by_cases hL : 255 < l.length
      · have hd2 : decide ((255 : Int) < ((l.length : Nat) : Int)) = true := decide_eq_true (by omega)
        have hP : partsO l sign = none := by rw [hP0, if_pos (Or.inr hL)]
        rw [hP]
        refine pure_of_wk (call := noCall) (fn := Tryd.f42) (rs := [.tmp 4, .tmp 5, .tmp 6]) rf1_ok noCall_ok (fns_cfg Tryd.func42 rfl) rfl rfl ?_
        intro env hl0 hargs
        have hn : env.length = 59 := hl0
        have h0 := hargs 0 _ rfl
        have h1 := hargs 1 _ rfl
        clear hargs hl0
        refine wkT_of ?_
        simp -dsimp only [hn, h0, h1, len_s, hL0, hi0, byt, hd1, hd2, wt_seq, wt_block, wt_region, wt_cond, wt_skip, wt_ret, wt_exit, wst_nil, wst_app_nil, wst_app_cons, wst_cons, wst_guard, andThen_normal, andThen_ret, andThen_exit, leave_normal, leave_ret, leave_exit, EndsA_ret, EndsA_normal, ot_move, ot_assign, ot_pick, ot_binOp, ot_unOp, ot_convert, ot_field, ot_index, ot_indexAddr, ot_fieldAddr, ot_slice, ot_build, ot_buildSlice, ot_extract, ot_makeInterface, ot_makeFunc, ot_nilCheck, ot_call, ot_len, ot_append, ot_box, ot_load, ot_store, ot_makeSlice, ct_bool, ct_true, ct_false, bt_some, gt_some, aval_tmp, aval_int, aval_bool, aval_str, aval_slice, aval_nilPointer, aval_nilIface, aval_func, aval_global, avals, apairs, bareP, AV.bare, AV.bares, bin_lss, bin_leq, bin_gtr, bin_geq, bin_eql, bin_neq, bin_add, bin_sub, bin_mul, bin_and, bin_or, bin_xor, toV_int, toV_bool, toV_string, un_neg, un_not, bin_str_eql, bin_str_neq, bin_str_lss, bin_str_leq, bin_str_gtr, bin_str_geq, aget_aput, length_aput, aput_none, Nat.reduceEqDiff, Nat.reduceLT, Nat.reduceAdd, reduceIte, reduceCtorEq, Bool.not_false, Bool.not_true, Bool.true_or, true_and, Option.bind_some, Option.map_some, List.nil_append, List.cons_append, resA, resA1, resVal, Option.getD_some, Nat.reduceLeDiff, bnd_some, yieldA_eq, yldOf_some, boolOf_bool, boolOf_undef, gt_none, List.getElem?_toArray, List.getElem?_cons_succ, List.getElem?_cons_zero, bq_true, bq_false, decide_true, decide_false, Option.toList_none, Option.toList_some, List.head?_cons, List.head?_nil, nb_cfg, not_false_eq_true, cv_some, pm_some, pm_none, plainA_v, plain_bool, plain_int, plain_str, Bool.false_eq_true, if_false]
        exact ⟨5, rfl⟩
      · have hd2 : decide ((255 : Int) < ((l.length : Nat) : Int)) = false := decide_eq_false (by omega)
        have hP : partsO l sign = match cutB r 58 with
          | (a, b, ok) => if ok && allS a 255 shownB && serverB b then some (a, b) else none := by
          rw [hP0, if_neg (by rintro (h | h); exact h hs; exact hL h)]
        refine pure_of_wk (call := noCall) (fn := Tryd.f42) (rs := [.tmp 4, .tmp 5, .tmp 6]) rf1_ok noCall_ok (fns_cfg Tryd.func42 rfl) rfl rfl ?_
        intro env hl0 hargs
        have hn : env.length = 59 := hl0
        have h0 := hargs 0 _ rfl
        have h1 := hargs 1 _ rfl
        clear hargs hl0
        refine wkT_of ?_
        simp -dsimp only [hn, h0, h1, len_s, hL0, hi0, byt, hd1, hd2, wt_seq, wt_block, wt_region, wt_cond, wt_skip, wt_ret, wt_exit, wst_nil, wst_app_nil, wst_app_cons, wst_cons, wst_guard, andThen_normal, andThen_ret, andThen_exit, leave_normal, leave_ret, leave_exit, EndsA_ret, EndsA_normal, ot_move, ot_assign, ot_pick, ot_binOp, ot_unOp, ot_convert, ot_field, ot_index, ot_indexAddr, ot_fieldAddr, ot_slice, ot_build, ot_buildSlice, ot_extract, ot_makeInterface, ot_makeFunc, ot_nilCheck, ot_call, ot_len, ot_append, ot_box, ot_load, ot_store, ot_makeSlice, ct_bool, ct_true, ct_false, bt_some, gt_some, aval_tmp, aval_int, aval_bool, aval_str, aval_slice, aval_nilPointer, aval_nilIface, aval_func, aval_global, avals, apairs, bareP, AV.bare, AV.bares, bin_lss, bin_leq, bin_gtr, bin_geq, bin_eql, bin_neq, bin_add, bin_sub, bin_mul, bin_and, bin_or, bin_xor, toV_int, toV_bool, toV_string, un_neg, un_not, bin_str_eql, bin_str_neq, bin_str_lss, bin_str_leq, bin_str_gtr, bin_str_geq, aget_aput, length_aput, aput_none, Nat.reduceEqDiff, Nat.reduceLT, Nat.reduceAdd, reduceIte, reduceCtorEq, Bool.not_false, Bool.not_true, Bool.true_or, true_and, Option.bind_some, Option.map_some, List.nil_append, List.cons_append, resA, resA1, resVal, Option.getD_some, Nat.reduceLeDiff, bnd_some, yieldA_eq, yldOf_some, boolOf_bool, boolOf_undef, gt_none, List.getElem?_toArray, List.getElem?_cons_succ, List.getElem?_cons_zero, bq_true, bq_false, decide_true, decide_false, Option.toList_none, Option.toList_some, List.head?_cons, List.head?_nil, nb_cfg, not_false_eq_true, cv_some, pm_some, pm_none, plainA_v, plain_bool, plain_int, plain_str, Bool.false_eq_true, if_false]
        refine wt_loop (m := l.length - 1) (fun m e h => ∃ i, i + m = l.length ∧ 1 ≤ i ∧ rpI l i e h ∧ ∀ c ∈ r.take (i - 1), shownB c = true) ?_ ?_
        · rintro m e h ⟨i, hi, hi1, ⟨hn, rfl, h0, h7⟩, ok⟩
          by_cases hil : i < l.length
          · have hd : decide ((i : Int) < (l.length : Int)) = true := decide_eq_true (by omega)
            have e1 : IntKind.i64.wrap ((i : Int) + 1) = ((i + 1 : Nat) : Int) := wr64 (by omega) (by omega)
            have hrl : i - 1 < r.length := by omega
            have hg : r[i - 1] = l[i] := hgg i hi1 hil hrl
            by_cases h58 : l[i] = 58
            · have hd58 : decide ((((l[i]).toNat : Nat) : Int) = 58) = true := by rw [colon]; exact decide_eq_true h58
              have hsplit : r = r.take (i - 1) ++ 58 :: r.drop i := by
                conv => lhs; rw [← List.take_append_drop (i - 1) r]
                rw [List.drop_eq_getElem_cons hrl, hg, h58, show i - 1 + 1 = i by omega]
              have hcut : cutB r 58 = (r.take (i - 1), r.drop i, true) := by
                conv => lhs; rw [hsplit]
                exact cutB_some (not58 ok)
              have hdr : l.drop (i + 1) = r.drop i := hdr0 i
              have hall : (r.take (i - 1)).all shownB = true := List.all_eq_true.2 ok
              have hdl : (r.drop i).length < 2 ^ 63 := by rw [List.length_drop]; omega
              by_cases hi' : i = 1
              · have hd1' : decide ((i : Int) = 1) = true := decide_eq_true (by omega)
                have hR : partsO l sign = none := by
                  rw [hP, hcut]
                  simp only [hs255, hi', Nat.sub_self, List.take_zero]
                  simp
                simp -dsimp only [hn, h0, h7, len_s, hd, index_s hil, byt, hd58, hd1', wt_seq, wt_block, wt_region, wt_cond, wt_skip, wt_ret, wt_exit, wst_nil, wst_app_nil, wst_app_cons, wst_cons, wst_guard, andThen_normal, andThen_ret, andThen_exit, leave_normal, leave_ret, leave_exit, EndsA_ret, EndsA_normal, ot_move, ot_assign, ot_pick, ot_binOp, ot_unOp, ot_convert, ot_field, ot_index, ot_indexAddr, ot_fieldAddr, ot_slice, ot_build, ot_buildSlice, ot_extract, ot_makeInterface, ot_makeFunc, ot_nilCheck, ot_call, ot_len, ot_append, ot_box, ot_load, ot_store, ot_makeSlice, ct_bool, ct_true, ct_false, bt_some, gt_some, aval_tmp, aval_int, aval_bool, aval_str, aval_slice, aval_nilPointer, aval_nilIface, aval_func, aval_global, avals, apairs, bareP, AV.bare, AV.bares, bin_lss, bin_leq, bin_gtr, bin_geq, bin_eql, bin_neq, bin_add, bin_sub, bin_mul, bin_and, bin_or, bin_xor, toV_int, toV_bool, toV_string, un_neg, un_not, bin_str_eql, bin_str_neq, bin_str_lss, bin_str_leq, bin_str_gtr, bin_str_geq, aget_aput, length_aput, aput_none, Nat.reduceEqDiff, Nat.reduceLT, Nat.reduceAdd, reduceIte, reduceCtorEq, Bool.not_false, Bool.not_true, Bool.true_or, true_and, Option.bind_some, Option.map_some, List.nil_append, List.cons_append, resA, resA1, resVal, Option.getD_some, Nat.reduceLeDiff, bnd_some, yieldA_eq, yldOf_some, boolOf_bool, boolOf_undef, gt_none, List.getElem?_toArray, List.getElem?_cons_succ, List.getElem?_cons_zero, bq_true, bq_false, decide_true, decide_false, Option.toList_none, Option.toList_some, List.head?_cons, List.head?_nil, nb_cfg, not_false_eq_true, cv_some, pm_some, pm_none, plainA_v, plain_bool, plain_int, plain_str, Bool.false_eq_true, if_false]
                exact ⟨5, by rw [hR]; rfl⟩
              · have hd1' : decide ((i : Int) = 1) = false := decide_eq_false (by omega)
                have hA : allS (r.take (i - 1)) 255 shownB = true := by
                  rw [hs255, hall, decide_eq_true (show 0 < (r.take (i - 1)).length by rw [List.length_take]; omega), decide_eq_true (show (r.take (i - 1)).length ≤ 255 by rw [List.length_take]; omega)]
                  rfl
                cases q : serverB (r.drop i) with
                | false =>
                  have hR : partsO l sign = none := by rw [hP, hcut]; simp only [hA, q]; rfl
                  simp -dsimp only [hn, h0, h7, len_s, hd, index_s hil, byt, hd58, hd1', e1, sliceD (show i + 1 ≤ l.length by omega), hdr, ct_prim rf1_26, bare_s, boolP_eq (q := serverB) hdl, q, wt_seq, wt_block, wt_region, wt_cond, wt_skip, wt_ret, wt_exit, wst_nil, wst_app_nil, wst_app_cons, wst_cons, wst_guard, andThen_normal, andThen_ret, andThen_exit, leave_normal, leave_ret, leave_exit, EndsA_ret, EndsA_normal, ot_move, ot_assign, ot_pick, ot_binOp, ot_unOp, ot_convert, ot_field, ot_index, ot_indexAddr, ot_fieldAddr, ot_slice, ot_build, ot_buildSlice, ot_extract, ot_makeInterface, ot_makeFunc, ot_nilCheck, ot_call, ot_len, ot_append, ot_box, ot_load, ot_store, ot_makeSlice, ct_bool, ct_true, ct_false, bt_some, gt_some, aval_tmp, aval_int, aval_bool, aval_str, aval_slice, aval_nilPointer, aval_nilIface, aval_func, aval_global, avals, apairs, bareP, AV.bare, AV.bares, bin_lss, bin_leq, bin_gtr, bin_geq, bin_eql, bin_neq, bin_add, bin_sub, bin_mul, bin_and, bin_or, bin_xor, toV_int, toV_bool, toV_string, un_neg, un_not, bin_str_eql, bin_str_neq, bin_str_lss, bin_str_leq, bin_str_gtr, bin_str_geq, aget_aput, length_aput, aput_none, Nat.reduceEqDiff, Nat.reduceLT, Nat.reduceAdd, reduceIte, reduceCtorEq, Bool.not_false, Bool.not_true, Bool.true_or, true_and, Option.bind_some, Option.map_some, List.nil_append, List.cons_append, resA, resA1, resVal, Option.getD_some, Nat.reduceLeDiff, bnd_some, yieldA_eq, yldOf_some, boolOf_bool, boolOf_undef, gt_none, List.getElem?_toArray, List.getElem?_cons_succ, List.getElem?_cons_zero, bq_true, bq_false, decide_true, decide_false, Option.toList_none, Option.toList_some, List.head?_cons, List.head?_nil, nb_cfg, not_false_eq_true, cv_some, pm_some, pm_none, plainA_v, plain_bool, plain_int, plain_str, Bool.false_eq_true, if_false]
                  exact ⟨5, by rw [hR]; rfl⟩
                | true =>
                  have hR : partsO l sign = some (r.take (i - 1), r.drop i) := by rw [hP, hcut]; simp only [hA, q]; rfl
                  have hsl : sliceA (cfgP rf1) 9 (str l) (some (.v (.int .i64 1))) (some (.v (.int .i64 i))) none = some (str (r.take (i - 1))) := by
                    have := slice_str (C := cfgP rf1) (t := 9) (a := l) (lo := some (.v (.int .i64 1))) (hi := some (.v (.int .i64 i))) (l := 1) (h := i) (by kernel_rfl) (by simp [optIdx, idx]) (by simp [optIdx, idx]) ⟨by omega, by omega⟩
                    rw [this, hdr1]
                  simp -dsimp only [hn, h0, h7, len_s, hd, index_s hil, byt, hd58, hd1', e1, sliceD (show i + 1 ≤ l.length by omega), hdr, ct_prim rf1_26, bare_s, boolP_eq (q := serverB) hdl, q, hsl, wt_seq, wt_block, wt_region, wt_cond, wt_skip, wt_ret, wt_exit, wst_nil, wst_app_nil, wst_app_cons, wst_cons, wst_guard, andThen_normal, andThen_ret, andThen_exit, leave_normal, leave_ret, leave_exit, EndsA_ret, EndsA_normal, ot_move, ot_assign, ot_pick, ot_binOp, ot_unOp, ot_convert, ot_field, ot_index, ot_indexAddr, ot_fieldAddr, ot_slice, ot_build, ot_buildSlice, ot_extract, ot_makeInterface, ot_makeFunc, ot_nilCheck, ot_call, ot_len, ot_append, ot_box, ot_load, ot_store, ot_makeSlice, ct_bool, ct_true, ct_false, bt_some, gt_some, aval_tmp, aval_int, aval_bool, aval_str, aval_slice, aval_nilPointer, aval_nilIface, aval_func, aval_global, avals, apairs, bareP, AV.bare, AV.bares, bin_lss, bin_leq, bin_gtr, bin_geq, bin_eql, bin_neq, bin_add, bin_sub, bin_mul, bin_and, bin_or, bin_xor, toV_int, toV_bool, toV_string, un_neg, un_not, bin_str_eql, bin_str_neq, bin_str_lss, bin_str_leq, bin_str_gtr, bin_str_geq, aget_aput, length_aput, aput_none, Nat.reduceEqDiff, Nat.reduceLT, Nat.reduceAdd, reduceIte, reduceCtorEq, Bool.not_false, Bool.not_true, Bool.true_or, true_and, Option.bind_some, Option.map_some, List.nil_append, List.cons_append, resA, resA1, resVal, Option.getD_some, Nat.reduceLeDiff, bnd_some, yieldA_eq, yldOf_some, boolOf_bool, boolOf_undef, gt_none, List.getElem?_toArray, List.getElem?_cons_succ, List.getElem?_cons_zero, bq_true, bq_false, decide_true, decide_false, Option.toList_none, Option.toList_some, List.head?_cons, List.head?_nil, nb_cfg, not_false_eq_true, cv_some, pm_some, pm_none, plainA_v, plain_bool, plain_int, plain_str, Bool.false_eq_true, if_false]
                  exact ⟨by kernel_rfl, 5, by rw [hR]; rfl⟩
            · have hd58 : decide ((((l[i]).toNat : Nat) : Int) = 58) = false := by rw [colon]; exact decide_eq_false h58
              have hsh := shown_not l[i] h58
              cases q1 : decide ((((l[i]).toNat : Nat) : Int) < 33) <;> cases q2 : decide ((126 : Int) < (((l[i]).toNat : Nat) : Int)) <;> rw [q1, q2] at hsh <;> first
                | (have hsh' : shownB l[i] = true := hsh
                   simp -dsimp only [hn, h0, h7, len_s, hd, index_s hil, byt, hd58, q1, q2, e1, wt_seq, wt_block, wt_region, wt_cond, wt_skip, wt_ret, wt_exit, wst_nil, wst_app_nil, wst_app_cons, wst_cons, wst_guard, andThen_normal, andThen_ret, andThen_exit, leave_normal, leave_ret, leave_exit, EndsA_ret, EndsA_normal, ot_move, ot_assign, ot_pick, ot_binOp, ot_unOp, ot_convert, ot_field, ot_index, ot_indexAddr, ot_fieldAddr, ot_slice, ot_build, ot_buildSlice, ot_extract, ot_makeInterface, ot_makeFunc, ot_nilCheck, ot_call, ot_len, ot_append, ot_box, ot_load, ot_store, ot_makeSlice, ct_bool, ct_true, ct_false, bt_some, gt_some, aval_tmp, aval_int, aval_bool, aval_str, aval_slice, aval_nilPointer, aval_nilIface, aval_func, aval_global, avals, apairs, bareP, AV.bare, AV.bares, bin_lss, bin_leq, bin_gtr, bin_geq, bin_eql, bin_neq, bin_add, bin_sub, bin_mul, bin_and, bin_or, bin_xor, toV_int, toV_bool, toV_string, un_neg, un_not, bin_str_eql, bin_str_neq, bin_str_lss, bin_str_leq, bin_str_gtr, bin_str_geq, aget_aput, length_aput, aput_none, Nat.reduceEqDiff, Nat.reduceLT, Nat.reduceAdd, reduceIte, reduceCtorEq, Bool.not_false, Bool.not_true, Bool.true_or, true_and, Option.bind_some, Option.map_some, List.nil_append, List.cons_append, resA, resA1, resVal, Option.getD_some, Nat.reduceLeDiff, bnd_some, yieldA_eq, yldOf_some, boolOf_bool, boolOf_undef, gt_none, List.getElem?_toArray, List.getElem?_cons_succ, List.getElem?_cons_zero, bq_true, bq_false, decide_true, decide_false, Option.toList_none, Option.toList_some, List.head?_cons, List.head?_nil, nb_cfg, not_false_eq_true, cv_some, pm_some, pm_none, plainA_v, plain_bool, plain_int, plain_str, Bool.false_eq_true, if_false]
                   refine ⟨m - 1, by omega, i + 1, by omega, by omega, ⟨?_, rfl, ?_, ?_⟩, ?_⟩
                   any_goals simp -dsimp only [hn, h0, wt_seq, wt_block, wt_region, wt_cond, wt_skip, wt_ret, wt_exit, wst_nil, wst_app_nil, wst_app_cons, wst_cons, wst_guard, andThen_normal, andThen_ret, andThen_exit, leave_normal, leave_ret, leave_exit, EndsA_ret, EndsA_normal, ot_move, ot_assign, ot_pick, ot_binOp, ot_unOp, ot_convert, ot_field, ot_index, ot_indexAddr, ot_fieldAddr, ot_slice, ot_build, ot_buildSlice, ot_extract, ot_makeInterface, ot_makeFunc, ot_nilCheck, ot_call, ot_len, ot_append, ot_box, ot_load, ot_store, ot_makeSlice, ct_bool, ct_true, ct_false, bt_some, gt_some, aval_tmp, aval_int, aval_bool, aval_str, aval_slice, aval_nilPointer, aval_nilIface, aval_func, aval_global, avals, apairs, bareP, AV.bare, AV.bares, bin_lss, bin_leq, bin_gtr, bin_geq, bin_eql, bin_neq, bin_add, bin_sub, bin_mul, bin_and, bin_or, bin_xor, toV_int, toV_bool, toV_string, un_neg, un_not, bin_str_eql, bin_str_neq, bin_str_lss, bin_str_leq, bin_str_gtr, bin_str_geq, aget_aput, length_aput, aput_none, Nat.reduceEqDiff, Nat.reduceLT, Nat.reduceAdd, reduceIte, reduceCtorEq, Bool.not_false, Bool.not_true, Bool.true_or, true_and, Option.bind_some, Option.map_some, List.nil_append, List.cons_append, resA, resA1, resVal, Option.getD_some, Nat.reduceLeDiff, bnd_some, yieldA_eq, yldOf_some, boolOf_bool, boolOf_undef, gt_none, List.getElem?_toArray, List.getElem?_cons_succ, List.getElem?_cons_zero, bq_true, bq_false, decide_true, decide_false, Option.toList_none, Option.toList_some, List.head?_cons, List.head?_nil, nb_cfg, not_false_eq_true, cv_some, pm_some, pm_none, plainA_v, plain_bool, plain_int, plain_str, Bool.false_eq_true, if_false]
                   rw [show i + 1 - 1 = i - 1 + 1 by omega]
                   exact all_take hrl ok (by rw [hg]; exact hsh'))
                | (have hsh' : shownB l[i] = false := hsh
                   have hR : partsO l sign = none := by
                     rw [hP]
                     by_cases h58r : (58 : UInt8) ∈ r
                     · obtain ⟨a, b, hab, ha, _⟩ := idxZ_some r 58 h58r
                       rw [hab, cutB_some ha]
                       have hlt : i - 1 < a.length := by
                         apply Decidable.byContradiction
                         intro hge
                         have hm : (58 : UInt8) ∈ r.take (i - 1) ∨ r[i - 1] = 58 := by
                           by_cases he : i - 1 = a.length
                           · right
                             have : r[i - 1]? = some 58 := by rw [hab, he, List.getElem?_append_right (Nat.le_refl _)]; simp
                             rw [List.getElem?_eq_getElem hrl] at this
                             exact Option.some.inj this
                           · left
                             rw [List.mem_take_iff_getElem]
                             refine ⟨a.length, by omega, ?_⟩
                             have : r[a.length]? = some 58 := by rw [hab, List.getElem?_append_right (Nat.le_refl _)]; simp
                             rw [List.getElem?_eq_getElem (by omega)] at this
                             exact Option.some.inj this
                         rcases hm with hm | hm
                         · exact not58 ok hm
                         · rw [hg] at hm
                           exact h58 hm
                       have hbad : a.all shownB = false := by
                         rw [List.all_eq_false]
                         have : a[i - 1] = l[i] := by
                           rw [← hg]
                           have h1 : r[i - 1]? = a[i - 1]? := by rw [hab, List.getElem?_append_left hlt]
                           rw [List.getElem?_eq_getElem hrl, List.getElem?_eq_getElem hlt] at h1
                           exact (Option.some.inj h1).symm
                         exact ⟨a[i - 1], List.getElem_mem hlt, by rw [this, hsh']; simp⟩
                       simp only [hs255, hbad]
                       rfl
                     · rw [cutB_none h58r]
                       rfl
                   simp -dsimp only [hn, h0, h7, len_s, hd, index_s hil, byt, hd58, q1, q2, wt_seq, wt_block, wt_region, wt_cond, wt_skip, wt_ret, wt_exit, wst_nil, wst_app_nil, wst_app_cons, wst_cons, wst_guard, andThen_normal, andThen_ret, andThen_exit, leave_normal, leave_ret, leave_exit, EndsA_ret, EndsA_normal, ot_move, ot_assign, ot_pick, ot_binOp, ot_unOp, ot_convert, ot_field, ot_index, ot_indexAddr, ot_fieldAddr, ot_slice, ot_build, ot_buildSlice, ot_extract, ot_makeInterface, ot_makeFunc, ot_nilCheck, ot_call, ot_len, ot_append, ot_box, ot_load, ot_store, ot_makeSlice, ct_bool, ct_true, ct_false, bt_some, gt_some, aval_tmp, aval_int, aval_bool, aval_str, aval_slice, aval_nilPointer, aval_nilIface, aval_func, aval_global, avals, apairs, bareP, AV.bare, AV.bares, bin_lss, bin_leq, bin_gtr, bin_geq, bin_eql, bin_neq, bin_add, bin_sub, bin_mul, bin_and, bin_or, bin_xor, toV_int, toV_bool, toV_string, un_neg, un_not, bin_str_eql, bin_str_neq, bin_str_lss, bin_str_leq, bin_str_gtr, bin_str_geq, aget_aput, length_aput, aput_none, Nat.reduceEqDiff, Nat.reduceLT, Nat.reduceAdd, reduceIte, reduceCtorEq, Bool.not_false, Bool.not_true, Bool.true_or, true_and, Option.bind_some, Option.map_some, List.nil_append, List.cons_append, resA, resA1, resVal, Option.getD_some, Nat.reduceLeDiff, bnd_some, yieldA_eq, yldOf_some, boolOf_bool, boolOf_undef, gt_none, List.getElem?_toArray, List.getElem?_cons_succ, List.getElem?_cons_zero, bq_true, bq_false, decide_true, decide_false, Option.toList_none, Option.toList_some, List.head?_cons, List.head?_nil, nb_cfg, not_false_eq_true, cv_some, pm_some, pm_none, plainA_v, plain_bool, plain_int, plain_str, Bool.false_eq_true, if_false]
                   exact ⟨5, by rw [hR]; rfl⟩)
          · have hd : decide ((i : Int) < (l.length : Int)) = false := decide_eq_false (by omega)
            have h58 : (58 : UInt8) ∉ r := not58 fun c hc => ok c (by rw [List.take_of_length_le (by omega)]; exact hc)
            have hR : partsO l sign = none := by rw [hP, cutB_none h58]; rfl
            simp -dsimp only [hn, h0, h7, len_s, hd, wt_seq, wt_block, wt_region, wt_cond, wt_skip, wt_ret, wt_exit, wst_nil, wst_app_nil, wst_app_cons, wst_cons, wst_guard, andThen_normal, andThen_ret, andThen_exit, leave_normal, leave_ret, leave_exit, EndsA_ret, EndsA_normal, ot_move, ot_assign, ot_pick, ot_binOp, ot_unOp, ot_convert, ot_field, ot_index, ot_indexAddr, ot_fieldAddr, ot_slice, ot_build, ot_buildSlice, ot_extract, ot_makeInterface, ot_makeFunc, ot_nilCheck, ot_call, ot_len, ot_append, ot_box, ot_load, ot_store, ot_makeSlice, ct_bool, ct_true, ct_false, bt_some, gt_some, aval_tmp, aval_int, aval_bool, aval_str, aval_slice, aval_nilPointer, aval_nilIface, aval_func, aval_global, avals, apairs, bareP, AV.bare, AV.bares, bin_lss, bin_leq, bin_gtr, bin_geq, bin_eql, bin_neq, bin_add, bin_sub, bin_mul, bin_and, bin_or, bin_xor, toV_int, toV_bool, toV_string, un_neg, un_not, bin_str_eql, bin_str_neq, bin_str_lss, bin_str_leq, bin_str_gtr, bin_str_geq, aget_aput, length_aput, aput_none, Nat.reduceEqDiff, Nat.reduceLT, Nat.reduceAdd, reduceIte, reduceCtorEq, Bool.not_false, Bool.not_true, Bool.true_or, true_and, Option.bind_some, Option.map_some, List.nil_append, List.cons_append, resA, resA1, resVal, Option.getD_some, Nat.reduceLeDiff, bnd_some, yieldA_eq, yldOf_some, boolOf_bool, boolOf_undef, gt_none, List.getElem?_toArray, List.getElem?_cons_succ, List.getElem?_cons_zero, bq_true, bq_false, decide_true, decide_false, Option.toList_none, Option.toList_some, List.head?_cons, List.head?_nil, nb_cfg, not_false_eq_true, cv_some, pm_some, pm_none, plainA_v, plain_bool, plain_int, plain_str, Bool.false_eq_true, if_false]
            exact ⟨5, by rw [hR]; rfl⟩
        · refine ⟨1, by omega, Nat.le_refl 1, ⟨?_, rfl, ?_, ?_⟩, fun c hc => by simp at hc⟩
          any_goals simp -dsimp only [hn, h0, wt_seq, wt_block, wt_region, wt_cond, wt_skip, wt_ret, wt_exit, wst_nil, wst_app_nil, wst_app_cons, wst_cons, wst_guard, andThen_normal, andThen_ret, andThen_exit, leave_normal, leave_ret, leave_exit, EndsA_ret, EndsA_normal, ot_move, ot_assign, ot_pick, ot_binOp, ot_unOp, ot_convert, ot_field, ot_index, ot_indexAddr, ot_fieldAddr, ot_slice, ot_build, ot_buildSlice, ot_extract, ot_makeInterface, ot_makeFunc, ot_nilCheck, ot_call, ot_len, ot_append, ot_box, ot_load, ot_store, ot_makeSlice, ct_bool, ct_true, ct_false, bt_some, gt_some, aval_tmp, aval_int, aval_bool, aval_str, aval_slice, aval_nilPointer, aval_nilIface, aval_func, aval_global, avals, apairs, bareP, AV.bare, AV.bares, bin_lss, bin_leq, bin_gtr, bin_geq, bin_eql, bin_neq, bin_add, bin_sub, bin_mul, bin_and, bin_or, bin_xor, toV_int, toV_bool, toV_string, un_neg, un_not, bin_str_eql, bin_str_neq, bin_str_lss, bin_str_leq, bin_str_gtr, bin_str_geq, aget_aput, length_aput, aput_none, Nat.reduceEqDiff, Nat.reduceLT, Nat.reduceAdd, reduceIte, reduceCtorEq, Bool.not_false, Bool.not_true, Bool.true_or, true_and, Option.bind_some, Option.map_some, List.nil_append, List.cons_append, resA, resA1, resVal, Option.getD_some, Nat.reduceLeDiff, bnd_some, yieldA_eq, yldOf_some, boolOf_bool, boolOf_undef, gt_none, List.getElem?_toArray, List.getElem?_cons_succ, List.getElem?_cons_zero, bq_true, bq_false, decide_true, decide_false, Option.toList_none, Option.toList_some, List.head?_cons, List.head?_nil, nb_cfg, not_false_eq_true, cv_some, pm_some, pm_none, plainA_v, plain_bool, plain_int, plain_str, Bool.false_eq_true, if_false]
          rfl
    · have hd1 : decide (((c.toNat : Nat) : Int) = ((sign.toNat : Nat) : Int)) = false := by rw [byte_eq]; exact decide_eq_false hs
      have hP : partsO l sign = none := by rw [hP0, if_pos (Or.inl hs)]
      rw [hP]
      refine pure_of_wk (call := noCall) (fn := Tryd.f42) (rs := [.tmp 4, .tmp 5, .tmp 6]) rf1_ok noCall_ok (fns_cfg Tryd.func42 rfl) rfl rfl ?_
      intro env hl0 hargs
      have hn : env.length = 59 := hl0
      have h0 := hargs 0 _ rfl
      have h1 := hargs 1 _ rfl
      clear hargs hl0
      refine wkT_of ?_
      simp -dsimp only [hn, h0, h1, len_s, hL0, hi0, byt, hd1, wt_seq, wt_block, wt_region, wt_cond, wt_skip, wt_ret, wt_exit, wst_nil, wst_app_nil, wst_app_cons, wst_cons, wst_guard, andThen_normal, andThen_ret, andThen_exit, leave_normal, leave_ret, leave_exit, EndsA_ret, EndsA_normal, ot_move, ot_assign, ot_pick, ot_binOp, ot_unOp, ot_convert, ot_field, ot_index, ot_indexAddr, ot_fieldAddr, ot_slice, ot_build, ot_buildSlice, ot_extract, ot_makeInterface, ot_makeFunc, ot_nilCheck, ot_call, ot_len, ot_append, ot_box, ot_load, ot_store, ot_makeSlice, ct_bool, ct_true, ct_false, bt_some, gt_some, aval_tmp, aval_int, aval_bool, aval_str, aval_slice, aval_nilPointer, aval_nilIface, aval_func, aval_global, avals, apairs, bareP, AV.bare, AV.bares, bin_lss, bin_leq, bin_gtr, bin_geq, bin_eql, bin_neq, bin_add, bin_sub, bin_mul, bin_and, bin_or, bin_xor, toV_int, toV_bool, toV_string, un_neg, un_not, bin_str_eql, bin_str_neq, bin_str_lss, bin_str_leq, bin_str_gtr, bin_str_geq, aget_aput, length_aput, aput_none, Nat.reduceEqDiff, Nat.reduceLT, Nat.reduceAdd, reduceIte, reduceCtorEq, Bool.not_false, Bool.not_true, Bool.true_or, true_and, Option.bind_some, Option.map_some, List.nil_append, List.cons_append, resA, resA1, resVal, Option.getD_some, Nat.reduceLeDiff, bnd_some, yieldA_eq, yldOf_some, boolOf_bool, boolOf_undef, gt_none, List.getElem?_toArray, List.getElem?_cons_succ, List.getElem?_cons_zero, bq_true, bq_false, decide_true, decide_false, Option.toList_none, Option.toList_some, List.head?_cons, List.head?_nil, nb_cfg, not_false_eq_true, cv_some, pm_some, pm_none, plainA_v, plain_bool, plain_int, plain_str, Bool.false_eq_true, if_false]
      exact ⟨5, rfl⟩
def rf2 : FuncId → Option (List AV → Option AV) := tab [(42, partsP)]
theorem rf2_ok : (cfgP rf2).Ok := cfgOf_ok mixed fok (tab_ok ⟨prim_at Tryd.func42 (by kernel_rfl) rfl (partsP_of parted_ok), trivial⟩)
theorem rf2_42 : (cfgP rf2).prim 42 = some partsP := rfl
theorem refUser_ok (l : List UInt8) (hl : l.length < 2 ^ 63) : PureOk (cfgP rf2) 24 [str l] (userV l) := by
  refine pure_of_wk (call := noCall) (fn := Tryd.f24) (rs := [.tmp 2, .tmp 3, .tmp 4]) rf2_ok noCall_ok (fns_cfg Tryd.func24 rfl) rfl rfl ?_
  intro env hl0 hargs
  have hn : env.length = 10 := hl0
  have h0 := hargs 0 _ rfl
  clear hargs hl0
  refine wkT_of ?_
  simp -dsimp only [hn, h0, ct_prim rf2_42, bare_s, partsP_at hl, partsV_eq, wt_seq, wt_block, wt_region, wt_cond, wt_skip, wt_ret, wt_exit, wst_nil, wst_app_nil, wst_app_cons, wst_cons, wst_guard, andThen_normal, andThen_ret, andThen_exit, leave_normal, leave_ret, leave_exit, EndsA_ret, EndsA_normal, ot_move, ot_assign, ot_pick, ot_binOp, ot_unOp, ot_convert, ot_field, ot_index, ot_indexAddr, ot_fieldAddr, ot_slice, ot_build, ot_buildSlice, ot_extract, ot_makeInterface, ot_makeFunc, ot_nilCheck, ot_call, ot_len, ot_append, ot_box, ot_load, ot_store, ot_makeSlice, ct_bool, ct_true, ct_false, bt_some, gt_some, aval_tmp, aval_int, aval_bool, aval_str, aval_slice, aval_nilPointer, aval_nilIface, aval_func, aval_global, avals, apairs, bareP, AV.bare, AV.bares, bin_lss, bin_leq, bin_gtr, bin_geq, bin_eql, bin_neq, bin_add, bin_sub, bin_mul, bin_and, bin_or, bin_xor, toV_int, toV_bool, toV_string, un_neg, un_not, bin_str_eql, bin_str_neq, bin_str_lss, bin_str_leq, bin_str_gtr, bin_str_geq, aget_aput, length_aput, aput_none, Nat.reduceEqDiff, Nat.reduceLT, Nat.reduceAdd, reduceIte, reduceCtorEq, Bool.not_false, Bool.not_true, Bool.true_or, true_and, Option.bind_some, Option.map_some, List.nil_append, List.cons_append, resA, resA1, resVal, Option.getD_some, Nat.reduceLeDiff, bnd_some, yieldA_eq, yldOf_some, boolOf_bool, boolOf_undef, gt_none, List.getElem?_toArray, List.getElem?_cons_succ, List.getElem?_cons_zero, bq_true, bq_false, decide_true, decide_false, Option.toList_none, Option.toList_some, List.head?_cons, List.head?_nil, nb_cfg, not_false_eq_true, cv_some, pm_some, pm_none, plainA_v, plain_bool, plain_int, plain_str, Bool.false_eq_true, if_false]
  exact ⟨5, by rw [userV, partsV_eq]; rfl⟩
theorem refRoom_ok (l : List UInt8) (hl : l.length < 2 ^ 63) : PureOk (cfgP rf2) 25 [str l] (roomV l) := by
  refine pure_of_wk (call := noCall) (fn := Tryd.f25) (rs := [.tmp 2, .tmp 3, .tmp 4]) rf2_ok noCall_ok (fns_cfg Tryd.func25 rfl) rfl rfl ?_
  intro env hl0 hargs
  have hn : env.length = 10 := hl0
  have h0 := hargs 0 _ rfl
  clear hargs hl0
  refine wkT_of ?_
  simp -dsimp only [hn, h0, ct_prim rf2_42, bare_s, partsP_bang hl, partsV_eq, wt_seq, wt_block, wt_region, wt_cond, wt_skip, wt_ret, wt_exit, wst_nil, wst_app_nil, wst_app_cons, wst_cons, wst_guard, andThen_normal, andThen_ret, andThen_exit, leave_normal, leave_ret, leave_exit, EndsA_ret, EndsA_normal, ot_move, ot_assign, ot_pick, ot_binOp, ot_unOp, ot_convert, ot_field, ot_index, ot_indexAddr, ot_fieldAddr, ot_slice, ot_build, ot_buildSlice, ot_extract, ot_makeInterface, ot_makeFunc, ot_nilCheck, ot_call, ot_len, ot_append, ot_box, ot_load, ot_store, ot_makeSlice, ct_bool, ct_true, ct_false, bt_some, gt_some, aval_tmp, aval_int, aval_bool, aval_str, aval_slice, aval_nilPointer, aval_nilIface, aval_func, aval_global, avals, apairs, bareP, AV.bare, AV.bares, bin_lss, bin_leq, bin_gtr, bin_geq, bin_eql, bin_neq, bin_add, bin_sub, bin_mul, bin_and, bin_or, bin_xor, toV_int, toV_bool, toV_string, un_neg, un_not, bin_str_eql, bin_str_neq, bin_str_lss, bin_str_leq, bin_str_gtr, bin_str_geq, aget_aput, length_aput, aput_none, Nat.reduceEqDiff, Nat.reduceLT, Nat.reduceAdd, reduceIte, reduceCtorEq, Bool.not_false, Bool.not_true, Bool.true_or, true_and, Option.bind_some, Option.map_some, List.nil_append, List.cons_append, resA, resA1, resVal, Option.getD_some, Nat.reduceLeDiff, bnd_some, yieldA_eq, yldOf_some, boolOf_bool, boolOf_undef, gt_none, List.getElem?_toArray, List.getElem?_cons_succ, List.getElem?_cons_zero, bq_true, bq_false, decide_true, decide_false, Option.toList_none, Option.toList_some, List.head?_cons, List.head?_nil, nb_cfg, not_false_eq_true, cv_some, pm_some, pm_none, plainA_v, plain_bool, plain_int, plain_str, Bool.false_eq_true, if_false]
  exact ⟨5, by rw [roomV, partsV_eq]; rfl⟩
def rf3 : FuncId → Option (List AV → Option AV) := tab [(24, (avP userV)), (25, (avP roomV))]
theorem rf3_ok : (cfgP rf3).Ok := cfgOf_ok mixed fok (tab_ok ⟨prim_at Tryd.func24 (by kernel_rfl) rfl (avP_of refUser_ok), prim_at Tryd.func25 (by kernel_rfl) rfl (avP_of refRoom_ok), trivial⟩)
theorem rf3_24 : (cfgP rf3).prim 24 = some (avP userV) := rfl
theorem rf3_25 : (cfgP rf3).prim 25 = some (avP roomV) := rfl
theorem refServerOf_ok (l : List UInt8) (hl : l.length < 2 ^ 63) : PureOk (cfgP rf3) 30 [str l] (str (serverOf l)) := by
  cases hu : partsO l 64 with
  | some p =>
    obtain ⟨a, b⟩ := p
    have e : serverOf l = b := by unfold serverOf; rw [hu]
    refine pure_of_wk (call := noCall) (fn := Tryd.f30) (rs := [.tmp 2]) rf3_ok noCall_ok (fns_cfg Tryd.func30 rfl) rfl rfl ?_
    intro env hl0 hargs
    have hn : env.length = 24 := hl0
    have h0 := hargs 0 _ rfl
    clear hargs hl0
    refine wkT_of ?_
    simp -dsimp only [hn, h0, ct_prim rf3_24, bare_s, avP_eq hl, userV, hu, partsV_eq, partsA, partsB, Option.isSome_some, wt_seq, wt_block, wt_region, wt_cond, wt_skip, wt_ret, wt_exit, wst_nil, wst_app_nil, wst_app_cons, wst_cons, wst_guard, andThen_normal, andThen_ret, andThen_exit, leave_normal, leave_ret, leave_exit, EndsA_ret, EndsA_normal, ot_move, ot_assign, ot_pick, ot_binOp, ot_unOp, ot_convert, ot_field, ot_index, ot_indexAddr, ot_fieldAddr, ot_slice, ot_build, ot_buildSlice, ot_extract, ot_makeInterface, ot_makeFunc, ot_nilCheck, ot_call, ot_len, ot_append, ot_box, ot_load, ot_store, ot_makeSlice, ct_bool, ct_true, ct_false, bt_some, gt_some, aval_tmp, aval_int, aval_bool, aval_str, aval_slice, aval_nilPointer, aval_nilIface, aval_func, aval_global, avals, apairs, bareP, AV.bare, AV.bares, bin_lss, bin_leq, bin_gtr, bin_geq, bin_eql, bin_neq, bin_add, bin_sub, bin_mul, bin_and, bin_or, bin_xor, toV_int, toV_bool, toV_string, un_neg, un_not, bin_str_eql, bin_str_neq, bin_str_lss, bin_str_leq, bin_str_gtr, bin_str_geq, aget_aput, length_aput, aput_none, Nat.reduceEqDiff, Nat.reduceLT, Nat.reduceAdd, reduceIte, reduceCtorEq, Bool.not_false, Bool.not_true, Bool.true_or, true_and, Option.bind_some, Option.map_some, List.nil_append, List.cons_append, resA, resA1, resVal, Option.getD_some, Nat.reduceLeDiff, bnd_some, yieldA_eq, yldOf_some, boolOf_bool, boolOf_undef, gt_none, List.getElem?_toArray, List.getElem?_cons_succ, List.getElem?_cons_zero, bq_true, bq_false, decide_true, decide_false, Option.toList_none, Option.toList_some, List.head?_cons, List.head?_nil, nb_cfg, not_false_eq_true, cv_some, pm_some, pm_none, plainA_v, plain_bool, plain_int, plain_str, Bool.false_eq_true, if_false]
    exact ⟨1, by rw [e]; rfl⟩
  | none =>
    have e : serverOf l = partsB (partsO l 33) := by unfold serverOf; rw [hu]
    refine pure_of_wk (call := noCall) (fn := Tryd.f30) (rs := [.tmp 2]) rf3_ok noCall_ok (fns_cfg Tryd.func30 rfl) rfl rfl ?_
    intro env hl0 hargs
    have hn : env.length = 24 := hl0
    have h0 := hargs 0 _ rfl
    clear hargs hl0
    refine wkT_of ?_
    simp -dsimp only [hn, h0, ct_prim rf3_24, ct_prim rf3_25, bare_s, avP_eq hl, userV, hu, roomV, partsV_eq, partsA, partsB, Option.isSome_none, wt_seq, wt_block, wt_region, wt_cond, wt_skip, wt_ret, wt_exit, wst_nil, wst_app_nil, wst_app_cons, wst_cons, wst_guard, andThen_normal, andThen_ret, andThen_exit, leave_normal, leave_ret, leave_exit, EndsA_ret, EndsA_normal, ot_move, ot_assign, ot_pick, ot_binOp, ot_unOp, ot_convert, ot_field, ot_index, ot_indexAddr, ot_fieldAddr, ot_slice, ot_build, ot_buildSlice, ot_extract, ot_makeInterface, ot_makeFunc, ot_nilCheck, ot_call, ot_len, ot_append, ot_box, ot_load, ot_store, ot_makeSlice, ct_bool, ct_true, ct_false, bt_some, gt_some, aval_tmp, aval_int, aval_bool, aval_str, aval_slice, aval_nilPointer, aval_nilIface, aval_func, aval_global, avals, apairs, bareP, AV.bare, AV.bares, bin_lss, bin_leq, bin_gtr, bin_geq, bin_eql, bin_neq, bin_add, bin_sub, bin_mul, bin_and, bin_or, bin_xor, toV_int, toV_bool, toV_string, un_neg, un_not, bin_str_eql, bin_str_neq, bin_str_lss, bin_str_leq, bin_str_gtr, bin_str_geq, aget_aput, length_aput, aput_none, Nat.reduceEqDiff, Nat.reduceLT, Nat.reduceAdd, reduceIte, reduceCtorEq, Bool.not_false, Bool.not_true, Bool.true_or, true_and, Option.bind_some, Option.map_some, List.nil_append, List.cons_append, resA, resA1, resVal, Option.getD_some, Nat.reduceLeDiff, bnd_some, yieldA_eq, yldOf_some, boolOf_bool, boolOf_undef, gt_none, List.getElem?_toArray, List.getElem?_cons_succ, List.getElem?_cons_zero, bq_true, bq_false, decide_true, decide_false, Option.toList_none, Option.toList_some, List.head?_cons, List.head?_nil, nb_cfg, not_false_eq_true, cv_some, pm_some, pm_none, plainA_v, plain_bool, plain_int, plain_str, Bool.false_eq_true, if_false]
    exact ⟨1, by rw [e]; rfl⟩
end Go.Proofs.YtonmpbfddiflhaaDoor
