/- Contracts of functions, and plain facts about what they compute. -/
import Derived.Test.YtjejeijldllloaaDoorUf
set_option linter.unusedSimpArgs false
set_option linter.unusedVariables false
/- Chapter 1, the document's: four digits, a code point's bytes. -/
namespace Go.Proofs.YtjejeijldllloaaDoor
open Go.AM
def hexRZ (l : List UInt8) : Int := match (hexF l 4 0 0).1 with
  | some n => n
  | none => -1
structure HrI (l : List UInt8) (m i n : Nat) (e : Env) (h : Hp) : Prop where
  len : e.length = 58
  hp : h = {}
  a0 : aget e 0 = str l
  a3 : aget e 3 = .v (.int .i64 (n : Int))
  a4 : aget e 4 = .v (.int .i64 (i : Int))
  nl : n < 16 ^ i
  eq : hexF l m i n = hexF l 4 0 0
theorem bin_mulN {C : Cfg} {t : TypeId} {x y : Operand} {a : Nat} (h : a < 576460752303423488) : binA C .mul t x y (.v (.int .i64 (a : Int))) (.v (.int .i64 16)) = some (.v (.int .i64 ((a * 16 : Nat) : Int))) := by
  rw [bin_mul, show ((a : Int) * 16) = ((a * 16 : Nat) : Int) by push_cast; rfl, wrapN64 (by omega)]
theorem cv53i {prim : FuncId → Option (List AV → Option AV)} {n : Int} (h1 : 0 ≤ n) (h2 : n < 256) : convA (cfgP prim) 5 3 (.v (.int .u8 n)) = some (.v (.int .i64 n)) := by
  rw [conv_int (C := cfgP prim) (j := .u8) (k' := .i64) (by kernel_rfl) (by kernel_rfl) (by kernel_rfl) (by kernel_rfl), wrap64 (by omega) (by omega)]
set_option maxHeartbeats 4000000 in
set_option maxRecDepth 100000 in
theorem hexR_ok (l : List UInt8) (hl : l.length < 2 ^ 62) : PureOk (cfgP fun _ => none) 92 [str l] (.v (.int .i64 (hexRZ l))) := by
  by_cases hs : l.length < 4
  · have hz : hexRZ l = -1 := by
      have : (hexF l 4 0 0).1 = none := by
        match l, hs with
        | [], _ => rfl
        | [a], _ => simp only [hexF]; cases h : digV a <;> simp [h]
        | [a, b], _ => simp only [hexF]; cases h : digV a <;> simp [h]; cases h : digV b <;> simp [h]
        | [a, b, c], _ => simp only [hexF]; cases h : digV a <;> simp [h]; cases h : digV b <;> simp [h]; cases h : digV c <;> simp [h]
        | _ :: _ :: _ :: _ :: _, h => simp at h; omega
      unfold hexRZ
      rw [this]
    rw [hz]
    refine pure_of_wk (call := noCall) (fn := Tryd.f92) (rs := [.tmp 2]) cokN noCall_ok (fns_cfg Tryd.func92 rfl) rfl rfl ?_
    intro env hl0 hargs
    have hn : env.length = 58 := hl0
    have h0 := hargs 0 _ rfl
    clear hargs hl0
    refine wkT_of ?_
    rw [fe_self hn]
    (try simp -dsimp (disch := omega) only [h0, len_s, wt_seq, wt_block, wt_region, wt_cond, wt_skip, wt_ret, wt_exit, wst_nil, wst_cons, wst_guard, andThen_normal, andThen_ret, andThen_exit, leave_normal, leave_ret, leave_exit, EndsA_ret, EndsA_normal, ot_move, ot_assign, ot_pick, ot_binOp, ot_unOp, ot_convert, ot_field, ot_index, ot_indexAddr, ot_fieldAddr, ot_slice, ot_build, ot_buildSlice, ot_extract, ot_makeInterface, ot_makeFunc, ot_nilCheck, ot_call, ot_len, ot_append, ot_box, ot_load, ot_store, ot_makeSlice, ot_alloc, ot_sliceData, ot_unsafeString, ct_bool, ct_true, ct_false, bt_some, gt_some, aval_tmp, aval_int, aval_bool, aval_str, aval_slice, aval_nilPointer, aval_nilIface, aval_func, aval_global, avals, apairs, bareP, AV.bare, AV.bares, bin_lss, bin_leq, bin_gtr, bin_geq, bin_eql, bin_neq, bin_add, bin_sub, bin_mul, toV_int, toV_bool, toV_string, un_neg, un_not, bin_str_eql, bin_str_neq, bin_str_lss, bin_str_leq, bin_str_gtr, bin_str_geq, aget_aput, length_aput, aput_none, Nat.reduceEqDiff, Nat.reduceLT, Nat.reduceAdd, ↓reduceIte, reduceCtorEq, Bool.not_false, Bool.not_true, Bool.true_or, true_and, Option.bind_some, Option.map_some, List.nil_append, List.cons_append, resA, resA1, resVal, Option.getD_some, Nat.reduceLeDiff, bnd_some, yieldA_eq, yldOf_some, boolOf_bool, boolOf_undef, gt_none, List.getElem?_toArray, List.getElem?_cons_succ, List.getElem?_cons_zero, bq_true, bq_false, decide_true, decide_false, Option.toList_none, Option.toList_some, List.head?_cons, List.head?_nil, nb_cfg, not_false_eq_true, cv_some, pm_some, pm_none, plainA_v, plain_bool, plain_int, plain_str, Bool.false_eq_true, if_false, Int.reduceLT, Int.reduceLE, Int.reduceEq, Int.reduceAdd, Int.reduceSub, Int.reduceMul, Int.reduceNeg, Int.reduceNe, decide_not, Bool.and_true, Bool.true_and, Bool.and_false, Bool.false_and, Bool.or_false, Bool.false_or, Bool.or_true, if_true, Bool.not_not, decide_eq_true, decide_eq_false, fe_get, fe_put, fe_len, upd_app])
    exact ⟨1, rfl⟩
  · skip
    refine pure_of_wk (call := noCall) (fn := Tryd.f92) (rs := [.tmp 2]) cokN noCall_ok (fns_cfg Tryd.func92 rfl) rfl rfl ?_
    intro env hl0 hargs
    have hn : env.length = 58 := hl0
    have h0 := hargs 0 _ rfl
    clear hargs hl0
    refine wkT_of ?_
    rw [fe_self hn]
    (try simp -dsimp (disch := omega) only [h0, len_s, wt_seq, wt_block, wt_region, wt_cond, wt_skip, wt_ret, wt_exit, wst_nil, wst_cons, wst_guard, andThen_normal, andThen_ret, andThen_exit, leave_normal, leave_ret, leave_exit, EndsA_ret, EndsA_normal, ot_move, ot_assign, ot_pick, ot_binOp, ot_unOp, ot_convert, ot_field, ot_index, ot_indexAddr, ot_fieldAddr, ot_slice, ot_build, ot_buildSlice, ot_extract, ot_makeInterface, ot_makeFunc, ot_nilCheck, ot_call, ot_len, ot_append, ot_box, ot_load, ot_store, ot_makeSlice, ot_alloc, ot_sliceData, ot_unsafeString, ct_bool, ct_true, ct_false, bt_some, gt_some, aval_tmp, aval_int, aval_bool, aval_str, aval_slice, aval_nilPointer, aval_nilIface, aval_func, aval_global, avals, apairs, bareP, AV.bare, AV.bares, bin_lss, bin_leq, bin_gtr, bin_geq, bin_eql, bin_neq, bin_add, bin_sub, bin_mul, toV_int, toV_bool, toV_string, un_neg, un_not, bin_str_eql, bin_str_neq, bin_str_lss, bin_str_leq, bin_str_gtr, bin_str_geq, aget_aput, length_aput, aput_none, Nat.reduceEqDiff, Nat.reduceLT, Nat.reduceAdd, ↓reduceIte, reduceCtorEq, Bool.not_false, Bool.not_true, Bool.true_or, true_and, Option.bind_some, Option.map_some, List.nil_append, List.cons_append, resA, resA1, resVal, Option.getD_some, Nat.reduceLeDiff, bnd_some, yieldA_eq, yldOf_some, boolOf_bool, boolOf_undef, gt_none, List.getElem?_toArray, List.getElem?_cons_succ, List.getElem?_cons_zero, bq_true, bq_false, decide_true, decide_false, Option.toList_none, Option.toList_some, List.head?_cons, List.head?_nil, nb_cfg, not_false_eq_true, cv_some, pm_some, pm_none, plainA_v, plain_bool, plain_int, plain_str, Bool.false_eq_true, if_false, Int.reduceLT, Int.reduceLE, Int.reduceEq, Int.reduceAdd, Int.reduceSub, Int.reduceMul, Int.reduceNeg, Int.reduceNe, decide_not, Bool.and_true, Bool.true_and, Bool.and_false, Bool.false_and, Bool.or_false, Bool.false_or, Bool.or_true, if_true, Bool.not_not, decide_eq_true, decide_eq_false, fe_get, fe_put, fe_len, upd_app])
    refine wt_loop (m := 4) (fun m e h => ∃ i n, i + m = 4 ∧ HrI l m i n e h) ?_ ?_
    · clear hn h0
      rintro m e h ⟨i, n, hi, hn, rfl, h0, h3, h4, hnl, heq⟩
      rw [fe_self hn]
      cases m with
      | zero =>
        obtain rfl : i = 4 := by omega
        have hz : hexRZ l = n := by unfold hexRZ; rw [← heq]; rfl
        rw [hz]
        (try simp -dsimp (disch := omega) only [h0, h3, h4, wt_seq, wt_block, wt_region, wt_cond, wt_skip, wt_ret, wt_exit, wst_nil, wst_cons, wst_guard, andThen_normal, andThen_ret, andThen_exit, leave_normal, leave_ret, leave_exit, EndsA_ret, EndsA_normal, ot_move, ot_assign, ot_pick, ot_binOp, ot_unOp, ot_convert, ot_field, ot_index, ot_indexAddr, ot_fieldAddr, ot_slice, ot_build, ot_buildSlice, ot_extract, ot_makeInterface, ot_makeFunc, ot_nilCheck, ot_call, ot_len, ot_append, ot_box, ot_load, ot_store, ot_makeSlice, ot_alloc, ot_sliceData, ot_unsafeString, ct_bool, ct_true, ct_false, bt_some, gt_some, aval_tmp, aval_int, aval_bool, aval_str, aval_slice, aval_nilPointer, aval_nilIface, aval_func, aval_global, avals, apairs, bareP, AV.bare, AV.bares, bin_lss, bin_leq, bin_gtr, bin_geq, bin_eql, bin_neq, bin_add, bin_sub, bin_mul, toV_int, toV_bool, toV_string, un_neg, un_not, bin_str_eql, bin_str_neq, bin_str_lss, bin_str_leq, bin_str_gtr, bin_str_geq, aget_aput, length_aput, aput_none, Nat.reduceEqDiff, Nat.reduceLT, Nat.reduceAdd, ↓reduceIte, reduceCtorEq, Bool.not_false, Bool.not_true, Bool.true_or, true_and, Option.bind_some, Option.map_some, List.nil_append, List.cons_append, resA, resA1, resVal, Option.getD_some, Nat.reduceLeDiff, bnd_some, yieldA_eq, yldOf_some, boolOf_bool, boolOf_undef, gt_none, List.getElem?_toArray, List.getElem?_cons_succ, List.getElem?_cons_zero, bq_true, bq_false, decide_true, decide_false, Option.toList_none, Option.toList_some, List.head?_cons, List.head?_nil, nb_cfg, not_false_eq_true, cv_some, pm_some, pm_none, plainA_v, plain_bool, plain_int, plain_str, Bool.false_eq_true, if_false, Int.reduceLT, Int.reduceLE, Int.reduceEq, Int.reduceAdd, Int.reduceSub, Int.reduceMul, Int.reduceNeg, Int.reduceNe, decide_not, Bool.and_true, Bool.true_and, Bool.and_false, Bool.false_and, Bool.or_false, Bool.false_or, Bool.or_true, if_true, Bool.not_not, decide_eq_true, decide_eq_false, fe_get, fe_put, fe_len, upd_app])
        exact ⟨1, rfl⟩
      | succ m =>
        obtain ⟨c, hc⟩ : ∃ c, l[i]? = some c := ⟨l[i]'(by omega), List.getElem?_eq_getElem (by omega)⟩
        have x0 : indexA (cfgP fun _ => none) 9 (str l) (.v (.int .i64 (i : Int))) = some (.v (.int .u8 ((c.toNat : Nat) : Int))) := ixl (k := i) rfl hc
        have hcl := UInt8.toNat_lt c
        have n16 : n < 65536 := Nat.lt_of_lt_of_le hnl (Nat.le_trans (Nat.pow_le_pow_right (by decide) (show i ≤ 4 by omega)) (by decide))
        have fin : ∀ (n' : Nat) (e' : Env) (d : Nat), digV c = some d → d < 16 → n' = n * 16 + d → e'.length = 58 → aget e' 0 = str l → aget e' 3 = .v (.int .i64 (n' : Int)) → aget e' 4 = .v (.int .i64 ((i + 1 : Nat) : Int)) → ∃ k, k < m + 1 ∧ ∃ i n, i + k = 4 ∧ HrI l k i n e' {} := by
          rintro n' e' d hd h16 rfl h1 h2 h3 h4
          refine ⟨m, by omega, i + 1, n * 16 + d, by omega, h1, rfl, h2, h3, h4, ?_, ?_⟩
          · rw [Nat.pow_succ]
            generalize 16 ^ i = P at *
            omega
          · rw [← heq]
            simp only [hexF, hc, hd]
        rw [show hexF l (m + 1) i n = match digV c with | none => (none, i + 1) | some d => hexF l m (i + 1) (n * 16 + d) by simp only [hexF, hc]; cases digV c <;> rfl] at heq
        have cls : (c.toNat < 48 ∨ (57 < c.toNat ∧ c.toNat < 65) ∨ (70 < c.toNat ∧ c.toNat < 97) ∨ 102 < c.toNat) ∨ (48 ≤ c.toNat ∧ c.toNat ≤ 57) ∨ (65 ≤ c.toNat ∧ c.toNat ≤ 70) ∨ (97 ≤ c.toNat ∧ c.toNat ≤ 102) := by omega
        rcases cls with cn | ⟨c1, c2⟩ | ⟨c1, c2⟩ | ⟨c1, c2⟩
        · have hd : digV c = none := by unfold digV; (repeat' split); all_goals first | rfl | omega
          rw [hd] at heq
          have hz : hexRZ l = -1 := by unfold hexRZ; rw [← heq]
          rw [hz]
          rcases cn with cn | ⟨cn, cm⟩ | ⟨cn, cm⟩ | cn
          all_goals (try simp -dsimp (disch := omega) only [h0, h3, h4, x0, wt_seq, wt_block, wt_region, wt_cond, wt_skip, wt_ret, wt_exit, wst_nil, wst_cons, wst_guard, andThen_normal, andThen_ret, andThen_exit, leave_normal, leave_ret, leave_exit, EndsA_ret, EndsA_normal, ot_move, ot_assign, ot_pick, ot_binOp, ot_unOp, ot_convert, ot_field, ot_index, ot_indexAddr, ot_fieldAddr, ot_slice, ot_build, ot_buildSlice, ot_extract, ot_makeInterface, ot_makeFunc, ot_nilCheck, ot_call, ot_len, ot_append, ot_box, ot_load, ot_store, ot_makeSlice, ot_alloc, ot_sliceData, ot_unsafeString, ct_bool, ct_true, ct_false, bt_some, gt_some, aval_tmp, aval_int, aval_bool, aval_str, aval_slice, aval_nilPointer, aval_nilIface, aval_func, aval_global, avals, apairs, bareP, AV.bare, AV.bares, bin_lss, bin_leq, bin_gtr, bin_geq, bin_eql, bin_neq, bin_add, bin_sub, bin_mul, toV_int, toV_bool, toV_string, un_neg, un_not, bin_str_eql, bin_str_neq, bin_str_lss, bin_str_leq, bin_str_gtr, bin_str_geq, aget_aput, length_aput, aput_none, Nat.reduceEqDiff, Nat.reduceLT, Nat.reduceAdd, ↓reduceIte, reduceCtorEq, Bool.not_false, Bool.not_true, Bool.true_or, true_and, Option.bind_some, Option.map_some, List.nil_append, List.cons_append, resA, resA1, resVal, Option.getD_some, Nat.reduceLeDiff, bnd_some, yieldA_eq, yldOf_some, boolOf_bool, boolOf_undef, gt_none, List.getElem?_toArray, List.getElem?_cons_succ, List.getElem?_cons_zero, bq_true, bq_false, decide_true, decide_false, Option.toList_none, Option.toList_some, List.head?_cons, List.head?_nil, nb_cfg, not_false_eq_true, cv_some, pm_some, pm_none, plainA_v, plain_bool, plain_int, plain_str, Bool.false_eq_true, if_false, Int.reduceLT, Int.reduceLE, Int.reduceEq, Int.reduceAdd, Int.reduceSub, Int.reduceMul, Int.reduceNeg, Int.reduceNe, decide_not, Bool.and_true, Bool.true_and, Bool.and_false, Bool.false_and, Bool.or_false, Bool.false_or, Bool.or_true, if_true, Bool.not_not, decide_eq_true, decide_eq_false, fe_get, fe_put, fe_len, upd_app])
          all_goals exact ⟨1, rfl⟩
        · have hd : digV c = some (c.toNat - 48) := by unfold digV; (repeat' split); all_goals first | rfl | omega
          (try simp -dsimp (disch := omega) only [h0, h3, h4, x0, bin_mulN, wrap8, wrap64, cv53i, wt_seq, wt_block, wt_region, wt_cond, wt_skip, wt_ret, wt_exit, wst_nil, wst_cons, wst_guard, andThen_normal, andThen_ret, andThen_exit, leave_normal, leave_ret, leave_exit, EndsA_ret, EndsA_normal, ot_move, ot_assign, ot_pick, ot_binOp, ot_unOp, ot_convert, ot_field, ot_index, ot_indexAddr, ot_fieldAddr, ot_slice, ot_build, ot_buildSlice, ot_extract, ot_makeInterface, ot_makeFunc, ot_nilCheck, ot_call, ot_len, ot_append, ot_box, ot_load, ot_store, ot_makeSlice, ot_alloc, ot_sliceData, ot_unsafeString, ct_bool, ct_true, ct_false, bt_some, gt_some, aval_tmp, aval_int, aval_bool, aval_str, aval_slice, aval_nilPointer, aval_nilIface, aval_func, aval_global, avals, apairs, bareP, AV.bare, AV.bares, bin_lss, bin_leq, bin_gtr, bin_geq, bin_eql, bin_neq, bin_add, bin_sub, bin_mul, toV_int, toV_bool, toV_string, un_neg, un_not, bin_str_eql, bin_str_neq, bin_str_lss, bin_str_leq, bin_str_gtr, bin_str_geq, aget_aput, length_aput, aput_none, Nat.reduceEqDiff, Nat.reduceLT, Nat.reduceAdd, ↓reduceIte, reduceCtorEq, Bool.not_false, Bool.not_true, Bool.true_or, true_and, Option.bind_some, Option.map_some, List.nil_append, List.cons_append, resA, resA1, resVal, Option.getD_some, Nat.reduceLeDiff, bnd_some, yieldA_eq, yldOf_some, boolOf_bool, boolOf_undef, gt_none, List.getElem?_toArray, List.getElem?_cons_succ, List.getElem?_cons_zero, bq_true, bq_false, decide_true, decide_false, Option.toList_none, Option.toList_some, List.head?_cons, List.head?_nil, nb_cfg, not_false_eq_true, cv_some, pm_some, pm_none, plainA_v, plain_bool, plain_int, plain_str, Bool.false_eq_true, if_false, Int.reduceLT, Int.reduceLE, Int.reduceEq, Int.reduceAdd, Int.reduceSub, Int.reduceMul, Int.reduceNeg, Int.reduceNe, decide_not, Bool.and_true, Bool.true_and, Bool.and_false, Bool.false_and, Bool.or_false, Bool.false_or, Bool.or_true, if_true, Bool.not_not, decide_eq_true, decide_eq_false, fe_get, fe_put, fe_len, upd_app])
          refine fin _ _ _ hd (by omega) rfl fe_len ?_ ?_ ?_
          all_goals (try simp -dsimp (disch := omega) only [h0, h3, h4, wt_seq, wt_block, wt_region, wt_cond, wt_skip, wt_ret, wt_exit, wst_nil, wst_cons, wst_guard, andThen_normal, andThen_ret, andThen_exit, leave_normal, leave_ret, leave_exit, EndsA_ret, EndsA_normal, ot_move, ot_assign, ot_pick, ot_binOp, ot_unOp, ot_convert, ot_field, ot_index, ot_indexAddr, ot_fieldAddr, ot_slice, ot_build, ot_buildSlice, ot_extract, ot_makeInterface, ot_makeFunc, ot_nilCheck, ot_call, ot_len, ot_append, ot_box, ot_load, ot_store, ot_makeSlice, ot_alloc, ot_sliceData, ot_unsafeString, ct_bool, ct_true, ct_false, bt_some, gt_some, aval_tmp, aval_int, aval_bool, aval_str, aval_slice, aval_nilPointer, aval_nilIface, aval_func, aval_global, avals, apairs, bareP, AV.bare, AV.bares, bin_lss, bin_leq, bin_gtr, bin_geq, bin_eql, bin_neq, bin_add, bin_sub, bin_mul, toV_int, toV_bool, toV_string, un_neg, un_not, bin_str_eql, bin_str_neq, bin_str_lss, bin_str_leq, bin_str_gtr, bin_str_geq, aget_aput, length_aput, aput_none, Nat.reduceEqDiff, Nat.reduceLT, Nat.reduceAdd, ↓reduceIte, reduceCtorEq, Bool.not_false, Bool.not_true, Bool.true_or, true_and, Option.bind_some, Option.map_some, List.nil_append, List.cons_append, resA, resA1, resVal, Option.getD_some, Nat.reduceLeDiff, bnd_some, yieldA_eq, yldOf_some, boolOf_bool, boolOf_undef, gt_none, List.getElem?_toArray, List.getElem?_cons_succ, List.getElem?_cons_zero, bq_true, bq_false, decide_true, decide_false, Option.toList_none, Option.toList_some, List.head?_cons, List.head?_nil, nb_cfg, not_false_eq_true, cv_some, pm_some, pm_none, plainA_v, plain_bool, plain_int, plain_str, Bool.false_eq_true, if_false, Int.reduceLT, Int.reduceLE, Int.reduceEq, Int.reduceAdd, Int.reduceSub, Int.reduceMul, Int.reduceNeg, Int.reduceNe, decide_not, Bool.and_true, Bool.true_and, Bool.and_false, Bool.false_and, Bool.or_false, Bool.false_or, Bool.or_true, if_true, Bool.not_not, decide_eq_true, decide_eq_false, fe_get, fe_put, fe_len, upd_app])
          · exact congrArg (fun z => AV.v (Value.int IntKind.i64 z)) (by omega)
          · rfl
        · have hd : digV c = some (c.toNat - 55) := by unfold digV; (repeat' split); all_goals first | rfl | omega
          (try simp -dsimp (disch := omega) only [h0, h3, h4, x0, bin_mulN, wrap8, wrap64, cv53i, wt_seq, wt_block, wt_region, wt_cond, wt_skip, wt_ret, wt_exit, wst_nil, wst_cons, wst_guard, andThen_normal, andThen_ret, andThen_exit, leave_normal, leave_ret, leave_exit, EndsA_ret, EndsA_normal, ot_move, ot_assign, ot_pick, ot_binOp, ot_unOp, ot_convert, ot_field, ot_index, ot_indexAddr, ot_fieldAddr, ot_slice, ot_build, ot_buildSlice, ot_extract, ot_makeInterface, ot_makeFunc, ot_nilCheck, ot_call, ot_len, ot_append, ot_box, ot_load, ot_store, ot_makeSlice, ot_alloc, ot_sliceData, ot_unsafeString, ct_bool, ct_true, ct_false, bt_some, gt_some, aval_tmp, aval_int, aval_bool, aval_str, aval_slice, aval_nilPointer, aval_nilIface, aval_func, aval_global, avals, apairs, bareP, AV.bare, AV.bares, bin_lss, bin_leq, bin_gtr, bin_geq, bin_eql, bin_neq, bin_add, bin_sub, bin_mul, toV_int, toV_bool, toV_string, un_neg, un_not, bin_str_eql, bin_str_neq, bin_str_lss, bin_str_leq, bin_str_gtr, bin_str_geq, aget_aput, length_aput, aput_none, Nat.reduceEqDiff, Nat.reduceLT, Nat.reduceAdd, ↓reduceIte, reduceCtorEq, Bool.not_false, Bool.not_true, Bool.true_or, true_and, Option.bind_some, Option.map_some, List.nil_append, List.cons_append, resA, resA1, resVal, Option.getD_some, Nat.reduceLeDiff, bnd_some, yieldA_eq, yldOf_some, boolOf_bool, boolOf_undef, gt_none, List.getElem?_toArray, List.getElem?_cons_succ, List.getElem?_cons_zero, bq_true, bq_false, decide_true, decide_false, Option.toList_none, Option.toList_some, List.head?_cons, List.head?_nil, nb_cfg, not_false_eq_true, cv_some, pm_some, pm_none, plainA_v, plain_bool, plain_int, plain_str, Bool.false_eq_true, if_false, Int.reduceLT, Int.reduceLE, Int.reduceEq, Int.reduceAdd, Int.reduceSub, Int.reduceMul, Int.reduceNeg, Int.reduceNe, decide_not, Bool.and_true, Bool.true_and, Bool.and_false, Bool.false_and, Bool.or_false, Bool.false_or, Bool.or_true, if_true, Bool.not_not, decide_eq_true, decide_eq_false, fe_get, fe_put, fe_len, upd_app])
          refine fin _ _ _ hd (by omega) rfl fe_len ?_ ?_ ?_
          all_goals (try simp -dsimp (disch := omega) only [h0, h3, h4, wt_seq, wt_block, wt_region, wt_cond, wt_skip, wt_ret, wt_exit, wst_nil, wst_cons, wst_guard, andThen_normal, andThen_ret, andThen_exit, leave_normal, leave_ret, leave_exit, EndsA_ret, EndsA_normal, ot_move, ot_assign, ot_pick, ot_binOp, ot_unOp, ot_convert, ot_field, ot_index, ot_indexAddr, ot_fieldAddr, ot_slice, ot_build, ot_buildSlice, ot_extract, ot_makeInterface, ot_makeFunc, ot_nilCheck, ot_call, ot_len, ot_append, ot_box, ot_load, ot_store, ot_makeSlice, ot_alloc, ot_sliceData, ot_unsafeString, ct_bool, ct_true, ct_false, bt_some, gt_some, aval_tmp, aval_int, aval_bool, aval_str, aval_slice, aval_nilPointer, aval_nilIface, aval_func, aval_global, avals, apairs, bareP, AV.bare, AV.bares, bin_lss, bin_leq, bin_gtr, bin_geq, bin_eql, bin_neq, bin_add, bin_sub, bin_mul, toV_int, toV_bool, toV_string, un_neg, un_not, bin_str_eql, bin_str_neq, bin_str_lss, bin_str_leq, bin_str_gtr, bin_str_geq, aget_aput, length_aput, aput_none, Nat.reduceEqDiff, Nat.reduceLT, Nat.reduceAdd, ↓reduceIte, reduceCtorEq, Bool.not_false, Bool.not_true, Bool.true_or, true_and, Option.bind_some, Option.map_some, List.nil_append, List.cons_append, resA, resA1, resVal, Option.getD_some, Nat.reduceLeDiff, bnd_some, yieldA_eq, yldOf_some, boolOf_bool, boolOf_undef, gt_none, List.getElem?_toArray, List.getElem?_cons_succ, List.getElem?_cons_zero, bq_true, bq_false, decide_true, decide_false, Option.toList_none, Option.toList_some, List.head?_cons, List.head?_nil, nb_cfg, not_false_eq_true, cv_some, pm_some, pm_none, plainA_v, plain_bool, plain_int, plain_str, Bool.false_eq_true, if_false, Int.reduceLT, Int.reduceLE, Int.reduceEq, Int.reduceAdd, Int.reduceSub, Int.reduceMul, Int.reduceNeg, Int.reduceNe, decide_not, Bool.and_true, Bool.true_and, Bool.and_false, Bool.false_and, Bool.or_false, Bool.false_or, Bool.or_true, if_true, Bool.not_not, decide_eq_true, decide_eq_false, fe_get, fe_put, fe_len, upd_app])
          · exact congrArg (fun z => AV.v (Value.int IntKind.i64 z)) (by omega)
          · rfl
        · have hd : digV c = some (c.toNat - 87) := by unfold digV; (repeat' split); all_goals first | rfl | omega
          (try simp -dsimp (disch := omega) only [h0, h3, h4, x0, bin_mulN, wrap8, wrap64, cv53i, wt_seq, wt_block, wt_region, wt_cond, wt_skip, wt_ret, wt_exit, wst_nil, wst_cons, wst_guard, andThen_normal, andThen_ret, andThen_exit, leave_normal, leave_ret, leave_exit, EndsA_ret, EndsA_normal, ot_move, ot_assign, ot_pick, ot_binOp, ot_unOp, ot_convert, ot_field, ot_index, ot_indexAddr, ot_fieldAddr, ot_slice, ot_build, ot_buildSlice, ot_extract, ot_makeInterface, ot_makeFunc, ot_nilCheck, ot_call, ot_len, ot_append, ot_box, ot_load, ot_store, ot_makeSlice, ot_alloc, ot_sliceData, ot_unsafeString, ct_bool, ct_true, ct_false, bt_some, gt_some, aval_tmp, aval_int, aval_bool, aval_str, aval_slice, aval_nilPointer, aval_nilIface, aval_func, aval_global, avals, apairs, bareP, AV.bare, AV.bares, bin_lss, bin_leq, bin_gtr, bin_geq, bin_eql, bin_neq, bin_add, bin_sub, bin_mul, toV_int, toV_bool, toV_string, un_neg, un_not, bin_str_eql, bin_str_neq, bin_str_lss, bin_str_leq, bin_str_gtr, bin_str_geq, aget_aput, length_aput, aput_none, Nat.reduceEqDiff, Nat.reduceLT, Nat.reduceAdd, ↓reduceIte, reduceCtorEq, Bool.not_false, Bool.not_true, Bool.true_or, true_and, Option.bind_some, Option.map_some, List.nil_append, List.cons_append, resA, resA1, resVal, Option.getD_some, Nat.reduceLeDiff, bnd_some, yieldA_eq, yldOf_some, boolOf_bool, boolOf_undef, gt_none, List.getElem?_toArray, List.getElem?_cons_succ, List.getElem?_cons_zero, bq_true, bq_false, decide_true, decide_false, Option.toList_none, Option.toList_some, List.head?_cons, List.head?_nil, nb_cfg, not_false_eq_true, cv_some, pm_some, pm_none, plainA_v, plain_bool, plain_int, plain_str, Bool.false_eq_true, if_false, Int.reduceLT, Int.reduceLE, Int.reduceEq, Int.reduceAdd, Int.reduceSub, Int.reduceMul, Int.reduceNeg, Int.reduceNe, decide_not, Bool.and_true, Bool.true_and, Bool.and_false, Bool.false_and, Bool.or_false, Bool.false_or, Bool.or_true, if_true, Bool.not_not, decide_eq_true, decide_eq_false, fe_get, fe_put, fe_len, upd_app])
          refine fin _ _ _ hd (by omega) rfl fe_len ?_ ?_ ?_
          all_goals (try simp -dsimp (disch := omega) only [h0, h3, h4, wt_seq, wt_block, wt_region, wt_cond, wt_skip, wt_ret, wt_exit, wst_nil, wst_cons, wst_guard, andThen_normal, andThen_ret, andThen_exit, leave_normal, leave_ret, leave_exit, EndsA_ret, EndsA_normal, ot_move, ot_assign, ot_pick, ot_binOp, ot_unOp, ot_convert, ot_field, ot_index, ot_indexAddr, ot_fieldAddr, ot_slice, ot_build, ot_buildSlice, ot_extract, ot_makeInterface, ot_makeFunc, ot_nilCheck, ot_call, ot_len, ot_append, ot_box, ot_load, ot_store, ot_makeSlice, ot_alloc, ot_sliceData, ot_unsafeString, ct_bool, ct_true, ct_false, bt_some, gt_some, aval_tmp, aval_int, aval_bool, aval_str, aval_slice, aval_nilPointer, aval_nilIface, aval_func, aval_global, avals, apairs, bareP, AV.bare, AV.bares, bin_lss, bin_leq, bin_gtr, bin_geq, bin_eql, bin_neq, bin_add, bin_sub, bin_mul, toV_int, toV_bool, toV_string, un_neg, un_not, bin_str_eql, bin_str_neq, bin_str_lss, bin_str_leq, bin_str_gtr, bin_str_geq, aget_aput, length_aput, aput_none, Nat.reduceEqDiff, Nat.reduceLT, Nat.reduceAdd, ↓reduceIte, reduceCtorEq, Bool.not_false, Bool.not_true, Bool.true_or, true_and, Option.bind_some, Option.map_some, List.nil_append, List.cons_append, resA, resA1, resVal, Option.getD_some, Nat.reduceLeDiff, bnd_some, yieldA_eq, yldOf_some, boolOf_bool, boolOf_undef, gt_none, List.getElem?_toArray, List.getElem?_cons_succ, List.getElem?_cons_zero, bq_true, bq_false, decide_true, decide_false, Option.toList_none, Option.toList_some, List.head?_cons, List.head?_nil, nb_cfg, not_false_eq_true, cv_some, pm_some, pm_none, plainA_v, plain_bool, plain_int, plain_str, Bool.false_eq_true, if_false, Int.reduceLT, Int.reduceLE, Int.reduceEq, Int.reduceAdd, Int.reduceSub, Int.reduceMul, Int.reduceNeg, Int.reduceNe, decide_not, Bool.and_true, Bool.true_and, Bool.and_false, Bool.false_and, Bool.or_false, Bool.false_or, Bool.or_true, if_true, Bool.not_not, decide_eq_true, decide_eq_false, fe_get, fe_put, fe_len, upd_app])
          · exact congrArg (fun z => AV.v (Value.int IntKind.i64 z)) (by omega)
          · rfl
    · refine ⟨0, 0, by omega, fe_len, rfl, ?_, ?_, ?_, by decide, rfl⟩
      all_goals (try simp -dsimp (disch := omega) only [h0, wt_seq, wt_block, wt_region, wt_cond, wt_skip, wt_ret, wt_exit, wst_nil, wst_cons, wst_guard, andThen_normal, andThen_ret, andThen_exit, leave_normal, leave_ret, leave_exit, EndsA_ret, EndsA_normal, ot_move, ot_assign, ot_pick, ot_binOp, ot_unOp, ot_convert, ot_field, ot_index, ot_indexAddr, ot_fieldAddr, ot_slice, ot_build, ot_buildSlice, ot_extract, ot_makeInterface, ot_makeFunc, ot_nilCheck, ot_call, ot_len, ot_append, ot_box, ot_load, ot_store, ot_makeSlice, ot_alloc, ot_sliceData, ot_unsafeString, ct_bool, ct_true, ct_false, bt_some, gt_some, aval_tmp, aval_int, aval_bool, aval_str, aval_slice, aval_nilPointer, aval_nilIface, aval_func, aval_global, avals, apairs, bareP, AV.bare, AV.bares, bin_lss, bin_leq, bin_gtr, bin_geq, bin_eql, bin_neq, bin_add, bin_sub, bin_mul, toV_int, toV_bool, toV_string, un_neg, un_not, bin_str_eql, bin_str_neq, bin_str_lss, bin_str_leq, bin_str_gtr, bin_str_geq, aget_aput, length_aput, aput_none, Nat.reduceEqDiff, Nat.reduceLT, Nat.reduceAdd, ↓reduceIte, reduceCtorEq, Bool.not_false, Bool.not_true, Bool.true_or, true_and, Option.bind_some, Option.map_some, List.nil_append, List.cons_append, resA, resA1, resVal, Option.getD_some, Nat.reduceLeDiff, bnd_some, yieldA_eq, yldOf_some, boolOf_bool, boolOf_undef, gt_none, List.getElem?_toArray, List.getElem?_cons_succ, List.getElem?_cons_zero, bq_true, bq_false, decide_true, decide_false, Option.toList_none, Option.toList_some, List.head?_cons, List.head?_nil, nb_cfg, not_false_eq_true, cv_some, pm_some, pm_none, plainA_v, plain_bool, plain_int, plain_str, Bool.false_eq_true, if_false, Int.reduceLT, Int.reduceLE, Int.reduceEq, Int.reduceAdd, Int.reduceSub, Int.reduceMul, Int.reduceNeg, Int.reduceNe, decide_not, Bool.and_true, Bool.true_and, Bool.and_false, Bool.false_and, Bool.or_false, Bool.false_or, Bool.or_true, if_true, Bool.not_not, decide_eq_true, decide_eq_false, fe_get, fe_put, fe_len, upd_app])
      all_goals rfl
def hexRP := s1P 4611686018427387904 fun l => .v (.int .i64 (hexRZ l))
theorem hexRP_eq {l : List UInt8} (h : l.length < 4611686018427387904) : hexRP [str l] = some (.v (.int .i64 (hexRZ l))) := s1P_eq h
/-- A slice of bytes as a contract hands it back. -/
def clB (l : List UInt8) : AV := .cl false (byts l)
theorem cv35 {prim : FuncId → Option (List AV → Option AV)} {n : Nat} (h : n < 256) : convA (cfgP prim) 3 5 (.v (.int .i64 (n : Int))) = some (.v (.int .u8 (n : Int))) := by
  rw [conv_int (C := cfgP prim) (j := .i64) (k' := .u8) (by kernel_rfl) (by kernel_rfl) (by kernel_rfl) (by kernel_rfl), wrap8 (by omega) (by omega)]
theorem byt_of {m : Nat} (h : m < 256) : (AV.v (.int .u8 (m : Int))) = byt (UInt8.ofNat m) := byt_nat h
theorem encR_1 {n : Nat} (h : n ≤ 127) : clB (encU n) = .cl false [.v (.int .u8 (n : Int))] := by
  unfold clB encU encN
  rw [if_pos h, byt_of (by omega)]
  rfl
theorem encR_2 {n : Nat} (h : 127 < n) (h2 : n ≤ 2047) : clB (encU n) = .cl false [.v (.int .u8 ((192 + n / 64 : Nat) : Int)), .v (.int .u8 ((128 + n % 64 : Nat) : Int))] := by
  unfold clB encU encN
  rw [if_neg (by omega), if_pos h2, byt_of (by omega), byt_of (by omega)]
  rfl
theorem encR_3 {n : Nat} (h : 2047 < n) (h2 : n ≤ 65535) : clB (encU n) = .cl false [.v (.int .u8 ((224 + n / 4096 : Nat) : Int)), .v (.int .u8 ((128 + n / 64 % 64 : Nat) : Int)), .v (.int .u8 ((128 + n % 64 : Nat) : Int))] := by
  unfold clB encU encN
  rw [if_neg (by omega), if_neg (by omega), if_pos h2, byt_of (by omega), byt_of (by omega), byt_of (by omega)]
  rfl
theorem encR_4 {n : Nat} (h : 65535 < n) (h2 : n < 2097152) : clB (encU n) = .cl false [.v (.int .u8 ((240 + n / 262144 : Nat) : Int)), .v (.int .u8 ((128 + n / 4096 % 64 : Nat) : Int)), .v (.int .u8 ((128 + n / 64 % 64 : Nat) : Int)), .v (.int .u8 ((128 + n % 64 : Nat) : Int))] := by
  unfold clB encU encN
  rw [if_neg (by omega), if_neg (by omega), if_neg (by omega), byt_of (by omega), byt_of (by omega), byt_of (by omega), byt_of (by omega)]
  rfl
set_option maxHeartbeats 4000000 in
set_option maxRecDepth 100000 in
theorem encR_ok (n : Nat) (h2 : n < 2097152) : PureOk (cfgP fun _ => none) 93 [.v (.int .i64 (n : Int))] (clB (encU n)) := by
  by_cases k1 : n ≤ 127
  · rw [encR_1 k1]
    refine pure_of_wk (call := noCall) (fn := Tryd.f93) (rs := [.tmp 2]) cokN noCall_ok (fns_cfg Tryd.func93 rfl) rfl rfl ?_
    intro env hl0 hargs
    have hn : env.length = 57 := hl0
    have h0 := hargs 0 _ rfl
    clear hargs hl0
    refine wkT_of ?_
    rw [fe_self hn]
    (try simp -dsimp (disch := omega) only [h0, cv35, bs1, wt_seq, wt_block, wt_region, wt_cond, wt_skip, wt_ret, wt_exit, wst_nil, wst_cons, wst_guard, andThen_normal, andThen_ret, andThen_exit, leave_normal, leave_ret, leave_exit, EndsA_ret, EndsA_normal, ot_move, ot_assign, ot_pick, ot_binOp, ot_unOp, ot_convert, ot_field, ot_index, ot_indexAddr, ot_fieldAddr, ot_slice, ot_build, ot_buildSlice, ot_extract, ot_makeInterface, ot_makeFunc, ot_nilCheck, ot_call, ot_len, ot_append, ot_box, ot_load, ot_store, ot_makeSlice, ot_alloc, ot_sliceData, ot_unsafeString, ct_bool, ct_true, ct_false, bt_some, gt_some, aval_tmp, aval_int, aval_bool, aval_str, aval_slice, aval_nilPointer, aval_nilIface, aval_func, aval_global, avals, apairs, bareP, AV.bare, AV.bares, bin_lss, bin_leq, bin_gtr, bin_geq, bin_eql, bin_neq, bin_add, bin_sub, bin_mul, toV_int, toV_bool, toV_string, un_neg, un_not, bin_str_eql, bin_str_neq, bin_str_lss, bin_str_leq, bin_str_gtr, bin_str_geq, aget_aput, length_aput, aput_none, Nat.reduceEqDiff, Nat.reduceLT, Nat.reduceAdd, ↓reduceIte, reduceCtorEq, Bool.not_false, Bool.not_true, Bool.true_or, true_and, Option.bind_some, Option.map_some, List.nil_append, List.cons_append, resA, resA1, resVal, Option.getD_some, Nat.reduceLeDiff, bnd_some, yieldA_eq, yldOf_some, boolOf_bool, boolOf_undef, gt_none, List.getElem?_toArray, List.getElem?_cons_succ, List.getElem?_cons_zero, bq_true, bq_false, decide_true, decide_false, Option.toList_none, Option.toList_some, List.head?_cons, List.head?_nil, nb_cfg, not_false_eq_true, cv_some, pm_some, pm_none, plainA_v, plain_bool, plain_int, plain_str, Bool.false_eq_true, if_false, Int.reduceLT, Int.reduceLE, Int.reduceEq, Int.reduceAdd, Int.reduceSub, Int.reduceMul, Int.reduceNeg, Int.reduceNe, decide_not, Bool.and_true, Bool.true_and, Bool.and_false, Bool.false_and, Bool.or_false, Bool.false_or, Bool.or_true, if_true, Bool.not_not, decide_eq_true, decide_eq_false, fe_get, fe_put, fe_len, upd_app])
    exact ⟨1, rfl⟩
  by_cases k2 : n ≤ 2047
  · rw [encR_2 (by omega) k2]
    refine pure_of_wk (call := noCall) (fn := Tryd.f93) (rs := [.tmp 2]) cokN noCall_ok (fns_cfg Tryd.func93 rfl) rfl rfl ?_
    intro env hl0 hargs
    have hn : env.length = 57 := hl0
    have h0 := hargs 0 _ rfl
    clear hargs hl0
    refine wkT_of ?_
    rw [fe_self hn]
    (try simp -dsimp (disch := omega) only [h0, cv35, bs2, br64_6, bo64_192, bo64_128, ba64_63, wt_seq, wt_block, wt_region, wt_cond, wt_skip, wt_ret, wt_exit, wst_nil, wst_cons, wst_guard, andThen_normal, andThen_ret, andThen_exit, leave_normal, leave_ret, leave_exit, EndsA_ret, EndsA_normal, ot_move, ot_assign, ot_pick, ot_binOp, ot_unOp, ot_convert, ot_field, ot_index, ot_indexAddr, ot_fieldAddr, ot_slice, ot_build, ot_buildSlice, ot_extract, ot_makeInterface, ot_makeFunc, ot_nilCheck, ot_call, ot_len, ot_append, ot_box, ot_load, ot_store, ot_makeSlice, ot_alloc, ot_sliceData, ot_unsafeString, ct_bool, ct_true, ct_false, bt_some, gt_some, aval_tmp, aval_int, aval_bool, aval_str, aval_slice, aval_nilPointer, aval_nilIface, aval_func, aval_global, avals, apairs, bareP, AV.bare, AV.bares, bin_lss, bin_leq, bin_gtr, bin_geq, bin_eql, bin_neq, bin_add, bin_sub, bin_mul, toV_int, toV_bool, toV_string, un_neg, un_not, bin_str_eql, bin_str_neq, bin_str_lss, bin_str_leq, bin_str_gtr, bin_str_geq, aget_aput, length_aput, aput_none, Nat.reduceEqDiff, Nat.reduceLT, Nat.reduceAdd, ↓reduceIte, reduceCtorEq, Bool.not_false, Bool.not_true, Bool.true_or, true_and, Option.bind_some, Option.map_some, List.nil_append, List.cons_append, resA, resA1, resVal, Option.getD_some, Nat.reduceLeDiff, bnd_some, yieldA_eq, yldOf_some, boolOf_bool, boolOf_undef, gt_none, List.getElem?_toArray, List.getElem?_cons_succ, List.getElem?_cons_zero, bq_true, bq_false, decide_true, decide_false, Option.toList_none, Option.toList_some, List.head?_cons, List.head?_nil, nb_cfg, not_false_eq_true, cv_some, pm_some, pm_none, plainA_v, plain_bool, plain_int, plain_str, Bool.false_eq_true, if_false, Int.reduceLT, Int.reduceLE, Int.reduceEq, Int.reduceAdd, Int.reduceSub, Int.reduceMul, Int.reduceNeg, Int.reduceNe, decide_not, Bool.and_true, Bool.true_and, Bool.and_false, Bool.false_and, Bool.or_false, Bool.false_or, Bool.or_true, if_true, Bool.not_not, decide_eq_true, decide_eq_false, fe_get, fe_put, fe_len, upd_app])
    exact ⟨1, rfl⟩
  by_cases k3 : n ≤ 65535
  · rw [encR_3 (by omega) k3]
    refine pure_of_wk (call := noCall) (fn := Tryd.f93) (rs := [.tmp 2]) cokN noCall_ok (fns_cfg Tryd.func93 rfl) rfl rfl ?_
    intro env hl0 hargs
    have hn : env.length = 57 := hl0
    have h0 := hargs 0 _ rfl
    clear hargs hl0
    refine wkT_of ?_
    rw [fe_self hn]
    (try simp -dsimp (disch := omega) only [h0, cv35, bs3, br64_6, br64_12, bo64_224, bo64_128, ba64_63, wt_seq, wt_block, wt_region, wt_cond, wt_skip, wt_ret, wt_exit, wst_nil, wst_cons, wst_guard, andThen_normal, andThen_ret, andThen_exit, leave_normal, leave_ret, leave_exit, EndsA_ret, EndsA_normal, ot_move, ot_assign, ot_pick, ot_binOp, ot_unOp, ot_convert, ot_field, ot_index, ot_indexAddr, ot_fieldAddr, ot_slice, ot_build, ot_buildSlice, ot_extract, ot_makeInterface, ot_makeFunc, ot_nilCheck, ot_call, ot_len, ot_append, ot_box, ot_load, ot_store, ot_makeSlice, ot_alloc, ot_sliceData, ot_unsafeString, ct_bool, ct_true, ct_false, bt_some, gt_some, aval_tmp, aval_int, aval_bool, aval_str, aval_slice, aval_nilPointer, aval_nilIface, aval_func, aval_global, avals, apairs, bareP, AV.bare, AV.bares, bin_lss, bin_leq, bin_gtr, bin_geq, bin_eql, bin_neq, bin_add, bin_sub, bin_mul, toV_int, toV_bool, toV_string, un_neg, un_not, bin_str_eql, bin_str_neq, bin_str_lss, bin_str_leq, bin_str_gtr, bin_str_geq, aget_aput, length_aput, aput_none, Nat.reduceEqDiff, Nat.reduceLT, Nat.reduceAdd, ↓reduceIte, reduceCtorEq, Bool.not_false, Bool.not_true, Bool.true_or, true_and, Option.bind_some, Option.map_some, List.nil_append, List.cons_append, resA, resA1, resVal, Option.getD_some, Nat.reduceLeDiff, bnd_some, yieldA_eq, yldOf_some, boolOf_bool, boolOf_undef, gt_none, List.getElem?_toArray, List.getElem?_cons_succ, List.getElem?_cons_zero, bq_true, bq_false, decide_true, decide_false, Option.toList_none, Option.toList_some, List.head?_cons, List.head?_nil, nb_cfg, not_false_eq_true, cv_some, pm_some, pm_none, plainA_v, plain_bool, plain_int, plain_str, Bool.false_eq_true, if_false, Int.reduceLT, Int.reduceLE, Int.reduceEq, Int.reduceAdd, Int.reduceSub, Int.reduceMul, Int.reduceNeg, Int.reduceNe, decide_not, Bool.and_true, Bool.true_and, Bool.and_false, Bool.false_and, Bool.or_false, Bool.false_or, Bool.or_true, if_true, Bool.not_not, decide_eq_true, decide_eq_false, fe_get, fe_put, fe_len, upd_app])
    exact ⟨1, rfl⟩
  rw [encR_4 (by omega) h2]
  refine pure_of_wk (call := noCall) (fn := Tryd.f93) (rs := [.tmp 2]) cokN noCall_ok (fns_cfg Tryd.func93 rfl) rfl rfl ?_
  intro env hl0 hargs
  have hn : env.length = 57 := hl0
  have h0 := hargs 0 _ rfl
  clear hargs hl0
  refine wkT_of ?_
  rw [fe_self hn]
  (try simp -dsimp (disch := omega) only [h0, cv35, bs4, br64_6, br64_12, br64_18, bo64_240, bo64_128, ba64_63, wt_seq, wt_block, wt_region, wt_cond, wt_skip, wt_ret, wt_exit, wst_nil, wst_cons, wst_guard, andThen_normal, andThen_ret, andThen_exit, leave_normal, leave_ret, leave_exit, EndsA_ret, EndsA_normal, ot_move, ot_assign, ot_pick, ot_binOp, ot_unOp, ot_convert, ot_field, ot_index, ot_indexAddr, ot_fieldAddr, ot_slice, ot_build, ot_buildSlice, ot_extract, ot_makeInterface, ot_makeFunc, ot_nilCheck, ot_call, ot_len, ot_append, ot_box, ot_load, ot_store, ot_makeSlice, ot_alloc, ot_sliceData, ot_unsafeString, ct_bool, ct_true, ct_false, bt_some, gt_some, aval_tmp, aval_int, aval_bool, aval_str, aval_slice, aval_nilPointer, aval_nilIface, aval_func, aval_global, avals, apairs, bareP, AV.bare, AV.bares, bin_lss, bin_leq, bin_gtr, bin_geq, bin_eql, bin_neq, bin_add, bin_sub, bin_mul, toV_int, toV_bool, toV_string, un_neg, un_not, bin_str_eql, bin_str_neq, bin_str_lss, bin_str_leq, bin_str_gtr, bin_str_geq, aget_aput, length_aput, aput_none, Nat.reduceEqDiff, Nat.reduceLT, Nat.reduceAdd, ↓reduceIte, reduceCtorEq, Bool.not_false, Bool.not_true, Bool.true_or, true_and, Option.bind_some, Option.map_some, List.nil_append, List.cons_append, resA, resA1, resVal, Option.getD_some, Nat.reduceLeDiff, bnd_some, yieldA_eq, yldOf_some, boolOf_bool, boolOf_undef, gt_none, List.getElem?_toArray, List.getElem?_cons_succ, List.getElem?_cons_zero, bq_true, bq_false, decide_true, decide_false, Option.toList_none, Option.toList_some, List.head?_cons, List.head?_nil, nb_cfg, not_false_eq_true, cv_some, pm_some, pm_none, plainA_v, plain_bool, plain_int, plain_str, Bool.false_eq_true, if_false, Int.reduceLT, Int.reduceLE, Int.reduceEq, Int.reduceAdd, Int.reduceSub, Int.reduceMul, Int.reduceNeg, Int.reduceNe, decide_not, Bool.and_true, Bool.true_and, Bool.and_false, Bool.false_and, Bool.or_false, Bool.false_or, Bool.or_true, if_true, Bool.not_not, decide_eq_true, decide_eq_false, fe_get, fe_put, fe_len, upd_app])
  exact ⟨1, rfl⟩
/-- One number. -/
def i1P (n : Nat) (g : Nat → AV) : List AV → Option AV
  | [.v (.int .i64 k)] => if k.toNat < n ∧ 0 ≤ k then some (g k.toNat) else none
  | _ => none
theorem i1P_eq {n : Nat} {g : Nat → AV} {k : Nat} (h : k < n) : i1P n g [.v (.int .i64 (k : Int))] = some (g k) := by
  have h' : ((k : Int)).toNat < n ∧ (0 : Int) ≤ (k : Int) := ⟨by rw [Int.toNat_natCast]; exact h, Int.natCast_nonneg _⟩
  simp only [i1P]
  rw [if_pos h', Int.toNat_natCast]
theorem i1P_of {n : Nat} {g : Nat → AV} {X : List AV → AV → Prop} (h : ∀ k : Nat, k < n → X [.v (.int .i64 (k : Int))] (g k)) : ∀ xs r, i1P n g xs = some r → X xs r := by
  intro xs r hx
  unfold i1P at hx
  split at hx
  · rename_i k
    split at hx
    · rename_i hk
      injection hx with hx; subst hx
      have := h k.toNat (by omega)
      rwa [show ((k.toNat : Nat) : Int) = k by omega] at this
    · cases hx
  · cases hx
def encRP := i1P 2097152 fun n => clB (encU n)
theorem encRP_eq {n : Nat} (h : n < 2097152) : encRP [.v (.int .i64 (n : Int))] = some (clB (encU n)) := i1P_eq h
def ur5 : FuncId → Option (List AV → Option AV) := tab [(92, hexRP), (93, encRP)]
theorem ur5_ok : (cfgP ur5).Ok := cfg_ok (tab_ok ⟨prim_at Tryd.func92 (by kernel_rfl) rfl ((s1P_of fun l h => hexR_ok l (by omega))), prim_at Tryd.func93 (by kernel_rfl) rfl ((i1P_of encR_ok)), trivial⟩)
theorem ur5_92 : (cfgP ur5).prim 92 = some hexRP := rfl
theorem ur5_93 : (cfgP ur5).prim 93 = some encRP := rfl
end Go.Proofs.YtjejeijldllloaaDoor

/- Chapter 1, the document's: an escape. -/
namespace Go.Proofs.YtjejeijldllloaaDoor
open Go.AM
def escR (s : List UInt8) : Option (List UInt8 × Nat) := match s[0]? with
  | none => none
  | some c => match longN c.toNat with
    | some x => some ([UInt8.ofNat x], 1)
    | none => if c.toNat = 117 then (match (hexF (s.drop 1) 4 0 0).1 with
        | none => none
        | some n => if 56320 ≤ n ∧ n < 57344 then none else if n < 55296 ∨ 57344 ≤ n then some (encU n, 5)
          else if 11 ≤ s.length ∧ s[5]? = some 92 ∧ s[6]? = some 117 then (match (hexF (s.drop 7) 4 0 0).1 with
            | some m => if 56320 ≤ m ∧ m < 57344 then some (encU (65536 + (n - 55296) * 1024 + (m - 56320)), 11) else none
            | none => none) else none) else none
def escRV (s : List UInt8) : AV := match escR s with
  | some (x, n) => .tup [clB x, .v (.int .i64 (n : Int))]
  | none => .tup [.v (.slice none 0 0), .v (.int .i64 0)]
theorem hexRZ_eq (l : List UInt8) : hexRZ l = match (hexF l 4 0 0).1 with | some n => (n : Int) | none => -1 := rfl
theorem hexF_16 {l : List UInt8} {n : Nat} (h : (hexF l 4 0 0).1 = some n) : n < 65536 := by
  have := hexF_lt l 4 0 0 n h
  omega
set_option maxHeartbeats 8000000 in
set_option maxRecDepth 100000 in
theorem escR_u (s : List UInt8) (hs : s.length < 2 ^ 61) (c : UInt8) (e0 : s[0]? = some c) (hu : c.toNat = 117) : PureOk (cfgP ur5) 61 [str s] (escRV s) := by
  have hcl := UInt8.toNat_lt c
  have hlen : 0 < s.length := (List.getElem?_eq_some_iff.1 e0).1
  have x0 := ix0 (prim := ur5) e0
  have hd1 : (s.drop 1).length < 4611686018427387904 := by rw [List.length_drop]; omega
  have q := hexRP_eq hd1
  have sl : sliceA (cfgP ur5) 9 (str s) (some (.v (.int .i64 1))) none none = some (str (s.drop 1)) := sliceD (i := 1) (by omega)
  have hz := hexRZ_eq (s.drop 1)
  have hv : escR s = (match (hexF (s.drop 1) 4 0 0).1 with
    | none => none
    | some n => if 56320 ≤ n ∧ n < 57344 then none else if n < 55296 ∨ 57344 ≤ n then some (encU n, 5)
      else if 11 ≤ s.length ∧ s[5]? = some 92 ∧ s[6]? = some 117 then (match (hexF (s.drop 7) 4 0 0).1 with
        | some m => if 56320 ≤ m ∧ m < 57344 then some (encU (65536 + (n - 55296) * 1024 + (m - 56320)), 11) else none
        | none => none) else none) := by
    unfold escR
    rw [e0]
    simp only [hu]
    rfl
  unfold escRV
  rw [hv]
  cases hn : (hexF (s.drop 1) 4 0 0).1 with
  | none =>
    rw [hn] at hz
    simp only at hz ⊢
    rw [hz] at q
    refine pure_of_wk (call := noCall) (fn := Tryd.f61) (rs := [.tmp 2, .tmp 3]) ur5_ok noCall_ok (fns_cfg Tryd.func61 rfl) rfl rfl ?_
    intro env hl0 hargs
    have hn : env.length = 86 := hl0
    have h0 := hargs 0 _ rfl
    clear hargs hl0
    refine wkT_of ?_
    rw [fe_self hn]
    (try simp -dsimp (disch := omega) only [h0, len_s, x0, sl, ct_prim ur5_92, bare_s, q, wt_seq, wt_block, wt_region, wt_cond, wt_skip, wt_ret, wt_exit, wst_nil, wst_cons, wst_guard, andThen_normal, andThen_ret, andThen_exit, leave_normal, leave_ret, leave_exit, EndsA_ret, EndsA_normal, ot_move, ot_assign, ot_pick, ot_binOp, ot_unOp, ot_convert, ot_field, ot_index, ot_indexAddr, ot_fieldAddr, ot_slice, ot_build, ot_buildSlice, ot_extract, ot_makeInterface, ot_makeFunc, ot_nilCheck, ot_call, ot_len, ot_append, ot_box, ot_load, ot_store, ot_makeSlice, ot_alloc, ot_sliceData, ot_unsafeString, ct_bool, ct_true, ct_false, bt_some, gt_some, aval_tmp, aval_int, aval_bool, aval_str, aval_slice, aval_nilPointer, aval_nilIface, aval_func, aval_global, avals, apairs, bareP, AV.bare, AV.bares, bin_lss, bin_leq, bin_gtr, bin_geq, bin_eql, bin_neq, bin_add, bin_sub, bin_mul, toV_int, toV_bool, toV_string, un_neg, un_not, bin_str_eql, bin_str_neq, bin_str_lss, bin_str_leq, bin_str_gtr, bin_str_geq, aget_aput, length_aput, aput_none, Nat.reduceEqDiff, Nat.reduceLT, Nat.reduceAdd, ↓reduceIte, reduceCtorEq, Bool.not_false, Bool.not_true, Bool.true_or, true_and, Option.bind_some, Option.map_some, List.nil_append, List.cons_append, resA, resA1, resVal, Option.getD_some, Nat.reduceLeDiff, bnd_some, yieldA_eq, yldOf_some, boolOf_bool, boolOf_undef, gt_none, List.getElem?_toArray, List.getElem?_cons_succ, List.getElem?_cons_zero, bq_true, bq_false, decide_true, decide_false, Option.toList_none, Option.toList_some, List.head?_cons, List.head?_nil, nb_cfg, not_false_eq_true, cv_some, pm_some, pm_none, plainA_v, plain_bool, plain_int, plain_str, Bool.false_eq_true, if_false, Int.reduceLT, Int.reduceLE, Int.reduceEq, Int.reduceAdd, Int.reduceSub, Int.reduceMul, Int.reduceNeg, Int.reduceNe, decide_not, Bool.and_true, Bool.true_and, Bool.and_false, Bool.false_and, Bool.or_false, Bool.false_or, Bool.or_true, if_true, Bool.not_not, decide_eq_true, decide_eq_false, fe_get, fe_put, fe_len, upd_app])
    exact ⟨5, rfl⟩
  | some n =>
    have h16 := hexF_16 hn
    rw [hn] at hz
    simp only at hz ⊢
    rw [hz] at q
    by_cases k1 : 56320 ≤ n ∧ n < 57344
    · rw [if_pos k1]
      obtain ⟨k1, k1'⟩ := k1
      refine pure_of_wk (call := noCall) (fn := Tryd.f61) (rs := [.tmp 2, .tmp 3]) ur5_ok noCall_ok (fns_cfg Tryd.func61 rfl) rfl rfl ?_
      intro env hl0 hargs
      have hn : env.length = 86 := hl0
      have h0 := hargs 0 _ rfl
      clear hargs hl0
      refine wkT_of ?_
      rw [fe_self hn]
      (try simp -dsimp (disch := omega) only [h0, len_s, x0, sl, ct_prim ur5_92, bare_s, q, wt_seq, wt_block, wt_region, wt_cond, wt_skip, wt_ret, wt_exit, wst_nil, wst_cons, wst_guard, andThen_normal, andThen_ret, andThen_exit, leave_normal, leave_ret, leave_exit, EndsA_ret, EndsA_normal, ot_move, ot_assign, ot_pick, ot_binOp, ot_unOp, ot_convert, ot_field, ot_index, ot_indexAddr, ot_fieldAddr, ot_slice, ot_build, ot_buildSlice, ot_extract, ot_makeInterface, ot_makeFunc, ot_nilCheck, ot_call, ot_len, ot_append, ot_box, ot_load, ot_store, ot_makeSlice, ot_alloc, ot_sliceData, ot_unsafeString, ct_bool, ct_true, ct_false, bt_some, gt_some, aval_tmp, aval_int, aval_bool, aval_str, aval_slice, aval_nilPointer, aval_nilIface, aval_func, aval_global, avals, apairs, bareP, AV.bare, AV.bares, bin_lss, bin_leq, bin_gtr, bin_geq, bin_eql, bin_neq, bin_add, bin_sub, bin_mul, toV_int, toV_bool, toV_string, un_neg, un_not, bin_str_eql, bin_str_neq, bin_str_lss, bin_str_leq, bin_str_gtr, bin_str_geq, aget_aput, length_aput, aput_none, Nat.reduceEqDiff, Nat.reduceLT, Nat.reduceAdd, ↓reduceIte, reduceCtorEq, Bool.not_false, Bool.not_true, Bool.true_or, true_and, Option.bind_some, Option.map_some, List.nil_append, List.cons_append, resA, resA1, resVal, Option.getD_some, Nat.reduceLeDiff, bnd_some, yieldA_eq, yldOf_some, boolOf_bool, boolOf_undef, gt_none, List.getElem?_toArray, List.getElem?_cons_succ, List.getElem?_cons_zero, bq_true, bq_false, decide_true, decide_false, Option.toList_none, Option.toList_some, List.head?_cons, List.head?_nil, nb_cfg, not_false_eq_true, cv_some, pm_some, pm_none, plainA_v, plain_bool, plain_int, plain_str, Bool.false_eq_true, if_false, Int.reduceLT, Int.reduceLE, Int.reduceEq, Int.reduceAdd, Int.reduceSub, Int.reduceMul, Int.reduceNeg, Int.reduceNe, decide_not, Bool.and_true, Bool.true_and, Bool.and_false, Bool.false_and, Bool.or_false, Bool.false_or, Bool.or_true, if_true, Bool.not_not, decide_eq_true, decide_eq_false, fe_get, fe_put, fe_len, upd_app])
      exact ⟨5, rfl⟩
    rw [if_neg k1]
    by_cases k2 : n < 55296 ∨ 57344 ≤ n
    · rw [if_pos k2]
      have q2 := encRP_eq (n := n) (by omega)
      obtain ⟨z, hz2⟩ : ∃ z, encU n = z := ⟨_, rfl⟩
      rw [hz2] at q2 ⊢
      rcases k2 with k2 | k2
      · skip
        refine pure_of_wk (call := noCall) (fn := Tryd.f61) (rs := [.tmp 2, .tmp 3]) ur5_ok noCall_ok (fns_cfg Tryd.func61 rfl) rfl rfl ?_
        intro env hl0 hargs
        have hn : env.length = 86 := hl0
        have h0 := hargs 0 _ rfl
        clear hargs hl0
        refine wkT_of ?_
        rw [fe_self hn]
        (try simp -dsimp (disch := omega) only [h0, len_s, x0, sl, ct_prim ur5_92, ct_prim ur5_93, bare_s, q, q2, wt_seq, wt_block, wt_region, wt_cond, wt_skip, wt_ret, wt_exit, wst_nil, wst_cons, wst_guard, andThen_normal, andThen_ret, andThen_exit, leave_normal, leave_ret, leave_exit, EndsA_ret, EndsA_normal, ot_move, ot_assign, ot_pick, ot_binOp, ot_unOp, ot_convert, ot_field, ot_index, ot_indexAddr, ot_fieldAddr, ot_slice, ot_build, ot_buildSlice, ot_extract, ot_makeInterface, ot_makeFunc, ot_nilCheck, ot_call, ot_len, ot_append, ot_box, ot_load, ot_store, ot_makeSlice, ot_alloc, ot_sliceData, ot_unsafeString, ct_bool, ct_true, ct_false, bt_some, gt_some, aval_tmp, aval_int, aval_bool, aval_str, aval_slice, aval_nilPointer, aval_nilIface, aval_func, aval_global, avals, apairs, bareP, AV.bare, AV.bares, bin_lss, bin_leq, bin_gtr, bin_geq, bin_eql, bin_neq, bin_add, bin_sub, bin_mul, toV_int, toV_bool, toV_string, un_neg, un_not, bin_str_eql, bin_str_neq, bin_str_lss, bin_str_leq, bin_str_gtr, bin_str_geq, aget_aput, length_aput, aput_none, Nat.reduceEqDiff, Nat.reduceLT, Nat.reduceAdd, ↓reduceIte, reduceCtorEq, Bool.not_false, Bool.not_true, Bool.true_or, true_and, Option.bind_some, Option.map_some, List.nil_append, List.cons_append, resA, resA1, resVal, Option.getD_some, Nat.reduceLeDiff, bnd_some, yieldA_eq, yldOf_some, boolOf_bool, boolOf_undef, gt_none, List.getElem?_toArray, List.getElem?_cons_succ, List.getElem?_cons_zero, bq_true, bq_false, decide_true, decide_false, Option.toList_none, Option.toList_some, List.head?_cons, List.head?_nil, nb_cfg, not_false_eq_true, cv_some, pm_some, pm_none, plainA_v, plain_bool, plain_int, plain_str, Bool.false_eq_true, if_false, Int.reduceLT, Int.reduceLE, Int.reduceEq, Int.reduceAdd, Int.reduceSub, Int.reduceMul, Int.reduceNeg, Int.reduceNe, decide_not, Bool.and_true, Bool.true_and, Bool.and_false, Bool.false_and, Bool.or_false, Bool.false_or, Bool.or_true, if_true, Bool.not_not, decide_eq_true, decide_eq_false, fe_get, fe_put, fe_len, upd_app])
        exact ⟨5, rfl⟩
      · skip
        refine pure_of_wk (call := noCall) (fn := Tryd.f61) (rs := [.tmp 2, .tmp 3]) ur5_ok noCall_ok (fns_cfg Tryd.func61 rfl) rfl rfl ?_
        intro env hl0 hargs
        have hn : env.length = 86 := hl0
        have h0 := hargs 0 _ rfl
        clear hargs hl0
        refine wkT_of ?_
        rw [fe_self hn]
        (try simp -dsimp (disch := omega) only [h0, len_s, x0, sl, ct_prim ur5_92, ct_prim ur5_93, bare_s, q, q2, wt_seq, wt_block, wt_region, wt_cond, wt_skip, wt_ret, wt_exit, wst_nil, wst_cons, wst_guard, andThen_normal, andThen_ret, andThen_exit, leave_normal, leave_ret, leave_exit, EndsA_ret, EndsA_normal, ot_move, ot_assign, ot_pick, ot_binOp, ot_unOp, ot_convert, ot_field, ot_index, ot_indexAddr, ot_fieldAddr, ot_slice, ot_build, ot_buildSlice, ot_extract, ot_makeInterface, ot_makeFunc, ot_nilCheck, ot_call, ot_len, ot_append, ot_box, ot_load, ot_store, ot_makeSlice, ot_alloc, ot_sliceData, ot_unsafeString, ct_bool, ct_true, ct_false, bt_some, gt_some, aval_tmp, aval_int, aval_bool, aval_str, aval_slice, aval_nilPointer, aval_nilIface, aval_func, aval_global, avals, apairs, bareP, AV.bare, AV.bares, bin_lss, bin_leq, bin_gtr, bin_geq, bin_eql, bin_neq, bin_add, bin_sub, bin_mul, toV_int, toV_bool, toV_string, un_neg, un_not, bin_str_eql, bin_str_neq, bin_str_lss, bin_str_leq, bin_str_gtr, bin_str_geq, aget_aput, length_aput, aput_none, Nat.reduceEqDiff, Nat.reduceLT, Nat.reduceAdd, ↓reduceIte, reduceCtorEq, Bool.not_false, Bool.not_true, Bool.true_or, true_and, Option.bind_some, Option.map_some, List.nil_append, List.cons_append, resA, resA1, resVal, Option.getD_some, Nat.reduceLeDiff, bnd_some, yieldA_eq, yldOf_some, boolOf_bool, boolOf_undef, gt_none, List.getElem?_toArray, List.getElem?_cons_succ, List.getElem?_cons_zero, bq_true, bq_false, decide_true, decide_false, Option.toList_none, Option.toList_some, List.head?_cons, List.head?_nil, nb_cfg, not_false_eq_true, cv_some, pm_some, pm_none, plainA_v, plain_bool, plain_int, plain_str, Bool.false_eq_true, if_false, Int.reduceLT, Int.reduceLE, Int.reduceEq, Int.reduceAdd, Int.reduceSub, Int.reduceMul, Int.reduceNeg, Int.reduceNe, decide_not, Bool.and_true, Bool.true_and, Bool.and_false, Bool.false_and, Bool.or_false, Bool.false_or, Bool.or_true, if_true, Bool.not_not, decide_eq_true, decide_eq_false, fe_get, fe_put, fe_len, upd_app])
        exact ⟨5, rfl⟩
    rw [if_neg k2]
    have k3 : 55296 ≤ n := by omega
    have k4 : n < 56320 := by omega
    by_cases kl : s.length < 11
    · rw [if_neg (by omega)]
      refine pure_of_wk (call := noCall) (fn := Tryd.f61) (rs := [.tmp 2, .tmp 3]) ur5_ok noCall_ok (fns_cfg Tryd.func61 rfl) rfl rfl ?_
      intro env hl0 hargs
      have hn : env.length = 86 := hl0
      have h0 := hargs 0 _ rfl
      clear hargs hl0
      refine wkT_of ?_
      rw [fe_self hn]
      (try simp -dsimp (disch := omega) only [h0, len_s, x0, sl, ct_prim ur5_92, bare_s, q, wt_seq, wt_block, wt_region, wt_cond, wt_skip, wt_ret, wt_exit, wst_nil, wst_cons, wst_guard, andThen_normal, andThen_ret, andThen_exit, leave_normal, leave_ret, leave_exit, EndsA_ret, EndsA_normal, ot_move, ot_assign, ot_pick, ot_binOp, ot_unOp, ot_convert, ot_field, ot_index, ot_indexAddr, ot_fieldAddr, ot_slice, ot_build, ot_buildSlice, ot_extract, ot_makeInterface, ot_makeFunc, ot_nilCheck, ot_call, ot_len, ot_append, ot_box, ot_load, ot_store, ot_makeSlice, ot_alloc, ot_sliceData, ot_unsafeString, ct_bool, ct_true, ct_false, bt_some, gt_some, aval_tmp, aval_int, aval_bool, aval_str, aval_slice, aval_nilPointer, aval_nilIface, aval_func, aval_global, avals, apairs, bareP, AV.bare, AV.bares, bin_lss, bin_leq, bin_gtr, bin_geq, bin_eql, bin_neq, bin_add, bin_sub, bin_mul, toV_int, toV_bool, toV_string, un_neg, un_not, bin_str_eql, bin_str_neq, bin_str_lss, bin_str_leq, bin_str_gtr, bin_str_geq, aget_aput, length_aput, aput_none, Nat.reduceEqDiff, Nat.reduceLT, Nat.reduceAdd, ↓reduceIte, reduceCtorEq, Bool.not_false, Bool.not_true, Bool.true_or, true_and, Option.bind_some, Option.map_some, List.nil_append, List.cons_append, resA, resA1, resVal, Option.getD_some, Nat.reduceLeDiff, bnd_some, yieldA_eq, yldOf_some, boolOf_bool, boolOf_undef, gt_none, List.getElem?_toArray, List.getElem?_cons_succ, List.getElem?_cons_zero, bq_true, bq_false, decide_true, decide_false, Option.toList_none, Option.toList_some, List.head?_cons, List.head?_nil, nb_cfg, not_false_eq_true, cv_some, pm_some, pm_none, plainA_v, plain_bool, plain_int, plain_str, Bool.false_eq_true, if_false, Int.reduceLT, Int.reduceLE, Int.reduceEq, Int.reduceAdd, Int.reduceSub, Int.reduceMul, Int.reduceNeg, Int.reduceNe, decide_not, Bool.and_true, Bool.true_and, Bool.and_false, Bool.false_and, Bool.or_false, Bool.false_or, Bool.or_true, if_true, Bool.not_not, decide_eq_true, decide_eq_false, fe_get, fe_put, fe_len, upd_app])
      exact ⟨5, rfl⟩
    obtain ⟨c5, hc5⟩ : ∃ c, s[5]? = some c := ⟨s[5]'(by omega), List.getElem?_eq_getElem (by omega)⟩
    obtain ⟨c6, hc6⟩ : ∃ c, s[6]? = some c := ⟨s[6]'(by omega), List.getElem?_eq_getElem (by omega)⟩
    have x5 : indexA (cfgP ur5) 9 (str s) (.v (.int .i64 5)) = some (.v (.int .u8 ((c5.toNat : Nat) : Int))) := ixl (k := 5) rfl hc5
    have x6 : indexA (cfgP ur5) 9 (str s) (.v (.int .i64 6)) = some (.v (.int .u8 ((c6.toNat : Nat) : Int))) := ixl (k := 6) rfl hc6
    by_cases k5 : c5.toNat ≠ 92
    · rw [if_neg (by rintro ⟨_, h, _⟩; rw [hc5] at h; injection h with h; rw [h] at k5; exact k5 rfl)]
      refine pure_of_wk (call := noCall) (fn := Tryd.f61) (rs := [.tmp 2, .tmp 3]) ur5_ok noCall_ok (fns_cfg Tryd.func61 rfl) rfl rfl ?_
      intro env hl0 hargs
      have hn : env.length = 86 := hl0
      have h0 := hargs 0 _ rfl
      clear hargs hl0
      refine wkT_of ?_
      rw [fe_self hn]
      (try simp -dsimp (disch := omega) only [h0, len_s, x0, x5, sl, ct_prim ur5_92, bare_s, q, wt_seq, wt_block, wt_region, wt_cond, wt_skip, wt_ret, wt_exit, wst_nil, wst_cons, wst_guard, andThen_normal, andThen_ret, andThen_exit, leave_normal, leave_ret, leave_exit, EndsA_ret, EndsA_normal, ot_move, ot_assign, ot_pick, ot_binOp, ot_unOp, ot_convert, ot_field, ot_index, ot_indexAddr, ot_fieldAddr, ot_slice, ot_build, ot_buildSlice, ot_extract, ot_makeInterface, ot_makeFunc, ot_nilCheck, ot_call, ot_len, ot_append, ot_box, ot_load, ot_store, ot_makeSlice, ot_alloc, ot_sliceData, ot_unsafeString, ct_bool, ct_true, ct_false, bt_some, gt_some, aval_tmp, aval_int, aval_bool, aval_str, aval_slice, aval_nilPointer, aval_nilIface, aval_func, aval_global, avals, apairs, bareP, AV.bare, AV.bares, bin_lss, bin_leq, bin_gtr, bin_geq, bin_eql, bin_neq, bin_add, bin_sub, bin_mul, toV_int, toV_bool, toV_string, un_neg, un_not, bin_str_eql, bin_str_neq, bin_str_lss, bin_str_leq, bin_str_gtr, bin_str_geq, aget_aput, length_aput, aput_none, Nat.reduceEqDiff, Nat.reduceLT, Nat.reduceAdd, ↓reduceIte, reduceCtorEq, Bool.not_false, Bool.not_true, Bool.true_or, true_and, Option.bind_some, Option.map_some, List.nil_append, List.cons_append, resA, resA1, resVal, Option.getD_some, Nat.reduceLeDiff, bnd_some, yieldA_eq, yldOf_some, boolOf_bool, boolOf_undef, gt_none, List.getElem?_toArray, List.getElem?_cons_succ, List.getElem?_cons_zero, bq_true, bq_false, decide_true, decide_false, Option.toList_none, Option.toList_some, List.head?_cons, List.head?_nil, nb_cfg, not_false_eq_true, cv_some, pm_some, pm_none, plainA_v, plain_bool, plain_int, plain_str, Bool.false_eq_true, if_false, Int.reduceLT, Int.reduceLE, Int.reduceEq, Int.reduceAdd, Int.reduceSub, Int.reduceMul, Int.reduceNeg, Int.reduceNe, decide_not, Bool.and_true, Bool.true_and, Bool.and_false, Bool.false_and, Bool.or_false, Bool.false_or, Bool.or_true, if_true, Bool.not_not, decide_eq_true, decide_eq_false, fe_get, fe_put, fe_len, upd_app])
      exact ⟨5, rfl⟩
    replace k5 : c5.toNat = 92 := by omega
    by_cases k6 : c6.toNat ≠ 117
    · rw [if_neg (by rintro ⟨_, _, h⟩; rw [hc6] at h; injection h with h; rw [h] at k6; exact k6 rfl)]
      refine pure_of_wk (call := noCall) (fn := Tryd.f61) (rs := [.tmp 2, .tmp 3]) ur5_ok noCall_ok (fns_cfg Tryd.func61 rfl) rfl rfl ?_
      intro env hl0 hargs
      have hn : env.length = 86 := hl0
      have h0 := hargs 0 _ rfl
      clear hargs hl0
      refine wkT_of ?_
      rw [fe_self hn]
      (try simp -dsimp (disch := omega) only [h0, len_s, x0, x5, x6, sl, ct_prim ur5_92, bare_s, q, wt_seq, wt_block, wt_region, wt_cond, wt_skip, wt_ret, wt_exit, wst_nil, wst_cons, wst_guard, andThen_normal, andThen_ret, andThen_exit, leave_normal, leave_ret, leave_exit, EndsA_ret, EndsA_normal, ot_move, ot_assign, ot_pick, ot_binOp, ot_unOp, ot_convert, ot_field, ot_index, ot_indexAddr, ot_fieldAddr, ot_slice, ot_build, ot_buildSlice, ot_extract, ot_makeInterface, ot_makeFunc, ot_nilCheck, ot_call, ot_len, ot_append, ot_box, ot_load, ot_store, ot_makeSlice, ot_alloc, ot_sliceData, ot_unsafeString, ct_bool, ct_true, ct_false, bt_some, gt_some, aval_tmp, aval_int, aval_bool, aval_str, aval_slice, aval_nilPointer, aval_nilIface, aval_func, aval_global, avals, apairs, bareP, AV.bare, AV.bares, bin_lss, bin_leq, bin_gtr, bin_geq, bin_eql, bin_neq, bin_add, bin_sub, bin_mul, toV_int, toV_bool, toV_string, un_neg, un_not, bin_str_eql, bin_str_neq, bin_str_lss, bin_str_leq, bin_str_gtr, bin_str_geq, aget_aput, length_aput, aput_none, Nat.reduceEqDiff, Nat.reduceLT, Nat.reduceAdd, ↓reduceIte, reduceCtorEq, Bool.not_false, Bool.not_true, Bool.true_or, true_and, Option.bind_some, Option.map_some, List.nil_append, List.cons_append, resA, resA1, resVal, Option.getD_some, Nat.reduceLeDiff, bnd_some, yieldA_eq, yldOf_some, boolOf_bool, boolOf_undef, gt_none, List.getElem?_toArray, List.getElem?_cons_succ, List.getElem?_cons_zero, bq_true, bq_false, decide_true, decide_false, Option.toList_none, Option.toList_some, List.head?_cons, List.head?_nil, nb_cfg, not_false_eq_true, cv_some, pm_some, pm_none, plainA_v, plain_bool, plain_int, plain_str, Bool.false_eq_true, if_false, Int.reduceLT, Int.reduceLE, Int.reduceEq, Int.reduceAdd, Int.reduceSub, Int.reduceMul, Int.reduceNeg, Int.reduceNe, decide_not, Bool.and_true, Bool.true_and, Bool.and_false, Bool.false_and, Bool.or_false, Bool.false_or, Bool.or_true, if_true, Bool.not_not, decide_eq_true, decide_eq_false, fe_get, fe_put, fe_len, upd_app])
      exact ⟨5, rfl⟩
    replace k6 : c6.toNat = 117 := by omega
    rw [if_pos ⟨by omega, by rw [hc5]; exact congrArg some (UInt8.toNat_inj.1 k5), by rw [hc6]; exact congrArg some (UInt8.toNat_inj.1 k6)⟩]
    have hd7 : (s.drop 7).length < 4611686018427387904 := by rw [List.length_drop]; omega
    have q7 := hexRP_eq hd7
    have sl7 : sliceA (cfgP ur5) 9 (str s) (some (.v (.int .i64 7))) none none = some (str (s.drop 7)) := sliceD (i := 7) (by omega)
    have hz7 := hexRZ_eq (s.drop 7)
    cases hm : (hexF (s.drop 7) 4 0 0).1 with
    | none =>
      rw [hm] at hz7
      simp only at hz7 ⊢
      rw [hz7] at q7
      refine pure_of_wk (call := noCall) (fn := Tryd.f61) (rs := [.tmp 2, .tmp 3]) ur5_ok noCall_ok (fns_cfg Tryd.func61 rfl) rfl rfl ?_
      intro env hl0 hargs
      have hn : env.length = 86 := hl0
      have h0 := hargs 0 _ rfl
      clear hargs hl0
      refine wkT_of ?_
      rw [fe_self hn]
      (try simp -dsimp (disch := omega) only [h0, len_s, x0, x5, x6, sl, sl7, ct_prim ur5_92, bare_s, q, q7, wt_seq, wt_block, wt_region, wt_cond, wt_skip, wt_ret, wt_exit, wst_nil, wst_cons, wst_guard, andThen_normal, andThen_ret, andThen_exit, leave_normal, leave_ret, leave_exit, EndsA_ret, EndsA_normal, ot_move, ot_assign, ot_pick, ot_binOp, ot_unOp, ot_convert, ot_field, ot_index, ot_indexAddr, ot_fieldAddr, ot_slice, ot_build, ot_buildSlice, ot_extract, ot_makeInterface, ot_makeFunc, ot_nilCheck, ot_call, ot_len, ot_append, ot_box, ot_load, ot_store, ot_makeSlice, ot_alloc, ot_sliceData, ot_unsafeString, ct_bool, ct_true, ct_false, bt_some, gt_some, aval_tmp, aval_int, aval_bool, aval_str, aval_slice, aval_nilPointer, aval_nilIface, aval_func, aval_global, avals, apairs, bareP, AV.bare, AV.bares, bin_lss, bin_leq, bin_gtr, bin_geq, bin_eql, bin_neq, bin_add, bin_sub, bin_mul, toV_int, toV_bool, toV_string, un_neg, un_not, bin_str_eql, bin_str_neq, bin_str_lss, bin_str_leq, bin_str_gtr, bin_str_geq, aget_aput, length_aput, aput_none, Nat.reduceEqDiff, Nat.reduceLT, Nat.reduceAdd, ↓reduceIte, reduceCtorEq, Bool.not_false, Bool.not_true, Bool.true_or, true_and, Option.bind_some, Option.map_some, List.nil_append, List.cons_append, resA, resA1, resVal, Option.getD_some, Nat.reduceLeDiff, bnd_some, yieldA_eq, yldOf_some, boolOf_bool, boolOf_undef, gt_none, List.getElem?_toArray, List.getElem?_cons_succ, List.getElem?_cons_zero, bq_true, bq_false, decide_true, decide_false, Option.toList_none, Option.toList_some, List.head?_cons, List.head?_nil, nb_cfg, not_false_eq_true, cv_some, pm_some, pm_none, plainA_v, plain_bool, plain_int, plain_str, Bool.false_eq_true, if_false, Int.reduceLT, Int.reduceLE, Int.reduceEq, Int.reduceAdd, Int.reduceSub, Int.reduceMul, Int.reduceNeg, Int.reduceNe, decide_not, Bool.and_true, Bool.true_and, Bool.and_false, Bool.false_and, Bool.or_false, Bool.false_or, Bool.or_true, if_true, Bool.not_not, decide_eq_true, decide_eq_false, fe_get, fe_put, fe_len, upd_app])
      exact ⟨5, rfl⟩
    | some m =>
      have m16 := hexF_16 hm
      rw [hm] at hz7
      simp only at hz7 ⊢
      rw [hz7] at q7
      by_cases k7 : 56320 ≤ m ∧ m < 57344
      · rw [if_pos k7]
        obtain ⟨k7, k8⟩ := k7
        have q2 : encRP [.v (.int .i64 (65536 + (((n - 55296) * 1024 : Nat) : Int) + (m : Int) - 56320))] = some (clB (encU (65536 + (n - 55296) * 1024 + (m - 56320)))) := by
          rw [show (65536 + (((n - 55296) * 1024 : Nat) : Int) + (m : Int) - 56320) = ((65536 + (n - 55296) * 1024 + (m - 56320) : Nat) : Int) by omega]
          exact encRP_eq (by omega)
        have hsub : ((n : Int) - 55296) = ((n - 55296 : Nat) : Int) := by omega
        obtain ⟨z, hz2⟩ : ∃ z, encU (65536 + (n - 55296) * 1024 + (m - 56320)) = z := ⟨_, rfl⟩
        rw [hz2] at q2 ⊢
        obtain ⟨k, hk⟩ : ∃ k, n - 55296 = k := ⟨_, rfl⟩
        rw [hk] at q2 hsub
        refine pure_of_wk (call := noCall) (fn := Tryd.f61) (rs := [.tmp 2, .tmp 3]) ur5_ok noCall_ok (fns_cfg Tryd.func61 rfl) rfl rfl ?_
        intro env hl0 hargs
        have hn : env.length = 86 := hl0
        have h0 := hargs 0 _ rfl
        clear hargs hl0
        refine wkT_of ?_
        rw [fe_self hn]
        (try simp -dsimp (disch := omega) only [h0, len_s, x0, x5, x6, sl, sl7, ct_prim ur5_92, ct_prim ur5_93, bare_s, q, q7, wrap64, hsub, bl64_10, q2, wt_seq, wt_block, wt_region, wt_cond, wt_skip, wt_ret, wt_exit, wst_nil, wst_cons, wst_guard, andThen_normal, andThen_ret, andThen_exit, leave_normal, leave_ret, leave_exit, EndsA_ret, EndsA_normal, ot_move, ot_assign, ot_pick, ot_binOp, ot_unOp, ot_convert, ot_field, ot_index, ot_indexAddr, ot_fieldAddr, ot_slice, ot_build, ot_buildSlice, ot_extract, ot_makeInterface, ot_makeFunc, ot_nilCheck, ot_call, ot_len, ot_append, ot_box, ot_load, ot_store, ot_makeSlice, ot_alloc, ot_sliceData, ot_unsafeString, ct_bool, ct_true, ct_false, bt_some, gt_some, aval_tmp, aval_int, aval_bool, aval_str, aval_slice, aval_nilPointer, aval_nilIface, aval_func, aval_global, avals, apairs, bareP, AV.bare, AV.bares, bin_lss, bin_leq, bin_gtr, bin_geq, bin_eql, bin_neq, bin_add, bin_sub, bin_mul, toV_int, toV_bool, toV_string, un_neg, un_not, bin_str_eql, bin_str_neq, bin_str_lss, bin_str_leq, bin_str_gtr, bin_str_geq, aget_aput, length_aput, aput_none, Nat.reduceEqDiff, Nat.reduceLT, Nat.reduceAdd, ↓reduceIte, reduceCtorEq, Bool.not_false, Bool.not_true, Bool.true_or, true_and, Option.bind_some, Option.map_some, List.nil_append, List.cons_append, resA, resA1, resVal, Option.getD_some, Nat.reduceLeDiff, bnd_some, yieldA_eq, yldOf_some, boolOf_bool, boolOf_undef, gt_none, List.getElem?_toArray, List.getElem?_cons_succ, List.getElem?_cons_zero, bq_true, bq_false, decide_true, decide_false, Option.toList_none, Option.toList_some, List.head?_cons, List.head?_nil, nb_cfg, not_false_eq_true, cv_some, pm_some, pm_none, plainA_v, plain_bool, plain_int, plain_str, Bool.false_eq_true, if_false, Int.reduceLT, Int.reduceLE, Int.reduceEq, Int.reduceAdd, Int.reduceSub, Int.reduceMul, Int.reduceNeg, Int.reduceNe, decide_not, Bool.and_true, Bool.true_and, Bool.and_false, Bool.false_and, Bool.or_false, Bool.false_or, Bool.or_true, if_true, Bool.not_not, decide_eq_true, decide_eq_false, fe_get, fe_put, fe_len, upd_app])
        exact ⟨5, rfl⟩
      · rw [if_neg k7]
        have k8 : m < 56320 ∨ 57344 ≤ m := by omega
        rcases k8 with k8 | k8
        · skip
          refine pure_of_wk (call := noCall) (fn := Tryd.f61) (rs := [.tmp 2, .tmp 3]) ur5_ok noCall_ok (fns_cfg Tryd.func61 rfl) rfl rfl ?_
          intro env hl0 hargs
          have hn : env.length = 86 := hl0
          have h0 := hargs 0 _ rfl
          clear hargs hl0
          refine wkT_of ?_
          rw [fe_self hn]
          (try simp -dsimp (disch := omega) only [h0, len_s, x0, x5, x6, sl, sl7, ct_prim ur5_92, bare_s, q, q7, wt_seq, wt_block, wt_region, wt_cond, wt_skip, wt_ret, wt_exit, wst_nil, wst_cons, wst_guard, andThen_normal, andThen_ret, andThen_exit, leave_normal, leave_ret, leave_exit, EndsA_ret, EndsA_normal, ot_move, ot_assign, ot_pick, ot_binOp, ot_unOp, ot_convert, ot_field, ot_index, ot_indexAddr, ot_fieldAddr, ot_slice, ot_build, ot_buildSlice, ot_extract, ot_makeInterface, ot_makeFunc, ot_nilCheck, ot_call, ot_len, ot_append, ot_box, ot_load, ot_store, ot_makeSlice, ot_alloc, ot_sliceData, ot_unsafeString, ct_bool, ct_true, ct_false, bt_some, gt_some, aval_tmp, aval_int, aval_bool, aval_str, aval_slice, aval_nilPointer, aval_nilIface, aval_func, aval_global, avals, apairs, bareP, AV.bare, AV.bares, bin_lss, bin_leq, bin_gtr, bin_geq, bin_eql, bin_neq, bin_add, bin_sub, bin_mul, toV_int, toV_bool, toV_string, un_neg, un_not, bin_str_eql, bin_str_neq, bin_str_lss, bin_str_leq, bin_str_gtr, bin_str_geq, aget_aput, length_aput, aput_none, Nat.reduceEqDiff, Nat.reduceLT, Nat.reduceAdd, ↓reduceIte, reduceCtorEq, Bool.not_false, Bool.not_true, Bool.true_or, true_and, Option.bind_some, Option.map_some, List.nil_append, List.cons_append, resA, resA1, resVal, Option.getD_some, Nat.reduceLeDiff, bnd_some, yieldA_eq, yldOf_some, boolOf_bool, boolOf_undef, gt_none, List.getElem?_toArray, List.getElem?_cons_succ, List.getElem?_cons_zero, bq_true, bq_false, decide_true, decide_false, Option.toList_none, Option.toList_some, List.head?_cons, List.head?_nil, nb_cfg, not_false_eq_true, cv_some, pm_some, pm_none, plainA_v, plain_bool, plain_int, plain_str, Bool.false_eq_true, if_false, Int.reduceLT, Int.reduceLE, Int.reduceEq, Int.reduceAdd, Int.reduceSub, Int.reduceMul, Int.reduceNeg, Int.reduceNe, decide_not, Bool.and_true, Bool.true_and, Bool.and_false, Bool.false_and, Bool.or_false, Bool.false_or, Bool.or_true, if_true, Bool.not_not, decide_eq_true, decide_eq_false, fe_get, fe_put, fe_len, upd_app])
          exact ⟨5, rfl⟩
        · skip
          refine pure_of_wk (call := noCall) (fn := Tryd.f61) (rs := [.tmp 2, .tmp 3]) ur5_ok noCall_ok (fns_cfg Tryd.func61 rfl) rfl rfl ?_
          intro env hl0 hargs
          have hn : env.length = 86 := hl0
          have h0 := hargs 0 _ rfl
          clear hargs hl0
          refine wkT_of ?_
          rw [fe_self hn]
          (try simp -dsimp (disch := omega) only [h0, len_s, x0, x5, x6, sl, sl7, ct_prim ur5_92, bare_s, q, q7, wt_seq, wt_block, wt_region, wt_cond, wt_skip, wt_ret, wt_exit, wst_nil, wst_cons, wst_guard, andThen_normal, andThen_ret, andThen_exit, leave_normal, leave_ret, leave_exit, EndsA_ret, EndsA_normal, ot_move, ot_assign, ot_pick, ot_binOp, ot_unOp, ot_convert, ot_field, ot_index, ot_indexAddr, ot_fieldAddr, ot_slice, ot_build, ot_buildSlice, ot_extract, ot_makeInterface, ot_makeFunc, ot_nilCheck, ot_call, ot_len, ot_append, ot_box, ot_load, ot_store, ot_makeSlice, ot_alloc, ot_sliceData, ot_unsafeString, ct_bool, ct_true, ct_false, bt_some, gt_some, aval_tmp, aval_int, aval_bool, aval_str, aval_slice, aval_nilPointer, aval_nilIface, aval_func, aval_global, avals, apairs, bareP, AV.bare, AV.bares, bin_lss, bin_leq, bin_gtr, bin_geq, bin_eql, bin_neq, bin_add, bin_sub, bin_mul, toV_int, toV_bool, toV_string, un_neg, un_not, bin_str_eql, bin_str_neq, bin_str_lss, bin_str_leq, bin_str_gtr, bin_str_geq, aget_aput, length_aput, aput_none, Nat.reduceEqDiff, Nat.reduceLT, Nat.reduceAdd, ↓reduceIte, reduceCtorEq, Bool.not_false, Bool.not_true, Bool.true_or, true_and, Option.bind_some, Option.map_some, List.nil_append, List.cons_append, resA, resA1, resVal, Option.getD_some, Nat.reduceLeDiff, bnd_some, yieldA_eq, yldOf_some, boolOf_bool, boolOf_undef, gt_none, List.getElem?_toArray, List.getElem?_cons_succ, List.getElem?_cons_zero, bq_true, bq_false, decide_true, decide_false, Option.toList_none, Option.toList_some, List.head?_cons, List.head?_nil, nb_cfg, not_false_eq_true, cv_some, pm_some, pm_none, plainA_v, plain_bool, plain_int, plain_str, Bool.false_eq_true, if_false, Int.reduceLT, Int.reduceLE, Int.reduceEq, Int.reduceAdd, Int.reduceSub, Int.reduceMul, Int.reduceNeg, Int.reduceNe, decide_not, Bool.and_true, Bool.true_and, Bool.and_false, Bool.false_and, Bool.or_false, Bool.false_or, Bool.or_true, if_true, Bool.not_not, decide_eq_true, decide_eq_false, fe_get, fe_put, fe_len, upd_app])
          exact ⟨5, rfl⟩
set_option maxHeartbeats 8000000 in
set_option maxRecDepth 100000 in
theorem escR_ok (s : List UInt8) (hs : s.length < 2 ^ 61) : PureOk (cfgP ur5) 61 [str s] (escRV s) := by
  cases e0 : s[0]? with
  | none =>
    have hl : s.length = 0 := by rw [List.getElem?_eq_none_iff] at e0; omega
    have hv : escRV s = .tup [.v (.slice none 0 0), .v (.int .i64 0)] := by unfold escRV escR; rw [e0]
    rw [hv]
    refine pure_of_wk (call := noCall) (fn := Tryd.f61) (rs := [.tmp 2, .tmp 3]) ur5_ok noCall_ok (fns_cfg Tryd.func61 rfl) rfl rfl ?_
    intro env hl0 hargs
    have hn : env.length = 86 := hl0
    have h0 := hargs 0 _ rfl
    clear hargs hl0
    refine wkT_of ?_
    rw [fe_self hn]
    (try simp -dsimp (disch := omega) only [h0, len_s, wt_seq, wt_block, wt_region, wt_cond, wt_skip, wt_ret, wt_exit, wst_nil, wst_cons, wst_guard, andThen_normal, andThen_ret, andThen_exit, leave_normal, leave_ret, leave_exit, EndsA_ret, EndsA_normal, ot_move, ot_assign, ot_pick, ot_binOp, ot_unOp, ot_convert, ot_field, ot_index, ot_indexAddr, ot_fieldAddr, ot_slice, ot_build, ot_buildSlice, ot_extract, ot_makeInterface, ot_makeFunc, ot_nilCheck, ot_call, ot_len, ot_append, ot_box, ot_load, ot_store, ot_makeSlice, ot_alloc, ot_sliceData, ot_unsafeString, ct_bool, ct_true, ct_false, bt_some, gt_some, aval_tmp, aval_int, aval_bool, aval_str, aval_slice, aval_nilPointer, aval_nilIface, aval_func, aval_global, avals, apairs, bareP, AV.bare, AV.bares, bin_lss, bin_leq, bin_gtr, bin_geq, bin_eql, bin_neq, bin_add, bin_sub, bin_mul, toV_int, toV_bool, toV_string, un_neg, un_not, bin_str_eql, bin_str_neq, bin_str_lss, bin_str_leq, bin_str_gtr, bin_str_geq, aget_aput, length_aput, aput_none, Nat.reduceEqDiff, Nat.reduceLT, Nat.reduceAdd, ↓reduceIte, reduceCtorEq, Bool.not_false, Bool.not_true, Bool.true_or, true_and, Option.bind_some, Option.map_some, List.nil_append, List.cons_append, resA, resA1, resVal, Option.getD_some, Nat.reduceLeDiff, bnd_some, yieldA_eq, yldOf_some, boolOf_bool, boolOf_undef, gt_none, List.getElem?_toArray, List.getElem?_cons_succ, List.getElem?_cons_zero, bq_true, bq_false, decide_true, decide_false, Option.toList_none, Option.toList_some, List.head?_cons, List.head?_nil, nb_cfg, not_false_eq_true, cv_some, pm_some, pm_none, plainA_v, plain_bool, plain_int, plain_str, Bool.false_eq_true, if_false, Int.reduceLT, Int.reduceLE, Int.reduceEq, Int.reduceAdd, Int.reduceSub, Int.reduceMul, Int.reduceNeg, Int.reduceNe, decide_not, Bool.and_true, Bool.true_and, Bool.and_false, Bool.false_and, Bool.or_false, Bool.false_or, Bool.or_true, if_true, Bool.not_not, decide_eq_true, decide_eq_false, fe_get, fe_put, fe_len, upd_app])
    exact ⟨5, rfl⟩
  | some c =>
    have hcl := UInt8.toNat_lt c
    have hlen : 0 < s.length := (List.getElem?_eq_some_iff.1 e0).1
    have x0 := ix0 (prim := ur5) e0
    by_cases hq : c.toNat = 34 ∨ c.toNat = 92 ∨ c.toNat = 47
    · have hv : escRV s = .tup [.cl false [.v (.int .u8 ((c.toNat : Nat) : Int))], .v (.int .i64 1)] := by
        unfold escRV escR
        rw [e0]
        rcases hq with hq | hq | hq <;> (simp only [hq]; rfl)
      rw [hv]
      rcases hq with hq | hq | hq
      all_goals skip
      · skip
        refine pure_of_wk (call := noCall) (fn := Tryd.f61) (rs := [.tmp 2, .tmp 3]) ur5_ok noCall_ok (fns_cfg Tryd.func61 rfl) rfl rfl ?_
        intro env hl0 hargs
        have hn : env.length = 86 := hl0
        have h0 := hargs 0 _ rfl
        clear hargs hl0
        refine wkT_of ?_
        rw [fe_self hn]
        (try simp -dsimp (disch := omega) only [h0, len_s, x0, bs1, wt_seq, wt_block, wt_region, wt_cond, wt_skip, wt_ret, wt_exit, wst_nil, wst_cons, wst_guard, andThen_normal, andThen_ret, andThen_exit, leave_normal, leave_ret, leave_exit, EndsA_ret, EndsA_normal, ot_move, ot_assign, ot_pick, ot_binOp, ot_unOp, ot_convert, ot_field, ot_index, ot_indexAddr, ot_fieldAddr, ot_slice, ot_build, ot_buildSlice, ot_extract, ot_makeInterface, ot_makeFunc, ot_nilCheck, ot_call, ot_len, ot_append, ot_box, ot_load, ot_store, ot_makeSlice, ot_alloc, ot_sliceData, ot_unsafeString, ct_bool, ct_true, ct_false, bt_some, gt_some, aval_tmp, aval_int, aval_bool, aval_str, aval_slice, aval_nilPointer, aval_nilIface, aval_func, aval_global, avals, apairs, bareP, AV.bare, AV.bares, bin_lss, bin_leq, bin_gtr, bin_geq, bin_eql, bin_neq, bin_add, bin_sub, bin_mul, toV_int, toV_bool, toV_string, un_neg, un_not, bin_str_eql, bin_str_neq, bin_str_lss, bin_str_leq, bin_str_gtr, bin_str_geq, aget_aput, length_aput, aput_none, Nat.reduceEqDiff, Nat.reduceLT, Nat.reduceAdd, ↓reduceIte, reduceCtorEq, Bool.not_false, Bool.not_true, Bool.true_or, true_and, Option.bind_some, Option.map_some, List.nil_append, List.cons_append, resA, resA1, resVal, Option.getD_some, Nat.reduceLeDiff, bnd_some, yieldA_eq, yldOf_some, boolOf_bool, boolOf_undef, gt_none, List.getElem?_toArray, List.getElem?_cons_succ, List.getElem?_cons_zero, bq_true, bq_false, decide_true, decide_false, Option.toList_none, Option.toList_some, List.head?_cons, List.head?_nil, nb_cfg, not_false_eq_true, cv_some, pm_some, pm_none, plainA_v, plain_bool, plain_int, plain_str, Bool.false_eq_true, if_false, Int.reduceLT, Int.reduceLE, Int.reduceEq, Int.reduceAdd, Int.reduceSub, Int.reduceMul, Int.reduceNeg, Int.reduceNe, decide_not, Bool.and_true, Bool.true_and, Bool.and_false, Bool.false_and, Bool.or_false, Bool.false_or, Bool.or_true, if_true, Bool.not_not, decide_eq_true, decide_eq_false, fe_get, fe_put, fe_len, upd_app])
        exact ⟨5, rfl⟩
      · skip
        refine pure_of_wk (call := noCall) (fn := Tryd.f61) (rs := [.tmp 2, .tmp 3]) ur5_ok noCall_ok (fns_cfg Tryd.func61 rfl) rfl rfl ?_
        intro env hl0 hargs
        have hn : env.length = 86 := hl0
        have h0 := hargs 0 _ rfl
        clear hargs hl0
        refine wkT_of ?_
        rw [fe_self hn]
        (try simp -dsimp (disch := omega) only [h0, len_s, x0, bs1, wt_seq, wt_block, wt_region, wt_cond, wt_skip, wt_ret, wt_exit, wst_nil, wst_cons, wst_guard, andThen_normal, andThen_ret, andThen_exit, leave_normal, leave_ret, leave_exit, EndsA_ret, EndsA_normal, ot_move, ot_assign, ot_pick, ot_binOp, ot_unOp, ot_convert, ot_field, ot_index, ot_indexAddr, ot_fieldAddr, ot_slice, ot_build, ot_buildSlice, ot_extract, ot_makeInterface, ot_makeFunc, ot_nilCheck, ot_call, ot_len, ot_append, ot_box, ot_load, ot_store, ot_makeSlice, ot_alloc, ot_sliceData, ot_unsafeString, ct_bool, ct_true, ct_false, bt_some, gt_some, aval_tmp, aval_int, aval_bool, aval_str, aval_slice, aval_nilPointer, aval_nilIface, aval_func, aval_global, avals, apairs, bareP, AV.bare, AV.bares, bin_lss, bin_leq, bin_gtr, bin_geq, bin_eql, bin_neq, bin_add, bin_sub, bin_mul, toV_int, toV_bool, toV_string, un_neg, un_not, bin_str_eql, bin_str_neq, bin_str_lss, bin_str_leq, bin_str_gtr, bin_str_geq, aget_aput, length_aput, aput_none, Nat.reduceEqDiff, Nat.reduceLT, Nat.reduceAdd, ↓reduceIte, reduceCtorEq, Bool.not_false, Bool.not_true, Bool.true_or, true_and, Option.bind_some, Option.map_some, List.nil_append, List.cons_append, resA, resA1, resVal, Option.getD_some, Nat.reduceLeDiff, bnd_some, yieldA_eq, yldOf_some, boolOf_bool, boolOf_undef, gt_none, List.getElem?_toArray, List.getElem?_cons_succ, List.getElem?_cons_zero, bq_true, bq_false, decide_true, decide_false, Option.toList_none, Option.toList_some, List.head?_cons, List.head?_nil, nb_cfg, not_false_eq_true, cv_some, pm_some, pm_none, plainA_v, plain_bool, plain_int, plain_str, Bool.false_eq_true, if_false, Int.reduceLT, Int.reduceLE, Int.reduceEq, Int.reduceAdd, Int.reduceSub, Int.reduceMul, Int.reduceNeg, Int.reduceNe, decide_not, Bool.and_true, Bool.true_and, Bool.and_false, Bool.false_and, Bool.or_false, Bool.false_or, Bool.or_true, if_true, Bool.not_not, decide_eq_true, decide_eq_false, fe_get, fe_put, fe_len, upd_app])
        exact ⟨5, rfl⟩
      · skip
        refine pure_of_wk (call := noCall) (fn := Tryd.f61) (rs := [.tmp 2, .tmp 3]) ur5_ok noCall_ok (fns_cfg Tryd.func61 rfl) rfl rfl ?_
        intro env hl0 hargs
        have hn : env.length = 86 := hl0
        have h0 := hargs 0 _ rfl
        clear hargs hl0
        refine wkT_of ?_
        rw [fe_self hn]
        (try simp -dsimp (disch := omega) only [h0, len_s, x0, bs1, wt_seq, wt_block, wt_region, wt_cond, wt_skip, wt_ret, wt_exit, wst_nil, wst_cons, wst_guard, andThen_normal, andThen_ret, andThen_exit, leave_normal, leave_ret, leave_exit, EndsA_ret, EndsA_normal, ot_move, ot_assign, ot_pick, ot_binOp, ot_unOp, ot_convert, ot_field, ot_index, ot_indexAddr, ot_fieldAddr, ot_slice, ot_build, ot_buildSlice, ot_extract, ot_makeInterface, ot_makeFunc, ot_nilCheck, ot_call, ot_len, ot_append, ot_box, ot_load, ot_store, ot_makeSlice, ot_alloc, ot_sliceData, ot_unsafeString, ct_bool, ct_true, ct_false, bt_some, gt_some, aval_tmp, aval_int, aval_bool, aval_str, aval_slice, aval_nilPointer, aval_nilIface, aval_func, aval_global, avals, apairs, bareP, AV.bare, AV.bares, bin_lss, bin_leq, bin_gtr, bin_geq, bin_eql, bin_neq, bin_add, bin_sub, bin_mul, toV_int, toV_bool, toV_string, un_neg, un_not, bin_str_eql, bin_str_neq, bin_str_lss, bin_str_leq, bin_str_gtr, bin_str_geq, aget_aput, length_aput, aput_none, Nat.reduceEqDiff, Nat.reduceLT, Nat.reduceAdd, ↓reduceIte, reduceCtorEq, Bool.not_false, Bool.not_true, Bool.true_or, true_and, Option.bind_some, Option.map_some, List.nil_append, List.cons_append, resA, resA1, resVal, Option.getD_some, Nat.reduceLeDiff, bnd_some, yieldA_eq, yldOf_some, boolOf_bool, boolOf_undef, gt_none, List.getElem?_toArray, List.getElem?_cons_succ, List.getElem?_cons_zero, bq_true, bq_false, decide_true, decide_false, Option.toList_none, Option.toList_some, List.head?_cons, List.head?_nil, nb_cfg, not_false_eq_true, cv_some, pm_some, pm_none, plainA_v, plain_bool, plain_int, plain_str, Bool.false_eq_true, if_false, Int.reduceLT, Int.reduceLE, Int.reduceEq, Int.reduceAdd, Int.reduceSub, Int.reduceMul, Int.reduceNeg, Int.reduceNe, decide_not, Bool.and_true, Bool.true_and, Bool.and_false, Bool.false_and, Bool.or_false, Bool.false_or, Bool.or_true, if_true, Bool.not_not, decide_eq_true, decide_eq_false, fe_get, fe_put, fe_len, upd_app])
        exact ⟨5, rfl⟩
    by_cases hu : c.toNat = 117
    · exact escR_u s hs c e0 hu
    cases hlo : longN c.toNat with
    | none =>
      have hv : escRV s = .tup [.v (.slice none 0 0), .v (.int .i64 0)] := by unfold escRV escR; rw [e0]; simp only [hlo, if_neg hu]
      rw [hv]
      have hx : c.toNat ≠ 98 ∧ c.toNat ≠ 116 ∧ c.toNat ≠ 110 ∧ c.toNat ≠ 102 ∧ c.toNat ≠ 114 := by
        refine ⟨?_, ?_, ?_, ?_, ?_⟩ <;> (intro h; rw [h] at hlo; simp [longN] at hlo)
      obtain ⟨y1, y2, y3, y4, y5⟩ := hx
      refine pure_of_wk (call := noCall) (fn := Tryd.f61) (rs := [.tmp 2, .tmp 3]) ur5_ok noCall_ok (fns_cfg Tryd.func61 rfl) rfl rfl ?_
      intro env hl0 hargs
      have hn : env.length = 86 := hl0
      have h0 := hargs 0 _ rfl
      clear hargs hl0
      refine wkT_of ?_
      rw [fe_self hn]
      (try simp -dsimp (disch := omega) only [h0, len_s, x0, wt_seq, wt_block, wt_region, wt_cond, wt_skip, wt_ret, wt_exit, wst_nil, wst_cons, wst_guard, andThen_normal, andThen_ret, andThen_exit, leave_normal, leave_ret, leave_exit, EndsA_ret, EndsA_normal, ot_move, ot_assign, ot_pick, ot_binOp, ot_unOp, ot_convert, ot_field, ot_index, ot_indexAddr, ot_fieldAddr, ot_slice, ot_build, ot_buildSlice, ot_extract, ot_makeInterface, ot_makeFunc, ot_nilCheck, ot_call, ot_len, ot_append, ot_box, ot_load, ot_store, ot_makeSlice, ot_alloc, ot_sliceData, ot_unsafeString, ct_bool, ct_true, ct_false, bt_some, gt_some, aval_tmp, aval_int, aval_bool, aval_str, aval_slice, aval_nilPointer, aval_nilIface, aval_func, aval_global, avals, apairs, bareP, AV.bare, AV.bares, bin_lss, bin_leq, bin_gtr, bin_geq, bin_eql, bin_neq, bin_add, bin_sub, bin_mul, toV_int, toV_bool, toV_string, un_neg, un_not, bin_str_eql, bin_str_neq, bin_str_lss, bin_str_leq, bin_str_gtr, bin_str_geq, aget_aput, length_aput, aput_none, Nat.reduceEqDiff, Nat.reduceLT, Nat.reduceAdd, ↓reduceIte, reduceCtorEq, Bool.not_false, Bool.not_true, Bool.true_or, true_and, Option.bind_some, Option.map_some, List.nil_append, List.cons_append, resA, resA1, resVal, Option.getD_some, Nat.reduceLeDiff, bnd_some, yieldA_eq, yldOf_some, boolOf_bool, boolOf_undef, gt_none, List.getElem?_toArray, List.getElem?_cons_succ, List.getElem?_cons_zero, bq_true, bq_false, decide_true, decide_false, Option.toList_none, Option.toList_some, List.head?_cons, List.head?_nil, nb_cfg, not_false_eq_true, cv_some, pm_some, pm_none, plainA_v, plain_bool, plain_int, plain_str, Bool.false_eq_true, if_false, Int.reduceLT, Int.reduceLE, Int.reduceEq, Int.reduceAdd, Int.reduceSub, Int.reduceMul, Int.reduceNeg, Int.reduceNe, decide_not, Bool.and_true, Bool.true_and, Bool.and_false, Bool.false_and, Bool.or_false, Bool.false_or, Bool.or_true, if_true, Bool.not_not, decide_eq_true, decide_eq_false, fe_get, fe_put, fe_len, upd_app])
      exact ⟨5, rfl⟩
    | some x =>
      have hx : (c.toNat = 98 ∧ x = 8) ∨ (c.toNat = 116 ∧ x = 9) ∨ (c.toNat = 110 ∧ x = 10) ∨ (c.toNat = 102 ∧ x = 12) ∨ (c.toNat = 114 ∧ x = 13) := by
        unfold longN at hlo
        (repeat' split at hlo) <;> first | (injection hlo with hlo; omega) | cases hlo
      have hv : escRV s = .tup [.cl false [.v (.int .u8 (x : Int))], .v (.int .i64 1)] := by
        unfold escRV escR
        rw [e0]
        simp only [hlo]
        rcases hx with ⟨_, rfl⟩ | ⟨_, rfl⟩ | ⟨_, rfl⟩ | ⟨_, rfl⟩ | ⟨_, rfl⟩ <;> rfl
      rw [hv]
      rcases hx with ⟨y1, rfl⟩ | ⟨y1, rfl⟩ | ⟨y1, rfl⟩ | ⟨y1, rfl⟩ | ⟨y1, rfl⟩
      · skip
        refine pure_of_wk (call := noCall) (fn := Tryd.f61) (rs := [.tmp 2, .tmp 3]) ur5_ok noCall_ok (fns_cfg Tryd.func61 rfl) rfl rfl ?_
        intro env hl0 hargs
        have hn : env.length = 86 := hl0
        have h0 := hargs 0 _ rfl
        clear hargs hl0
        refine wkT_of ?_
        rw [fe_self hn]
        (try simp -dsimp (disch := omega) only [h0, len_s, x0, bs1, wt_seq, wt_block, wt_region, wt_cond, wt_skip, wt_ret, wt_exit, wst_nil, wst_cons, wst_guard, andThen_normal, andThen_ret, andThen_exit, leave_normal, leave_ret, leave_exit, EndsA_ret, EndsA_normal, ot_move, ot_assign, ot_pick, ot_binOp, ot_unOp, ot_convert, ot_field, ot_index, ot_indexAddr, ot_fieldAddr, ot_slice, ot_build, ot_buildSlice, ot_extract, ot_makeInterface, ot_makeFunc, ot_nilCheck, ot_call, ot_len, ot_append, ot_box, ot_load, ot_store, ot_makeSlice, ot_alloc, ot_sliceData, ot_unsafeString, ct_bool, ct_true, ct_false, bt_some, gt_some, aval_tmp, aval_int, aval_bool, aval_str, aval_slice, aval_nilPointer, aval_nilIface, aval_func, aval_global, avals, apairs, bareP, AV.bare, AV.bares, bin_lss, bin_leq, bin_gtr, bin_geq, bin_eql, bin_neq, bin_add, bin_sub, bin_mul, toV_int, toV_bool, toV_string, un_neg, un_not, bin_str_eql, bin_str_neq, bin_str_lss, bin_str_leq, bin_str_gtr, bin_str_geq, aget_aput, length_aput, aput_none, Nat.reduceEqDiff, Nat.reduceLT, Nat.reduceAdd, ↓reduceIte, reduceCtorEq, Bool.not_false, Bool.not_true, Bool.true_or, true_and, Option.bind_some, Option.map_some, List.nil_append, List.cons_append, resA, resA1, resVal, Option.getD_some, Nat.reduceLeDiff, bnd_some, yieldA_eq, yldOf_some, boolOf_bool, boolOf_undef, gt_none, List.getElem?_toArray, List.getElem?_cons_succ, List.getElem?_cons_zero, bq_true, bq_false, decide_true, decide_false, Option.toList_none, Option.toList_some, List.head?_cons, List.head?_nil, nb_cfg, not_false_eq_true, cv_some, pm_some, pm_none, plainA_v, plain_bool, plain_int, plain_str, Bool.false_eq_true, if_false, Int.reduceLT, Int.reduceLE, Int.reduceEq, Int.reduceAdd, Int.reduceSub, Int.reduceMul, Int.reduceNeg, Int.reduceNe, decide_not, Bool.and_true, Bool.true_and, Bool.and_false, Bool.false_and, Bool.or_false, Bool.false_or, Bool.or_true, if_true, Bool.not_not, decide_eq_true, decide_eq_false, fe_get, fe_put, fe_len, upd_app])
        exact ⟨5, rfl⟩
      · skip
        refine pure_of_wk (call := noCall) (fn := Tryd.f61) (rs := [.tmp 2, .tmp 3]) ur5_ok noCall_ok (fns_cfg Tryd.func61 rfl) rfl rfl ?_
        intro env hl0 hargs
        have hn : env.length = 86 := hl0
        have h0 := hargs 0 _ rfl
        clear hargs hl0
        refine wkT_of ?_
        rw [fe_self hn]
        (try simp -dsimp (disch := omega) only [h0, len_s, x0, bs1, wt_seq, wt_block, wt_region, wt_cond, wt_skip, wt_ret, wt_exit, wst_nil, wst_cons, wst_guard, andThen_normal, andThen_ret, andThen_exit, leave_normal, leave_ret, leave_exit, EndsA_ret, EndsA_normal, ot_move, ot_assign, ot_pick, ot_binOp, ot_unOp, ot_convert, ot_field, ot_index, ot_indexAddr, ot_fieldAddr, ot_slice, ot_build, ot_buildSlice, ot_extract, ot_makeInterface, ot_makeFunc, ot_nilCheck, ot_call, ot_len, ot_append, ot_box, ot_load, ot_store, ot_makeSlice, ot_alloc, ot_sliceData, ot_unsafeString, ct_bool, ct_true, ct_false, bt_some, gt_some, aval_tmp, aval_int, aval_bool, aval_str, aval_slice, aval_nilPointer, aval_nilIface, aval_func, aval_global, avals, apairs, bareP, AV.bare, AV.bares, bin_lss, bin_leq, bin_gtr, bin_geq, bin_eql, bin_neq, bin_add, bin_sub, bin_mul, toV_int, toV_bool, toV_string, un_neg, un_not, bin_str_eql, bin_str_neq, bin_str_lss, bin_str_leq, bin_str_gtr, bin_str_geq, aget_aput, length_aput, aput_none, Nat.reduceEqDiff, Nat.reduceLT, Nat.reduceAdd, ↓reduceIte, reduceCtorEq, Bool.not_false, Bool.not_true, Bool.true_or, true_and, Option.bind_some, Option.map_some, List.nil_append, List.cons_append, resA, resA1, resVal, Option.getD_some, Nat.reduceLeDiff, bnd_some, yieldA_eq, yldOf_some, boolOf_bool, boolOf_undef, gt_none, List.getElem?_toArray, List.getElem?_cons_succ, List.getElem?_cons_zero, bq_true, bq_false, decide_true, decide_false, Option.toList_none, Option.toList_some, List.head?_cons, List.head?_nil, nb_cfg, not_false_eq_true, cv_some, pm_some, pm_none, plainA_v, plain_bool, plain_int, plain_str, Bool.false_eq_true, if_false, Int.reduceLT, Int.reduceLE, Int.reduceEq, Int.reduceAdd, Int.reduceSub, Int.reduceMul, Int.reduceNeg, Int.reduceNe, decide_not, Bool.and_true, Bool.true_and, Bool.and_false, Bool.false_and, Bool.or_false, Bool.false_or, Bool.or_true, if_true, Bool.not_not, decide_eq_true, decide_eq_false, fe_get, fe_put, fe_len, upd_app])
        exact ⟨5, rfl⟩
      · skip
        refine pure_of_wk (call := noCall) (fn := Tryd.f61) (rs := [.tmp 2, .tmp 3]) ur5_ok noCall_ok (fns_cfg Tryd.func61 rfl) rfl rfl ?_
        intro env hl0 hargs
        have hn : env.length = 86 := hl0
        have h0 := hargs 0 _ rfl
        clear hargs hl0
        refine wkT_of ?_
        rw [fe_self hn]
        (try simp -dsimp (disch := omega) only [h0, len_s, x0, bs1, wt_seq, wt_block, wt_region, wt_cond, wt_skip, wt_ret, wt_exit, wst_nil, wst_cons, wst_guard, andThen_normal, andThen_ret, andThen_exit, leave_normal, leave_ret, leave_exit, EndsA_ret, EndsA_normal, ot_move, ot_assign, ot_pick, ot_binOp, ot_unOp, ot_convert, ot_field, ot_index, ot_indexAddr, ot_fieldAddr, ot_slice, ot_build, ot_buildSlice, ot_extract, ot_makeInterface, ot_makeFunc, ot_nilCheck, ot_call, ot_len, ot_append, ot_box, ot_load, ot_store, ot_makeSlice, ot_alloc, ot_sliceData, ot_unsafeString, ct_bool, ct_true, ct_false, bt_some, gt_some, aval_tmp, aval_int, aval_bool, aval_str, aval_slice, aval_nilPointer, aval_nilIface, aval_func, aval_global, avals, apairs, bareP, AV.bare, AV.bares, bin_lss, bin_leq, bin_gtr, bin_geq, bin_eql, bin_neq, bin_add, bin_sub, bin_mul, toV_int, toV_bool, toV_string, un_neg, un_not, bin_str_eql, bin_str_neq, bin_str_lss, bin_str_leq, bin_str_gtr, bin_str_geq, aget_aput, length_aput, aput_none, Nat.reduceEqDiff, Nat.reduceLT, Nat.reduceAdd, ↓reduceIte, reduceCtorEq, Bool.not_false, Bool.not_true, Bool.true_or, true_and, Option.bind_some, Option.map_some, List.nil_append, List.cons_append, resA, resA1, resVal, Option.getD_some, Nat.reduceLeDiff, bnd_some, yieldA_eq, yldOf_some, boolOf_bool, boolOf_undef, gt_none, List.getElem?_toArray, List.getElem?_cons_succ, List.getElem?_cons_zero, bq_true, bq_false, decide_true, decide_false, Option.toList_none, Option.toList_some, List.head?_cons, List.head?_nil, nb_cfg, not_false_eq_true, cv_some, pm_some, pm_none, plainA_v, plain_bool, plain_int, plain_str, Bool.false_eq_true, if_false, Int.reduceLT, Int.reduceLE, Int.reduceEq, Int.reduceAdd, Int.reduceSub, Int.reduceMul, Int.reduceNeg, Int.reduceNe, decide_not, Bool.and_true, Bool.true_and, Bool.and_false, Bool.false_and, Bool.or_false, Bool.false_or, Bool.or_true, if_true, Bool.not_not, decide_eq_true, decide_eq_false, fe_get, fe_put, fe_len, upd_app])
        exact ⟨5, rfl⟩
      · skip
        refine pure_of_wk (call := noCall) (fn := Tryd.f61) (rs := [.tmp 2, .tmp 3]) ur5_ok noCall_ok (fns_cfg Tryd.func61 rfl) rfl rfl ?_
        intro env hl0 hargs
        have hn : env.length = 86 := hl0
        have h0 := hargs 0 _ rfl
        clear hargs hl0
        refine wkT_of ?_
        rw [fe_self hn]
        (try simp -dsimp (disch := omega) only [h0, len_s, x0, bs1, wt_seq, wt_block, wt_region, wt_cond, wt_skip, wt_ret, wt_exit, wst_nil, wst_cons, wst_guard, andThen_normal, andThen_ret, andThen_exit, leave_normal, leave_ret, leave_exit, EndsA_ret, EndsA_normal, ot_move, ot_assign, ot_pick, ot_binOp, ot_unOp, ot_convert, ot_field, ot_index, ot_indexAddr, ot_fieldAddr, ot_slice, ot_build, ot_buildSlice, ot_extract, ot_makeInterface, ot_makeFunc, ot_nilCheck, ot_call, ot_len, ot_append, ot_box, ot_load, ot_store, ot_makeSlice, ot_alloc, ot_sliceData, ot_unsafeString, ct_bool, ct_true, ct_false, bt_some, gt_some, aval_tmp, aval_int, aval_bool, aval_str, aval_slice, aval_nilPointer, aval_nilIface, aval_func, aval_global, avals, apairs, bareP, AV.bare, AV.bares, bin_lss, bin_leq, bin_gtr, bin_geq, bin_eql, bin_neq, bin_add, bin_sub, bin_mul, toV_int, toV_bool, toV_string, un_neg, un_not, bin_str_eql, bin_str_neq, bin_str_lss, bin_str_leq, bin_str_gtr, bin_str_geq, aget_aput, length_aput, aput_none, Nat.reduceEqDiff, Nat.reduceLT, Nat.reduceAdd, ↓reduceIte, reduceCtorEq, Bool.not_false, Bool.not_true, Bool.true_or, true_and, Option.bind_some, Option.map_some, List.nil_append, List.cons_append, resA, resA1, resVal, Option.getD_some, Nat.reduceLeDiff, bnd_some, yieldA_eq, yldOf_some, boolOf_bool, boolOf_undef, gt_none, List.getElem?_toArray, List.getElem?_cons_succ, List.getElem?_cons_zero, bq_true, bq_false, decide_true, decide_false, Option.toList_none, Option.toList_some, List.head?_cons, List.head?_nil, nb_cfg, not_false_eq_true, cv_some, pm_some, pm_none, plainA_v, plain_bool, plain_int, plain_str, Bool.false_eq_true, if_false, Int.reduceLT, Int.reduceLE, Int.reduceEq, Int.reduceAdd, Int.reduceSub, Int.reduceMul, Int.reduceNeg, Int.reduceNe, decide_not, Bool.and_true, Bool.true_and, Bool.and_false, Bool.false_and, Bool.or_false, Bool.false_or, Bool.or_true, if_true, Bool.not_not, decide_eq_true, decide_eq_false, fe_get, fe_put, fe_len, upd_app])
        exact ⟨5, rfl⟩
      · skip
        refine pure_of_wk (call := noCall) (fn := Tryd.f61) (rs := [.tmp 2, .tmp 3]) ur5_ok noCall_ok (fns_cfg Tryd.func61 rfl) rfl rfl ?_
        intro env hl0 hargs
        have hn : env.length = 86 := hl0
        have h0 := hargs 0 _ rfl
        clear hargs hl0
        refine wkT_of ?_
        rw [fe_self hn]
        (try simp -dsimp (disch := omega) only [h0, len_s, x0, bs1, wt_seq, wt_block, wt_region, wt_cond, wt_skip, wt_ret, wt_exit, wst_nil, wst_cons, wst_guard, andThen_normal, andThen_ret, andThen_exit, leave_normal, leave_ret, leave_exit, EndsA_ret, EndsA_normal, ot_move, ot_assign, ot_pick, ot_binOp, ot_unOp, ot_convert, ot_field, ot_index, ot_indexAddr, ot_fieldAddr, ot_slice, ot_build, ot_buildSlice, ot_extract, ot_makeInterface, ot_makeFunc, ot_nilCheck, ot_call, ot_len, ot_append, ot_box, ot_load, ot_store, ot_makeSlice, ot_alloc, ot_sliceData, ot_unsafeString, ct_bool, ct_true, ct_false, bt_some, gt_some, aval_tmp, aval_int, aval_bool, aval_str, aval_slice, aval_nilPointer, aval_nilIface, aval_func, aval_global, avals, apairs, bareP, AV.bare, AV.bares, bin_lss, bin_leq, bin_gtr, bin_geq, bin_eql, bin_neq, bin_add, bin_sub, bin_mul, toV_int, toV_bool, toV_string, un_neg, un_not, bin_str_eql, bin_str_neq, bin_str_lss, bin_str_leq, bin_str_gtr, bin_str_geq, aget_aput, length_aput, aput_none, Nat.reduceEqDiff, Nat.reduceLT, Nat.reduceAdd, ↓reduceIte, reduceCtorEq, Bool.not_false, Bool.not_true, Bool.true_or, true_and, Option.bind_some, Option.map_some, List.nil_append, List.cons_append, resA, resA1, resVal, Option.getD_some, Nat.reduceLeDiff, bnd_some, yieldA_eq, yldOf_some, boolOf_bool, boolOf_undef, gt_none, List.getElem?_toArray, List.getElem?_cons_succ, List.getElem?_cons_zero, bq_true, bq_false, decide_true, decide_false, Option.toList_none, Option.toList_some, List.head?_cons, List.head?_nil, nb_cfg, not_false_eq_true, cv_some, pm_some, pm_none, plainA_v, plain_bool, plain_int, plain_str, Bool.false_eq_true, if_false, Int.reduceLT, Int.reduceLE, Int.reduceEq, Int.reduceAdd, Int.reduceSub, Int.reduceMul, Int.reduceNeg, Int.reduceNe, decide_not, Bool.and_true, Bool.true_and, Bool.and_false, Bool.false_and, Bool.or_false, Bool.false_or, Bool.or_true, if_true, Bool.not_not, decide_eq_true, decide_eq_false, fe_get, fe_put, fe_len, upd_app])
        exact ⟨5, rfl⟩
def escRP := s1P 2305843009213693952 escRV
theorem escRP_eq {l : List UInt8} (h : l.length < 2305843009213693952) : escRP [str l] = some (escRV l) := s1P_eq h
end Go.Proofs.YtjejeijldllloaaDoor

/- Chapter 1, the document's: Unquote. -/
namespace Go.Proofs.YtjejeijldllloaaDoor
open Go.AM
def rufF (s : List UInt8) : Nat → Nat → List UInt8 → Option (Nat × List UInt8)
  | 0, _, _ => none
  | f + 1, k, l => match s[k]? with
    | none => none
    | some c => if c.toNat = 34 then some (k + 1, l) else if c.toNat = 92 then (match escR (s.drop (k + 1)) with
        | none => none
        | some (x, n) => rufF s f (k + 1 + n) (l ++ x))
      else if stepN (s.drop k) = 0 ∨ c.toNat < 32 then none else rufF s f (k + stepN (s.drop k)) (l ++ (s.drop k).take (stepN (s.drop k)))
def failU : AV := .tup [str [], .v (.int .i64 0), .v (.int .i64 2)]
def okU (l : List UInt8) (k : Nat) : AV := .tup [str l, .v (.int .i64 (k : Int)), .v (.int .i64 0)]
def ruV (o : Option (Nat × List UInt8)) : AV := match o with
  | some (k, l) => okU l k
  | none => failU
def refUV (s : List UInt8) : AV := match s[0]? with
  | some c => if c.toNat = 34 then ruV (rufF s s.length 1 []) else failU
  | none => failU
theorem hexF_some {s : List UInt8} : ∀ {i k n m : Nat}, (hexF s i k n).1 = some m → i = 0 ∨ k + i ≤ s.length
  | 0, _, _, _, _ => .inl rfl
  | i + 1, k, n, m, h => by
    simp only [hexF] at h
    split at h
    · cases h
    · rename_i c hc
      have hl : k < s.length := (List.getElem?_eq_some_iff.1 hc).1
      split at h
      · cases h
      · rcases hexF_some h with rfl | h
        · right; omega
        · right; omega
theorem encU_ne (r : Nat) : encU r ≠ [] := by
  unfold encU encN
  repeat' split
  all_goals simp
theorem escR_pos {s x : List UInt8} {n : Nat} (h : escR s = some (x, n)) : 0 < n ∧ n ≤ s.length ∧ x ≠ [] ∧ x.length ≤ 4 := by
  unfold escR at h
  split at h
  · cases h
  · rename_i c hc
    have hl : 0 < s.length := (List.getElem?_eq_some_iff.1 hc).1
    split at h
    · injection h with h; injection h with h1 h2; subst h1 h2; simp; omega
    · split at h
      · split at h
        · cases h
        · rename_i m hm
          have hk := hexF_some hm
          rw [List.length_drop] at hk
          split at h
          · cases h
          · split at h
            · injection h with h; injection h with h1 h2; subst h1 h2
              exact ⟨by omega, by omega, encU_ne _, encU_len _⟩
            · split at h
              · rename_i h11
                split at h
                · split at h
                  · injection h with h; injection h with h1 h2; subst h1 h2
                    exact ⟨by omega, by omega, encU_ne _, encU_len _⟩
                  · cases h
                · cases h
              · cases h
      · cases h
section
variable {prim : FuncId → Option (List AV → Option AV)}
theorem apF {l b : List UInt8} (hne : b ≠ []) (hl : l.length + b.length < 2 ^ 40) : appA (cfgP prim) #[72, 72] [gsl (byts l), .cl false (byts b)] (rH l) = some (gsl (byts (l ++ b)), rH (l ++ b)) := by
  have := appA_gslHs (C := cfgP prim) (ts := #[72, 72]) (e := 5) (t1 := 5) (n := 0) (k := 1) (z := .v (.int .u8 0)) (by kernel_rfl) (by kernel_rfl) (by kernel_rfl) (by kernel_rfl) rfl (by kernel_rfl) (xs := byts l) (ys := byts b) (f := false) (by simp [byts, hne]) (sized_by b) (sized_by l) (by simp [byts]; omega) (H := rH l) rfl
  rw [this]
  simp [byts, rH]
theorem apS {l b : List UInt8} (hne : b ≠ []) (hl : l.length + b.length < 2 ^ 40) : appA (cfgP prim) #[72, 9] [gsl (byts l), str b] (rH l) = some (gsl (byts (l ++ b)), rH (l ++ b)) := app729 hne hl rfl
theorem slM {l r : List UInt8} {i n : Nat} {j : Int} (hj : j = ((i + n : Nat) : Int)) (hr : (l.drop i).take n = r) (h : i + n ≤ l.length) : sliceA (cfgP prim) 9 (str l) (some (.v (.int .i64 (i : Int)))) (some (.v (.int .i64 j))) none = some (str r) := by
  subst hj
  have := slice_str (C := cfgP prim) (t := 9) (a := l) (lo := some (.v (.int .i64 (i : Int)))) (hi := some (.v (.int .i64 ((i + n : Nat) : Int)))) (l := i) (h := i + n) (by kernel_rfl) (by simp [optIdx, idx]) (by simp only [optIdx, idx, Int.natCast_nonneg, if_true, Int.toNat_natCast]) ⟨by omega, h⟩
  rw [this, ← hr, show i + n - i = n by omega]
end
def ur6 : FuncId → Option (List AV → Option AV) := tab [(62, rune1P), (61, escRP)]
theorem ur6_ok : (cfgP ur6).Ok := cfg_ok (tab_ok ⟨prim_at Tryd.func62 (by kernel_rfl) rfl ((s1P_of fun l h => rune1_ok l (by omega))), prim_at Tryd.func61 (by kernel_rfl) rfl ((s1P_of fun l h => escR_ok l (by omega))), trivial⟩)
theorem ur6_62 : (cfgP ur6).prim 62 = some rune1P := rfl
theorem ur6_61 : (cfgP ur6).prim 61 = some escRP := rfl
structure UrI (s : List UInt8) (m i : Nat) (l : List UInt8) (e : Env) (h : Hp) : Prop where
  len : e.length = 76
  hp : h = rH l
  a0 : aget e 0 = str s
  a5 : aget e 5 = gsl (byts l)
  a6 : aget e 6 = .v (.int .i64 (i : Int))
  il : i ≤ s.length
  ll : l.length ≤ 4 * i
  fu : s.length - i + 1 ≤ m
  eq : rufF s m i l = rufF s s.length 1 []
set_option maxHeartbeats 8000000 in
set_option maxRecDepth 100000 in
theorem unquoteR_ok (s : List UInt8) (hs : s.length < 2 ^ 36) : PureOk (cfgP ur6) 20 [str s] (refUV s) := by
  cases e0 : s[0]? with
  | none =>
    have hl : s.length = 0 := by rw [List.getElem?_eq_none_iff] at e0; omega
    have hv : refUV s = failU := by unfold refUV; rw [e0]
    rw [hv]
    refine pure_of_wk (call := noCall) (fn := Tryd.f20) (rs := [.tmp 2, .tmp 3, .tmp 4]) ur6_ok noCall_ok (fns_cfg Tryd.func20 rfl) rfl rfl ?_
    intro env hl0 hargs
    have hn : env.length = 76 := hl0
    have h0 := hargs 0 _ rfl
    clear hargs hl0
    refine wkT_of ?_
    rw [fe_self hn]
    (try simp -dsimp (disch := omega) only [h0, len_s, wt_seq, wt_block, wt_region, wt_cond, wt_skip, wt_ret, wt_exit, wst_nil, wst_cons, wst_guard, andThen_normal, andThen_ret, andThen_exit, leave_normal, leave_ret, leave_exit, EndsA_ret, EndsA_normal, ot_move, ot_assign, ot_pick, ot_binOp, ot_unOp, ot_convert, ot_field, ot_index, ot_indexAddr, ot_fieldAddr, ot_slice, ot_build, ot_buildSlice, ot_extract, ot_makeInterface, ot_makeFunc, ot_nilCheck, ot_call, ot_len, ot_append, ot_box, ot_load, ot_store, ot_makeSlice, ot_alloc, ot_sliceData, ot_unsafeString, ct_bool, ct_true, ct_false, bt_some, gt_some, aval_tmp, aval_int, aval_bool, aval_str, aval_slice, aval_nilPointer, aval_nilIface, aval_func, aval_global, avals, apairs, bareP, AV.bare, AV.bares, bin_lss, bin_leq, bin_gtr, bin_geq, bin_eql, bin_neq, bin_add, bin_sub, bin_mul, toV_int, toV_bool, toV_string, un_neg, un_not, bin_str_eql, bin_str_neq, bin_str_lss, bin_str_leq, bin_str_gtr, bin_str_geq, aget_aput, length_aput, aput_none, Nat.reduceEqDiff, Nat.reduceLT, Nat.reduceAdd, ↓reduceIte, reduceCtorEq, Bool.not_false, Bool.not_true, Bool.true_or, true_and, Option.bind_some, Option.map_some, List.nil_append, List.cons_append, resA, resA1, resVal, Option.getD_some, Nat.reduceLeDiff, bnd_some, yieldA_eq, yldOf_some, boolOf_bool, boolOf_undef, gt_none, List.getElem?_toArray, List.getElem?_cons_succ, List.getElem?_cons_zero, bq_true, bq_false, decide_true, decide_false, Option.toList_none, Option.toList_some, List.head?_cons, List.head?_nil, nb_cfg, not_false_eq_true, cv_some, pm_some, pm_none, plainA_v, plain_bool, plain_int, plain_str, Bool.false_eq_true, if_false, Int.reduceLT, Int.reduceLE, Int.reduceEq, Int.reduceAdd, Int.reduceSub, Int.reduceMul, Int.reduceNeg, Int.reduceNe, decide_not, Bool.and_true, Bool.true_and, Bool.and_false, Bool.false_and, Bool.or_false, Bool.false_or, Bool.or_true, if_true, Bool.not_not, decide_eq_true, decide_eq_false, fe_get, fe_put, fe_len, upd_app])
    exact ⟨5, rfl⟩
  | some c0 =>
    have hlen : 0 < s.length := (List.getElem?_eq_some_iff.1 e0).1
    have x0 := ix0 (prim := ur6) e0
    have hcl := UInt8.toNat_lt c0
    by_cases hq : c0.toNat ≠ 34
    · have hv : refUV s = failU := by unfold refUV; rw [e0]; exact if_neg hq
      rw [hv]
      refine pure_of_wk (call := noCall) (fn := Tryd.f20) (rs := [.tmp 2, .tmp 3, .tmp 4]) ur6_ok noCall_ok (fns_cfg Tryd.func20 rfl) rfl rfl ?_
      intro env hl0 hargs
      have hn : env.length = 76 := hl0
      have h0 := hargs 0 _ rfl
      clear hargs hl0
      refine wkT_of ?_
      rw [fe_self hn]
      (try simp -dsimp (disch := omega) only [h0, len_s, x0, wt_seq, wt_block, wt_region, wt_cond, wt_skip, wt_ret, wt_exit, wst_nil, wst_cons, wst_guard, andThen_normal, andThen_ret, andThen_exit, leave_normal, leave_ret, leave_exit, EndsA_ret, EndsA_normal, ot_move, ot_assign, ot_pick, ot_binOp, ot_unOp, ot_convert, ot_field, ot_index, ot_indexAddr, ot_fieldAddr, ot_slice, ot_build, ot_buildSlice, ot_extract, ot_makeInterface, ot_makeFunc, ot_nilCheck, ot_call, ot_len, ot_append, ot_box, ot_load, ot_store, ot_makeSlice, ot_alloc, ot_sliceData, ot_unsafeString, ct_bool, ct_true, ct_false, bt_some, gt_some, aval_tmp, aval_int, aval_bool, aval_str, aval_slice, aval_nilPointer, aval_nilIface, aval_func, aval_global, avals, apairs, bareP, AV.bare, AV.bares, bin_lss, bin_leq, bin_gtr, bin_geq, bin_eql, bin_neq, bin_add, bin_sub, bin_mul, toV_int, toV_bool, toV_string, un_neg, un_not, bin_str_eql, bin_str_neq, bin_str_lss, bin_str_leq, bin_str_gtr, bin_str_geq, aget_aput, length_aput, aput_none, Nat.reduceEqDiff, Nat.reduceLT, Nat.reduceAdd, ↓reduceIte, reduceCtorEq, Bool.not_false, Bool.not_true, Bool.true_or, true_and, Option.bind_some, Option.map_some, List.nil_append, List.cons_append, resA, resA1, resVal, Option.getD_some, Nat.reduceLeDiff, bnd_some, yieldA_eq, yldOf_some, boolOf_bool, boolOf_undef, gt_none, List.getElem?_toArray, List.getElem?_cons_succ, List.getElem?_cons_zero, bq_true, bq_false, decide_true, decide_false, Option.toList_none, Option.toList_some, List.head?_cons, List.head?_nil, nb_cfg, not_false_eq_true, cv_some, pm_some, pm_none, plainA_v, plain_bool, plain_int, plain_str, Bool.false_eq_true, if_false, Int.reduceLT, Int.reduceLE, Int.reduceEq, Int.reduceAdd, Int.reduceSub, Int.reduceMul, Int.reduceNeg, Int.reduceNe, decide_not, Bool.and_true, Bool.true_and, Bool.and_false, Bool.false_and, Bool.or_false, Bool.false_or, Bool.or_true, if_true, Bool.not_not, decide_eq_true, decide_eq_false, fe_get, fe_put, fe_len, upd_app])
      exact ⟨5, rfl⟩
    replace hq : c0.toNat = 34 := by omega
    have hv : refUV s = ruV (rufF s s.length 1 []) := by unfold refUV; rw [e0]; exact if_pos hq
    rw [hv]
    clear hv
    refine pure_of_wk (call := noCall) (fn := Tryd.f20) (rs := [.tmp 2, .tmp 3, .tmp 4]) ur6_ok noCall_ok (fns_cfg Tryd.func20 rfl) rfl rfl ?_
    intro env hl0 hargs
    have hn : env.length = 76 := hl0
    have h0 := hargs 0 _ rfl
    clear hargs hl0
    refine wkT_of ?_
    rw [fe_self hn]
    (try simp -dsimp (disch := omega) only [h0, len_s, x0, wt_seq, wt_block, wt_region, wt_cond, wt_skip, wt_ret, wt_exit, wst_nil, wst_cons, wst_guard, andThen_normal, andThen_ret, andThen_exit, leave_normal, leave_ret, leave_exit, EndsA_ret, EndsA_normal, ot_move, ot_assign, ot_pick, ot_binOp, ot_unOp, ot_convert, ot_field, ot_index, ot_indexAddr, ot_fieldAddr, ot_slice, ot_build, ot_buildSlice, ot_extract, ot_makeInterface, ot_makeFunc, ot_nilCheck, ot_call, ot_len, ot_append, ot_box, ot_load, ot_store, ot_makeSlice, ot_alloc, ot_sliceData, ot_unsafeString, ct_bool, ct_true, ct_false, bt_some, gt_some, aval_tmp, aval_int, aval_bool, aval_str, aval_slice, aval_nilPointer, aval_nilIface, aval_func, aval_global, avals, apairs, bareP, AV.bare, AV.bares, bin_lss, bin_leq, bin_gtr, bin_geq, bin_eql, bin_neq, bin_add, bin_sub, bin_mul, toV_int, toV_bool, toV_string, un_neg, un_not, bin_str_eql, bin_str_neq, bin_str_lss, bin_str_leq, bin_str_gtr, bin_str_geq, aget_aput, length_aput, aput_none, Nat.reduceEqDiff, Nat.reduceLT, Nat.reduceAdd, ↓reduceIte, reduceCtorEq, Bool.not_false, Bool.not_true, Bool.true_or, true_and, Option.bind_some, Option.map_some, List.nil_append, List.cons_append, resA, resA1, resVal, Option.getD_some, Nat.reduceLeDiff, bnd_some, yieldA_eq, yldOf_some, boolOf_bool, boolOf_undef, gt_none, List.getElem?_toArray, List.getElem?_cons_succ, List.getElem?_cons_zero, bq_true, bq_false, decide_true, decide_false, Option.toList_none, Option.toList_some, List.head?_cons, List.head?_nil, nb_cfg, not_false_eq_true, cv_some, pm_some, pm_none, plainA_v, plain_bool, plain_int, plain_str, Bool.false_eq_true, if_false, Int.reduceLT, Int.reduceLE, Int.reduceEq, Int.reduceAdd, Int.reduceSub, Int.reduceMul, Int.reduceNeg, Int.reduceNe, decide_not, Bool.and_true, Bool.true_and, Bool.and_false, Bool.false_and, Bool.or_false, Bool.false_or, Bool.or_true, if_true, Bool.not_not, decide_eq_true, decide_eq_false, fe_get, fe_put, fe_len, upd_app])
    refine wt_loop (m := s.length) (fun m e h => ∃ i l, UrI s m i l e h) ?_ ?_
    · clear hn h0 x0
      rintro m e h ⟨i, l, hn, rfl, h0, h5, h6, il, ll, fu, heq⟩
      rw [fe_self hn, ← heq]
      obtain ⟨m, rfl⟩ : ∃ m', m = m' + 1 := ⟨m - 1, by omega⟩
      by_cases hi : ¬ i < s.length
      · have hx : rufF s (m + 1) i l = none := by
          have : s[i]? = none := List.getElem?_eq_none (by omega)
          simp only [rufF, this]
        rw [hx]
        (try simp -dsimp (disch := omega) only [h0, h5, h6, len_s, wt_seq, wt_block, wt_region, wt_cond, wt_skip, wt_ret, wt_exit, wst_nil, wst_cons, wst_guard, andThen_normal, andThen_ret, andThen_exit, leave_normal, leave_ret, leave_exit, EndsA_ret, EndsA_normal, ot_move, ot_assign, ot_pick, ot_binOp, ot_unOp, ot_convert, ot_field, ot_index, ot_indexAddr, ot_fieldAddr, ot_slice, ot_build, ot_buildSlice, ot_extract, ot_makeInterface, ot_makeFunc, ot_nilCheck, ot_call, ot_len, ot_append, ot_box, ot_load, ot_store, ot_makeSlice, ot_alloc, ot_sliceData, ot_unsafeString, ct_bool, ct_true, ct_false, bt_some, gt_some, aval_tmp, aval_int, aval_bool, aval_str, aval_slice, aval_nilPointer, aval_nilIface, aval_func, aval_global, avals, apairs, bareP, AV.bare, AV.bares, bin_lss, bin_leq, bin_gtr, bin_geq, bin_eql, bin_neq, bin_add, bin_sub, bin_mul, toV_int, toV_bool, toV_string, un_neg, un_not, bin_str_eql, bin_str_neq, bin_str_lss, bin_str_leq, bin_str_gtr, bin_str_geq, aget_aput, length_aput, aput_none, Nat.reduceEqDiff, Nat.reduceLT, Nat.reduceAdd, ↓reduceIte, reduceCtorEq, Bool.not_false, Bool.not_true, Bool.true_or, true_and, Option.bind_some, Option.map_some, List.nil_append, List.cons_append, resA, resA1, resVal, Option.getD_some, Nat.reduceLeDiff, bnd_some, yieldA_eq, yldOf_some, boolOf_bool, boolOf_undef, gt_none, List.getElem?_toArray, List.getElem?_cons_succ, List.getElem?_cons_zero, bq_true, bq_false, decide_true, decide_false, Option.toList_none, Option.toList_some, List.head?_cons, List.head?_nil, nb_cfg, not_false_eq_true, cv_some, pm_some, pm_none, plainA_v, plain_bool, plain_int, plain_str, Bool.false_eq_true, if_false, Int.reduceLT, Int.reduceLE, Int.reduceEq, Int.reduceAdd, Int.reduceSub, Int.reduceMul, Int.reduceNeg, Int.reduceNe, decide_not, Bool.and_true, Bool.true_and, Bool.and_false, Bool.false_and, Bool.or_false, Bool.false_or, Bool.or_true, if_true, Bool.not_not, decide_eq_true, decide_eq_false, fe_get, fe_put, fe_len, upd_app])
        exact ⟨5, rfl⟩
      replace hi : i < s.length := by omega
      obtain ⟨c, hc⟩ : ∃ c, s[i]? = some c := ⟨s[i], List.getElem?_eq_getElem hi⟩
      have xi : indexA (cfgP ur6) 9 (str s) (.v (.int .i64 (i : Int))) = some (.v (.int .u8 ((c.toNat : Nat) : Int))) := ixl (k := i) rfl hc
      have hcl := UInt8.toNat_lt c
      by_cases k1 : c.toNat = 34
      · have hx : rufF s (m + 1) i l = some (i + 1, l) := by simp only [rufF, hc, if_pos k1]
        rw [hx]
        have cg : convA (cfgP ur6) 72 9 (gsl (byts l)) = some (str l) := convG
        (try simp -dsimp (disch := omega) only [h0, h5, h6, len_s, xi, cg, wrap64, wt_seq, wt_block, wt_region, wt_cond, wt_skip, wt_ret, wt_exit, wst_nil, wst_cons, wst_guard, andThen_normal, andThen_ret, andThen_exit, leave_normal, leave_ret, leave_exit, EndsA_ret, EndsA_normal, ot_move, ot_assign, ot_pick, ot_binOp, ot_unOp, ot_convert, ot_field, ot_index, ot_indexAddr, ot_fieldAddr, ot_slice, ot_build, ot_buildSlice, ot_extract, ot_makeInterface, ot_makeFunc, ot_nilCheck, ot_call, ot_len, ot_append, ot_box, ot_load, ot_store, ot_makeSlice, ot_alloc, ot_sliceData, ot_unsafeString, ct_bool, ct_true, ct_false, bt_some, gt_some, aval_tmp, aval_int, aval_bool, aval_str, aval_slice, aval_nilPointer, aval_nilIface, aval_func, aval_global, avals, apairs, bareP, AV.bare, AV.bares, bin_lss, bin_leq, bin_gtr, bin_geq, bin_eql, bin_neq, bin_add, bin_sub, bin_mul, toV_int, toV_bool, toV_string, un_neg, un_not, bin_str_eql, bin_str_neq, bin_str_lss, bin_str_leq, bin_str_gtr, bin_str_geq, aget_aput, length_aput, aput_none, Nat.reduceEqDiff, Nat.reduceLT, Nat.reduceAdd, ↓reduceIte, reduceCtorEq, Bool.not_false, Bool.not_true, Bool.true_or, true_and, Option.bind_some, Option.map_some, List.nil_append, List.cons_append, resA, resA1, resVal, Option.getD_some, Nat.reduceLeDiff, bnd_some, yieldA_eq, yldOf_some, boolOf_bool, boolOf_undef, gt_none, List.getElem?_toArray, List.getElem?_cons_succ, List.getElem?_cons_zero, bq_true, bq_false, decide_true, decide_false, Option.toList_none, Option.toList_some, List.head?_cons, List.head?_nil, nb_cfg, not_false_eq_true, cv_some, pm_some, pm_none, plainA_v, plain_bool, plain_int, plain_str, Bool.false_eq_true, if_false, Int.reduceLT, Int.reduceLE, Int.reduceEq, Int.reduceAdd, Int.reduceSub, Int.reduceMul, Int.reduceNeg, Int.reduceNe, decide_not, Bool.and_true, Bool.true_and, Bool.and_false, Bool.false_and, Bool.or_false, Bool.false_or, Bool.or_true, if_true, Bool.not_not, decide_eq_true, decide_eq_false, fe_get, fe_put, fe_len, upd_app])
        exact ⟨5, rfl⟩
      by_cases k2 : c.toNat = 92
      · obtain ⟨r, hr⟩ : ∃ r, s.drop (i + 1) = r := ⟨_, rfl⟩
        have hrl : r.length = s.length - (i + 1) := by rw [← hr, List.length_drop]
        have sl := sl_at (prim := ur6) hr (j := (i : Int) + 1) (by omega) (by omega)
        have q := escRP_eq (l := r) (by omega)
        unfold escRV at q
        cases he : escR r with
        | none =>
          have hx : rufF s (m + 1) i l = none := by simp only [rufF, hc, if_neg k1, if_pos k2, hr, he]
          rw [hx]
          rw [he] at q
          simp only at q
          (try simp -dsimp (disch := omega) only [h0, h5, h6, len_s, xi, wrap64, sl, ct_prim ur6_61, bare_s, q, wt_seq, wt_block, wt_region, wt_cond, wt_skip, wt_ret, wt_exit, wst_nil, wst_cons, wst_guard, andThen_normal, andThen_ret, andThen_exit, leave_normal, leave_ret, leave_exit, EndsA_ret, EndsA_normal, ot_move, ot_assign, ot_pick, ot_binOp, ot_unOp, ot_convert, ot_field, ot_index, ot_indexAddr, ot_fieldAddr, ot_slice, ot_build, ot_buildSlice, ot_extract, ot_makeInterface, ot_makeFunc, ot_nilCheck, ot_call, ot_len, ot_append, ot_box, ot_load, ot_store, ot_makeSlice, ot_alloc, ot_sliceData, ot_unsafeString, ct_bool, ct_true, ct_false, bt_some, gt_some, aval_tmp, aval_int, aval_bool, aval_str, aval_slice, aval_nilPointer, aval_nilIface, aval_func, aval_global, avals, apairs, bareP, AV.bare, AV.bares, bin_lss, bin_leq, bin_gtr, bin_geq, bin_eql, bin_neq, bin_add, bin_sub, bin_mul, toV_int, toV_bool, toV_string, un_neg, un_not, bin_str_eql, bin_str_neq, bin_str_lss, bin_str_leq, bin_str_gtr, bin_str_geq, aget_aput, length_aput, aput_none, Nat.reduceEqDiff, Nat.reduceLT, Nat.reduceAdd, ↓reduceIte, reduceCtorEq, Bool.not_false, Bool.not_true, Bool.true_or, true_and, Option.bind_some, Option.map_some, List.nil_append, List.cons_append, resA, resA1, resVal, Option.getD_some, Nat.reduceLeDiff, bnd_some, yieldA_eq, yldOf_some, boolOf_bool, boolOf_undef, gt_none, List.getElem?_toArray, List.getElem?_cons_succ, List.getElem?_cons_zero, bq_true, bq_false, decide_true, decide_false, Option.toList_none, Option.toList_some, List.head?_cons, List.head?_nil, nb_cfg, not_false_eq_true, cv_some, pm_some, pm_none, plainA_v, plain_bool, plain_int, plain_str, Bool.false_eq_true, if_false, Int.reduceLT, Int.reduceLE, Int.reduceEq, Int.reduceAdd, Int.reduceSub, Int.reduceMul, Int.reduceNeg, Int.reduceNe, decide_not, Bool.and_true, Bool.true_and, Bool.and_false, Bool.false_and, Bool.or_false, Bool.false_or, Bool.or_true, if_true, Bool.not_not, decide_eq_true, decide_eq_false, fe_get, fe_put, fe_len, upd_app])
          exact ⟨5, rfl⟩
        | some p =>
          obtain ⟨x, n⟩ := p
          obtain ⟨p1, p2, p3, p4⟩ := escR_pos he
          have hx : rufF s (m + 1) i l = rufF s m (i + 1 + n) (l ++ x) := by simp only [rufF, hc, if_neg k1, if_pos k2, hr, he]
          rw [hx] at heq ⊢
          rw [he] at q
          simp only at q
          unfold clB at q
          have ap := apF (prim := ur6) (l := l) p3 (by omega)
          have l2 : (l ++ x).length ≤ 4 * (i + 1 + n) := by rw [List.length_append]; omega
          obtain ⟨y, hy⟩ : ∃ y, l ++ x = y := ⟨_, rfl⟩
          rw [hy] at ap l2 heq ⊢
          (try simp -dsimp (disch := omega) only [h0, h5, h6, len_s, xi, wrap64, sl, ct_prim ur6_61, bare_s, q, ap, wt_seq, wt_block, wt_region, wt_cond, wt_skip, wt_ret, wt_exit, wst_nil, wst_cons, wst_guard, andThen_normal, andThen_ret, andThen_exit, leave_normal, leave_ret, leave_exit, EndsA_ret, EndsA_normal, ot_move, ot_assign, ot_pick, ot_binOp, ot_unOp, ot_convert, ot_field, ot_index, ot_indexAddr, ot_fieldAddr, ot_slice, ot_build, ot_buildSlice, ot_extract, ot_makeInterface, ot_makeFunc, ot_nilCheck, ot_call, ot_len, ot_append, ot_box, ot_load, ot_store, ot_makeSlice, ot_alloc, ot_sliceData, ot_unsafeString, ct_bool, ct_true, ct_false, bt_some, gt_some, aval_tmp, aval_int, aval_bool, aval_str, aval_slice, aval_nilPointer, aval_nilIface, aval_func, aval_global, avals, apairs, bareP, AV.bare, AV.bares, bin_lss, bin_leq, bin_gtr, bin_geq, bin_eql, bin_neq, bin_add, bin_sub, bin_mul, toV_int, toV_bool, toV_string, un_neg, un_not, bin_str_eql, bin_str_neq, bin_str_lss, bin_str_leq, bin_str_gtr, bin_str_geq, aget_aput, length_aput, aput_none, Nat.reduceEqDiff, Nat.reduceLT, Nat.reduceAdd, ↓reduceIte, reduceCtorEq, Bool.not_false, Bool.not_true, Bool.true_or, true_and, Option.bind_some, Option.map_some, List.nil_append, List.cons_append, resA, resA1, resVal, Option.getD_some, Nat.reduceLeDiff, bnd_some, yieldA_eq, yldOf_some, boolOf_bool, boolOf_undef, gt_none, List.getElem?_toArray, List.getElem?_cons_succ, List.getElem?_cons_zero, bq_true, bq_false, decide_true, decide_false, Option.toList_none, Option.toList_some, List.head?_cons, List.head?_nil, nb_cfg, not_false_eq_true, cv_some, pm_some, pm_none, plainA_v, plain_bool, plain_int, plain_str, Bool.false_eq_true, if_false, Int.reduceLT, Int.reduceLE, Int.reduceEq, Int.reduceAdd, Int.reduceSub, Int.reduceMul, Int.reduceNeg, Int.reduceNe, decide_not, Bool.and_true, Bool.true_and, Bool.and_false, Bool.false_and, Bool.or_false, Bool.false_or, Bool.or_true, if_true, Bool.not_not, decide_eq_true, decide_eq_false, fe_get, fe_put, fe_len, upd_app])
          refine ⟨m, by omega, i + 1 + n, y, fe_len, rfl, ?_, ?_, ?_, by omega, l2, by omega, heq⟩
          all_goals (try simp -dsimp (disch := omega) only [h0, h5, h6, wt_seq, wt_block, wt_region, wt_cond, wt_skip, wt_ret, wt_exit, wst_nil, wst_cons, wst_guard, andThen_normal, andThen_ret, andThen_exit, leave_normal, leave_ret, leave_exit, EndsA_ret, EndsA_normal, ot_move, ot_assign, ot_pick, ot_binOp, ot_unOp, ot_convert, ot_field, ot_index, ot_indexAddr, ot_fieldAddr, ot_slice, ot_build, ot_buildSlice, ot_extract, ot_makeInterface, ot_makeFunc, ot_nilCheck, ot_call, ot_len, ot_append, ot_box, ot_load, ot_store, ot_makeSlice, ot_alloc, ot_sliceData, ot_unsafeString, ct_bool, ct_true, ct_false, bt_some, gt_some, aval_tmp, aval_int, aval_bool, aval_str, aval_slice, aval_nilPointer, aval_nilIface, aval_func, aval_global, avals, apairs, bareP, AV.bare, AV.bares, bin_lss, bin_leq, bin_gtr, bin_geq, bin_eql, bin_neq, bin_add, bin_sub, bin_mul, toV_int, toV_bool, toV_string, un_neg, un_not, bin_str_eql, bin_str_neq, bin_str_lss, bin_str_leq, bin_str_gtr, bin_str_geq, aget_aput, length_aput, aput_none, Nat.reduceEqDiff, Nat.reduceLT, Nat.reduceAdd, ↓reduceIte, reduceCtorEq, Bool.not_false, Bool.not_true, Bool.true_or, true_and, Option.bind_some, Option.map_some, List.nil_append, List.cons_append, resA, resA1, resVal, Option.getD_some, Nat.reduceLeDiff, bnd_some, yieldA_eq, yldOf_some, boolOf_bool, boolOf_undef, gt_none, List.getElem?_toArray, List.getElem?_cons_succ, List.getElem?_cons_zero, bq_true, bq_false, decide_true, decide_false, Option.toList_none, Option.toList_some, List.head?_cons, List.head?_nil, nb_cfg, not_false_eq_true, cv_some, pm_some, pm_none, plainA_v, plain_bool, plain_int, plain_str, Bool.false_eq_true, if_false, Int.reduceLT, Int.reduceLE, Int.reduceEq, Int.reduceAdd, Int.reduceSub, Int.reduceMul, Int.reduceNeg, Int.reduceNe, decide_not, Bool.and_true, Bool.true_and, Bool.and_false, Bool.false_and, Bool.or_false, Bool.false_or, Bool.or_true, if_true, Bool.not_not, decide_eq_true, decide_eq_false, fe_get, fe_put, fe_len, upd_app])
          exact congrArg (fun z => AV.v (Value.int IntKind.i64 z)) (by omega)
      obtain ⟨r, hr⟩ : ∃ r, s.drop i = r := ⟨_, rfl⟩
      have hrl : r.length = s.length - i := by rw [← hr, List.length_drop]
      have sl := sl_at (prim := ur6) hr (j := (i : Int)) rfl (by omega)
      have q := rune1P_eq (l := r) (by omega)
      have hst := (stepN_le r).1
      have hst4 := (stepN_le r).2
      unfold rune1V at q
      by_cases k3 : stepN r = 0
      · have hx : rufF s (m + 1) i l = none := by simp only [rufF, hc, if_neg k1, if_neg k2, hr, if_pos (Or.inl k3)]
        rw [hx]
        (try simp -dsimp (disch := omega) only [h0, h5, h6, len_s, xi, wrap64, sl, ct_prim ur6_62, bare_s, q, wt_seq, wt_block, wt_region, wt_cond, wt_skip, wt_ret, wt_exit, wst_nil, wst_cons, wst_guard, andThen_normal, andThen_ret, andThen_exit, leave_normal, leave_ret, leave_exit, EndsA_ret, EndsA_normal, ot_move, ot_assign, ot_pick, ot_binOp, ot_unOp, ot_convert, ot_field, ot_index, ot_indexAddr, ot_fieldAddr, ot_slice, ot_build, ot_buildSlice, ot_extract, ot_makeInterface, ot_makeFunc, ot_nilCheck, ot_call, ot_len, ot_append, ot_box, ot_load, ot_store, ot_makeSlice, ot_alloc, ot_sliceData, ot_unsafeString, ct_bool, ct_true, ct_false, bt_some, gt_some, aval_tmp, aval_int, aval_bool, aval_str, aval_slice, aval_nilPointer, aval_nilIface, aval_func, aval_global, avals, apairs, bareP, AV.bare, AV.bares, bin_lss, bin_leq, bin_gtr, bin_geq, bin_eql, bin_neq, bin_add, bin_sub, bin_mul, toV_int, toV_bool, toV_string, un_neg, un_not, bin_str_eql, bin_str_neq, bin_str_lss, bin_str_leq, bin_str_gtr, bin_str_geq, aget_aput, length_aput, aput_none, Nat.reduceEqDiff, Nat.reduceLT, Nat.reduceAdd, ↓reduceIte, reduceCtorEq, Bool.not_false, Bool.not_true, Bool.true_or, true_and, Option.bind_some, Option.map_some, List.nil_append, List.cons_append, resA, resA1, resVal, Option.getD_some, Nat.reduceLeDiff, bnd_some, yieldA_eq, yldOf_some, boolOf_bool, boolOf_undef, gt_none, List.getElem?_toArray, List.getElem?_cons_succ, List.getElem?_cons_zero, bq_true, bq_false, decide_true, decide_false, Option.toList_none, Option.toList_some, List.head?_cons, List.head?_nil, nb_cfg, not_false_eq_true, cv_some, pm_some, pm_none, plainA_v, plain_bool, plain_int, plain_str, Bool.false_eq_true, if_false, Int.reduceLT, Int.reduceLE, Int.reduceEq, Int.reduceAdd, Int.reduceSub, Int.reduceMul, Int.reduceNeg, Int.reduceNe, decide_not, Bool.and_true, Bool.true_and, Bool.and_false, Bool.false_and, Bool.or_false, Bool.false_or, Bool.or_true, if_true, Bool.not_not, decide_eq_true, decide_eq_false, fe_get, fe_put, fe_len, upd_app])
        exact ⟨5, rfl⟩
      by_cases k4 : c.toNat < 32
      · have hx : rufF s (m + 1) i l = none := by simp only [rufF, hc, if_neg k1, if_neg k2, hr, if_pos (Or.inr k4)]
        rw [hx]
        (try simp -dsimp (disch := omega) only [h0, h5, h6, len_s, xi, wrap64, sl, ct_prim ur6_62, bare_s, q, wt_seq, wt_block, wt_region, wt_cond, wt_skip, wt_ret, wt_exit, wst_nil, wst_cons, wst_guard, andThen_normal, andThen_ret, andThen_exit, leave_normal, leave_ret, leave_exit, EndsA_ret, EndsA_normal, ot_move, ot_assign, ot_pick, ot_binOp, ot_unOp, ot_convert, ot_field, ot_index, ot_indexAddr, ot_fieldAddr, ot_slice, ot_build, ot_buildSlice, ot_extract, ot_makeInterface, ot_makeFunc, ot_nilCheck, ot_call, ot_len, ot_append, ot_box, ot_load, ot_store, ot_makeSlice, ot_alloc, ot_sliceData, ot_unsafeString, ct_bool, ct_true, ct_false, bt_some, gt_some, aval_tmp, aval_int, aval_bool, aval_str, aval_slice, aval_nilPointer, aval_nilIface, aval_func, aval_global, avals, apairs, bareP, AV.bare, AV.bares, bin_lss, bin_leq, bin_gtr, bin_geq, bin_eql, bin_neq, bin_add, bin_sub, bin_mul, toV_int, toV_bool, toV_string, un_neg, un_not, bin_str_eql, bin_str_neq, bin_str_lss, bin_str_leq, bin_str_gtr, bin_str_geq, aget_aput, length_aput, aput_none, Nat.reduceEqDiff, Nat.reduceLT, Nat.reduceAdd, ↓reduceIte, reduceCtorEq, Bool.not_false, Bool.not_true, Bool.true_or, true_and, Option.bind_some, Option.map_some, List.nil_append, List.cons_append, resA, resA1, resVal, Option.getD_some, Nat.reduceLeDiff, bnd_some, yieldA_eq, yldOf_some, boolOf_bool, boolOf_undef, gt_none, List.getElem?_toArray, List.getElem?_cons_succ, List.getElem?_cons_zero, bq_true, bq_false, decide_true, decide_false, Option.toList_none, Option.toList_some, List.head?_cons, List.head?_nil, nb_cfg, not_false_eq_true, cv_some, pm_some, pm_none, plainA_v, plain_bool, plain_int, plain_str, Bool.false_eq_true, if_false, Int.reduceLT, Int.reduceLE, Int.reduceEq, Int.reduceAdd, Int.reduceSub, Int.reduceMul, Int.reduceNeg, Int.reduceNe, decide_not, Bool.and_true, Bool.true_and, Bool.and_false, Bool.false_and, Bool.or_false, Bool.false_or, Bool.or_true, if_true, Bool.not_not, decide_eq_true, decide_eq_false, fe_get, fe_put, fe_len, upd_app])
        exact ⟨5, rfl⟩
      obtain ⟨x, hx0⟩ : ∃ x, r.take (stepN r) = x := ⟨_, rfl⟩
      have hxl : x.length = stepN r := by rw [← hx0, List.length_take]; omega
      have hx : rufF s (m + 1) i l = rufF s m (i + stepN r) (l ++ x) := by simp only [rufF, hc, if_neg k1, if_neg k2, hr, hx0, if_neg (show ¬ (stepN r = 0 ∨ c.toNat < 32) by omega)]
      rw [hx] at heq ⊢
      have sm := slM (prim := ur6) (l := s) (r := x) (i := i) (n := stepN r) (j := (i : Int) + (stepN r : Int)) (by omega) (by rw [hr]; exact hx0) (by omega)
      have ap := apS (prim := ur6) (l := l) (b := x) (by intro e; rw [e] at hxl; simp at hxl; omega) (by omega)
      have l2 : (l ++ x).length ≤ 4 * (i + stepN r) := by rw [List.length_append]; omega
      obtain ⟨y, hy⟩ : ∃ y, l ++ x = y := ⟨_, rfl⟩
      rw [hy] at ap l2 heq ⊢
      (try simp -dsimp (disch := omega) only [h0, h5, h6, len_s, xi, wrap64, sl, ct_prim ur6_62, bare_s, q, sm, ap, wt_seq, wt_block, wt_region, wt_cond, wt_skip, wt_ret, wt_exit, wst_nil, wst_cons, wst_guard, andThen_normal, andThen_ret, andThen_exit, leave_normal, leave_ret, leave_exit, EndsA_ret, EndsA_normal, ot_move, ot_assign, ot_pick, ot_binOp, ot_unOp, ot_convert, ot_field, ot_index, ot_indexAddr, ot_fieldAddr, ot_slice, ot_build, ot_buildSlice, ot_extract, ot_makeInterface, ot_makeFunc, ot_nilCheck, ot_call, ot_len, ot_append, ot_box, ot_load, ot_store, ot_makeSlice, ot_alloc, ot_sliceData, ot_unsafeString, ct_bool, ct_true, ct_false, bt_some, gt_some, aval_tmp, aval_int, aval_bool, aval_str, aval_slice, aval_nilPointer, aval_nilIface, aval_func, aval_global, avals, apairs, bareP, AV.bare, AV.bares, bin_lss, bin_leq, bin_gtr, bin_geq, bin_eql, bin_neq, bin_add, bin_sub, bin_mul, toV_int, toV_bool, toV_string, un_neg, un_not, bin_str_eql, bin_str_neq, bin_str_lss, bin_str_leq, bin_str_gtr, bin_str_geq, aget_aput, length_aput, aput_none, Nat.reduceEqDiff, Nat.reduceLT, Nat.reduceAdd, ↓reduceIte, reduceCtorEq, Bool.not_false, Bool.not_true, Bool.true_or, true_and, Option.bind_some, Option.map_some, List.nil_append, List.cons_append, resA, resA1, resVal, Option.getD_some, Nat.reduceLeDiff, bnd_some, yieldA_eq, yldOf_some, boolOf_bool, boolOf_undef, gt_none, List.getElem?_toArray, List.getElem?_cons_succ, List.getElem?_cons_zero, bq_true, bq_false, decide_true, decide_false, Option.toList_none, Option.toList_some, List.head?_cons, List.head?_nil, nb_cfg, not_false_eq_true, cv_some, pm_some, pm_none, plainA_v, plain_bool, plain_int, plain_str, Bool.false_eq_true, if_false, Int.reduceLT, Int.reduceLE, Int.reduceEq, Int.reduceAdd, Int.reduceSub, Int.reduceMul, Int.reduceNeg, Int.reduceNe, decide_not, Bool.and_true, Bool.true_and, Bool.and_false, Bool.false_and, Bool.or_false, Bool.false_or, Bool.or_true, if_true, Bool.not_not, decide_eq_true, decide_eq_false, fe_get, fe_put, fe_len, upd_app])
      refine ⟨m, by omega, i + stepN r, y, fe_len, rfl, ?_, ?_, ?_, by omega, l2, by omega, heq⟩
      all_goals (try simp -dsimp (disch := omega) only [h0, h5, h6, wt_seq, wt_block, wt_region, wt_cond, wt_skip, wt_ret, wt_exit, wst_nil, wst_cons, wst_guard, andThen_normal, andThen_ret, andThen_exit, leave_normal, leave_ret, leave_exit, EndsA_ret, EndsA_normal, ot_move, ot_assign, ot_pick, ot_binOp, ot_unOp, ot_convert, ot_field, ot_index, ot_indexAddr, ot_fieldAddr, ot_slice, ot_build, ot_buildSlice, ot_extract, ot_makeInterface, ot_makeFunc, ot_nilCheck, ot_call, ot_len, ot_append, ot_box, ot_load, ot_store, ot_makeSlice, ot_alloc, ot_sliceData, ot_unsafeString, ct_bool, ct_true, ct_false, bt_some, gt_some, aval_tmp, aval_int, aval_bool, aval_str, aval_slice, aval_nilPointer, aval_nilIface, aval_func, aval_global, avals, apairs, bareP, AV.bare, AV.bares, bin_lss, bin_leq, bin_gtr, bin_geq, bin_eql, bin_neq, bin_add, bin_sub, bin_mul, toV_int, toV_bool, toV_string, un_neg, un_not, bin_str_eql, bin_str_neq, bin_str_lss, bin_str_leq, bin_str_gtr, bin_str_geq, aget_aput, length_aput, aput_none, Nat.reduceEqDiff, Nat.reduceLT, Nat.reduceAdd, ↓reduceIte, reduceCtorEq, Bool.not_false, Bool.not_true, Bool.true_or, true_and, Option.bind_some, Option.map_some, List.nil_append, List.cons_append, resA, resA1, resVal, Option.getD_some, Nat.reduceLeDiff, bnd_some, yieldA_eq, yldOf_some, boolOf_bool, boolOf_undef, gt_none, List.getElem?_toArray, List.getElem?_cons_succ, List.getElem?_cons_zero, bq_true, bq_false, decide_true, decide_false, Option.toList_none, Option.toList_some, List.head?_cons, List.head?_nil, nb_cfg, not_false_eq_true, cv_some, pm_some, pm_none, plainA_v, plain_bool, plain_int, plain_str, Bool.false_eq_true, if_false, Int.reduceLT, Int.reduceLE, Int.reduceEq, Int.reduceAdd, Int.reduceSub, Int.reduceMul, Int.reduceNeg, Int.reduceNe, decide_not, Bool.and_true, Bool.true_and, Bool.and_false, Bool.false_and, Bool.or_false, Bool.false_or, Bool.or_true, if_true, Bool.not_not, decide_eq_true, decide_eq_false, fe_get, fe_put, fe_len, upd_app])
      exact congrArg (fun z => AV.v (Value.int IntKind.i64 z)) (by omega)
    · refine ⟨1, [], fe_len, rfl, ?_, ?_, ?_, by omega, by simp, by omega, rfl⟩
      all_goals (try simp -dsimp (disch := omega) only [h0, wt_seq, wt_block, wt_region, wt_cond, wt_skip, wt_ret, wt_exit, wst_nil, wst_cons, wst_guard, andThen_normal, andThen_ret, andThen_exit, leave_normal, leave_ret, leave_exit, EndsA_ret, EndsA_normal, ot_move, ot_assign, ot_pick, ot_binOp, ot_unOp, ot_convert, ot_field, ot_index, ot_indexAddr, ot_fieldAddr, ot_slice, ot_build, ot_buildSlice, ot_extract, ot_makeInterface, ot_makeFunc, ot_nilCheck, ot_call, ot_len, ot_append, ot_box, ot_load, ot_store, ot_makeSlice, ot_alloc, ot_sliceData, ot_unsafeString, ct_bool, ct_true, ct_false, bt_some, gt_some, aval_tmp, aval_int, aval_bool, aval_str, aval_slice, aval_nilPointer, aval_nilIface, aval_func, aval_global, avals, apairs, bareP, AV.bare, AV.bares, bin_lss, bin_leq, bin_gtr, bin_geq, bin_eql, bin_neq, bin_add, bin_sub, bin_mul, toV_int, toV_bool, toV_string, un_neg, un_not, bin_str_eql, bin_str_neq, bin_str_lss, bin_str_leq, bin_str_gtr, bin_str_geq, aget_aput, length_aput, aput_none, Nat.reduceEqDiff, Nat.reduceLT, Nat.reduceAdd, ↓reduceIte, reduceCtorEq, Bool.not_false, Bool.not_true, Bool.true_or, true_and, Option.bind_some, Option.map_some, List.nil_append, List.cons_append, resA, resA1, resVal, Option.getD_some, Nat.reduceLeDiff, bnd_some, yieldA_eq, yldOf_some, boolOf_bool, boolOf_undef, gt_none, List.getElem?_toArray, List.getElem?_cons_succ, List.getElem?_cons_zero, bq_true, bq_false, decide_true, decide_false, Option.toList_none, Option.toList_some, List.head?_cons, List.head?_nil, nb_cfg, not_false_eq_true, cv_some, pm_some, pm_none, plainA_v, plain_bool, plain_int, plain_str, Bool.false_eq_true, if_false, Int.reduceLT, Int.reduceLE, Int.reduceEq, Int.reduceAdd, Int.reduceSub, Int.reduceMul, Int.reduceNeg, Int.reduceNe, decide_not, Bool.and_true, Bool.true_and, Bool.and_false, Bool.false_and, Bool.or_false, Bool.false_or, Bool.or_true, if_true, Bool.not_not, decide_eq_true, decide_eq_false, fe_get, fe_put, fe_len, upd_app])
      all_goals rfl
end Go.Proofs.YtjejeijldllloaaDoor

/- Chapter 1: what is read is as the document says: plain facts. -/
namespace Go.Proofs.YtjejeijldllloaaDoor
open Go.AM
theorem hexF_drop (s : List UInt8) (a : Nat) : ∀ (i k n : Nat), (hexF (s.drop a) i k n).1 = (hexF s i (a + k) n).1
  | 0, k, n => rfl
  | i + 1, k, n => by
    simp only [hexF, List.getElem?_drop]
    cases s[a + k]? with
    | none => rfl
    | some c =>
      simp only
      cases digV c with
      | none => rfl
      | some d => exact hexF_drop s a i (k + 1) _
theorem hexF_end {s : List UInt8} : ∀ {i k n m : Nat}, (hexF s i k n).1 = some m → (hexF s i k n).2 = k + i
  | 0, _, _, _, _ => rfl
  | i + 1, k, n, m, h => by
    cases hc : s[k]? with
    | none => simp only [hexF, hc] at h; cases h
    | some c =>
      cases hd : digV c with
      | none => simp only [hexF, hc, hd] at h; cases h
      | some d =>
        simp only [hexF, hc, hd] at h ⊢
        rw [hexF_end h]
        omega
theorem encU_1 {r : Nat} (h : r ≤ 127) : stepN (encU r) = 1 ∧ (encU r).length = 1 := by
  rw [enc_small h]
  refine ⟨?_, rfl⟩
  exact stepN_ascii (by rw [UInt8.toNat_ofNat', Nat.mod_eq_of_lt (by omega)]; omega)
theorem u8n {n : Nat} (h : n < 256) : (UInt8.ofNat n).toNat = n := by rw [UInt8.toNat_ofNat', Nat.mod_eq_of_lt h]
/-- A code point's bytes are one step. -/
theorem encU_step {r : Nat} (h1 : r ≤ 1114111) (h2 : r < 55296 ∨ 57344 ≤ r) : stepN (encU r) = (encU r).length := by
  by_cases k1 : r ≤ 127
  · rw [(encU_1 k1).1, (encU_1 k1).2]
  by_cases k2 : r ≤ 2047
  · have e : encU r = [UInt8.ofNat (192 + r / 64), UInt8.ofNat (128 + r % 64)] := by unfold encU encN; rw [if_neg k1, if_pos k2]; rfl
    have z : szN (UInt8.ofNat (192 + r / 64)).toNat = 2 := by rw [u8n (by omega)]; unfold szN; rw [if_neg (by omega), if_neg (by omega), if_pos (by omega)]
    rw [e, step2_iff z, sec2_iff (by rw [u8n (by omega)]; omega) (by rw [u8n (by omega)]; omega), if_pos (by rw [decide_eq_true_eq, u8n (by omega)]; omega)]
    rfl
  by_cases k3 : r ≤ 65535
  · have e : encU r = [UInt8.ofNat (224 + r / 4096), UInt8.ofNat (128 + r / 64 % 64), UInt8.ofNat (128 + r % 64)] := by unfold encU encN; rw [if_neg k1, if_neg k2, if_pos k3]; rfl
    have z : szN (UInt8.ofNat (224 + r / 4096)).toNat = 3 := by rw [u8n (by omega)]; unfold szN; rw [if_neg (by omega), if_neg (by omega), if_neg (by omega), if_pos (by omega)]
    rw [e, step3_iff z, sec3_iff (by rw [u8n (by omega)]; omega) (by rw [u8n (by omega)]; omega) (m := r % 64) (by omega), cont_iff, if_pos (by
      rw [u8n (n := 224 + r / 4096) (by omega), u8n (n := 128 + r / 64 % 64) (by omega), u8n (n := 128 + r % 64) (by omega), Bool.and_eq_true, decide_eq_true_eq, decide_eq_true_eq]
      omega)]
    rfl
  have e : encU r = [UInt8.ofNat (240 + r / 262144), UInt8.ofNat (128 + r / 4096 % 64), UInt8.ofNat (128 + r / 64 % 64), UInt8.ofNat (128 + r % 64)] := by unfold encU encN; rw [if_neg k1, if_neg k2, if_neg k3]; rfl
  have z : szN (UInt8.ofNat (240 + r / 262144)).toNat = 4 := by rw [u8n (by omega)]; unfold szN; rw [if_neg (by omega), if_neg (by omega), if_neg (by omega), if_neg (by omega), if_pos (by omega)]
  rw [e, step4_iff z, sec4_iff (by rw [u8n (by omega)]; omega) (by rw [u8n (by omega)]; omega) (m := r % 4096) (by omega), cont_iff, cont_iff, if_pos (by
    rw [u8n (n := 240 + r / 262144) (by omega), u8n (n := 128 + r / 4096 % 64) (by omega), u8n (n := 128 + r / 64 % 64) (by omega), u8n (n := 128 + r % 64) (by omega), Bool.and_eq_true, Bool.and_eq_true, decide_eq_true_eq, decide_eq_true_eq, decide_eq_true_eq]
    omega)]
  rfl
theorem step_all {x : List UInt8} (hx : x ≠ []) (h : stepN x = x.length) : cnt x = some 1 ∧ ∀ b, x[0]? = some b → ¬ isCont b := by
  have h0 : stepN x ≠ 0 := by
    rw [h]
    intro e
    exact hx (List.length_eq_zero_iff.1 e)
  refine ⟨by rw [cnt_step h0, h, List.drop_length, cnt_nil]; rfl, fun b hb hc => ?_⟩
  have hg : utfB x = true := by unfold utfB; rw [cnt_step h0, h, List.drop_length, cnt_nil]; rfl
  rw [utfB_cont hb hc] at hg
  cases hg
theorem encU_good {r : Nat} (h1 : r ≤ 1114111) (h2 : r < 55296 ∨ 57344 ≤ r) : cnt (encU r) = some 1 ∧ ∀ b, (encU r)[0]? = some b → ¬ isCont b := step_all (encU_ne r) (encU_step h1 h2)
theorem escR_good {s x : List UInt8} {n : Nat} (h : escR s = some (x, n)) : utfB x = true ∧ ∀ b, x[0]? = some b → ¬ isCont b := by
  have fin : ∀ r, r ≤ 1114111 → (r < 55296 ∨ 57344 ≤ r) → utfB (encU r) = true ∧ ∀ b, (encU r)[0]? = some b → ¬ isCont b := fun r h1 h2 => ⟨by unfold utfB; rw [(encU_good h1 h2).1]; rfl, (encU_good h1 h2).2⟩
  unfold escR at h
  split at h
  · cases h
  · rename_i c hc
    split at h
    · rename_i x' hlo
      injection h with h; injection h with h1 h2; subst h1 h2
      have hx : x' ≤ 127 := by
        unfold longN at hlo
        (repeat' split at hlo) <;> first | (injection hlo with hlo; omega) | cases hlo
      have := fin x' (by omega) (by omega)
      rwa [enc_small hx] at this
    · split at h
      · split at h
        · cases h
        · rename_i m hm
          have hk := hexF_16 hm
          split at h
          · cases h
          · split at h
            · injection h with h; injection h with h1 h2; subst h1 h2
              exact fin _ (by omega) (by omega)
            · split at h
              · split at h
                · rename_i m2 hm2
                  split at h
                  · injection h with h; injection h with h1 h2; subst h1 h2
                    exact fin _ (by omega) (by omega)
                  · cases h
                · cases h
              · cases h
      · cases h
theorem halfF_eq (t : List UInt8) (k n : Nat) : halfF t k n = if t[k]? = some 92 ∧ t[k + 1]? = some 117 then
    (match (hexF t 4 (k + 2) 0).1 with
      | some m => if m < 56320 ∨ 57344 ≤ m then none else some (65536 + (n - 55296) * 1024 + (m - 56320))
      | none => none, (hexF t 4 (k + 2) 0).2)
  else (none, nextK t (nextK t k)) := rfl
/-- The two readings of an escape are one. -/
theorem esc_eq (t : List UInt8) (k : Nat) (l : List UInt8) : (escF t k l).1 = (escR (t.drop k)).isSome ∧ ∀ x n, escR (t.drop k) = some (x, n) → escF t k l = (true, k + n, l ++ x) := by
  have e0 : (t.drop k)[0]? = t[k]? := by rw [List.getElem?_drop]; rfl
  unfold escF escR
  rw [e0]
  cases hc : t[k]? with
  | none => exact ⟨rfl, fun x n h => by cases h⟩
  | some c =>
    simp only
    by_cases hu : c.toNat = 117
    · have hlo : longN c.toNat = none := by rw [hu]; rfl
      rw [if_pos hu, hlo]
      simp only
      rw [if_pos hu, List.drop_drop, hexF_drop, Nat.add_zero]
      unfold pointF
      cases hn : (hexF t 4 (k + 1) 0).1 with
      | none => exact ⟨rfl, fun x n h => by cases h⟩
      | some n =>
        have hen := hexF_end hn
        simp only
        by_cases k1 : 56320 ≤ n ∧ n < 57344
        · rw [if_pos k1, if_pos k1]
          exact ⟨rfl, fun x n h => by cases h⟩
        rw [if_neg k1, if_neg k1]
        by_cases k2 : n < 55296 ∨ 57344 ≤ n
        · rw [if_pos k2, if_neg (by omega)]
          refine ⟨rfl, fun x m h => ?_⟩
          injection h with h; injection h with h1 h2; subst h1 h2
          simp only [pointL, hen, Option.isSome_some]
        rw [if_neg k2, if_pos (by omega), hen, halfF_eq]
        have e5 : (t.drop k)[5]? = t[k + 1 + 4]? := by rw [List.getElem?_drop]
        have e6 : (t.drop k)[6]? = t[k + 1 + 4 + 1]? := by rw [List.getElem?_drop]
        rw [e5, e6, List.drop_drop, hexF_drop, Nat.add_zero, List.length_drop, show k + 1 + 4 + 2 = k + 7 by omega]
        by_cases k3 : t[k + 1 + 4]? = some 92 ∧ t[k + 1 + 4 + 1]? = some 117
        · rw [if_pos k3]
          simp only
          cases hm : (hexF t 4 (k + 7) 0).1 with
          | none =>
            by_cases k4 : 11 ≤ t.length - k ∧ t[k + 1 + 4]? = some 92 ∧ t[k + 1 + 4 + 1]? = some 117
            · rw [if_pos k4]
              exact ⟨rfl, fun x n h => by cases h⟩
            · rw [if_neg k4]
              exact ⟨rfl, fun x n h => by cases h⟩
          | some m =>
            have hem := hexF_end hm
            have hl := hexF_some hm
            rw [if_pos ⟨by omega, k3⟩]
            simp only
            by_cases k5 : 56320 ≤ m ∧ m < 57344
            · rw [if_pos k5, if_neg (by omega)]
              obtain ⟨N, hN⟩ : ∃ N, 65536 + (n - 55296) * 1024 + (m - 56320) = N := ⟨_, rfl⟩
              rw [hN, hem]
              clear hN
              refine ⟨by simp only [Option.isSome_some], fun x m' h => ?_⟩
              injection h with h; injection h with h1 h2; subst h1 h2
              simp only [pointL, Option.isSome_some]
            · rw [if_neg k5, if_pos (by omega)]
              exact ⟨rfl, fun x n h => by cases h⟩
        · rw [if_neg k3, if_neg (fun h => k3 h.2)]
          exact ⟨rfl, fun x n h => by cases h⟩
    · rw [if_neg hu]
      cases hlo : longN c.toNat with
      | none =>
        simp only
        rw [if_neg hu]
        exact ⟨rfl, fun x n h => by cases h⟩
      | some x =>
        refine ⟨rfl, fun y m h => ?_⟩
        injection h with h; injection h with h1 h2; subst h1 h2
        rfl
def unqR (p : Bool × Nat × List UInt8) : Option (Nat × List UInt8) := if p.1 then some (p.2.1, p.2.2) else none
/-- What is read is good; and how it comes about. -/
theorem unq_true {s : List UInt8} : ∀ (f k : Nat) (l : List UInt8) (k' : Nat) (l' : List UInt8), unqF s f k l = (true, k', l') → utfB l' = true ∧ ∃ raw X, l' = l ++ (raw ++ X) ∧ (∃ Y, s.drop k = raw ++ Y) ∧ (∀ b, X[0]? = some b → ¬ isCont b) ∧ ∀ c, s[k]? = some c → c.toNat ≠ 34 → c.toNat ≠ 92 → raw ≠ []
  | 0, k, l, k', l', h => by simp [unqF] at h
  | f + 1, k, l, k', l', h => by
    cases hc : s[k]? with
    | none => simp [unqF, hc] at h
    | some c =>
      simp only [unqF, hc] at h
      by_cases k0 : c.toNat < 32
      · rw [if_pos k0] at h; cases h
      rw [if_neg k0] at h
      by_cases k1 : c.toNat = 34
      · rw [if_pos k1] at h
        injection h with h1 h2
        injection h2 with h2 h3
        subst h3
        refine ⟨h1, [], [], by simp, ⟨s.drop k, rfl⟩, ?_, ?_⟩
        · intro b hb
          simp at hb
        · intro d hd h34 _
          injection hd with hd
          subst hd
          exact absurd k1 h34
      rw [if_neg k1] at h
      by_cases k2 : c.toNat = 92
      · rw [if_pos k2] at h
        obtain ⟨e1, e2⟩ := esc_eq s (k + 1) l
        cases he : escR (s.drop (k + 1)) with
        | none =>
          rw [he] at e1
          rw [e1] at h
          cases h
        | some p =>
          obtain ⟨x, n⟩ := p
          rw [e2 x n he] at h
          simp only [if_true] at h
          obtain ⟨h1, raw, X, h2, _, _, _⟩ := unq_true f _ _ _ _ h
          obtain ⟨g1, g2⟩ := escR_good he
          have hne := (escR_pos he).2.2.1
          refine ⟨h1, [], x ++ (raw ++ X), by rw [h2]; simp, ⟨s.drop k, rfl⟩, fun b hb => ?_, fun d hd _ h92 => ?_⟩
          · obtain ⟨y, ys, rfl⟩ := List.exists_cons_of_ne_nil hne
            exact g2 b hb
          · injection hd with hd
            subst hd
            exact absurd k2 h92
      rw [if_neg k2] at h
      obtain ⟨h1, raw, X, h2, ⟨Y, h3⟩, h4, _⟩ := unq_true f _ _ _ _ h
      have hk : k < s.length := (List.getElem?_eq_some_iff.1 hc).1
      refine ⟨h1, c :: raw, X, by rw [h2]; simp, ⟨Y, ?_⟩, h4, fun d hd _ _ => by simp⟩
      rw [List.drop_eq_getElem_cons hk, h3, List.getElem_eq_iff hk |>.2 hc]
      rfl
/-- So many bytes that stand for themselves. -/
theorem unq_raw {s : List UInt8} : ∀ (n f k : Nat) (l : List UInt8), (∀ i, i < n → ∃ c, s[k + i]? = some c ∧ 32 ≤ c.toNat ∧ c.toNat ≠ 34 ∧ c.toNat ≠ 92) → unqF s (f + n) k l = unqF s f (k + n) (l ++ (s.drop k).take n)
  | 0, f, k, l, _ => by simp
  | n + 1, f, k, l, h => by
    obtain ⟨c, hc, c1, c2, c3⟩ := h 0 (by omega)
    rw [Nat.add_zero] at hc
    have hk : k < s.length := (List.getElem?_eq_some_iff.1 hc).1
    have ih := unq_raw n f (k + 1) (l ++ [c]) fun i hi => by
      obtain ⟨d, hd, r⟩ := h (i + 1) (by omega)
      exact ⟨d, by rw [← hd]; congr 1; omega, r⟩
    rw [show f + (n + 1) = (f + n) + 1 by omega]
    simp only [unqF, hc]
    rw [if_neg (by omega), if_neg c2, if_neg c3, ih, List.drop_eq_getElem_cons hk, List.take_succ_cons, (List.getElem_eq_iff hk).2 hc]
    rw [show k + 1 + n = k + (n + 1) by omega]
    simp
theorem unq_ruf {s : List UInt8} : ∀ (N f f' k : Nat) (l : List UInt8), s.length - k ≤ N → N < f → N < f' → utfB l = true → unqR (unqF s f k l) = rufF s f' k l := by
  intro N
  induction N using Nat.strongRecOn with
  | ind N ih =>
    intro f f' k l hN hf hf' hu
    obtain ⟨f, rfl⟩ : ∃ g, f = g + 1 := ⟨f - 1, by omega⟩
    obtain ⟨f', rfl⟩ : ∃ g, f' = g + 1 := ⟨f' - 1, by omega⟩
    cases hc : s[k]? with
    | none => simp [unqF, rufF, hc, unqR]
    | some c =>
      have hk : k < s.length := (List.getElem?_eq_some_iff.1 hc).1
      by_cases k1 : c.toNat = 34
      · simp only [unqF, rufF, hc, if_neg (show ¬ c.toNat < 32 by omega), if_pos k1, unqR, hu, if_true]
      by_cases k2 : c.toNat = 92
      · simp only [unqF, rufF, hc, if_neg (show ¬ c.toNat < 32 by omega), if_neg k1, if_pos k2]
        obtain ⟨e1, e2⟩ := esc_eq s (k + 1) l
        cases he : escR (s.drop (k + 1)) with
        | none =>
          rw [he] at e1
          simp [e1, unqR]
        | some p =>
          obtain ⟨x, n⟩ := p
          obtain ⟨p1, p2, p3, p4⟩ := escR_pos he
          rw [List.length_drop] at p2
          rw [e2 x n he]
          simp only [if_true]
          exact ih (N - (1 + n)) (by omega) f f' _ _ (by omega) (by omega) (by omega) (by rw [utfB_append hu]; exact (escR_good he).1)
      by_cases k4 : c.toNat < 32
      · simp only [unqF, rufF, hc, if_neg k1, if_neg k2, if_pos k4]
        rw [if_pos (Or.inr k4)]
        rfl
      obtain ⟨r, hr⟩ : ∃ r, s.drop k = r := ⟨_, rfl⟩
      have hrl : r.length = s.length - k := by rw [← hr, List.length_drop]
      have hst := (stepN_le r).1
      have hr0 : r[0]? = some c := by rw [← hr, List.getElem?_drop]; exact hc
      by_cases k3 : stepN r = 0
      · have hx : rufF s (f' + 1) k l = none := by simp only [rufF, hc, if_neg k1, if_neg k2, hr, if_pos (Or.inl k3)]
        rw [hx]
        obtain ⟨o, ho⟩ : ∃ o, unqF s (f + 1) k l = o := ⟨_, rfl⟩
        rw [ho]
        obtain ⟨ok, k', l'⟩ := o
        cases ok with
        | false => rfl
        | true =>
          exfalso
          obtain ⟨h1, raw, X, rfl, ⟨Y, h3⟩, h4, h5⟩ := unq_true _ _ _ _ _ ho
          have hne := h5 c hc k1 k2
          rw [hr] at h3
          rw [utfB_append hu] at h1
          have hn0 : stepN (raw ++ X) ≠ 0 := by
            intro e
            rw [utfB_bad e (by simp [hne])] at h1
            cases h1
          by_cases hle : stepN (raw ++ X) ≤ raw.length
          · have h6 := step_take hn0 hle
            rw [List.take_left] at h6
            have h7 : stepN raw ≠ 0 := by rw [h6]; exact hn0
            have h8 := stepN_append (b := Y) h7
            rw [← h3, k3] at h8
            exact h7 h8.symm
          · have h6 := (stepN_le (raw ++ X)).1
            rw [List.length_append] at h6
            have hX : 0 < X.length := by omega
            have hb : (raw ++ X)[raw.length]? = some X[0] := by rw [List.getElem?_append_right (Nat.le_refl _), Nat.sub_self, List.getElem?_eq_getElem hX]
            have hpos : 0 < raw.length := List.length_pos_iff.2 hne
            exact h4 X[0] (List.getElem?_eq_getElem hX) (step_cont hn0 hpos (by omega) hb)
      · have hx : rufF s (f' + 1) k l = rufF s f' (k + stepN r) (l ++ r.take (stepN r)) := by simp only [rufF, hc, if_neg k1, if_neg k2, hr, if_neg (show ¬ (stepN r = 0 ∨ c.toNat < 32) by omega)]
        rw [hx]
        have hall : ∀ i, i < stepN r → ∃ d, s[k + i]? = some d ∧ 32 ≤ d.toNat ∧ d.toNat ≠ 34 ∧ d.toNat ≠ 92 := by
          intro i hi
          have hd : s[k + i]? = r[i]? := by rw [← hr, List.getElem?_drop]
          rcases Nat.eq_zero_or_pos i with rfl | hp
          · exact ⟨c, by rw [hd]; exact hr0, by omega, k1, k2⟩
          · have hg : r[i]? = some (r[i]'(by omega)) := List.getElem?_eq_getElem (by omega)
            have := step_cont k3 hp hi hg
            unfold isCont at this
            exact ⟨r[i]'(by omega), by rw [hd]; exact hg, by omega, by omega, by omega⟩
        have hgood : utfB (r.take (stepN r)) = true := by
          have h6 := step_take k3 (Nat.le_refl _)
          rw [utfB_step (by rw [h6]; exact k3), h6, List.drop_take, Nat.sub_self, List.take_zero]
          rfl
        rw [show f + 1 = (f + 1 - stepN r) + stepN r by omega, unq_raw (stepN r) _ k l hall, hr]
        exact ih (N - stepN r) (by omega) _ f' _ _ (by omega) (by omega) (by omega) (by rw [utfB_append hu]; exact hgood)
/-- **What is read is as the document says.** -/
theorem unqV_ref (s : List UInt8) : unqV s = refUV s := by
  unfold unqV refUV textF
  cases hc : s[0]? with
  | none => rfl
  | some c =>
    have hk : 0 < s.length := (List.getElem?_eq_some_iff.1 hc).1
    simp only
    by_cases k1 : c.toNat = 34
    · rw [if_pos k1, if_pos k1]
      have := unq_ruf (s := s) (s.length - 1) s.length s.length 1 [] (Nat.le_refl _) (by omega) (by omega) rfl
      rw [← this]
      unfold unqR
      cases (unqF s s.length 1 []).1 <;> rfl
    · rw [if_neg k1, if_neg k1]
      rfl
end Go.Proofs.YtjejeijldllloaaDoor

/- Chapter 1: UtfReads. -/
namespace Go.Proofs.YtjejeijldllloaaDoor
open Go.AM
def unqQ := s1P 68719476736 unqV
def refQ := s1P 68719476736 refUV
def ur7 : FuncId → Option (List AV → Option AV) := tab [(18, awakeP), (19, unqQ), (20, refQ)]
theorem ur7_ok : (cfgP ur7).Ok := cfg_ok (tab_ok ⟨prim_at Tryd.func18 (by kernel_rfl) rfl (uawake_ok), prim_at Tryd.func19 (by kernel_rfl) rfl ((s1P_of fun l h => unquote_ok l (by omega))), prim_at Tryd.func20 (by kernel_rfl) rfl ((s1P_of fun l h => unquoteR_ok l (by omega))), trivial⟩)
theorem ur7_18 : (cfgP ur7).prim 18 = some awakeP := rfl
theorem ur7_19 : (cfgP ur7).prim 19 = some unqQ := rfl
theorem ur7_20 : (cfgP ur7).prim 20 = some refQ := rfl
theorem cellsS (l : List UInt8) : AV.cells (str l) = [str l] := rfl
theorem refUV_tup (s : List UInt8) : ∃ a k e, refUV s = .tup [str a, .v (.int .i64 k), .v (.int .i64 e)] := by
  unfold refUV ruV failU okU
  repeat' split
  all_goals exact ⟨_, _, _, rfl⟩
section
variable {prim : FuncId → Option (List AV → Option AV)}
theorem bs3s {a b c : List UInt8} : buildSliceA (cfgP prim) 23 3 [(0, str a), (1, str b), (2, str c)] = some (.cl true [str a, str b, str c]) := by kernel_rfl
theorem ia0 {a b c : List UInt8} : indexAddrA (cfgP prim) 23 (.cl true [str a, str b, str c]) (.v (.int .i64 0)) = some (.rp (str a) 0) := by kernel_rfl
theorem ia1 {a b c : List UInt8} : indexAddrA (cfgP prim) 23 (.cl true [str a, str b, str c]) (.v (.int .i64 1)) = some (.rp (str b) 0) := by kernel_rfl
theorem ia2 {a b c : List UInt8} : indexAddrA (cfgP prim) 23 (.cl true [str a, str b, str c]) (.v (.int .i64 2)) = some (.rp (str c) 0) := by kernel_rfl
theorem ln3 {a b c : List UInt8} : lenA (cfgP prim) #[23] [.cl true [str a, str b, str c]] = some (.v (.int .i64 3)) := by kernel_rfl
theorem bareS3 {a b c : List UInt8} : bareP [(0, str a), (1, str b), (2, str c)] = some [(0, str a), (1, str b), (2, str c)] := rfl
end
set_option maxHeartbeats 8000000 in
set_option maxRecDepth 100000 in
theorem utfReads_core (s : List UInt8) : PureOk (cfgP ur7) 3 [str s] (.v (.bool true)) := by
  by_cases b1 : 300 < s.length
  · skip
    refine pure_of_wk (call := noCall) (fn := Tryd.f3) (rs := [.tmp 2]) ur7_ok noCall_ok (fns_cfg Tryd.func3 rfl) rfl rfl ?_
    intro env hl0 hargs
    have hn : env.length = 60 := hl0
    have h0 := hargs 0 _ rfl
    clear hargs hl0
    refine wkT_of ?_
    rw [fe_self hn]
    (try simp -dsimp (disch := omega) only [h0, ct_prim ur7_18, awakeP, len_s, wt_seq, wt_block, wt_region, wt_cond, wt_skip, wt_ret, wt_exit, wst_nil, wst_cons, wst_guard, andThen_normal, andThen_ret, andThen_exit, leave_normal, leave_ret, leave_exit, EndsA_ret, EndsA_normal, ot_move, ot_assign, ot_pick, ot_binOp, ot_unOp, ot_convert, ot_field, ot_index, ot_indexAddr, ot_fieldAddr, ot_slice, ot_build, ot_buildSlice, ot_extract, ot_makeInterface, ot_makeFunc, ot_nilCheck, ot_call, ot_len, ot_append, ot_box, ot_load, ot_store, ot_makeSlice, ot_alloc, ot_sliceData, ot_unsafeString, ct_bool, ct_true, ct_false, bt_some, gt_some, aval_tmp, aval_int, aval_bool, aval_str, aval_slice, aval_nilPointer, aval_nilIface, aval_func, aval_global, avals, apairs, bareP, AV.bare, AV.bares, bin_lss, bin_leq, bin_gtr, bin_geq, bin_eql, bin_neq, bin_add, bin_sub, bin_mul, toV_int, toV_bool, toV_string, un_neg, un_not, bin_str_eql, bin_str_neq, bin_str_lss, bin_str_leq, bin_str_gtr, bin_str_geq, aget_aput, length_aput, aput_none, Nat.reduceEqDiff, Nat.reduceLT, Nat.reduceAdd, ↓reduceIte, reduceCtorEq, Bool.not_false, Bool.not_true, Bool.true_or, true_and, Option.bind_some, Option.map_some, List.nil_append, List.cons_append, resA, resA1, resVal, Option.getD_some, Nat.reduceLeDiff, bnd_some, yieldA_eq, yldOf_some, boolOf_bool, boolOf_undef, gt_none, List.getElem?_toArray, List.getElem?_cons_succ, List.getElem?_cons_zero, bq_true, bq_false, decide_true, decide_false, Option.toList_none, Option.toList_some, List.head?_cons, List.head?_nil, nb_cfg, not_false_eq_true, cv_some, pm_some, pm_none, plainA_v, plain_bool, plain_int, plain_str, Bool.false_eq_true, if_false, Int.reduceLT, Int.reduceLE, Int.reduceEq, Int.reduceAdd, Int.reduceSub, Int.reduceMul, Int.reduceNeg, Int.reduceNe, decide_not, Bool.and_true, Bool.true_and, Bool.and_false, Bool.false_and, Bool.or_false, Bool.false_or, Bool.or_true, if_true, Bool.not_not, decide_eq_true, decide_eq_false, fe_get, fe_put, fe_len, upd_app])
    exact ⟨1, rfl⟩
  have ad1 : ∀ {x y : Operand}, binA (cfgP ur7) .add 9 x y (str [34]) (str s) = some (str ([34] ++ s)) := bin_str_add (by simp only [List.length_cons, List.length_nil]; omega)
  have ad2 : ∀ {x y : Operand}, binA (cfgP ur7) .add 9 x y (str ([34] ++ s)) (str [34]) = some (str ([34] ++ s ++ [34])) := bin_str_add (by simp only [List.length_append, List.length_cons, List.length_nil]; omega)
  obtain ⟨s1, h1⟩ : ∃ s1, [34] ++ s = s1 := ⟨_, rfl⟩
  have l1 : s1.length < 400 := by rw [← h1]; simp only [List.length_append, List.length_cons, List.length_nil]; omega
  rw [h1] at ad1 ad2
  obtain ⟨s2, h2⟩ : ∃ s2, s1 ++ [34] = s2 := ⟨_, rfl⟩
  have l2 : s2.length < 500 := by rw [← h2]; simp only [List.length_append, List.length_cons, List.length_nil]; omega
  rw [h2] at ad2
  clear h1 h2
  have key : ∀ t : List UInt8, t.length < 500 → ∃ a k e, unqQ [str t] = some (.tup [str a, .v (.int .i64 k), .v (.int .i64 e)]) ∧ refQ [str t] = some (.tup [str a, .v (.int .i64 k), .v (.int .i64 e)]) := by
    intro t ht
    obtain ⟨a, k, e, h⟩ := refUV_tup t
    refine ⟨a, k, e, ?_, ?_⟩
    · rw [← h, ← unqV_ref]; exact s1P_eq (by omega)
    · rw [← h]; exact s1P_eq (by omega)
  obtain ⟨a0, k0, e0, p0, q0⟩ := key s (by omega)
  obtain ⟨a1, k1, e1, p1, q1⟩ := key s1 (by omega)
  obtain ⟨a2, k2, e2, p2, q2⟩ := key s2 (by omega)
  have da : ∀ a : List UInt8, (!decide (a = a)) = false := fun a => by simp
  have dk : ∀ k : Int, (!decide (k = k)) = false := fun k => by simp
  refine pure_of_wk (call := noCall) (fn := Tryd.f3) (rs := [.tmp 2]) ur7_ok noCall_ok (fns_cfg Tryd.func3 rfl) rfl rfl ?_
  intro env hl0 hargs
  have hn : env.length = 60 := hl0
  have h0 := hargs 0 _ rfl
  clear hargs hl0
  refine wkT_of ?_
  rw [fe_self hn]
  (try simp -dsimp (disch := omega) only [h0, ct_prim ur7_18, ct_prim ur7_19, ct_prim ur7_20, awakeP, len_s, bare_s, ad1, ad2, bareS3, bs3s, ia0, ia1, ia2, ln3, rp9, cellsS, p0, p1, p2, q0, q1, q2, da, dk, wrap64, wt_loop_unfold, wt_seq, wt_block, wt_region, wt_cond, wt_skip, wt_ret, wt_exit, wst_nil, wst_cons, wst_guard, andThen_normal, andThen_ret, andThen_exit, leave_normal, leave_ret, leave_exit, EndsA_ret, EndsA_normal, ot_move, ot_assign, ot_pick, ot_binOp, ot_unOp, ot_convert, ot_field, ot_index, ot_indexAddr, ot_fieldAddr, ot_slice, ot_build, ot_buildSlice, ot_extract, ot_makeInterface, ot_makeFunc, ot_nilCheck, ot_call, ot_len, ot_append, ot_box, ot_load, ot_store, ot_makeSlice, ot_alloc, ot_sliceData, ot_unsafeString, ct_bool, ct_true, ct_false, bt_some, gt_some, aval_tmp, aval_int, aval_bool, aval_str, aval_slice, aval_nilPointer, aval_nilIface, aval_func, aval_global, avals, apairs, bareP, AV.bare, AV.bares, bin_lss, bin_leq, bin_gtr, bin_geq, bin_eql, bin_neq, bin_add, bin_sub, bin_mul, toV_int, toV_bool, toV_string, un_neg, un_not, bin_str_eql, bin_str_neq, bin_str_lss, bin_str_leq, bin_str_gtr, bin_str_geq, aget_aput, length_aput, aput_none, Nat.reduceEqDiff, Nat.reduceLT, Nat.reduceAdd, ↓reduceIte, reduceCtorEq, Bool.not_false, Bool.not_true, Bool.true_or, true_and, Option.bind_some, Option.map_some, List.nil_append, List.cons_append, resA, resA1, resVal, Option.getD_some, Nat.reduceLeDiff, bnd_some, yieldA_eq, yldOf_some, boolOf_bool, boolOf_undef, gt_none, List.getElem?_toArray, List.getElem?_cons_succ, List.getElem?_cons_zero, bq_true, bq_false, decide_true, decide_false, Option.toList_none, Option.toList_some, List.head?_cons, List.head?_nil, nb_cfg, not_false_eq_true, cv_some, pm_some, pm_none, plainA_v, plain_bool, plain_int, plain_str, Bool.false_eq_true, if_false, Int.reduceLT, Int.reduceLE, Int.reduceEq, Int.reduceAdd, Int.reduceSub, Int.reduceMul, Int.reduceNeg, Int.reduceNe, decide_not, Bool.and_true, Bool.true_and, Bool.and_false, Bool.false_and, Bool.or_false, Bool.false_or, Bool.or_true, if_true, Bool.not_not, decide_eq_true, decide_eq_false, fe_get, fe_put, fe_len, upd_app])
  exact ⟨1, rfl⟩
end Go.Proofs.YtjejeijldllloaaDoor
