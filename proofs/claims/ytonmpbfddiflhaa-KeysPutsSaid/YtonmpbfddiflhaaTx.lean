/- Contracts of functions, and plain facts about what they compute. -/
import Derived.Test.YtonmpbfddiflhaaAmD
import Derived.Test.YtonmpbfddiflhaaProg
import Derived.KernelRfl
set_option linter.unusedSimpArgs false
set_option linter.unusedVariables false
/- A program's tables, and what its small types are. -/
namespace Go.Proofs.Ytonmpbfddiflhaa
open Go.AM
/-- Variables that are written once they are there. -/
def rwL : List (Nat × Nat) := [(3, 10), (4, 1), (8, 4), (9, 10), (10, 8), (13, 11), (24, 5)]
/-- Functions that share the heap of who calls them. -/
def shL : List Nat := [17, 21, 18, 22, 25]
def gls : List (Nat × AV) := []
/-- Bytes of a text that are written. -/
def nbL : List (Nat × Nat) := []
noncomputable def cfgP (prim : FuncId → Option (List AV → Option AV)) : Cfg := cfgOf Try.prog (fun f => f < 47) (glOf gls) (fun f => !(shL.contains f)) (fun f t => !(rwL.contains (f, t))) prim (fun f t => nbL.contains (f, t))
theorem fok : funcsOk Try.prog (fun f => f < 47) = true := by kernel_rfl
theorem mixed : Try.prog.follows .mixedOrders = true := by kernel_rfl
theorem cokN : (cfgP fun _ => none).Ok := cfgOf_ok mixed fok (fun _ _ h => by cases h)
section
variable {prim : FuncId → Option (List AV → Option AV)}
theorem ro_cfg (f : FuncId) (t : Tmp) (h : (!(rwL.contains (f, t))) = true := by rfl) : (cfgP prim).roBox f t = true := h
theorem nb_cfg {f : FuncId} {d : Option Tmp} : nbOf (cfgP prim) f d = false := by cases d <;> rfl
theorem fns_cfg {f : FuncId} {fn : Func} (h : Try.prog.funcs[f]? = some fn) (hf : decide (f < 47) = true) : (cfgP prim).fns f = some fn := by simp only [cfgP, cfgOf, hf, if_true, h]
theorem pureOk_prim {prim' : FuncId → Option (List AV → Option AV)} {f : FuncId} {xs : List AV} {r : AV} (h : PureOk (cfgP prim) f xs r) : PureOk (cfgP prim') f xs r := Go.AM.PureOk.other (C := cfgP prim) (C' := cfgP prim') rfl rfl rfl h
theorem prim_at {prim' : FuncId → Option (List AV → Option AV)} {f : FuncId} {fn : Func} {p : List AV → Option AV} (hf : Try.prog.funcs[f]? = some fn) (hn : (fn.name == "runtime.NumGoroutine") = false) (hb : fn.body.isSome = true) (h : ∀ xs r, p xs = some r → PureOk (cfgP prim) f xs r) : PrimOk (cfgP prim') f p :=
  .inl ⟨⟨fn, hf, hn, hb⟩, fun xs r hx => pureOk_prim (h xs r hx)⟩
end
end Go.Proofs.Ytonmpbfddiflhaa

/- Go's library: where a sign stands in a text; Cut, CutPrefix. -/
namespace Go.Proofs.Ytonmpbfddiflhaa
open Go.AM
section
variable {prim : FuncId → Option (List AV → Option AV)}
theorem len_s {l : List UInt8} : lenA (cfgP prim) #[9] [str l] = some (.v (.int .i64 l.length)) := len_str (by kernel_rfl)
theorem index_s {l : List UInt8} {k : IntKind} {i : Nat} (h : i < l.length) : indexA (cfgP prim) 9 (str l) (.v (.int k i)) = some (byt l[i]) := index_str (by kernel_rfl) (by omega) (by simpa using h)
theorem index_s0 {l : List UInt8} {c : UInt8} {k : IntKind} : indexA (cfgP prim) 9 (str (c :: l)) (.v (.int k 0)) = some (.v (.int .u8 c.toNat)) := index_s (i := 0) (l := c :: l) (by simp)
theorem sliceT {l : List UInt8} {k : IntKind} {i : Nat} (h : i ≤ l.length) : sliceA (cfgP prim) 9 (str l) none (some (.v (.int k i))) none = some (str (l.take i)) := by
  have := slice_str (C := cfgP prim) (t := 9) (a := l) (lo := none) (hi := some (.v (.int k i))) (l := 0) (h := i) (by kernel_rfl) rfl (by simp [optIdx, idx]) ⟨Nat.zero_le _, h⟩
  simpa using this
theorem sliceD {l : List UInt8} {k : IntKind} {i : Nat} (h : i ≤ l.length) : sliceA (cfgP prim) 9 (str l) (some (.v (.int k i))) none none = some (str (l.drop i)) := by
  have := slice_str (C := cfgP prim) (t := 9) (a := l) (lo := some (.v (.int k i))) (hi := none) (l := i) (h := l.length) (by kernel_rfl) (by simp [optIdx, idx]) rfl ⟨h, Nat.le_refl _⟩
  rw [this]
  congr 2
  rw [List.take_of_length_le (by simp)]
end
theorem bare_s (l : List UInt8) : AV.bare (str l) = some (str l) := rfl
theorem wr64 {n : Int} (h1 : 0 ≤ n) (h2 : n < 2 ^ 63) : IntKind.i64.wrap n = n := by
  simp [IntKind.wrap, IntKind.bits, IntKind.signed]; omega
theorem ibx : Extern.find Try.f45 = some Extern.BytealgIndexByte.indexByte := by kernel_rfl
def tx0 : FuncId → Option (List AV → Option AV) := tab [(45, ibP)]
theorem tx0_ok : (cfgP tx0).Ok := cfgOf_ok mixed fok (tab_ok ⟨.inr (ibE_ok Try.func45 (by kernel_rfl) rfl (by kernel_rfl) ibx), trivial⟩)
theorem tx0_45 : (cfgP tx0).prim 45 = some ibP := rfl
theorem slIndexByte (l : List UInt8) (c : UInt8) : PureOk (cfgP tx0) 40 [str l, byt c] (.v (.int .i64 (idxZ l c))) := by
  refine pure_of_wk (call := noCall) (fn := Try.f40) (rs := [.tmp 4]) tx0_ok noCall_ok (fns_cfg Try.func40 rfl) rfl rfl ?_
  intro env hl0 hargs
  have hn : env.length = 8 := hl0
  have h0 := hargs 0 _ rfl
  have h1 := hargs 1 _ rfl
  clear hargs hl0
  refine wkT_of ?_
  simp -dsimp only [hn, h0, h1, byt, ct_prim tx0_45, bare_s, ibP_eq, wt_seq, wt_block, wt_region, wt_cond, wt_skip, wt_ret, wt_exit, wst_nil, wst_app_nil, wst_app_cons, wst_cons, wst_guard, andThen_normal, andThen_ret, andThen_exit, leave_normal, leave_ret, leave_exit, EndsA_ret, EndsA_normal, ot_move, ot_assign, ot_pick, ot_binOp, ot_unOp, ot_convert, ot_field, ot_index, ot_indexAddr, ot_fieldAddr, ot_slice, ot_build, ot_buildSlice, ot_extract, ot_makeInterface, ot_makeFunc, ot_nilCheck, ot_call, ot_len, ot_append, ot_box, ot_load, ot_store, ot_makeSlice, ct_bool, ct_true, ct_false, bt_some, gt_some, aval_tmp, aval_int, aval_bool, aval_str, aval_slice, aval_nilPointer, aval_nilIface, aval_func, aval_global, avals, apairs, bareP, AV.bare, AV.bares, bin_lss, bin_leq, bin_gtr, bin_geq, bin_eql, bin_neq, bin_add, bin_sub, bin_mul, bin_and, bin_or, bin_xor, toV_int, toV_bool, toV_string, un_neg, un_not, bin_str_eql, bin_str_neq, bin_str_lss, bin_str_leq, bin_str_gtr, bin_str_geq, aget_aput, length_aput, aput_none, Nat.reduceEqDiff, Nat.reduceLT, Nat.reduceAdd, reduceIte, reduceCtorEq, Bool.not_false, Bool.not_true, Bool.true_or, true_and, Option.bind_some, Option.map_some, List.nil_append, List.cons_append, resA, resA1, resVal, Option.getD_some, Nat.reduceLeDiff, bnd_some, yieldA_eq, yldOf_some, boolOf_bool, boolOf_undef, gt_none, List.getElem?_toArray, List.getElem?_cons_succ, List.getElem?_cons_zero, bq_true, bq_false, decide_true, decide_false, Option.toList_none, Option.toList_some, List.head?_cons, List.head?_nil, nb_cfg, cv_some, pm_some, pm_none, plainA_v, plain_bool, plain_int, plain_str, Bool.false_eq_true, if_false]
  exact ⟨1, rfl⟩
def tx1 : FuncId → Option (List AV → Option AV) := tab [(40, ibP)]
theorem tx1_ok : (cfgP tx1).Ok := cfgOf_ok mixed fok (tab_ok ⟨prim_at Try.func40 (by kernel_rfl) rfl (ibP_of slIndexByte), trivial⟩)
theorem tx1_40 : (cfgP tx1).prim 40 = some ibP := rfl
theorem sIndexByte (l : List UInt8) (c : UInt8) : PureOk (cfgP tx1) 37 [str l, byt c] (.v (.int .i64 (idxZ l c))) := by
  refine pure_of_wk (call := noCall) (fn := Try.f37) (rs := [.tmp 4]) tx1_ok noCall_ok (fns_cfg Try.func37 rfl) rfl rfl ?_
  intro env hl0 hargs
  have hn : env.length = 8 := hl0
  have h0 := hargs 0 _ rfl
  have h1 := hargs 1 _ rfl
  clear hargs hl0
  refine wkT_of ?_
  simp -dsimp only [hn, h0, h1, byt, ct_prim tx1_40, bare_s, ibP_eq, wt_seq, wt_block, wt_region, wt_cond, wt_skip, wt_ret, wt_exit, wst_nil, wst_app_nil, wst_app_cons, wst_cons, wst_guard, andThen_normal, andThen_ret, andThen_exit, leave_normal, leave_ret, leave_exit, EndsA_ret, EndsA_normal, ot_move, ot_assign, ot_pick, ot_binOp, ot_unOp, ot_convert, ot_field, ot_index, ot_indexAddr, ot_fieldAddr, ot_slice, ot_build, ot_buildSlice, ot_extract, ot_makeInterface, ot_makeFunc, ot_nilCheck, ot_call, ot_len, ot_append, ot_box, ot_load, ot_store, ot_makeSlice, ct_bool, ct_true, ct_false, bt_some, gt_some, aval_tmp, aval_int, aval_bool, aval_str, aval_slice, aval_nilPointer, aval_nilIface, aval_func, aval_global, avals, apairs, bareP, AV.bare, AV.bares, bin_lss, bin_leq, bin_gtr, bin_geq, bin_eql, bin_neq, bin_add, bin_sub, bin_mul, bin_and, bin_or, bin_xor, toV_int, toV_bool, toV_string, un_neg, un_not, bin_str_eql, bin_str_neq, bin_str_lss, bin_str_leq, bin_str_gtr, bin_str_geq, aget_aput, length_aput, aput_none, Nat.reduceEqDiff, Nat.reduceLT, Nat.reduceAdd, reduceIte, reduceCtorEq, Bool.not_false, Bool.not_true, Bool.true_or, true_and, Option.bind_some, Option.map_some, List.nil_append, List.cons_append, resA, resA1, resVal, Option.getD_some, Nat.reduceLeDiff, bnd_some, yieldA_eq, yldOf_some, boolOf_bool, boolOf_undef, gt_none, List.getElem?_toArray, List.getElem?_cons_succ, List.getElem?_cons_zero, bq_true, bq_false, decide_true, decide_false, Option.toList_none, Option.toList_some, List.head?_cons, List.head?_nil, nb_cfg, cv_some, pm_some, pm_none, plainA_v, plain_bool, plain_int, plain_str, Bool.false_eq_true, if_false]
  exact ⟨1, rfl⟩
theorem slIndex (l : List UInt8) (c : UInt8) : PureOk (cfgP tx1) 39 [str l, str [c]] (.v (.int .i64 (idxZ l c))) := by
  refine pure_of_wk (call := noCall) (fn := Try.f39) (rs := [.tmp 4]) tx1_ok noCall_ok (fns_cfg Try.func39 rfl) rfl rfl ?_
  intro env hl0 hargs
  have hn : env.length = 143 := hl0
  have h0 := hargs 0 _ rfl
  have h1 := hargs 1 _ rfl
  clear hargs hl0
  refine wkT_of ?_
  simp -dsimp only [hn, h0, h1, len_s, List.length_singleton, show decide (((1 : Nat) : Int) = 0) = false from rfl, wt_seq, wt_block, wt_region, wt_cond, wt_skip, wt_ret, wt_exit, wst_nil, wst_app_nil, wst_app_cons, wst_cons, wst_guard, andThen_normal, andThen_ret, andThen_exit, leave_normal, leave_ret, leave_exit, EndsA_ret, EndsA_normal, ot_move, ot_assign, ot_pick, ot_binOp, ot_unOp, ot_convert, ot_field, ot_index, ot_indexAddr, ot_fieldAddr, ot_slice, ot_build, ot_buildSlice, ot_extract, ot_makeInterface, ot_makeFunc, ot_nilCheck, ot_call, ot_len, ot_append, ot_box, ot_load, ot_store, ot_makeSlice, ct_bool, ct_true, ct_false, bt_some, gt_some, aval_tmp, aval_int, aval_bool, aval_str, aval_slice, aval_nilPointer, aval_nilIface, aval_func, aval_global, avals, apairs, bareP, AV.bare, AV.bares, bin_lss, bin_leq, bin_gtr, bin_geq, bin_eql, bin_neq, bin_add, bin_sub, bin_mul, bin_and, bin_or, bin_xor, toV_int, toV_bool, toV_string, un_neg, un_not, bin_str_eql, bin_str_neq, bin_str_lss, bin_str_leq, bin_str_gtr, bin_str_geq, aget_aput, length_aput, aput_none, Nat.reduceEqDiff, Nat.reduceLT, Nat.reduceAdd, reduceIte, reduceCtorEq, Bool.not_false, Bool.not_true, Bool.true_or, true_and, Option.bind_some, Option.map_some, List.nil_append, List.cons_append, resA, resA1, resVal, Option.getD_some, Nat.reduceLeDiff, bnd_some, yieldA_eq, yldOf_some, boolOf_bool, boolOf_undef, gt_none, List.getElem?_toArray, List.getElem?_cons_succ, List.getElem?_cons_zero, bq_true, bq_false, decide_true, decide_false, Option.toList_none, Option.toList_some, List.head?_cons, List.head?_nil, nb_cfg, cv_some, pm_some, pm_none, plainA_v, plain_bool, plain_int, plain_str, Bool.false_eq_true, if_false]
  by_cases h : [c] = l
  · subst h
    simp -dsimp only [hn, h0, h1, eq_self, decide_true, wt_seq, wt_block, wt_region, wt_cond, wt_skip, wt_ret, wt_exit, wst_nil, wst_app_nil, wst_app_cons, wst_cons, wst_guard, andThen_normal, andThen_ret, andThen_exit, leave_normal, leave_ret, leave_exit, EndsA_ret, EndsA_normal, ot_move, ot_assign, ot_pick, ot_binOp, ot_unOp, ot_convert, ot_field, ot_index, ot_indexAddr, ot_fieldAddr, ot_slice, ot_build, ot_buildSlice, ot_extract, ot_makeInterface, ot_makeFunc, ot_nilCheck, ot_call, ot_len, ot_append, ot_box, ot_load, ot_store, ot_makeSlice, ct_bool, ct_true, ct_false, bt_some, gt_some, aval_tmp, aval_int, aval_bool, aval_str, aval_slice, aval_nilPointer, aval_nilIface, aval_func, aval_global, avals, apairs, bareP, AV.bare, AV.bares, bin_lss, bin_leq, bin_gtr, bin_geq, bin_eql, bin_neq, bin_add, bin_sub, bin_mul, bin_and, bin_or, bin_xor, toV_int, toV_bool, toV_string, un_neg, un_not, bin_str_eql, bin_str_neq, bin_str_lss, bin_str_leq, bin_str_gtr, bin_str_geq, aget_aput, length_aput, aput_none, Nat.reduceEqDiff, Nat.reduceLT, Nat.reduceAdd, reduceIte, reduceCtorEq, Bool.not_false, Bool.not_true, Bool.true_or, true_and, Option.bind_some, Option.map_some, List.nil_append, List.cons_append, resA, resA1, resVal, Option.getD_some, Nat.reduceLeDiff, bnd_some, yieldA_eq, yldOf_some, boolOf_bool, boolOf_undef, gt_none, List.getElem?_toArray, List.getElem?_cons_succ, List.getElem?_cons_zero, bq_true, bq_false, decide_true, decide_false, Option.toList_none, Option.toList_some, List.head?_cons, List.head?_nil, nb_cfg, cv_some, pm_some, pm_none, plainA_v, plain_bool, plain_int, plain_str, Bool.false_eq_true, if_false]
    exact ⟨1, by simp [idxZ, AV.thaw]⟩
  · simp -dsimp only [hn, h0, h1, h, decide_false, show decide (((1 : Nat) : Int) = 1) = true from rfl, index_s0, ct_prim tx1_40, bare_s, ibP_eq, wt_seq, wt_block, wt_region, wt_cond, wt_skip, wt_ret, wt_exit, wst_nil, wst_app_nil, wst_app_cons, wst_cons, wst_guard, andThen_normal, andThen_ret, andThen_exit, leave_normal, leave_ret, leave_exit, EndsA_ret, EndsA_normal, ot_move, ot_assign, ot_pick, ot_binOp, ot_unOp, ot_convert, ot_field, ot_index, ot_indexAddr, ot_fieldAddr, ot_slice, ot_build, ot_buildSlice, ot_extract, ot_makeInterface, ot_makeFunc, ot_nilCheck, ot_call, ot_len, ot_append, ot_box, ot_load, ot_store, ot_makeSlice, ct_bool, ct_true, ct_false, bt_some, gt_some, aval_tmp, aval_int, aval_bool, aval_str, aval_slice, aval_nilPointer, aval_nilIface, aval_func, aval_global, avals, apairs, bareP, AV.bare, AV.bares, bin_lss, bin_leq, bin_gtr, bin_geq, bin_eql, bin_neq, bin_add, bin_sub, bin_mul, bin_and, bin_or, bin_xor, toV_int, toV_bool, toV_string, un_neg, un_not, bin_str_eql, bin_str_neq, bin_str_lss, bin_str_leq, bin_str_gtr, bin_str_geq, aget_aput, length_aput, aput_none, Nat.reduceEqDiff, Nat.reduceLT, Nat.reduceAdd, reduceIte, reduceCtorEq, Bool.not_false, Bool.not_true, Bool.true_or, true_and, Option.bind_some, Option.map_some, List.nil_append, List.cons_append, resA, resA1, resVal, Option.getD_some, Nat.reduceLeDiff, bnd_some, yieldA_eq, yldOf_some, boolOf_bool, boolOf_undef, gt_none, List.getElem?_toArray, List.getElem?_cons_succ, List.getElem?_cons_zero, bq_true, bq_false, decide_true, decide_false, Option.toList_none, Option.toList_some, List.head?_cons, List.head?_nil, nb_cfg, cv_some, pm_some, pm_none, plainA_v, plain_bool, plain_int, plain_str, Bool.false_eq_true, if_false]
    exact ⟨1, rfl⟩
def ixP : List AV → Option AV
  | [x, y] => match dS x, dS y with
    | some l, some [c] => some (.v (.int .i64 (idxZ l c)))
    | _, _ => none
  | _ => none
theorem ixP_eq {l : List UInt8} {c : UInt8} : ixP [str l, str [c]] = some (.v (.int .i64 (idxZ l c))) := by simp only [ixP, dS_str]
theorem ixP_of {X : List AV → AV → Prop} (h : ∀ (l : List UInt8) (c : UInt8), X [str l, str [c]] (.v (.int .i64 (idxZ l c)))) : ∀ xs r, ixP xs = some r → X xs r := by
  intro xs r hx
  unfold ixP at hx
  split at hx
  · split at hx
    · rename_i l c h1 h2
      rw [dS_iff] at h1 h2
      subst h1 h2
      injection hx with hx; subst hx
      exact h l c
    · cases hx
  · cases hx
def tx2 : FuncId → Option (List AV → Option AV) := tab [(39, ixP)]
theorem tx2_ok : (cfgP tx2).Ok := cfgOf_ok mixed fok (tab_ok ⟨prim_at Try.func39 (by kernel_rfl) rfl (ixP_of slIndex), trivial⟩)
theorem tx2_39 : (cfgP tx2).prim 39 = some ixP := rfl
theorem slCut (l : List UInt8) (c : UInt8) (hl : l.length < 2 ^ 63) : PureOk (cfgP tx2) 36 [str l, str [c]] (cutV l c) := by
  by_cases h : c ∈ l
  · obtain ⟨a, b, rfl, ha, hi⟩ := idxZ_some l c h
    have e1 : IntKind.i64.wrap ((a.length : Int) + ((1 : Nat) : Int)) = ((a.length + 1 : Nat) : Int) := by
      simp only [List.length_append, List.length_cons] at hl
      exact wr64 (by omega) (by omega)
    have e2 : (a ++ c :: b).take a.length = a := by simp
    have e3 : (a ++ c :: b).drop (a.length + 1) = b := by simp
    have hd : decide ((0 : Int) ≤ ((a.length : Nat) : Int)) = true := by simp
    refine pure_of_wk (call := noCall) (fn := Try.f36) (rs := [.tmp 4, .tmp 5, .tmp 6]) tx2_ok noCall_ok (fns_cfg Try.func36 rfl) rfl rfl ?_
    intro env hl0 hargs
    have hn : env.length = 23 := hl0
    have h0 := hargs 0 _ rfl
    have h1 := hargs 1 _ rfl
    clear hargs hl0
    refine wkT_of ?_
    simp -dsimp only [hn, h0, h1, ct_prim tx2_39, bare_s, ixP_eq, hi, hd, sliceT (show a.length ≤ (a ++ c :: b).length by simp), len_s, List.length_singleton, e1, sliceD (show a.length + 1 ≤ (a ++ c :: b).length by simp), e2, e3, wt_seq, wt_block, wt_region, wt_cond, wt_skip, wt_ret, wt_exit, wst_nil, wst_app_nil, wst_app_cons, wst_cons, wst_guard, andThen_normal, andThen_ret, andThen_exit, leave_normal, leave_ret, leave_exit, EndsA_ret, EndsA_normal, ot_move, ot_assign, ot_pick, ot_binOp, ot_unOp, ot_convert, ot_field, ot_index, ot_indexAddr, ot_fieldAddr, ot_slice, ot_build, ot_buildSlice, ot_extract, ot_makeInterface, ot_makeFunc, ot_nilCheck, ot_call, ot_len, ot_append, ot_box, ot_load, ot_store, ot_makeSlice, ct_bool, ct_true, ct_false, bt_some, gt_some, aval_tmp, aval_int, aval_bool, aval_str, aval_slice, aval_nilPointer, aval_nilIface, aval_func, aval_global, avals, apairs, bareP, AV.bare, AV.bares, bin_lss, bin_leq, bin_gtr, bin_geq, bin_eql, bin_neq, bin_add, bin_sub, bin_mul, bin_and, bin_or, bin_xor, toV_int, toV_bool, toV_string, un_neg, un_not, bin_str_eql, bin_str_neq, bin_str_lss, bin_str_leq, bin_str_gtr, bin_str_geq, aget_aput, length_aput, aput_none, Nat.reduceEqDiff, Nat.reduceLT, Nat.reduceAdd, reduceIte, reduceCtorEq, Bool.not_false, Bool.not_true, Bool.true_or, true_and, Option.bind_some, Option.map_some, List.nil_append, List.cons_append, resA, resA1, resVal, Option.getD_some, Nat.reduceLeDiff, bnd_some, yieldA_eq, yldOf_some, boolOf_bool, boolOf_undef, gt_none, List.getElem?_toArray, List.getElem?_cons_succ, List.getElem?_cons_zero, bq_true, bq_false, decide_true, decide_false, Option.toList_none, Option.toList_some, List.head?_cons, List.head?_nil, nb_cfg, cv_some, pm_some, pm_none, plainA_v, plain_bool, plain_int, plain_str, Bool.false_eq_true, if_false]
    refine ⟨by kernel_rfl, 5, ?_⟩
    rw [cutV, cutB_some ha]
    rfl
  · have hi := idxZ_none h
    refine pure_of_wk (call := noCall) (fn := Try.f36) (rs := [.tmp 4, .tmp 5, .tmp 6]) tx2_ok noCall_ok (fns_cfg Try.func36 rfl) rfl rfl ?_
    intro env hl0 hargs
    have hn : env.length = 23 := hl0
    have h0 := hargs 0 _ rfl
    have h1 := hargs 1 _ rfl
    clear hargs hl0
    refine wkT_of ?_
    simp -dsimp only [hn, h0, h1, ct_prim tx2_39, bare_s, ixP_eq, hi, show decide ((0 : Int) ≤ -1) = false from rfl, wt_seq, wt_block, wt_region, wt_cond, wt_skip, wt_ret, wt_exit, wst_nil, wst_app_nil, wst_app_cons, wst_cons, wst_guard, andThen_normal, andThen_ret, andThen_exit, leave_normal, leave_ret, leave_exit, EndsA_ret, EndsA_normal, ot_move, ot_assign, ot_pick, ot_binOp, ot_unOp, ot_convert, ot_field, ot_index, ot_indexAddr, ot_fieldAddr, ot_slice, ot_build, ot_buildSlice, ot_extract, ot_makeInterface, ot_makeFunc, ot_nilCheck, ot_call, ot_len, ot_append, ot_box, ot_load, ot_store, ot_makeSlice, ct_bool, ct_true, ct_false, bt_some, gt_some, aval_tmp, aval_int, aval_bool, aval_str, aval_slice, aval_nilPointer, aval_nilIface, aval_func, aval_global, avals, apairs, bareP, AV.bare, AV.bares, bin_lss, bin_leq, bin_gtr, bin_geq, bin_eql, bin_neq, bin_add, bin_sub, bin_mul, bin_and, bin_or, bin_xor, toV_int, toV_bool, toV_string, un_neg, un_not, bin_str_eql, bin_str_neq, bin_str_lss, bin_str_leq, bin_str_gtr, bin_str_geq, aget_aput, length_aput, aput_none, Nat.reduceEqDiff, Nat.reduceLT, Nat.reduceAdd, reduceIte, reduceCtorEq, Bool.not_false, Bool.not_true, Bool.true_or, true_and, Option.bind_some, Option.map_some, List.nil_append, List.cons_append, resA, resA1, resVal, Option.getD_some, Nat.reduceLeDiff, bnd_some, yieldA_eq, yldOf_some, boolOf_bool, boolOf_undef, gt_none, List.getElem?_toArray, List.getElem?_cons_succ, List.getElem?_cons_zero, bq_true, bq_false, decide_true, decide_false, Option.toList_none, Option.toList_some, List.head?_cons, List.head?_nil, nb_cfg, cv_some, pm_some, pm_none, plainA_v, plain_bool, plain_int, plain_str, Bool.false_eq_true, if_false]
    refine ⟨5, ?_⟩
    rw [cutV, cutB_none h]
    rfl
def tx3 : FuncId → Option (List AV → Option AV) := tab [(36, cutP)]
theorem tx3_ok : (cfgP tx3).Ok := cfgOf_ok mixed fok (tab_ok ⟨prim_at Try.func36 (by kernel_rfl) rfl (cutP_of slCut), trivial⟩)
theorem tx3_36 : (cfgP tx3).prim 36 = some cutP := rfl
theorem sCut (l : List UInt8) (c : UInt8) (hl : l.length < 2 ^ 63) : PureOk (cfgP tx3) 30 [str l, str [c]] (cutV l c) := by
  refine pure_of_wk (call := noCall) (fn := Try.f30) (rs := [.tmp 4, .tmp 5, .tmp 6]) tx3_ok noCall_ok (fns_cfg Try.func30 rfl) rfl rfl ?_
  intro env hl0 hargs
  have hn : env.length = 13 := hl0
  have h0 := hargs 0 _ rfl
  have h1 := hargs 1 _ rfl
  clear hargs hl0
  refine wkT_of ?_
  simp -dsimp only [hn, h0, h1, ct_prim tx3_36, bare_s, cutP_eq hl, cutV, wt_seq, wt_block, wt_region, wt_cond, wt_skip, wt_ret, wt_exit, wst_nil, wst_app_nil, wst_app_cons, wst_cons, wst_guard, andThen_normal, andThen_ret, andThen_exit, leave_normal, leave_ret, leave_exit, EndsA_ret, EndsA_normal, ot_move, ot_assign, ot_pick, ot_binOp, ot_unOp, ot_convert, ot_field, ot_index, ot_indexAddr, ot_fieldAddr, ot_slice, ot_build, ot_buildSlice, ot_extract, ot_makeInterface, ot_makeFunc, ot_nilCheck, ot_call, ot_len, ot_append, ot_box, ot_load, ot_store, ot_makeSlice, ct_bool, ct_true, ct_false, bt_some, gt_some, aval_tmp, aval_int, aval_bool, aval_str, aval_slice, aval_nilPointer, aval_nilIface, aval_func, aval_global, avals, apairs, bareP, AV.bare, AV.bares, bin_lss, bin_leq, bin_gtr, bin_geq, bin_eql, bin_neq, bin_add, bin_sub, bin_mul, bin_and, bin_or, bin_xor, toV_int, toV_bool, toV_string, un_neg, un_not, bin_str_eql, bin_str_neq, bin_str_lss, bin_str_leq, bin_str_gtr, bin_str_geq, aget_aput, length_aput, aput_none, Nat.reduceEqDiff, Nat.reduceLT, Nat.reduceAdd, reduceIte, reduceCtorEq, Bool.not_false, Bool.not_true, Bool.true_or, true_and, Option.bind_some, Option.map_some, List.nil_append, List.cons_append, resA, resA1, resVal, Option.getD_some, Nat.reduceLeDiff, bnd_some, yieldA_eq, yldOf_some, boolOf_bool, boolOf_undef, gt_none, List.getElem?_toArray, List.getElem?_cons_succ, List.getElem?_cons_zero, bq_true, bq_false, decide_true, decide_false, Option.toList_none, Option.toList_some, List.head?_cons, List.head?_nil, nb_cfg, cv_some, pm_some, pm_none, plainA_v, plain_bool, plain_int, plain_str, Bool.false_eq_true, if_false]
  exact ⟨5, rfl⟩
theorem slHasPrefix (l p : List UInt8) (hl : l.length < 2 ^ 63) : PureOk (cfgP tx3) 41 [str l, str p] (.v (.bool (p.isPrefixOf l))) := by
  by_cases h : p.length ≤ l.length
  · have hd : decide (((p.length : Nat) : Int) ≤ ((l.length : Nat) : Int)) = true := decide_eq_true (by omega)
    refine pure_of_wk (call := noCall) (fn := Try.f41) (rs := [.tmp 4]) tx3_ok noCall_ok (fns_cfg Try.func41 rfl) rfl rfl ?_
    intro env hl0 hargs
    have hn : env.length = 18 := hl0
    have h0 := hargs 0 _ rfl
    have h1 := hargs 1 _ rfl
    clear hargs hl0
    refine wkT_of ?_
    simp -dsimp only [hn, h0, h1, len_s, hd, sliceT h, wt_seq, wt_block, wt_region, wt_cond, wt_skip, wt_ret, wt_exit, wst_nil, wst_app_nil, wst_app_cons, wst_cons, wst_guard, andThen_normal, andThen_ret, andThen_exit, leave_normal, leave_ret, leave_exit, EndsA_ret, EndsA_normal, ot_move, ot_assign, ot_pick, ot_binOp, ot_unOp, ot_convert, ot_field, ot_index, ot_indexAddr, ot_fieldAddr, ot_slice, ot_build, ot_buildSlice, ot_extract, ot_makeInterface, ot_makeFunc, ot_nilCheck, ot_call, ot_len, ot_append, ot_box, ot_load, ot_store, ot_makeSlice, ct_bool, ct_true, ct_false, bt_some, gt_some, aval_tmp, aval_int, aval_bool, aval_str, aval_slice, aval_nilPointer, aval_nilIface, aval_func, aval_global, avals, apairs, bareP, AV.bare, AV.bares, bin_lss, bin_leq, bin_gtr, bin_geq, bin_eql, bin_neq, bin_add, bin_sub, bin_mul, bin_and, bin_or, bin_xor, toV_int, toV_bool, toV_string, un_neg, un_not, bin_str_eql, bin_str_neq, bin_str_lss, bin_str_leq, bin_str_gtr, bin_str_geq, aget_aput, length_aput, aput_none, Nat.reduceEqDiff, Nat.reduceLT, Nat.reduceAdd, reduceIte, reduceCtorEq, Bool.not_false, Bool.not_true, Bool.true_or, true_and, Option.bind_some, Option.map_some, List.nil_append, List.cons_append, resA, resA1, resVal, Option.getD_some, Nat.reduceLeDiff, bnd_some, yieldA_eq, yldOf_some, boolOf_bool, boolOf_undef, gt_none, List.getElem?_toArray, List.getElem?_cons_succ, List.getElem?_cons_zero, bq_true, bq_false, decide_true, decide_false, Option.toList_none, Option.toList_some, List.head?_cons, List.head?_nil, nb_cfg, cv_some, pm_some, pm_none, plainA_v, plain_bool, plain_int, plain_str, Bool.false_eq_true, if_false]
    refine ⟨1, ?_⟩
    have : decide (l.take p.length = p) = p.isPrefixOf l := by
      rw [Bool.eq_iff_iff, decide_eq_true_eq, List.isPrefixOf_iff_prefix]
      rw [List.prefix_iff_eq_take]
      exact ⟨fun h => h.symm, fun h => h.symm⟩
    rw [this]
    rfl
  · have hd : decide (((p.length : Nat) : Int) ≤ ((l.length : Nat) : Int)) = false := decide_eq_false (by omega)
    refine pure_of_wk (call := noCall) (fn := Try.f41) (rs := [.tmp 4]) tx3_ok noCall_ok (fns_cfg Try.func41 rfl) rfl rfl ?_
    intro env hl0 hargs
    have hn : env.length = 18 := hl0
    have h0 := hargs 0 _ rfl
    have h1 := hargs 1 _ rfl
    clear hargs hl0
    refine wkT_of ?_
    simp -dsimp only [hn, h0, h1, len_s, hd, wt_seq, wt_block, wt_region, wt_cond, wt_skip, wt_ret, wt_exit, wst_nil, wst_app_nil, wst_app_cons, wst_cons, wst_guard, andThen_normal, andThen_ret, andThen_exit, leave_normal, leave_ret, leave_exit, EndsA_ret, EndsA_normal, ot_move, ot_assign, ot_pick, ot_binOp, ot_unOp, ot_convert, ot_field, ot_index, ot_indexAddr, ot_fieldAddr, ot_slice, ot_build, ot_buildSlice, ot_extract, ot_makeInterface, ot_makeFunc, ot_nilCheck, ot_call, ot_len, ot_append, ot_box, ot_load, ot_store, ot_makeSlice, ct_bool, ct_true, ct_false, bt_some, gt_some, aval_tmp, aval_int, aval_bool, aval_str, aval_slice, aval_nilPointer, aval_nilIface, aval_func, aval_global, avals, apairs, bareP, AV.bare, AV.bares, bin_lss, bin_leq, bin_gtr, bin_geq, bin_eql, bin_neq, bin_add, bin_sub, bin_mul, bin_and, bin_or, bin_xor, toV_int, toV_bool, toV_string, un_neg, un_not, bin_str_eql, bin_str_neq, bin_str_lss, bin_str_leq, bin_str_gtr, bin_str_geq, aget_aput, length_aput, aput_none, Nat.reduceEqDiff, Nat.reduceLT, Nat.reduceAdd, reduceIte, reduceCtorEq, Bool.not_false, Bool.not_true, Bool.true_or, true_and, Option.bind_some, Option.map_some, List.nil_append, List.cons_append, resA, resA1, resVal, Option.getD_some, Nat.reduceLeDiff, bnd_some, yieldA_eq, yldOf_some, boolOf_bool, boolOf_undef, gt_none, List.getElem?_toArray, List.getElem?_cons_succ, List.getElem?_cons_zero, bq_true, bq_false, decide_true, decide_false, Option.toList_none, Option.toList_some, List.head?_cons, List.head?_nil, nb_cfg, cv_some, pm_some, pm_none, plainA_v, plain_bool, plain_int, plain_str, Bool.false_eq_true, if_false]
    refine ⟨1, ?_⟩
    have : p.isPrefixOf l = false := by
      rw [Bool.eq_false_iff]
      intro h'
      rw [List.isPrefixOf_iff_prefix] at h'
      exact h h'.length_le
    rw [this]
    rfl
def preP : List AV → Option AV
  | [x, y] => match dS x, dS y with
    | some l, some p => if l.length < 2 ^ 63 then some (.v (.bool (p.isPrefixOf l))) else none
    | _, _ => none
  | _ => none
theorem preP_eq {l p : List UInt8} (h : l.length < 2 ^ 63) : preP [str l, str p] = some (.v (.bool (p.isPrefixOf l))) := by simp only [preP, dS_str, h, if_true]
theorem preP_of {X : List AV → AV → Prop} (h : ∀ (l p : List UInt8), l.length < 2 ^ 63 → X [str l, str p] (.v (.bool (p.isPrefixOf l)))) : ∀ xs r, preP xs = some r → X xs r := by
  intro xs r hx
  unfold preP at hx
  split at hx
  · split at hx
    · rename_i l p h1 h2
      rw [dS_iff] at h1 h2
      subst h1 h2
      split at hx
      · rename_i hl
        injection hx with hx; subst hx
        exact h l p hl
      · cases hx
    · cases hx
  · cases hx
def tx4 : FuncId → Option (List AV → Option AV) := tab [(41, preP)]
theorem tx4_ok : (cfgP tx4).Ok := cfgOf_ok mixed fok (tab_ok ⟨prim_at Try.func41 (by kernel_rfl) rfl (preP_of slHasPrefix), trivial⟩)
theorem tx4_41 : (cfgP tx4).prim 41 = some preP := rfl
def cutPreV (l p : List UInt8) : AV := .tup [str (if p.isPrefixOf l then l.drop p.length else l), .v (.bool (p.isPrefixOf l))]
theorem slCutPrefix (l p : List UInt8) (hl : l.length < 2 ^ 63) : PureOk (cfgP tx4) 38 [str l, str p] (cutPreV l p) := by
  by_cases h : p.isPrefixOf l = true
  · have hle : p.length ≤ l.length := (List.isPrefixOf_iff_prefix.1 h).length_le
    refine pure_of_wk (call := noCall) (fn := Try.f38) (rs := [.tmp 4, .tmp 5]) tx4_ok noCall_ok (fns_cfg Try.func38 rfl) rfl rfl ?_
    intro env hl0 hargs
    have hn : env.length = 15 := hl0
    have h0 := hargs 0 _ rfl
    have h1 := hargs 1 _ rfl
    clear hargs hl0
    refine wkT_of ?_
    simp -dsimp only [hn, h0, h1, ct_prim tx4_41, bare_s, preP_eq hl, h, len_s, sliceD hle, wt_seq, wt_block, wt_region, wt_cond, wt_skip, wt_ret, wt_exit, wst_nil, wst_app_nil, wst_app_cons, wst_cons, wst_guard, andThen_normal, andThen_ret, andThen_exit, leave_normal, leave_ret, leave_exit, EndsA_ret, EndsA_normal, ot_move, ot_assign, ot_pick, ot_binOp, ot_unOp, ot_convert, ot_field, ot_index, ot_indexAddr, ot_fieldAddr, ot_slice, ot_build, ot_buildSlice, ot_extract, ot_makeInterface, ot_makeFunc, ot_nilCheck, ot_call, ot_len, ot_append, ot_box, ot_load, ot_store, ot_makeSlice, ct_bool, ct_true, ct_false, bt_some, gt_some, aval_tmp, aval_int, aval_bool, aval_str, aval_slice, aval_nilPointer, aval_nilIface, aval_func, aval_global, avals, apairs, bareP, AV.bare, AV.bares, bin_lss, bin_leq, bin_gtr, bin_geq, bin_eql, bin_neq, bin_add, bin_sub, bin_mul, bin_and, bin_or, bin_xor, toV_int, toV_bool, toV_string, un_neg, un_not, bin_str_eql, bin_str_neq, bin_str_lss, bin_str_leq, bin_str_gtr, bin_str_geq, aget_aput, length_aput, aput_none, Nat.reduceEqDiff, Nat.reduceLT, Nat.reduceAdd, reduceIte, reduceCtorEq, Bool.not_false, Bool.not_true, Bool.true_or, true_and, Option.bind_some, Option.map_some, List.nil_append, List.cons_append, resA, resA1, resVal, Option.getD_some, Nat.reduceLeDiff, bnd_some, yieldA_eq, yldOf_some, boolOf_bool, boolOf_undef, gt_none, List.getElem?_toArray, List.getElem?_cons_succ, List.getElem?_cons_zero, bq_true, bq_false, decide_true, decide_false, Option.toList_none, Option.toList_some, List.head?_cons, List.head?_nil, nb_cfg, cv_some, pm_some, pm_none, plainA_v, plain_bool, plain_int, plain_str, Bool.false_eq_true, if_false]
    refine ⟨5, ?_⟩
    rw [cutPreV, h]
    rfl
  · have h := Bool.eq_false_iff.2 h
    refine pure_of_wk (call := noCall) (fn := Try.f38) (rs := [.tmp 4, .tmp 5]) tx4_ok noCall_ok (fns_cfg Try.func38 rfl) rfl rfl ?_
    intro env hl0 hargs
    have hn : env.length = 15 := hl0
    have h0 := hargs 0 _ rfl
    have h1 := hargs 1 _ rfl
    clear hargs hl0
    refine wkT_of ?_
    simp -dsimp only [hn, h0, h1, ct_prim tx4_41, bare_s, preP_eq hl, h, wt_seq, wt_block, wt_region, wt_cond, wt_skip, wt_ret, wt_exit, wst_nil, wst_app_nil, wst_app_cons, wst_cons, wst_guard, andThen_normal, andThen_ret, andThen_exit, leave_normal, leave_ret, leave_exit, EndsA_ret, EndsA_normal, ot_move, ot_assign, ot_pick, ot_binOp, ot_unOp, ot_convert, ot_field, ot_index, ot_indexAddr, ot_fieldAddr, ot_slice, ot_build, ot_buildSlice, ot_extract, ot_makeInterface, ot_makeFunc, ot_nilCheck, ot_call, ot_len, ot_append, ot_box, ot_load, ot_store, ot_makeSlice, ct_bool, ct_true, ct_false, bt_some, gt_some, aval_tmp, aval_int, aval_bool, aval_str, aval_slice, aval_nilPointer, aval_nilIface, aval_func, aval_global, avals, apairs, bareP, AV.bare, AV.bares, bin_lss, bin_leq, bin_gtr, bin_geq, bin_eql, bin_neq, bin_add, bin_sub, bin_mul, bin_and, bin_or, bin_xor, toV_int, toV_bool, toV_string, un_neg, un_not, bin_str_eql, bin_str_neq, bin_str_lss, bin_str_leq, bin_str_gtr, bin_str_geq, aget_aput, length_aput, aput_none, Nat.reduceEqDiff, Nat.reduceLT, Nat.reduceAdd, reduceIte, reduceCtorEq, Bool.not_false, Bool.not_true, Bool.true_or, true_and, Option.bind_some, Option.map_some, List.nil_append, List.cons_append, resA, resA1, resVal, Option.getD_some, Nat.reduceLeDiff, bnd_some, yieldA_eq, yldOf_some, boolOf_bool, boolOf_undef, gt_none, List.getElem?_toArray, List.getElem?_cons_succ, List.getElem?_cons_zero, bq_true, bq_false, decide_true, decide_false, Option.toList_none, Option.toList_some, List.head?_cons, List.head?_nil, nb_cfg, cv_some, pm_some, pm_none, plainA_v, plain_bool, plain_int, plain_str, Bool.false_eq_true, if_false]
    refine ⟨5, ?_⟩
    rw [cutPreV, h]
    rfl
def cutPreP : List AV → Option AV
  | [x, y] => match dS x, dS y with
    | some l, some p => if l.length < 2 ^ 63 then some (cutPreV l p) else none
    | _, _ => none
  | _ => none
theorem cutPreP_eq {l p : List UInt8} (h : l.length < 2 ^ 63) : cutPreP [str l, str p] = some (cutPreV l p) := by simp only [cutPreP, dS_str, h, if_true]
theorem cutPreP_of {X : List AV → AV → Prop} (h : ∀ (l p : List UInt8), l.length < 2 ^ 63 → X [str l, str p] (cutPreV l p)) : ∀ xs r, cutPreP xs = some r → X xs r := by
  intro xs r hx
  unfold cutPreP at hx
  split at hx
  · split at hx
    · rename_i l p h1 h2
      rw [dS_iff] at h1 h2
      subst h1 h2
      split at hx
      · rename_i hl
        injection hx with hx; subst hx
        exact h l p hl
      · cases hx
    · cases hx
  · cases hx
def tx5 : FuncId → Option (List AV → Option AV) := tab [(38, cutPreP)]
theorem tx5_ok : (cfgP tx5).Ok := cfgOf_ok mixed fok (tab_ok ⟨prim_at Try.func38 (by kernel_rfl) rfl (cutPreP_of slCutPrefix), trivial⟩)
theorem tx5_38 : (cfgP tx5).prim 38 = some cutPreP := rfl
theorem sCutPrefix (l p : List UInt8) (hl : l.length < 2 ^ 63) : PureOk (cfgP tx5) 33 [str l, str p] (cutPreV l p) := by
  refine pure_of_wk (call := noCall) (fn := Try.f33) (rs := [.tmp 4, .tmp 5]) tx5_ok noCall_ok (fns_cfg Try.func33 rfl) rfl rfl ?_
  intro env hl0 hargs
  have hn : env.length = 11 := hl0
  have h0 := hargs 0 _ rfl
  have h1 := hargs 1 _ rfl
  clear hargs hl0
  refine wkT_of ?_
  simp -dsimp only [hn, h0, h1, ct_prim tx5_38, bare_s, cutPreP_eq hl, cutPreV, wt_seq, wt_block, wt_region, wt_cond, wt_skip, wt_ret, wt_exit, wst_nil, wst_app_nil, wst_app_cons, wst_cons, wst_guard, andThen_normal, andThen_ret, andThen_exit, leave_normal, leave_ret, leave_exit, EndsA_ret, EndsA_normal, ot_move, ot_assign, ot_pick, ot_binOp, ot_unOp, ot_convert, ot_field, ot_index, ot_indexAddr, ot_fieldAddr, ot_slice, ot_build, ot_buildSlice, ot_extract, ot_makeInterface, ot_makeFunc, ot_nilCheck, ot_call, ot_len, ot_append, ot_box, ot_load, ot_store, ot_makeSlice, ct_bool, ct_true, ct_false, bt_some, gt_some, aval_tmp, aval_int, aval_bool, aval_str, aval_slice, aval_nilPointer, aval_nilIface, aval_func, aval_global, avals, apairs, bareP, AV.bare, AV.bares, bin_lss, bin_leq, bin_gtr, bin_geq, bin_eql, bin_neq, bin_add, bin_sub, bin_mul, bin_and, bin_or, bin_xor, toV_int, toV_bool, toV_string, un_neg, un_not, bin_str_eql, bin_str_neq, bin_str_lss, bin_str_leq, bin_str_gtr, bin_str_geq, aget_aput, length_aput, aput_none, Nat.reduceEqDiff, Nat.reduceLT, Nat.reduceAdd, reduceIte, reduceCtorEq, Bool.not_false, Bool.not_true, Bool.true_or, true_and, Option.bind_some, Option.map_some, List.nil_append, List.cons_append, resA, resA1, resVal, Option.getD_some, Nat.reduceLeDiff, bnd_some, yieldA_eq, yldOf_some, boolOf_bool, boolOf_undef, gt_none, List.getElem?_toArray, List.getElem?_cons_succ, List.getElem?_cons_zero, bq_true, bq_false, decide_true, decide_false, Option.toList_none, Option.toList_some, List.head?_cons, List.head?_nil, nb_cfg, cv_some, pm_some, pm_none, plainA_v, plain_bool, plain_int, plain_str, Bool.false_eq_true, if_false]
  exact ⟨5, rfl⟩
end Go.Proofs.Ytonmpbfddiflhaa

/- Names: signs of a set, all signs of a text. -/
namespace Go.Proofs.Ytonmpbfddiflhaa
open Go.AM
def id0 : FuncId → Option (List AV → Option AV) := tab [(37, ibP)]
theorem id0_ok : (cfgP id0).Ok := cfgOf_ok mixed fok (tab_ok ⟨prim_at Try.func37 (by kernel_rfl) rfl (ibP_of sIndexByte), trivial⟩)
theorem id0_37 : (cfgP id0).prim 37 = some ibP := rfl
theorem setHas (l : List UInt8) (c : UInt8) : PureOk (cfgP id0) 32 [str l, byt c] (.v (.bool (decide (c ∈ l)))) := by
  have e : decide ((0 : Int) ≤ idxZ l c) = decide (c ∈ l) := by simp only [idxZ_nonneg]
  refine pure_of_wk (call := noCall) (fn := Try.f32) (rs := [.tmp 4]) id0_ok noCall_ok (fns_cfg Try.func32 rfl) rfl rfl ?_
  intro env hl0 hargs
  have hn : env.length = 9 := hl0
  have h0 := hargs 0 _ rfl
  have h1 := hargs 1 _ rfl
  clear hargs hl0
  refine wkT_of ?_
  simp -dsimp only [hn, h0, h1, byt, ct_prim id0_37, bare_s, ibP_eq, e, wt_seq, wt_block, wt_region, wt_cond, wt_skip, wt_ret, wt_exit, wst_nil, wst_app_nil, wst_app_cons, wst_cons, wst_guard, andThen_normal, andThen_ret, andThen_exit, leave_normal, leave_ret, leave_exit, EndsA_ret, EndsA_normal, ot_move, ot_assign, ot_pick, ot_binOp, ot_unOp, ot_convert, ot_field, ot_index, ot_indexAddr, ot_fieldAddr, ot_slice, ot_build, ot_buildSlice, ot_extract, ot_makeInterface, ot_makeFunc, ot_nilCheck, ot_call, ot_len, ot_append, ot_box, ot_load, ot_store, ot_makeSlice, ct_bool, ct_true, ct_false, bt_some, gt_some, aval_tmp, aval_int, aval_bool, aval_str, aval_slice, aval_nilPointer, aval_nilIface, aval_func, aval_global, avals, apairs, bareP, AV.bare, AV.bares, bin_lss, bin_leq, bin_gtr, bin_geq, bin_eql, bin_neq, bin_add, bin_sub, bin_mul, bin_and, bin_or, bin_xor, toV_int, toV_bool, toV_string, un_neg, un_not, bin_str_eql, bin_str_neq, bin_str_lss, bin_str_leq, bin_str_gtr, bin_str_geq, aget_aput, length_aput, aput_none, Nat.reduceEqDiff, Nat.reduceLT, Nat.reduceAdd, reduceIte, reduceCtorEq, Bool.not_false, Bool.not_true, Bool.true_or, true_and, Option.bind_some, Option.map_some, List.nil_append, List.cons_append, resA, resA1, resVal, Option.getD_some, Nat.reduceLeDiff, bnd_some, yieldA_eq, yldOf_some, boolOf_bool, boolOf_undef, gt_none, List.getElem?_toArray, List.getElem?_cons_succ, List.getElem?_cons_zero, bq_true, bq_false, decide_true, decide_false, Option.toList_none, Option.toList_some, List.head?_cons, List.head?_nil, nb_cfg, cv_some, pm_some, pm_none, plainA_v, plain_bool, plain_int, plain_str, Bool.false_eq_true, if_false]
  exact ⟨1, rfl⟩
def id1 : FuncId → Option (List AV → Option AV) := tab [(32, hasP)]
theorem id1_ok : (cfgP id1).Ok := cfgOf_ok mixed fok (tab_ok ⟨prim_at Try.func32 (by kernel_rfl) rfl (hasP_of setHas), trivial⟩)
theorem id1_32 : (cfgP id1).prim 32 = some hasP := rfl
/-- From 1 to n signs, all such. -/
def allS (l : List UInt8) (n : Int) (q : UInt8 → Bool) : Bool := l.all q && decide (0 < l.length) && decide ((l.length : Int) ≤ n)
structure allI (l : List UInt8) (n : Int) (x f : AV) (q : UInt8 → Bool) (nt i : Nat) (e : Env) (h : Hp) : Prop where
  len : e.length = nt
  hp : h = {}
  a0 : aget e 0 = str l
  a1 : aget e 1 = .v (.int .i64 n)
  a2 : aget e 2 = x
  a3 : aget e 3 = f
  a11 : aget e 11 = .v (.int .i64 l.length)
  a12 : aget e 12 = .v (.int .i64 i)
  ok : ∀ c ∈ l.take i, q c = true
theorem allS_false {l : List UInt8} {n : Int} {q : UInt8 → Bool} {i : Nat} (h : i < l.length) (hq : q l[i] = false) : allS l n q = false := by
  unfold allS
  have : l.all q = false := by
    rw [List.all_eq_false]
    exact ⟨l[i], List.getElem_mem h, by simp [hq]⟩
  rw [this]
  rfl
theorem all_take {l : List UInt8} {q : UInt8 → Bool} {i : Nat} (h : i < l.length) (ok : ∀ c ∈ l.take i, q c = true) (hq : q l[i] = true) : ∀ c ∈ l.take (i + 1), q c = true := by
  intro c hc
  rw [List.take_succ_eq_append_getElem h, List.mem_append, List.mem_singleton] at hc
  rcases hc with hc | rfl
  · exact ok c hc
  · exact hq
theorem allS_true {l : List UInt8} {n : Int} {q : UInt8 → Bool} (ok : ∀ c ∈ l, q c = true) : allS l n q = (decide ((0 : Int) < (l.length : Nat)) && decide ((l.length : Int) ≤ n)) := by
  unfold allS
  rw [List.all_eq_true.2 ok]
  congr 1
  simp
theorem allSet (l set : List UInt8) (n : Int) (hl : l.length < 2 ^ 63) : PureOk (cfgP id1) 31 [str l, .v (.int .i64 n), str set, .fn (.func 32) [] []] (.v (.bool (allS l n fun c => decide (c ∈ set)))) := by
  refine pure_of_wk (call := noCall) (fn := Try.f31) (rs := [.tmp 8]) id1_ok noCall_ok (fns_cfg Try.func31 rfl) rfl rfl ?_
  intro env hl0 hargs
  have hn : env.length = 32 := hl0
  have h0 := hargs 0 _ rfl
  have h1 := hargs 1 _ rfl
  have h2 := hargs 2 _ rfl
  have h3 := hargs 3 _ rfl
  clear hargs hl0
  refine wkT_of ?_
  simp -dsimp only [hn, h0, h1, h2, h3, len_s, wt_seq, wt_block, wt_region, wt_cond, wt_skip, wt_ret, wt_exit, wst_nil, wst_app_nil, wst_app_cons, wst_cons, wst_guard, andThen_normal, andThen_ret, andThen_exit, leave_normal, leave_ret, leave_exit, EndsA_ret, EndsA_normal, ot_move, ot_assign, ot_pick, ot_binOp, ot_unOp, ot_convert, ot_field, ot_index, ot_indexAddr, ot_fieldAddr, ot_slice, ot_build, ot_buildSlice, ot_extract, ot_makeInterface, ot_makeFunc, ot_nilCheck, ot_call, ot_len, ot_append, ot_box, ot_load, ot_store, ot_makeSlice, ct_bool, ct_true, ct_false, bt_some, gt_some, aval_tmp, aval_int, aval_bool, aval_str, aval_slice, aval_nilPointer, aval_nilIface, aval_func, aval_global, avals, apairs, bareP, AV.bare, AV.bares, bin_lss, bin_leq, bin_gtr, bin_geq, bin_eql, bin_neq, bin_add, bin_sub, bin_mul, bin_and, bin_or, bin_xor, toV_int, toV_bool, toV_string, un_neg, un_not, bin_str_eql, bin_str_neq, bin_str_lss, bin_str_leq, bin_str_gtr, bin_str_geq, aget_aput, length_aput, aput_none, Nat.reduceEqDiff, Nat.reduceLT, Nat.reduceAdd, reduceIte, reduceCtorEq, Bool.not_false, Bool.not_true, Bool.true_or, true_and, Option.bind_some, Option.map_some, List.nil_append, List.cons_append, resA, resA1, resVal, Option.getD_some, Nat.reduceLeDiff, bnd_some, yieldA_eq, yldOf_some, boolOf_bool, boolOf_undef, gt_none, List.getElem?_toArray, List.getElem?_cons_succ, List.getElem?_cons_zero, bq_true, bq_false, decide_true, decide_false, Option.toList_none, Option.toList_some, List.head?_cons, List.head?_nil, nb_cfg, cv_some, pm_some, pm_none, plainA_v, plain_bool, plain_int, plain_str, Bool.false_eq_true, if_false]
  refine wt_loop (m := l.length) (fun m e h => ∃ i, i + m = l.length ∧ allI l n (str set) (.fn (.func 32) [] []) (fun c => decide (c ∈ set)) 32 i e h) ?_ ?_
  · rintro m e h ⟨i, hi, hn, rfl, h0, h1, h2, h3, h11, h12, ok⟩
    simp -dsimp only [hn, h0, h1, h2, h3, h11, h12, wt_seq, wt_block, wt_region, wt_cond, wt_skip, wt_ret, wt_exit, wst_nil, wst_app_nil, wst_app_cons, wst_cons, wst_guard, andThen_normal, andThen_ret, andThen_exit, leave_normal, leave_ret, leave_exit, EndsA_ret, EndsA_normal, ot_move, ot_assign, ot_pick, ot_binOp, ot_unOp, ot_convert, ot_field, ot_index, ot_indexAddr, ot_fieldAddr, ot_slice, ot_build, ot_buildSlice, ot_extract, ot_makeInterface, ot_makeFunc, ot_nilCheck, ot_call, ot_len, ot_append, ot_box, ot_load, ot_store, ot_makeSlice, ct_bool, ct_true, ct_false, bt_some, gt_some, aval_tmp, aval_int, aval_bool, aval_str, aval_slice, aval_nilPointer, aval_nilIface, aval_func, aval_global, avals, apairs, bareP, AV.bare, AV.bares, bin_lss, bin_leq, bin_gtr, bin_geq, bin_eql, bin_neq, bin_add, bin_sub, bin_mul, bin_and, bin_or, bin_xor, toV_int, toV_bool, toV_string, un_neg, un_not, bin_str_eql, bin_str_neq, bin_str_lss, bin_str_leq, bin_str_gtr, bin_str_geq, aget_aput, length_aput, aput_none, Nat.reduceEqDiff, Nat.reduceLT, Nat.reduceAdd, reduceIte, reduceCtorEq, Bool.not_false, Bool.not_true, Bool.true_or, true_and, Option.bind_some, Option.map_some, List.nil_append, List.cons_append, resA, resA1, resVal, Option.getD_some, Nat.reduceLeDiff, bnd_some, yieldA_eq, yldOf_some, boolOf_bool, boolOf_undef, gt_none, List.getElem?_toArray, List.getElem?_cons_succ, List.getElem?_cons_zero, bq_true, bq_false, decide_true, decide_false, Option.toList_none, Option.toList_some, List.head?_cons, List.head?_nil, nb_cfg, cv_some, pm_some, pm_none, plainA_v, plain_bool, plain_int, plain_str, Bool.false_eq_true, if_false]
    by_cases hil : i < l.length
    · have hd : decide ((i : Int) < (l.length : Int)) = true := decide_eq_true (by omega)
      have e1 : IntKind.i64.wrap ((i : Int) + 1) = ((i + 1 : Nat) : Int) := wr64 (by omega) (by omega)
      simp -dsimp only [hn, h0, h1, h2, h3, h11, h12, hd, index_s hil, byt, ct_prim id1_32, bare_s, hasP_eq, wt_seq, wt_block, wt_region, wt_cond, wt_skip, wt_ret, wt_exit, wst_nil, wst_app_nil, wst_app_cons, wst_cons, wst_guard, andThen_normal, andThen_ret, andThen_exit, leave_normal, leave_ret, leave_exit, EndsA_ret, EndsA_normal, ot_move, ot_assign, ot_pick, ot_binOp, ot_unOp, ot_convert, ot_field, ot_index, ot_indexAddr, ot_fieldAddr, ot_slice, ot_build, ot_buildSlice, ot_extract, ot_makeInterface, ot_makeFunc, ot_nilCheck, ot_call, ot_len, ot_append, ot_box, ot_load, ot_store, ot_makeSlice, ct_bool, ct_true, ct_false, bt_some, gt_some, aval_tmp, aval_int, aval_bool, aval_str, aval_slice, aval_nilPointer, aval_nilIface, aval_func, aval_global, avals, apairs, bareP, AV.bare, AV.bares, bin_lss, bin_leq, bin_gtr, bin_geq, bin_eql, bin_neq, bin_add, bin_sub, bin_mul, bin_and, bin_or, bin_xor, toV_int, toV_bool, toV_string, un_neg, un_not, bin_str_eql, bin_str_neq, bin_str_lss, bin_str_leq, bin_str_gtr, bin_str_geq, aget_aput, length_aput, aput_none, Nat.reduceEqDiff, Nat.reduceLT, Nat.reduceAdd, reduceIte, reduceCtorEq, Bool.not_false, Bool.not_true, Bool.true_or, true_and, Option.bind_some, Option.map_some, List.nil_append, List.cons_append, resA, resA1, resVal, Option.getD_some, Nat.reduceLeDiff, bnd_some, yieldA_eq, yldOf_some, boolOf_bool, boolOf_undef, gt_none, List.getElem?_toArray, List.getElem?_cons_succ, List.getElem?_cons_zero, bq_true, bq_false, decide_true, decide_false, Option.toList_none, Option.toList_some, List.head?_cons, List.head?_nil, nb_cfg, cv_some, pm_some, pm_none, plainA_v, plain_bool, plain_int, plain_str, Bool.false_eq_true, if_false]
      by_cases hq : l[i] ∈ set
      · have hq' : decide (l[i] ∈ set) = true := by simpa using hq
        simp -dsimp only [hn, h0, h1, h2, h3, h11, h12, hq', e1, wt_seq, wt_block, wt_region, wt_cond, wt_skip, wt_ret, wt_exit, wst_nil, wst_app_nil, wst_app_cons, wst_cons, wst_guard, andThen_normal, andThen_ret, andThen_exit, leave_normal, leave_ret, leave_exit, EndsA_ret, EndsA_normal, ot_move, ot_assign, ot_pick, ot_binOp, ot_unOp, ot_convert, ot_field, ot_index, ot_indexAddr, ot_fieldAddr, ot_slice, ot_build, ot_buildSlice, ot_extract, ot_makeInterface, ot_makeFunc, ot_nilCheck, ot_call, ot_len, ot_append, ot_box, ot_load, ot_store, ot_makeSlice, ct_bool, ct_true, ct_false, bt_some, gt_some, aval_tmp, aval_int, aval_bool, aval_str, aval_slice, aval_nilPointer, aval_nilIface, aval_func, aval_global, avals, apairs, bareP, AV.bare, AV.bares, bin_lss, bin_leq, bin_gtr, bin_geq, bin_eql, bin_neq, bin_add, bin_sub, bin_mul, bin_and, bin_or, bin_xor, toV_int, toV_bool, toV_string, un_neg, un_not, bin_str_eql, bin_str_neq, bin_str_lss, bin_str_leq, bin_str_gtr, bin_str_geq, aget_aput, length_aput, aput_none, Nat.reduceEqDiff, Nat.reduceLT, Nat.reduceAdd, reduceIte, reduceCtorEq, Bool.not_false, Bool.not_true, Bool.true_or, true_and, Option.bind_some, Option.map_some, List.nil_append, List.cons_append, resA, resA1, resVal, Option.getD_some, Nat.reduceLeDiff, bnd_some, yieldA_eq, yldOf_some, boolOf_bool, boolOf_undef, gt_none, List.getElem?_toArray, List.getElem?_cons_succ, List.getElem?_cons_zero, bq_true, bq_false, decide_true, decide_false, Option.toList_none, Option.toList_some, List.head?_cons, List.head?_nil, nb_cfg, cv_some, pm_some, pm_none, plainA_v, plain_bool, plain_int, plain_str, Bool.false_eq_true, if_false]
        refine ⟨m - 1, by omega, i + 1, by omega, ?_, rfl, ?_, ?_, ?_, ?_, ?_, ?_, all_take hil ok hq'⟩
        all_goals simp -dsimp only [hn, h0, h1, h2, h3, h11, wt_seq, wt_block, wt_region, wt_cond, wt_skip, wt_ret, wt_exit, wst_nil, wst_app_nil, wst_app_cons, wst_cons, wst_guard, andThen_normal, andThen_ret, andThen_exit, leave_normal, leave_ret, leave_exit, EndsA_ret, EndsA_normal, ot_move, ot_assign, ot_pick, ot_binOp, ot_unOp, ot_convert, ot_field, ot_index, ot_indexAddr, ot_fieldAddr, ot_slice, ot_build, ot_buildSlice, ot_extract, ot_makeInterface, ot_makeFunc, ot_nilCheck, ot_call, ot_len, ot_append, ot_box, ot_load, ot_store, ot_makeSlice, ct_bool, ct_true, ct_false, bt_some, gt_some, aval_tmp, aval_int, aval_bool, aval_str, aval_slice, aval_nilPointer, aval_nilIface, aval_func, aval_global, avals, apairs, bareP, AV.bare, AV.bares, bin_lss, bin_leq, bin_gtr, bin_geq, bin_eql, bin_neq, bin_add, bin_sub, bin_mul, bin_and, bin_or, bin_xor, toV_int, toV_bool, toV_string, un_neg, un_not, bin_str_eql, bin_str_neq, bin_str_lss, bin_str_leq, bin_str_gtr, bin_str_geq, aget_aput, length_aput, aput_none, Nat.reduceEqDiff, Nat.reduceLT, Nat.reduceAdd, reduceIte, reduceCtorEq, Bool.not_false, Bool.not_true, Bool.true_or, true_and, Option.bind_some, Option.map_some, List.nil_append, List.cons_append, resA, resA1, resVal, Option.getD_some, Nat.reduceLeDiff, bnd_some, yieldA_eq, yldOf_some, boolOf_bool, boolOf_undef, gt_none, List.getElem?_toArray, List.getElem?_cons_succ, List.getElem?_cons_zero, bq_true, bq_false, decide_true, decide_false, Option.toList_none, Option.toList_some, List.head?_cons, List.head?_nil, nb_cfg, cv_some, pm_some, pm_none, plainA_v, plain_bool, plain_int, plain_str, Bool.false_eq_true, if_false]
      · have hq' : decide (l[i] ∈ set) = false := by simpa using hq
        simp -dsimp only [hn, h0, h1, h2, h3, h11, h12, hq', wt_seq, wt_block, wt_region, wt_cond, wt_skip, wt_ret, wt_exit, wst_nil, wst_app_nil, wst_app_cons, wst_cons, wst_guard, andThen_normal, andThen_ret, andThen_exit, leave_normal, leave_ret, leave_exit, EndsA_ret, EndsA_normal, ot_move, ot_assign, ot_pick, ot_binOp, ot_unOp, ot_convert, ot_field, ot_index, ot_indexAddr, ot_fieldAddr, ot_slice, ot_build, ot_buildSlice, ot_extract, ot_makeInterface, ot_makeFunc, ot_nilCheck, ot_call, ot_len, ot_append, ot_box, ot_load, ot_store, ot_makeSlice, ct_bool, ct_true, ct_false, bt_some, gt_some, aval_tmp, aval_int, aval_bool, aval_str, aval_slice, aval_nilPointer, aval_nilIface, aval_func, aval_global, avals, apairs, bareP, AV.bare, AV.bares, bin_lss, bin_leq, bin_gtr, bin_geq, bin_eql, bin_neq, bin_add, bin_sub, bin_mul, bin_and, bin_or, bin_xor, toV_int, toV_bool, toV_string, un_neg, un_not, bin_str_eql, bin_str_neq, bin_str_lss, bin_str_leq, bin_str_gtr, bin_str_geq, aget_aput, length_aput, aput_none, Nat.reduceEqDiff, Nat.reduceLT, Nat.reduceAdd, reduceIte, reduceCtorEq, Bool.not_false, Bool.not_true, Bool.true_or, true_and, Option.bind_some, Option.map_some, List.nil_append, List.cons_append, resA, resA1, resVal, Option.getD_some, Nat.reduceLeDiff, bnd_some, yieldA_eq, yldOf_some, boolOf_bool, boolOf_undef, gt_none, List.getElem?_toArray, List.getElem?_cons_succ, List.getElem?_cons_zero, bq_true, bq_false, decide_true, decide_false, Option.toList_none, Option.toList_some, List.head?_cons, List.head?_nil, nb_cfg, cv_some, pm_some, pm_none, plainA_v, plain_bool, plain_int, plain_str, Bool.false_eq_true, if_false]
        exact ⟨1, by rw [allS_false hil hq']; rfl⟩
    · have hd : decide ((i : Int) < (l.length : Int)) = false := decide_eq_false (by omega)
      have he : i = l.length := by omega
      subst he
      rw [List.take_length] at ok
      simp -dsimp only [hn, h0, h1, h2, h3, h11, h12, hd, len_s, wt_seq, wt_block, wt_region, wt_cond, wt_skip, wt_ret, wt_exit, wst_nil, wst_app_nil, wst_app_cons, wst_cons, wst_guard, andThen_normal, andThen_ret, andThen_exit, leave_normal, leave_ret, leave_exit, EndsA_ret, EndsA_normal, ot_move, ot_assign, ot_pick, ot_binOp, ot_unOp, ot_convert, ot_field, ot_index, ot_indexAddr, ot_fieldAddr, ot_slice, ot_build, ot_buildSlice, ot_extract, ot_makeInterface, ot_makeFunc, ot_nilCheck, ot_call, ot_len, ot_append, ot_box, ot_load, ot_store, ot_makeSlice, ct_bool, ct_true, ct_false, bt_some, gt_some, aval_tmp, aval_int, aval_bool, aval_str, aval_slice, aval_nilPointer, aval_nilIface, aval_func, aval_global, avals, apairs, bareP, AV.bare, AV.bares, bin_lss, bin_leq, bin_gtr, bin_geq, bin_eql, bin_neq, bin_add, bin_sub, bin_mul, bin_and, bin_or, bin_xor, toV_int, toV_bool, toV_string, un_neg, un_not, bin_str_eql, bin_str_neq, bin_str_lss, bin_str_leq, bin_str_gtr, bin_str_geq, aget_aput, length_aput, aput_none, Nat.reduceEqDiff, Nat.reduceLT, Nat.reduceAdd, reduceIte, reduceCtorEq, Bool.not_false, Bool.not_true, Bool.true_or, true_and, Option.bind_some, Option.map_some, List.nil_append, List.cons_append, resA, resA1, resVal, Option.getD_some, Nat.reduceLeDiff, bnd_some, yieldA_eq, yldOf_some, boolOf_bool, boolOf_undef, gt_none, List.getElem?_toArray, List.getElem?_cons_succ, List.getElem?_cons_zero, bq_true, bq_false, decide_true, decide_false, Option.toList_none, Option.toList_some, List.head?_cons, List.head?_nil, nb_cfg, cv_some, pm_some, pm_none, plainA_v, plain_bool, plain_int, plain_str, Bool.false_eq_true, if_false]
      by_cases hz : 0 < l.length
      · have hd2 : decide ((0 : Int) < ((l.length : Nat) : Int)) = true := decide_eq_true (by omega)
        simp -dsimp only [hn, h0, h1, h2, h3, h11, h12, hd2, len_s, wt_seq, wt_block, wt_region, wt_cond, wt_skip, wt_ret, wt_exit, wst_nil, wst_app_nil, wst_app_cons, wst_cons, wst_guard, andThen_normal, andThen_ret, andThen_exit, leave_normal, leave_ret, leave_exit, EndsA_ret, EndsA_normal, ot_move, ot_assign, ot_pick, ot_binOp, ot_unOp, ot_convert, ot_field, ot_index, ot_indexAddr, ot_fieldAddr, ot_slice, ot_build, ot_buildSlice, ot_extract, ot_makeInterface, ot_makeFunc, ot_nilCheck, ot_call, ot_len, ot_append, ot_box, ot_load, ot_store, ot_makeSlice, ct_bool, ct_true, ct_false, bt_some, gt_some, aval_tmp, aval_int, aval_bool, aval_str, aval_slice, aval_nilPointer, aval_nilIface, aval_func, aval_global, avals, apairs, bareP, AV.bare, AV.bares, bin_lss, bin_leq, bin_gtr, bin_geq, bin_eql, bin_neq, bin_add, bin_sub, bin_mul, bin_and, bin_or, bin_xor, toV_int, toV_bool, toV_string, un_neg, un_not, bin_str_eql, bin_str_neq, bin_str_lss, bin_str_leq, bin_str_gtr, bin_str_geq, aget_aput, length_aput, aput_none, Nat.reduceEqDiff, Nat.reduceLT, Nat.reduceAdd, reduceIte, reduceCtorEq, Bool.not_false, Bool.not_true, Bool.true_or, true_and, Option.bind_some, Option.map_some, List.nil_append, List.cons_append, resA, resA1, resVal, Option.getD_some, Nat.reduceLeDiff, bnd_some, yieldA_eq, yldOf_some, boolOf_bool, boolOf_undef, gt_none, List.getElem?_toArray, List.getElem?_cons_succ, List.getElem?_cons_zero, bq_true, bq_false, decide_true, decide_false, Option.toList_none, Option.toList_some, List.head?_cons, List.head?_nil, nb_cfg, cv_some, pm_some, pm_none, plainA_v, plain_bool, plain_int, plain_str, Bool.false_eq_true, if_false]
        exact ⟨1, by rw [allS_true ok, hd2]; rfl⟩
      · have hd2 : decide ((0 : Int) < ((l.length : Nat) : Int)) = false := decide_eq_false (by omega)
        simp -dsimp only [hn, h0, h1, h2, h3, h11, h12, hd2, len_s, wt_seq, wt_block, wt_region, wt_cond, wt_skip, wt_ret, wt_exit, wst_nil, wst_app_nil, wst_app_cons, wst_cons, wst_guard, andThen_normal, andThen_ret, andThen_exit, leave_normal, leave_ret, leave_exit, EndsA_ret, EndsA_normal, ot_move, ot_assign, ot_pick, ot_binOp, ot_unOp, ot_convert, ot_field, ot_index, ot_indexAddr, ot_fieldAddr, ot_slice, ot_build, ot_buildSlice, ot_extract, ot_makeInterface, ot_makeFunc, ot_nilCheck, ot_call, ot_len, ot_append, ot_box, ot_load, ot_store, ot_makeSlice, ct_bool, ct_true, ct_false, bt_some, gt_some, aval_tmp, aval_int, aval_bool, aval_str, aval_slice, aval_nilPointer, aval_nilIface, aval_func, aval_global, avals, apairs, bareP, AV.bare, AV.bares, bin_lss, bin_leq, bin_gtr, bin_geq, bin_eql, bin_neq, bin_add, bin_sub, bin_mul, bin_and, bin_or, bin_xor, toV_int, toV_bool, toV_string, un_neg, un_not, bin_str_eql, bin_str_neq, bin_str_lss, bin_str_leq, bin_str_gtr, bin_str_geq, aget_aput, length_aput, aput_none, Nat.reduceEqDiff, Nat.reduceLT, Nat.reduceAdd, reduceIte, reduceCtorEq, Bool.not_false, Bool.not_true, Bool.true_or, true_and, Option.bind_some, Option.map_some, List.nil_append, List.cons_append, resA, resA1, resVal, Option.getD_some, Nat.reduceLeDiff, bnd_some, yieldA_eq, yldOf_some, boolOf_bool, boolOf_undef, gt_none, List.getElem?_toArray, List.getElem?_cons_succ, List.getElem?_cons_zero, bq_true, bq_false, decide_true, decide_false, Option.toList_none, Option.toList_some, List.head?_cons, List.head?_nil, nb_cfg, cv_some, pm_some, pm_none, plainA_v, plain_bool, plain_int, plain_str, Bool.false_eq_true, if_false]
        exact ⟨1, by rw [allS_true ok, hd2]; rfl⟩
  · refine ⟨0, Nat.zero_add _, ?_, rfl, ?_, ?_, ?_, ?_, ?_, ?_, fun c hc => by simp at hc⟩
    any_goals simp -dsimp only [hn, h0, h1, h2, h3, wt_seq, wt_block, wt_region, wt_cond, wt_skip, wt_ret, wt_exit, wst_nil, wst_app_nil, wst_app_cons, wst_cons, wst_guard, andThen_normal, andThen_ret, andThen_exit, leave_normal, leave_ret, leave_exit, EndsA_ret, EndsA_normal, ot_move, ot_assign, ot_pick, ot_binOp, ot_unOp, ot_convert, ot_field, ot_index, ot_indexAddr, ot_fieldAddr, ot_slice, ot_build, ot_buildSlice, ot_extract, ot_makeInterface, ot_makeFunc, ot_nilCheck, ot_call, ot_len, ot_append, ot_box, ot_load, ot_store, ot_makeSlice, ct_bool, ct_true, ct_false, bt_some, gt_some, aval_tmp, aval_int, aval_bool, aval_str, aval_slice, aval_nilPointer, aval_nilIface, aval_func, aval_global, avals, apairs, bareP, AV.bare, AV.bares, bin_lss, bin_leq, bin_gtr, bin_geq, bin_eql, bin_neq, bin_add, bin_sub, bin_mul, bin_and, bin_or, bin_xor, toV_int, toV_bool, toV_string, un_neg, un_not, bin_str_eql, bin_str_neq, bin_str_lss, bin_str_leq, bin_str_gtr, bin_str_geq, aget_aput, length_aput, aput_none, Nat.reduceEqDiff, Nat.reduceLT, Nat.reduceAdd, reduceIte, reduceCtorEq, Bool.not_false, Bool.not_true, Bool.true_or, true_and, Option.bind_some, Option.map_some, List.nil_append, List.cons_append, resA, resA1, resVal, Option.getD_some, Nat.reduceLeDiff, bnd_some, yieldA_eq, yldOf_some, boolOf_bool, boolOf_undef, gt_none, List.getElem?_toArray, List.getElem?_cons_succ, List.getElem?_cons_zero, bq_true, bq_false, decide_true, decide_false, Option.toList_none, Option.toList_some, List.head?_cons, List.head?_nil, nb_cfg, cv_some, pm_some, pm_none, plainA_v, plain_bool, plain_int, plain_str, Bool.false_eq_true, if_false]
    rfl
end Go.Proofs.Ytonmpbfddiflhaa

/- Names: servers, users, rooms, keys. -/
namespace Go.Proofs.Ytonmpbfddiflhaa
open Go.AM
def allSP : List AV → Option AV
  | [x, .v (.int .i64 n), y, .fn (.func 32) [] []] => match dS x, dS y with
    | some l, some set => if l.length < 2 ^ 63 then some (.v (.bool (allS l n fun c => decide (c ∈ set)))) else none
    | _, _ => none
  | _ => none
theorem allSP_eq {l set : List UInt8} {n : Int} (h : l.length < 2 ^ 63) : allSP [str l, .v (.int .i64 n), str set, .fn (.func 32) [] []] = some (.v (.bool (allS l n fun c => decide (c ∈ set)))) := by simp only [allSP, dS_str, h, if_true]
theorem allSP_ok : ∀ xs r, allSP xs = some r → PureOk (cfgP id1) 31 xs r := by
  intro xs r hx
  unfold allSP at hx
  split at hx
  · split at hx
    · rename_i l set h1 h2
      rw [dS_iff] at h1 h2
      subst h1 h2
      split at hx
      · rename_i hl
        injection hx with hx; subst hx
        exact allSet l set _ hl
      · cases hx
    · cases hx
  · cases hx
def id3 : FuncId → Option (List AV → Option AV) := tab [(31, allSP), (30, cutP), (33, cutPreP)]
theorem id3_ok : (cfgP id3).Ok := cfgOf_ok mixed fok (tab_ok ⟨prim_at Try.func31 (by kernel_rfl) rfl (allSP_ok), prim_at Try.func30 (by kernel_rfl) rfl (cutP_of sCut), prim_at Try.func33 (by kernel_rfl) rfl (cutPreP_of sCutPrefix), trivial⟩)
theorem id3_31 : (cfgP id3).prim 31 = some allSP := rfl
theorem id3_30 : (cfgP id3).prim 30 = some cutP := rfl
theorem id3_33 : (cfgP id3).prim 33 = some cutPreP := rfl
def digitsL : List UInt8 := [48, 49, 50, 51, 52, 53, 54, 55, 56, 57]
def lettersL : List UInt8 := [97, 98, 99, 100, 101, 102, 103, 104, 105, 106, 107, 108, 109, 110, 111, 112, 113, 114, 115, 116, 117, 118, 119, 120, 121, 122, 65, 66, 67, 68, 69, 70, 71, 72, 73, 74, 75, 76, 77, 78, 79, 80, 81, 82, 83, 84, 85, 86, 87, 88, 89, 90]
def inDigits (c : UInt8) : Bool := decide (c ∈ digitsL)
def inName (c : UInt8) : Bool := decide (c ∈ lettersL ++ digitsL ++ [46, 45])
def inKeyName (c : UInt8) : Bool := decide (c ∈ lettersL ++ digitsL ++ [95])
def serverB (l : List UInt8) : Bool := match cutB l 58 with
  | (a, b, ok) => if ok && !(allS b 5 inDigits) then false else decide ((l.length : Int) ≤ 255) && allS a 255 inName
theorem cutB_len {l : List UInt8} {c : UInt8} {a b : List UInt8} {ok : Bool} (h : cutB l c = (a, b, ok)) : a.length ≤ l.length ∧ b.length ≤ l.length := by
  unfold cutB at h
  split at h
  · injection h with h1 h; injection h with h2 h3
    subst h1; subst h2
    simp only [List.length_take, List.length_drop]
    omega
  · injection h with h1 h; injection h with h2 h3
    subst h1; subst h2
    simp
theorem server_ok (l : List UInt8) (hl : l.length < 2 ^ 63) : PureOk (cfgP id3) 26 [str l] (.v (.bool (serverB l))) := by
  obtain ⟨a, b, ok, hc⟩ : ∃ a b ok, cutB l 58 = (a, b, ok) := ⟨_, _, _, rfl⟩
  obtain ⟨la, lb⟩ := cutB_len hc
  have hs : serverB l = if ok && !(allS b 5 inDigits) then false else decide ((l.length : Int) ≤ 255) && allS a 255 inName := by unfold serverB; rw [hc]
  rw [hs]
  have e1 : allSP [str b, .v (.int .i64 5), str [48, 49, 50, 51, 52, 53, 54, 55, 56, 57], .fn (.func 32) [] []] = some (.v (.bool (allS b 5 inDigits))) := allSP_eq (by omega)
  have e2 : allSP [str a, .v (.int .i64 255), str (lettersL ++ digitsL ++ [46, 45]), .fn (.func 32) [] []] = some (.v (.bool (allS a 255 inName))) := allSP_eq (by omega)
  simp only [lettersL, digitsL, List.cons_append, List.nil_append] at e2
  cases ok with
  | false =>
    refine pure_of_wk (call := noCall) (fn := Try.f26) (rs := [.tmp 2]) id3_ok noCall_ok (fns_cfg Try.func26 rfl) rfl rfl ?_
    intro env hl0 hargs
    have hn : env.length = 25 := hl0
    have h0 := hargs 0 _ rfl
    clear hargs hl0
    refine wkT_of ?_
    by_cases h255 : (l.length : Int) ≤ 255
    · have hd : decide ((l.length : Int) ≤ 255) = true := decide_eq_true h255
      simp -dsimp only [hn, h0, List.toList_toArray, ct_prim id3_30, ct_prim id3_31, bare_s, cutP_eq hl, cutV, hc, len_s, hd, e2, wt_seq, wt_block, wt_region, wt_cond, wt_skip, wt_ret, wt_exit, wst_nil, wst_app_nil, wst_app_cons, wst_cons, wst_guard, andThen_normal, andThen_ret, andThen_exit, leave_normal, leave_ret, leave_exit, EndsA_ret, EndsA_normal, ot_move, ot_assign, ot_pick, ot_binOp, ot_unOp, ot_convert, ot_field, ot_index, ot_indexAddr, ot_fieldAddr, ot_slice, ot_build, ot_buildSlice, ot_extract, ot_makeInterface, ot_makeFunc, ot_nilCheck, ot_call, ot_len, ot_append, ot_box, ot_load, ot_store, ot_makeSlice, ct_bool, ct_true, ct_false, bt_some, gt_some, aval_tmp, aval_int, aval_bool, aval_str, aval_slice, aval_nilPointer, aval_nilIface, aval_func, aval_global, avals, apairs, bareP, AV.bare, AV.bares, bin_lss, bin_leq, bin_gtr, bin_geq, bin_eql, bin_neq, bin_add, bin_sub, bin_mul, bin_and, bin_or, bin_xor, toV_int, toV_bool, toV_string, un_neg, un_not, bin_str_eql, bin_str_neq, bin_str_lss, bin_str_leq, bin_str_gtr, bin_str_geq, aget_aput, length_aput, aput_none, Nat.reduceEqDiff, Nat.reduceLT, Nat.reduceAdd, reduceIte, reduceCtorEq, Bool.not_false, Bool.not_true, Bool.true_or, true_and, Option.bind_some, Option.map_some, List.nil_append, List.cons_append, resA, resA1, resVal, Option.getD_some, Nat.reduceLeDiff, bnd_some, yieldA_eq, yldOf_some, boolOf_bool, boolOf_undef, gt_none, List.getElem?_toArray, List.getElem?_cons_succ, List.getElem?_cons_zero, bq_true, bq_false, decide_true, decide_false, Option.toList_none, Option.toList_some, List.head?_cons, List.head?_nil, nb_cfg, cv_some, pm_some, pm_none, plainA_v, plain_bool, plain_int, plain_str, Bool.false_eq_true, if_false]
      exact ⟨1, rfl⟩
    · have hd : decide ((l.length : Int) ≤ 255) = false := decide_eq_false h255
      simp -dsimp only [hn, h0, List.toList_toArray, ct_prim id3_30, bare_s, cutP_eq hl, cutV, hc, len_s, hd, wt_seq, wt_block, wt_region, wt_cond, wt_skip, wt_ret, wt_exit, wst_nil, wst_app_nil, wst_app_cons, wst_cons, wst_guard, andThen_normal, andThen_ret, andThen_exit, leave_normal, leave_ret, leave_exit, EndsA_ret, EndsA_normal, ot_move, ot_assign, ot_pick, ot_binOp, ot_unOp, ot_convert, ot_field, ot_index, ot_indexAddr, ot_fieldAddr, ot_slice, ot_build, ot_buildSlice, ot_extract, ot_makeInterface, ot_makeFunc, ot_nilCheck, ot_call, ot_len, ot_append, ot_box, ot_load, ot_store, ot_makeSlice, ct_bool, ct_true, ct_false, bt_some, gt_some, aval_tmp, aval_int, aval_bool, aval_str, aval_slice, aval_nilPointer, aval_nilIface, aval_func, aval_global, avals, apairs, bareP, AV.bare, AV.bares, bin_lss, bin_leq, bin_gtr, bin_geq, bin_eql, bin_neq, bin_add, bin_sub, bin_mul, bin_and, bin_or, bin_xor, toV_int, toV_bool, toV_string, un_neg, un_not, bin_str_eql, bin_str_neq, bin_str_lss, bin_str_leq, bin_str_gtr, bin_str_geq, aget_aput, length_aput, aput_none, Nat.reduceEqDiff, Nat.reduceLT, Nat.reduceAdd, reduceIte, reduceCtorEq, Bool.not_false, Bool.not_true, Bool.true_or, true_and, Option.bind_some, Option.map_some, List.nil_append, List.cons_append, resA, resA1, resVal, Option.getD_some, Nat.reduceLeDiff, bnd_some, yieldA_eq, yldOf_some, boolOf_bool, boolOf_undef, gt_none, List.getElem?_toArray, List.getElem?_cons_succ, List.getElem?_cons_zero, bq_true, bq_false, decide_true, decide_false, Option.toList_none, Option.toList_some, List.head?_cons, List.head?_nil, nb_cfg, cv_some, pm_some, pm_none, plainA_v, plain_bool, plain_int, plain_str, Bool.false_eq_true, if_false]
      exact ⟨1, rfl⟩
  | true =>
    cases hp : allS b 5 inDigits with
    | false =>
      refine pure_of_wk (call := noCall) (fn := Try.f26) (rs := [.tmp 2]) id3_ok noCall_ok (fns_cfg Try.func26 rfl) rfl rfl ?_
      intro env hl0 hargs
      have hn : env.length = 25 := hl0
      have h0 := hargs 0 _ rfl
      clear hargs hl0
      refine wkT_of ?_
      simp -dsimp only [hn, h0, List.toList_toArray, ct_prim id3_30, ct_prim id3_31, bare_s, cutP_eq hl, cutV, hc, e1, hp, wt_seq, wt_block, wt_region, wt_cond, wt_skip, wt_ret, wt_exit, wst_nil, wst_app_nil, wst_app_cons, wst_cons, wst_guard, andThen_normal, andThen_ret, andThen_exit, leave_normal, leave_ret, leave_exit, EndsA_ret, EndsA_normal, ot_move, ot_assign, ot_pick, ot_binOp, ot_unOp, ot_convert, ot_field, ot_index, ot_indexAddr, ot_fieldAddr, ot_slice, ot_build, ot_buildSlice, ot_extract, ot_makeInterface, ot_makeFunc, ot_nilCheck, ot_call, ot_len, ot_append, ot_box, ot_load, ot_store, ot_makeSlice, ct_bool, ct_true, ct_false, bt_some, gt_some, aval_tmp, aval_int, aval_bool, aval_str, aval_slice, aval_nilPointer, aval_nilIface, aval_func, aval_global, avals, apairs, bareP, AV.bare, AV.bares, bin_lss, bin_leq, bin_gtr, bin_geq, bin_eql, bin_neq, bin_add, bin_sub, bin_mul, bin_and, bin_or, bin_xor, toV_int, toV_bool, toV_string, un_neg, un_not, bin_str_eql, bin_str_neq, bin_str_lss, bin_str_leq, bin_str_gtr, bin_str_geq, aget_aput, length_aput, aput_none, Nat.reduceEqDiff, Nat.reduceLT, Nat.reduceAdd, reduceIte, reduceCtorEq, Bool.not_false, Bool.not_true, Bool.true_or, true_and, Option.bind_some, Option.map_some, List.nil_append, List.cons_append, resA, resA1, resVal, Option.getD_some, Nat.reduceLeDiff, bnd_some, yieldA_eq, yldOf_some, boolOf_bool, boolOf_undef, gt_none, List.getElem?_toArray, List.getElem?_cons_succ, List.getElem?_cons_zero, bq_true, bq_false, decide_true, decide_false, Option.toList_none, Option.toList_some, List.head?_cons, List.head?_nil, nb_cfg, cv_some, pm_some, pm_none, plainA_v, plain_bool, plain_int, plain_str, Bool.false_eq_true, if_false]
      exact ⟨1, rfl⟩
    | true =>
      refine pure_of_wk (call := noCall) (fn := Try.f26) (rs := [.tmp 2]) id3_ok noCall_ok (fns_cfg Try.func26 rfl) rfl rfl ?_
      intro env hl0 hargs
      have hn : env.length = 25 := hl0
      have h0 := hargs 0 _ rfl
      clear hargs hl0
      refine wkT_of ?_
      by_cases h255 : (l.length : Int) ≤ 255
      · have hd : decide ((l.length : Int) ≤ 255) = true := decide_eq_true h255
        simp -dsimp only [hn, h0, List.toList_toArray, ct_prim id3_30, ct_prim id3_31, bare_s, cutP_eq hl, cutV, hc, e1, hp, len_s, hd, e2, wt_seq, wt_block, wt_region, wt_cond, wt_skip, wt_ret, wt_exit, wst_nil, wst_app_nil, wst_app_cons, wst_cons, wst_guard, andThen_normal, andThen_ret, andThen_exit, leave_normal, leave_ret, leave_exit, EndsA_ret, EndsA_normal, ot_move, ot_assign, ot_pick, ot_binOp, ot_unOp, ot_convert, ot_field, ot_index, ot_indexAddr, ot_fieldAddr, ot_slice, ot_build, ot_buildSlice, ot_extract, ot_makeInterface, ot_makeFunc, ot_nilCheck, ot_call, ot_len, ot_append, ot_box, ot_load, ot_store, ot_makeSlice, ct_bool, ct_true, ct_false, bt_some, gt_some, aval_tmp, aval_int, aval_bool, aval_str, aval_slice, aval_nilPointer, aval_nilIface, aval_func, aval_global, avals, apairs, bareP, AV.bare, AV.bares, bin_lss, bin_leq, bin_gtr, bin_geq, bin_eql, bin_neq, bin_add, bin_sub, bin_mul, bin_and, bin_or, bin_xor, toV_int, toV_bool, toV_string, un_neg, un_not, bin_str_eql, bin_str_neq, bin_str_lss, bin_str_leq, bin_str_gtr, bin_str_geq, aget_aput, length_aput, aput_none, Nat.reduceEqDiff, Nat.reduceLT, Nat.reduceAdd, reduceIte, reduceCtorEq, Bool.not_false, Bool.not_true, Bool.true_or, true_and, Option.bind_some, Option.map_some, List.nil_append, List.cons_append, resA, resA1, resVal, Option.getD_some, Nat.reduceLeDiff, bnd_some, yieldA_eq, yldOf_some, boolOf_bool, boolOf_undef, gt_none, List.getElem?_toArray, List.getElem?_cons_succ, List.getElem?_cons_zero, bq_true, bq_false, decide_true, decide_false, Option.toList_none, Option.toList_some, List.head?_cons, List.head?_nil, nb_cfg, cv_some, pm_some, pm_none, plainA_v, plain_bool, plain_int, plain_str, Bool.false_eq_true, if_false]
        exact ⟨1, rfl⟩
      · have hd : decide ((l.length : Int) ≤ 255) = false := decide_eq_false h255
        simp -dsimp only [hn, h0, List.toList_toArray, ct_prim id3_30, ct_prim id3_31, bare_s, cutP_eq hl, cutV, hc, e1, hp, len_s, hd, wt_seq, wt_block, wt_region, wt_cond, wt_skip, wt_ret, wt_exit, wst_nil, wst_app_nil, wst_app_cons, wst_cons, wst_guard, andThen_normal, andThen_ret, andThen_exit, leave_normal, leave_ret, leave_exit, EndsA_ret, EndsA_normal, ot_move, ot_assign, ot_pick, ot_binOp, ot_unOp, ot_convert, ot_field, ot_index, ot_indexAddr, ot_fieldAddr, ot_slice, ot_build, ot_buildSlice, ot_extract, ot_makeInterface, ot_makeFunc, ot_nilCheck, ot_call, ot_len, ot_append, ot_box, ot_load, ot_store, ot_makeSlice, ct_bool, ct_true, ct_false, bt_some, gt_some, aval_tmp, aval_int, aval_bool, aval_str, aval_slice, aval_nilPointer, aval_nilIface, aval_func, aval_global, avals, apairs, bareP, AV.bare, AV.bares, bin_lss, bin_leq, bin_gtr, bin_geq, bin_eql, bin_neq, bin_add, bin_sub, bin_mul, bin_and, bin_or, bin_xor, toV_int, toV_bool, toV_string, un_neg, un_not, bin_str_eql, bin_str_neq, bin_str_lss, bin_str_leq, bin_str_gtr, bin_str_geq, aget_aput, length_aput, aput_none, Nat.reduceEqDiff, Nat.reduceLT, Nat.reduceAdd, reduceIte, reduceCtorEq, Bool.not_false, Bool.not_true, Bool.true_or, true_and, Option.bind_some, Option.map_some, List.nil_append, List.cons_append, resA, resA1, resVal, Option.getD_some, Nat.reduceLeDiff, bnd_some, yieldA_eq, yldOf_some, boolOf_bool, boolOf_undef, gt_none, List.getElem?_toArray, List.getElem?_cons_succ, List.getElem?_cons_zero, bq_true, bq_false, decide_true, decide_false, Option.toList_none, Option.toList_some, List.head?_cons, List.head?_nil, nb_cfg, cv_some, pm_some, pm_none, plainA_v, plain_bool, plain_int, plain_str, Bool.false_eq_true, if_false]
        exact ⟨1, rfl⟩
def edL : List UInt8 := [101, 100, 50, 53, 53, 49, 57, 58]
def keyIDB (l : List UInt8) : Bool := edL.isPrefixOf l && allS (l.drop 8) 32 inKeyName
theorem keyID_ok (l : List UInt8) (hl : l.length < 2 ^ 63) : PureOk (cfgP id3) 27 [str l] (.v (.bool (keyIDB l))) := by
  have e2 : allSP [str (l.drop 8), .v (.int .i64 32), str (lettersL ++ digitsL ++ [95]), .fn (.func 32) [] []] = some (.v (.bool (allS (l.drop 8) 32 inKeyName))) := allSP_eq (by simp only [List.length_drop]; omega)
  simp only [lettersL, digitsL, List.cons_append, List.nil_append] at e2
  have e3 : cutPreP [str l, str [101, 100, 50, 53, 53, 49, 57, 58]] = some (cutPreV l edL) := cutPreP_eq hl
  unfold keyIDB
  cases hp : edL.isPrefixOf l with
  | false =>
    have e4 : cutPreV l edL = .tup [str l, .v (.bool false)] := by unfold cutPreV; rw [hp]; rfl
    refine pure_of_wk (call := noCall) (fn := Try.f27) (rs := [.tmp 2]) id3_ok noCall_ok (fns_cfg Try.func27 rfl) rfl rfl ?_
    intro env hl0 hargs
    have hn : env.length = 15 := hl0
    have h0 := hargs 0 _ rfl
    clear hargs hl0
    refine wkT_of ?_
    simp -dsimp only [hn, h0, List.toList_toArray, ct_prim id3_33, bare_s, e3, e4, wt_seq, wt_block, wt_region, wt_cond, wt_skip, wt_ret, wt_exit, wst_nil, wst_app_nil, wst_app_cons, wst_cons, wst_guard, andThen_normal, andThen_ret, andThen_exit, leave_normal, leave_ret, leave_exit, EndsA_ret, EndsA_normal, ot_move, ot_assign, ot_pick, ot_binOp, ot_unOp, ot_convert, ot_field, ot_index, ot_indexAddr, ot_fieldAddr, ot_slice, ot_build, ot_buildSlice, ot_extract, ot_makeInterface, ot_makeFunc, ot_nilCheck, ot_call, ot_len, ot_append, ot_box, ot_load, ot_store, ot_makeSlice, ct_bool, ct_true, ct_false, bt_some, gt_some, aval_tmp, aval_int, aval_bool, aval_str, aval_slice, aval_nilPointer, aval_nilIface, aval_func, aval_global, avals, apairs, bareP, AV.bare, AV.bares, bin_lss, bin_leq, bin_gtr, bin_geq, bin_eql, bin_neq, bin_add, bin_sub, bin_mul, bin_and, bin_or, bin_xor, toV_int, toV_bool, toV_string, un_neg, un_not, bin_str_eql, bin_str_neq, bin_str_lss, bin_str_leq, bin_str_gtr, bin_str_geq, aget_aput, length_aput, aput_none, Nat.reduceEqDiff, Nat.reduceLT, Nat.reduceAdd, reduceIte, reduceCtorEq, Bool.not_false, Bool.not_true, Bool.true_or, true_and, Option.bind_some, Option.map_some, List.nil_append, List.cons_append, resA, resA1, resVal, Option.getD_some, Nat.reduceLeDiff, bnd_some, yieldA_eq, yldOf_some, boolOf_bool, boolOf_undef, gt_none, List.getElem?_toArray, List.getElem?_cons_succ, List.getElem?_cons_zero, bq_true, bq_false, decide_true, decide_false, Option.toList_none, Option.toList_some, List.head?_cons, List.head?_nil, nb_cfg, cv_some, pm_some, pm_none, plainA_v, plain_bool, plain_int, plain_str, Bool.false_eq_true, if_false]
    exact ⟨1, rfl⟩
  | true =>
    have e4 : cutPreV l edL = .tup [str (l.drop 8), .v (.bool true)] := by unfold cutPreV; rw [hp]; rfl
    refine pure_of_wk (call := noCall) (fn := Try.f27) (rs := [.tmp 2]) id3_ok noCall_ok (fns_cfg Try.func27 rfl) rfl rfl ?_
    intro env hl0 hargs
    have hn : env.length = 15 := hl0
    have h0 := hargs 0 _ rfl
    clear hargs hl0
    refine wkT_of ?_
    simp -dsimp only [hn, h0, List.toList_toArray, ct_prim id3_33, ct_prim id3_31, bare_s, e3, e4, e2, wt_seq, wt_block, wt_region, wt_cond, wt_skip, wt_ret, wt_exit, wst_nil, wst_app_nil, wst_app_cons, wst_cons, wst_guard, andThen_normal, andThen_ret, andThen_exit, leave_normal, leave_ret, leave_exit, EndsA_ret, EndsA_normal, ot_move, ot_assign, ot_pick, ot_binOp, ot_unOp, ot_convert, ot_field, ot_index, ot_indexAddr, ot_fieldAddr, ot_slice, ot_build, ot_buildSlice, ot_extract, ot_makeInterface, ot_makeFunc, ot_nilCheck, ot_call, ot_len, ot_append, ot_box, ot_load, ot_store, ot_makeSlice, ct_bool, ct_true, ct_false, bt_some, gt_some, aval_tmp, aval_int, aval_bool, aval_str, aval_slice, aval_nilPointer, aval_nilIface, aval_func, aval_global, avals, apairs, bareP, AV.bare, AV.bares, bin_lss, bin_leq, bin_gtr, bin_geq, bin_eql, bin_neq, bin_add, bin_sub, bin_mul, bin_and, bin_or, bin_xor, toV_int, toV_bool, toV_string, un_neg, un_not, bin_str_eql, bin_str_neq, bin_str_lss, bin_str_leq, bin_str_gtr, bin_str_geq, aget_aput, length_aput, aput_none, Nat.reduceEqDiff, Nat.reduceLT, Nat.reduceAdd, reduceIte, reduceCtorEq, Bool.not_false, Bool.not_true, Bool.true_or, true_and, Option.bind_some, Option.map_some, List.nil_append, List.cons_append, resA, resA1, resVal, Option.getD_some, Nat.reduceLeDiff, bnd_some, yieldA_eq, yldOf_some, boolOf_bool, boolOf_undef, gt_none, List.getElem?_toArray, List.getElem?_cons_succ, List.getElem?_cons_zero, bq_true, bq_false, decide_true, decide_false, Option.toList_none, Option.toList_some, List.head?_cons, List.head?_nil, nb_cfg, cv_some, pm_some, pm_none, plainA_v, plain_bool, plain_int, plain_str, Bool.false_eq_true, if_false]
    exact ⟨1, rfl⟩
def boolP (q : List UInt8 → Bool) : List AV → Option AV
  | [x] => match dS x with
    | some l => if l.length < 2 ^ 63 then some (.v (.bool (q l))) else none
    | none => none
  | _ => none
theorem boolP_eq {q : List UInt8 → Bool} {l : List UInt8} (h : l.length < 2 ^ 63) : boolP q [str l] = some (.v (.bool (q l))) := by simp only [boolP, dS_str, h, if_true]
theorem boolP_of {q : List UInt8 → Bool} {X : List AV → AV → Prop} (h : ∀ l : List UInt8, l.length < 2 ^ 63 → X [str l] (.v (.bool (q l)))) : ∀ xs r, boolP q xs = some r → X xs r := by
  intro xs r hx
  unfold boolP at hx
  split at hx
  · split at hx
    · rename_i l h1
      rw [dS_iff] at h1
      subst h1
      split at hx
      · rename_i hl
        injection hx with hx; subst hx
        exact h l hl
      · cases hx
    · cases hx
  · cases hx
end Go.Proofs.Ytonmpbfddiflhaa
