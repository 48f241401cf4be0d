/- Contracts of functions, and plain facts about what they compute. -/
import Derived.Test.YtonmpbfddiflhaaDoorAmD
import Derived.Test.YtonmpbfddiflhaaDoorProg
import Derived.KernelRfl
set_option linter.unusedSimpArgs false
set_option linter.unusedVariables false
/- Numbers and their digits in some base: plain facts. -/
namespace Digs
def digs (B : Nat) : Nat → Nat → List Nat
  | 0, _ => []
  | n + 1, x => digs B n (x / B) ++ [x % B]
def val (B : Nat) (l : List Nat) : Nat := l.foldl (fun a d => a * B + d) 0
variable {B : Nat}
theorem digs_length : ∀ (n x : Nat), (digs B n x).length = n
  | 0, _ => rfl
  | n + 1, x => by simp [digs, digs_length n]
theorem val_concat (l : List Nat) (d : Nat) : val B (l ++ [d]) = val B l * B + d := by simp [val]
theorem val_digs : ∀ (n x : Nat), val B (digs B n x) = x % B ^ n
  | 0, x => by simp [digs, val, Nat.mod_one]
  | n + 1, x => by
    rw [digs, val_concat, val_digs n, Nat.pow_succ, Nat.mul_comm (B ^ n) B, Nat.mod_mul]
    rw [Nat.mul_comm, Nat.add_comm]
theorem digs_lt (hB : 0 < B) : ∀ (n x : Nat), ∀ d ∈ digs B n x, d < B
  | 0, _, d, h => by simp [digs] at h
  | n + 1, x, d, h => by
    rw [digs, List.mem_append] at h
    rcases h with h | h
    · exact digs_lt hB n _ d h
    · simp only [List.mem_singleton] at h
      subst h
      exact Nat.mod_lt _ hB
theorem digs_val (l : List Nat) : (∀ d ∈ l, d < B) → digs B l.length (val B l) = l := by
  induction hn : l.length generalizing l with
  | zero => intro _; rw [List.eq_nil_of_length_eq_zero hn]; rfl
  | succ n ih =>
    intro h
    have hne : l ≠ [] := by rintro rfl; cases hn
    obtain ⟨i, x, rfl⟩ : ∃ i x, l = i ++ [x] := ⟨l.dropLast, l.getLast hne, (List.dropLast_concat_getLast hne).symm⟩
    have hx : x < B := h x (by simp)
    have hi : i.length = n := by simpa using hn
    rw [digs, val_concat]
    have e1 : (val B i * B + x) / B = val B i := by
      rw [Nat.mul_comm, Nat.mul_add_div (by omega), Nat.div_eq_of_lt hx, Nat.add_zero]
    have e2 : (val B i * B + x) % B = x := by
      rw [Nat.mul_comm, Nat.mul_add_mod, Nat.mod_eq_of_lt hx]
    rw [e1, e2, ih i hi fun d hd => h d (by simp [hd])]
theorem val_lt (hB : 0 < B) (l : List Nat) (h : ∀ d ∈ l, d < B) : val B l < B ^ l.length := by
  have := val_digs (B := B) l.length (val B l)
  rw [digs_val l h] at this
  rw [this]
  exact Nat.mod_lt _ (Nat.pow_pos hB)
theorem val_append (a b : List Nat) : val B (a ++ b) = val B a * B ^ b.length + val B b := by
  induction hn : b.length generalizing b with
  | zero => rw [List.eq_nil_of_length_eq_zero hn]; simp [val]
  | succ n ih =>
    have hne : b ≠ [] := by rintro rfl; cases hn
    obtain ⟨i, x, rfl⟩ : ∃ i x, b = i ++ [x] := ⟨b.dropLast, b.getLast hne, (List.dropLast_concat_getLast hne).symm⟩
    have hi : i.length = n := by simpa using hn
    rw [← List.append_assoc, val_concat, val_concat, ih i hi, Nat.pow_succ, Nat.add_mul, Nat.mul_assoc, Nat.add_assoc]
theorem digs_append (hB : 0 < B) (n m X Y : Nat) (h : Y < B ^ m) : digs B (n + m) (X * B ^ m + Y) = digs B n X ++ digs B m Y := by
  induction m generalizing Y with
  | zero =>
    have : Y = 0 := by simpa using h
    subst this
    simp [digs]
  | succ m ih =>
    have hY : Y / B < B ^ m := by
      rw [Nat.div_lt_iff_lt_mul hB]
      rwa [Nat.pow_succ] at h
    have e1 : (X * B ^ (m + 1) + Y) / B = X * B ^ m + Y / B := by
      rw [Nat.pow_succ, ← Nat.mul_assoc, Nat.mul_comm _ B, Nat.mul_add_div hB]
    have e2 : (X * B ^ (m + 1) + Y) % B = Y % B := by
      rw [Nat.pow_succ, ← Nat.mul_assoc, Nat.mul_comm _ B, Nat.mul_add_mod]
    rw [← Nat.add_assoc, digs, e1, e2, ih _ hY, digs, List.append_assoc]
theorem digs_mod (n x : Nat) : digs B n (x % B ^ n) = digs B n x := by
  induction n generalizing x with
  | zero => rfl
  | succ n ih =>
    rw [digs, digs, Nat.pow_succ, Nat.mul_comm (B ^ n) B, Nat.mod_mul_right_div_self, ih, Nat.mod_mul_right_mod]
end Digs

namespace Go.Proofs.YtonmpbfddiflhaaDoor
open Go.AM
def gls : List (Nat × AV) := [(1, .agg [.v (.int .u8 45), .v (.int .u8 95)])]
noncomputable def cfgP (prim : FuncId → Option (List AV → Option AV)) : Cfg := cfgOf Tryd.prog (fun f => f < 57) (glOf gls) (fun _ => true) (fun _ _ => true) prim (fun f t => f == 9 && t == 25)
theorem fok : funcsOk Tryd.prog (fun f => f < 57) = true := by kernel_rfl
theorem mixed : Tryd.prog.follows .mixedOrders = true := by kernel_rfl
def prim0 : FuncId → Option (List AV → Option AV) := fun _ => none
theorem cok0 : (cfgP prim0).Ok := cfgOf_ok mixed fok (fun _ _ h => by cases h)
section
variable {prim : FuncId → Option (List AV → Option AV)}
theorem und_cfg (t : TypeId) : (cfgP prim).und t = Tryd.prog.underlying t := rfl
theorem prog_cfg : (cfgP prim).P = Tryd.prog := rfl
theorem ro_cfg (f : FuncId) (t : Tmp) : (cfgP prim).roBox f t = true := rfl
theorem nb_cfg {f : FuncId} {d : Option Tmp} (h : ¬ f = 9) : nbOf (cfgP prim) f d = false := by
  cases d with
  | none => rfl
  | some t =>
    show (f == 9 && t == 25) = false
    rw [beq_eq_false_iff_ne.2 h, Bool.false_and]
theorem fns_cfg {f : FuncId} {fn : Func} (h : Tryd.prog.funcs[f]? = some fn) (hf : decide (f < 57) = true) : (cfgP prim).fns f = some fn := by simp only [cfgP, cfgOf, hf, if_true, h]
theorem fa44_0 {x : AV} {j : Nat} : fieldAddrA (cfgP prim) 44 (.rp x j) 0 = some (.rp x (j + 0)) := by kernel_rfl
theorem fa44_1 {x : AV} {j : Nat} : fieldAddrA (cfgP prim) 44 (.rp x j) 1 = some (.rp x (j + 1)) := by kernel_rfl
theorem part5 {cs : List AV} {j : Nat} : partA (cfgP prim) 5 cs j = cs[j]? := by kernel_rfl
theorem pureOk_prim {prim' : FuncId → Option (List AV → Option AV)} {f : FuncId} {xs : List AV} {r : AV} (h : PureOk (cfgP prim) f xs r) : PureOk (cfgP prim') f xs r := Go.AM.PureOk.other (C := cfgP prim) (C' := cfgP prim') rfl rfl rfl h
theorem csz3 : (cfgP prim).csz 3 = some 1 := by kernel_rfl
theorem csz5 : (cfgP prim).csz 5 = some 1 := by kernel_rfl
theorem csz9 : (cfgP prim).csz 9 = some 1 := by kernel_rfl
end
/-- alphabet.sign -/
def signN (p s n : Int) : Int := if n < 26 then IntKind.u8.wrap (65 + n) else if n < 52 then IntKind.u8.wrap (IntKind.u8.wrap (97 + n) - 26) else if n < 62 then IntKind.u8.wrap (IntKind.u8.wrap (48 + n) - 52) else if n = 63 then s else p
theorem sign_ok (p s n : Int) : PureOk (cfgP prim0) 32 [.agg [.v (.int .u8 p), .v (.int .u8 s)], .v (.int .u8 n)] (.v (.int .u8 (signN p s n))) := by
  refine pure_of_wk (call := noCall) (fn := Tryd.f32) (rs := [.tmp 4]) cok0 noCall_ok (fns_cfg Tryd.func32 rfl) rfl rfl ?_
  intro env hl0 ha
  have hl : env.length = 29 := hl0
  have h0 := ha 0 _ rfl
  have h1 := ha 1 _ rfl
  clear ha hl0
  have hb : AV.bare (.agg [.v (.int .u8 p), .v (.int .u8 s)]) = some (.agg [.v (.int .u8 p), .v (.int .u8 s)]) := rfl
  have hf : (AV.agg [.v (.int .u8 p), .v (.int .u8 s)]).cells.all AV.flat = true := rfl
  refine wkT_of ?_
  simp -dsimp only [hl, h0, h1, ro_cfg, bxt_ro hb hf, wt_seq, wt_block, wt_region, wt_cond, wt_skip, wt_ret, wt_exit, wst_nil, wst_app_nil, wst_app_cons, wst_cons, wst_guard, andThen_normal, andThen_ret, andThen_exit, leave_normal, leave_ret, leave_exit, EndsA_ret, EndsA_normal, ot_move, ot_assign, ot_pick, ot_binOp, ot_unOp, ot_convert, ot_field, ot_index, ot_indexAddr, ot_fieldAddr, ot_slice, ot_build, ot_buildSlice, ot_extract, ot_makeInterface, ot_makeFunc, ot_nilCheck, ot_call, ot_len, ot_append, ot_box, ot_load, ot_store, ot_makeSlice, ct_bool, ct_true, ct_false, bt_some, gt_some, aval_tmp, aval_int, aval_bool, aval_str, aval_slice, aval_nilPointer, aval_nilIface, aval_func, aval_global, avals, apairs, bareP, AV.bare, AV.bares, bin_lss, bin_leq, bin_gtr, bin_geq, bin_eql, bin_neq, bin_add, bin_sub, bin_mul, bin_and, bin_or, bin_xor, toV_int, toV_bool, toV_string, un_neg, un_not, bin_str_eql, bin_str_neq, bin_str_lss, bin_str_leq, bin_str_gtr, bin_str_geq, aget_aput, length_aput, aput_none, Nat.reduceEqDiff, Nat.reduceLT, Nat.reduceAdd, reduceIte, reduceCtorEq, Bool.not_false, Bool.not_true, Bool.true_or, true_and, Option.bind_some, Option.map_some, List.nil_append, List.cons_append, resA, resA1, resVal, Option.getD_some, Nat.reduceLeDiff, bnd_some, yieldA_eq, yldOf_some, boolOf_bool, boolOf_undef, gt_none, List.getElem?_toArray, List.getElem?_cons_succ, List.getElem?_cons_zero, bq_true, bq_false, decide_true, decide_false, Option.toList_none, Option.toList_some, List.head?_cons, List.head?_nil, nb_cfg, not_false_eq_true, cv_some, pm_some, pm_none, plainA_v, plain_bool, plain_int, plain_str, Bool.false_eq_true, if_false]
  rw [ct_eq]
  refine ⟨fun h => ?_, fun h => ?_⟩
  · simp -dsimp only [hl, h0, h1, wt_seq, wt_block, wt_region, wt_cond, wt_skip, wt_ret, wt_exit, wst_nil, wst_app_nil, wst_app_cons, wst_cons, wst_guard, andThen_normal, andThen_ret, andThen_exit, leave_normal, leave_ret, leave_exit, EndsA_ret, EndsA_normal, ot_move, ot_assign, ot_pick, ot_binOp, ot_unOp, ot_convert, ot_field, ot_index, ot_indexAddr, ot_fieldAddr, ot_slice, ot_build, ot_buildSlice, ot_extract, ot_makeInterface, ot_makeFunc, ot_nilCheck, ot_call, ot_len, ot_append, ot_box, ot_load, ot_store, ot_makeSlice, ct_bool, ct_true, ct_false, bt_some, gt_some, aval_tmp, aval_int, aval_bool, aval_str, aval_slice, aval_nilPointer, aval_nilIface, aval_func, aval_global, avals, apairs, bareP, AV.bare, AV.bares, bin_lss, bin_leq, bin_gtr, bin_geq, bin_eql, bin_neq, bin_add, bin_sub, bin_mul, bin_and, bin_or, bin_xor, toV_int, toV_bool, toV_string, un_neg, un_not, bin_str_eql, bin_str_neq, bin_str_lss, bin_str_leq, bin_str_gtr, bin_str_geq, aget_aput, length_aput, aput_none, Nat.reduceEqDiff, Nat.reduceLT, Nat.reduceAdd, reduceIte, reduceCtorEq, Bool.not_false, Bool.not_true, Bool.true_or, true_and, Option.bind_some, Option.map_some, List.nil_append, List.cons_append, resA, resA1, resVal, Option.getD_some, Nat.reduceLeDiff, bnd_some, yieldA_eq, yldOf_some, boolOf_bool, boolOf_undef, gt_none, List.getElem?_toArray, List.getElem?_cons_succ, List.getElem?_cons_zero, bq_true, bq_false, decide_true, decide_false, Option.toList_none, Option.toList_some, List.head?_cons, List.head?_nil, nb_cfg, not_false_eq_true, cv_some, pm_some, pm_none, plainA_v, plain_bool, plain_int, plain_str, Bool.false_eq_true, if_false]
    exact ⟨1, by simp only [AV.thaw, signN]; simp at h; simp [h]⟩
  simp -dsimp only [hl, h0, h1, wt_seq, wt_block, wt_region, wt_cond, wt_skip, wt_ret, wt_exit, wst_nil, wst_app_nil, wst_app_cons, wst_cons, wst_guard, andThen_normal, andThen_ret, andThen_exit, leave_normal, leave_ret, leave_exit, EndsA_ret, EndsA_normal, ot_move, ot_assign, ot_pick, ot_binOp, ot_unOp, ot_convert, ot_field, ot_index, ot_indexAddr, ot_fieldAddr, ot_slice, ot_build, ot_buildSlice, ot_extract, ot_makeInterface, ot_makeFunc, ot_nilCheck, ot_call, ot_len, ot_append, ot_box, ot_load, ot_store, ot_makeSlice, ct_bool, ct_true, ct_false, bt_some, gt_some, aval_tmp, aval_int, aval_bool, aval_str, aval_slice, aval_nilPointer, aval_nilIface, aval_func, aval_global, avals, apairs, bareP, AV.bare, AV.bares, bin_lss, bin_leq, bin_gtr, bin_geq, bin_eql, bin_neq, bin_add, bin_sub, bin_mul, bin_and, bin_or, bin_xor, toV_int, toV_bool, toV_string, un_neg, un_not, bin_str_eql, bin_str_neq, bin_str_lss, bin_str_leq, bin_str_gtr, bin_str_geq, aget_aput, length_aput, aput_none, Nat.reduceEqDiff, Nat.reduceLT, Nat.reduceAdd, reduceIte, reduceCtorEq, Bool.not_false, Bool.not_true, Bool.true_or, true_and, Option.bind_some, Option.map_some, List.nil_append, List.cons_append, resA, resA1, resVal, Option.getD_some, Nat.reduceLeDiff, bnd_some, yieldA_eq, yldOf_some, boolOf_bool, boolOf_undef, gt_none, List.getElem?_toArray, List.getElem?_cons_succ, List.getElem?_cons_zero, bq_true, bq_false, decide_true, decide_false, Option.toList_none, Option.toList_some, List.head?_cons, List.head?_nil, nb_cfg, not_false_eq_true, cv_some, pm_some, pm_none, plainA_v, plain_bool, plain_int, plain_str, Bool.false_eq_true, if_false]
  rw [ct_eq]
  refine ⟨fun h' => ?_, fun h' => ?_⟩
  · simp -dsimp only [hl, h0, h1, wt_seq, wt_block, wt_region, wt_cond, wt_skip, wt_ret, wt_exit, wst_nil, wst_app_nil, wst_app_cons, wst_cons, wst_guard, andThen_normal, andThen_ret, andThen_exit, leave_normal, leave_ret, leave_exit, EndsA_ret, EndsA_normal, ot_move, ot_assign, ot_pick, ot_binOp, ot_unOp, ot_convert, ot_field, ot_index, ot_indexAddr, ot_fieldAddr, ot_slice, ot_build, ot_buildSlice, ot_extract, ot_makeInterface, ot_makeFunc, ot_nilCheck, ot_call, ot_len, ot_append, ot_box, ot_load, ot_store, ot_makeSlice, ct_bool, ct_true, ct_false, bt_some, gt_some, aval_tmp, aval_int, aval_bool, aval_str, aval_slice, aval_nilPointer, aval_nilIface, aval_func, aval_global, avals, apairs, bareP, AV.bare, AV.bares, bin_lss, bin_leq, bin_gtr, bin_geq, bin_eql, bin_neq, bin_add, bin_sub, bin_mul, bin_and, bin_or, bin_xor, toV_int, toV_bool, toV_string, un_neg, un_not, bin_str_eql, bin_str_neq, bin_str_lss, bin_str_leq, bin_str_gtr, bin_str_geq, aget_aput, length_aput, aput_none, Nat.reduceEqDiff, Nat.reduceLT, Nat.reduceAdd, reduceIte, reduceCtorEq, Bool.not_false, Bool.not_true, Bool.true_or, true_and, Option.bind_some, Option.map_some, List.nil_append, List.cons_append, resA, resA1, resVal, Option.getD_some, Nat.reduceLeDiff, bnd_some, yieldA_eq, yldOf_some, boolOf_bool, boolOf_undef, gt_none, List.getElem?_toArray, List.getElem?_cons_succ, List.getElem?_cons_zero, bq_true, bq_false, decide_true, decide_false, Option.toList_none, Option.toList_some, List.head?_cons, List.head?_nil, nb_cfg, not_false_eq_true, cv_some, pm_some, pm_none, plainA_v, plain_bool, plain_int, plain_str, Bool.false_eq_true, if_false]
    exact ⟨1, by simp only [AV.thaw, signN]; simp at h h'; have a1 : ¬ n < 26 := by omega
                 simp [a1, h']⟩
  simp -dsimp only [hl, h0, h1, wt_seq, wt_block, wt_region, wt_cond, wt_skip, wt_ret, wt_exit, wst_nil, wst_app_nil, wst_app_cons, wst_cons, wst_guard, andThen_normal, andThen_ret, andThen_exit, leave_normal, leave_ret, leave_exit, EndsA_ret, EndsA_normal, ot_move, ot_assign, ot_pick, ot_binOp, ot_unOp, ot_convert, ot_field, ot_index, ot_indexAddr, ot_fieldAddr, ot_slice, ot_build, ot_buildSlice, ot_extract, ot_makeInterface, ot_makeFunc, ot_nilCheck, ot_call, ot_len, ot_append, ot_box, ot_load, ot_store, ot_makeSlice, ct_bool, ct_true, ct_false, bt_some, gt_some, aval_tmp, aval_int, aval_bool, aval_str, aval_slice, aval_nilPointer, aval_nilIface, aval_func, aval_global, avals, apairs, bareP, AV.bare, AV.bares, bin_lss, bin_leq, bin_gtr, bin_geq, bin_eql, bin_neq, bin_add, bin_sub, bin_mul, bin_and, bin_or, bin_xor, toV_int, toV_bool, toV_string, un_neg, un_not, bin_str_eql, bin_str_neq, bin_str_lss, bin_str_leq, bin_str_gtr, bin_str_geq, aget_aput, length_aput, aput_none, Nat.reduceEqDiff, Nat.reduceLT, Nat.reduceAdd, reduceIte, reduceCtorEq, Bool.not_false, Bool.not_true, Bool.true_or, true_and, Option.bind_some, Option.map_some, List.nil_append, List.cons_append, resA, resA1, resVal, Option.getD_some, Nat.reduceLeDiff, bnd_some, yieldA_eq, yldOf_some, boolOf_bool, boolOf_undef, gt_none, List.getElem?_toArray, List.getElem?_cons_succ, List.getElem?_cons_zero, bq_true, bq_false, decide_true, decide_false, Option.toList_none, Option.toList_some, List.head?_cons, List.head?_nil, nb_cfg, not_false_eq_true, cv_some, pm_some, pm_none, plainA_v, plain_bool, plain_int, plain_str, Bool.false_eq_true, if_false]
  rw [ct_eq]
  refine ⟨fun h2 => ?_, fun h2 => ?_⟩
  · simp -dsimp only [hl, h0, h1, wt_seq, wt_block, wt_region, wt_cond, wt_skip, wt_ret, wt_exit, wst_nil, wst_app_nil, wst_app_cons, wst_cons, wst_guard, andThen_normal, andThen_ret, andThen_exit, leave_normal, leave_ret, leave_exit, EndsA_ret, EndsA_normal, ot_move, ot_assign, ot_pick, ot_binOp, ot_unOp, ot_convert, ot_field, ot_index, ot_indexAddr, ot_fieldAddr, ot_slice, ot_build, ot_buildSlice, ot_extract, ot_makeInterface, ot_makeFunc, ot_nilCheck, ot_call, ot_len, ot_append, ot_box, ot_load, ot_store, ot_makeSlice, ct_bool, ct_true, ct_false, bt_some, gt_some, aval_tmp, aval_int, aval_bool, aval_str, aval_slice, aval_nilPointer, aval_nilIface, aval_func, aval_global, avals, apairs, bareP, AV.bare, AV.bares, bin_lss, bin_leq, bin_gtr, bin_geq, bin_eql, bin_neq, bin_add, bin_sub, bin_mul, bin_and, bin_or, bin_xor, toV_int, toV_bool, toV_string, un_neg, un_not, bin_str_eql, bin_str_neq, bin_str_lss, bin_str_leq, bin_str_gtr, bin_str_geq, aget_aput, length_aput, aput_none, Nat.reduceEqDiff, Nat.reduceLT, Nat.reduceAdd, reduceIte, reduceCtorEq, Bool.not_false, Bool.not_true, Bool.true_or, true_and, Option.bind_some, Option.map_some, List.nil_append, List.cons_append, resA, resA1, resVal, Option.getD_some, Nat.reduceLeDiff, bnd_some, yieldA_eq, yldOf_some, boolOf_bool, boolOf_undef, gt_none, List.getElem?_toArray, List.getElem?_cons_succ, List.getElem?_cons_zero, bq_true, bq_false, decide_true, decide_false, Option.toList_none, Option.toList_some, List.head?_cons, List.head?_nil, nb_cfg, not_false_eq_true, cv_some, pm_some, pm_none, plainA_v, plain_bool, plain_int, plain_str, Bool.false_eq_true, if_false]
    exact ⟨1, by simp only [AV.thaw, signN]; simp at h h' h2; have a1 : ¬ n < 26 := by omega
                 have a2 : ¬ n < 52 := by omega
                 simp [a1, a2, h2]⟩
  simp -dsimp only [hl, h0, h1, wt_seq, wt_block, wt_region, wt_cond, wt_skip, wt_ret, wt_exit, wst_nil, wst_app_nil, wst_app_cons, wst_cons, wst_guard, andThen_normal, andThen_ret, andThen_exit, leave_normal, leave_ret, leave_exit, EndsA_ret, EndsA_normal, ot_move, ot_assign, ot_pick, ot_binOp, ot_unOp, ot_convert, ot_field, ot_index, ot_indexAddr, ot_fieldAddr, ot_slice, ot_build, ot_buildSlice, ot_extract, ot_makeInterface, ot_makeFunc, ot_nilCheck, ot_call, ot_len, ot_append, ot_box, ot_load, ot_store, ot_makeSlice, ct_bool, ct_true, ct_false, bt_some, gt_some, aval_tmp, aval_int, aval_bool, aval_str, aval_slice, aval_nilPointer, aval_nilIface, aval_func, aval_global, avals, apairs, bareP, AV.bare, AV.bares, bin_lss, bin_leq, bin_gtr, bin_geq, bin_eql, bin_neq, bin_add, bin_sub, bin_mul, bin_and, bin_or, bin_xor, toV_int, toV_bool, toV_string, un_neg, un_not, bin_str_eql, bin_str_neq, bin_str_lss, bin_str_leq, bin_str_gtr, bin_str_geq, aget_aput, length_aput, aput_none, Nat.reduceEqDiff, Nat.reduceLT, Nat.reduceAdd, reduceIte, reduceCtorEq, Bool.not_false, Bool.not_true, Bool.true_or, true_and, Option.bind_some, Option.map_some, List.nil_append, List.cons_append, resA, resA1, resVal, Option.getD_some, Nat.reduceLeDiff, bnd_some, yieldA_eq, yldOf_some, boolOf_bool, boolOf_undef, gt_none, List.getElem?_toArray, List.getElem?_cons_succ, List.getElem?_cons_zero, bq_true, bq_false, decide_true, decide_false, Option.toList_none, Option.toList_some, List.head?_cons, List.head?_nil, nb_cfg, not_false_eq_true, cv_some, pm_some, pm_none, plainA_v, plain_bool, plain_int, plain_str, Bool.false_eq_true, if_false]
  rw [ct_eq]
  refine ⟨fun h3 => ?_, fun h3 => ?_⟩
  · simp -dsimp only [hl, h0, h1, fa44_1, part5, AV.cells, List.getElem?_cons_succ, List.getElem?_cons_zero, Nat.zero_add, wt_seq, wt_block, wt_region, wt_cond, wt_skip, wt_ret, wt_exit, wst_nil, wst_app_nil, wst_app_cons, wst_cons, wst_guard, andThen_normal, andThen_ret, andThen_exit, leave_normal, leave_ret, leave_exit, EndsA_ret, EndsA_normal, ot_move, ot_assign, ot_pick, ot_binOp, ot_unOp, ot_convert, ot_field, ot_index, ot_indexAddr, ot_fieldAddr, ot_slice, ot_build, ot_buildSlice, ot_extract, ot_makeInterface, ot_makeFunc, ot_nilCheck, ot_call, ot_len, ot_append, ot_box, ot_load, ot_store, ot_makeSlice, ct_bool, ct_true, ct_false, bt_some, gt_some, aval_tmp, aval_int, aval_bool, aval_str, aval_slice, aval_nilPointer, aval_nilIface, aval_func, aval_global, avals, apairs, bareP, AV.bare, AV.bares, bin_lss, bin_leq, bin_gtr, bin_geq, bin_eql, bin_neq, bin_add, bin_sub, bin_mul, bin_and, bin_or, bin_xor, toV_int, toV_bool, toV_string, un_neg, un_not, bin_str_eql, bin_str_neq, bin_str_lss, bin_str_leq, bin_str_gtr, bin_str_geq, aget_aput, length_aput, aput_none, Nat.reduceEqDiff, Nat.reduceLT, Nat.reduceAdd, reduceIte, reduceCtorEq, Bool.not_false, Bool.not_true, Bool.true_or, true_and, Option.bind_some, Option.map_some, List.nil_append, List.cons_append, resA, resA1, resVal, Option.getD_some, Nat.reduceLeDiff, bnd_some, yieldA_eq, yldOf_some, boolOf_bool, boolOf_undef, gt_none, List.getElem?_toArray, List.getElem?_cons_succ, List.getElem?_cons_zero, bq_true, bq_false, decide_true, decide_false, Option.toList_none, Option.toList_some, List.head?_cons, List.head?_nil, nb_cfg, not_false_eq_true, cv_some, pm_some, pm_none, plainA_v, plain_bool, plain_int, plain_str, Bool.false_eq_true, if_false]
    exact ⟨1, by simp only [AV.thaw, signN]; simp at h h' h2 h3; have a1 : ¬ n < 26 := by omega
                 have a2 : ¬ n < 52 := by omega
                 have a3 : ¬ n < 62 := by omega
                 simp [a1, a2, a3, h3]⟩
  simp -dsimp only [hl, h0, h1, fa44_0, part5, AV.cells, List.getElem?_cons_zero, Nat.add_zero, wt_seq, wt_block, wt_region, wt_cond, wt_skip, wt_ret, wt_exit, wst_nil, wst_app_nil, wst_app_cons, wst_cons, wst_guard, andThen_normal, andThen_ret, andThen_exit, leave_normal, leave_ret, leave_exit, EndsA_ret, EndsA_normal, ot_move, ot_assign, ot_pick, ot_binOp, ot_unOp, ot_convert, ot_field, ot_index, ot_indexAddr, ot_fieldAddr, ot_slice, ot_build, ot_buildSlice, ot_extract, ot_makeInterface, ot_makeFunc, ot_nilCheck, ot_call, ot_len, ot_append, ot_box, ot_load, ot_store, ot_makeSlice, ct_bool, ct_true, ct_false, bt_some, gt_some, aval_tmp, aval_int, aval_bool, aval_str, aval_slice, aval_nilPointer, aval_nilIface, aval_func, aval_global, avals, apairs, bareP, AV.bare, AV.bares, bin_lss, bin_leq, bin_gtr, bin_geq, bin_eql, bin_neq, bin_add, bin_sub, bin_mul, bin_and, bin_or, bin_xor, toV_int, toV_bool, toV_string, un_neg, un_not, bin_str_eql, bin_str_neq, bin_str_lss, bin_str_leq, bin_str_gtr, bin_str_geq, aget_aput, length_aput, aput_none, Nat.reduceEqDiff, Nat.reduceLT, Nat.reduceAdd, reduceIte, reduceCtorEq, Bool.not_false, Bool.not_true, Bool.true_or, true_and, Option.bind_some, Option.map_some, List.nil_append, List.cons_append, resA, resA1, resVal, Option.getD_some, Nat.reduceLeDiff, bnd_some, yieldA_eq, yldOf_some, boolOf_bool, boolOf_undef, gt_none, List.getElem?_toArray, List.getElem?_cons_succ, List.getElem?_cons_zero, bq_true, bq_false, decide_true, decide_false, Option.toList_none, Option.toList_some, List.head?_cons, List.head?_nil, nb_cfg, not_false_eq_true, cv_some, pm_some, pm_none, plainA_v, plain_bool, plain_int, plain_str, Bool.false_eq_true, if_false]
  exact ⟨1, by simp only [AV.thaw, signN]; simp at h h' h2 h3; have a1 : ¬ n < 26 := by omega
               have a2 : ¬ n < 52 := by omega
               have a3 : ¬ n < 62 := by omega
               simp [a1, a2, a3, h3]⟩
end Go.Proofs.YtonmpbfddiflhaaDoor

namespace Go.Proofs.YtonmpbfddiflhaaDoor
open Go.AM
def signP : List AV → Option AV
  | [.agg [.v (.int .u8 p), .v (.int .u8 s)], .v (.int .u8 n)] => some (.v (.int .u8 (signN p s n)))
  | _ => none
theorem signP_eq {p s n : Int} : signP [.agg [.v (.int .u8 p), .v (.int .u8 s)], .v (.int .u8 n)] = some (.v (.int .u8 (signN p s n))) := rfl
theorem signP_ok {xs : List AV} {r : AV} (h : signP xs = some r) : PureOk (cfgP prim0) 32 xs r := by
  unfold signP at h
  split at h
  · injection h with h; subst h; exact sign_ok _ _ _
  · cases h
def prim1 : FuncId → Option (List AV → Option AV) := fun f => if f = 32 then some signP else none
theorem cok1 : (cfgP prim1).Ok := cfgOf_ok mixed fok (fun f p h => by
  simp only [prim1] at h
  split at h
  · rename_i hf
    injection h with h; subst h; subst hf
    exact .inl ⟨⟨Tryd.f32, Tryd.func32, by kernel_rfl, rfl⟩, fun xs r h => pureOk_prim (signP_ok h)⟩
  · cases h)
theorem prim1_32 : (cfgP prim1).prim 32 = some signP := rfl
section
variable {prim : FuncId → Option (List AV → Option AV)}
theorem part44 {a b : AV} : partA (cfgP prim) 44 [a, b] 0 = some (.agg [a, b]) := by kernel_rfl
end
def numN (p s c : Int) : Int := match (List.range 64).find? (fun n : Nat => decide (signN p s n = c)) with
  | some n => (n : Nat)
  | none => 64
theorem number_ok (p s c : Int) : PureOk (cfgP prim1) 34 [.agg [.v (.int .u8 p), .v (.int .u8 s)], .v (.int .u8 c)] (.v (.int .u8 (numN p s c))) := by
  refine pure_of_wk (call := noCall) (fn := Tryd.f34) (rs := [.tmp 4]) cok1 noCall_ok (fns_cfg Tryd.func34 rfl) rfl rfl ?_
  intro env hl0 ha
  have hl : env.length = 16 := hl0
  have h0 := ha 0 _ rfl
  have h1 := ha 1 _ rfl
  clear ha hl0
  have hb : AV.bare (.agg [.v (.int .u8 p), .v (.int .u8 s)]) = some (.agg [.v (.int .u8 p), .v (.int .u8 s)]) := rfl
  have hf : (AV.agg [.v (.int .u8 p), .v (.int .u8 s)]).cells.all AV.flat = true := rfl
  refine wkT_of ?_
  simp -dsimp only [hl, h0, h1, ro_cfg, bxt_ro hb hf, wt_seq, wt_block, wt_region, wt_cond, wt_skip, wt_ret, wt_exit, wst_nil, wst_app_nil, wst_app_cons, wst_cons, wst_guard, andThen_normal, andThen_ret, andThen_exit, leave_normal, leave_ret, leave_exit, EndsA_ret, EndsA_normal, ot_move, ot_assign, ot_pick, ot_binOp, ot_unOp, ot_convert, ot_field, ot_index, ot_indexAddr, ot_fieldAddr, ot_slice, ot_build, ot_buildSlice, ot_extract, ot_makeInterface, ot_makeFunc, ot_nilCheck, ot_call, ot_len, ot_append, ot_box, ot_load, ot_store, ot_makeSlice, ct_bool, ct_true, ct_false, bt_some, gt_some, aval_tmp, aval_int, aval_bool, aval_str, aval_slice, aval_nilPointer, aval_nilIface, aval_func, aval_global, avals, apairs, bareP, AV.bare, AV.bares, bin_lss, bin_leq, bin_gtr, bin_geq, bin_eql, bin_neq, bin_add, bin_sub, bin_mul, bin_and, bin_or, bin_xor, toV_int, toV_bool, toV_string, un_neg, un_not, bin_str_eql, bin_str_neq, bin_str_lss, bin_str_leq, bin_str_gtr, bin_str_geq, aget_aput, length_aput, aput_none, Nat.reduceEqDiff, Nat.reduceLT, Nat.reduceAdd, reduceIte, reduceCtorEq, Bool.not_false, Bool.not_true, Bool.true_or, true_and, Option.bind_some, Option.map_some, List.nil_append, List.cons_append, resA, resA1, resVal, Option.getD_some, Nat.reduceLeDiff, bnd_some, yieldA_eq, yldOf_some, boolOf_bool, boolOf_undef, gt_none, List.getElem?_toArray, List.getElem?_cons_succ, List.getElem?_cons_zero, bq_true, bq_false, decide_true, decide_false, Option.toList_none, Option.toList_some, List.head?_cons, List.head?_nil, nb_cfg, not_false_eq_true, cv_some, pm_some, pm_none, plainA_v, plain_bool, plain_int, plain_str, Bool.false_eq_true, if_false]
  refine wt_loop (m := 64) (fun m e h => h = {} ∧ e.length = 16 ∧ aget e 1 = .v (.int .u8 c) ∧ aget e 2 = .rp (.agg [.v (.int .u8 p), .v (.int .u8 s)]) 0 ∧ ∃ k : Nat, k + m = 64 ∧ aget e 5 = .v (.int .u8 k) ∧ ∀ i < k, signN p s i ≠ c) ?_ ?_
  · rintro m e h ⟨rfl, hl, h1, h2, k, hk, h5, hs⟩
    simp -dsimp only [hl, h1, h2, h5, wt_seq, wt_block, wt_region, wt_cond, wt_skip, wt_ret, wt_exit, wst_nil, wst_app_nil, wst_app_cons, wst_cons, wst_guard, andThen_normal, andThen_ret, andThen_exit, leave_normal, leave_ret, leave_exit, EndsA_ret, EndsA_normal, ot_move, ot_assign, ot_pick, ot_binOp, ot_unOp, ot_convert, ot_field, ot_index, ot_indexAddr, ot_fieldAddr, ot_slice, ot_build, ot_buildSlice, ot_extract, ot_makeInterface, ot_makeFunc, ot_nilCheck, ot_call, ot_len, ot_append, ot_box, ot_load, ot_store, ot_makeSlice, ct_bool, ct_true, ct_false, bt_some, gt_some, aval_tmp, aval_int, aval_bool, aval_str, aval_slice, aval_nilPointer, aval_nilIface, aval_func, aval_global, avals, apairs, bareP, AV.bare, AV.bares, bin_lss, bin_leq, bin_gtr, bin_geq, bin_eql, bin_neq, bin_add, bin_sub, bin_mul, bin_and, bin_or, bin_xor, toV_int, toV_bool, toV_string, un_neg, un_not, bin_str_eql, bin_str_neq, bin_str_lss, bin_str_leq, bin_str_gtr, bin_str_geq, aget_aput, length_aput, aput_none, Nat.reduceEqDiff, Nat.reduceLT, Nat.reduceAdd, reduceIte, reduceCtorEq, Bool.not_false, Bool.not_true, Bool.true_or, true_and, Option.bind_some, Option.map_some, List.nil_append, List.cons_append, resA, resA1, resVal, Option.getD_some, Nat.reduceLeDiff, bnd_some, yieldA_eq, yldOf_some, boolOf_bool, boolOf_undef, gt_none, List.getElem?_toArray, List.getElem?_cons_succ, List.getElem?_cons_zero, bq_true, bq_false, decide_true, decide_false, Option.toList_none, Option.toList_some, List.head?_cons, List.head?_nil, nb_cfg, not_false_eq_true, cv_some, pm_some, pm_none, plainA_v, plain_bool, plain_int, plain_str, Bool.false_eq_true, if_false]
    rw [ct_eq]
    refine ⟨fun h => ?_, fun h => ?_⟩
    · simp -dsimp only [hl, h1, h2, h5, part44, AV.cells, ct_prim prim1_32, signP_eq, wt_seq, wt_block, wt_region, wt_cond, wt_skip, wt_ret, wt_exit, wst_nil, wst_app_nil, wst_app_cons, wst_cons, wst_guard, andThen_normal, andThen_ret, andThen_exit, leave_normal, leave_ret, leave_exit, EndsA_ret, EndsA_normal, ot_move, ot_assign, ot_pick, ot_binOp, ot_unOp, ot_convert, ot_field, ot_index, ot_indexAddr, ot_fieldAddr, ot_slice, ot_build, ot_buildSlice, ot_extract, ot_makeInterface, ot_makeFunc, ot_nilCheck, ot_call, ot_len, ot_append, ot_box, ot_load, ot_store, ot_makeSlice, ct_bool, ct_true, ct_false, bt_some, gt_some, aval_tmp, aval_int, aval_bool, aval_str, aval_slice, aval_nilPointer, aval_nilIface, aval_func, aval_global, avals, apairs, bareP, AV.bare, AV.bares, bin_lss, bin_leq, bin_gtr, bin_geq, bin_eql, bin_neq, bin_add, bin_sub, bin_mul, bin_and, bin_or, bin_xor, toV_int, toV_bool, toV_string, un_neg, un_not, bin_str_eql, bin_str_neq, bin_str_lss, bin_str_leq, bin_str_gtr, bin_str_geq, aget_aput, length_aput, aput_none, Nat.reduceEqDiff, Nat.reduceLT, Nat.reduceAdd, reduceIte, reduceCtorEq, Bool.not_false, Bool.not_true, Bool.true_or, true_and, Option.bind_some, Option.map_some, List.nil_append, List.cons_append, resA, resA1, resVal, Option.getD_some, Nat.reduceLeDiff, bnd_some, yieldA_eq, yldOf_some, boolOf_bool, boolOf_undef, gt_none, List.getElem?_toArray, List.getElem?_cons_succ, List.getElem?_cons_zero, bq_true, bq_false, decide_true, decide_false, Option.toList_none, Option.toList_some, List.head?_cons, List.head?_nil, nb_cfg, not_false_eq_true, cv_some, pm_some, pm_none, plainA_v, plain_bool, plain_int, plain_str, Bool.false_eq_true, if_false]
      rw [ct_eq]
      refine ⟨fun h' => ?_, fun h' => ?_⟩
      · simp -dsimp only [hl, h1, h2, h5, wt_seq, wt_block, wt_region, wt_cond, wt_skip, wt_ret, wt_exit, wst_nil, wst_app_nil, wst_app_cons, wst_cons, wst_guard, andThen_normal, andThen_ret, andThen_exit, leave_normal, leave_ret, leave_exit, EndsA_ret, EndsA_normal, ot_move, ot_assign, ot_pick, ot_binOp, ot_unOp, ot_convert, ot_field, ot_index, ot_indexAddr, ot_fieldAddr, ot_slice, ot_build, ot_buildSlice, ot_extract, ot_makeInterface, ot_makeFunc, ot_nilCheck, ot_call, ot_len, ot_append, ot_box, ot_load, ot_store, ot_makeSlice, ct_bool, ct_true, ct_false, bt_some, gt_some, aval_tmp, aval_int, aval_bool, aval_str, aval_slice, aval_nilPointer, aval_nilIface, aval_func, aval_global, avals, apairs, bareP, AV.bare, AV.bares, bin_lss, bin_leq, bin_gtr, bin_geq, bin_eql, bin_neq, bin_add, bin_sub, bin_mul, bin_and, bin_or, bin_xor, toV_int, toV_bool, toV_string, un_neg, un_not, bin_str_eql, bin_str_neq, bin_str_lss, bin_str_leq, bin_str_gtr, bin_str_geq, aget_aput, length_aput, aput_none, Nat.reduceEqDiff, Nat.reduceLT, Nat.reduceAdd, reduceIte, reduceCtorEq, Bool.not_false, Bool.not_true, Bool.true_or, true_and, Option.bind_some, Option.map_some, List.nil_append, List.cons_append, resA, resA1, resVal, Option.getD_some, Nat.reduceLeDiff, bnd_some, yieldA_eq, yldOf_some, boolOf_bool, boolOf_undef, gt_none, List.getElem?_toArray, List.getElem?_cons_succ, List.getElem?_cons_zero, bq_true, bq_false, decide_true, decide_false, Option.toList_none, Option.toList_some, List.head?_cons, List.head?_nil, nb_cfg, not_false_eq_true, cv_some, pm_some, pm_none, plainA_v, plain_bool, plain_int, plain_str, Bool.false_eq_true, if_false]
        refine ⟨1, ?_⟩
        have h'' : signN p s k = c := by simpa using h'
        have hk' : k < 64 := by simp at h; omega
        rw [show numN p s c = k from by
          unfold numN
          rw [show (List.range 64).find? (fun n : Nat => decide (signN p s n = c)) = some k from List.find?_range_eq_some.2 ⟨by simpa using h'', by simpa using hk', fun i hi => by simpa using hs i hi⟩]]
        rfl
      · simp -dsimp only [hl, h1, h2, h5, wt_seq, wt_block, wt_region, wt_cond, wt_skip, wt_ret, wt_exit, wst_nil, wst_app_nil, wst_app_cons, wst_cons, wst_guard, andThen_normal, andThen_ret, andThen_exit, leave_normal, leave_ret, leave_exit, EndsA_ret, EndsA_normal, ot_move, ot_assign, ot_pick, ot_binOp, ot_unOp, ot_convert, ot_field, ot_index, ot_indexAddr, ot_fieldAddr, ot_slice, ot_build, ot_buildSlice, ot_extract, ot_makeInterface, ot_makeFunc, ot_nilCheck, ot_call, ot_len, ot_append, ot_box, ot_load, ot_store, ot_makeSlice, ct_bool, ct_true, ct_false, bt_some, gt_some, aval_tmp, aval_int, aval_bool, aval_str, aval_slice, aval_nilPointer, aval_nilIface, aval_func, aval_global, avals, apairs, bareP, AV.bare, AV.bares, bin_lss, bin_leq, bin_gtr, bin_geq, bin_eql, bin_neq, bin_add, bin_sub, bin_mul, bin_and, bin_or, bin_xor, toV_int, toV_bool, toV_string, un_neg, un_not, bin_str_eql, bin_str_neq, bin_str_lss, bin_str_leq, bin_str_gtr, bin_str_geq, aget_aput, length_aput, aput_none, Nat.reduceEqDiff, Nat.reduceLT, Nat.reduceAdd, reduceIte, reduceCtorEq, Bool.not_false, Bool.not_true, Bool.true_or, true_and, Option.bind_some, Option.map_some, List.nil_append, List.cons_append, resA, resA1, resVal, Option.getD_some, Nat.reduceLeDiff, bnd_some, yieldA_eq, yldOf_some, boolOf_bool, boolOf_undef, gt_none, List.getElem?_toArray, List.getElem?_cons_succ, List.getElem?_cons_zero, bq_true, bq_false, decide_true, decide_false, Option.toList_none, Option.toList_some, List.head?_cons, List.head?_nil, nb_cfg, not_false_eq_true, cv_some, pm_some, pm_none, plainA_v, plain_bool, plain_int, plain_str, Bool.false_eq_true, if_false]
        have hk' : k < 64 := by simp at h; omega
        refine ⟨m - 1, by omega, k + 1, by omega, ?_, fun i hi => ?_⟩
        · congr 2
          simp [IntKind.wrap, IntKind.bits, IntKind.signed]
          omega
        · rcases Nat.lt_succ_iff_lt_or_eq.1 hi with hi | rfl
          · exact hs i hi
          · simpa using h'
    · simp -dsimp only [hl, h1, h2, h5, wt_seq, wt_block, wt_region, wt_cond, wt_skip, wt_ret, wt_exit, wst_nil, wst_app_nil, wst_app_cons, wst_cons, wst_guard, andThen_normal, andThen_ret, andThen_exit, leave_normal, leave_ret, leave_exit, EndsA_ret, EndsA_normal, ot_move, ot_assign, ot_pick, ot_binOp, ot_unOp, ot_convert, ot_field, ot_index, ot_indexAddr, ot_fieldAddr, ot_slice, ot_build, ot_buildSlice, ot_extract, ot_makeInterface, ot_makeFunc, ot_nilCheck, ot_call, ot_len, ot_append, ot_box, ot_load, ot_store, ot_makeSlice, ct_bool, ct_true, ct_false, bt_some, gt_some, aval_tmp, aval_int, aval_bool, aval_str, aval_slice, aval_nilPointer, aval_nilIface, aval_func, aval_global, avals, apairs, bareP, AV.bare, AV.bares, bin_lss, bin_leq, bin_gtr, bin_geq, bin_eql, bin_neq, bin_add, bin_sub, bin_mul, bin_and, bin_or, bin_xor, toV_int, toV_bool, toV_string, un_neg, un_not, bin_str_eql, bin_str_neq, bin_str_lss, bin_str_leq, bin_str_gtr, bin_str_geq, aget_aput, length_aput, aput_none, Nat.reduceEqDiff, Nat.reduceLT, Nat.reduceAdd, reduceIte, reduceCtorEq, Bool.not_false, Bool.not_true, Bool.true_or, true_and, Option.bind_some, Option.map_some, List.nil_append, List.cons_append, resA, resA1, resVal, Option.getD_some, Nat.reduceLeDiff, bnd_some, yieldA_eq, yldOf_some, boolOf_bool, boolOf_undef, gt_none, List.getElem?_toArray, List.getElem?_cons_succ, List.getElem?_cons_zero, bq_true, bq_false, decide_true, decide_false, Option.toList_none, Option.toList_some, List.head?_cons, List.head?_nil, nb_cfg, not_false_eq_true, cv_some, pm_some, pm_none, plainA_v, plain_bool, plain_int, plain_str, Bool.false_eq_true, if_false]
      refine ⟨1, ?_⟩
      rw [show numN p s c = 64 from by
        unfold numN
        rw [show (List.range 64).find? (fun n : Nat => decide (signN p s n = c)) = none from List.find?_range_eq_none.2 fun i hi => by
          simp at h
          simpa using hs i (by omega)]]
      rfl
  · exact ⟨rfl, by simp only [length_aput, hl], by simp -dsimp only [hl, h1, wt_seq, wt_block, wt_region, wt_cond, wt_skip, wt_ret, wt_exit, wst_nil, wst_app_nil, wst_app_cons, wst_cons, wst_guard, andThen_normal, andThen_ret, andThen_exit, leave_normal, leave_ret, leave_exit, EndsA_ret, EndsA_normal, ot_move, ot_assign, ot_pick, ot_binOp, ot_unOp, ot_convert, ot_field, ot_index, ot_indexAddr, ot_fieldAddr, ot_slice, ot_build, ot_buildSlice, ot_extract, ot_makeInterface, ot_makeFunc, ot_nilCheck, ot_call, ot_len, ot_append, ot_box, ot_load, ot_store, ot_makeSlice, ct_bool, ct_true, ct_false, bt_some, gt_some, aval_tmp, aval_int, aval_bool, aval_str, aval_slice, aval_nilPointer, aval_nilIface, aval_func, aval_global, avals, apairs, bareP, AV.bare, AV.bares, bin_lss, bin_leq, bin_gtr, bin_geq, bin_eql, bin_neq, bin_add, bin_sub, bin_mul, bin_and, bin_or, bin_xor, toV_int, toV_bool, toV_string, un_neg, un_not, bin_str_eql, bin_str_neq, bin_str_lss, bin_str_leq, bin_str_gtr, bin_str_geq, aget_aput, length_aput, aput_none, Nat.reduceEqDiff, Nat.reduceLT, Nat.reduceAdd, reduceIte, reduceCtorEq, Bool.not_false, Bool.not_true, Bool.true_or, true_and, Option.bind_some, Option.map_some, List.nil_append, List.cons_append, resA, resA1, resVal, Option.getD_some, Nat.reduceLeDiff, bnd_some, yieldA_eq, yldOf_some, boolOf_bool, boolOf_undef, gt_none, List.getElem?_toArray, List.getElem?_cons_succ, List.getElem?_cons_zero, bq_true, bq_false, decide_true, decide_false, Option.toList_none, Option.toList_some, List.head?_cons, List.head?_nil, nb_cfg, not_false_eq_true, cv_some, pm_some, pm_none, plainA_v, plain_bool, plain_int, plain_str, Bool.false_eq_true, if_false], by simp -dsimp only [hl, h1, wt_seq, wt_block, wt_region, wt_cond, wt_skip, wt_ret, wt_exit, wst_nil, wst_app_nil, wst_app_cons, wst_cons, wst_guard, andThen_normal, andThen_ret, andThen_exit, leave_normal, leave_ret, leave_exit, EndsA_ret, EndsA_normal, ot_move, ot_assign, ot_pick, ot_binOp, ot_unOp, ot_convert, ot_field, ot_index, ot_indexAddr, ot_fieldAddr, ot_slice, ot_build, ot_buildSlice, ot_extract, ot_makeInterface, ot_makeFunc, ot_nilCheck, ot_call, ot_len, ot_append, ot_box, ot_load, ot_store, ot_makeSlice, ct_bool, ct_true, ct_false, bt_some, gt_some, aval_tmp, aval_int, aval_bool, aval_str, aval_slice, aval_nilPointer, aval_nilIface, aval_func, aval_global, avals, apairs, bareP, AV.bare, AV.bares, bin_lss, bin_leq, bin_gtr, bin_geq, bin_eql, bin_neq, bin_add, bin_sub, bin_mul, bin_and, bin_or, bin_xor, toV_int, toV_bool, toV_string, un_neg, un_not, bin_str_eql, bin_str_neq, bin_str_lss, bin_str_leq, bin_str_gtr, bin_str_geq, aget_aput, length_aput, aput_none, Nat.reduceEqDiff, Nat.reduceLT, Nat.reduceAdd, reduceIte, reduceCtorEq, Bool.not_false, Bool.not_true, Bool.true_or, true_and, Option.bind_some, Option.map_some, List.nil_append, List.cons_append, resA, resA1, resVal, Option.getD_some, Nat.reduceLeDiff, bnd_some, yieldA_eq, yldOf_some, boolOf_bool, boolOf_undef, gt_none, List.getElem?_toArray, List.getElem?_cons_succ, List.getElem?_cons_zero, bq_true, bq_false, decide_true, decide_false, Option.toList_none, Option.toList_some, List.head?_cons, List.head?_nil, nb_cfg, not_false_eq_true, cv_some, pm_some, pm_none, plainA_v, plain_bool, plain_int, plain_str, Bool.false_eq_true, if_false], 0, rfl, by simp -dsimp only [hl, h1, wt_seq, wt_block, wt_region, wt_cond, wt_skip, wt_ret, wt_exit, wst_nil, wst_app_nil, wst_app_cons, wst_cons, wst_guard, andThen_normal, andThen_ret, andThen_exit, leave_normal, leave_ret, leave_exit, EndsA_ret, EndsA_normal, ot_move, ot_assign, ot_pick, ot_binOp, ot_unOp, ot_convert, ot_field, ot_index, ot_indexAddr, ot_fieldAddr, ot_slice, ot_build, ot_buildSlice, ot_extract, ot_makeInterface, ot_makeFunc, ot_nilCheck, ot_call, ot_len, ot_append, ot_box, ot_load, ot_store, ot_makeSlice, ct_bool, ct_true, ct_false, bt_some, gt_some, aval_tmp, aval_int, aval_bool, aval_str, aval_slice, aval_nilPointer, aval_nilIface, aval_func, aval_global, avals, apairs, bareP, AV.bare, AV.bares, bin_lss, bin_leq, bin_gtr, bin_geq, bin_eql, bin_neq, bin_add, bin_sub, bin_mul, bin_and, bin_or, bin_xor, toV_int, toV_bool, toV_string, un_neg, un_not, bin_str_eql, bin_str_neq, bin_str_lss, bin_str_leq, bin_str_gtr, bin_str_geq, aget_aput, length_aput, aput_none, Nat.reduceEqDiff, Nat.reduceLT, Nat.reduceAdd, reduceIte, reduceCtorEq, Bool.not_false, Bool.not_true, Bool.true_or, true_and, Option.bind_some, Option.map_some, List.nil_append, List.cons_append, resA, resA1, resVal, Option.getD_some, Nat.reduceLeDiff, bnd_some, yieldA_eq, yldOf_some, boolOf_bool, boolOf_undef, gt_none, List.getElem?_toArray, List.getElem?_cons_succ, List.getElem?_cons_zero, bq_true, bq_false, decide_true, decide_false, Option.toList_none, Option.toList_some, List.head?_cons, List.head?_nil, nb_cfg, not_false_eq_true, cv_some, pm_some, pm_none, plainA_v, plain_bool, plain_int, plain_str, Bool.false_eq_true, if_false]; rfl, fun i hi => absurd hi (Nat.not_lt_zero _)⟩
end Go.Proofs.YtonmpbfddiflhaaDoor

namespace Go.Proofs.YtonmpbfddiflhaaDoor
open Go.AM
/-- A sign of an alphabet. -/
def sg (p s : UInt8) (v : Nat) : UInt8 := if v < 26 then UInt8.ofNat (65 + v) else if v < 52 then UInt8.ofNat (71 + v) else if v < 62 then UInt8.ofNat (v - 4) else if v = 63 then s else p
theorem signN_sg (p s : UInt8) (v : Nat) (h : v < 64) : signN p.toNat s.toNat v = (sg p s v).toNat := by
  unfold signN sg
  have w : ∀ a : Int, 0 ≤ a → a < 256 → IntKind.u8.wrap a = a := fun a h1 h2 => by
    simp [IntKind.wrap, IntKind.bits, IntKind.signed]; omega
  by_cases h1 : v < 26
  · have h1' : (v : Int) < 26 := by omega
    simp only [h1, h1', if_true]
    rw [w _ (by omega) (by omega), UInt8.toNat_ofNat']
    omega
  · have h1' : ¬ (v : Int) < 26 := by omega
    by_cases h2 : v < 52
    · have h2' : (v : Int) < 52 := by omega
      simp only [h1, h1', h2, h2', if_true, if_false]
      rw [w (97 + v) (by omega) (by omega), w _ (by omega) (by omega), UInt8.toNat_ofNat']
      omega
    · have h2' : ¬ (v : Int) < 52 := by omega
      by_cases h3 : v < 62
      · have h3' : (v : Int) < 62 := by omega
        simp only [h1, h1', h2, h2', h3, h3', if_true, if_false]
        rw [w (48 + v) (by omega) (by omega), w _ (by omega) (by omega), UInt8.toNat_ofNat']
        omega
      · have h3' : ¬ (v : Int) < 62 := by omega
        by_cases h4 : v = 63
        · subst h4; simp
        · have h4' : ¬ (v : Int) = 63 := by omega
          simp only [h1, h1', h2, h2', h3, h3', h4, h4', if_false]
section
variable {prim : FuncId → Option (List AV → Option AV)}
theorem len22 {x : AV} {xs : List AV} (h : elems x = some xs) : lenA (cfgP prim) #[22] [x] = some (.v (.int .i64 xs.length)) := len_elems (e := 5) (by kernel_rfl) h
theorem idx22 {x : AV} {xs : List AV} (h : elems x = some xs) {k : IntKind} {i : Nat} {z : AV} (hi : xs[i]? = some z) (hz : z.cells.length = 1) : indexAddrA (cfgP prim) 22 x (.v (.int k i)) = some (.rp z 0) := indexAddr_elems (e := 5) (by kernel_rfl) csz5 h hi hz
theorem app22 {xs : List AV} {f : Bool} {x : AV} (hx : x.cells.length = 1) (hs : sized 1 xs) (hr : xs.length < 140737488355328) : appA (cfgP prim) #[22, 22] [gsl xs, .cl f [x]] (ghp 5 xs) = some (gsl (xs ++ [x]), ghp 5 (xs ++ [x])) :=
  appA_gsl (n := 0) (k := 1) (t1 := 5) (z := .v (.int .u8 0)) (by kernel_rfl) (by kernel_rfl) (by kernel_rfl) csz5 rfl (by kernel_rfl) hx hs (by omega)
theorem conv5_39 {n : Int} : convA (cfgP prim) 5 39 (.v (.int .u8 n)) = some (.v (.int .u64 (IntKind.u64.wrap n))) := conv_int Tryd.underlying5 Tryd.underlying39 Tryd.underlying5 Tryd.underlying39
theorem conv39_5 {n : Int} : convA (cfgP prim) 39 5 (.v (.int .u64 n)) = some (.v (.int .u8 (IntKind.u8.wrap n))) := conv_int Tryd.underlying39 Tryd.underlying5 Tryd.underlying39 Tryd.underlying5
theorem bs22 {x : Int} : buildSliceA (cfgP prim) 22 1 [(0, .v (.int .u8 x))] = some (.cl true [.v (.int .u8 x)]) := by kernel_rfl
end
def Nn (l : List UInt8) : Nat := Digs.val 256 (l.map (·.toNat))
theorem wrap64 (n : Nat) : IntKind.u64.wrap (n : Int) = ((n % 2 ^ 64 : Nat) : Int) := by
  simp [IntKind.wrap, IntKind.bits, IntKind.signed]
theorem wrap8 (n : Nat) : IntKind.u8.wrap (n : Int) = ((n % 256 : Nat) : Int) := by
  simp [IntKind.wrap, IntKind.bits, IntKind.signed]
/-- One byte more. -/
theorem left_or (a c : Nat) (hc : c < 256) : IntKind.u64.wrap ((BitVec.ofInt 64 (IntKind.u64.wrap (((a % 2 ^ 64 : Nat) : Int) * 2 ^ min (8 : Int).toNat 64)) ||| BitVec.ofInt 64 (IntKind.u64.wrap ((c : Nat) : Int))).toNat : Nat) = (((a * 256 + c) % 2 ^ 64 : Nat) : Int) := by
  have e1 : ((a % 2 ^ 64 : Nat) : Int) * 2 ^ min (8 : Int).toNat 64 = ((a % 2 ^ 64 * 256 : Nat) : Int) := by
    have : min (8 : Int).toNat 64 = 8 := by decide
    rw [this, show ((2 : Int) ^ 8) = ((256 : Nat) : Int) from rfl, ← Int.natCast_mul]
  rw [e1, wrap64, wrap64, wrap64]
  congr 1
  simp only [BitVec.ofInt_natCast, BitVec.toNat_or, BitVec.toNat_ofNat]
  have h1 : a % 2 ^ 64 * 256 % 2 ^ 64 % 2 ^ 64 = (a % 2 ^ 56) * 2 ^ 8 := by omega
  have h2 : c % 2 ^ 64 % 2 ^ 64 = c := by omega
  rw [h1, h2, ← Nat.shiftLeft_eq, ← Nat.shiftLeft_add_eq_or_of_lt (by omega : c < 2 ^ 8), Nat.shiftLeft_eq]
  omega
/-- Six bits of it. -/
theorem six_of (a n : Nat) (hn : n + 6 ≤ 64) : IntKind.u8.wrap ((BitVec.ofInt 8 (IntKind.u8.wrap (((a % 2 ^ 64 : Nat) : Int).fdiv (2 ^ min ((n : Nat) : Int).toNat 64))) &&& BitVec.ofInt 8 63).toNat : Nat) = ((a / 2 ^ n % 64 : Nat) : Int) := by
  have e0 : min ((n : Nat) : Int).toNat 64 = n := by omega
  have e1 : ((a % 2 ^ 64 : Nat) : Int).fdiv (2 ^ n) = ((a % 2 ^ 64 / 2 ^ n : Nat) : Int) := by
    rw [show (2 : Int) ^ n = ((2 ^ n : Nat) : Int) by push_cast; rfl, Int.fdiv_eq_ediv_of_nonneg _ (Int.natCast_nonneg _)]; rfl
  rw [e0, e1, wrap8, wrap8]
  congr 1
  rw [show (63 : Int) = ((63 : Nat) : Int) from rfl]
  simp only [BitVec.ofInt_natCast, BitVec.toNat_and, BitVec.toNat_ofNat]
  have h1 : (63 : Nat) % 2 ^ 8 = 2 ^ 6 - 1 := by decide
  rw [h1, Nat.and_two_pow_sub_one_eq_mod]
  have h2 : a % 2 ^ 64 / 2 ^ n % 64 = a / 2 ^ n % 64 := by
    have : (2 : Nat) ^ 64 = 2 ^ n * 2 ^ (64 - n) := by rw [← Nat.pow_add]; congr 1; omega
    rw [this, Nat.mod_mul_right_div_self]
    have : (64 : Nat) ∣ 2 ^ (64 - n) := ⟨2 ^ (58 - n), by rw [show (64 : Nat) = 2 ^ 6 from rfl, ← Nat.pow_add]; congr 1; omega⟩
    exact Nat.mod_mod_of_dvd _ this
  rw [← h2]
  omega
/-- The signs that are out. -/
def outs (p s : UInt8) (t v : Nat) : List UInt8 := (Digs.digs 64 t v).map (sg p s)
theorem outs_succ (p s : UInt8) (t v : Nat) : outs p s (t + 1) v = outs p s t (v / 64) ++ [sg p s (v % 64)] := by simp [outs, Digs.digs]
theorem sized_byts (l : List UInt8) : sized 1 (byts l) := fun x hx => by
  simp only [byts, List.mem_map] at hx
  obtain ⟨c, _, rfl⟩ := hx
  rfl
theorem Nn_take (l : List UInt8) (i : Nat) (h : i < l.length) : Nn (l.take (i + 1)) = Nn (l.take i) * 256 + (l[i]).toNat := by
  unfold Nn
  rw [List.take_succ_eq_append_getElem h, List.map_append, List.map_singleton, Digs.val_concat]
/-- Bytes as signs. -/
def put64 (p s : UInt8) (l : List UInt8) : List UInt8 := outs p s ((8 * l.length + 5) / 6) (Nn l * 2 ^ (6 * ((8 * l.length + 5) / 6) - 8 * l.length))
end Go.Proofs.YtonmpbfddiflhaaDoor

namespace Go.Proofs.YtonmpbfddiflhaaDoor
open Go.AM
theorem cells_byt (c : UInt8) : (byt c).cells = [byt c] := rfl
theorem byts_snoc (l : List UInt8) (c : UInt8) : byts l ++ [byt c] = byts (l ++ [c]) := by simp [byts]
/-- What the loop holds: m bytes are taken, t signs are out, n bits wait. -/
structure putI (p s : UInt8) (l : List UInt8) (x : AV) (i t n : Nat) (e : Env) (h : Hp) : Prop where
  len : e.length = 53
  hp : h = ghp 5 (byts (outs p s t (Nn (l.take i) / 2 ^ n)))
  a1 : aget e 1 = .fn (.func 32) [.agg [.v (.int .u8 p.toNat), .v (.int .u8 s.toNat)]] []
  a10 : aget e 10 = x
  a11 : aget e 11 = .v (.int .i64 l.length)
  a6 : aget e 6 = .v (.int .u64 (Nn (l.take i) % 2 ^ 64 : Nat))
  a7 : aget e 7 = .v (.int .u64 n)
  a5 : aget e 5 = gsl (byts (outs p s t (Nn (l.take i) / 2 ^ n)))
theorem w64 {n : Int} (h1 : 0 ≤ n) (h2 : n < 2 ^ 64) : IntKind.u64.wrap n = n := by
  simp [IntKind.wrap, IntKind.bits, IntKind.signed]; omega
theorem wi64 {n : Int} (h1 : 0 ≤ n) (h2 : n < 2 ^ 63) : IntKind.i64.wrap n = n := by
  simp [IntKind.wrap, IntKind.bits, IntKind.signed]; omega
theorem Nn_div (l : List UInt8) (i n : Nat) (h : i < l.length) : Nn (l.take (i + 1)) / 2 ^ (n + 8) = Nn (l.take i) / 2 ^ n := by
  rw [Nn_take l i h, Nat.pow_add, Nat.mul_comm (2 ^ n), ← Nat.div_div_eq_div_mul]
  congr 1
  have := UInt8.toNat_lt l[i]
  rw [show (2 : Nat) ^ 8 = 256 from rfl]
  omega
theorem sg_call (p s : UInt8) (a n : Nat) (hn : n + 6 ≤ 64) : signP [.agg [.v (.int .u8 p.toNat), .v (.int .u8 s.toNat)], .v (.int .u8 ((a / 2 ^ n % 64 : Nat) : Int))] = some (byt (sg p s (a / 2 ^ n % 64))) := by
  rw [signP_eq, signN_sg p s _ (by omega)]
  rfl
theorem outs_length (p s : UInt8) (t v : Nat) : (outs p s t v).length = t := by simp [outs, Digs.digs_length]
theorem outs_next (p s : UInt8) (t a n : Nat) : byts (outs p s t (a / 2 ^ (n + 6))) ++ [byt (sg p s (a / 2 ^ n % 64))] = byts (outs p s (t + 1) (a / 2 ^ n)) := by
  rw [outs_succ, byts_snoc, Nat.pow_add, ← Nat.div_div_eq_div_mul]
theorem six_of' (a n : Nat) (hn : n + 6 ≤ 64) : IntKind.u8.wrap ((BitVec.ofInt IntKind.u8.bits (IntKind.u8.wrap (((a % 2 ^ 64 : Nat) : Int).fdiv (2 ^ min ((n : Nat) : Int).toNat IntKind.u64.bits))) &&& BitVec.ofInt IntKind.u8.bits 63).toNat : Nat) = ((a / 2 ^ n % 64 : Nat) : Int) := six_of a n hn
theorem left_or' (a c : Nat) (hc : c < 256) : IntKind.u64.wrap ((BitVec.ofInt IntKind.u64.bits (IntKind.u64.wrap (((a % 2 ^ 64 : Nat) : Int) * 2 ^ min (8 : Int).toNat IntKind.u64.bits)) ||| BitVec.ofInt IntKind.u64.bits (IntKind.u64.wrap ((c : Nat) : Int))).toNat : Nat) = (((a * 256 + c) % 2 ^ 64 : Nat) : Int) := left_or a c hc
theorem conv22_9 {prim : FuncId → Option (List AV → Option AV)} {a : List UInt8} : convA (cfgP prim) 22 9 (gsl (byts a)) = some (str a) := conv_str (e := 5) (by kernel_rfl) (by kernel_rfl) (by kernel_rfl) (elems_gsl _)
theorem six_left (a n : Nat) (hn : n ≤ 5) : IntKind.u8.wrap ((BitVec.ofInt IntKind.u8.bits (IntKind.u8.wrap (IntKind.u64.wrap (((a % 2 ^ 64 : Nat) : Int) * 2 ^ min ((n : Nat) : Int).toNat IntKind.u64.bits))) &&& BitVec.ofInt IntKind.u8.bits 63).toNat : Nat) = ((a * 2 ^ n / 2 ^ 0 % 64 : Nat) : Int) := by
  rw [← six_of' (a * 2 ^ n) 0 (by omega)]
  have hb : IntKind.u64.bits = 64 := rfl
  have e0 : min ((n : Nat) : Int).toNat IntKind.u64.bits = n := by
    rw [hb]; omega
  have e1 : min ((0 : Nat) : Int).toNat IntKind.u64.bits = 0 := by
    rw [hb]; omega
  rw [e0, e1]
  congr 6
  rw [show ((a % 2 ^ 64 : Nat) : Int) * 2 ^ n = ((a % 2 ^ 64 * 2 ^ n : Nat) : Int) by rw [Int.natCast_mul, Int.natCast_pow]; rfl, wrap64]
  have : (2 : Int) ^ 0 = 1 := rfl
  rw [this, Int.fdiv_one]
  congr 1
  rw [Nat.mod_mul_mod]
theorem put_ok (p s : UInt8) (l : List UInt8) (x : AV) (hx : elems x = some (byts l)) (hl : l.length < 2 ^ 40) :
    PureOk (cfgP prim1) 31 [x, .fn (.func 32) [.agg [.v (.int .u8 p.toNat), .v (.int .u8 s.toNat)]] []] (str (put64 p s l)) := by
  refine pure_of_wk (call := noCall) (fn := Tryd.f31) (rs := [.tmp 4]) cok1 noCall_ok (fns_cfg Tryd.func31 rfl) rfl rfl ?_
  intro env hl0 ha
  have hn : env.length = 53 := hl0
  have h0 := ha 0 _ rfl
  have h1 := ha 1 _ rfl
  clear ha hl0
  refine wkT_of ?_
  simp -dsimp only [hn, h0, h1, len22 hx, wt_seq, wt_block, wt_region, wt_cond, wt_skip, wt_ret, wt_exit, wst_nil, wst_app_nil, wst_app_cons, wst_cons, wst_guard, andThen_normal, andThen_ret, andThen_exit, leave_normal, leave_ret, leave_exit, EndsA_ret, EndsA_normal, ot_move, ot_assign, ot_pick, ot_binOp, ot_unOp, ot_convert, ot_field, ot_index, ot_indexAddr, ot_fieldAddr, ot_slice, ot_build, ot_buildSlice, ot_extract, ot_makeInterface, ot_makeFunc, ot_nilCheck, ot_call, ot_len, ot_append, ot_box, ot_load, ot_store, ot_makeSlice, ct_bool, ct_true, ct_false, bt_some, gt_some, aval_tmp, aval_int, aval_bool, aval_str, aval_slice, aval_nilPointer, aval_nilIface, aval_func, aval_global, avals, apairs, bareP, AV.bare, AV.bares, bin_lss, bin_leq, bin_gtr, bin_geq, bin_eql, bin_neq, bin_add, bin_sub, bin_mul, bin_and, bin_or, bin_xor, toV_int, toV_bool, toV_string, un_neg, un_not, bin_str_eql, bin_str_neq, bin_str_lss, bin_str_leq, bin_str_gtr, bin_str_geq, aget_aput, length_aput, aput_none, Nat.reduceEqDiff, Nat.reduceLT, Nat.reduceAdd, reduceIte, reduceCtorEq, Bool.not_false, Bool.not_true, Bool.true_or, true_and, Option.bind_some, Option.map_some, List.nil_append, List.cons_append, resA, resA1, resVal, Option.getD_some, Nat.reduceLeDiff, bnd_some, yieldA_eq, yldOf_some, boolOf_bool, boolOf_undef, gt_none, List.getElem?_toArray, List.getElem?_cons_succ, List.getElem?_cons_zero, bq_true, bq_false, decide_true, decide_false, Option.toList_none, Option.toList_some, List.head?_cons, List.head?_nil, nb_cfg, not_false_eq_true, cv_some, pm_some, pm_none, plainA_v, plain_bool, plain_int, plain_str, Bool.false_eq_true, if_false]
  refine wt_loop (m := l.length) (fun m e h => ∃ i, i + m = l.length ∧ aget e 12 = .v (.int .i64 i) ∧ putI p s l x i (8 * i / 6) (8 * i % 6) e h) ?_ ?_
  · rintro m e h ⟨i, hi, h12, hn, rfl, h1, h10, h11, h6, h7, h5⟩
    simp -dsimp only [hn, h1, h10, h11, h12, h6, h7, h5, wt_seq, wt_block, wt_region, wt_cond, wt_skip, wt_ret, wt_exit, wst_nil, wst_app_nil, wst_app_cons, wst_cons, wst_guard, andThen_normal, andThen_ret, andThen_exit, leave_normal, leave_ret, leave_exit, EndsA_ret, EndsA_normal, ot_move, ot_assign, ot_pick, ot_binOp, ot_unOp, ot_convert, ot_field, ot_index, ot_indexAddr, ot_fieldAddr, ot_slice, ot_build, ot_buildSlice, ot_extract, ot_makeInterface, ot_makeFunc, ot_nilCheck, ot_call, ot_len, ot_append, ot_box, ot_load, ot_store, ot_makeSlice, ct_bool, ct_true, ct_false, bt_some, gt_some, aval_tmp, aval_int, aval_bool, aval_str, aval_slice, aval_nilPointer, aval_nilIface, aval_func, aval_global, avals, apairs, bareP, AV.bare, AV.bares, bin_lss, bin_leq, bin_gtr, bin_geq, bin_eql, bin_neq, bin_add, bin_sub, bin_mul, bin_and, bin_or, bin_xor, toV_int, toV_bool, toV_string, un_neg, un_not, bin_str_eql, bin_str_neq, bin_str_lss, bin_str_leq, bin_str_gtr, bin_str_geq, aget_aput, length_aput, aput_none, Nat.reduceEqDiff, Nat.reduceLT, Nat.reduceAdd, reduceIte, reduceCtorEq, Bool.not_false, Bool.not_true, Bool.true_or, true_and, Option.bind_some, Option.map_some, List.nil_append, List.cons_append, resA, resA1, resVal, Option.getD_some, Nat.reduceLeDiff, bnd_some, yieldA_eq, yldOf_some, boolOf_bool, boolOf_undef, gt_none, List.getElem?_toArray, List.getElem?_cons_succ, List.getElem?_cons_zero, bq_true, bq_false, decide_true, decide_false, Option.toList_none, Option.toList_some, List.head?_cons, List.head?_nil, nb_cfg, not_false_eq_true, cv_some, pm_some, pm_none, plainA_v, plain_bool, plain_int, plain_str, Bool.false_eq_true, if_false]
    rw [ct_eq]
    refine ⟨fun h => ?_, fun h => ?_⟩
    · have hil : i < l.length := by simpa using h
      have hz : (byts l)[i]? = some (byt l[i]) := by simp [byts, hil]
      simp -dsimp only [hn, h1, h10, h11, h12, h6, h7, h5, idx22 hx hz rfl, part5, AV.cells, List.getElem?_cons_zero, bin_shl (show (0 : Int) ≤ 8 by decide), byt, conv5_39, left_or' _ _ (UInt8.toNat_lt l[i]), ← Nn_take l i hil, wt_seq, wt_block, wt_region, wt_cond, wt_skip, wt_ret, wt_exit, wst_nil, wst_app_nil, wst_app_cons, wst_cons, wst_guard, andThen_normal, andThen_ret, andThen_exit, leave_normal, leave_ret, leave_exit, EndsA_ret, EndsA_normal, ot_move, ot_assign, ot_pick, ot_binOp, ot_unOp, ot_convert, ot_field, ot_index, ot_indexAddr, ot_fieldAddr, ot_slice, ot_build, ot_buildSlice, ot_extract, ot_makeInterface, ot_makeFunc, ot_nilCheck, ot_call, ot_len, ot_append, ot_box, ot_load, ot_store, ot_makeSlice, ct_bool, ct_true, ct_false, bt_some, gt_some, aval_tmp, aval_int, aval_bool, aval_str, aval_slice, aval_nilPointer, aval_nilIface, aval_func, aval_global, avals, apairs, bareP, AV.bare, AV.bares, bin_lss, bin_leq, bin_gtr, bin_geq, bin_eql, bin_neq, bin_add, bin_sub, bin_mul, bin_and, bin_or, bin_xor, toV_int, toV_bool, toV_string, un_neg, un_not, bin_str_eql, bin_str_neq, bin_str_lss, bin_str_leq, bin_str_gtr, bin_str_geq, aget_aput, length_aput, aput_none, Nat.reduceEqDiff, Nat.reduceLT, Nat.reduceAdd, reduceIte, reduceCtorEq, Bool.not_false, Bool.not_true, Bool.true_or, true_and, Option.bind_some, Option.map_some, List.nil_append, List.cons_append, resA, resA1, resVal, Option.getD_some, Nat.reduceLeDiff, bnd_some, yieldA_eq, yldOf_some, boolOf_bool, boolOf_undef, gt_none, List.getElem?_toArray, List.getElem?_cons_succ, List.getElem?_cons_zero, bq_true, bq_false, decide_true, decide_false, Option.toList_none, Option.toList_some, List.head?_cons, List.head?_nil, nb_cfg, not_false_eq_true, cv_some, pm_some, pm_none, plainA_v, plain_bool, plain_int, plain_str, Bool.false_eq_true, if_false]
      refine wt_loop (m := 8 * i % 6 + 8) (fun m e h => ∃ t n, m = n ∧ n ≤ 13 ∧ 6 * t + n = 8 * (i + 1) ∧ aget e 12 = .v (.int .i64 i) ∧ putI p s l x (i + 1) t n e h) ?_ ?_
      · rintro m e h ⟨t, n, rfl, hm, ht, h12, hn, rfl, h1, h10, h11, h6, h7, h5⟩
        simp -dsimp only [hn, h1, h10, h11, h12, h6, h7, h5, wt_seq, wt_block, wt_region, wt_cond, wt_skip, wt_ret, wt_exit, wst_nil, wst_app_nil, wst_app_cons, wst_cons, wst_guard, andThen_normal, andThen_ret, andThen_exit, leave_normal, leave_ret, leave_exit, EndsA_ret, EndsA_normal, ot_move, ot_assign, ot_pick, ot_binOp, ot_unOp, ot_convert, ot_field, ot_index, ot_indexAddr, ot_fieldAddr, ot_slice, ot_build, ot_buildSlice, ot_extract, ot_makeInterface, ot_makeFunc, ot_nilCheck, ot_call, ot_len, ot_append, ot_box, ot_load, ot_store, ot_makeSlice, ct_bool, ct_true, ct_false, bt_some, gt_some, aval_tmp, aval_int, aval_bool, aval_str, aval_slice, aval_nilPointer, aval_nilIface, aval_func, aval_global, avals, apairs, bareP, AV.bare, AV.bares, bin_lss, bin_leq, bin_gtr, bin_geq, bin_eql, bin_neq, bin_add, bin_sub, bin_mul, bin_and, bin_or, bin_xor, toV_int, toV_bool, toV_string, un_neg, un_not, bin_str_eql, bin_str_neq, bin_str_lss, bin_str_leq, bin_str_gtr, bin_str_geq, aget_aput, length_aput, aput_none, Nat.reduceEqDiff, Nat.reduceLT, Nat.reduceAdd, reduceIte, reduceCtorEq, Bool.not_false, Bool.not_true, Bool.true_or, true_and, Option.bind_some, Option.map_some, List.nil_append, List.cons_append, resA, resA1, resVal, Option.getD_some, Nat.reduceLeDiff, bnd_some, yieldA_eq, yldOf_some, boolOf_bool, boolOf_undef, gt_none, List.getElem?_toArray, List.getElem?_cons_succ, List.getElem?_cons_zero, bq_true, bq_false, decide_true, decide_false, Option.toList_none, Option.toList_some, List.head?_cons, List.head?_nil, nb_cfg, not_false_eq_true, cv_some, pm_some, pm_none, plainA_v, plain_bool, plain_int, plain_str, Bool.false_eq_true, if_false]
        rw [ct_eq]
        refine ⟨fun h => ?_, fun h => ?_⟩
        · have hm6 : 6 ≤ m := by simp at h; omega
          obtain ⟨k, rfl⟩ : ∃ k, m = k + 6 := ⟨m - 6, by omega⟩
          have e1 : IntKind.u64.wrap (((k + 6 : Nat) : Int) - 6) = (k : Int) := by
            rw [show (((k + 6 : Nat) : Int) - 6) = (k : Int) by omega]; exact w64 (by omega) (by omega)
          simp -dsimp only [hn, h1, h10, h11, h12, h6, h7, h5, e1, bin_shr (show (0 : Int) ≤ (k : Int) by omega), conv39_5, six_of' _ k (show k + 6 ≤ 64 by omega), ct_prim prim1_32, sg_call p s _ k (by omega), byt, bs22, app22 (x := AV.v (.int .u8 (sg p s (Nn (l.take (i + 1)) / 2 ^ k % 64)).toNat)) (f := true) rfl (sized_byts (outs p s t (Nn (l.take (i + 1)) / 2 ^ (k + 6)))) (by simp only [byts, List.length_map, outs_length]; omega), wt_seq, wt_block, wt_region, wt_cond, wt_skip, wt_ret, wt_exit, wst_nil, wst_app_nil, wst_app_cons, wst_cons, wst_guard, andThen_normal, andThen_ret, andThen_exit, leave_normal, leave_ret, leave_exit, EndsA_ret, EndsA_normal, ot_move, ot_assign, ot_pick, ot_binOp, ot_unOp, ot_convert, ot_field, ot_index, ot_indexAddr, ot_fieldAddr, ot_slice, ot_build, ot_buildSlice, ot_extract, ot_makeInterface, ot_makeFunc, ot_nilCheck, ot_call, ot_len, ot_append, ot_box, ot_load, ot_store, ot_makeSlice, ct_bool, ct_true, ct_false, bt_some, gt_some, aval_tmp, aval_int, aval_bool, aval_str, aval_slice, aval_nilPointer, aval_nilIface, aval_func, aval_global, avals, apairs, bareP, AV.bare, AV.bares, bin_lss, bin_leq, bin_gtr, bin_geq, bin_eql, bin_neq, bin_add, bin_sub, bin_mul, bin_and, bin_or, bin_xor, toV_int, toV_bool, toV_string, un_neg, un_not, bin_str_eql, bin_str_neq, bin_str_lss, bin_str_leq, bin_str_gtr, bin_str_geq, aget_aput, length_aput, aput_none, Nat.reduceEqDiff, Nat.reduceLT, Nat.reduceAdd, reduceIte, reduceCtorEq, Bool.not_false, Bool.not_true, Bool.true_or, true_and, Option.bind_some, Option.map_some, List.nil_append, List.cons_append, resA, resA1, resVal, Option.getD_some, Nat.reduceLeDiff, bnd_some, yieldA_eq, yldOf_some, boolOf_bool, boolOf_undef, gt_none, List.getElem?_toArray, List.getElem?_cons_succ, List.getElem?_cons_zero, bq_true, bq_false, decide_true, decide_false, Option.toList_none, Option.toList_some, List.head?_cons, List.head?_nil, nb_cfg, not_false_eq_true, cv_some, pm_some, pm_none, plainA_v, plain_bool, plain_int, plain_str, Bool.false_eq_true, if_false]
          refine ⟨k, by omega, t + 1, k, rfl, by omega, by omega, ⟨?_, ?_, ?_, ?_, ?_, ?_, ?_, ?_⟩⟩
          any_goals simp -dsimp only [hn, h1, h10, h11, h12, h6, wt_seq, wt_block, wt_region, wt_cond, wt_skip, wt_ret, wt_exit, wst_nil, wst_app_nil, wst_app_cons, wst_cons, wst_guard, andThen_normal, andThen_ret, andThen_exit, leave_normal, leave_ret, leave_exit, EndsA_ret, EndsA_normal, ot_move, ot_assign, ot_pick, ot_binOp, ot_unOp, ot_convert, ot_field, ot_index, ot_indexAddr, ot_fieldAddr, ot_slice, ot_build, ot_buildSlice, ot_extract, ot_makeInterface, ot_makeFunc, ot_nilCheck, ot_call, ot_len, ot_append, ot_box, ot_load, ot_store, ot_makeSlice, ct_bool, ct_true, ct_false, bt_some, gt_some, aval_tmp, aval_int, aval_bool, aval_str, aval_slice, aval_nilPointer, aval_nilIface, aval_func, aval_global, avals, apairs, bareP, AV.bare, AV.bares, bin_lss, bin_leq, bin_gtr, bin_geq, bin_eql, bin_neq, bin_add, bin_sub, bin_mul, bin_and, bin_or, bin_xor, toV_int, toV_bool, toV_string, un_neg, un_not, bin_str_eql, bin_str_neq, bin_str_lss, bin_str_leq, bin_str_gtr, bin_str_geq, aget_aput, length_aput, aput_none, Nat.reduceEqDiff, Nat.reduceLT, Nat.reduceAdd, reduceIte, reduceCtorEq, Bool.not_false, Bool.not_true, Bool.true_or, true_and, Option.bind_some, Option.map_some, List.nil_append, List.cons_append, resA, resA1, resVal, Option.getD_some, Nat.reduceLeDiff, bnd_some, yieldA_eq, yldOf_some, boolOf_bool, boolOf_undef, gt_none, List.getElem?_toArray, List.getElem?_cons_succ, List.getElem?_cons_zero, bq_true, bq_false, decide_true, decide_false, Option.toList_none, Option.toList_some, List.head?_cons, List.head?_nil, nb_cfg, not_false_eq_true, cv_some, pm_some, pm_none, plainA_v, plain_bool, plain_int, plain_str, Bool.false_eq_true, if_false]
          all_goals rw [← outs_next]; rfl
        · simp -dsimp only [hn, h1, h10, h11, h12, h6, h7, h5, wt_seq, wt_block, wt_region, wt_cond, wt_skip, wt_ret, wt_exit, wst_nil, wst_app_nil, wst_app_cons, wst_cons, wst_guard, andThen_normal, andThen_ret, andThen_exit, leave_normal, leave_ret, leave_exit, EndsA_ret, EndsA_normal, ot_move, ot_assign, ot_pick, ot_binOp, ot_unOp, ot_convert, ot_field, ot_index, ot_indexAddr, ot_fieldAddr, ot_slice, ot_build, ot_buildSlice, ot_extract, ot_makeInterface, ot_makeFunc, ot_nilCheck, ot_call, ot_len, ot_append, ot_box, ot_load, ot_store, ot_makeSlice, ct_bool, ct_true, ct_false, bt_some, gt_some, aval_tmp, aval_int, aval_bool, aval_str, aval_slice, aval_nilPointer, aval_nilIface, aval_func, aval_global, avals, apairs, bareP, AV.bare, AV.bares, bin_lss, bin_leq, bin_gtr, bin_geq, bin_eql, bin_neq, bin_add, bin_sub, bin_mul, bin_and, bin_or, bin_xor, toV_int, toV_bool, toV_string, un_neg, un_not, bin_str_eql, bin_str_neq, bin_str_lss, bin_str_leq, bin_str_gtr, bin_str_geq, aget_aput, length_aput, aput_none, Nat.reduceEqDiff, Nat.reduceLT, Nat.reduceAdd, reduceIte, reduceCtorEq, Bool.not_false, Bool.not_true, Bool.true_or, true_and, Option.bind_some, Option.map_some, List.nil_append, List.cons_append, resA, resA1, resVal, Option.getD_some, Nat.reduceLeDiff, bnd_some, yieldA_eq, yldOf_some, boolOf_bool, boolOf_undef, gt_none, List.getElem?_toArray, List.getElem?_cons_succ, List.getElem?_cons_zero, bq_true, bq_false, decide_true, decide_false, Option.toList_none, Option.toList_some, List.head?_cons, List.head?_nil, nb_cfg, not_false_eq_true, cv_some, pm_some, pm_none, plainA_v, plain_bool, plain_int, plain_str, Bool.false_eq_true, if_false]
          have h5' := h
          have hm6 : m ≤ 5 := by simp at h; omega
          have hm : m = 8 * (i + 1) % 6 := by omega
          have ht : t = 8 * (i + 1) / 6 := by omega
          subst hm
          obtain rfl : t = 8 * (i + 1) / 6 := by omega
          have e1 : IntKind.i64.wrap ((i : Int) + 1) = ((i + 1 : Nat) : Int) := wi64 (by omega) (by omega)
          rw [e1]
          refine ⟨l.length - (i + 1), by omega, i + 1, by omega, rfl, ⟨?_, rfl, ?_, ?_, ?_, ?_, ?_, ?_⟩⟩
          all_goals simp -dsimp only [hn, h1, h10, h11, h6, h7, h5, wt_seq, wt_block, wt_region, wt_cond, wt_skip, wt_ret, wt_exit, wst_nil, wst_app_nil, wst_app_cons, wst_cons, wst_guard, andThen_normal, andThen_ret, andThen_exit, leave_normal, leave_ret, leave_exit, EndsA_ret, EndsA_normal, ot_move, ot_assign, ot_pick, ot_binOp, ot_unOp, ot_convert, ot_field, ot_index, ot_indexAddr, ot_fieldAddr, ot_slice, ot_build, ot_buildSlice, ot_extract, ot_makeInterface, ot_makeFunc, ot_nilCheck, ot_call, ot_len, ot_append, ot_box, ot_load, ot_store, ot_makeSlice, ct_bool, ct_true, ct_false, bt_some, gt_some, aval_tmp, aval_int, aval_bool, aval_str, aval_slice, aval_nilPointer, aval_nilIface, aval_func, aval_global, avals, apairs, bareP, AV.bare, AV.bares, bin_lss, bin_leq, bin_gtr, bin_geq, bin_eql, bin_neq, bin_add, bin_sub, bin_mul, bin_and, bin_or, bin_xor, toV_int, toV_bool, toV_string, un_neg, un_not, bin_str_eql, bin_str_neq, bin_str_lss, bin_str_leq, bin_str_gtr, bin_str_geq, aget_aput, length_aput, aput_none, Nat.reduceEqDiff, Nat.reduceLT, Nat.reduceAdd, reduceIte, reduceCtorEq, Bool.not_false, Bool.not_true, Bool.true_or, true_and, Option.bind_some, Option.map_some, List.nil_append, List.cons_append, resA, resA1, resVal, Option.getD_some, Nat.reduceLeDiff, bnd_some, yieldA_eq, yldOf_some, boolOf_bool, boolOf_undef, gt_none, List.getElem?_toArray, List.getElem?_cons_succ, List.getElem?_cons_zero, bq_true, bq_false, decide_true, decide_false, Option.toList_none, Option.toList_some, List.head?_cons, List.head?_nil, nb_cfg, not_false_eq_true, cv_some, pm_some, pm_none, plainA_v, plain_bool, plain_int, plain_str, Bool.false_eq_true, if_false]
      · have e1 : IntKind.u64.wrap (((8 * i % 6 : Nat) : Int) + 8) = ((8 * i % 6 + 8 : Nat) : Int) := w64 (by omega) (by omega)
        refine ⟨8 * i / 6, 8 * i % 6 + 8, rfl, by omega, by omega, ?_, ⟨?_, ?_, ?_, ?_, ?_, ?_, ?_, ?_⟩⟩
        any_goals simp -dsimp only [hn, h1, h10, h11, h12, h6, h7, h5, e1, Nn_div l i _ hil, wt_seq, wt_block, wt_region, wt_cond, wt_skip, wt_ret, wt_exit, wst_nil, wst_app_nil, wst_app_cons, wst_cons, wst_guard, andThen_normal, andThen_ret, andThen_exit, leave_normal, leave_ret, leave_exit, EndsA_ret, EndsA_normal, ot_move, ot_assign, ot_pick, ot_binOp, ot_unOp, ot_convert, ot_field, ot_index, ot_indexAddr, ot_fieldAddr, ot_slice, ot_build, ot_buildSlice, ot_extract, ot_makeInterface, ot_makeFunc, ot_nilCheck, ot_call, ot_len, ot_append, ot_box, ot_load, ot_store, ot_makeSlice, ct_bool, ct_true, ct_false, bt_some, gt_some, aval_tmp, aval_int, aval_bool, aval_str, aval_slice, aval_nilPointer, aval_nilIface, aval_func, aval_global, avals, apairs, bareP, AV.bare, AV.bares, bin_lss, bin_leq, bin_gtr, bin_geq, bin_eql, bin_neq, bin_add, bin_sub, bin_mul, bin_and, bin_or, bin_xor, toV_int, toV_bool, toV_string, un_neg, un_not, bin_str_eql, bin_str_neq, bin_str_lss, bin_str_leq, bin_str_gtr, bin_str_geq, aget_aput, length_aput, aput_none, Nat.reduceEqDiff, Nat.reduceLT, Nat.reduceAdd, reduceIte, reduceCtorEq, Bool.not_false, Bool.not_true, Bool.true_or, true_and, Option.bind_some, Option.map_some, List.nil_append, List.cons_append, resA, resA1, resVal, Option.getD_some, Nat.reduceLeDiff, bnd_some, yieldA_eq, yldOf_some, boolOf_bool, boolOf_undef, gt_none, List.getElem?_toArray, List.getElem?_cons_succ, List.getElem?_cons_zero, bq_true, bq_false, decide_true, decide_false, Option.toList_none, Option.toList_some, List.head?_cons, List.head?_nil, nb_cfg, not_false_eq_true, cv_some, pm_some, pm_none, plainA_v, plain_bool, plain_int, plain_str, Bool.false_eq_true, if_false]
    · simp -dsimp only [hn, h1, h10, h11, h12, h6, h7, h5, wt_seq, wt_block, wt_region, wt_cond, wt_skip, wt_ret, wt_exit, wst_nil, wst_app_nil, wst_app_cons, wst_cons, wst_guard, andThen_normal, andThen_ret, andThen_exit, leave_normal, leave_ret, leave_exit, EndsA_ret, EndsA_normal, ot_move, ot_assign, ot_pick, ot_binOp, ot_unOp, ot_convert, ot_field, ot_index, ot_indexAddr, ot_fieldAddr, ot_slice, ot_build, ot_buildSlice, ot_extract, ot_makeInterface, ot_makeFunc, ot_nilCheck, ot_call, ot_len, ot_append, ot_box, ot_load, ot_store, ot_makeSlice, ct_bool, ct_true, ct_false, bt_some, gt_some, aval_tmp, aval_int, aval_bool, aval_str, aval_slice, aval_nilPointer, aval_nilIface, aval_func, aval_global, avals, apairs, bareP, AV.bare, AV.bares, bin_lss, bin_leq, bin_gtr, bin_geq, bin_eql, bin_neq, bin_add, bin_sub, bin_mul, bin_and, bin_or, bin_xor, toV_int, toV_bool, toV_string, un_neg, un_not, bin_str_eql, bin_str_neq, bin_str_lss, bin_str_leq, bin_str_gtr, bin_str_geq, aget_aput, length_aput, aput_none, Nat.reduceEqDiff, Nat.reduceLT, Nat.reduceAdd, reduceIte, reduceCtorEq, Bool.not_false, Bool.not_true, Bool.true_or, true_and, Option.bind_some, Option.map_some, List.nil_append, List.cons_append, resA, resA1, resVal, Option.getD_some, Nat.reduceLeDiff, bnd_some, yieldA_eq, yldOf_some, boolOf_bool, boolOf_undef, gt_none, List.getElem?_toArray, List.getElem?_cons_succ, List.getElem?_cons_zero, bq_true, bq_false, decide_true, decide_false, Option.toList_none, Option.toList_some, List.head?_cons, List.head?_nil, nb_cfg, not_false_eq_true, cv_some, pm_some, pm_none, plainA_v, plain_bool, plain_int, plain_str, Bool.false_eq_true, if_false]
      have hil : i = l.length := by simp at h; omega
      subst hil
      rw [ct_eq]
      rw [List.take_length] at *
      have hS : (8 * l.length + 5) / 6 = if 0 < 8 * l.length % 6 then 8 * l.length / 6 + 1 else 8 * l.length / 6 := by
        split <;> omega
      refine ⟨fun h => ?_, fun h => ?_⟩
      · have h0 : 0 < 8 * l.length % 6 := by simp at h; omega
        rw [if_pos h0] at hS
        obtain ⟨n, hn'⟩ : ∃ n, n = 6 - 8 * l.length % 6 := ⟨_, rfl⟩
        have e1 : IntKind.u64.wrap (6 - ((8 * l.length % 6 : Nat) : Int)) = (n : Int) := by
          rw [show (6 - ((8 * l.length % 6 : Nat) : Int)) = (n : Int) by omega]; exact w64 (by omega) (by omega)
        simp -dsimp only [hn, h1, h10, h11, h6, h7, h5, e1, bin_shl (show (0 : Int) ≤ (n : Int) by omega), conv39_5, six_left _ n (by omega), ct_prim prim1_32, sg_call p s _ 0 (by omega), byt, bs22, app22 (x := AV.v (.int .u8 (sg p s (Nn l * 2 ^ n / 2 ^ 0 % 64)).toNat)) (f := true) rfl (sized_byts (outs p s (8 * l.length / 6) (Nn l / 2 ^ (8 * l.length % 6)))) (by simp only [byts, List.length_map, outs_length]; omega), wt_seq, wt_block, wt_region, wt_cond, wt_skip, wt_ret, wt_exit, wst_nil, wst_app_nil, wst_app_cons, wst_cons, wst_guard, andThen_normal, andThen_ret, andThen_exit, leave_normal, leave_ret, leave_exit, EndsA_ret, EndsA_normal, ot_move, ot_assign, ot_pick, ot_binOp, ot_unOp, ot_convert, ot_field, ot_index, ot_indexAddr, ot_fieldAddr, ot_slice, ot_build, ot_buildSlice, ot_extract, ot_makeInterface, ot_makeFunc, ot_nilCheck, ot_call, ot_len, ot_append, ot_box, ot_load, ot_store, ot_makeSlice, ct_bool, ct_true, ct_false, bt_some, gt_some, aval_tmp, aval_int, aval_bool, aval_str, aval_slice, aval_nilPointer, aval_nilIface, aval_func, aval_global, avals, apairs, bareP, AV.bare, AV.bares, bin_lss, bin_leq, bin_gtr, bin_geq, bin_eql, bin_neq, bin_add, bin_sub, bin_mul, bin_and, bin_or, bin_xor, toV_int, toV_bool, toV_string, un_neg, un_not, bin_str_eql, bin_str_neq, bin_str_lss, bin_str_leq, bin_str_gtr, bin_str_geq, aget_aput, length_aput, aput_none, Nat.reduceEqDiff, Nat.reduceLT, Nat.reduceAdd, reduceIte, reduceCtorEq, Bool.not_false, Bool.not_true, Bool.true_or, true_and, Option.bind_some, Option.map_some, List.nil_append, List.cons_append, resA, resA1, resVal, Option.getD_some, Nat.reduceLeDiff, bnd_some, yieldA_eq, yldOf_some, boolOf_bool, boolOf_undef, gt_none, List.getElem?_toArray, List.getElem?_cons_succ, List.getElem?_cons_zero, bq_true, bq_false, decide_true, decide_false, Option.toList_none, Option.toList_some, List.head?_cons, List.head?_nil, nb_cfg, not_false_eq_true, cv_some, pm_some, pm_none, plainA_v, plain_bool, plain_int, plain_str, Bool.false_eq_true, if_false]
        have e2 : byts (outs p s (8 * l.length / 6) (Nn l / 2 ^ (8 * l.length % 6))) ++ [AV.v (.int .u8 (sg p s (Nn l * 2 ^ n / 2 ^ 0 % 64)).toNat)] = byts (outs p s (8 * l.length / 6 + 1) (Nn l * 2 ^ n)) := by
          have := outs_next p s (8 * l.length / 6) (Nn l * 2 ^ n) 0
          have e3 : Nn l * 2 ^ n / 2 ^ (0 + 6) = Nn l / 2 ^ (8 * l.length % 6) := by
            rw [show 0 + 6 = n + 8 * l.length % 6 by omega, Nat.pow_add, Nat.mul_comm, Nat.mul_div_mul_left _ _ (Nat.pow_pos (by decide))]
          rw [e3] at this
          rw [Nat.pow_zero, Nat.div_one] at this ⊢
          exact this
        rw [e2, conv22_9]
        simp -dsimp only [hn, wt_seq, wt_block, wt_region, wt_cond, wt_skip, wt_ret, wt_exit, wst_nil, wst_app_nil, wst_app_cons, wst_cons, wst_guard, andThen_normal, andThen_ret, andThen_exit, leave_normal, leave_ret, leave_exit, EndsA_ret, EndsA_normal, ot_move, ot_assign, ot_pick, ot_binOp, ot_unOp, ot_convert, ot_field, ot_index, ot_indexAddr, ot_fieldAddr, ot_slice, ot_build, ot_buildSlice, ot_extract, ot_makeInterface, ot_makeFunc, ot_nilCheck, ot_call, ot_len, ot_append, ot_box, ot_load, ot_store, ot_makeSlice, ct_bool, ct_true, ct_false, bt_some, gt_some, aval_tmp, aval_int, aval_bool, aval_str, aval_slice, aval_nilPointer, aval_nilIface, aval_func, aval_global, avals, apairs, bareP, AV.bare, AV.bares, bin_lss, bin_leq, bin_gtr, bin_geq, bin_eql, bin_neq, bin_add, bin_sub, bin_mul, bin_and, bin_or, bin_xor, toV_int, toV_bool, toV_string, un_neg, un_not, bin_str_eql, bin_str_neq, bin_str_lss, bin_str_leq, bin_str_gtr, bin_str_geq, aget_aput, length_aput, aput_none, Nat.reduceEqDiff, Nat.reduceLT, Nat.reduceAdd, reduceIte, reduceCtorEq, Bool.not_false, Bool.not_true, Bool.true_or, true_and, Option.bind_some, Option.map_some, List.nil_append, List.cons_append, resA, resA1, resVal, Option.getD_some, Nat.reduceLeDiff, bnd_some, yieldA_eq, yldOf_some, boolOf_bool, boolOf_undef, gt_none, List.getElem?_toArray, List.getElem?_cons_succ, List.getElem?_cons_zero, bq_true, bq_false, decide_true, decide_false, Option.toList_none, Option.toList_some, List.head?_cons, List.head?_nil, nb_cfg, not_false_eq_true, cv_some, pm_some, pm_none, plainA_v, plain_bool, plain_int, plain_str, Bool.false_eq_true, if_false]
        refine ⟨1, ?_⟩
        rw [put64, hS, show 6 * (8 * l.length / 6 + 1) - 8 * l.length = n by omega]
        simp [str, AV.thaw]
      · have h0 : 8 * l.length % 6 = 0 := by simp at h; omega
        simp -dsimp only [hn, h1, h10, h11, h6, h7, h5, wt_seq, wt_block, wt_region, wt_cond, wt_skip, wt_ret, wt_exit, wst_nil, wst_app_nil, wst_app_cons, wst_cons, wst_guard, andThen_normal, andThen_ret, andThen_exit, leave_normal, leave_ret, leave_exit, EndsA_ret, EndsA_normal, ot_move, ot_assign, ot_pick, ot_binOp, ot_unOp, ot_convert, ot_field, ot_index, ot_indexAddr, ot_fieldAddr, ot_slice, ot_build, ot_buildSlice, ot_extract, ot_makeInterface, ot_makeFunc, ot_nilCheck, ot_call, ot_len, ot_append, ot_box, ot_load, ot_store, ot_makeSlice, ct_bool, ct_true, ct_false, bt_some, gt_some, aval_tmp, aval_int, aval_bool, aval_str, aval_slice, aval_nilPointer, aval_nilIface, aval_func, aval_global, avals, apairs, bareP, AV.bare, AV.bares, bin_lss, bin_leq, bin_gtr, bin_geq, bin_eql, bin_neq, bin_add, bin_sub, bin_mul, bin_and, bin_or, bin_xor, toV_int, toV_bool, toV_string, un_neg, un_not, bin_str_eql, bin_str_neq, bin_str_lss, bin_str_leq, bin_str_gtr, bin_str_geq, aget_aput, length_aput, aput_none, Nat.reduceEqDiff, Nat.reduceLT, Nat.reduceAdd, reduceIte, reduceCtorEq, Bool.not_false, Bool.not_true, Bool.true_or, true_and, Option.bind_some, Option.map_some, List.nil_append, List.cons_append, resA, resA1, resVal, Option.getD_some, Nat.reduceLeDiff, bnd_some, yieldA_eq, yldOf_some, boolOf_bool, boolOf_undef, gt_none, List.getElem?_toArray, List.getElem?_cons_succ, List.getElem?_cons_zero, bq_true, bq_false, decide_true, decide_false, Option.toList_none, Option.toList_some, List.head?_cons, List.head?_nil, nb_cfg, not_false_eq_true, cv_some, pm_some, pm_none, plainA_v, plain_bool, plain_int, plain_str, Bool.false_eq_true, if_false]
        rw [conv22_9]
        simp -dsimp only [hn, wt_seq, wt_block, wt_region, wt_cond, wt_skip, wt_ret, wt_exit, wst_nil, wst_app_nil, wst_app_cons, wst_cons, wst_guard, andThen_normal, andThen_ret, andThen_exit, leave_normal, leave_ret, leave_exit, EndsA_ret, EndsA_normal, ot_move, ot_assign, ot_pick, ot_binOp, ot_unOp, ot_convert, ot_field, ot_index, ot_indexAddr, ot_fieldAddr, ot_slice, ot_build, ot_buildSlice, ot_extract, ot_makeInterface, ot_makeFunc, ot_nilCheck, ot_call, ot_len, ot_append, ot_box, ot_load, ot_store, ot_makeSlice, ct_bool, ct_true, ct_false, bt_some, gt_some, aval_tmp, aval_int, aval_bool, aval_str, aval_slice, aval_nilPointer, aval_nilIface, aval_func, aval_global, avals, apairs, bareP, AV.bare, AV.bares, bin_lss, bin_leq, bin_gtr, bin_geq, bin_eql, bin_neq, bin_add, bin_sub, bin_mul, bin_and, bin_or, bin_xor, toV_int, toV_bool, toV_string, un_neg, un_not, bin_str_eql, bin_str_neq, bin_str_lss, bin_str_leq, bin_str_gtr, bin_str_geq, aget_aput, length_aput, aput_none, Nat.reduceEqDiff, Nat.reduceLT, Nat.reduceAdd, reduceIte, reduceCtorEq, Bool.not_false, Bool.not_true, Bool.true_or, true_and, Option.bind_some, Option.map_some, List.nil_append, List.cons_append, resA, resA1, resVal, Option.getD_some, Nat.reduceLeDiff, bnd_some, yieldA_eq, yldOf_some, boolOf_bool, boolOf_undef, gt_none, List.getElem?_toArray, List.getElem?_cons_succ, List.getElem?_cons_zero, bq_true, bq_false, decide_true, decide_false, Option.toList_none, Option.toList_some, List.head?_cons, List.head?_nil, nb_cfg, not_false_eq_true, cv_some, pm_some, pm_none, plainA_v, plain_bool, plain_int, plain_str, Bool.false_eq_true, if_false]
        refine ⟨1, ?_⟩
        rw [put64, hS, if_neg (by omega), h0, show 6 * (8 * l.length / 6) - 8 * l.length = 0 by omega]
        simp [str, AV.thaw]
  · refine ⟨0, by omega, ?_, ⟨?_, ?_, ?_, ?_, ?_, ?_, ?_, ?_⟩⟩
    any_goals simp -dsimp only [hn, h0, h1, wt_seq, wt_block, wt_region, wt_cond, wt_skip, wt_ret, wt_exit, wst_nil, wst_app_nil, wst_app_cons, wst_cons, wst_guard, andThen_normal, andThen_ret, andThen_exit, leave_normal, leave_ret, leave_exit, EndsA_ret, EndsA_normal, ot_move, ot_assign, ot_pick, ot_binOp, ot_unOp, ot_convert, ot_field, ot_index, ot_indexAddr, ot_fieldAddr, ot_slice, ot_build, ot_buildSlice, ot_extract, ot_makeInterface, ot_makeFunc, ot_nilCheck, ot_call, ot_len, ot_append, ot_box, ot_load, ot_store, ot_makeSlice, ct_bool, ct_true, ct_false, bt_some, gt_some, aval_tmp, aval_int, aval_bool, aval_str, aval_slice, aval_nilPointer, aval_nilIface, aval_func, aval_global, avals, apairs, bareP, AV.bare, AV.bares, bin_lss, bin_leq, bin_gtr, bin_geq, bin_eql, bin_neq, bin_add, bin_sub, bin_mul, bin_and, bin_or, bin_xor, toV_int, toV_bool, toV_string, un_neg, un_not, bin_str_eql, bin_str_neq, bin_str_lss, bin_str_leq, bin_str_gtr, bin_str_geq, aget_aput, length_aput, aput_none, Nat.reduceEqDiff, Nat.reduceLT, Nat.reduceAdd, reduceIte, reduceCtorEq, Bool.not_false, Bool.not_true, Bool.true_or, true_and, Option.bind_some, Option.map_some, List.nil_append, List.cons_append, resA, resA1, resVal, Option.getD_some, Nat.reduceLeDiff, bnd_some, yieldA_eq, yldOf_some, boolOf_bool, boolOf_undef, gt_none, List.getElem?_toArray, List.getElem?_cons_succ, List.getElem?_cons_zero, bq_true, bq_false, decide_true, decide_false, Option.toList_none, Option.toList_some, List.head?_cons, List.head?_nil, nb_cfg, not_false_eq_true, cv_some, pm_some, pm_none, plainA_v, plain_bool, plain_int, plain_str, Bool.false_eq_true, if_false]
    all_goals simp [Nn, Digs.val, outs, Digs.digs, byts, gsl, ghp]
end Go.Proofs.YtonmpbfddiflhaaDoor

namespace Go.Proofs.YtonmpbfddiflhaaDoor
open Go.AM
/-- A sign's number; 64: none. -/
def nm (p s c : UInt8) : Nat := (numN p.toNat s.toNat c.toNat).toNat
theorem numN_nm (p s c : UInt8) : numN p.toNat s.toNat c.toNat = (nm p s c : Int) ∧ nm p s c ≤ 64 := by
  unfold nm numN
  split
  · rename_i n h
    have := List.find?_range_eq_some.1 h
    have h2 : n < 64 := by simpa using this.2.1
    exact ⟨by simp, by simp; omega⟩
  · exact ⟨rfl, Nat.le_refl 64⟩
/-- What texts say. -/
def get64 (p s : UInt8) (l : List UInt8) : Option (List UInt8) :=
  if (l.map (nm p s)).all (fun n => decide (n < 64)) = true ∧ 6 * l.length % 8 < 6 ∧ Digs.val 64 (l.map (nm p s)) % 2 ^ (6 * l.length % 8) = 0 then some ((Digs.digs 256 (6 * l.length / 8) (Digs.val 64 (l.map (nm p s)) / 2 ^ (6 * l.length % 8))).map UInt8.ofNat) else none
def getR : Option (List UInt8) → AV
  | some l => .tup [bsl l, .v (.int .i64 0)]
  | none => .tup [.v (.slice none 0 0), .v (.int .i64 2)]
def putP : List AV → Option AV
  | [x, .fn (.func 32) [.agg [a, b]] []] => match dB x, decByte a, decByte b with
    | some l, some p, some s => if l.length < 2 ^ 40 then some (str (put64 p s l)) else none
    | _, _, _ => none
  | _ => none
def numP : List AV → Option AV
  | [.agg [a, b], c] => match decByte a, decByte b, decByte c with
    | some p, some s, some c => some (.v (.int .u8 (nm p s c)))
    | _, _, _ => none
  | _ => none
theorem putP_eq {x : AV} {l : List UInt8} {p s : UInt8} (h : elems x = some (byts l)) (hl : l.length < 2 ^ 40) : putP [x, .fn (.func 32) [.agg [.v (.int .u8 p.toNat), .v (.int .u8 s.toNat)]] []] = some (str (put64 p s l)) := by
  have h1 := dec_byt p
  have h2 := dec_byt s
  unfold byt at h1 h2
  simp only [putP, dB_iff.2 h, h1, h2, hl, if_true]
theorem numP_eq {p s c : UInt8} : numP [.agg [.v (.int .u8 p.toNat), .v (.int .u8 s.toNat)], .v (.int .u8 c.toNat)] = some (.v (.int .u8 (nm p s c))) := by
  have h1 := dec_byt p
  have h2 := dec_byt s
  have h3 := dec_byt c
  unfold byt at h1 h2 h3
  simp only [numP, h1, h2, h3]
theorem putP_ok {xs : List AV} {r : AV} (h : putP xs = some r) : PureOk (cfgP prim1) 31 xs r := by
  unfold putP at h
  split at h
  · rename_i x a b
    split at h
    · rename_i l p s h1 h2 h3
      split at h
      · rename_i hl
        injection h with h; subst h
        rw [decByte_iff] at h2 h3
        subst h2 h3
        exact put_ok p s l x (dB_iff.1 h1) hl
      · cases h
    · cases h
  · cases h
theorem numP_ok {xs : List AV} {r : AV} (h : numP xs = some r) : PureOk (cfgP prim1) 34 xs r := by
  unfold numP at h
  split at h
  · rename_i a b c
    split at h
    · rename_i p s c' h1 h2 h3
      injection h with h; subst h
      rw [decByte_iff] at h1 h2 h3
      subst h1 h2 h3
      have := number_ok p.toNat s.toNat c'.toNat
      rw [(numN_nm p s c').1] at this
      exact this
    · cases h
  · cases h
theorem prim_at {prim prim' : FuncId → Option (List AV → Option AV)} {f : FuncId} {fn : Func} {p : List AV → Option AV} (hf : Tryd.prog.funcs[f]? = some fn) (hn : (fn.name == "runtime.NumGoroutine") = false) (hb : fn.body.isSome = true) (h : ∀ xs r, p xs = some r → PureOk (cfgP prim) f xs r) : PrimOk (cfgP prim') f p :=
  .inl ⟨⟨fn, hf, hn, hb⟩, fun xs r hx => pureOk_prim (h xs r hx)⟩
def prim2 : FuncId → Option (List AV → Option AV) := fun f => if f = 32 then some signP else if f = 31 then some putP else if f = 34 then some numP else none
theorem cok2 : (cfgP prim2).Ok := cfgOf_ok mixed fok (fun f p h => by
  simp only [prim2] at h
  split at h
  · rename_i hf
    injection h with h; subst h; subst hf
    exact prim_at Tryd.func32 (by kernel_rfl) rfl (fun _ _ h => signP_ok h)
  split at h
  · rename_i hf
    injection h with h; subst h; subst hf
    exact prim_at Tryd.func31 (by kernel_rfl) rfl (fun _ _ h => putP_ok h)
  split at h
  · rename_i hf
    injection h with h; subst h; subst hf
    exact prim_at Tryd.func34 (by kernel_rfl) rfl (fun _ _ h => numP_ok h)
  · cases h)
theorem prim2_31 : (cfgP prim2).prim 31 = some putP := rfl
theorem prim2_34 : (cfgP prim2).prim 34 = some numP := rfl
end Go.Proofs.YtonmpbfddiflhaaDoor

namespace Go.Proofs.YtonmpbfddiflhaaDoor
open Go.AM
section
variable {prim : FuncId → Option (List AV → Option AV)}
theorem len9 {l : List UInt8} : lenA (cfgP prim) #[9] [str l] = some (.v (.int .i64 l.length)) := len_str (by kernel_rfl)
theorem index9 {l : List UInt8} {k : IntKind} {i : Nat} (h : i < l.length) : indexA (cfgP prim) 9 (str l) (.v (.int k i)) = some (byt l[i]) := index_str (by kernel_rfl) (by omega) (by simpa using h)
end
def V (p s : UInt8) (l : List UInt8) : Nat := Digs.val 64 (l.map (nm p s))
theorem V_take (p s : UInt8) (l : List UInt8) (i : Nat) (h : i < l.length) : V p s (l.take (i + 1)) = V p s (l.take i) * 64 + nm p s l[i] := by
  unfold V
  rw [List.take_succ_eq_append_getElem h, List.map_append, List.map_singleton, Digs.val_concat]
/-- The bytes that are out. -/
def outB (t v : Nat) : List UInt8 := (Digs.digs 256 t v).map UInt8.ofNat
theorem outB_succ (t v : Nat) : outB (t + 1) v = outB t (v / 256) ++ [UInt8.ofNat (v % 256)] := by simp [outB, Digs.digs]
theorem outB_length (t v : Nat) : (outB t v).length = t := by simp [outB, Digs.digs_length]
/-- Six bits more. -/
theorem left_or6 (a c : Nat) (hc : c < 64) : IntKind.u64.wrap ((BitVec.ofInt IntKind.u64.bits (IntKind.u64.wrap (((a % 2 ^ 64 : Nat) : Int) * 2 ^ min (6 : Int).toNat IntKind.u64.bits)) ||| BitVec.ofInt IntKind.u64.bits (IntKind.u64.wrap ((c : Nat) : Int))).toNat : Nat) = (((a * 64 + c) % 2 ^ 64 : Nat) : Int) := by
  have e1 : ((a % 2 ^ 64 : Nat) : Int) * 2 ^ min (6 : Int).toNat IntKind.u64.bits = ((a % 2 ^ 64 * 64 : Nat) : Int) := by
    have : min (6 : Int).toNat IntKind.u64.bits = 6 := by decide
    rw [this, show ((2 : Int) ^ 6) = ((64 : Nat) : Int) from rfl, ← Int.natCast_mul]
  rw [e1, wrap64, wrap64, wrap64]
  congr 1
  rw [show IntKind.u64.bits = 64 from rfl]
  simp only [BitVec.ofInt_natCast, BitVec.toNat_or, BitVec.toNat_ofNat]
  have h1 : a % 2 ^ 64 * 64 % 2 ^ 64 % 2 ^ 64 = (a % 2 ^ 58) * 2 ^ 6 := by omega
  have h2 : c % 2 ^ 64 % 2 ^ 64 = c := by omega
  rw [h1, h2, ← Nat.shiftLeft_eq, ← Nat.shiftLeft_add_eq_or_of_lt (by omega : c < 2 ^ 6), Nat.shiftLeft_eq]
  omega
/-- Eight bits of it. -/
theorem eight_of (a n : Nat) (hn : n + 8 ≤ 64) : IntKind.u8.wrap (((a % 2 ^ 64 : Nat) : Int).fdiv (2 ^ min ((n : Nat) : Int).toNat IntKind.u64.bits)) = ((UInt8.ofNat (a / 2 ^ n % 256)).toNat : Int) := by
  have e0 : min ((n : Nat) : Int).toNat IntKind.u64.bits = n := by
    rw [show IntKind.u64.bits = 64 from rfl]; omega
  have e1 : ((a % 2 ^ 64 : Nat) : Int).fdiv (2 ^ n) = ((a % 2 ^ 64 / 2 ^ n : Nat) : Int) := by
    rw [show (2 : Int) ^ n = ((2 ^ n : Nat) : Int) by rw [Int.natCast_pow]; rfl, Int.fdiv_eq_ediv_of_nonneg _ (Int.natCast_nonneg _)]; rfl
  rw [e0, e1, wrap8, UInt8.toNat_ofNat']
  congr 1
  have : (2 : Nat) ^ 64 = 2 ^ n * 2 ^ (64 - n) := by rw [← Nat.pow_add]; congr 1; omega
  rw [this, Nat.mod_mul_right_div_self]
  have : (256 : Nat) ∣ 2 ^ (64 - n) := ⟨2 ^ (56 - n), by rw [show (256 : Nat) = 2 ^ 8 from rfl, ← Nat.pow_add]; congr 1; omega⟩
  rw [Nat.mod_mod_of_dvd _ this]
  omega
theorem V_div (p s : UInt8) (l : List UInt8) (i n : Nat) (h : i < l.length) (hc : nm p s l[i] < 64) : V p s (l.take (i + 1)) / 2 ^ (n + 6) = V p s (l.take i) / 2 ^ n := by
  rw [V_take p s l i h, Nat.pow_add, Nat.mul_comm (2 ^ n), ← Nat.div_div_eq_div_mul]
  congr 1
  rw [show (2 : Nat) ^ 6 = 64 from rfl]
  omega
theorem outB_next (t a n : Nat) : byts (outB t (a / 2 ^ (n + 8))) ++ [byt (UInt8.ofNat (a / 2 ^ n % 256))] = byts (outB (t + 1) (a / 2 ^ n)) := by
  rw [outB_succ, byts_snoc, Nat.pow_add, ← Nat.div_div_eq_div_mul]
theorem get64_none {p s : UInt8} {l : List UInt8} {i : Nat} (h : i < l.length) (hc : nm p s l[i] = 64) : get64 p s l = none := by
  unfold get64
  rw [if_neg]
  rintro ⟨h1, _⟩
  rw [List.all_eq_true] at h1
  have := h1 (nm p s l[i]) (List.mem_map.2 ⟨_, List.getElem_mem h, rfl⟩)
  simp [hc] at this
theorem thaw_getR (H : Hp) (l : List UInt8) : (AV.tup [gsl (byts l), .v (.int .i64 0)]).thaw H 4 = some (getR (some l)) := by cases l <;> rfl
structure getI (p s : UInt8) (l : List UInt8) (i t n : Nat) (e : Env) (h : Hp) : Prop where
  len : e.length = 53
  hp : h = ghp 5 (byts (outB t (V p s (l.take i) / 2 ^ n)))
  a0 : aget e 0 = str l
  a1 : aget e 1 = .fn (.func 34) [.agg [.v (.int .u8 p.toNat), .v (.int .u8 s.toNat)]] []
  a12 : aget e 12 = .v (.int .i64 l.length)
  a7 : aget e 7 = .v (.int .u64 (V p s (l.take i) % 2 ^ 64 : Nat))
  a8 : aget e 8 = .v (.int .u64 n)
  a6 : aget e 6 = gsl (byts (outB t (V p s (l.take i) / 2 ^ n)))
  small : ∀ c ∈ l.take i, nm p s c < 64
theorem get_ok (p s : UInt8) (l : List UInt8) (hl : l.length < 2 ^ 40) :
    PureOk (cfgP prim2) 33 [str l, .fn (.func 34) [.agg [.v (.int .u8 p.toNat), .v (.int .u8 s.toNat)]] []] (getR (get64 p s l)) := by
  refine pure_of_wk (call := noCall) (fn := Tryd.f33) (rs := [.tmp 4, .tmp 5]) cok2 noCall_ok (fns_cfg Tryd.func33 rfl) rfl rfl ?_
  intro env hl0 ha
  have hn : env.length = 53 := hl0
  have h0 := ha 0 _ rfl
  have h1 := ha 1 _ rfl
  clear ha hl0
  refine wkT_of ?_
  simp -dsimp only [hn, h0, h1, len9, wt_seq, wt_block, wt_region, wt_cond, wt_skip, wt_ret, wt_exit, wst_nil, wst_app_nil, wst_app_cons, wst_cons, wst_guard, andThen_normal, andThen_ret, andThen_exit, leave_normal, leave_ret, leave_exit, EndsA_ret, EndsA_normal, ot_move, ot_assign, ot_pick, ot_binOp, ot_unOp, ot_convert, ot_field, ot_index, ot_indexAddr, ot_fieldAddr, ot_slice, ot_build, ot_buildSlice, ot_extract, ot_makeInterface, ot_makeFunc, ot_nilCheck, ot_call, ot_len, ot_append, ot_box, ot_load, ot_store, ot_makeSlice, ct_bool, ct_true, ct_false, bt_some, gt_some, aval_tmp, aval_int, aval_bool, aval_str, aval_slice, aval_nilPointer, aval_nilIface, aval_func, aval_global, avals, apairs, bareP, AV.bare, AV.bares, bin_lss, bin_leq, bin_gtr, bin_geq, bin_eql, bin_neq, bin_add, bin_sub, bin_mul, bin_and, bin_or, bin_xor, toV_int, toV_bool, toV_string, un_neg, un_not, bin_str_eql, bin_str_neq, bin_str_lss, bin_str_leq, bin_str_gtr, bin_str_geq, aget_aput, length_aput, aput_none, Nat.reduceEqDiff, Nat.reduceLT, Nat.reduceAdd, reduceIte, reduceCtorEq, Bool.not_false, Bool.not_true, Bool.true_or, true_and, Option.bind_some, Option.map_some, List.nil_append, List.cons_append, resA, resA1, resVal, Option.getD_some, Nat.reduceLeDiff, bnd_some, yieldA_eq, yldOf_some, boolOf_bool, boolOf_undef, gt_none, List.getElem?_toArray, List.getElem?_cons_succ, List.getElem?_cons_zero, bq_true, bq_false, decide_true, decide_false, Option.toList_none, Option.toList_some, List.head?_cons, List.head?_nil, nb_cfg, not_false_eq_true, cv_some, pm_some, pm_none, plainA_v, plain_bool, plain_int, plain_str, Bool.false_eq_true, if_false]
  refine wt_loop (m := l.length) (fun m e h => ∃ i, i + m = l.length ∧ aget e 13 = .v (.int .i64 i) ∧ getI p s l i (6 * i / 8) (6 * i % 8) e h) ?_ ?_
  · rintro m e h ⟨i, hi, h13, hn, rfl, h0, h1, h12, h7, h8, h6, hs⟩
    simp -dsimp only [hn, h0, h1, h12, h13, h6, h7, h8, wt_seq, wt_block, wt_region, wt_cond, wt_skip, wt_ret, wt_exit, wst_nil, wst_app_nil, wst_app_cons, wst_cons, wst_guard, andThen_normal, andThen_ret, andThen_exit, leave_normal, leave_ret, leave_exit, EndsA_ret, EndsA_normal, ot_move, ot_assign, ot_pick, ot_binOp, ot_unOp, ot_convert, ot_field, ot_index, ot_indexAddr, ot_fieldAddr, ot_slice, ot_build, ot_buildSlice, ot_extract, ot_makeInterface, ot_makeFunc, ot_nilCheck, ot_call, ot_len, ot_append, ot_box, ot_load, ot_store, ot_makeSlice, ct_bool, ct_true, ct_false, bt_some, gt_some, aval_tmp, aval_int, aval_bool, aval_str, aval_slice, aval_nilPointer, aval_nilIface, aval_func, aval_global, avals, apairs, bareP, AV.bare, AV.bares, bin_lss, bin_leq, bin_gtr, bin_geq, bin_eql, bin_neq, bin_add, bin_sub, bin_mul, bin_and, bin_or, bin_xor, toV_int, toV_bool, toV_string, un_neg, un_not, bin_str_eql, bin_str_neq, bin_str_lss, bin_str_leq, bin_str_gtr, bin_str_geq, aget_aput, length_aput, aput_none, Nat.reduceEqDiff, Nat.reduceLT, Nat.reduceAdd, reduceIte, reduceCtorEq, Bool.not_false, Bool.not_true, Bool.true_or, true_and, Option.bind_some, Option.map_some, List.nil_append, List.cons_append, resA, resA1, resVal, Option.getD_some, Nat.reduceLeDiff, bnd_some, yieldA_eq, yldOf_some, boolOf_bool, boolOf_undef, gt_none, List.getElem?_toArray, List.getElem?_cons_succ, List.getElem?_cons_zero, bq_true, bq_false, decide_true, decide_false, Option.toList_none, Option.toList_some, List.head?_cons, List.head?_nil, nb_cfg, not_false_eq_true, cv_some, pm_some, pm_none, plainA_v, plain_bool, plain_int, plain_str, Bool.false_eq_true, if_false]
    rw [ct_eq]
    refine ⟨fun h => ?_, fun h => ?_⟩
    · have hil : i < l.length := by simpa using h
      simp -dsimp only [hn, h0, h1, h12, h13, h6, h7, h8, index9 hil, ct_prim prim2_34, numP_eq, byt, wt_seq, wt_block, wt_region, wt_cond, wt_skip, wt_ret, wt_exit, wst_nil, wst_app_nil, wst_app_cons, wst_cons, wst_guard, andThen_normal, andThen_ret, andThen_exit, leave_normal, leave_ret, leave_exit, EndsA_ret, EndsA_normal, ot_move, ot_assign, ot_pick, ot_binOp, ot_unOp, ot_convert, ot_field, ot_index, ot_indexAddr, ot_fieldAddr, ot_slice, ot_build, ot_buildSlice, ot_extract, ot_makeInterface, ot_makeFunc, ot_nilCheck, ot_call, ot_len, ot_append, ot_box, ot_load, ot_store, ot_makeSlice, ct_bool, ct_true, ct_false, bt_some, gt_some, aval_tmp, aval_int, aval_bool, aval_str, aval_slice, aval_nilPointer, aval_nilIface, aval_func, aval_global, avals, apairs, bareP, AV.bare, AV.bares, bin_lss, bin_leq, bin_gtr, bin_geq, bin_eql, bin_neq, bin_add, bin_sub, bin_mul, bin_and, bin_or, bin_xor, toV_int, toV_bool, toV_string, un_neg, un_not, bin_str_eql, bin_str_neq, bin_str_lss, bin_str_leq, bin_str_gtr, bin_str_geq, aget_aput, length_aput, aput_none, Nat.reduceEqDiff, Nat.reduceLT, Nat.reduceAdd, reduceIte, reduceCtorEq, Bool.not_false, Bool.not_true, Bool.true_or, true_and, Option.bind_some, Option.map_some, List.nil_append, List.cons_append, resA, resA1, resVal, Option.getD_some, Nat.reduceLeDiff, bnd_some, yieldA_eq, yldOf_some, boolOf_bool, boolOf_undef, gt_none, List.getElem?_toArray, List.getElem?_cons_succ, List.getElem?_cons_zero, bq_true, bq_false, decide_true, decide_false, Option.toList_none, Option.toList_some, List.head?_cons, List.head?_nil, nb_cfg, not_false_eq_true, cv_some, pm_some, pm_none, plainA_v, plain_bool, plain_int, plain_str, Bool.false_eq_true, if_false]
      rw [ct_eq]
      refine ⟨fun h => ?_, fun h => ?_⟩
      · simp -dsimp only [hn, h0, h1, h12, h13, h6, h7, h8, wt_seq, wt_block, wt_region, wt_cond, wt_skip, wt_ret, wt_exit, wst_nil, wst_app_nil, wst_app_cons, wst_cons, wst_guard, andThen_normal, andThen_ret, andThen_exit, leave_normal, leave_ret, leave_exit, EndsA_ret, EndsA_normal, ot_move, ot_assign, ot_pick, ot_binOp, ot_unOp, ot_convert, ot_field, ot_index, ot_indexAddr, ot_fieldAddr, ot_slice, ot_build, ot_buildSlice, ot_extract, ot_makeInterface, ot_makeFunc, ot_nilCheck, ot_call, ot_len, ot_append, ot_box, ot_load, ot_store, ot_makeSlice, ct_bool, ct_true, ct_false, bt_some, gt_some, aval_tmp, aval_int, aval_bool, aval_str, aval_slice, aval_nilPointer, aval_nilIface, aval_func, aval_global, avals, apairs, bareP, AV.bare, AV.bares, bin_lss, bin_leq, bin_gtr, bin_geq, bin_eql, bin_neq, bin_add, bin_sub, bin_mul, bin_and, bin_or, bin_xor, toV_int, toV_bool, toV_string, un_neg, un_not, bin_str_eql, bin_str_neq, bin_str_lss, bin_str_leq, bin_str_gtr, bin_str_geq, aget_aput, length_aput, aput_none, Nat.reduceEqDiff, Nat.reduceLT, Nat.reduceAdd, reduceIte, reduceCtorEq, Bool.not_false, Bool.not_true, Bool.true_or, true_and, Option.bind_some, Option.map_some, List.nil_append, List.cons_append, resA, resA1, resVal, Option.getD_some, Nat.reduceLeDiff, bnd_some, yieldA_eq, yldOf_some, boolOf_bool, boolOf_undef, gt_none, List.getElem?_toArray, List.getElem?_cons_succ, List.getElem?_cons_zero, bq_true, bq_false, decide_true, decide_false, Option.toList_none, Option.toList_some, List.head?_cons, List.head?_nil, nb_cfg, not_false_eq_true, cv_some, pm_some, pm_none, plainA_v, plain_bool, plain_int, plain_str, Bool.false_eq_true, if_false]
        have hc : nm p s l[i] = 64 := by
          simp at h; omega
        exact ⟨5, by rw [get64_none hil hc]; rfl⟩
      · have hc : nm p s l[i] < 64 := by
          have := (numN_nm p s l[i]).2
          simp at h
          omega
        have e1 : IntKind.u64.wrap (((6 * i % 8 : Nat) : Int) + 6) = ((6 * i % 8 + 6 : Nat) : Int) := w64 (by omega) (by omega)
        have e3 : IntKind.i64.wrap ((i : Int) + 1) = ((i + 1 : Nat) : Int) := wi64 (by omega) (by omega)
        have hs' : ∀ c ∈ l.take (i + 1), nm p s c < 64 := by
          intro c hc'
          rw [List.take_succ_eq_append_getElem hil, List.mem_append, List.mem_singleton] at hc'
          rcases hc' with hc' | rfl
          · exact hs c hc'
          · exact hc
        simp -dsimp only [hn, h0, h1, h12, h13, h6, h7, h8, bin_shl (show (0 : Int) ≤ 6 by decide), conv5_39, left_or6 _ _ hc, ← V_take p s l i hil, e1, wt_seq, wt_block, wt_region, wt_cond, wt_skip, wt_ret, wt_exit, wst_nil, wst_app_nil, wst_app_cons, wst_cons, wst_guard, andThen_normal, andThen_ret, andThen_exit, leave_normal, leave_ret, leave_exit, EndsA_ret, EndsA_normal, ot_move, ot_assign, ot_pick, ot_binOp, ot_unOp, ot_convert, ot_field, ot_index, ot_indexAddr, ot_fieldAddr, ot_slice, ot_build, ot_buildSlice, ot_extract, ot_makeInterface, ot_makeFunc, ot_nilCheck, ot_call, ot_len, ot_append, ot_box, ot_load, ot_store, ot_makeSlice, ct_bool, ct_true, ct_false, bt_some, gt_some, aval_tmp, aval_int, aval_bool, aval_str, aval_slice, aval_nilPointer, aval_nilIface, aval_func, aval_global, avals, apairs, bareP, AV.bare, AV.bares, bin_lss, bin_leq, bin_gtr, bin_geq, bin_eql, bin_neq, bin_add, bin_sub, bin_mul, bin_and, bin_or, bin_xor, toV_int, toV_bool, toV_string, un_neg, un_not, bin_str_eql, bin_str_neq, bin_str_lss, bin_str_leq, bin_str_gtr, bin_str_geq, aget_aput, length_aput, aput_none, Nat.reduceEqDiff, Nat.reduceLT, Nat.reduceAdd, reduceIte, reduceCtorEq, Bool.not_false, Bool.not_true, Bool.true_or, true_and, Option.bind_some, Option.map_some, List.nil_append, List.cons_append, resA, resA1, resVal, Option.getD_some, Nat.reduceLeDiff, bnd_some, yieldA_eq, yldOf_some, boolOf_bool, boolOf_undef, gt_none, List.getElem?_toArray, List.getElem?_cons_succ, List.getElem?_cons_zero, bq_true, bq_false, decide_true, decide_false, Option.toList_none, Option.toList_some, List.head?_cons, List.head?_nil, nb_cfg, not_false_eq_true, cv_some, pm_some, pm_none, plainA_v, plain_bool, plain_int, plain_str, Bool.false_eq_true, if_false]
        rw [ct_eq]
        refine ⟨fun h => ?_, fun h => ?_⟩
        · have h8' : 8 ≤ 6 * i % 8 + 6 := by simp at h; omega
          obtain ⟨k, hk⟩ : ∃ k, k = 6 * (i + 1) % 8 := ⟨_, rfl⟩
          have e2 : IntKind.u64.wrap (((6 * i % 8 + 6 : Nat) : Int) - 8) = (k : Int) := by
            rw [show (((6 * i % 8 + 6 : Nat) : Int) - 8) = (k : Int) by omega]; exact w64 (by omega) (by omega)
          have e4 : V p s (l.take i) / 2 ^ (6 * i % 8) = V p s (l.take (i + 1)) / 2 ^ (k + 8) := by
            rw [← V_div p s l i _ hil hc]; congr 2; omega
          rw [e4] at h6 ⊢
          simp -dsimp only [hn, h0, h1, h12, h13, h6, h7, h8, e2, e3, bin_shr (show (0 : Int) ≤ (k : Int) by omega), conv39_5, eight_of _ k (show k + 8 ≤ 64 by omega), byt, bs22, app22 (x := AV.v (.int .u8 (UInt8.ofNat (V p s (l.take (i + 1)) / 2 ^ k % 256)).toNat)) (f := true) rfl (sized_byts (outB (6 * i / 8) (V p s (l.take (i + 1)) / 2 ^ (k + 8)))) (by simp only [byts, List.length_map, outB_length]; omega), wt_seq, wt_block, wt_region, wt_cond, wt_skip, wt_ret, wt_exit, wst_nil, wst_app_nil, wst_app_cons, wst_cons, wst_guard, andThen_normal, andThen_ret, andThen_exit, leave_normal, leave_ret, leave_exit, EndsA_ret, EndsA_normal, ot_move, ot_assign, ot_pick, ot_binOp, ot_unOp, ot_convert, ot_field, ot_index, ot_indexAddr, ot_fieldAddr, ot_slice, ot_build, ot_buildSlice, ot_extract, ot_makeInterface, ot_makeFunc, ot_nilCheck, ot_call, ot_len, ot_append, ot_box, ot_load, ot_store, ot_makeSlice, ct_bool, ct_true, ct_false, bt_some, gt_some, aval_tmp, aval_int, aval_bool, aval_str, aval_slice, aval_nilPointer, aval_nilIface, aval_func, aval_global, avals, apairs, bareP, AV.bare, AV.bares, bin_lss, bin_leq, bin_gtr, bin_geq, bin_eql, bin_neq, bin_add, bin_sub, bin_mul, bin_and, bin_or, bin_xor, toV_int, toV_bool, toV_string, un_neg, un_not, bin_str_eql, bin_str_neq, bin_str_lss, bin_str_leq, bin_str_gtr, bin_str_geq, aget_aput, length_aput, aput_none, Nat.reduceEqDiff, Nat.reduceLT, Nat.reduceAdd, reduceIte, reduceCtorEq, Bool.not_false, Bool.not_true, Bool.true_or, true_and, Option.bind_some, Option.map_some, List.nil_append, List.cons_append, resA, resA1, resVal, Option.getD_some, Nat.reduceLeDiff, bnd_some, yieldA_eq, yldOf_some, boolOf_bool, boolOf_undef, gt_none, List.getElem?_toArray, List.getElem?_cons_succ, List.getElem?_cons_zero, bq_true, bq_false, decide_true, decide_false, Option.toList_none, Option.toList_some, List.head?_cons, List.head?_nil, nb_cfg, not_false_eq_true, cv_some, pm_some, pm_none, plainA_v, plain_bool, plain_int, plain_str, Bool.false_eq_true, if_false]
          have e5 := outB_next (6 * i / 8) (V p s (l.take (i + 1))) k
          have e6 : 6 * i / 8 + 1 = 6 * (i + 1) / 8 := by omega
          rw [e6, hk] at e5
          unfold byt at e5
          rw [hk, e5]
          refine ⟨l.length - (i + 1), by omega, i + 1, by omega, rfl, ⟨?_, rfl, ?_, ?_, ?_, ?_, ?_, ?_, hs'⟩⟩
          all_goals simp -dsimp only [hn, h0, h1, h12, wt_seq, wt_block, wt_region, wt_cond, wt_skip, wt_ret, wt_exit, wst_nil, wst_app_nil, wst_app_cons, wst_cons, wst_guard, andThen_normal, andThen_ret, andThen_exit, leave_normal, leave_ret, leave_exit, EndsA_ret, EndsA_normal, ot_move, ot_assign, ot_pick, ot_binOp, ot_unOp, ot_convert, ot_field, ot_index, ot_indexAddr, ot_fieldAddr, ot_slice, ot_build, ot_buildSlice, ot_extract, ot_makeInterface, ot_makeFunc, ot_nilCheck, ot_call, ot_len, ot_append, ot_box, ot_load, ot_store, ot_makeSlice, ct_bool, ct_true, ct_false, bt_some, gt_some, aval_tmp, aval_int, aval_bool, aval_str, aval_slice, aval_nilPointer, aval_nilIface, aval_func, aval_global, avals, apairs, bareP, AV.bare, AV.bares, bin_lss, bin_leq, bin_gtr, bin_geq, bin_eql, bin_neq, bin_add, bin_sub, bin_mul, bin_and, bin_or, bin_xor, toV_int, toV_bool, toV_string, un_neg, un_not, bin_str_eql, bin_str_neq, bin_str_lss, bin_str_leq, bin_str_gtr, bin_str_geq, aget_aput, length_aput, aput_none, Nat.reduceEqDiff, Nat.reduceLT, Nat.reduceAdd, reduceIte, reduceCtorEq, Bool.not_false, Bool.not_true, Bool.true_or, true_and, Option.bind_some, Option.map_some, List.nil_append, List.cons_append, resA, resA1, resVal, Option.getD_some, Nat.reduceLeDiff, bnd_some, yieldA_eq, yldOf_some, boolOf_bool, boolOf_undef, gt_none, List.getElem?_toArray, List.getElem?_cons_succ, List.getElem?_cons_zero, bq_true, bq_false, decide_true, decide_false, Option.toList_none, Option.toList_some, List.head?_cons, List.head?_nil, nb_cfg, not_false_eq_true, cv_some, pm_some, pm_none, plainA_v, plain_bool, plain_int, plain_str, Bool.false_eq_true, if_false]
        · have h8' : 6 * i % 8 + 6 < 8 := by simp at h; omega
          have e4 : V p s (l.take i) / 2 ^ (6 * i % 8) = V p s (l.take (i + 1)) / 2 ^ (6 * i % 8 + 6) := (V_div p s l i _ hil hc).symm
          rw [e4] at h6 ⊢
          simp -dsimp only [hn, h0, h1, h12, h13, h6, h7, h8, e3, wt_seq, wt_block, wt_region, wt_cond, wt_skip, wt_ret, wt_exit, wst_nil, wst_app_nil, wst_app_cons, wst_cons, wst_guard, andThen_normal, andThen_ret, andThen_exit, leave_normal, leave_ret, leave_exit, EndsA_ret, EndsA_normal, ot_move, ot_assign, ot_pick, ot_binOp, ot_unOp, ot_convert, ot_field, ot_index, ot_indexAddr, ot_fieldAddr, ot_slice, ot_build, ot_buildSlice, ot_extract, ot_makeInterface, ot_makeFunc, ot_nilCheck, ot_call, ot_len, ot_append, ot_box, ot_load, ot_store, ot_makeSlice, ct_bool, ct_true, ct_false, bt_some, gt_some, aval_tmp, aval_int, aval_bool, aval_str, aval_slice, aval_nilPointer, aval_nilIface, aval_func, aval_global, avals, apairs, bareP, AV.bare, AV.bares, bin_lss, bin_leq, bin_gtr, bin_geq, bin_eql, bin_neq, bin_add, bin_sub, bin_mul, bin_and, bin_or, bin_xor, toV_int, toV_bool, toV_string, un_neg, un_not, bin_str_eql, bin_str_neq, bin_str_lss, bin_str_leq, bin_str_gtr, bin_str_geq, aget_aput, length_aput, aput_none, Nat.reduceEqDiff, Nat.reduceLT, Nat.reduceAdd, reduceIte, reduceCtorEq, Bool.not_false, Bool.not_true, Bool.true_or, true_and, Option.bind_some, Option.map_some, List.nil_append, List.cons_append, resA, resA1, resVal, Option.getD_some, Nat.reduceLeDiff, bnd_some, yieldA_eq, yldOf_some, boolOf_bool, boolOf_undef, gt_none, List.getElem?_toArray, List.getElem?_cons_succ, List.getElem?_cons_zero, bq_true, bq_false, decide_true, decide_false, Option.toList_none, Option.toList_some, List.head?_cons, List.head?_nil, nb_cfg, not_false_eq_true, cv_some, pm_some, pm_none, plainA_v, plain_bool, plain_int, plain_str, Bool.false_eq_true, if_false]
          have e6 : 6 * i / 8 = 6 * (i + 1) / 8 := by omega
          have e7 : 6 * i % 8 + 6 = 6 * (i + 1) % 8 := by omega
          rw [e6, e7] at h6 ⊢
          refine ⟨l.length - (i + 1), by omega, i + 1, by omega, rfl, ⟨?_, rfl, ?_, ?_, ?_, ?_, ?_, ?_, hs'⟩⟩
          all_goals simp -dsimp only [hn, h0, h1, h12, h6, wt_seq, wt_block, wt_region, wt_cond, wt_skip, wt_ret, wt_exit, wst_nil, wst_app_nil, wst_app_cons, wst_cons, wst_guard, andThen_normal, andThen_ret, andThen_exit, leave_normal, leave_ret, leave_exit, EndsA_ret, EndsA_normal, ot_move, ot_assign, ot_pick, ot_binOp, ot_unOp, ot_convert, ot_field, ot_index, ot_indexAddr, ot_fieldAddr, ot_slice, ot_build, ot_buildSlice, ot_extract, ot_makeInterface, ot_makeFunc, ot_nilCheck, ot_call, ot_len, ot_append, ot_box, ot_load, ot_store, ot_makeSlice, ct_bool, ct_true, ct_false, bt_some, gt_some, aval_tmp, aval_int, aval_bool, aval_str, aval_slice, aval_nilPointer, aval_nilIface, aval_func, aval_global, avals, apairs, bareP, AV.bare, AV.bares, bin_lss, bin_leq, bin_gtr, bin_geq, bin_eql, bin_neq, bin_add, bin_sub, bin_mul, bin_and, bin_or, bin_xor, toV_int, toV_bool, toV_string, un_neg, un_not, bin_str_eql, bin_str_neq, bin_str_lss, bin_str_leq, bin_str_gtr, bin_str_geq, aget_aput, length_aput, aput_none, Nat.reduceEqDiff, Nat.reduceLT, Nat.reduceAdd, reduceIte, reduceCtorEq, Bool.not_false, Bool.not_true, Bool.true_or, true_and, Option.bind_some, Option.map_some, List.nil_append, List.cons_append, resA, resA1, resVal, Option.getD_some, Nat.reduceLeDiff, bnd_some, yieldA_eq, yldOf_some, boolOf_bool, boolOf_undef, gt_none, List.getElem?_toArray, List.getElem?_cons_succ, List.getElem?_cons_zero, bq_true, bq_false, decide_true, decide_false, Option.toList_none, Option.toList_some, List.head?_cons, List.head?_nil, nb_cfg, not_false_eq_true, cv_some, pm_some, pm_none, plainA_v, plain_bool, plain_int, plain_str, Bool.false_eq_true, if_false]
    · have hil : i = l.length := by simp at h; omega
      subst hil
      rw [List.take_length] at *
      have hs' : (l.map (nm p s)).all (fun n => decide (n < 64)) = true := by
        rw [List.all_eq_true]
        intro n hn
        obtain ⟨c, hc, rfl⟩ := List.mem_map.1 hn
        simpa using hs c hc
      have hg : ∀ x : Nat, x < 6 → IntKind.u64.wrap (IntKind.u64.wrap (1 * 2 ^ min ((x : Nat) : Int).toNat IntKind.u64.bits) - 1) = ((2 ^ x - 1 : Nat) : Int) := by
        intro x hx
        have : x = 0 ∨ x = 1 ∨ x = 2 ∨ x = 3 ∨ x = 4 ∨ x = 5 := by omega
        rcases this with rfl | rfl | rfl | rfl | rfl | rfl <;> decide
      have hm : ∀ x a : Nat, x < 6 → IntKind.u64.wrap ((BitVec.ofInt IntKind.u64.bits ((a % 2 ^ 64 : Nat) : Int) &&& BitVec.ofInt IntKind.u64.bits ((2 ^ x - 1 : Nat) : Int)).toNat : Nat) = ((a % 2 ^ x : Nat) : Int) := by
        intro x a hx
        rw [wrap64, show IntKind.u64.bits = 64 from rfl]
        congr 1
        have : (2 : Nat) ^ x < 2 ^ 64 := Nat.pow_lt_pow_right (by decide) (by omega)
        simp only [BitVec.ofInt_natCast, BitVec.toNat_and, BitVec.toNat_ofNat]
        rw [Nat.mod_eq_of_lt (show 2 ^ x - 1 < 2 ^ 64 by omega), Nat.and_two_pow_sub_one_eq_mod, Nat.mod_mod, Nat.mod_mod_of_dvd _ (Nat.pow_dvd_pow 2 (by omega : x ≤ 64))]
        have := Nat.mod_lt a (Nat.pow_pos (n := x) (show 0 < 2 by decide))
        omega
      by_cases hr : 6 ≤ 6 * l.length % 8
      · have hd : decide ((6 : Int) ≤ ((6 * l.length % 8 : Nat) : Int)) = true := by simp; omega
        simp -dsimp only [hn, h0, h1, h12, h13, h6, h7, h8, hd, wt_seq, wt_block, wt_region, wt_cond, wt_skip, wt_ret, wt_exit, wst_nil, wst_app_nil, wst_app_cons, wst_cons, wst_guard, andThen_normal, andThen_ret, andThen_exit, leave_normal, leave_ret, leave_exit, EndsA_ret, EndsA_normal, ot_move, ot_assign, ot_pick, ot_binOp, ot_unOp, ot_convert, ot_field, ot_index, ot_indexAddr, ot_fieldAddr, ot_slice, ot_build, ot_buildSlice, ot_extract, ot_makeInterface, ot_makeFunc, ot_nilCheck, ot_call, ot_len, ot_append, ot_box, ot_load, ot_store, ot_makeSlice, ct_bool, ct_true, ct_false, bt_some, gt_some, aval_tmp, aval_int, aval_bool, aval_str, aval_slice, aval_nilPointer, aval_nilIface, aval_func, aval_global, avals, apairs, bareP, AV.bare, AV.bares, bin_lss, bin_leq, bin_gtr, bin_geq, bin_eql, bin_neq, bin_add, bin_sub, bin_mul, bin_and, bin_or, bin_xor, toV_int, toV_bool, toV_string, un_neg, un_not, bin_str_eql, bin_str_neq, bin_str_lss, bin_str_leq, bin_str_gtr, bin_str_geq, aget_aput, length_aput, aput_none, Nat.reduceEqDiff, Nat.reduceLT, Nat.reduceAdd, reduceIte, reduceCtorEq, Bool.not_false, Bool.not_true, Bool.true_or, true_and, Option.bind_some, Option.map_some, List.nil_append, List.cons_append, resA, resA1, resVal, Option.getD_some, Nat.reduceLeDiff, bnd_some, yieldA_eq, yldOf_some, boolOf_bool, boolOf_undef, gt_none, List.getElem?_toArray, List.getElem?_cons_succ, List.getElem?_cons_zero, bq_true, bq_false, decide_true, decide_false, Option.toList_none, Option.toList_some, List.head?_cons, List.head?_nil, nb_cfg, not_false_eq_true, cv_some, pm_some, pm_none, plainA_v, plain_bool, plain_int, plain_str, Bool.false_eq_true, if_false]
        have : get64 p s l = none := if_neg fun h => by omega
        exact ⟨5, by rw [this]; rfl⟩
      · have hd : decide ((6 : Int) ≤ ((6 * l.length % 8 : Nat) : Int)) = false := by simp; omega
        simp -dsimp only [hn, h0, h1, h12, h13, h6, h7, h8, hd, bin_shl (show (0 : Int) ≤ ((6 * l.length % 8 : Nat) : Int) by omega), hg _ (show 6 * l.length % 8 < 6 by omega), hm _ (V p s l) (show 6 * l.length % 8 < 6 by omega), wt_seq, wt_block, wt_region, wt_cond, wt_skip, wt_ret, wt_exit, wst_nil, wst_app_nil, wst_app_cons, wst_cons, wst_guard, andThen_normal, andThen_ret, andThen_exit, leave_normal, leave_ret, leave_exit, EndsA_ret, EndsA_normal, ot_move, ot_assign, ot_pick, ot_binOp, ot_unOp, ot_convert, ot_field, ot_index, ot_indexAddr, ot_fieldAddr, ot_slice, ot_build, ot_buildSlice, ot_extract, ot_makeInterface, ot_makeFunc, ot_nilCheck, ot_call, ot_len, ot_append, ot_box, ot_load, ot_store, ot_makeSlice, ct_bool, ct_true, ct_false, bt_some, gt_some, aval_tmp, aval_int, aval_bool, aval_str, aval_slice, aval_nilPointer, aval_nilIface, aval_func, aval_global, avals, apairs, bareP, AV.bare, AV.bares, bin_lss, bin_leq, bin_gtr, bin_geq, bin_eql, bin_neq, bin_add, bin_sub, bin_mul, bin_and, bin_or, bin_xor, toV_int, toV_bool, toV_string, un_neg, un_not, bin_str_eql, bin_str_neq, bin_str_lss, bin_str_leq, bin_str_gtr, bin_str_geq, aget_aput, length_aput, aput_none, Nat.reduceEqDiff, Nat.reduceLT, Nat.reduceAdd, reduceIte, reduceCtorEq, Bool.not_false, Bool.not_true, Bool.true_or, true_and, Option.bind_some, Option.map_some, List.nil_append, List.cons_append, resA, resA1, resVal, Option.getD_some, Nat.reduceLeDiff, bnd_some, yieldA_eq, yldOf_some, boolOf_bool, boolOf_undef, gt_none, List.getElem?_toArray, List.getElem?_cons_succ, List.getElem?_cons_zero, bq_true, bq_false, decide_true, decide_false, Option.toList_none, Option.toList_some, List.head?_cons, List.head?_nil, nb_cfg, not_false_eq_true, cv_some, pm_some, pm_none, plainA_v, plain_bool, plain_int, plain_str, Bool.false_eq_true, if_false]
        rw [ct_eq]
        refine ⟨fun h => ?_, fun h => ?_⟩
        · simp -dsimp only [hn, h0, h1, h12, h13, h6, h7, h8, hd, wt_seq, wt_block, wt_region, wt_cond, wt_skip, wt_ret, wt_exit, wst_nil, wst_app_nil, wst_app_cons, wst_cons, wst_guard, andThen_normal, andThen_ret, andThen_exit, leave_normal, leave_ret, leave_exit, EndsA_ret, EndsA_normal, ot_move, ot_assign, ot_pick, ot_binOp, ot_unOp, ot_convert, ot_field, ot_index, ot_indexAddr, ot_fieldAddr, ot_slice, ot_build, ot_buildSlice, ot_extract, ot_makeInterface, ot_makeFunc, ot_nilCheck, ot_call, ot_len, ot_append, ot_box, ot_load, ot_store, ot_makeSlice, ct_bool, ct_true, ct_false, bt_some, gt_some, aval_tmp, aval_int, aval_bool, aval_str, aval_slice, aval_nilPointer, aval_nilIface, aval_func, aval_global, avals, apairs, bareP, AV.bare, AV.bares, bin_lss, bin_leq, bin_gtr, bin_geq, bin_eql, bin_neq, bin_add, bin_sub, bin_mul, bin_and, bin_or, bin_xor, toV_int, toV_bool, toV_string, un_neg, un_not, bin_str_eql, bin_str_neq, bin_str_lss, bin_str_leq, bin_str_gtr, bin_str_geq, aget_aput, length_aput, aput_none, Nat.reduceEqDiff, Nat.reduceLT, Nat.reduceAdd, reduceIte, reduceCtorEq, Bool.not_false, Bool.not_true, Bool.true_or, true_and, Option.bind_some, Option.map_some, List.nil_append, List.cons_append, resA, resA1, resVal, Option.getD_some, Nat.reduceLeDiff, bnd_some, yieldA_eq, yldOf_some, boolOf_bool, boolOf_undef, gt_none, List.getElem?_toArray, List.getElem?_cons_succ, List.getElem?_cons_zero, bq_true, bq_false, decide_true, decide_false, Option.toList_none, Option.toList_some, List.head?_cons, List.head?_nil, nb_cfg, not_false_eq_true, cv_some, pm_some, pm_none, plainA_v, plain_bool, plain_int, plain_str, Bool.false_eq_true, if_false]
          have : get64 p s l = none := if_neg fun hh => by
            have hz : V p s l % 2 ^ (6 * l.length % 8) = 0 := hh.2.2
            rw [hz] at h
            simp at h
          exact ⟨5, by rw [this]; rfl⟩
        · simp -dsimp only [hn, h0, h1, h12, h13, h6, h7, h8, hd, wt_seq, wt_block, wt_region, wt_cond, wt_skip, wt_ret, wt_exit, wst_nil, wst_app_nil, wst_app_cons, wst_cons, wst_guard, andThen_normal, andThen_ret, andThen_exit, leave_normal, leave_ret, leave_exit, EndsA_ret, EndsA_normal, ot_move, ot_assign, ot_pick, ot_binOp, ot_unOp, ot_convert, ot_field, ot_index, ot_indexAddr, ot_fieldAddr, ot_slice, ot_build, ot_buildSlice, ot_extract, ot_makeInterface, ot_makeFunc, ot_nilCheck, ot_call, ot_len, ot_append, ot_box, ot_load, ot_store, ot_makeSlice, ct_bool, ct_true, ct_false, bt_some, gt_some, aval_tmp, aval_int, aval_bool, aval_str, aval_slice, aval_nilPointer, aval_nilIface, aval_func, aval_global, avals, apairs, bareP, AV.bare, AV.bares, bin_lss, bin_leq, bin_gtr, bin_geq, bin_eql, bin_neq, bin_add, bin_sub, bin_mul, bin_and, bin_or, bin_xor, toV_int, toV_bool, toV_string, un_neg, un_not, bin_str_eql, bin_str_neq, bin_str_lss, bin_str_leq, bin_str_gtr, bin_str_geq, aget_aput, length_aput, aput_none, Nat.reduceEqDiff, Nat.reduceLT, Nat.reduceAdd, reduceIte, reduceCtorEq, Bool.not_false, Bool.not_true, Bool.true_or, true_and, Option.bind_some, Option.map_some, List.nil_append, List.cons_append, resA, resA1, resVal, Option.getD_some, Nat.reduceLeDiff, bnd_some, yieldA_eq, yldOf_some, boolOf_bool, boolOf_undef, gt_none, List.getElem?_toArray, List.getElem?_cons_succ, List.getElem?_cons_zero, bq_true, bq_false, decide_true, decide_false, Option.toList_none, Option.toList_some, List.head?_cons, List.head?_nil, nb_cfg, not_false_eq_true, cv_some, pm_some, pm_none, plainA_v, plain_bool, plain_int, plain_str, Bool.false_eq_true, if_false]
          have : get64 p s l = some (outB (6 * l.length / 8) (V p s l / 2 ^ (6 * l.length % 8))) := if_pos ⟨hs', by omega, by
            show V p s l % 2 ^ (6 * l.length % 8) = 0
            apply Decidable.byContradiction
            intro hz
            rw [Bool.not_eq_false', decide_eq_true_eq] at h
            exact hz (Int.ofNat_eq_zero.1 h)⟩
          refine ⟨4, ?_⟩
          rw [this]
          exact thaw_getR _ _
  · refine ⟨0, by omega, ?_, ⟨?_, ?_, ?_, ?_, ?_, ?_, ?_, ?_, ?_⟩⟩
    any_goals simp -dsimp only [hn, h0, h1, wt_seq, wt_block, wt_region, wt_cond, wt_skip, wt_ret, wt_exit, wst_nil, wst_app_nil, wst_app_cons, wst_cons, wst_guard, andThen_normal, andThen_ret, andThen_exit, leave_normal, leave_ret, leave_exit, EndsA_ret, EndsA_normal, ot_move, ot_assign, ot_pick, ot_binOp, ot_unOp, ot_convert, ot_field, ot_index, ot_indexAddr, ot_fieldAddr, ot_slice, ot_build, ot_buildSlice, ot_extract, ot_makeInterface, ot_makeFunc, ot_nilCheck, ot_call, ot_len, ot_append, ot_box, ot_load, ot_store, ot_makeSlice, ct_bool, ct_true, ct_false, bt_some, gt_some, aval_tmp, aval_int, aval_bool, aval_str, aval_slice, aval_nilPointer, aval_nilIface, aval_func, aval_global, avals, apairs, bareP, AV.bare, AV.bares, bin_lss, bin_leq, bin_gtr, bin_geq, bin_eql, bin_neq, bin_add, bin_sub, bin_mul, bin_and, bin_or, bin_xor, toV_int, toV_bool, toV_string, un_neg, un_not, bin_str_eql, bin_str_neq, bin_str_lss, bin_str_leq, bin_str_gtr, bin_str_geq, aget_aput, length_aput, aput_none, Nat.reduceEqDiff, Nat.reduceLT, Nat.reduceAdd, reduceIte, reduceCtorEq, Bool.not_false, Bool.not_true, Bool.true_or, true_and, Option.bind_some, Option.map_some, List.nil_append, List.cons_append, resA, resA1, resVal, Option.getD_some, Nat.reduceLeDiff, bnd_some, yieldA_eq, yldOf_some, boolOf_bool, boolOf_undef, gt_none, List.getElem?_toArray, List.getElem?_cons_succ, List.getElem?_cons_zero, bq_true, bq_false, decide_true, decide_false, Option.toList_none, Option.toList_some, List.head?_cons, List.head?_nil, nb_cfg, not_false_eq_true, cv_some, pm_some, pm_none, plainA_v, plain_bool, plain_int, plain_str, Bool.false_eq_true, if_false]
    all_goals simp [V, Digs.val, outB, Digs.digs, byts, gsl, ghp]
end Go.Proofs.YtonmpbfddiflhaaDoor

/- Chapter 5 in plain Lean. -/
namespace Go.Proofs.YtonmpbfddiflhaaDoor
open Go.AM
theorem put64_length (p s : UInt8) (l : List UInt8) : (put64 p s l).length = (8 * l.length + 5) / 6 := outs_length _ _ _ _
theorem Nn_lt (l : List UInt8) : Nn l < 2 ^ (8 * l.length) := by
  have := Digs.val_lt (B := 256) (by decide) (l.map (·.toNat)) (fun d hd => by
    obtain ⟨c, _, rfl⟩ := List.mem_map.1 hd
    exact UInt8.toNat_lt c)
  rw [List.length_map, show 256 = 2 ^ 8 from rfl, ← Nat.pow_mul] at this
  exact this
theorem V_lt (p s : UInt8) (l : List UInt8) (h : ∀ c ∈ l, nm p s c < 64) : V p s l < 2 ^ (6 * l.length) := by
  have := Digs.val_lt (B := 64) (by decide) (l.map (nm p s)) (fun d hd => by
    obtain ⟨c, hc, rfl⟩ := List.mem_map.1 hd
    exact h c hc)
  rw [List.length_map, show 64 = 2 ^ 6 from rfl, ← Nat.pow_mul] at this
  exact this
theorem put64_append (p s : UInt8) (a b : List UInt8) (h : a.length % 3 = 0) : put64 p s (a ++ b) = put64 p s a ++ put64 p s b := by
  unfold put64 outs
  rw [List.length_append, ← List.map_append]
  congr 1
  have e1 : (8 * (a.length + b.length) + 5) / 6 = (8 * a.length + 5) / 6 + (8 * b.length + 5) / 6 := by omega
  have e2 : 6 * ((8 * a.length + 5) / 6) - 8 * a.length = 0 := by omega
  obtain ⟨P, hP⟩ : ∃ P, P = 6 * ((8 * b.length + 5) / 6) - 8 * b.length := ⟨_, rfl⟩
  have e3 : 6 * ((8 * a.length + 5) / 6 + (8 * b.length + 5) / 6) - 8 * (a.length + b.length) = P := by omega
  rw [e1, e2, e3, ← hP, Nat.pow_zero, Nat.mul_one]
  have e4 : (64 : Nat) ^ ((8 * b.length + 5) / 6) = 2 ^ (8 * b.length) * 2 ^ P := by
    rw [show 64 = 2 ^ 6 from rfl, ← Nat.pow_mul, ← Nat.pow_add]
    congr 1
    omega
  have e5 : Nn (a ++ b) * 2 ^ P = Nn a * 64 ^ ((8 * b.length + 5) / 6) + Nn b * 2 ^ P := by
    rw [e4]
    unfold Nn
    rw [List.map_append, Digs.val_append, List.length_map, show 256 = 2 ^ 8 from rfl, ← Nat.pow_mul, Nat.add_mul, Nat.mul_assoc]
  rw [e5]
  refine Digs.digs_append (by decide) _ _ _ _ ?_
  rw [e4]
  exact Nat.mul_lt_mul_of_pos_right (Nn_lt b) (Nat.pow_pos (by decide))
/-- The alphabet's signs and numbers. -/
structure Alph (p s : UInt8) : Prop where
  ns : ∀ v : Nat, v < 64 → nm p s (sg p s v) = v
  sn : ∀ c : UInt8, nm p s c < 64 → sg p s (nm p s c) = c
theorem alph_of (p s : UInt8) (h : ∀ v : Fin 64, nm p s (sg p s v.1) = v.1) : Alph p s := by
  refine ⟨fun v hv => h ⟨v, hv⟩, fun c hc => ?_⟩
  have h1 := (numN_nm p s c).1
  unfold numN at h1
  split at h1
  · rename_i n hn
    have e : n = nm p s c := by omega
    have := List.find?_range_eq_some.1 hn
    have h2 : signN p.toNat s.toNat n = c.toNat := by simpa using this.1
    rw [signN_sg p s n (by omega), e] at h2
    exact UInt8.toNat_inj.1 (by omega)
  · omega
theorem alph_std : Alph 43 47 := alph_of _ _ (by decide +kernel)
theorem alph_url : Alph 45 95 := alph_of _ _ (by decide +kernel)
theorem outB_Nn (l : List UInt8) : outB l.length (Nn l) = l := by
  unfold outB Nn
  have := Digs.digs_val (B := 256) (l.map (·.toNat)) (fun d hd => by
    obtain ⟨c, _, rfl⟩ := List.mem_map.1 hd
    exact UInt8.toNat_lt c)
  rw [List.length_map] at this
  rw [this, List.map_map]
  have e : (UInt8.ofNat ∘ fun x : UInt8 => x.toNat) = id := by
    funext c; simp
  rw [e, List.map_id]
theorem get_put {p s : UInt8} (A : Alph p s) (l : List UInt8) : get64 p s (put64 p s l) = some l := by
  obtain ⟨S, hS⟩ : ∃ S, S = (8 * l.length + 5) / 6 := ⟨_, rfl⟩
  obtain ⟨P, hP⟩ : ∃ P, P = 6 * S - 8 * l.length := ⟨_, rfl⟩
  have hl : (put64 p s l).length = S := by rw [put64_length, hS]
  have hmap : (put64 p s l).map (nm p s) = Digs.digs 64 S (Nn l * 2 ^ P) := by
    unfold put64 outs
    rw [← hS, ← hP, List.map_map]
    have : ∀ v ∈ Digs.digs 64 S (Nn l * 2 ^ P), (nm p s ∘ sg p s) v = v := fun v hv => A.ns v (Digs.digs_lt (by decide) _ _ v hv)
    rw [List.map_congr_left this, List.map_id']
  have e4 : (64 : Nat) ^ S = 2 ^ (8 * l.length) * 2 ^ P := by
    rw [show 64 = 2 ^ 6 from rfl, ← Nat.pow_mul, ← Nat.pow_add]
    congr 1
    omega
  have hv : Digs.val 64 (Digs.digs 64 S (Nn l * 2 ^ P)) = Nn l * 2 ^ P := by
    rw [Digs.val_digs, Nat.mod_eq_of_lt]
    rw [e4]
    exact Nat.mul_lt_mul_of_pos_right (Nn_lt l) (Nat.pow_pos (by decide))
  have hr : 6 * S % 8 = P := by omega
  have hL : 6 * S / 8 = l.length := by omega
  unfold get64
  rw [hl, hmap, hv, hr, hL, if_pos]
  · rw [Nat.mul_div_cancel _ (Nat.pow_pos (by decide))]
    congr 1
    exact outB_Nn l
  · refine ⟨?_, by omega, Nat.mul_mod_left _ _⟩
    rw [List.all_eq_true]
    intro v hv
    simpa using Digs.digs_lt (by decide) _ _ v hv
theorem put_get {p s : UInt8} (A : Alph p s) {t z : List UInt8} (h : get64 p s t = some z) : put64 p s z = t := by
  unfold get64 at h
  split at h
  · rename_i hh
    obtain ⟨h1, h2, h3⟩ := hh
    injection h with h
    have hall : ∀ c ∈ t, nm p s c < 64 := fun c hc => by
      rw [List.all_eq_true] at h1
      simpa using h1 _ (List.mem_map.2 ⟨c, hc, rfl⟩)
    have hV := V_lt p s t hall
    obtain ⟨r, hr⟩ : ∃ r, r = 6 * t.length % 8 := ⟨_, rfl⟩
    obtain ⟨L, hL⟩ : ∃ L, L = 6 * t.length / 8 := ⟨_, rfl⟩
    rw [← hr, ← hL] at h
    rw [← hr] at h2 h3
    have hlen : z.length = L := by rw [← h]; simp [Digs.digs_length]
    have hN : Nn z = V p s t / 2 ^ r := by
      rw [← h]
      unfold Nn
      rw [List.map_map]
      have : ∀ v ∈ Digs.digs 256 L (Digs.val 64 (t.map (nm p s)) / 2 ^ r), ((fun x : UInt8 => x.toNat) ∘ UInt8.ofNat) v = v := fun v hv => by
        have := Digs.digs_lt (B := 256) (by decide) _ _ v hv
        simp only [Function.comp, UInt8.toNat_ofNat']
        omega
      rw [List.map_congr_left this, List.map_id', Digs.val_digs, Nat.mod_eq_of_lt]
      · rfl
      · rw [Nat.div_lt_iff_lt_mul (Nat.pow_pos (by decide)), show 256 = 2 ^ 8 from rfl, ← Nat.pow_mul, ← Nat.pow_add, show 8 * L + r = 6 * t.length by omega]
        exact hV
    unfold put64 outs
    rw [hlen, show (8 * L + 5) / 6 = t.length by omega, show 6 * t.length - 8 * L = r by omega, hN, Nat.div_mul_cancel (show 2 ^ r ∣ V p s t from Nat.dvd_of_mod_eq_zero h3)]
    unfold V
    have := Digs.digs_val (B := 64) (t.map (nm p s)) (fun d hd => by
      obtain ⟨c, hc, rfl⟩ := List.mem_map.1 hd
      exact hall c hc)
    rw [List.length_map] at this
    rw [this, List.map_map]
    have : ∀ c ∈ t, (sg p s ∘ nm p s) c = c := fun c hc => A.sn c (hall c hc)
    rw [List.map_congr_left this, List.map_id']
  · cases h
theorem get64_len {p s : UInt8} {t z : List UInt8} (h : get64 p s t = some z) : z.length ≤ t.length := by
  unfold get64 at h
  split at h
  · injection h with h
    rw [← h]
    simp only [List.length_map, Digs.digs_length]
    omega
  · cases h
end Go.Proofs.YtonmpbfddiflhaaDoor

/- Chapter 5: Put, PutURL, Get, GetURL. -/
namespace Go.Proofs.YtonmpbfddiflhaaDoor
open Go.AM
def getP : List AV → Option AV
  | [x, .fn (.func 34) [.agg [a, b]] []] => match dS x, decByte a, decByte b with
    | some l, some p, some s => if l.length < 2 ^ 40 then some (getR (get64 p s l)) else none
    | _, _, _ => none
  | _ => none
theorem getP_eq {l : List UInt8} {p s : UInt8} (hl : l.length < 2 ^ 40) : getP [str l, .fn (.func 34) [.agg [.v (.int .u8 p.toNat), .v (.int .u8 s.toNat)]] []] = some (getR (get64 p s l)) := by
  have h1 := dec_byt p
  have h2 := dec_byt s
  unfold byt at h1 h2
  simp only [getP, dS_str, h1, h2, hl, if_true]
theorem getP_ok {xs : List AV} {r : AV} (h : getP xs = some r) : PureOk (cfgP prim2) 33 xs r := by
  unfold getP at h
  split at h
  · rename_i x a b
    split at h
    · rename_i l p s h1 h2 h3
      split at h
      · rename_i hl
        injection h with h; subst h
        rw [decByte_iff] at h2 h3
        rw [dS_iff] at h1
        subst h1 h2 h3
        exact get_ok p s l hl
      · cases h
    · cases h
  · cases h
def prim3 : FuncId → Option (List AV → Option AV) := fun f => if f = 31 then some putP else if f = 33 then some getP else none
theorem cok3 : (cfgP prim3).Ok := cfgOf_ok mixed fok (fun f p h => by
  simp only [prim3] at h
  split at h
  · rename_i hf
    injection h with h; subst h; subst hf
    exact prim_at Tryd.func31 (by kernel_rfl) rfl (fun _ _ h => putP_ok h)
  split at h
  · rename_i hf
    injection h with h; subst h; subst hf
    exact prim_at Tryd.func33 (by kernel_rfl) rfl (fun _ _ h => getP_ok h)
  · cases h)
theorem prim3_31 : (cfgP prim3).prim 31 = some putP := rfl
theorem prim3_33 : (cfgP prim3).prim 33 = some getP := rfl
section
variable {prim : FuncId → Option (List AV → Option AV)}
theorem gl1 : (cfgP prim).gl 1 = some (.agg [.v (.int .u8 (45 : UInt8).toNat), .v (.int .u8 (95 : UInt8).toNat)]) := rfl
theorem part44c {a b : AV} : partA (cfgP prim) 44 (AV.agg [a, b]).cells 0 = some (.agg [a, b]) := part44
theorem bare_of {x : AV} {l : List UInt8} (h : elems x = some (byts l)) : ∃ y, AV.bare x = some y ∧ elems y = some (byts l) := by
  unfold elems at h
  split at h
  · exact ⟨_, rfl, h⟩
  · exact ⟨_, rfl, h⟩
  · exact ⟨_, rfl, h⟩
  · exact ⟨_, rfl, h⟩
  · cases h
end
theorem PutURL_ok (x : AV) (l : List UInt8) (hx : elems x = some (byts l)) (hl : l.length < 2 ^ 40) : PureOk (cfgP prim3) 13 [x] (str (put64 45 95 l)) := by
  refine pure_of_wk (call := noCall) (fn := Tryd.f13) (rs := [.tmp 2]) cok3 noCall_ok (fns_cfg Tryd.func13 rfl) rfl rfl ?_
  intro env hl0 ha
  have hn : env.length = 7 := hl0
  have h0 := ha 0 _ rfl
  clear ha hl0
  obtain ⟨y, hb, hy⟩ := bare_of hx
  refine wkT_of ?_
  simp -dsimp only [hn, h0, gl1, part44c, ct_prim prim3_31, hb, putP_eq hy hl, wt_seq, wt_block, wt_region, wt_cond, wt_skip, wt_ret, wt_exit, wst_nil, wst_app_nil, wst_app_cons, wst_cons, wst_guard, andThen_normal, andThen_ret, andThen_exit, leave_normal, leave_ret, leave_exit, EndsA_ret, EndsA_normal, ot_move, ot_assign, ot_pick, ot_binOp, ot_unOp, ot_convert, ot_field, ot_index, ot_indexAddr, ot_fieldAddr, ot_slice, ot_build, ot_buildSlice, ot_extract, ot_makeInterface, ot_makeFunc, ot_nilCheck, ot_call, ot_len, ot_append, ot_box, ot_load, ot_store, ot_makeSlice, ct_bool, ct_true, ct_false, bt_some, gt_some, aval_tmp, aval_int, aval_bool, aval_str, aval_slice, aval_nilPointer, aval_nilIface, aval_func, aval_global, avals, apairs, bareP, AV.bare, AV.bares, bin_lss, bin_leq, bin_gtr, bin_geq, bin_eql, bin_neq, bin_add, bin_sub, bin_mul, bin_and, bin_or, bin_xor, toV_int, toV_bool, toV_string, un_neg, un_not, bin_str_eql, bin_str_neq, bin_str_lss, bin_str_leq, bin_str_gtr, bin_str_geq, aget_aput, length_aput, aput_none, Nat.reduceEqDiff, Nat.reduceLT, Nat.reduceAdd, reduceIte, reduceCtorEq, Bool.not_false, Bool.not_true, Bool.true_or, true_and, Option.bind_some, Option.map_some, List.nil_append, List.cons_append, resA, resA1, resVal, Option.getD_some, Nat.reduceLeDiff, bnd_some, yieldA_eq, yldOf_some, boolOf_bool, boolOf_undef, gt_none, List.getElem?_toArray, List.getElem?_cons_succ, List.getElem?_cons_zero, bq_true, bq_false, decide_true, decide_false, Option.toList_none, Option.toList_some, List.head?_cons, List.head?_nil, nb_cfg, not_false_eq_true, cv_some, pm_some, pm_none, plainA_v, plain_bool, plain_int, plain_str, Bool.false_eq_true, if_false]
  exact ⟨1, rfl⟩
theorem bare_str (l : List UInt8) : AV.bare (str l) = some (str l) := rfl
def getA : Option (List UInt8) → AV
  | some l => bsl l
  | none => .v (.slice none 0 0)
def getE : Option (List UInt8) → Int
  | some _ => 0
  | none => 2
theorem getR_eq (o : Option (List UInt8)) : getR o = .tup [getA o, .v (.int .i64 (getE o))] := by cases o <;> rfl
theorem thaw_getR' (o : Option (List UInt8)) : (AV.tup [getA o, .v (.int .i64 (getE o))]).thaw {} 4 = some (getR o) := by
  cases o with
  | none => rfl
  | some l => cases l <;> rfl
theorem GetURL_ok (l : List UInt8) (hl : l.length < 2 ^ 40) : PureOk (cfgP prim3) 15 [str l] (getR (get64 45 95 l)) := by
  refine pure_of_wk (call := noCall) (fn := Tryd.f15) (rs := [.tmp 2, .tmp 3]) cok3 noCall_ok (fns_cfg Tryd.func15 rfl) rfl rfl ?_
  intro env hl0 ha
  have hn : env.length = 10 := hl0
  have h0 := ha 0 _ rfl
  clear ha hl0
  refine wkT_of ?_
  simp -dsimp only [hn, h0, gl1, part44c, ct_prim prim3_33, bare_str, getP_eq hl, getR_eq, wt_seq, wt_block, wt_region, wt_cond, wt_skip, wt_ret, wt_exit, wst_nil, wst_app_nil, wst_app_cons, wst_cons, wst_guard, andThen_normal, andThen_ret, andThen_exit, leave_normal, leave_ret, leave_exit, EndsA_ret, EndsA_normal, ot_move, ot_assign, ot_pick, ot_binOp, ot_unOp, ot_convert, ot_field, ot_index, ot_indexAddr, ot_fieldAddr, ot_slice, ot_build, ot_buildSlice, ot_extract, ot_makeInterface, ot_makeFunc, ot_nilCheck, ot_call, ot_len, ot_append, ot_box, ot_load, ot_store, ot_makeSlice, ct_bool, ct_true, ct_false, bt_some, gt_some, aval_tmp, aval_int, aval_bool, aval_str, aval_slice, aval_nilPointer, aval_nilIface, aval_func, aval_global, avals, apairs, bareP, AV.bare, AV.bares, bin_lss, bin_leq, bin_gtr, bin_geq, bin_eql, bin_neq, bin_add, bin_sub, bin_mul, bin_and, bin_or, bin_xor, toV_int, toV_bool, toV_string, un_neg, un_not, bin_str_eql, bin_str_neq, bin_str_lss, bin_str_leq, bin_str_gtr, bin_str_geq, aget_aput, length_aput, aput_none, Nat.reduceEqDiff, Nat.reduceLT, Nat.reduceAdd, reduceIte, reduceCtorEq, Bool.not_false, Bool.not_true, Bool.true_or, true_and, Option.bind_some, Option.map_some, List.nil_append, List.cons_append, resA, resA1, resVal, Option.getD_some, Nat.reduceLeDiff, bnd_some, yieldA_eq, yldOf_some, boolOf_bool, boolOf_undef, gt_none, List.getElem?_toArray, List.getElem?_cons_succ, List.getElem?_cons_zero, bq_true, bq_false, decide_true, decide_false, Option.toList_none, Option.toList_some, List.head?_cons, List.head?_nil, nb_cfg, not_false_eq_true, cv_some, pm_some, pm_none, plainA_v, plain_bool, plain_int, plain_str, Bool.false_eq_true, if_false]
  exact ⟨4, by rw [thaw_getR', getR_eq]⟩
def putW (p s : UInt8) : List AV → Option AV
  | [x] => match dB x with
    | some l => if l.length < 2 ^ 40 then some (str (put64 p s l)) else none
    | none => none
  | _ => none
def getW (p s : UInt8) : List AV → Option AV
  | [x] => match dS x with
    | some l => if l.length < 2 ^ 40 then some (getR (get64 p s l)) else none
    | none => none
  | _ => none
theorem putW_eq {x : AV} {l : List UInt8} {p s : UInt8} (h : elems x = some (byts l)) (hl : l.length < 2 ^ 40) : putW p s [x] = some (str (put64 p s l)) := by simp only [putW, dB_iff.2 h, hl, if_true]
theorem getW_eq {l : List UInt8} {p s : UInt8} (hl : l.length < 2 ^ 40) : getW p s [str l] = some (getR (get64 p s l)) := by simp only [getW, dS_str, hl, if_true]
theorem putW_ok {p s : UInt8} {f : FuncId} (hc : ∀ x l, elems x = some (byts l) → l.length < 2 ^ 40 → PureOk (cfgP prim3) f [x] (str (put64 p s l))) {xs : List AV} {r : AV} (h : putW p s xs = some r) : PureOk (cfgP prim3) f xs r := by
  unfold putW at h
  split at h
  · split at h
    · rename_i l h1
      split at h
      · rename_i hl
        injection h with h; subst h
        exact hc _ l (dB_iff.1 h1) hl
      · cases h
    · cases h
  · cases h
theorem getW_ok {p s : UInt8} {f : FuncId} (hc : ∀ l : List UInt8, l.length < 2 ^ 40 → PureOk (cfgP prim3) f [str l] (getR (get64 p s l))) {xs : List AV} {r : AV} (h : getW p s xs = some r) : PureOk (cfgP prim3) f xs r := by
  unfold getW at h
  split at h
  · split at h
    · rename_i l h1
      split at h
      · rename_i hl
        injection h with h; subst h
        rw [dS_iff] at h1
        subst h1
        exact hc l hl
      · cases h
    · cases h
  · cases h
def awakeP : List AV → Option AV
  | [] => some (.v (.bool true))
  | _ => none
end Go.Proofs.YtonmpbfddiflhaaDoor
