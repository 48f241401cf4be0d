/- Contracts of functions, and plain facts about what they compute. -/
import Derived.Test.YtonmpbfddiflhaaTx
import Derived.Test.YtonmpbfddiflhaaAmD
set_option linter.unusedSimpArgs false
set_option linter.unusedVariables false
/- KeysKnown: by computing. -/
namespace Go.Proofs.Ytonmpbfddiflhaa
open Go.AM
def ky0 : FuncId → Option (List AV → Option AV) := tab [(26, (boolP serverB)), (27, (boolP keyIDB))]
theorem ky0_ok : (cfgP ky0).Ok := cfgOf_ok mixed fok (tab_ok ⟨prim_at Try.func26 (by kernel_rfl) rfl (boolP_of server_ok), prim_at Try.func27 (by kernel_rfl) rfl (boolP_of keyID_ok), trivial⟩)
theorem ky0_26 : (cfgP ky0).prim 26 = some (boolP serverB) := rfl
theorem ky0_27 : (cfgP ky0).prim 27 = some (boolP keyIDB) := rfl
theorem keysKnown_run : (callA (cfgP ky0) 5000 4 [] {}).map (·.1) = some (.v (.bool true)) := by kernel_rfl
end Go.Proofs.Ytonmpbfddiflhaa

/- Keys: windows, whether two clash, whether one may be. -/
namespace Go.Proofs.Ytonmpbfddiflhaa
open Go.AM
/-- A key, as the machine has it. -/
structure KeyA where
  sv : List UInt8
  id : List UInt8
  p : AV
  f : Int
  u : Int
def KeyA.av (k : KeyA) : AV := .agg [str k.sv, str k.id, k.p, .v (.int .i64 k.f), .v (.int .i64 k.u)]
/-- Its bytes are bytes. -/
def KeyA.ok (k : KeyA) (l : List UInt8) : Prop := elems k.p = some (byts l) ∧ AV.bare k.p = some k.p ∧ k.p.flat = true
theorem KeyA.bare {k : KeyA} {l : List UInt8} (h : k.ok l) : AV.bare (.agg [str k.sv, str k.id, k.p, .v (.int .i64 k.f), .v (.int .i64 k.u)]) = some (.agg [str k.sv, str k.id, k.p, .v (.int .i64 k.f), .v (.int .i64 k.u)]) := by
  simp only [AV.bare, AV.bares, str, h.2.1, Option.map_some]
theorem KeyA.flat {k : KeyA} {l : List UInt8} (h : k.ok l) : (AV.agg [str k.sv, str k.id, k.p, .v (.int .i64 k.f), .v (.int .i64 k.u)]).cells.all AV.flat = true := by
  simp only [AV.cells, List.all_cons, h.2.2, List.all_nil]
  rfl
section
variable {prim : FuncId → Option (List AV → Option AV)}
theorem faK0 {x : AV} {j : Nat} : fieldAddrA (cfgP prim) 28 (.rp x j) 0 = some (.rp x (j + 0)) := by kernel_rfl
theorem faK1 {x : AV} {j : Nat} : fieldAddrA (cfgP prim) 28 (.rp x j) 1 = some (.rp x (j + 1)) := by kernel_rfl
theorem faK2 {x : AV} {j : Nat} : fieldAddrA (cfgP prim) 28 (.rp x j) 2 = some (.rp x (j + 2)) := by kernel_rfl
theorem faK3 {x : AV} {j : Nat} : fieldAddrA (cfgP prim) 28 (.rp x j) 3 = some (.rp x (j + 3)) := by kernel_rfl
theorem faK4 {x : AV} {j : Nat} : fieldAddrA (cfgP prim) 28 (.rp x j) 4 = some (.rp x (j + 4)) := by kernel_rfl
theorem faW3 {x : AV} {j : Nat} : fieldAddrA (cfgP prim) 43 (.rp x j) 3 = some (.rp x (j + 3)) := by kernel_rfl
theorem faW4 {x : AV} {j : Nat} : fieldAddrA (cfgP prim) 43 (.rp x j) 4 = some (.rp x (j + 4)) := by kernel_rfl
theorem pt9 {cs : List AV} {j : Nat} : partA (cfgP prim) 9 cs j = cs[j]? := by kernel_rfl
theorem pt2 {cs : List AV} {j : Nat} : partA (cfgP prim) 2 cs j = cs[j]? := by kernel_rfl
theorem pt26 {cs : List AV} {j : Nat} : partA (cfgP prim) 26 cs j = cs[j]? := by kernel_rfl
theorem ptK {a b c d e : AV} : partA (cfgP prim) 28 [a, b, c, d, e] 0 = some (.agg [a, b, c, d, e]) := by kernel_rfl
theorem lenBy {x : AV} {l : List UInt8} (h : elems x = some (byts l)) : lenA (cfgP prim) #[26] [x] = some (.v (.int .i64 l.length)) := by
  have := len_elems (C := cfgP prim) (ts := #[26]) (e := 5) (by kernel_rfl) h
  rw [this]
  simp [byts]
end
theorem andB {p q : Prop} [Decidable p] [Decidable q] : (decide p && decide q) = decide (p ∧ q) := by simp
/-- When a key counts. -/
def KeyA.has (k : KeyA) (ts : Int) : Bool := decide (k.f ≤ ts) && decide (ts ≤ k.u)
theorem has_ok (k : KeyA) (l : List UInt8) (h : k.ok l) (ts : Int) : PureOk (cfgP ky0) 20 [k.av, .v (.int .i64 ts)] (.v (.bool (k.has ts))) := by
  have hb := KeyA.bare h
  have hf := KeyA.flat h
  unfold KeyA.av
  refine pure_of_wk (call := noCall) (fn := Try.f20) (rs := [.tmp 4]) ky0_ok noCall_ok (fns_cfg Try.func20 rfl) rfl rfl ?_
  intro env hl0 hargs
  have hn : env.length = 15 := hl0
  have h0 := hargs 0 _ rfl
  have h1 := hargs 1 _ rfl
  clear hargs hl0
  refine wkT_of ?_
  simp -dsimp only [hn, h0, h1, ro_cfg 20 2, bxt_ro hb hf, faW3, faW4, AV.cells, pt2, Nat.zero_add, wt_seq, wt_block, wt_region, wt_cond, wt_skip, wt_ret, wt_exit, wst_nil, wst_app_nil, wst_app_cons, wst_cons, wst_guard, andThen_normal, andThen_ret, andThen_exit, leave_normal, leave_ret, leave_exit, EndsA_ret, EndsA_normal, ot_move, ot_assign, ot_pick, ot_binOp, ot_unOp, ot_convert, ot_field, ot_index, ot_indexAddr, ot_fieldAddr, ot_slice, ot_build, ot_buildSlice, ot_extract, ot_makeInterface, ot_makeFunc, ot_nilCheck, ot_call, ot_len, ot_append, ot_box, ot_load, ot_store, ot_makeSlice, ct_bool, ct_true, ct_false, bt_some, gt_some, aval_tmp, aval_int, aval_bool, aval_str, aval_slice, aval_nilPointer, aval_nilIface, aval_func, aval_global, avals, apairs, bareP, AV.bare, AV.bares, bin_lss, bin_leq, bin_gtr, bin_geq, bin_eql, bin_neq, bin_add, bin_sub, bin_mul, bin_and, bin_or, bin_xor, toV_int, toV_bool, toV_string, un_neg, un_not, bin_str_eql, bin_str_neq, bin_str_lss, bin_str_leq, bin_str_gtr, bin_str_geq, aget_aput, length_aput, aput_none, Nat.reduceEqDiff, Nat.reduceLT, Nat.reduceAdd, reduceIte, reduceCtorEq, Bool.not_false, Bool.not_true, Bool.true_or, true_and, Option.bind_some, Option.map_some, List.nil_append, List.cons_append, resA, resA1, resVal, Option.getD_some, Nat.reduceLeDiff, bnd_some, yieldA_eq, yldOf_some, boolOf_bool, boolOf_undef, gt_none, List.getElem?_toArray, List.getElem?_cons_succ, List.getElem?_cons_zero, bq_true, bq_false, decide_true, decide_false, Option.toList_none, Option.toList_some, List.head?_cons, List.head?_nil, nb_cfg, cv_some, pm_some, pm_none, plainA_v, plain_bool, plain_int, plain_str, Bool.false_eq_true, if_false]
  repeat (apply gm_step; (case h1 => intro hg; (try simp only [Bool.and_eq_true, Bool.not_eq_true', Bool.or_eq_false_iff, Bool.not_or, Bool.not_not] at hg); simp -dsimp only [hn, h0, h1, faW3, faW4, AV.cells, pt2, Nat.zero_add, hg, Bool.and_true, Bool.true_and, Bool.or_false, Bool.not_false, Bool.not_true, pk_or, pk_and, pk_and', pk_or', wt_seq, wt_block, wt_region, wt_cond, wt_skip, wt_ret, wt_exit, wst_nil, wst_app_nil, wst_app_cons, wst_cons, wst_guard, andThen_normal, andThen_ret, andThen_exit, leave_normal, leave_ret, leave_exit, EndsA_ret, EndsA_normal, ot_move, ot_assign, ot_pick, ot_binOp, ot_unOp, ot_convert, ot_field, ot_index, ot_indexAddr, ot_fieldAddr, ot_slice, ot_build, ot_buildSlice, ot_extract, ot_makeInterface, ot_makeFunc, ot_nilCheck, ot_call, ot_len, ot_append, ot_box, ot_load, ot_store, ot_makeSlice, ct_bool, ct_true, ct_false, bt_some, gt_some, aval_tmp, aval_int, aval_bool, aval_str, aval_slice, aval_nilPointer, aval_nilIface, aval_func, aval_global, avals, apairs, bareP, AV.bare, AV.bares, bin_lss, bin_leq, bin_gtr, bin_geq, bin_eql, bin_neq, bin_add, bin_sub, bin_mul, bin_and, bin_or, bin_xor, toV_int, toV_bool, toV_string, un_neg, un_not, bin_str_eql, bin_str_neq, bin_str_lss, bin_str_leq, bin_str_gtr, bin_str_geq, aget_aput, length_aput, aput_none, Nat.reduceEqDiff, Nat.reduceLT, Nat.reduceAdd, reduceIte, reduceCtorEq, Bool.not_false, Bool.not_true, Bool.true_or, true_and, Option.bind_some, Option.map_some, List.nil_append, List.cons_append, resA, resA1, resVal, Option.getD_some, Nat.reduceLeDiff, bnd_some, yieldA_eq, yldOf_some, boolOf_bool, boolOf_undef, gt_none, List.getElem?_toArray, List.getElem?_cons_succ, List.getElem?_cons_zero, bq_true, bq_false, decide_true, decide_false, Option.toList_none, Option.toList_some, List.head?_cons, List.head?_nil, nb_cfg, cv_some, pm_some, pm_none, plainA_v, plain_bool, plain_int, plain_str, Bool.false_eq_true, if_false]; exact ⟨rfl, rfl, rfl⟩); (try simp -dsimp only [hn, h0, h1, faW3, faW4, AV.cells, pt2, Nat.zero_add, pk_and, pk_or, pk_and', pk_or', gt_ite, ite_self, wt_seq, wt_block, wt_region, wt_cond, wt_skip, wt_ret, wt_exit, wst_nil, wst_app_nil, wst_app_cons, wst_cons, wst_guard, andThen_normal, andThen_ret, andThen_exit, leave_normal, leave_ret, leave_exit, EndsA_ret, EndsA_normal, ot_move, ot_assign, ot_pick, ot_binOp, ot_unOp, ot_convert, ot_field, ot_index, ot_indexAddr, ot_fieldAddr, ot_slice, ot_build, ot_buildSlice, ot_extract, ot_makeInterface, ot_makeFunc, ot_nilCheck, ot_call, ot_len, ot_append, ot_box, ot_load, ot_store, ot_makeSlice, ct_bool, ct_true, ct_false, bt_some, gt_some, aval_tmp, aval_int, aval_bool, aval_str, aval_slice, aval_nilPointer, aval_nilIface, aval_func, aval_global, avals, apairs, bareP, AV.bare, AV.bares, bin_lss, bin_leq, bin_gtr, bin_geq, bin_eql, bin_neq, bin_add, bin_sub, bin_mul, bin_and, bin_or, bin_xor, toV_int, toV_bool, toV_string, un_neg, un_not, bin_str_eql, bin_str_neq, bin_str_lss, bin_str_leq, bin_str_gtr, bin_str_geq, aget_aput, length_aput, aput_none, Nat.reduceEqDiff, Nat.reduceLT, Nat.reduceAdd, reduceIte, reduceCtorEq, Bool.not_false, Bool.not_true, Bool.true_or, true_and, Option.bind_some, Option.map_some, List.nil_append, List.cons_append, resA, resA1, resVal, Option.getD_some, Nat.reduceLeDiff, bnd_some, yieldA_eq, yldOf_some, boolOf_bool, boolOf_undef, gt_none, List.getElem?_toArray, List.getElem?_cons_succ, List.getElem?_cons_zero, bq_true, bq_false, decide_true, decide_false, Option.toList_none, Option.toList_some, List.head?_cons, List.head?_nil, nb_cfg, cv_some, pm_some, pm_none, plainA_v, plain_bool, plain_int, plain_str, Bool.false_eq_true, if_false]))
  exact ⟨1, rfl⟩
def pubOf : AV → Option (List UInt8)
  | .v (.slice none 0 0) => some []
  | .ro xs => decL decByte xs
  | _ => none
theorem pubOf_ok {p : AV} {l : List UInt8} (h : pubOf p = some l) : elems p = some (byts l) ∧ AV.bare p = some p ∧ p.flat = true := by
  unfold pubOf at h
  split at h
  · injection h with h; subst h
    exact ⟨rfl, rfl, rfl⟩
  · have := (decL_iff (fun _ _ => decByte_iff)).1 h
    subst this
    exact ⟨rfl, rfl, rfl⟩
  · cases h
def decK : AV → Option (KeyA × List UInt8)
  | .agg [s, i, p, .v (.int .i64 f), .v (.int .i64 u)] => match dS s, dS i, pubOf p with
    | some s, some i, some l => some (⟨s, i, p, f, u⟩, l)
    | _, _, _ => none
  | _ => none
theorem decK_ok {x : AV} {k : KeyA} {l : List UInt8} (h : decK x = some (k, l)) : x = k.av ∧ pubOf k.p = some l := by
  unfold decK at h
  split at h
  · split at h
    · rename_i s i l' h1 h2 h3
      injection h with h
      injection h with h4 h5
      subst h4; subst h5
      rw [dS_iff] at h1 h2
      subst h1 h2
      exact ⟨rfl, h3⟩
    · cases h
  · cases h
theorem decK_av {k : KeyA} {l : List UInt8} (h : pubOf k.p = some l) : decK k.av = some (k, l) := by
  unfold KeyA.av decK
  simp only [dS_str, h]
def khP : List AV → Option AV
  | [x, .v (.int .i64 ts)] => (decK x).map fun k => .v (.bool (k.1.has ts))
  | _ => none
theorem khP_eq {k : KeyA} {l : List UInt8} (h : pubOf k.p = some l) {ts : Int} : khP [.agg [str k.sv, str k.id, k.p, .v (.int .i64 k.f), .v (.int .i64 k.u)], .v (.int .i64 ts)] = some (.v (.bool (k.has ts))) := by
  have := decK_av h
  unfold KeyA.av at this
  simp only [khP, this, Option.map_some]
theorem khP_ok : ∀ xs r, khP xs = some r → PureOk (cfgP ky0) 20 xs r := by
  intro xs r hx
  unfold khP at hx
  split at hx
  · rw [Option.map_eq_some_iff] at hx
    obtain ⟨⟨k, l⟩, hk, rfl⟩ := hx
    obtain ⟨rfl, h⟩ := decK_ok hk
    exact has_ok k l (pubOf_ok h) _
  · cases hx
def ky1 : FuncId → Option (List AV → Option AV) := tab [(26, (boolP serverB)), (27, (boolP keyIDB)), (20, khP)]
theorem ky1_ok : (cfgP ky1).Ok := cfgOf_ok mixed fok (tab_ok ⟨prim_at Try.func26 (by kernel_rfl) rfl (boolP_of server_ok), prim_at Try.func27 (by kernel_rfl) rfl (boolP_of keyID_ok), prim_at Try.func20 (by kernel_rfl) rfl (khP_ok), trivial⟩)
theorem ky1_26 : (cfgP ky1).prim 26 = some (boolP serverB) := rfl
theorem ky1_27 : (cfgP ky1).prim 27 = some (boolP keyIDB) := rfl
theorem ky1_20 : (cfgP ky1).prim 20 = some khP := rfl
/-- Whether two of one name count at one time. -/
def clashB (a b : KeyA) : Bool := decide (a.sv = b.sv) && decide (a.id = b.id) && (a.has b.f || b.has a.f)
theorem clash_ok (a b : KeyA) (la lb : List UInt8) (ha : pubOf a.p = some la) (hb : pubOf b.p = some lb) : PureOk (cfgP ky1) 19 [a.av, b.av] (.v (.bool (clashB a b))) := by
  have ba := KeyA.bare (pubOf_ok ha)
  have fa := KeyA.flat (pubOf_ok ha)
  have bb := KeyA.bare (pubOf_ok hb)
  have fb := KeyA.flat (pubOf_ok hb)
  have hpa := (pubOf_ok ha).2.1
  have hpb := (pubOf_ok hb).2.1
  unfold KeyA.av
  refine pure_of_wk (call := noCall) (fn := Try.f19) (rs := [.tmp 4]) ky1_ok noCall_ok (fns_cfg Try.func19 rfl) rfl rfl ?_
  intro env hl0 hargs
  have hn : env.length = 32 := hl0
  have h0 := hargs 0 _ rfl
  have h1 := hargs 1 _ rfl
  clear hargs hl0
  refine wkT_of ?_
  simp -dsimp only [hn, h0, h1, ro_cfg 19 2, ro_cfg 19 3, bxt_ro ba fa, bxt_ro bb fb, faK0, faK1, AV.cells, pt9, Nat.zero_add, Nat.add_zero, wt_seq, wt_block, wt_region, wt_cond, wt_skip, wt_ret, wt_exit, wst_nil, wst_app_nil, wst_app_cons, wst_cons, wst_guard, andThen_normal, andThen_ret, andThen_exit, leave_normal, leave_ret, leave_exit, EndsA_ret, EndsA_normal, ot_move, ot_assign, ot_pick, ot_binOp, ot_unOp, ot_convert, ot_field, ot_index, ot_indexAddr, ot_fieldAddr, ot_slice, ot_build, ot_buildSlice, ot_extract, ot_makeInterface, ot_makeFunc, ot_nilCheck, ot_call, ot_len, ot_append, ot_box, ot_load, ot_store, ot_makeSlice, ct_bool, ct_true, ct_false, bt_some, gt_some, aval_tmp, aval_int, aval_bool, aval_str, aval_slice, aval_nilPointer, aval_nilIface, aval_func, aval_global, avals, apairs, bareP, AV.bare, AV.bares, bin_lss, bin_leq, bin_gtr, bin_geq, bin_eql, bin_neq, bin_add, bin_sub, bin_mul, bin_and, bin_or, bin_xor, toV_int, toV_bool, toV_string, un_neg, un_not, bin_str_eql, bin_str_neq, bin_str_lss, bin_str_leq, bin_str_gtr, bin_str_geq, aget_aput, length_aput, aput_none, Nat.reduceEqDiff, Nat.reduceLT, Nat.reduceAdd, reduceIte, reduceCtorEq, Bool.not_false, Bool.not_true, Bool.true_or, true_and, Option.bind_some, Option.map_some, List.nil_append, List.cons_append, resA, resA1, resVal, Option.getD_some, Nat.reduceLeDiff, bnd_some, yieldA_eq, yldOf_some, boolOf_bool, boolOf_undef, gt_none, List.getElem?_toArray, List.getElem?_cons_succ, List.getElem?_cons_zero, bq_true, bq_false, decide_true, decide_false, Option.toList_none, Option.toList_some, List.head?_cons, List.head?_nil, nb_cfg, cv_some, pm_some, pm_none, plainA_v, plain_bool, plain_int, plain_str, Bool.false_eq_true, if_false]
  repeat (apply gm_step; (case h1 => intro hg; (try simp only [Bool.and_eq_true, Bool.not_eq_true', Bool.or_eq_false_iff, Bool.not_or, Bool.not_not] at hg); simp -dsimp only [hn, h0, h1, faK0, faK1, faK3, AV.cells, pt9, pt2, Nat.zero_add, Nat.add_zero, ptK, ct_prim ky1_20, bare_s, hpa, hpb, khP_eq ha, khP_eq hb, hg, Bool.and_true, Bool.true_and, Bool.or_false, Bool.not_false, Bool.not_true, pk_or, pk_and, pk_and', pk_or', wt_seq, wt_block, wt_region, wt_cond, wt_skip, wt_ret, wt_exit, wst_nil, wst_app_nil, wst_app_cons, wst_cons, wst_guard, andThen_normal, andThen_ret, andThen_exit, leave_normal, leave_ret, leave_exit, EndsA_ret, EndsA_normal, ot_move, ot_assign, ot_pick, ot_binOp, ot_unOp, ot_convert, ot_field, ot_index, ot_indexAddr, ot_fieldAddr, ot_slice, ot_build, ot_buildSlice, ot_extract, ot_makeInterface, ot_makeFunc, ot_nilCheck, ot_call, ot_len, ot_append, ot_box, ot_load, ot_store, ot_makeSlice, ct_bool, ct_true, ct_false, bt_some, gt_some, aval_tmp, aval_int, aval_bool, aval_str, aval_slice, aval_nilPointer, aval_nilIface, aval_func, aval_global, avals, apairs, bareP, AV.bare, AV.bares, bin_lss, bin_leq, bin_gtr, bin_geq, bin_eql, bin_neq, bin_add, bin_sub, bin_mul, bin_and, bin_or, bin_xor, toV_int, toV_bool, toV_string, un_neg, un_not, bin_str_eql, bin_str_neq, bin_str_lss, bin_str_leq, bin_str_gtr, bin_str_geq, aget_aput, length_aput, aput_none, Nat.reduceEqDiff, Nat.reduceLT, Nat.reduceAdd, reduceIte, reduceCtorEq, Bool.not_false, Bool.not_true, Bool.true_or, true_and, Option.bind_some, Option.map_some, List.nil_append, List.cons_append, resA, resA1, resVal, Option.getD_some, Nat.reduceLeDiff, bnd_some, yieldA_eq, yldOf_some, boolOf_bool, boolOf_undef, gt_none, List.getElem?_toArray, List.getElem?_cons_succ, List.getElem?_cons_zero, bq_true, bq_false, decide_true, decide_false, Option.toList_none, Option.toList_some, List.head?_cons, List.head?_nil, nb_cfg, cv_some, pm_some, pm_none, plainA_v, plain_bool, plain_int, plain_str, Bool.false_eq_true, if_false]; exact ⟨rfl, rfl, rfl⟩); (try simp -dsimp only [hn, h0, h1, faK0, faK1, faK3, AV.cells, pt9, pt2, Nat.zero_add, Nat.add_zero, ptK, ct_prim ky1_20, bare_s, hpa, hpb, khP_eq ha, khP_eq hb, pk_and, pk_or, pk_and', pk_or', gt_ite, ite_self, wt_seq, wt_block, wt_region, wt_cond, wt_skip, wt_ret, wt_exit, wst_nil, wst_app_nil, wst_app_cons, wst_cons, wst_guard, andThen_normal, andThen_ret, andThen_exit, leave_normal, leave_ret, leave_exit, EndsA_ret, EndsA_normal, ot_move, ot_assign, ot_pick, ot_binOp, ot_unOp, ot_convert, ot_field, ot_index, ot_indexAddr, ot_fieldAddr, ot_slice, ot_build, ot_buildSlice, ot_extract, ot_makeInterface, ot_makeFunc, ot_nilCheck, ot_call, ot_len, ot_append, ot_box, ot_load, ot_store, ot_makeSlice, ct_bool, ct_true, ct_false, bt_some, gt_some, aval_tmp, aval_int, aval_bool, aval_str, aval_slice, aval_nilPointer, aval_nilIface, aval_func, aval_global, avals, apairs, bareP, AV.bare, AV.bares, bin_lss, bin_leq, bin_gtr, bin_geq, bin_eql, bin_neq, bin_add, bin_sub, bin_mul, bin_and, bin_or, bin_xor, toV_int, toV_bool, toV_string, un_neg, un_not, bin_str_eql, bin_str_neq, bin_str_lss, bin_str_leq, bin_str_gtr, bin_str_geq, aget_aput, length_aput, aput_none, Nat.reduceEqDiff, Nat.reduceLT, Nat.reduceAdd, reduceIte, reduceCtorEq, Bool.not_false, Bool.not_true, Bool.true_or, true_and, Option.bind_some, Option.map_some, List.nil_append, List.cons_append, resA, resA1, resVal, Option.getD_some, Nat.reduceLeDiff, bnd_some, yieldA_eq, yldOf_some, boolOf_bool, boolOf_undef, gt_none, List.getElem?_toArray, List.getElem?_cons_succ, List.getElem?_cons_zero, bq_true, bq_false, decide_true, decide_false, Option.toList_none, Option.toList_some, List.head?_cons, List.head?_nil, nb_cfg, cv_some, pm_some, pm_none, plainA_v, plain_bool, plain_int, plain_str, Bool.false_eq_true, if_false]))
  exact ⟨1, rfl⟩
def goodB (k : KeyA) (l : List UInt8) : Bool := serverB k.sv && keyIDB k.id && decide (((l.length : Nat) : Int) = 32) && decide (0 ≤ k.f) && decide (k.f ≤ k.u)
theorem good_ok (k : KeyA) (l : List UInt8) (h : pubOf k.p = some l) (h1 : k.sv.length < 2 ^ 63) (h2 : k.id.length < 2 ^ 63) : PureOk (cfgP ky1) 12 [k.av] (.v (.bool (goodB k l))) := by
  have hb := KeyA.bare (pubOf_ok h)
  have hf := KeyA.flat (pubOf_ok h)
  have hp := (pubOf_ok h).1
  unfold KeyA.av
  refine pure_of_wk (call := noCall) (fn := Try.f12) (rs := [.tmp 2]) ky1_ok noCall_ok (fns_cfg Try.func12 rfl) rfl rfl ?_
  intro env hl0 hargs
  have hn : env.length = 29 := hl0
  have h0 := hargs 0 _ rfl
  clear hargs hl0
  refine wkT_of ?_
  simp -dsimp only [hn, h0, ro_cfg 12 1, bxt_ro hb hf, faK0, AV.cells, pt9, Nat.zero_add, Nat.add_zero, ct_prim ky1_26, bare_s, boolP_eq (q := serverB) h1, wt_seq, wt_block, wt_region, wt_cond, wt_skip, wt_ret, wt_exit, wst_nil, wst_app_nil, wst_app_cons, wst_cons, wst_guard, andThen_normal, andThen_ret, andThen_exit, leave_normal, leave_ret, leave_exit, EndsA_ret, EndsA_normal, ot_move, ot_assign, ot_pick, ot_binOp, ot_unOp, ot_convert, ot_field, ot_index, ot_indexAddr, ot_fieldAddr, ot_slice, ot_build, ot_buildSlice, ot_extract, ot_makeInterface, ot_makeFunc, ot_nilCheck, ot_call, ot_len, ot_append, ot_box, ot_load, ot_store, ot_makeSlice, ct_bool, ct_true, ct_false, bt_some, gt_some, aval_tmp, aval_int, aval_bool, aval_str, aval_slice, aval_nilPointer, aval_nilIface, aval_func, aval_global, avals, apairs, bareP, AV.bare, AV.bares, bin_lss, bin_leq, bin_gtr, bin_geq, bin_eql, bin_neq, bin_add, bin_sub, bin_mul, bin_and, bin_or, bin_xor, toV_int, toV_bool, toV_string, un_neg, un_not, bin_str_eql, bin_str_neq, bin_str_lss, bin_str_leq, bin_str_gtr, bin_str_geq, aget_aput, length_aput, aput_none, Nat.reduceEqDiff, Nat.reduceLT, Nat.reduceAdd, reduceIte, reduceCtorEq, Bool.not_false, Bool.not_true, Bool.true_or, true_and, Option.bind_some, Option.map_some, List.nil_append, List.cons_append, resA, resA1, resVal, Option.getD_some, Nat.reduceLeDiff, bnd_some, yieldA_eq, yldOf_some, boolOf_bool, boolOf_undef, gt_none, List.getElem?_toArray, List.getElem?_cons_succ, List.getElem?_cons_zero, bq_true, bq_false, decide_true, decide_false, Option.toList_none, Option.toList_some, List.head?_cons, List.head?_nil, nb_cfg, cv_some, pm_some, pm_none, plainA_v, plain_bool, plain_int, plain_str, Bool.false_eq_true, if_false]
  repeat (apply gm_step; (case h1 => intro hg; (try simp only [Bool.and_eq_true, Bool.not_eq_true', Bool.or_eq_false_iff, Bool.not_or, Bool.not_not] at hg); simp -dsimp only [hn, h0, faK0, faK1, faK2, faK3, faK4, AV.cells, pt9, pt2, pt26, Nat.zero_add, Nat.add_zero, ct_prim ky1_27, bare_s, boolP_eq (q := keyIDB) h2, lenBy hp, hg, Bool.and_true, Bool.true_and, Bool.or_false, Bool.not_false, Bool.not_true, pk_or, pk_and, pk_and', pk_or', wt_seq, wt_block, wt_region, wt_cond, wt_skip, wt_ret, wt_exit, wst_nil, wst_app_nil, wst_app_cons, wst_cons, wst_guard, andThen_normal, andThen_ret, andThen_exit, leave_normal, leave_ret, leave_exit, EndsA_ret, EndsA_normal, ot_move, ot_assign, ot_pick, ot_binOp, ot_unOp, ot_convert, ot_field, ot_index, ot_indexAddr, ot_fieldAddr, ot_slice, ot_build, ot_buildSlice, ot_extract, ot_makeInterface, ot_makeFunc, ot_nilCheck, ot_call, ot_len, ot_append, ot_box, ot_load, ot_store, ot_makeSlice, ct_bool, ct_true, ct_false, bt_some, gt_some, aval_tmp, aval_int, aval_bool, aval_str, aval_slice, aval_nilPointer, aval_nilIface, aval_func, aval_global, avals, apairs, bareP, AV.bare, AV.bares, bin_lss, bin_leq, bin_gtr, bin_geq, bin_eql, bin_neq, bin_add, bin_sub, bin_mul, bin_and, bin_or, bin_xor, toV_int, toV_bool, toV_string, un_neg, un_not, bin_str_eql, bin_str_neq, bin_str_lss, bin_str_leq, bin_str_gtr, bin_str_geq, aget_aput, length_aput, aput_none, Nat.reduceEqDiff, Nat.reduceLT, Nat.reduceAdd, reduceIte, reduceCtorEq, Bool.not_false, Bool.not_true, Bool.true_or, true_and, Option.bind_some, Option.map_some, List.nil_append, List.cons_append, resA, resA1, resVal, Option.getD_some, Nat.reduceLeDiff, bnd_some, yieldA_eq, yldOf_some, boolOf_bool, boolOf_undef, gt_none, List.getElem?_toArray, List.getElem?_cons_succ, List.getElem?_cons_zero, bq_true, bq_false, decide_true, decide_false, Option.toList_none, Option.toList_some, List.head?_cons, List.head?_nil, nb_cfg, cv_some, pm_some, pm_none, plainA_v, plain_bool, plain_int, plain_str, Bool.false_eq_true, if_false]; exact ⟨rfl, rfl, rfl⟩); (try simp -dsimp only [hn, h0, faK0, faK1, faK2, faK3, faK4, AV.cells, pt9, pt2, pt26, Nat.zero_add, Nat.add_zero, ct_prim ky1_27, bare_s, boolP_eq (q := keyIDB) h2, lenBy hp, pk_and, pk_or, pk_and', pk_or', gt_ite, ite_self, wt_seq, wt_block, wt_region, wt_cond, wt_skip, wt_ret, wt_exit, wst_nil, wst_app_nil, wst_app_cons, wst_cons, wst_guard, andThen_normal, andThen_ret, andThen_exit, leave_normal, leave_ret, leave_exit, EndsA_ret, EndsA_normal, ot_move, ot_assign, ot_pick, ot_binOp, ot_unOp, ot_convert, ot_field, ot_index, ot_indexAddr, ot_fieldAddr, ot_slice, ot_build, ot_buildSlice, ot_extract, ot_makeInterface, ot_makeFunc, ot_nilCheck, ot_call, ot_len, ot_append, ot_box, ot_load, ot_store, ot_makeSlice, ct_bool, ct_true, ct_false, bt_some, gt_some, aval_tmp, aval_int, aval_bool, aval_str, aval_slice, aval_nilPointer, aval_nilIface, aval_func, aval_global, avals, apairs, bareP, AV.bare, AV.bares, bin_lss, bin_leq, bin_gtr, bin_geq, bin_eql, bin_neq, bin_add, bin_sub, bin_mul, bin_and, bin_or, bin_xor, toV_int, toV_bool, toV_string, un_neg, un_not, bin_str_eql, bin_str_neq, bin_str_lss, bin_str_leq, bin_str_gtr, bin_str_geq, aget_aput, length_aput, aput_none, Nat.reduceEqDiff, Nat.reduceLT, Nat.reduceAdd, reduceIte, reduceCtorEq, Bool.not_false, Bool.not_true, Bool.true_or, true_and, Option.bind_some, Option.map_some, List.nil_append, List.cons_append, resA, resA1, resVal, Option.getD_some, Nat.reduceLeDiff, bnd_some, yieldA_eq, yldOf_some, boolOf_bool, boolOf_undef, gt_none, List.getElem?_toArray, List.getElem?_cons_succ, List.getElem?_cons_zero, bq_true, bq_false, decide_true, decide_false, Option.toList_none, Option.toList_some, List.head?_cons, List.head?_nil, nb_cfg, cv_some, pm_some, pm_none, plainA_v, plain_bool, plain_int, plain_str, Bool.false_eq_true, if_false]))
  exact ⟨1, rfl⟩
end Go.Proofs.Ytonmpbfddiflhaa

/- Keys: which of a ring clashes with one. -/
namespace Go.Proofs.Ytonmpbfddiflhaa
open Go.AM
def clP : List AV → Option AV
  | [x, y] => match decK x, decK y with
    | some a, some b => some (.v (.bool (clashB a.1 b.1)))
    | _, _ => none
  | _ => none
theorem clP_eq {a b : KeyA} {la lb : List UInt8} (ha : pubOf a.p = some la) (hb : pubOf b.p = some lb) : clP [.agg [str a.sv, str a.id, a.p, .v (.int .i64 a.f), .v (.int .i64 a.u)], .agg [str b.sv, str b.id, b.p, .v (.int .i64 b.f), .v (.int .i64 b.u)]] = some (.v (.bool (clashB a b))) := by
  have h1 := decK_av ha
  have h2 := decK_av hb
  unfold KeyA.av at h1 h2
  simp only [clP, h1, h2]
theorem clP_ok : ∀ xs r, clP xs = some r → PureOk (cfgP ky1) 19 xs r := by
  intro xs r hx
  unfold clP at hx
  split at hx
  · split at hx
    · rename_i a b h1 h2
      injection hx with hx; subst hx
      obtain ⟨rfl, ha⟩ := decK_ok h1
      obtain ⟨rfl, hb⟩ := decK_ok h2
      exact clash_ok _ _ _ _ ha hb
    · cases hx
  · cases hx
def gdP : List AV → Option AV
  | [x] => match decK x with
    | some a => if a.1.sv.length < 2 ^ 63 ∧ a.1.id.length < 2 ^ 63 then some (.v (.bool (goodB a.1 a.2))) else none
    | none => none
  | _ => none
theorem gdP_eq {a : KeyA} {la : List UInt8} (ha : pubOf a.p = some la) (h1 : a.sv.length < 2 ^ 63) (h2 : a.id.length < 2 ^ 63) : gdP [.agg [str a.sv, str a.id, a.p, .v (.int .i64 a.f), .v (.int .i64 a.u)]] = some (.v (.bool (goodB a la))) := by
  have h3 := decK_av ha
  unfold KeyA.av at h3
  simp only [gdP, h3, h1, h2, and_self, if_true]
theorem gdP_ok : ∀ xs r, gdP xs = some r → PureOk (cfgP ky1) 12 xs r := by
  intro xs r hx
  unfold gdP at hx
  split at hx
  · split at hx
    · rename_i a h1
      split at hx
      · rename_i hl
        injection hx with hx; subst hx
        obtain ⟨rfl, ha⟩ := decK_ok h1
        exact good_ok _ _ ha hl.1 hl.2
      · cases hx
    · cases hx
  · cases hx
def ky2 : FuncId → Option (List AV → Option AV) := tab [(19, clP), (12, gdP)]
theorem ky2_ok : (cfgP ky2).Ok := cfgOf_ok mixed fok (tab_ok ⟨prim_at Try.func19 (by kernel_rfl) rfl (clP_ok), prim_at Try.func12 (by kernel_rfl) rfl (gdP_ok), trivial⟩)
theorem ky2_19 : (cfgP ky2).prim 19 = some clP := rfl
theorem ky2_12 : (cfgP ky2).prim 12 = some gdP := rfl
/-- What a ring holds. -/
structure Ring (r : AV) (L : List (KeyA × List UInt8)) : Prop where
  el : elems r = some (L.map fun p => p.1.av)
  ok : ∀ p ∈ L, pubOf p.1.p = some p.2
theorem Ring.sized {r : AV} {L : List (KeyA × List UInt8)} (h : Ring r L) : sized 5 (L.map fun p => p.1.av) := fun x hx => by
  obtain ⟨p, _, rfl⟩ := List.mem_map.1 hx
  rfl
/-- The closure that May hands on: against the key in a block. -/
theorem may1_ok (H : Hp) (b : Nat) (x k : KeyA) (lx lk : List UInt8) (hx : pubOf x.p = some lx) (hk : pubOf k.p = some lk) (hb : H.blks[b]? = some ⟨0, 5, [k.av]⟩) : CallOk (cfgP ky2) 18 [x.av, .ptr b 0 0 0] H (.v (.bool (clashB x k))) H := by
  have bx := KeyA.bare (pubOf_ok hx)
  have fx := KeyA.flat (pubOf_ok hx)
  have hpx := (pubOf_ok hx).2.1
  have hpk := (pubOf_ok hk).2.1
  have hblk := blkAt_of hb rfl
  unfold KeyA.av at *
  refine call_of_wk (call := noCall) (fn := Try.f18) (rs := [.tmp 3]) ky2_ok noCall_ok (fns_cfg Try.func18 rfl) rfl rfl ?_
  intro env hl0 hargs
  have hn : env.length = 7 := hl0
  have h0 := hargs 0 _ rfl
  have h1 := hargs 1 _ rfl
  clear hargs hl0
  refine wkT_of ?_
  simp -dsimp only [hn, h0, h1, ro_cfg 18 2, bxt_ro bx fx, AV.cells, ptK, hblk, ct_prim ky2_19, bare_s, hpx, hpk, clP_eq hx hk, wt_seq, wt_block, wt_region, wt_cond, wt_skip, wt_ret, wt_exit, wst_nil, wst_app_nil, wst_app_cons, wst_cons, wst_guard, andThen_normal, andThen_ret, andThen_exit, leave_normal, leave_ret, leave_exit, EndsA_ret, EndsA_normal, ot_move, ot_assign, ot_pick, ot_binOp, ot_unOp, ot_convert, ot_field, ot_index, ot_indexAddr, ot_fieldAddr, ot_slice, ot_build, ot_buildSlice, ot_extract, ot_makeInterface, ot_makeFunc, ot_nilCheck, ot_call, ot_len, ot_append, ot_box, ot_load, ot_store, ot_makeSlice, ct_bool, ct_true, ct_false, bt_some, gt_some, aval_tmp, aval_int, aval_bool, aval_str, aval_slice, aval_nilPointer, aval_nilIface, aval_func, aval_global, avals, apairs, bareP, AV.bare, AV.bares, bin_lss, bin_leq, bin_gtr, bin_geq, bin_eql, bin_neq, bin_add, bin_sub, bin_mul, bin_and, bin_or, bin_xor, toV_int, toV_bool, toV_string, un_neg, un_not, bin_str_eql, bin_str_neq, bin_str_lss, bin_str_leq, bin_str_gtr, bin_str_geq, aget_aput, length_aput, aput_none, Nat.reduceEqDiff, Nat.reduceLT, Nat.reduceAdd, reduceIte, reduceCtorEq, Bool.not_false, Bool.not_true, Bool.true_or, true_and, Option.bind_some, Option.map_some, List.nil_append, List.cons_append, resA, resA1, resVal, Option.getD_some, Nat.reduceLeDiff, bnd_some, yieldA_eq, yldOf_some, boolOf_bool, boolOf_undef, gt_none, List.getElem?_toArray, List.getElem?_cons_succ, List.getElem?_cons_zero, bq_true, bq_false, decide_true, decide_false, Option.toList_none, Option.toList_some, List.head?_cons, List.head?_nil, nb_cfg, cv_some, pm_some, pm_none, plainA_v, plain_bool, plain_int, plain_str, Bool.false_eq_true, if_false]
section
variable {prim : FuncId → Option (List AV → Option AV)}
theorem lenK {x : AV} {xs : List AV} (h : elems x = some xs) : lenA (cfgP prim) #[22] [x] = some (.v (.int .i64 xs.length)) := len_elems (e := 28) (by kernel_rfl) h
theorem idxK {x : AV} {xs : List AV} (h : elems x = some xs) {k : IntKind} {i : Nat} {z : AV} (hi : xs[i]? = some z) (hz : z.cells.length = 5) : indexAddrA (cfgP prim) 22 x (.v (.int k i)) = some (.rp z 0) := indexAddr_elems (e := 28) (n := 4) (by kernel_rfl) (by kernel_rfl) h hi hz
theorem ptKa {k : KeyA} : partA (cfgP prim) 28 k.av.cells 0 = some k.av := ptK
end
theorem ring_get {L : List (KeyA × List UInt8)} {i : Nat} (h : i < L.length) : (L.map fun p => p.1.av)[i]? = some (L[i].1.av) := by simp [h]
/-- The closure's call, as a table. -/
def may1T : FuncId → List AV → Hp → Option (AV × Hp) := fun f args H => if f = 18 then match args with
  | [x, .ptr b 0 0 0] => match decK x, H.blks[b]? with
    | some a, some ⟨0, 5, [y]⟩ => match decK y with
      | some k => some (.v (.bool (clashB a.1 k.1)), H)
      | none => none
    | _, _ => none
  | _ => none else none
theorem may1T_ok : CallsOk (cfgP ky2) may1T := by
  refine ⟨fun f args H r H' h => ?_⟩
  unfold may1T at h
  split at h
  · rename_i hf
    subst hf
    refine ⟨⟨Try.f18, fns_cfg Try.func18 rfl, rfl⟩, ?_⟩
    split at h
    · split at h
      · rename_i a y h1 h2
        split at h
        · rename_i k h3
          injection h with h
          injection h with h4 h5
          subst h4; subst h5
          obtain ⟨rfl, ha⟩ := decK_ok h1
          obtain ⟨rfl, hk⟩ := decK_ok h3
          exact may1_ok _ _ _ _ _ _ ha hk h2
        · cases h
      · cases h
    · cases h
  · cases h
theorem may1T_eq {H : Hp} {b : Nat} {x k : KeyA} {lx lk : List UInt8} (hx : pubOf x.p = some lx) (hk : pubOf k.p = some lk) (hb : H.blks[b]? = some ⟨0, 5, [k.av]⟩) : may1T 18 [x.av, .ptr b 0 0 0] H = some (.v (.bool (clashB x k)), H) := by
  simp only [may1T, if_true, decK_av hx, hb, decK_av hk]
def idxI (o : Option Nat) : Int := match o with
  | some i => (i : Nat)
  | none => -1
theorem indexFunc_ok (H : Hp) (b : Nat) (r : AV) (L : List (KeyA × List UInt8)) (k : KeyA) (lk : List UInt8) (hr : Ring r L) (hL : L.length < 2 ^ 63) (hk : pubOf k.p = some lk) (hb : H.blks[b]? = some ⟨0, 5, [k.av]⟩) :
    CallOk (cfgP ky2) 21 [r, .fn (.func 18) [] [.ptr b 0 0 0]] H (.v (.int .i64 (idxI (L.findIdx? fun p => clashB p.1 k)))) H := by
  have hlen : (L.map fun p => p.1.av).length = L.length := by simp
  refine call_of_wk (call := may1T) (fn := Try.f21) (rs := [.tmp 4]) ky2_ok may1T_ok (fns_cfg Try.func21 rfl) rfl rfl ?_
  intro env hl0 hargs
  have hn : env.length = 19 := hl0
  have h0 := hargs 0 _ rfl
  have h1 := hargs 1 _ rfl
  clear hargs hl0
  refine wkT_of ?_
  simp -dsimp only [hn, h0, h1, lenK hr.el, hlen, wt_seq, wt_block, wt_region, wt_cond, wt_skip, wt_ret, wt_exit, wst_nil, wst_app_nil, wst_app_cons, wst_cons, wst_guard, andThen_normal, andThen_ret, andThen_exit, leave_normal, leave_ret, leave_exit, EndsA_ret, EndsA_normal, ot_move, ot_assign, ot_pick, ot_binOp, ot_unOp, ot_convert, ot_field, ot_index, ot_indexAddr, ot_fieldAddr, ot_slice, ot_build, ot_buildSlice, ot_extract, ot_makeInterface, ot_makeFunc, ot_nilCheck, ot_call, ot_len, ot_append, ot_box, ot_load, ot_store, ot_makeSlice, ct_bool, ct_true, ct_false, bt_some, gt_some, aval_tmp, aval_int, aval_bool, aval_str, aval_slice, aval_nilPointer, aval_nilIface, aval_func, aval_global, avals, apairs, bareP, AV.bare, AV.bares, bin_lss, bin_leq, bin_gtr, bin_geq, bin_eql, bin_neq, bin_add, bin_sub, bin_mul, bin_and, bin_or, bin_xor, toV_int, toV_bool, toV_string, un_neg, un_not, bin_str_eql, bin_str_neq, bin_str_lss, bin_str_leq, bin_str_gtr, bin_str_geq, aget_aput, length_aput, aput_none, Nat.reduceEqDiff, Nat.reduceLT, Nat.reduceAdd, reduceIte, reduceCtorEq, Bool.not_false, Bool.not_true, Bool.true_or, true_and, Option.bind_some, Option.map_some, List.nil_append, List.cons_append, resA, resA1, resVal, Option.getD_some, Nat.reduceLeDiff, bnd_some, yieldA_eq, yldOf_some, boolOf_bool, boolOf_undef, gt_none, List.getElem?_toArray, List.getElem?_cons_succ, List.getElem?_cons_zero, bq_true, bq_false, decide_true, decide_false, Option.toList_none, Option.toList_some, List.head?_cons, List.head?_nil, nb_cfg, cv_some, pm_some, pm_none, plainA_v, plain_bool, plain_int, plain_str, Bool.false_eq_true, if_false]
  refine wt_loop (m := L.length) (fun m e h => ∃ i, i + m = L.length ∧ (e.length = 19 ∧ h = H) ∧ (aget e 0 = r ∧ aget e 1 = .fn (.func 18) [] [.ptr b 0 0 0] ∧ aget e 7 = .v (.int .i64 L.length) ∧ aget e 8 = .v (.int .i64 i)) ∧ ∀ p ∈ L.take i, clashB p.1 k = false) ?_ ?_
  · rintro m e h ⟨i, hi, ⟨hn, rfl⟩, ⟨h0, h1, h7, h8⟩, hno⟩
    by_cases hil : i < L.length
    · have hd : decide ((i : Int) < ((L.length : Nat) : Int)) = true := decide_eq_true (by omega)
      have e1 : IntKind.i64.wrap ((i : Int) + 1) = ((i + 1 : Nat) : Int) := wr64 (by omega) (by omega)
      have hx := hr.ok L[i] (List.getElem_mem hil)
      simp -dsimp only [hn, h0, h1, h7, h8, hd, idxK hr.el (ring_get hil) rfl, ptKa, ct_own (C := cfgP ky2) (f := 18) rfl rfl, may1T_eq hx hk hb, wt_seq, wt_block, wt_region, wt_cond, wt_skip, wt_ret, wt_exit, wst_nil, wst_app_nil, wst_app_cons, wst_cons, wst_guard, andThen_normal, andThen_ret, andThen_exit, leave_normal, leave_ret, leave_exit, EndsA_ret, EndsA_normal, ot_move, ot_assign, ot_pick, ot_binOp, ot_unOp, ot_convert, ot_field, ot_index, ot_indexAddr, ot_fieldAddr, ot_slice, ot_build, ot_buildSlice, ot_extract, ot_makeInterface, ot_makeFunc, ot_nilCheck, ot_call, ot_len, ot_append, ot_box, ot_load, ot_store, ot_makeSlice, ct_bool, ct_true, ct_false, bt_some, gt_some, aval_tmp, aval_int, aval_bool, aval_str, aval_slice, aval_nilPointer, aval_nilIface, aval_func, aval_global, avals, apairs, bareP, AV.bare, AV.bares, bin_lss, bin_leq, bin_gtr, bin_geq, bin_eql, bin_neq, bin_add, bin_sub, bin_mul, bin_and, bin_or, bin_xor, toV_int, toV_bool, toV_string, un_neg, un_not, bin_str_eql, bin_str_neq, bin_str_lss, bin_str_leq, bin_str_gtr, bin_str_geq, aget_aput, length_aput, aput_none, Nat.reduceEqDiff, Nat.reduceLT, Nat.reduceAdd, reduceIte, reduceCtorEq, Bool.not_false, Bool.not_true, Bool.true_or, true_and, Option.bind_some, Option.map_some, List.nil_append, List.cons_append, resA, resA1, resVal, Option.getD_some, Nat.reduceLeDiff, bnd_some, yieldA_eq, yldOf_some, boolOf_bool, boolOf_undef, gt_none, List.getElem?_toArray, List.getElem?_cons_succ, List.getElem?_cons_zero, bq_true, bq_false, decide_true, decide_false, Option.toList_none, Option.toList_some, List.head?_cons, List.head?_nil, nb_cfg, cv_some, pm_some, pm_none, plainA_v, plain_bool, plain_int, plain_str, Bool.false_eq_true, if_false]
      cases q : clashB L[i].1 k with
      | true =>
        simp -dsimp only [hn, h0, h1, h7, h8, q, wt_seq, wt_block, wt_region, wt_cond, wt_skip, wt_ret, wt_exit, wst_nil, wst_app_nil, wst_app_cons, wst_cons, wst_guard, andThen_normal, andThen_ret, andThen_exit, leave_normal, leave_ret, leave_exit, EndsA_ret, EndsA_normal, ot_move, ot_assign, ot_pick, ot_binOp, ot_unOp, ot_convert, ot_field, ot_index, ot_indexAddr, ot_fieldAddr, ot_slice, ot_build, ot_buildSlice, ot_extract, ot_makeInterface, ot_makeFunc, ot_nilCheck, ot_call, ot_len, ot_append, ot_box, ot_load, ot_store, ot_makeSlice, ct_bool, ct_true, ct_false, bt_some, gt_some, aval_tmp, aval_int, aval_bool, aval_str, aval_slice, aval_nilPointer, aval_nilIface, aval_func, aval_global, avals, apairs, bareP, AV.bare, AV.bares, bin_lss, bin_leq, bin_gtr, bin_geq, bin_eql, bin_neq, bin_add, bin_sub, bin_mul, bin_and, bin_or, bin_xor, toV_int, toV_bool, toV_string, un_neg, un_not, bin_str_eql, bin_str_neq, bin_str_lss, bin_str_leq, bin_str_gtr, bin_str_geq, aget_aput, length_aput, aput_none, Nat.reduceEqDiff, Nat.reduceLT, Nat.reduceAdd, reduceIte, reduceCtorEq, Bool.not_false, Bool.not_true, Bool.true_or, true_and, Option.bind_some, Option.map_some, List.nil_append, List.cons_append, resA, resA1, resVal, Option.getD_some, Nat.reduceLeDiff, bnd_some, yieldA_eq, yldOf_some, boolOf_bool, boolOf_undef, gt_none, List.getElem?_toArray, List.getElem?_cons_succ, List.getElem?_cons_zero, bq_true, bq_false, decide_true, decide_false, Option.toList_none, Option.toList_some, List.head?_cons, List.head?_nil, nb_cfg, cv_some, pm_some, pm_none, plainA_v, plain_bool, plain_int, plain_str, Bool.false_eq_true, if_false]
        have : L.findIdx? (fun p => clashB p.1 k) = some i := by
          rw [List.findIdx?_eq_some_iff_getElem]
          refine ⟨hil, q, fun j hj => ?_⟩
          rw [hno L[j] (List.mem_take_iff_getElem.2 ⟨j, by omega, rfl⟩)]
          decide
        rw [this]
        exact ⟨rfl, trivial⟩
      | false =>
        simp -dsimp only [hn, h0, h1, h7, h8, q, e1, wt_seq, wt_block, wt_region, wt_cond, wt_skip, wt_ret, wt_exit, wst_nil, wst_app_nil, wst_app_cons, wst_cons, wst_guard, andThen_normal, andThen_ret, andThen_exit, leave_normal, leave_ret, leave_exit, EndsA_ret, EndsA_normal, ot_move, ot_assign, ot_pick, ot_binOp, ot_unOp, ot_convert, ot_field, ot_index, ot_indexAddr, ot_fieldAddr, ot_slice, ot_build, ot_buildSlice, ot_extract, ot_makeInterface, ot_makeFunc, ot_nilCheck, ot_call, ot_len, ot_append, ot_box, ot_load, ot_store, ot_makeSlice, ct_bool, ct_true, ct_false, bt_some, gt_some, aval_tmp, aval_int, aval_bool, aval_str, aval_slice, aval_nilPointer, aval_nilIface, aval_func, aval_global, avals, apairs, bareP, AV.bare, AV.bares, bin_lss, bin_leq, bin_gtr, bin_geq, bin_eql, bin_neq, bin_add, bin_sub, bin_mul, bin_and, bin_or, bin_xor, toV_int, toV_bool, toV_string, un_neg, un_not, bin_str_eql, bin_str_neq, bin_str_lss, bin_str_leq, bin_str_gtr, bin_str_geq, aget_aput, length_aput, aput_none, Nat.reduceEqDiff, Nat.reduceLT, Nat.reduceAdd, reduceIte, reduceCtorEq, Bool.not_false, Bool.not_true, Bool.true_or, true_and, Option.bind_some, Option.map_some, List.nil_append, List.cons_append, resA, resA1, resVal, Option.getD_some, Nat.reduceLeDiff, bnd_some, yieldA_eq, yldOf_some, boolOf_bool, boolOf_undef, gt_none, List.getElem?_toArray, List.getElem?_cons_succ, List.getElem?_cons_zero, bq_true, bq_false, decide_true, decide_false, Option.toList_none, Option.toList_some, List.head?_cons, List.head?_nil, nb_cfg, cv_some, pm_some, pm_none, plainA_v, plain_bool, plain_int, plain_str, Bool.false_eq_true, if_false]
        refine ⟨m - 1, by omega, i + 1, by omega, rfl, fun p hp => ?_⟩
        rw [List.take_succ_eq_append_getElem hil, List.mem_append, List.mem_singleton] at hp
        rcases hp with hp | rfl
        · exact hno p hp
        · exact q
    · have hd : decide ((i : Int) < ((L.length : Nat) : Int)) = false := decide_eq_false (by omega)
      simp -dsimp only [hn, h0, h1, h7, h8, hd, wt_seq, wt_block, wt_region, wt_cond, wt_skip, wt_ret, wt_exit, wst_nil, wst_app_nil, wst_app_cons, wst_cons, wst_guard, andThen_normal, andThen_ret, andThen_exit, leave_normal, leave_ret, leave_exit, EndsA_ret, EndsA_normal, ot_move, ot_assign, ot_pick, ot_binOp, ot_unOp, ot_convert, ot_field, ot_index, ot_indexAddr, ot_fieldAddr, ot_slice, ot_build, ot_buildSlice, ot_extract, ot_makeInterface, ot_makeFunc, ot_nilCheck, ot_call, ot_len, ot_append, ot_box, ot_load, ot_store, ot_makeSlice, ct_bool, ct_true, ct_false, bt_some, gt_some, aval_tmp, aval_int, aval_bool, aval_str, aval_slice, aval_nilPointer, aval_nilIface, aval_func, aval_global, avals, apairs, bareP, AV.bare, AV.bares, bin_lss, bin_leq, bin_gtr, bin_geq, bin_eql, bin_neq, bin_add, bin_sub, bin_mul, bin_and, bin_or, bin_xor, toV_int, toV_bool, toV_string, un_neg, un_not, bin_str_eql, bin_str_neq, bin_str_lss, bin_str_leq, bin_str_gtr, bin_str_geq, aget_aput, length_aput, aput_none, Nat.reduceEqDiff, Nat.reduceLT, Nat.reduceAdd, reduceIte, reduceCtorEq, Bool.not_false, Bool.not_true, Bool.true_or, true_and, Option.bind_some, Option.map_some, List.nil_append, List.cons_append, resA, resA1, resVal, Option.getD_some, Nat.reduceLeDiff, bnd_some, yieldA_eq, yldOf_some, boolOf_bool, boolOf_undef, gt_none, List.getElem?_toArray, List.getElem?_cons_succ, List.getElem?_cons_zero, bq_true, bq_false, decide_true, decide_false, Option.toList_none, Option.toList_some, List.head?_cons, List.head?_nil, nb_cfg, cv_some, pm_some, pm_none, plainA_v, plain_bool, plain_int, plain_str, Bool.false_eq_true, if_false]
      have : L.findIdx? (fun p => clashB p.1 k) = none := by
        rw [List.findIdx?_eq_none_iff]
        intro p hp
        exact hno p (by rw [List.take_of_length_le (by omega)]; exact hp)
      rw [this]
      exact ⟨rfl, trivial⟩
  · refine ⟨0, Nat.zero_add _, ⟨?_, rfl⟩, ⟨?_, ?_, ?_, ?_⟩, fun p hp => by simp at hp⟩
    any_goals simp -dsimp only [hn, h0, h1, wt_seq, wt_block, wt_region, wt_cond, wt_skip, wt_ret, wt_exit, wst_nil, wst_app_nil, wst_app_cons, wst_cons, wst_guard, andThen_normal, andThen_ret, andThen_exit, leave_normal, leave_ret, leave_exit, EndsA_ret, EndsA_normal, ot_move, ot_assign, ot_pick, ot_binOp, ot_unOp, ot_convert, ot_field, ot_index, ot_indexAddr, ot_fieldAddr, ot_slice, ot_build, ot_buildSlice, ot_extract, ot_makeInterface, ot_makeFunc, ot_nilCheck, ot_call, ot_len, ot_append, ot_box, ot_load, ot_store, ot_makeSlice, ct_bool, ct_true, ct_false, bt_some, gt_some, aval_tmp, aval_int, aval_bool, aval_str, aval_slice, aval_nilPointer, aval_nilIface, aval_func, aval_global, avals, apairs, bareP, AV.bare, AV.bares, bin_lss, bin_leq, bin_gtr, bin_geq, bin_eql, bin_neq, bin_add, bin_sub, bin_mul, bin_and, bin_or, bin_xor, toV_int, toV_bool, toV_string, un_neg, un_not, bin_str_eql, bin_str_neq, bin_str_lss, bin_str_leq, bin_str_gtr, bin_str_geq, aget_aput, length_aput, aput_none, Nat.reduceEqDiff, Nat.reduceLT, Nat.reduceAdd, reduceIte, reduceCtorEq, Bool.not_false, Bool.not_true, Bool.true_or, true_and, Option.bind_some, Option.map_some, List.nil_append, List.cons_append, resA, resA1, resVal, Option.getD_some, Nat.reduceLeDiff, bnd_some, yieldA_eq, yldOf_some, boolOf_bool, boolOf_undef, gt_none, List.getElem?_toArray, List.getElem?_cons_succ, List.getElem?_cons_zero, bq_true, bq_false, decide_true, decide_false, Option.toList_none, Option.toList_some, List.head?_cons, List.head?_nil, nb_cfg, cv_some, pm_some, pm_none, plainA_v, plain_bool, plain_int, plain_str, Bool.false_eq_true, if_false]
    rfl
def decL2 {α : Type} (f : AV → Option α) : List AV → Option (List α)
  | [] => some []
  | x :: xs => match f x, decL2 f xs with
    | some y, some ys => some (y :: ys)
    | _, _ => none
/-- The keys of a ring. -/
def decR (r : AV) : Option (List (KeyA × List UInt8)) := (elems r).bind (decL2 decK)
theorem decL2_ok : ∀ {xs : List AV} {L : List (KeyA × List UInt8)}, decL2 decK xs = some L → xs = L.map (fun p => p.1.av) ∧ ∀ p ∈ L, pubOf p.1.p = some p.2
  | [], L, h => by simp only [decL2, Option.some.injEq] at h; subst h; exact ⟨rfl, fun p hp => by cases hp⟩
  | x :: xs, L, h => by
    unfold decL2 at h
    split at h
    · rename_i y ys h1 h2
      injection h with h; subst h
      obtain ⟨e1, e2⟩ := decL2_ok h2
      obtain ⟨e3, e4⟩ := decK_ok (k := y.1) (l := y.2) h1
      exact ⟨by rw [e1, e3]; rfl, fun p hp => by
        rcases List.mem_cons.1 hp with rfl | hp
        · exact e4
        · exact e2 p hp⟩
    · cases h
theorem decL2_eq : ∀ {L : List (KeyA × List UInt8)}, (∀ p ∈ L, pubOf p.1.p = some p.2) → decL2 decK (L.map fun p => p.1.av) = some L
  | [], _ => rfl
  | p :: L, h => by
    have h1 := decK_av (h p (by simp))
    have h2 := decL2_eq (L := L) fun q hq => h q (by simp [hq])
    simp only [List.map_cons, decL2, h1, h2]
theorem decR_ok {r : AV} {L : List (KeyA × List UInt8)} (h : decR r = some L) : Ring r L := by
  unfold decR at h
  rw [Option.bind_eq_some_iff] at h
  obtain ⟨xs, h1, h2⟩ := h
  obtain ⟨e1, e2⟩ := decL2_ok h2
  exact ⟨by rw [h1, e1], e2⟩
theorem decR_eq {r : AV} {L : List (KeyA × List UInt8)} (h : Ring r L) : decR r = some L := by
  unfold decR
  rw [h.el]
  exact decL2_eq h.ok
/-- IndexFunc with that closure, as a table. -/
def idxT : FuncId → List AV → Hp → Option (AV × Hp) := fun f args H => if f = 21 then match args with
  | [r, .fn (.func 18) [] [.ptr b 0 0 0]] => match decR r, H.blks[b]? with
    | some L, some ⟨0, 5, [y]⟩ => match decK y with
      | some k => if L.length < 2 ^ 63 then some (.v (.int .i64 (idxI (L.findIdx? fun p => clashB p.1 k.1))), H) else none
      | none => none
    | _, _ => none
  | _ => none else none
theorem idxT_ok : CallsOk (cfgP ky2) idxT := by
  refine ⟨fun f args H r H' h => ?_⟩
  unfold idxT at h
  split at h
  · rename_i hf
    subst hf
    refine ⟨⟨Try.f21, fns_cfg Try.func21 rfl, rfl⟩, ?_⟩
    split at h
    · split at h
      · rename_i L y h1 h2
        split at h
        · rename_i k h3
          split at h
          · rename_i hl
            injection h with h
            injection h with h4 h5
            subst h4; subst h5
            obtain ⟨rfl, hk⟩ := decK_ok h3
            exact indexFunc_ok _ _ _ _ _ _ (decR_ok h1) hl hk h2
          · cases h
        · cases h
      · cases h
    · cases h
  · cases h
theorem idxT_eq {H : Hp} {b : Nat} {r : AV} {L : List (KeyA × List UInt8)} {k : KeyA} {lk : List UInt8} (hr : Ring r L) (hl : L.length < 2 ^ 63) (hk : pubOf k.p = some lk) (hb : H.blks[b]? = some ⟨0, 5, [k.av]⟩) : idxT 21 [r, .fn (.func 18) [] [.ptr b 0 0 0]] H = some (.v (.int .i64 (idxI (L.findIdx? fun p => clashB p.1 k))), H) := by
  simp only [idxT, if_true, decR_eq hr, hb, decK_av hk, hl]
theorem idxI_any {α : Type} {L : List α} {q : α → Bool} : decide ((0 : Int) ≤ idxI (L.findIdx? q)) = L.any q := by
  cases h : L.findIdx? q with
  | none =>
    rw [List.findIdx?_eq_none_iff] at h
    have : L.any q = false := by
      rw [List.any_eq_false]
      intro x hx
      rw [h x hx]
      decide
    rw [this]
    rfl
  | some i =>
    rw [List.findIdx?_eq_some_iff_getElem] at h
    obtain ⟨hi, h1, _⟩ := h
    have : L.any q = true := List.any_eq_true.2 ⟨L[i], List.getElem_mem hi, h1⟩
    rw [this]
    exact decide_eq_true (by simp [idxI])
theorem containsFunc_ok (H : Hp) (b : Nat) (r : AV) (L : List (KeyA × List UInt8)) (k : KeyA) (lk : List UInt8) (hr : Ring r L) (hL : L.length < 2 ^ 63) (hk : pubOf k.p = some lk) (hb : H.blks[b]? = some ⟨0, 5, [k.av]⟩) :
    CallOk (cfgP ky2) 17 [r, .fn (.func 18) [] [.ptr b 0 0 0]] H (.v (.bool (L.any fun p => clashB p.1 k))) H := by
  refine call_of_wk (call := idxT) (fn := Try.f17) (rs := [.tmp 4]) ky2_ok idxT_ok (fns_cfg Try.func17 rfl) rfl rfl ?_
  intro env hl0 hargs
  have hn : env.length = 9 := hl0
  have h0 := hargs 0 _ rfl
  have h1 := hargs 1 _ rfl
  clear hargs hl0
  refine wkT_of ?_
  simp -dsimp only [hn, h0, h1, ct_own (C := cfgP ky2) (f := 21) rfl rfl, idxT_eq hr hL hk hb, idxI_any, wt_seq, wt_block, wt_region, wt_cond, wt_skip, wt_ret, wt_exit, wst_nil, wst_app_nil, wst_app_cons, wst_cons, wst_guard, andThen_normal, andThen_ret, andThen_exit, leave_normal, leave_ret, leave_exit, EndsA_ret, EndsA_normal, ot_move, ot_assign, ot_pick, ot_binOp, ot_unOp, ot_convert, ot_field, ot_index, ot_indexAddr, ot_fieldAddr, ot_slice, ot_build, ot_buildSlice, ot_extract, ot_makeInterface, ot_makeFunc, ot_nilCheck, ot_call, ot_len, ot_append, ot_box, ot_load, ot_store, ot_makeSlice, ct_bool, ct_true, ct_false, bt_some, gt_some, aval_tmp, aval_int, aval_bool, aval_str, aval_slice, aval_nilPointer, aval_nilIface, aval_func, aval_global, avals, apairs, bareP, AV.bare, AV.bares, bin_lss, bin_leq, bin_gtr, bin_geq, bin_eql, bin_neq, bin_add, bin_sub, bin_mul, bin_and, bin_or, bin_xor, toV_int, toV_bool, toV_string, un_neg, un_not, bin_str_eql, bin_str_neq, bin_str_lss, bin_str_leq, bin_str_gtr, bin_str_geq, aget_aput, length_aput, aput_none, Nat.reduceEqDiff, Nat.reduceLT, Nat.reduceAdd, reduceIte, reduceCtorEq, Bool.not_false, Bool.not_true, Bool.true_or, true_and, Option.bind_some, Option.map_some, List.nil_append, List.cons_append, resA, resA1, resVal, Option.getD_some, Nat.reduceLeDiff, bnd_some, yieldA_eq, yldOf_some, boolOf_bool, boolOf_undef, gt_none, List.getElem?_toArray, List.getElem?_cons_succ, List.getElem?_cons_zero, bq_true, bq_false, decide_true, decide_false, Option.toList_none, Option.toList_some, List.head?_cons, List.head?_nil, nb_cfg, cv_some, pm_some, pm_none, plainA_v, plain_bool, plain_int, plain_str, Bool.false_eq_true, if_false]
end Go.Proofs.Ytonmpbfddiflhaa

/- Keys: which rings may be. -/
namespace Go.Proofs.Ytonmpbfddiflhaa
open Go.AM
/-- ContainsFunc with that closure, as a table. -/
def conT : FuncId → List AV → Hp → Option (AV × Hp) := fun f args H => if f = 17 then match args with
  | [r, .fn (.func 18) [] [.ptr b 0 0 0]] => match decR r, H.blks[b]? with
    | some L, some ⟨0, 5, [y]⟩ => match decK y with
      | some k => if L.length < 2 ^ 63 then some (.v (.bool (L.any fun p => clashB p.1 k.1)), H) else none
      | none => none
    | _, _ => none
  | _ => none else none
theorem conT_ok : CallsOk (cfgP ky2) conT := by
  refine ⟨fun f args H r H' h => ?_⟩
  unfold conT at h
  split at h
  · rename_i hf
    subst hf
    refine ⟨⟨Try.f17, fns_cfg Try.func17 rfl, rfl⟩, ?_⟩
    split at h
    · split at h
      · rename_i L y h1 h2
        split at h
        · rename_i k h3
          split at h
          · rename_i hl
            injection h with h
            injection h with h4 h5
            subst h4; subst h5
            obtain ⟨rfl, hk⟩ := decK_ok h3
            exact containsFunc_ok _ _ _ _ _ _ (decR_ok h1) hl hk h2
          · cases h
        · cases h
      · cases h
    · cases h
  · cases h
theorem conT_eq {H : Hp} {b : Nat} {r : AV} {L : List (KeyA × List UInt8)} {k : KeyA} {lk : List UInt8} (hr : Ring r L) (hl : L.length < 2 ^ 63) (hk : pubOf k.p = some lk) (hb : H.blks[b]? = some ⟨0, 5, [k.av]⟩) : conT 17 [r, .fn (.func 18) [] [.ptr b 0 0 0]] H = some (.v (.bool (L.any fun p => clashB p.1 k)), H) := by
  simp only [conT, if_true, decR_eq hr, hb, decK_av hk, hl]
/-- What lies there when so many keys were looked at. -/
def hpK (L : List (KeyA × List UInt8)) : Hp := { blks := L.map fun p => ⟨0, 5, [p.1.av]⟩ }
def zeroK : AV := .agg [str [], str [], .v (.slice none 0 0), .v (.int .i64 0), .v (.int .i64 0)]
section
variable {prim : FuncId → Option (List AV → Option AV)}
theorem allocK {L : List (KeyA × List UInt8)} : allocA (cfgP prim) 28 false (hpK L) = some (.ptr L.length 0 0 0, { blks := (hpK L).blks ++ [⟨0, 5, [zeroK]⟩] }, 2) := by
  have hz : zeroA (cfgP prim) 28 = some zeroK := by kernel_rfl
  have hf : zeroK.cells.all AV.flat = true := rfl
  have hc : zeroK.cells.length = 5 := rfl
  simp only [allocA, hz, Option.bind_some, hf, if_true, hc, Bool.false_eq_true, if_false]
  simp [hpK]
theorem storeK {L : List (KeyA × List UInt8)} {p : KeyA × List UInt8} (hp : pubOf p.1.p = some p.2) : storeA (cfgP prim) 28 L.length 0 0 0 p.1.av { blks := (hpK L).blks ++ [⟨0, 5, [zeroK]⟩] } = some (hpK (L ++ [p])) := by
  have hl : (hpK L).blks.length = L.length := by simp [hpK]
  have h1 : ({ blks := (hpK L).blks ++ [⟨0, 5, [zeroK]⟩] } : Hp).blks[L.length]? = some ⟨0, 5, [.agg [str [], str [], .v (.slice none 0 0), .v (.int .i64 0), .v (.int .i64 0)]]⟩ := by
    rw [← hl, List.getElem?_append_right (Nat.le_refl _), Nat.sub_self]
    rfl
  unfold KeyA.av
  rw [store_all (x := [str p.1.sv, str p.1.id, p.1.p, .v (.int .i64 p.1.f), .v (.int .i64 p.1.u)]) h1 (by kernel_rfl) rfl (KeyA.flat (pubOf_ok hp))]
  congr 1
  unfold hpK
  rw [List.set_append_right _ _ (by simp)]
  simp [KeyA.av]
theorem sliceK {r : AV} {L : List (KeyA × List UInt8)} (h : Ring r L) (hb : AV.bare r = some r) (k : Nat) (hk : k ≤ L.length) : ∃ y, sliceA (cfgP prim) 22 r none (some (.v (.int .i64 k))) none = some y ∧ Ring y (L.take k) := by
  have h22 : (elemT (cfgP prim) 22).bind (cfgP prim).csz = some 5 := by kernel_rfl
  have hnn : (0 : Int) ≤ (k : Int) := by omega
  have hsz : szOk (L.map fun p => p.1.av) 5 = true := szOk_sized (Ring.sized h)
  have hlen : (L.map fun p => p.1.av).length = L.length := by simp
  have hok := h.ok
  have hel := h.el
  have hok' : ∀ p ∈ L.take k, pubOf p.1.p = some p.2 := fun p hp => hok p (List.mem_of_mem_take hp)
  unfold elems at hel
  split at hel
  · injection hel with hel; subst hel
    simp only [sliceA, h22, elems, optIdx, idx, hnn, if_true, Int.toNat_natCast, Nat.zero_le, true_and, hlen, hk, hsz, and_true, show 0 < 5 by decide]
    by_cases e : k = L.length
    · rw [if_pos e]; exact ⟨_, rfl, by rw [e, List.take_length]; rfl, hok'⟩
    · rw [if_neg e]; exact ⟨_, rfl, by simp [elems], hok'⟩
  · injection hel with hel; subst hel
    simp only [sliceA, h22, elems, optIdx, idx, hnn, if_true, Int.toNat_natCast, Nat.zero_le, true_and, hlen, hk, hsz, and_true, show 0 < 5 by decide]
    by_cases e : k = L.length
    · rw [if_pos e]; exact ⟨_, rfl, by rw [e, List.take_length]; rfl, hok'⟩
    · rw [if_neg e]; exact ⟨_, rfl, by simp [elems], hok'⟩
  · simp [AV.bare] at hb
  · injection hel with hel
    have hl : L = [] := List.map_eq_nil_iff.1 hel.symm
    subst hl
    obtain rfl : k = 0 := by simpa using hk
    exact ⟨.v (.slice none 0 0), by kernel_rfl, rfl, hok'⟩
  · cases hel
end
/-- Whether keys may be together. -/
def mayB (L : List (KeyA × List UInt8)) : Bool := (List.range L.length).all fun i => match L[i]? with
  | some p => goodB p.1 p.2 && !((L.take i).any fun q => clashB q.1 p.1)
  | none => true
def mayTo (L : List (KeyA × List UInt8)) (i : Nat) : Prop := ∀ j (h : j < i) (h' : j < L.length), goodB L[j].1 L[j].2 = true ∧ ((L.take j).any fun q => clashB q.1 L[j].1) = false
theorem mayB_true {L : List (KeyA × List UInt8)} (h : mayTo L L.length) : mayB L = true := by
  unfold mayB
  rw [List.all_eq_true]
  intro i hi
  have hi := List.mem_range.1 hi
  obtain ⟨h1, h2⟩ := h i hi hi
  rw [List.getElem?_eq_getElem hi]
  simp only [h1, h2]
  rfl
theorem mayB_false {L : List (KeyA × List UInt8)} {i : Nat} (hi : i < L.length) (h : goodB L[i].1 L[i].2 = false ∨ ((L.take i).any fun q => clashB q.1 L[i].1) = true) : mayB L = false := by
  unfold mayB
  rw [List.all_eq_false]
  refine ⟨i, List.mem_range.2 hi, ?_⟩
  rw [List.getElem?_eq_getElem hi]
  simp only
  rcases h with h | h
  · rw [h]; simp
  · rw [h]; simp
structure mayI (r : AV) (L : List (KeyA × List UInt8)) (i : Nat) (e : Env) (h : Hp) : Prop where
  len : e.length = 23
  hp : h = hpK (L.take i)
  a0 : aget e 0 = r
  a5 : aget e 5 = r
  a6 : aget e 6 = .v (.int .i64 L.length)
  a7 : aget e 7 = .v (.int .i64 i)
set_option maxHeartbeats 4000000 in
theorem may_ok (r : AV) (L : List (KeyA × List UInt8)) (hr : Ring r L) (hb : AV.bare r = some r) (hL : L.length < 2 ^ 63) (hs : ∀ p ∈ L, p.1.sv.length < 2 ^ 63 ∧ p.1.id.length < 2 ^ 63) : PureOk (cfgP ky2) 8 [r] (.v (.bool (mayB L))) := by
  have hlen : (L.map fun p => p.1.av).length = L.length := by simp
  have hsl := fun (i : Nat) (h : i ≤ L.length) => sliceK (prim := ky2) hr hb i h
  refine pure_of_wk (call := conT) (fn := Try.f8) (rs := [.tmp 2]) ky2_ok conT_ok (fns_cfg Try.func8 rfl) rfl rfl ?_
  intro env hl0 hargs
  have hn : env.length = 23 := hl0
  have h0 := hargs 0 _ rfl
  clear hargs hl0
  refine wkT_of ?_
  simp -dsimp only [hn, h0, lenK hr.el, hlen, wt_seq, wt_block, wt_region, wt_cond, wt_skip, wt_ret, wt_exit, wst_nil, wst_app_nil, wst_app_cons, wst_cons, wst_guard, andThen_normal, andThen_ret, andThen_exit, leave_normal, leave_ret, leave_exit, EndsA_ret, EndsA_normal, ot_move, ot_assign, ot_pick, ot_binOp, ot_unOp, ot_convert, ot_field, ot_index, ot_indexAddr, ot_fieldAddr, ot_slice, ot_build, ot_buildSlice, ot_extract, ot_makeInterface, ot_makeFunc, ot_nilCheck, ot_call, ot_len, ot_append, ot_box, ot_load, ot_store, ot_makeSlice, ct_bool, ct_true, ct_false, bt_some, gt_some, aval_tmp, aval_int, aval_bool, aval_str, aval_slice, aval_nilPointer, aval_nilIface, aval_func, aval_global, avals, apairs, bareP, AV.bare, AV.bares, bin_lss, bin_leq, bin_gtr, bin_geq, bin_eql, bin_neq, bin_add, bin_sub, bin_mul, bin_and, bin_or, bin_xor, toV_int, toV_bool, toV_string, un_neg, un_not, bin_str_eql, bin_str_neq, bin_str_lss, bin_str_leq, bin_str_gtr, bin_str_geq, aget_aput, length_aput, aput_none, Nat.reduceEqDiff, Nat.reduceLT, Nat.reduceAdd, reduceIte, reduceCtorEq, Bool.not_false, Bool.not_true, Bool.true_or, true_and, Option.bind_some, Option.map_some, List.nil_append, List.cons_append, resA, resA1, resVal, Option.getD_some, Nat.reduceLeDiff, bnd_some, yieldA_eq, yldOf_some, boolOf_bool, boolOf_undef, gt_none, List.getElem?_toArray, List.getElem?_cons_succ, List.getElem?_cons_zero, bq_true, bq_false, decide_true, decide_false, Option.toList_none, Option.toList_some, List.head?_cons, List.head?_nil, nb_cfg, cv_some, pm_some, pm_none, plainA_v, plain_bool, plain_int, plain_str, Bool.false_eq_true, if_false]
  refine wt_loop (m := L.length) (fun m e h => ∃ i, i + m = L.length ∧ mayI r L i e h ∧ mayTo L i) ?_ ?_
  · rintro m e h ⟨i, hi, ⟨hn, rfl, h0, h5, h6, h7⟩, hto⟩
    by_cases hil : i < L.length
    · obtain ⟨y, hy, hyr⟩ := hsl i (by omega)
      have hd : decide ((i : Int) < ((L.length : Nat) : Int)) = true := decide_eq_true (by omega)
      have e1 : IntKind.i64.wrap ((i : Int) + 1) = ((i + 1 : Nat) : Int) := wr64 (by omega) (by omega)
      have hx := hr.ok L[i] (List.getElem_mem hil)
      have hsz := hs L[i] (List.getElem_mem hil)
      have hpx := (pubOf_ok hx).2.1
      have htl : (L.take i).length = i := by rw [List.length_take]; omega
      have hal := allocK (prim := ky2) (L := L.take i)
      have hst := storeK (prim := ky2) (L := L.take i) hx
      have htk : L.take i ++ [L[i]] = L.take (i + 1) := (List.take_succ_eq_append_getElem hil).symm
      rw [htl] at hal hst
      rw [htk] at hst
      have hbk : (hpK (L.take (i + 1))).blks[i]? = some ⟨0, 5, [L[i].1.av]⟩ := by
        simp only [hpK, List.getElem?_map]
        rw [List.getElem?_take, if_pos (by omega), List.getElem?_eq_getElem hil]
        rfl
      have hbk' := blkAt_of hbk rfl
      have hro : (cfgP ky2).roBox 8 4 = false := rfl
      have hgd := gdP_eq hx hsz.1 hsz.2
      have hty : (L.take i).length < 2 ^ 63 := by omega
      have hcon := conT_eq (H := hpK (L.take (i + 1))) hyr hty hx hbk
      simp -dsimp only [hn, h0, h5, h6, h7, hd, idxK hr.el (ring_get hil) rfl, ptKa, ot_alloc, hro, hal, hst, hbk', wt_seq, wt_block, wt_region, wt_cond, wt_skip, wt_ret, wt_exit, wst_nil, wst_app_nil, wst_app_cons, wst_cons, wst_guard, andThen_normal, andThen_ret, andThen_exit, leave_normal, leave_ret, leave_exit, EndsA_ret, EndsA_normal, ot_move, ot_assign, ot_pick, ot_binOp, ot_unOp, ot_convert, ot_field, ot_index, ot_indexAddr, ot_fieldAddr, ot_slice, ot_build, ot_buildSlice, ot_extract, ot_makeInterface, ot_makeFunc, ot_nilCheck, ot_call, ot_len, ot_append, ot_box, ot_load, ot_store, ot_makeSlice, ct_bool, ct_true, ct_false, bt_some, gt_some, aval_tmp, aval_int, aval_bool, aval_str, aval_slice, aval_nilPointer, aval_nilIface, aval_func, aval_global, avals, apairs, bareP, AV.bare, AV.bares, bin_lss, bin_leq, bin_gtr, bin_geq, bin_eql, bin_neq, bin_add, bin_sub, bin_mul, bin_and, bin_or, bin_xor, toV_int, toV_bool, toV_string, un_neg, un_not, bin_str_eql, bin_str_neq, bin_str_lss, bin_str_leq, bin_str_gtr, bin_str_geq, aget_aput, length_aput, aput_none, Nat.reduceEqDiff, Nat.reduceLT, Nat.reduceAdd, reduceIte, reduceCtorEq, Bool.not_false, Bool.not_true, Bool.true_or, true_and, Option.bind_some, Option.map_some, List.nil_append, List.cons_append, resA, resA1, resVal, Option.getD_some, Nat.reduceLeDiff, bnd_some, yieldA_eq, yldOf_some, boolOf_bool, boolOf_undef, gt_none, List.getElem?_toArray, List.getElem?_cons_succ, List.getElem?_cons_zero, bq_true, bq_false, decide_true, decide_false, Option.toList_none, Option.toList_some, List.head?_cons, List.head?_nil, nb_cfg, cv_some, pm_some, pm_none, plainA_v, plain_bool, plain_int, plain_str, Bool.false_eq_true, if_false]
      cases q : goodB L[i].1 L[i].2 with
      | false =>
        simp -dsimp only [hn, h0, h5, h6, h7, hbk', AV.cells, ptKa, ct_prim ky2_12, KeyA.av, ptK, bare_s, hpx, hgd, q, wt_seq, wt_block, wt_region, wt_cond, wt_skip, wt_ret, wt_exit, wst_nil, wst_app_nil, wst_app_cons, wst_cons, wst_guard, andThen_normal, andThen_ret, andThen_exit, leave_normal, leave_ret, leave_exit, EndsA_ret, EndsA_normal, ot_move, ot_assign, ot_pick, ot_binOp, ot_unOp, ot_convert, ot_field, ot_index, ot_indexAddr, ot_fieldAddr, ot_slice, ot_build, ot_buildSlice, ot_extract, ot_makeInterface, ot_makeFunc, ot_nilCheck, ot_call, ot_len, ot_append, ot_box, ot_load, ot_store, ot_makeSlice, ct_bool, ct_true, ct_false, bt_some, gt_some, aval_tmp, aval_int, aval_bool, aval_str, aval_slice, aval_nilPointer, aval_nilIface, aval_func, aval_global, avals, apairs, bareP, AV.bare, AV.bares, bin_lss, bin_leq, bin_gtr, bin_geq, bin_eql, bin_neq, bin_add, bin_sub, bin_mul, bin_and, bin_or, bin_xor, toV_int, toV_bool, toV_string, un_neg, un_not, bin_str_eql, bin_str_neq, bin_str_lss, bin_str_leq, bin_str_gtr, bin_str_geq, aget_aput, length_aput, aput_none, Nat.reduceEqDiff, Nat.reduceLT, Nat.reduceAdd, reduceIte, reduceCtorEq, Bool.not_false, Bool.not_true, Bool.true_or, true_and, Option.bind_some, Option.map_some, List.nil_append, List.cons_append, resA, resA1, resVal, Option.getD_some, Nat.reduceLeDiff, bnd_some, yieldA_eq, yldOf_some, boolOf_bool, boolOf_undef, gt_none, List.getElem?_toArray, List.getElem?_cons_succ, List.getElem?_cons_zero, bq_true, bq_false, decide_true, decide_false, Option.toList_none, Option.toList_some, List.head?_cons, List.head?_nil, nb_cfg, cv_some, pm_some, pm_none, plainA_v, plain_bool, plain_int, plain_str, Bool.false_eq_true, if_false]
        refine ⟨1, ?_⟩
        rw [mayB_false hil (.inl q)]
        rfl
      | true =>
        cases q2 : (L.take i).any (fun p => clashB p.1 L[i].1) with
        | true =>
          simp -dsimp only [hn, h0, h5, h6, h7, hbk', AV.cells, ptKa, ct_prim ky2_12, KeyA.av, ptK, bare_s, hpx, hgd, q, hy, ct_own (C := cfgP ky2) (f := 17) rfl rfl, hcon, q2, wt_seq, wt_block, wt_region, wt_cond, wt_skip, wt_ret, wt_exit, wst_nil, wst_app_nil, wst_app_cons, wst_cons, wst_guard, andThen_normal, andThen_ret, andThen_exit, leave_normal, leave_ret, leave_exit, EndsA_ret, EndsA_normal, ot_move, ot_assign, ot_pick, ot_binOp, ot_unOp, ot_convert, ot_field, ot_index, ot_indexAddr, ot_fieldAddr, ot_slice, ot_build, ot_buildSlice, ot_extract, ot_makeInterface, ot_makeFunc, ot_nilCheck, ot_call, ot_len, ot_append, ot_box, ot_load, ot_store, ot_makeSlice, ct_bool, ct_true, ct_false, bt_some, gt_some, aval_tmp, aval_int, aval_bool, aval_str, aval_slice, aval_nilPointer, aval_nilIface, aval_func, aval_global, avals, apairs, bareP, AV.bare, AV.bares, bin_lss, bin_leq, bin_gtr, bin_geq, bin_eql, bin_neq, bin_add, bin_sub, bin_mul, bin_and, bin_or, bin_xor, toV_int, toV_bool, toV_string, un_neg, un_not, bin_str_eql, bin_str_neq, bin_str_lss, bin_str_leq, bin_str_gtr, bin_str_geq, aget_aput, length_aput, aput_none, Nat.reduceEqDiff, Nat.reduceLT, Nat.reduceAdd, reduceIte, reduceCtorEq, Bool.not_false, Bool.not_true, Bool.true_or, true_and, Option.bind_some, Option.map_some, List.nil_append, List.cons_append, resA, resA1, resVal, Option.getD_some, Nat.reduceLeDiff, bnd_some, yieldA_eq, yldOf_some, boolOf_bool, boolOf_undef, gt_none, List.getElem?_toArray, List.getElem?_cons_succ, List.getElem?_cons_zero, bq_true, bq_false, decide_true, decide_false, Option.toList_none, Option.toList_some, List.head?_cons, List.head?_nil, nb_cfg, cv_some, pm_some, pm_none, plainA_v, plain_bool, plain_int, plain_str, Bool.false_eq_true, if_false]
          refine ⟨1, ?_⟩
          rw [mayB_false hil (.inr q2)]
          rfl
        | false =>
          simp -dsimp only [hn, h0, h5, h6, h7, hbk', AV.cells, ptKa, ct_prim ky2_12, KeyA.av, ptK, bare_s, hpx, hgd, q, hy, ct_own (C := cfgP ky2) (f := 17) rfl rfl, hcon, q2, e1, wt_seq, wt_block, wt_region, wt_cond, wt_skip, wt_ret, wt_exit, wst_nil, wst_app_nil, wst_app_cons, wst_cons, wst_guard, andThen_normal, andThen_ret, andThen_exit, leave_normal, leave_ret, leave_exit, EndsA_ret, EndsA_normal, ot_move, ot_assign, ot_pick, ot_binOp, ot_unOp, ot_convert, ot_field, ot_index, ot_indexAddr, ot_fieldAddr, ot_slice, ot_build, ot_buildSlice, ot_extract, ot_makeInterface, ot_makeFunc, ot_nilCheck, ot_call, ot_len, ot_append, ot_box, ot_load, ot_store, ot_makeSlice, ct_bool, ct_true, ct_false, bt_some, gt_some, aval_tmp, aval_int, aval_bool, aval_str, aval_slice, aval_nilPointer, aval_nilIface, aval_func, aval_global, avals, apairs, bareP, AV.bare, AV.bares, bin_lss, bin_leq, bin_gtr, bin_geq, bin_eql, bin_neq, bin_add, bin_sub, bin_mul, bin_and, bin_or, bin_xor, toV_int, toV_bool, toV_string, un_neg, un_not, bin_str_eql, bin_str_neq, bin_str_lss, bin_str_leq, bin_str_gtr, bin_str_geq, aget_aput, length_aput, aput_none, Nat.reduceEqDiff, Nat.reduceLT, Nat.reduceAdd, reduceIte, reduceCtorEq, Bool.not_false, Bool.not_true, Bool.true_or, true_and, Option.bind_some, Option.map_some, List.nil_append, List.cons_append, resA, resA1, resVal, Option.getD_some, Nat.reduceLeDiff, bnd_some, yieldA_eq, yldOf_some, boolOf_bool, boolOf_undef, gt_none, List.getElem?_toArray, List.getElem?_cons_succ, List.getElem?_cons_zero, bq_true, bq_false, decide_true, decide_false, Option.toList_none, Option.toList_some, List.head?_cons, List.head?_nil, nb_cfg, cv_some, pm_some, pm_none, plainA_v, plain_bool, plain_int, plain_str, Bool.false_eq_true, if_false]
          refine ⟨m - 1, by omega, i + 1, by omega, ⟨?_, rfl, ?_, ?_, ?_, ?_⟩, ?_⟩
          any_goals simp -dsimp only [hn, h0, h5, h6, wt_seq, wt_block, wt_region, wt_cond, wt_skip, wt_ret, wt_exit, wst_nil, wst_app_nil, wst_app_cons, wst_cons, wst_guard, andThen_normal, andThen_ret, andThen_exit, leave_normal, leave_ret, leave_exit, EndsA_ret, EndsA_normal, ot_move, ot_assign, ot_pick, ot_binOp, ot_unOp, ot_convert, ot_field, ot_index, ot_indexAddr, ot_fieldAddr, ot_slice, ot_build, ot_buildSlice, ot_extract, ot_makeInterface, ot_makeFunc, ot_nilCheck, ot_call, ot_len, ot_append, ot_box, ot_load, ot_store, ot_makeSlice, ct_bool, ct_true, ct_false, bt_some, gt_some, aval_tmp, aval_int, aval_bool, aval_str, aval_slice, aval_nilPointer, aval_nilIface, aval_func, aval_global, avals, apairs, bareP, AV.bare, AV.bares, bin_lss, bin_leq, bin_gtr, bin_geq, bin_eql, bin_neq, bin_add, bin_sub, bin_mul, bin_and, bin_or, bin_xor, toV_int, toV_bool, toV_string, un_neg, un_not, bin_str_eql, bin_str_neq, bin_str_lss, bin_str_leq, bin_str_gtr, bin_str_geq, aget_aput, length_aput, aput_none, Nat.reduceEqDiff, Nat.reduceLT, Nat.reduceAdd, reduceIte, reduceCtorEq, Bool.not_false, Bool.not_true, Bool.true_or, true_and, Option.bind_some, Option.map_some, List.nil_append, List.cons_append, resA, resA1, resVal, Option.getD_some, Nat.reduceLeDiff, bnd_some, yieldA_eq, yldOf_some, boolOf_bool, boolOf_undef, gt_none, List.getElem?_toArray, List.getElem?_cons_succ, List.getElem?_cons_zero, bq_true, bq_false, decide_true, decide_false, Option.toList_none, Option.toList_some, List.head?_cons, List.head?_nil, nb_cfg, cv_some, pm_some, pm_none, plainA_v, plain_bool, plain_int, plain_str, Bool.false_eq_true, if_false]
          intro j hj hj'
          rcases Nat.lt_succ_iff_lt_or_eq.1 hj with hj | rfl
          · exact hto j hj hj'
          · exact ⟨q, q2⟩
    · have hd : decide ((i : Int) < ((L.length : Nat) : Int)) = false := decide_eq_false (by omega)
      simp -dsimp only [hn, h0, h5, h6, h7, hd, wt_seq, wt_block, wt_region, wt_cond, wt_skip, wt_ret, wt_exit, wst_nil, wst_app_nil, wst_app_cons, wst_cons, wst_guard, andThen_normal, andThen_ret, andThen_exit, leave_normal, leave_ret, leave_exit, EndsA_ret, EndsA_normal, ot_move, ot_assign, ot_pick, ot_binOp, ot_unOp, ot_convert, ot_field, ot_index, ot_indexAddr, ot_fieldAddr, ot_slice, ot_build, ot_buildSlice, ot_extract, ot_makeInterface, ot_makeFunc, ot_nilCheck, ot_call, ot_len, ot_append, ot_box, ot_load, ot_store, ot_makeSlice, ct_bool, ct_true, ct_false, bt_some, gt_some, aval_tmp, aval_int, aval_bool, aval_str, aval_slice, aval_nilPointer, aval_nilIface, aval_func, aval_global, avals, apairs, bareP, AV.bare, AV.bares, bin_lss, bin_leq, bin_gtr, bin_geq, bin_eql, bin_neq, bin_add, bin_sub, bin_mul, bin_and, bin_or, bin_xor, toV_int, toV_bool, toV_string, un_neg, un_not, bin_str_eql, bin_str_neq, bin_str_lss, bin_str_leq, bin_str_gtr, bin_str_geq, aget_aput, length_aput, aput_none, Nat.reduceEqDiff, Nat.reduceLT, Nat.reduceAdd, reduceIte, reduceCtorEq, Bool.not_false, Bool.not_true, Bool.true_or, true_and, Option.bind_some, Option.map_some, List.nil_append, List.cons_append, resA, resA1, resVal, Option.getD_some, Nat.reduceLeDiff, bnd_some, yieldA_eq, yldOf_some, boolOf_bool, boolOf_undef, gt_none, List.getElem?_toArray, List.getElem?_cons_succ, List.getElem?_cons_zero, bq_true, bq_false, decide_true, decide_false, Option.toList_none, Option.toList_some, List.head?_cons, List.head?_nil, nb_cfg, cv_some, pm_some, pm_none, plainA_v, plain_bool, plain_int, plain_str, Bool.false_eq_true, if_false]
      refine ⟨1, ?_⟩
      have : i = L.length := by omega
      subst this
      rw [mayB_true hto]
      rfl
  · refine ⟨0, Nat.zero_add _, ⟨?_, ?_, ?_, ?_, ?_, ?_⟩, fun j hj => absurd hj (Nat.not_lt_zero _)⟩
    any_goals simp -dsimp only [hn, h0, wt_seq, wt_block, wt_region, wt_cond, wt_skip, wt_ret, wt_exit, wst_nil, wst_app_nil, wst_app_cons, wst_cons, wst_guard, andThen_normal, andThen_ret, andThen_exit, leave_normal, leave_ret, leave_exit, EndsA_ret, EndsA_normal, ot_move, ot_assign, ot_pick, ot_binOp, ot_unOp, ot_convert, ot_field, ot_index, ot_indexAddr, ot_fieldAddr, ot_slice, ot_build, ot_buildSlice, ot_extract, ot_makeInterface, ot_makeFunc, ot_nilCheck, ot_call, ot_len, ot_append, ot_box, ot_load, ot_store, ot_makeSlice, ct_bool, ct_true, ct_false, bt_some, gt_some, aval_tmp, aval_int, aval_bool, aval_str, aval_slice, aval_nilPointer, aval_nilIface, aval_func, aval_global, avals, apairs, bareP, AV.bare, AV.bares, bin_lss, bin_leq, bin_gtr, bin_geq, bin_eql, bin_neq, bin_add, bin_sub, bin_mul, bin_and, bin_or, bin_xor, toV_int, toV_bool, toV_string, un_neg, un_not, bin_str_eql, bin_str_neq, bin_str_lss, bin_str_leq, bin_str_gtr, bin_str_geq, aget_aput, length_aput, aput_none, Nat.reduceEqDiff, Nat.reduceLT, Nat.reduceAdd, reduceIte, reduceCtorEq, Bool.not_false, Bool.not_true, Bool.true_or, true_and, Option.bind_some, Option.map_some, List.nil_append, List.cons_append, resA, resA1, resVal, Option.getD_some, Nat.reduceLeDiff, bnd_some, yieldA_eq, yldOf_some, boolOf_bool, boolOf_undef, gt_none, List.getElem?_toArray, List.getElem?_cons_succ, List.getElem?_cons_zero, bq_true, bq_false, decide_true, decide_false, Option.toList_none, Option.toList_some, List.head?_cons, List.head?_nil, nb_cfg, cv_some, pm_some, pm_none, plainA_v, plain_bool, plain_int, plain_str, Bool.false_eq_true, if_false]
    all_goals rfl
end Go.Proofs.Ytonmpbfddiflhaa

/- Keys: Find. -/
namespace Go.Proofs.Ytonmpbfddiflhaa
open Go.AM
def ky3 : FuncId → Option (List AV → Option AV) := tab [(20, khP), (12, gdP)]
theorem ky3_ok : (cfgP ky3).Ok := cfgOf_ok mixed fok (tab_ok ⟨prim_at Try.func20 (by kernel_rfl) rfl (khP_ok), prim_at Try.func12 (by kernel_rfl) rfl (gdP_ok), trivial⟩)
theorem ky3_20 : (cfgP ky3).prim 20 = some khP := rfl
theorem ky3_12 : (cfgP ky3).prim 12 = some gdP := rfl
/-- Whether it is the key that is looked for. -/
def foundB (k : KeyA) (l : List UInt8) (sv id : List UInt8) (ts : Int) : Bool := goodB k l && decide (k.sv = sv) && decide (k.id = id) && k.has ts
def fnAt : AV := .fn (.func 20) [] []
section
variable {prim : FuncId → Option (List AV → Option AV)}
theorem ptF {cs : List AV} {j : Nat} : partA (cfgP prim) 41 cs j = cs[j]? := by kernel_rfl
end
set_option maxHeartbeats 4000000 in
theorem find1_ok (H : Hp) (k : KeyA) (l sv id : List UInt8) (ts : Int) (hk : pubOf k.p = some l) (h1 : k.sv.length < 2 ^ 63) (h2 : k.id.length < 2 ^ 63) (hb : H.blks[0]? = some ⟨0, 1, [fnAt]⟩) :
    CallOk (cfgP ky3) 22 [k.av, .rp (str sv) 0, .rp (str id) 0, .ptr 0 0 0 0, .rp (.v (.int .i64 ts)) 0] H (.v (.bool (foundB k l sv id ts))) H := by
  have bk := KeyA.bare (pubOf_ok hk)
  have fk := KeyA.flat (pubOf_ok hk)
  have hpk := (pubOf_ok hk).2.1
  have hblk := blkAt_of hb rfl
  have hgd := gdP_eq hk h1 h2
  have hcs : ∀ s, (str s).cells = [str s] := fun _ => rfl
  have hci : (AV.v (.int .i64 ts)).cells = [AV.v (.int .i64 ts)] := rfl
  unfold KeyA.av at *
  unfold fnAt at *
  have hcf : (AV.fn (.func 20) [] []).cells = [AV.fn (.func 20) [] []] := rfl
  refine call_of_wk (call := noCall) (fn := Try.f22) (rs := [.tmp 6]) ky3_ok noCall_ok (fns_cfg Try.func22 rfl) rfl rfl ?_
  intro env hl0 hargs
  have hn : env.length = 27 := hl0
  have h0 := hargs 0 _ rfl
  have h1 := hargs 1 _ rfl
  have h2 := hargs 2 _ rfl
  have h3 := hargs 3 _ rfl
  have h4 := hargs 4 _ rfl
  clear hargs hl0
  refine wkT_of ?_
  simp -dsimp only [hn, h0, h1, h2, h3, h4, ro_cfg 22 5, bxt_ro bk fk, AV.cells, ptK, ct_prim ky3_12, bare_s, hpk, hgd, wt_seq, wt_block, wt_region, wt_cond, wt_skip, wt_ret, wt_exit, wst_nil, wst_app_nil, wst_app_cons, wst_cons, wst_guard, andThen_normal, andThen_ret, andThen_exit, leave_normal, leave_ret, leave_exit, EndsA_ret, EndsA_normal, ot_move, ot_assign, ot_pick, ot_binOp, ot_unOp, ot_convert, ot_field, ot_index, ot_indexAddr, ot_fieldAddr, ot_slice, ot_build, ot_buildSlice, ot_extract, ot_makeInterface, ot_makeFunc, ot_nilCheck, ot_call, ot_len, ot_append, ot_box, ot_load, ot_store, ot_makeSlice, ct_bool, ct_true, ct_false, bt_some, gt_some, aval_tmp, aval_int, aval_bool, aval_str, aval_slice, aval_nilPointer, aval_nilIface, aval_func, aval_global, avals, apairs, bareP, AV.bare, AV.bares, bin_lss, bin_leq, bin_gtr, bin_geq, bin_eql, bin_neq, bin_add, bin_sub, bin_mul, bin_and, bin_or, bin_xor, toV_int, toV_bool, toV_string, un_neg, un_not, bin_str_eql, bin_str_neq, bin_str_lss, bin_str_leq, bin_str_gtr, bin_str_geq, aget_aput, length_aput, aput_none, Nat.reduceEqDiff, Nat.reduceLT, Nat.reduceAdd, reduceIte, reduceCtorEq, Bool.not_false, Bool.not_true, Bool.true_or, true_and, Option.bind_some, Option.map_some, List.nil_append, List.cons_append, resA, resA1, resVal, Option.getD_some, Nat.reduceLeDiff, bnd_some, yieldA_eq, yldOf_some, boolOf_bool, boolOf_undef, gt_none, List.getElem?_toArray, List.getElem?_cons_succ, List.getElem?_cons_zero, bq_true, bq_false, decide_true, decide_false, Option.toList_none, Option.toList_some, List.head?_cons, List.head?_nil, nb_cfg, cv_some, pm_some, pm_none, plainA_v, plain_bool, plain_int, plain_str, Bool.false_eq_true, if_false]
  repeat (apply gm_step; (case h1 => intro hg; (try simp only [Bool.and_eq_true, Bool.not_eq_true', Bool.or_eq_false_iff, Bool.not_or, Bool.not_not] at hg); simp -dsimp only [hn, h0, h1, h2, h3, h4, faK0, faK1, Nat.zero_add, Nat.add_zero, AV.cells, hcs, hci, hcf, pt9, pt2, ptK, ptF, hblk, ct_prim ky3_20, bare_s, hpk, khP_eq hk, hg, Bool.and_true, Bool.true_and, Bool.or_false, Bool.not_false, Bool.not_true, pk_or, pk_and, pk_and', pk_or', wt_seq, wt_block, wt_region, wt_cond, wt_skip, wt_ret, wt_exit, wst_nil, wst_app_nil, wst_app_cons, wst_cons, wst_guard, andThen_normal, andThen_ret, andThen_exit, leave_normal, leave_ret, leave_exit, EndsA_ret, EndsA_normal, ot_move, ot_assign, ot_pick, ot_binOp, ot_unOp, ot_convert, ot_field, ot_index, ot_indexAddr, ot_fieldAddr, ot_slice, ot_build, ot_buildSlice, ot_extract, ot_makeInterface, ot_makeFunc, ot_nilCheck, ot_call, ot_len, ot_append, ot_box, ot_load, ot_store, ot_makeSlice, ct_bool, ct_true, ct_false, bt_some, gt_some, aval_tmp, aval_int, aval_bool, aval_str, aval_slice, aval_nilPointer, aval_nilIface, aval_func, aval_global, avals, apairs, bareP, AV.bare, AV.bares, bin_lss, bin_leq, bin_gtr, bin_geq, bin_eql, bin_neq, bin_add, bin_sub, bin_mul, bin_and, bin_or, bin_xor, toV_int, toV_bool, toV_string, un_neg, un_not, bin_str_eql, bin_str_neq, bin_str_lss, bin_str_leq, bin_str_gtr, bin_str_geq, aget_aput, length_aput, aput_none, Nat.reduceEqDiff, Nat.reduceLT, Nat.reduceAdd, reduceIte, reduceCtorEq, Bool.not_false, Bool.not_true, Bool.true_or, true_and, Option.bind_some, Option.map_some, List.nil_append, List.cons_append, resA, resA1, resVal, Option.getD_some, Nat.reduceLeDiff, bnd_some, yieldA_eq, yldOf_some, boolOf_bool, boolOf_undef, gt_none, List.getElem?_toArray, List.getElem?_cons_succ, List.getElem?_cons_zero, bq_true, bq_false, decide_true, decide_false, Option.toList_none, Option.toList_some, List.head?_cons, List.head?_nil, nb_cfg, cv_some, pm_some, pm_none, plainA_v, plain_bool, plain_int, plain_str, Bool.false_eq_true, if_false]; exact ⟨rfl, rfl, rfl⟩); (try simp -dsimp only [hn, h0, h1, h2, h3, h4, faK0, faK1, Nat.zero_add, Nat.add_zero, AV.cells, hcs, hci, hcf, pt9, pt2, ptK, ptF, hblk, ct_prim ky3_20, bare_s, hpk, khP_eq hk, pk_and, pk_or, pk_and', pk_or', gt_ite, ite_self, wt_seq, wt_block, wt_region, wt_cond, wt_skip, wt_ret, wt_exit, wst_nil, wst_app_nil, wst_app_cons, wst_cons, wst_guard, andThen_normal, andThen_ret, andThen_exit, leave_normal, leave_ret, leave_exit, EndsA_ret, EndsA_normal, ot_move, ot_assign, ot_pick, ot_binOp, ot_unOp, ot_convert, ot_field, ot_index, ot_indexAddr, ot_fieldAddr, ot_slice, ot_build, ot_buildSlice, ot_extract, ot_makeInterface, ot_makeFunc, ot_nilCheck, ot_call, ot_len, ot_append, ot_box, ot_load, ot_store, ot_makeSlice, ct_bool, ct_true, ct_false, bt_some, gt_some, aval_tmp, aval_int, aval_bool, aval_str, aval_slice, aval_nilPointer, aval_nilIface, aval_func, aval_global, avals, apairs, bareP, AV.bare, AV.bares, bin_lss, bin_leq, bin_gtr, bin_geq, bin_eql, bin_neq, bin_add, bin_sub, bin_mul, bin_and, bin_or, bin_xor, toV_int, toV_bool, toV_string, un_neg, un_not, bin_str_eql, bin_str_neq, bin_str_lss, bin_str_leq, bin_str_gtr, bin_str_geq, aget_aput, length_aput, aput_none, Nat.reduceEqDiff, Nat.reduceLT, Nat.reduceAdd, reduceIte, reduceCtorEq, Bool.not_false, Bool.not_true, Bool.true_or, true_and, Option.bind_some, Option.map_some, List.nil_append, List.cons_append, resA, resA1, resVal, Option.getD_some, Nat.reduceLeDiff, bnd_some, yieldA_eq, yldOf_some, boolOf_bool, boolOf_undef, gt_none, List.getElem?_toArray, List.getElem?_cons_succ, List.getElem?_cons_zero, bq_true, bq_false, decide_true, decide_false, Option.toList_none, Option.toList_some, List.head?_cons, List.head?_nil, nb_cfg, cv_some, pm_some, pm_none, plainA_v, plain_bool, plain_int, plain_str, Bool.false_eq_true, if_false]))
  exact ⟨rfl, trivial⟩
/-- IndexFunc, whatever the closure. -/
theorem indexFunc_gen {T : FuncId → List AV → Hp → Option (AV × Hp)} {prim : FuncId → Option (List AV → Option AV)} (K : (cfgP prim).Ok) (hT : CallsOk (cfgP prim) T) (H : Hp) (c : FuncId) (caps : List AV) (hp : (cfgP prim).prim c = none) (ho : (cfgP prim).own c = false) (q : KeyA × List UInt8 → Bool) (r : AV) (L : List (KeyA × List UInt8)) (hr : Ring r L) (hL : L.length < 2 ^ 63)
    (hcall : ∀ p ∈ L, T c ([p.1.av] ++ caps) H = some (.v (.bool (q p)), H)) :
    CallOk (cfgP prim) 21 [r, .fn (.func c) [] caps] H (.v (.int .i64 (idxI (L.findIdx? q)))) H := by
  have hlen : (L.map fun p => p.1.av).length = L.length := by simp
  refine call_of_wk (call := T) (fn := Try.f21) (rs := [.tmp 4]) K hT (fns_cfg Try.func21 rfl) rfl rfl ?_
  intro env hl0 hargs
  have hn : env.length = 19 := hl0
  have h0 := hargs 0 _ rfl
  have h1 := hargs 1 _ rfl
  clear hargs hl0
  refine wkT_of ?_
  simp -dsimp only [hn, h0, h1, lenK hr.el, hlen, wt_seq, wt_block, wt_region, wt_cond, wt_skip, wt_ret, wt_exit, wst_nil, wst_app_nil, wst_app_cons, wst_cons, wst_guard, andThen_normal, andThen_ret, andThen_exit, leave_normal, leave_ret, leave_exit, EndsA_ret, EndsA_normal, ot_move, ot_assign, ot_pick, ot_binOp, ot_unOp, ot_convert, ot_field, ot_index, ot_indexAddr, ot_fieldAddr, ot_slice, ot_build, ot_buildSlice, ot_extract, ot_makeInterface, ot_makeFunc, ot_nilCheck, ot_call, ot_len, ot_append, ot_box, ot_load, ot_store, ot_makeSlice, ct_bool, ct_true, ct_false, bt_some, gt_some, aval_tmp, aval_int, aval_bool, aval_str, aval_slice, aval_nilPointer, aval_nilIface, aval_func, aval_global, avals, apairs, bareP, AV.bare, AV.bares, bin_lss, bin_leq, bin_gtr, bin_geq, bin_eql, bin_neq, bin_add, bin_sub, bin_mul, bin_and, bin_or, bin_xor, toV_int, toV_bool, toV_string, un_neg, un_not, bin_str_eql, bin_str_neq, bin_str_lss, bin_str_leq, bin_str_gtr, bin_str_geq, aget_aput, length_aput, aput_none, Nat.reduceEqDiff, Nat.reduceLT, Nat.reduceAdd, reduceIte, reduceCtorEq, Bool.not_false, Bool.not_true, Bool.true_or, true_and, Option.bind_some, Option.map_some, List.nil_append, List.cons_append, resA, resA1, resVal, Option.getD_some, Nat.reduceLeDiff, bnd_some, yieldA_eq, yldOf_some, boolOf_bool, boolOf_undef, gt_none, List.getElem?_toArray, List.getElem?_cons_succ, List.getElem?_cons_zero, bq_true, bq_false, decide_true, decide_false, Option.toList_none, Option.toList_some, List.head?_cons, List.head?_nil, nb_cfg, cv_some, pm_some, pm_none, plainA_v, plain_bool, plain_int, plain_str, Bool.false_eq_true, if_false]
  refine wt_loop (m := L.length) (fun m e h => ∃ i, i + m = L.length ∧ (e.length = 19 ∧ h = H) ∧ (aget e 0 = r ∧ aget e 1 = .fn (.func c) [] caps ∧ aget e 7 = .v (.int .i64 L.length) ∧ aget e 8 = .v (.int .i64 i)) ∧ ∀ p ∈ L.take i, q p = false) ?_ ?_
  · rintro m e h ⟨i, hi, ⟨hn, rfl⟩, ⟨h0, h1, h7, h8⟩, hno⟩
    by_cases hil : i < L.length
    · have hd : decide ((i : Int) < ((L.length : Nat) : Int)) = true := decide_eq_true (by omega)
      have e1 : IntKind.i64.wrap ((i : Int) + 1) = ((i + 1 : Nat) : Int) := wr64 (by omega) (by omega)
      have hx := hcall L[i] (List.getElem_mem hil)
      simp only [List.cons_append, List.nil_append] at hx
      simp -dsimp only [hn, h0, h1, h7, h8, hd, idxK hr.el (ring_get hil) rfl, ptKa, ct_own hp ho, hx, wt_seq, wt_block, wt_region, wt_cond, wt_skip, wt_ret, wt_exit, wst_nil, wst_app_nil, wst_app_cons, wst_cons, wst_guard, andThen_normal, andThen_ret, andThen_exit, leave_normal, leave_ret, leave_exit, EndsA_ret, EndsA_normal, ot_move, ot_assign, ot_pick, ot_binOp, ot_unOp, ot_convert, ot_field, ot_index, ot_indexAddr, ot_fieldAddr, ot_slice, ot_build, ot_buildSlice, ot_extract, ot_makeInterface, ot_makeFunc, ot_nilCheck, ot_call, ot_len, ot_append, ot_box, ot_load, ot_store, ot_makeSlice, ct_bool, ct_true, ct_false, bt_some, gt_some, aval_tmp, aval_int, aval_bool, aval_str, aval_slice, aval_nilPointer, aval_nilIface, aval_func, aval_global, avals, apairs, bareP, AV.bare, AV.bares, bin_lss, bin_leq, bin_gtr, bin_geq, bin_eql, bin_neq, bin_add, bin_sub, bin_mul, bin_and, bin_or, bin_xor, toV_int, toV_bool, toV_string, un_neg, un_not, bin_str_eql, bin_str_neq, bin_str_lss, bin_str_leq, bin_str_gtr, bin_str_geq, aget_aput, length_aput, aput_none, Nat.reduceEqDiff, Nat.reduceLT, Nat.reduceAdd, reduceIte, reduceCtorEq, Bool.not_false, Bool.not_true, Bool.true_or, true_and, Option.bind_some, Option.map_some, List.nil_append, List.cons_append, resA, resA1, resVal, Option.getD_some, Nat.reduceLeDiff, bnd_some, yieldA_eq, yldOf_some, boolOf_bool, boolOf_undef, gt_none, List.getElem?_toArray, List.getElem?_cons_succ, List.getElem?_cons_zero, bq_true, bq_false, decide_true, decide_false, Option.toList_none, Option.toList_some, List.head?_cons, List.head?_nil, nb_cfg, cv_some, pm_some, pm_none, plainA_v, plain_bool, plain_int, plain_str, Bool.false_eq_true, if_false]
      cases q1 : q L[i] with
      | true =>
        simp -dsimp only [hn, h0, h1, h7, h8, q1, wt_seq, wt_block, wt_region, wt_cond, wt_skip, wt_ret, wt_exit, wst_nil, wst_app_nil, wst_app_cons, wst_cons, wst_guard, andThen_normal, andThen_ret, andThen_exit, leave_normal, leave_ret, leave_exit, EndsA_ret, EndsA_normal, ot_move, ot_assign, ot_pick, ot_binOp, ot_unOp, ot_convert, ot_field, ot_index, ot_indexAddr, ot_fieldAddr, ot_slice, ot_build, ot_buildSlice, ot_extract, ot_makeInterface, ot_makeFunc, ot_nilCheck, ot_call, ot_len, ot_append, ot_box, ot_load, ot_store, ot_makeSlice, ct_bool, ct_true, ct_false, bt_some, gt_some, aval_tmp, aval_int, aval_bool, aval_str, aval_slice, aval_nilPointer, aval_nilIface, aval_func, aval_global, avals, apairs, bareP, AV.bare, AV.bares, bin_lss, bin_leq, bin_gtr, bin_geq, bin_eql, bin_neq, bin_add, bin_sub, bin_mul, bin_and, bin_or, bin_xor, toV_int, toV_bool, toV_string, un_neg, un_not, bin_str_eql, bin_str_neq, bin_str_lss, bin_str_leq, bin_str_gtr, bin_str_geq, aget_aput, length_aput, aput_none, Nat.reduceEqDiff, Nat.reduceLT, Nat.reduceAdd, reduceIte, reduceCtorEq, Bool.not_false, Bool.not_true, Bool.true_or, true_and, Option.bind_some, Option.map_some, List.nil_append, List.cons_append, resA, resA1, resVal, Option.getD_some, Nat.reduceLeDiff, bnd_some, yieldA_eq, yldOf_some, boolOf_bool, boolOf_undef, gt_none, List.getElem?_toArray, List.getElem?_cons_succ, List.getElem?_cons_zero, bq_true, bq_false, decide_true, decide_false, Option.toList_none, Option.toList_some, List.head?_cons, List.head?_nil, nb_cfg, cv_some, pm_some, pm_none, plainA_v, plain_bool, plain_int, plain_str, Bool.false_eq_true, if_false]
        have : L.findIdx? q = some i := by
          rw [List.findIdx?_eq_some_iff_getElem]
          refine ⟨hil, q1, fun j hj => ?_⟩
          rw [hno L[j] (List.mem_take_iff_getElem.2 ⟨j, by omega, rfl⟩)]
          decide
        rw [this]
        exact ⟨rfl, trivial⟩
      | false =>
        simp -dsimp only [hn, h0, h1, h7, h8, q1, e1, wt_seq, wt_block, wt_region, wt_cond, wt_skip, wt_ret, wt_exit, wst_nil, wst_app_nil, wst_app_cons, wst_cons, wst_guard, andThen_normal, andThen_ret, andThen_exit, leave_normal, leave_ret, leave_exit, EndsA_ret, EndsA_normal, ot_move, ot_assign, ot_pick, ot_binOp, ot_unOp, ot_convert, ot_field, ot_index, ot_indexAddr, ot_fieldAddr, ot_slice, ot_build, ot_buildSlice, ot_extract, ot_makeInterface, ot_makeFunc, ot_nilCheck, ot_call, ot_len, ot_append, ot_box, ot_load, ot_store, ot_makeSlice, ct_bool, ct_true, ct_false, bt_some, gt_some, aval_tmp, aval_int, aval_bool, aval_str, aval_slice, aval_nilPointer, aval_nilIface, aval_func, aval_global, avals, apairs, bareP, AV.bare, AV.bares, bin_lss, bin_leq, bin_gtr, bin_geq, bin_eql, bin_neq, bin_add, bin_sub, bin_mul, bin_and, bin_or, bin_xor, toV_int, toV_bool, toV_string, un_neg, un_not, bin_str_eql, bin_str_neq, bin_str_lss, bin_str_leq, bin_str_gtr, bin_str_geq, aget_aput, length_aput, aput_none, Nat.reduceEqDiff, Nat.reduceLT, Nat.reduceAdd, reduceIte, reduceCtorEq, Bool.not_false, Bool.not_true, Bool.true_or, true_and, Option.bind_some, Option.map_some, List.nil_append, List.cons_append, resA, resA1, resVal, Option.getD_some, Nat.reduceLeDiff, bnd_some, yieldA_eq, yldOf_some, boolOf_bool, boolOf_undef, gt_none, List.getElem?_toArray, List.getElem?_cons_succ, List.getElem?_cons_zero, bq_true, bq_false, decide_true, decide_false, Option.toList_none, Option.toList_some, List.head?_cons, List.head?_nil, nb_cfg, cv_some, pm_some, pm_none, plainA_v, plain_bool, plain_int, plain_str, Bool.false_eq_true, if_false]
        refine ⟨m - 1, by omega, i + 1, by omega, rfl, fun p hp => ?_⟩
        rw [List.take_succ_eq_append_getElem hil, List.mem_append, List.mem_singleton] at hp
        rcases hp with hp | rfl
        · exact hno p hp
        · exact q1
    · have hd : decide ((i : Int) < ((L.length : Nat) : Int)) = false := decide_eq_false (by omega)
      simp -dsimp only [hn, h0, h1, h7, h8, hd, wt_seq, wt_block, wt_region, wt_cond, wt_skip, wt_ret, wt_exit, wst_nil, wst_app_nil, wst_app_cons, wst_cons, wst_guard, andThen_normal, andThen_ret, andThen_exit, leave_normal, leave_ret, leave_exit, EndsA_ret, EndsA_normal, ot_move, ot_assign, ot_pick, ot_binOp, ot_unOp, ot_convert, ot_field, ot_index, ot_indexAddr, ot_fieldAddr, ot_slice, ot_build, ot_buildSlice, ot_extract, ot_makeInterface, ot_makeFunc, ot_nilCheck, ot_call, ot_len, ot_append, ot_box, ot_load, ot_store, ot_makeSlice, ct_bool, ct_true, ct_false, bt_some, gt_some, aval_tmp, aval_int, aval_bool, aval_str, aval_slice, aval_nilPointer, aval_nilIface, aval_func, aval_global, avals, apairs, bareP, AV.bare, AV.bares, bin_lss, bin_leq, bin_gtr, bin_geq, bin_eql, bin_neq, bin_add, bin_sub, bin_mul, bin_and, bin_or, bin_xor, toV_int, toV_bool, toV_string, un_neg, un_not, bin_str_eql, bin_str_neq, bin_str_lss, bin_str_leq, bin_str_gtr, bin_str_geq, aget_aput, length_aput, aput_none, Nat.reduceEqDiff, Nat.reduceLT, Nat.reduceAdd, reduceIte, reduceCtorEq, Bool.not_false, Bool.not_true, Bool.true_or, true_and, Option.bind_some, Option.map_some, List.nil_append, List.cons_append, resA, resA1, resVal, Option.getD_some, Nat.reduceLeDiff, bnd_some, yieldA_eq, yldOf_some, boolOf_bool, boolOf_undef, gt_none, List.getElem?_toArray, List.getElem?_cons_succ, List.getElem?_cons_zero, bq_true, bq_false, decide_true, decide_false, Option.toList_none, Option.toList_some, List.head?_cons, List.head?_nil, nb_cfg, cv_some, pm_some, pm_none, plainA_v, plain_bool, plain_int, plain_str, Bool.false_eq_true, if_false]
      have : L.findIdx? q = none := by
        rw [List.findIdx?_eq_none_iff]
        intro p hp
        exact hno p (by rw [List.take_of_length_le (by omega)]; exact hp)
      rw [this]
      exact ⟨rfl, trivial⟩
  · refine ⟨0, Nat.zero_add _, ⟨?_, rfl⟩, ⟨?_, ?_, ?_, ?_⟩, fun p hp => by simp at hp⟩
    any_goals simp -dsimp only [hn, h0, h1, wt_seq, wt_block, wt_region, wt_cond, wt_skip, wt_ret, wt_exit, wst_nil, wst_app_nil, wst_app_cons, wst_cons, wst_guard, andThen_normal, andThen_ret, andThen_exit, leave_normal, leave_ret, leave_exit, EndsA_ret, EndsA_normal, ot_move, ot_assign, ot_pick, ot_binOp, ot_unOp, ot_convert, ot_field, ot_index, ot_indexAddr, ot_fieldAddr, ot_slice, ot_build, ot_buildSlice, ot_extract, ot_makeInterface, ot_makeFunc, ot_nilCheck, ot_call, ot_len, ot_append, ot_box, ot_load, ot_store, ot_makeSlice, ct_bool, ct_true, ct_false, bt_some, gt_some, aval_tmp, aval_int, aval_bool, aval_str, aval_slice, aval_nilPointer, aval_nilIface, aval_func, aval_global, avals, apairs, bareP, AV.bare, AV.bares, bin_lss, bin_leq, bin_gtr, bin_geq, bin_eql, bin_neq, bin_add, bin_sub, bin_mul, bin_and, bin_or, bin_xor, toV_int, toV_bool, toV_string, un_neg, un_not, bin_str_eql, bin_str_neq, bin_str_lss, bin_str_leq, bin_str_gtr, bin_str_geq, aget_aput, length_aput, aput_none, Nat.reduceEqDiff, Nat.reduceLT, Nat.reduceAdd, reduceIte, reduceCtorEq, Bool.not_false, Bool.not_true, Bool.true_or, true_and, Option.bind_some, Option.map_some, List.nil_append, List.cons_append, resA, resA1, resVal, Option.getD_some, Nat.reduceLeDiff, bnd_some, yieldA_eq, yldOf_some, boolOf_bool, boolOf_undef, gt_none, List.getElem?_toArray, List.getElem?_cons_succ, List.getElem?_cons_zero, bq_true, bq_false, decide_true, decide_false, Option.toList_none, Option.toList_some, List.head?_cons, List.head?_nil, nb_cfg, cv_some, pm_some, pm_none, plainA_v, plain_bool, plain_int, plain_str, Bool.false_eq_true, if_false]
    rfl
open Classical in
/-- The closure's call, as a table. -/
noncomputable def find1T : FuncId → List AV → Hp → Option (AV × Hp) := fun f args H => if f = 22 then match args with
  | [x, .rp s 0, .rp i 0, .ptr 0 0 0 0, .rp (.v (.int .i64 ts)) 0] => match decK x, dS s, dS i with
    | some a, some s, some i => if a.1.sv.length < 2 ^ 63 ∧ a.1.id.length < 2 ^ 63 ∧ H.blks[0]? = some ⟨0, 1, [fnAt]⟩ then some (.v (.bool (foundB a.1 a.2 s i ts)), H) else none
    | _, _, _ => none
  | _ => none else none
theorem find1T_ok : CallsOk (cfgP ky3) find1T := by
  refine ⟨fun f args H r H' h => ?_⟩
  unfold find1T at h
  split at h
  · rename_i hf
    subst hf
    refine ⟨⟨Try.f22, fns_cfg Try.func22 rfl, rfl⟩, ?_⟩
    split at h
    · split at h
      · rename_i a s i h1 h2 h3
        split at h
        · rename_i hl
          injection h with h
          injection h with h5 h6
          subst h5; subst h6
          obtain ⟨rfl, ha⟩ := decK_ok h1
          rw [dS_iff] at h2 h3
          subst h2 h3
          exact find1_ok _ _ _ _ _ _ ha hl.1 hl.2.1 hl.2.2
        · cases h
      · cases h
    · cases h
  · cases h
theorem find1T_eq {H : Hp} {a : KeyA} {l s i : List UInt8} {ts : Int} (ha : pubOf a.p = some l) (h1 : a.sv.length < 2 ^ 63) (h2 : a.id.length < 2 ^ 63) (hb : H.blks[0]? = some ⟨0, 1, [fnAt]⟩) :
    find1T 22 ([a.av] ++ [.rp (str s) 0, .rp (str i) 0, .ptr 0 0 0 0, .rp (.v (.int .i64 ts)) 0]) H = some (.v (.bool (foundB a l s i ts)), H) := by
  simp only [List.cons_append, List.nil_append, find1T, if_true, decK_av ha, dS_str, hb, h1, h2, and_self]
open Classical in
/-- IndexFunc with it, as a table. -/
noncomputable def fidxT : FuncId → List AV → Hp → Option (AV × Hp) := fun f args H => if f = 21 then match args with
  | [r, .fn (.func 22) [] [.rp s 0, .rp i 0, .ptr 0 0 0 0, .rp (.v (.int .i64 ts)) 0]] => match decR r, dS s, dS i with
    | some L, some s, some i => if L.length < 2 ^ 63 ∧ (∀ p ∈ L, p.1.sv.length < 2 ^ 63 ∧ p.1.id.length < 2 ^ 63) ∧ H.blks[0]? = some ⟨0, 1, [fnAt]⟩ then some (.v (.int .i64 (idxI (L.findIdx? fun p => foundB p.1 p.2 s i ts))), H) else none
    | _, _, _ => none
  | _ => none else none
theorem fidxT_ok : CallsOk (cfgP ky3) fidxT := by
  refine ⟨fun f args H r H' h => ?_⟩
  unfold fidxT at h
  split at h
  · rename_i hf
    subst hf
    refine ⟨⟨Try.f21, fns_cfg Try.func21 rfl, rfl⟩, ?_⟩
    split at h
    · split at h
      · rename_i L s i h1 h2 h3
        split at h
        · rename_i hl
          injection h with h
          injection h with h5 h6
          subst h5; subst h6
          rw [dS_iff] at h2 h3
          subst h2 h3
          have hr := decR_ok h1
          exact indexFunc_gen ky3_ok find1T_ok _ _ _ rfl rfl (fun p => foundB p.1 p.2 s i _) _ L hr hl.1 fun p hp => find1T_eq (hr.ok p hp) (hl.2.1 p hp).1 (hl.2.1 p hp).2 hl.2.2
        · cases h
      · cases h
    · cases h
  · cases h
theorem fidxT_eq {H : Hp} {r : AV} {L : List (KeyA × List UInt8)} {s i : List UInt8} {ts : Int} (hr : Ring r L) (hl : L.length < 2 ^ 63) (hs : ∀ p ∈ L, p.1.sv.length < 2 ^ 63 ∧ p.1.id.length < 2 ^ 63) (hb : H.blks[0]? = some ⟨0, 1, [fnAt]⟩) :
    fidxT 21 [r, .fn (.func 22) [] [.rp (str s) 0, .rp (str i) 0, .ptr 0 0 0 0, .rp (.v (.int .i64 ts)) 0]] H = some (.v (.int .i64 (idxI (L.findIdx? fun p => foundB p.1 p.2 s i ts))), H) := by
  simp only [fidxT, if_true, decR_eq hr, dS_str]
  rw [if_pos ⟨hl, hs, hb⟩]
section
variable {prim : FuncId → Option (List AV → Option AV)}
theorem bs26e : buildSliceA (cfgP prim) 26 0 [] = some (csl []) := by kernel_rfl
theorem nil26 {x y : Operand} {a : AV} {bs : List AV} : binA (cfgP prim) .eql 26 x y (.ro (a :: bs)) (.v (.slice none 0 0)) = some (.v (.bool false)) := by
  have hu : (cfgP prim).und 26 = some (.slice 5) := by kernel_rfl
  have h1 : AV.toV (.ro (a :: bs)) = none := rfl
  simp only [binA, h1, nilEq, hu, someSl, nilSl, Bool.false_and, Bool.true_and, Bool.false_or, if_true]
theorem app26 {xs ys : List AV} {y : AV} (hy : elems y = some ys) (hs : sized 1 xs) (hys : sized 1 ys) (hr : xs.length + ys.length < 140737488355328) : appA (cfgP prim) #[26, 26] [csl xs, y] (ghp 5 xs) = some (csl (xs ++ ys), ghp 5 (xs ++ ys)) :=
  appA_csl (n := 0) (k := 1) (t1 := 5) (z := .v (.int .u8 0)) (by kernel_rfl) (by kernel_rfl) (by kernel_rfl) (by kernel_rfl) rfl (by kernel_rfl) hy hs hys (by omega)
end
theorem sized_by (l : List UInt8) : sized 1 (byts l) := fun x hx => by
  simp only [byts, List.mem_map] at hx
  obtain ⟨c, _, rfl⟩ := hx
  rfl
theorem clone_ok (c : UInt8) (l : List UInt8) (hl : l.length < 2 ^ 40) : PureOk (cfgP ky3) 23 [.ro (byts (c :: l))] (.ro (byts (c :: l))) := by
  have hb : byts (c :: l) = byt c :: byts l := rfl
  have happ : appA (cfgP ky3) #[26, 26] [csl [], .ro (byts (c :: l))] {} = some (csl (byts (c :: l)), ghp 5 (byts (c :: l))) := app26 (prim := ky3) (xs := []) (ys := byts (c :: l)) rfl (fun _ h => by cases h) (sized_by _) (by simp [byts]; omega)
  rw [hb] at happ ⊢
  refine pure_of_wk (call := noCall) (fn := Try.f23) (rs := [.tmp 2]) ky3_ok noCall_ok (fns_cfg Try.func23 rfl) rfl rfl ?_
  intro env hl0 hargs
  have hn : env.length = 8 := hl0
  have h0 := hargs 0 _ rfl
  clear hargs hl0
  refine wkT_of ?_
  simp -dsimp only [hn, h0, nil26, bs26e, happ, wt_seq, wt_block, wt_region, wt_cond, wt_skip, wt_ret, wt_exit, wst_nil, wst_app_nil, wst_app_cons, wst_cons, wst_guard, andThen_normal, andThen_ret, andThen_exit, leave_normal, leave_ret, leave_exit, EndsA_ret, EndsA_normal, ot_move, ot_assign, ot_pick, ot_binOp, ot_unOp, ot_convert, ot_field, ot_index, ot_indexAddr, ot_fieldAddr, ot_slice, ot_build, ot_buildSlice, ot_extract, ot_makeInterface, ot_makeFunc, ot_nilCheck, ot_call, ot_len, ot_append, ot_box, ot_load, ot_store, ot_makeSlice, ct_bool, ct_true, ct_false, bt_some, gt_some, aval_tmp, aval_int, aval_bool, aval_str, aval_slice, aval_nilPointer, aval_nilIface, aval_func, aval_global, avals, apairs, bareP, AV.bare, AV.bares, bin_lss, bin_leq, bin_gtr, bin_geq, bin_eql, bin_neq, bin_add, bin_sub, bin_mul, bin_and, bin_or, bin_xor, toV_int, toV_bool, toV_string, un_neg, un_not, bin_str_eql, bin_str_neq, bin_str_lss, bin_str_leq, bin_str_gtr, bin_str_geq, aget_aput, length_aput, aput_none, Nat.reduceEqDiff, Nat.reduceLT, Nat.reduceAdd, reduceIte, reduceCtorEq, Bool.not_false, Bool.not_true, Bool.true_or, true_and, Option.bind_some, Option.map_some, List.nil_append, List.cons_append, resA, resA1, resVal, Option.getD_some, Nat.reduceLeDiff, bnd_some, yieldA_eq, yldOf_some, boolOf_bool, boolOf_undef, gt_none, List.getElem?_toArray, List.getElem?_cons_succ, List.getElem?_cons_zero, bq_true, bq_false, decide_true, decide_false, Option.toList_none, Option.toList_some, List.head?_cons, List.head?_nil, nb_cfg, cv_some, pm_some, pm_none, plainA_v, plain_bool, plain_int, plain_str, Bool.false_eq_true, if_false]
  exact ⟨1, rfl⟩
def clnP : List AV → Option AV
  | [.ro xs] => match decL decByte xs with
    | some (c :: l) => if (c :: l).length < 2 ^ 40 then some (.ro (byts (c :: l))) else none
    | _ => none
  | _ => none
theorem clnP_eq {l : List UInt8} (h0 : l ≠ []) (h : l.length < 2 ^ 40) : clnP [.ro (byts l)] = some (.ro (byts l)) := by
  have hd : decL decByte (byts l) = some l := (decL_iff (fun _ _ => decByte_iff)).2 rfl
  cases l with
  | nil => exact absurd rfl h0
  | cons c l => simp only [clnP, hd, h, if_true]
theorem clnP_ok : ∀ xs r, clnP xs = some r → PureOk (cfgP ky3) 23 xs r := by
  intro xs r hx
  unfold clnP at hx
  split at hx
  · split at hx
    · rename_i c l h1
      split at hx
      · rename_i hl
        injection hx with hx; subst hx
        have := (decL_iff (fun _ _ => decByte_iff)).1 h1
        subst this
        exact clone_ok c l (by simp only [List.length_cons] at hl; omega)
      · cases hx
    · cases hx
  · cases hx
def ky4 : FuncId → Option (List AV → Option AV) := tab [(23, clnP)]
theorem ky4_ok : (cfgP ky4).Ok := cfgOf_ok mixed fok (tab_ok ⟨prim_at Try.func23 (by kernel_rfl) rfl (clnP_ok), trivial⟩)
theorem ky4_23 : (cfgP ky4).prim 23 = some clnP := rfl
theorem fidxT_ok4 : CallsOk (cfgP ky4) fidxT := ⟨fun f xs H r H' h => ⟨(fidxT_ok.ok f xs H r H' h).1, fun G W vs S rv => by
  have := (fidxT_ok.ok f xs H r H' h).2 G W vs (Sim.other (C := cfgP ky4) (C' := cfgP ky3) rfl rfl S) rv
  exact this.mono fun e W' ⟨y, he, G', ry, S', A⟩ => ⟨y, he, G', ry, Sim.other (C := cfgP ky3) (C' := cfgP ky4) rfl rfl S', A⟩⟩⟩
/-- What Find hands back. -/
def findO (L : List (KeyA × List UInt8)) (s i : List UInt8) (ts : Int) : Option (List UInt8) := (L.find? fun p => foundB p.1 p.2 s i ts).map (·.2)
def findV : Option (List UInt8) → AV
  | some l => .tup [.ro (byts l), .v (.bool true)]
  | none => .tup [.v (.slice none 0 0), .v (.bool false)]
theorem pub_ro {p : AV} {l : List UInt8} (h : pubOf p = some l) (h0 : l ≠ []) : p = .ro (byts l) := by
  unfold pubOf at h
  split at h
  · injection h with h; exact absurd h.symm h0
  · have := (decL_iff (fun _ _ => decByte_iff)).1 h
    rw [this]
    rfl
  · cases h
section
variable {prim : FuncId → Option (List AV → Option AV)}
theorem allocF : allocA (cfgP prim) 41 false {} = some (.ptr 0 0 0 0, hb1 1 [.v .nilFunc], 2) := by
  have hz : zeroA (cfgP prim) 41 = some (.v .nilFunc) := by kernel_rfl
  simp only [allocA, hz, Option.bind_some]
  rfl
theorem storeF : storeA (cfgP prim) 41 0 0 0 0 fnAt (hb1 1 [.v .nilFunc]) = some (hb1 1 [fnAt]) := store_hb1 (C := cfgP prim) (i := 0) (xs := [.v .nilFunc]) rfl rfl (by kernel_rfl) rfl (fun cs h => by cases h)
end
set_option maxHeartbeats 4000000 in
theorem find_ok (r : AV) (L : List (KeyA × List UInt8)) (s i : List UInt8) (ts : Int) (hr : Ring r L) (hb : AV.bare r = some r) (hL : L.length < 2 ^ 63) (hs : ∀ p ∈ L, p.1.sv.length < 2 ^ 63 ∧ p.1.id.length < 2 ^ 63) : PureOk (cfgP ky4) 9 [r, str s, str i, .v (.int .i64 ts)] (findV (findO L s i ts)) := by
  have hx := fidxT_eq (H := hb1 1 [fnAt]) (s := s) (i := i) (ts := ts) hr hL hs rfl
  have hbs : ∀ s, AV.bare (str s) = some (str s) := fun _ => rfl
  have hfs : ∀ s, (str s).cells.all AV.flat = true := fun _ => rfl
  have hro : (cfgP ky4).roBox 9 10 = false := rfl
  have hat : fnAt = .fn (.func 20) [] [] := rfl
  have hstF := storeF (prim := ky4)
  rw [hat] at hstF hx
  have hfi : findO L s i ts = ((L.findIdx? fun p => foundB p.1 p.2 s i ts).bind fun j => L[j]?).map (·.2) := by
    unfold findO
    rw [List.find?_eq_bind_findIdx?_getElem?]
  rw [hfi]
  cases hfo : L.findIdx? fun p => foundB p.1 p.2 s i ts with
  | none =>
    rw [hfo] at hx
    refine pure_of_wk (call := fidxT) (fn := Try.f9) (rs := [.tmp 8, .tmp 9]) ky4_ok fidxT_ok4 (fns_cfg Try.func9 rfl) rfl rfl ?_
    intro env hl0 hargs
    have hn : env.length = 23 := hl0
    have h0 := hargs 0 _ rfl
    have h1 := hargs 1 _ rfl
    have h2 := hargs 2 _ rfl
    have h3 := hargs 3 _ rfl
    clear hargs hl0
    refine wkT_of ?_
    simp -dsimp only [hn, h0, h1, h2, h3, ro_cfg 9 5, ro_cfg 9 6, ro_cfg 9 7, bxt_ro (hbs s) (hfs s), bxt_ro (hbs i) (hfs i), bxt_ro (y := .v (.int .i64 ts)) (z := .v (.int .i64 ts)) rfl rfl, ot_alloc, hro, allocF, hstF, ct_own (C := cfgP ky4) (f := 21) rfl rfl, hx, idxI, show decide ((-1 : Int) < 0) = true from rfl, wt_seq, wt_block, wt_region, wt_cond, wt_skip, wt_ret, wt_exit, wst_nil, wst_app_nil, wst_app_cons, wst_cons, wst_guard, andThen_normal, andThen_ret, andThen_exit, leave_normal, leave_ret, leave_exit, EndsA_ret, EndsA_normal, ot_move, ot_assign, ot_pick, ot_binOp, ot_unOp, ot_convert, ot_field, ot_index, ot_indexAddr, ot_fieldAddr, ot_slice, ot_build, ot_buildSlice, ot_extract, ot_makeInterface, ot_makeFunc, ot_nilCheck, ot_call, ot_len, ot_append, ot_box, ot_load, ot_store, ot_makeSlice, ct_bool, ct_true, ct_false, bt_some, gt_some, aval_tmp, aval_int, aval_bool, aval_str, aval_slice, aval_nilPointer, aval_nilIface, aval_func, aval_global, avals, apairs, bareP, AV.bare, AV.bares, bin_lss, bin_leq, bin_gtr, bin_geq, bin_eql, bin_neq, bin_add, bin_sub, bin_mul, bin_and, bin_or, bin_xor, toV_int, toV_bool, toV_string, un_neg, un_not, bin_str_eql, bin_str_neq, bin_str_lss, bin_str_leq, bin_str_gtr, bin_str_geq, aget_aput, length_aput, aput_none, Nat.reduceEqDiff, Nat.reduceLT, Nat.reduceAdd, reduceIte, reduceCtorEq, Bool.not_false, Bool.not_true, Bool.true_or, true_and, Option.bind_some, Option.map_some, List.nil_append, List.cons_append, resA, resA1, resVal, Option.getD_some, Nat.reduceLeDiff, bnd_some, yieldA_eq, yldOf_some, boolOf_bool, boolOf_undef, gt_none, List.getElem?_toArray, List.getElem?_cons_succ, List.getElem?_cons_zero, bq_true, bq_false, decide_true, decide_false, Option.toList_none, Option.toList_some, List.head?_cons, List.head?_nil, nb_cfg, cv_some, pm_some, pm_none, plainA_v, plain_bool, plain_int, plain_str, Bool.false_eq_true, if_false]
    exact ⟨5, rfl⟩
  | some j =>
    rw [hfo] at hx
    have hj := List.findIdx?_eq_some_iff_getElem.1 hfo
    obtain ⟨hjl, hq, _⟩ := hj
    have hpj := hr.ok L[j] (List.getElem_mem hjl)
    have h32 : L[j].2.length = 32 := by
      unfold foundB goodB at hq
      simp only [Bool.and_eq_true, decide_eq_true_eq] at hq
      omega
    have hne : L[j].2 ≠ [] := by
      intro h
      rw [h] at h32
      cases h32
    have hpr := pub_ro hpj hne
    have hcl := clnP_eq hne (show L[j].2.length < 2 ^ 40 by omega)
    have hbr : AV.bare (.ro (byts L[j].2)) = some (.ro (byts L[j].2)) := rfl
    have hres : ((some j).bind fun j => L[j]?).map (·.2) = some L[j].2 := by
      simp [hjl]
    rw [hres]
    have hd : decide (((j : Nat) : Int) < 0) = false := decide_eq_false (by omega)
    have hkc : L[j].1.av.cells = [str L[j].1.sv, str L[j].1.id, .ro (byts L[j].2), .v (.int .i64 L[j].1.f), .v (.int .i64 L[j].1.u)] := by
      unfold KeyA.av
      rw [hpr]
      rfl
    refine pure_of_wk (call := fidxT) (fn := Try.f9) (rs := [.tmp 8, .tmp 9]) ky4_ok fidxT_ok4 (fns_cfg Try.func9 rfl) rfl rfl ?_
    intro env hl0 hargs
    have hn : env.length = 23 := hl0
    have h0 := hargs 0 _ rfl
    have h1 := hargs 1 _ rfl
    have h2 := hargs 2 _ rfl
    have h3 := hargs 3 _ rfl
    clear hargs hl0
    refine wkT_of ?_
    simp -dsimp only [hn, h0, h1, h2, h3, ro_cfg 9 5, ro_cfg 9 6, ro_cfg 9 7, bxt_ro (hbs s) (hfs s), bxt_ro (hbs i) (hfs i), bxt_ro (y := .v (.int .i64 ts)) (z := .v (.int .i64 ts)) rfl rfl, ot_alloc, hro, allocF, hstF, ct_own (C := cfgP ky4) (f := 21) rfl rfl, hx, idxI, hd, idxK hr.el (ring_get hjl) rfl, faK2, Nat.zero_add, hkc, pt26, ct_prim ky4_23, hbr, hcl, wt_seq, wt_block, wt_region, wt_cond, wt_skip, wt_ret, wt_exit, wst_nil, wst_app_nil, wst_app_cons, wst_cons, wst_guard, andThen_normal, andThen_ret, andThen_exit, leave_normal, leave_ret, leave_exit, EndsA_ret, EndsA_normal, ot_move, ot_assign, ot_pick, ot_binOp, ot_unOp, ot_convert, ot_field, ot_index, ot_indexAddr, ot_fieldAddr, ot_slice, ot_build, ot_buildSlice, ot_extract, ot_makeInterface, ot_makeFunc, ot_nilCheck, ot_call, ot_len, ot_append, ot_box, ot_load, ot_store, ot_makeSlice, ct_bool, ct_true, ct_false, bt_some, gt_some, aval_tmp, aval_int, aval_bool, aval_str, aval_slice, aval_nilPointer, aval_nilIface, aval_func, aval_global, avals, apairs, bareP, AV.bare, AV.bares, bin_lss, bin_leq, bin_gtr, bin_geq, bin_eql, bin_neq, bin_add, bin_sub, bin_mul, bin_and, bin_or, bin_xor, toV_int, toV_bool, toV_string, un_neg, un_not, bin_str_eql, bin_str_neq, bin_str_lss, bin_str_leq, bin_str_gtr, bin_str_geq, aget_aput, length_aput, aput_none, Nat.reduceEqDiff, Nat.reduceLT, Nat.reduceAdd, reduceIte, reduceCtorEq, Bool.not_false, Bool.not_true, Bool.true_or, true_and, Option.bind_some, Option.map_some, List.nil_append, List.cons_append, resA, resA1, resVal, Option.getD_some, Nat.reduceLeDiff, bnd_some, yieldA_eq, yldOf_some, boolOf_bool, boolOf_undef, gt_none, List.getElem?_toArray, List.getElem?_cons_succ, List.getElem?_cons_zero, bq_true, bq_false, decide_true, decide_false, Option.toList_none, Option.toList_some, List.head?_cons, List.head?_nil, nb_cfg, cv_some, pm_some, pm_none, plainA_v, plain_bool, plain_int, plain_str, Bool.false_eq_true, if_false]
    exact ⟨5, rfl⟩
end Go.Proofs.Ytonmpbfddiflhaa

/- Keys: plain facts; what a ring is that a call is handed. -/
namespace Go.Proofs.Ytonmpbfddiflhaa
open Go.AM
abbrev KL := KeyA × List UInt8
def apart (a b : KL) : Prop := clashB a.1 b.1 = false
theorem clash_symm (a b : KeyA) : clashB a b = clashB b a := by
  unfold clashB
  rw [Bool.or_comm (a.has b.f)]
  congr 1
  rw [show decide (a.sv = b.sv) = decide (b.sv = a.sv) from by rw [decide_eq_decide]; exact eq_comm, show decide (a.id = b.id) = decide (b.id = a.id) from by rw [decide_eq_decide]; exact eq_comm]
theorem apart_symm {a b : KL} (h : apart a b) : apart b a := by unfold apart at *; rw [clash_symm]; exact h
theorem mayB_iff (L : List KL) : mayB L = true ↔ (∀ p ∈ L, goodB p.1 p.2 = true) ∧ L.Pairwise apart := by
  rw [List.pairwise_iff_getElem]
  unfold mayB
  rw [List.all_eq_true]
  constructor
  · intro h
    have key : ∀ i (hi : i < L.length), goodB L[i].1 L[i].2 = true ∧ ((L.take i).any fun q => clashB q.1 L[i].1) = false := by
      intro i hi
      have := h i (List.mem_range.2 hi)
      rw [List.getElem?_eq_getElem hi] at this
      simpa using this
    refine ⟨fun p hp => ?_, fun i j hi hj hij => ?_⟩
    · obtain ⟨i, hi, rfl⟩ := List.mem_iff_getElem.1 hp
      exact (key i hi).1
    · have h2 := (key j hj).2
      rw [List.any_eq_false] at h2
      have := h2 L[i] (List.mem_take_iff_getElem.2 ⟨i, by omega, rfl⟩)
      unfold apart
      simpa using this
  · rintro ⟨h1, h2⟩ i hi
    have hi := List.mem_range.1 hi
    rw [List.getElem?_eq_getElem hi]
    simp only [h1 L[i] (List.getElem_mem hi), Bool.true_and, Bool.not_eq_true']
    rw [List.any_eq_false]
    intro q hq
    obtain ⟨j, hj, rfl⟩ := List.mem_take_iff_getElem.1 hq
    have := h2 j i (by omega) hi (by omega)
    unfold apart at this
    simp [this]
theorem found_clash {p q : KL} {s i : List UInt8} {ts : Int} (hp : foundB p.1 p.2 s i ts = true) (hq : foundB q.1 q.2 s i ts = true) : clashB p.1 q.1 = true := by
  unfold foundB KeyA.has at hp hq
  simp only [Bool.and_eq_true, decide_eq_true_eq] at hp hq
  obtain ⟨⟨⟨_, h1⟩, h2⟩, h3, h4⟩ := hp
  obtain ⟨⟨⟨_, g1⟩, g2⟩, g3, g4⟩ := hq
  unfold clashB KeyA.has
  rw [h1, g1, h2, g2]
  simp only [decide_true, Bool.true_and, Bool.or_eq_true, Bool.and_eq_true, decide_eq_true_eq]
  omega
/-- In what may be, at most one is found. -/
theorem found_one {L : List KL} (h : L.Pairwise apart) {s i : List UInt8} {ts : Int} : ∀ p ∈ L, ∀ q ∈ L, foundB p.1 p.2 s i ts = true → foundB q.1 q.2 s i ts = true → p = q := by
  intro p hp q hq h1 h2
  obtain ⟨a, ha, rfl⟩ := List.mem_iff_getElem.1 hp
  obtain ⟨b, hb, rfl⟩ := List.mem_iff_getElem.1 hq
  rw [List.pairwise_iff_getElem] at h
  rcases Nat.lt_trichotomy a b with hab | hab | hab
  · have := h a b ha hb hab
    unfold apart at this
    rw [found_clash h1 h2] at this
    cases this
  · subst hab; rfl
  · have := h b a hb ha hab
    unfold apart at this
    rw [found_clash h2 h1] at this
    cases this
theorem findO_of {L : List KL} (h : L.Pairwise apart) {s i : List UInt8} {ts : Int} {p : KL} (hp : p ∈ L) (hf : foundB p.1 p.2 s i ts = true) : findO L s i ts = some p.2 := by
  unfold findO
  cases hq : L.find? fun p => foundB p.1 p.2 s i ts with
  | none =>
    rw [List.find?_eq_none] at hq
    exact absurd hf (hq p hp)
  | some q =>
    have h1 := List.mem_of_find?_eq_some hq
    have h2 := List.find?_some hq
    rw [found_one h p hp q h1 hf h2]
    rfl
theorem findO_perm {L M : List KL} (hp : L.Perm M) (h : L.Pairwise apart) {s i : List UInt8} {ts : Int} : findO M s i ts = findO L s i ts := by
  have h' : M.Pairwise apart := (hp.pairwise_iff apart_symm).1 h
  cases hq : L.find? fun p => foundB p.1 p.2 s i ts with
  | none =>
    have : M.find? (fun p => foundB p.1 p.2 s i ts) = none := by
      rw [List.find?_eq_none] at hq ⊢
      exact fun p hpm => hq p (hp.mem_iff.2 hpm)
    unfold findO
    rw [hq, this]
  | some q =>
    have h1 := List.mem_of_find?_eq_some hq
    have h2 := List.find?_some hq
    rw [findO_of h h1 h2, findO_of h' (hp.mem_iff.1 h1) h2]
theorem mayB_perm {L M : List KL} (hp : L.Perm M) (h : mayB L = true) : mayB M = true := by
  rw [mayB_iff] at *
  exact ⟨fun p hpm => h.1 p (hp.mem_iff.2 hpm), (hp.pairwise_iff apart_symm).1 h.2⟩
/-- A ring turned. -/
def turned (L : List KL) (k : Nat) : List KL := L.drop k ++ L.take k
theorem turned_perm (L : List KL) (k : Nat) : L.Perm (turned L k) := by
  have : (L.take k ++ L.drop k).Perm (L.drop k ++ L.take k) := List.perm_append_comm
  rw [List.take_append_drop] at this
  exact this
theorem turned_get (L : List KL) (k i : Nat) (hk : k < L.length) (hi : i < L.length) : (turned L k)[i]? = L[(i + k) % L.length]? := by
  unfold turned
  by_cases h : i + k < L.length
  · rw [List.getElem?_append_left (by rw [List.length_drop]; omega), List.getElem?_drop, Nat.mod_eq_of_lt h, Nat.add_comm]
  · rw [List.getElem?_append_right (by rw [List.length_drop]; omega), List.length_drop, List.getElem?_take, if_pos (by omega)]
    congr 1
    rw [show i + k = (i + k - L.length) + L.length by omega, Nat.add_mod_right, Nat.mod_eq_of_lt (by omega)]
    omega
/-- What a call is handed. -/
theorem maxLen_eq : maxLen = 2 ^ 63 - 1 := rfl
structure Kr where
  k : KeyA
  l : List UInt8
  h : pubOf k.p = some l
  a : k.sv.length < 2 ^ 63
  b : k.id.length < 2 ^ 63
section
variable {P : Program}
theorem argC_str {n : Nat} {t : TypeId} {a : List AV} (hu : P.underlying t = some .string) (h : ArgC P n t a) : ∃ l, a = [str l] ∧ l.length ≤ maxLen := by
  cases n with
  | zero => exact h.elim
  | succ n => unfold ArgC at h; rw [hu] at h; exact h
theorem argC_int {n : Nat} {t : TypeId} {k : IntKind} {a : List AV} (hu : P.underlying t = some (.int k)) (h : ArgC P n t a) : ∃ i, a = [.v (.int k i)] ∧ (Lit.int k i).wf = true := by
  cases n with
  | zero => exact h.elim
  | succ n => unfold ArgC at h; rw [hu] at h; exact h
theorem argC_bytes {n : Nat} {t e : TypeId} {a : List AV} (hu : P.underlying t = some (.slice e)) (he : P.underlying e = some (.int .u8)) (h : ArgC P n t a) : ∃ x l, a = [x] ∧ pubOf x = some l := by
  cases n with
  | zero => exact h.elim
  | succ n =>
    unfold ArgC at h
    rw [hu] at h
    rcases h with h | ⟨ys, h1, h2, h3⟩
    · exact ⟨_, [], h, rfl⟩
    · have h4 : ∀ y ∈ ys, ∃ c, y = byt c := fun y hy => arg_byte he ⟨n, (h3 y hy).choose, (h3 y hy).choose_spec⟩
      have : ∃ l, decL decByte ys = some l := by
        clear h1 h2 h3
        induction ys with
        | nil => exact ⟨[], rfl⟩
        | cons y ys ih =>
          obtain ⟨c, rfl⟩ := h4 y (by simp)
          obtain ⟨l, hl⟩ := ih fun z hz => h4 z (by simp [hz])
          exact ⟨c :: l, by simp only [decL, dec_byt, hl]⟩
      obtain ⟨l, hl⟩ := this
      exact ⟨_, l, h1, hl⟩
end
theorem arg_key {y : AV} (h : Arg Try.prog 28 y) : ∃ c : Kr, y = c.k.av := by
  obtain ⟨n, cs, h1, h2⟩ := h
  have ha : aggT Try.prog 28 = true := by simp only [aggT, Try.underlying28]
  unfold oneA at h2
  rw [ha] at h2
  simp only [if_true, Option.some.injEq] at h2
  subst h2
  cases n with
  | zero => exact h1.elim
  | succ n =>
    unfold ArgC at h1
    rw [Try.underlying28] at h1
    obtain ⟨a1, r1, rfl, g1, a2, r2, rfl, g2, a3, r3, rfl, g3, a4, r4, rfl, g4, a5, r5, rfl, g5, rfl⟩ := h1
    obtain ⟨sv, rfl, l1⟩ := argC_str (by kernel_rfl) g1
    obtain ⟨id, rfl, l2⟩ := argC_str (by kernel_rfl) g2
    obtain ⟨x, l, rfl, hx⟩ := argC_bytes (e := 5) (by kernel_rfl) (by kernel_rfl) g3
    obtain ⟨f, rfl, w1⟩ := argC_int (k := .i64) (by kernel_rfl) g4
    obtain ⟨u, rfl, w2⟩ := argC_int (k := .i64) (by kernel_rfl) g5
    rw [maxLen_eq] at l1 l2
    exact ⟨⟨⟨sv, id, x, f, u⟩, l, hx, by show sv.length < 2 ^ 63; omega, by show id.length < 2 ^ 63; omega⟩, rfl⟩
/-- A ring that a call is handed. -/
theorem arg_ring {x : AV} (h : Arg Try.prog 22 x) : ∃ L : List KL, Ring x L ∧ AV.bare x = some x ∧ ∀ p ∈ L, p.1.sv.length < 2 ^ 63 ∧ p.1.id.length < 2 ^ 63 := by
  obtain ⟨l, h1, h2, h3, _⟩ := arg_slice (e := 28) (g := fun c : Kr => c.k.av) (by kernel_rfl) (fun y hy => arg_key hy) h
  refine ⟨l.map fun c => (c.k, c.l), ⟨by rw [h1, List.map_map]; rfl, fun p hp => ?_⟩, h2, fun p hp => ?_⟩
  · obtain ⟨c, _, rfl⟩ := List.mem_map.1 hp
    exact c.h
  · obtain ⟨c, _, rfl⟩ := List.mem_map.1 hp
    exact ⟨c.a, c.b⟩
end Go.Proofs.Ytonmpbfddiflhaa

/- KeysFind: the walk. -/
namespace Go.Proofs.Ytonmpbfddiflhaa
open Go.AM
theorem kawake_run : (callA (cfgP ky0) 2000 7 [] {}).map (·.1) = some (.v (.bool true)) := by kernel_rfl
def awkP : List AV → Option AV
  | [] => some (.v (.bool true))
  | _ => none
theorem awkP_ok : ∀ xs r, awkP xs = some r → PureOk (cfgP ky0) 7 xs r := by
  intro xs r h
  unfold awkP at h
  split at h
  · injection h with h; subst h
    obtain ⟨⟨x, H⟩, hr, hx⟩ := Option.map_eq_some_iff.1 kawake_run
    cases hx
    exact pureOk_of (n := 1) (((callA_ok ky0_ok 2000).ok _ _ _ _ _ hr).2) rfl
  · cases h
/-- Small enough. -/
def smallR (r : AV) (L : List KL) : Prop := AV.bare r = some r ∧ L.length < 2 ^ 62 ∧ ∀ p ∈ L, p.1.sv.length < 2 ^ 63 ∧ p.1.id.length < 2 ^ 63
open Classical in
noncomputable def mayP : List AV → Option AV
  | [r] => match decR r with
    | some L => if smallR r L then some (.v (.bool (mayB L))) else none
    | none => none
  | _ => none
theorem mayP_eq {r : AV} {L : List KL} (h : Ring r L) (hs : smallR r L) : mayP [r] = some (.v (.bool (mayB L))) := by
  simp only [mayP, decR_eq h]
  rw [if_pos hs]
theorem mayP_ok : ∀ xs r, mayP xs = some r → PureOk (cfgP ky2) 8 xs r := by
  intro xs r hx
  unfold mayP at hx
  split at hx
  · split at hx
    · rename_i L h1
      split at hx
      · rename_i hs
        injection hx with hx; subst hx
        exact may_ok _ L (decR_ok h1) hs.1 (by have := hs.2.1; omega) hs.2.2
      · cases hx
    · cases hx
  · cases hx
open Classical in
noncomputable def fndP : List AV → Option AV
  | [r, s, i, .v (.int .i64 ts)] => match decR r, dS s, dS i with
    | some L, some s, some i => if smallR r L then some (findV (findO L s i ts)) else none
    | _, _, _ => none
  | _ => none
theorem fndP_eq {r : AV} {L : List KL} {s i : List UInt8} {ts : Int} (h : Ring r L) (hs : smallR r L) : fndP [r, str s, str i, .v (.int .i64 ts)] = some (findV (findO L s i ts)) := by
  simp only [fndP, decR_eq h, dS_str]
  rw [if_pos hs]
theorem fndP_ok : ∀ xs r, fndP xs = some r → PureOk (cfgP ky4) 9 xs r := by
  intro xs r hx
  unfold fndP at hx
  split at hx
  · split at hx
    · rename_i L s i h1 h2 h3
      split at hx
      · rename_i hs
        injection hx with hx; subst hx
        rw [dS_iff] at h2 h3
        subst h2 h3
        exact find_ok _ L _ _ _ (decR_ok h1) hs.1 (by have := hs.2.1; omega) hs.2.2
      · cases hx
    · cases hx
  · cases hx
noncomputable section
def ky5 : FuncId → Option (List AV → Option AV) := tab [(7, awkP), (8, mayP), (9, fndP)]
theorem ky5_ok : (cfgP ky5).Ok := cfgOf_ok mixed fok (tab_ok ⟨prim_at Try.func7 (by kernel_rfl) rfl (awkP_ok), prim_at Try.func8 (by kernel_rfl) rfl (mayP_ok), prim_at Try.func9 (by kernel_rfl) rfl (fndP_ok), trivial⟩)
theorem ky5_7 : (cfgP ky5).prim 7 = some awkP := rfl
theorem ky5_8 : (cfgP ky5).prim 8 = some mayP := rfl
theorem ky5_9 : (cfgP ky5).prim 9 = some fndP := rfl
end
section
variable {prim : FuncId → Option (List AV → Option AV)}
theorem appKs {xs : List AV} {f : Bool} {x : AV} (hx : x.cells.length = 5) (hs : sized 5 xs) (hr : xs.length < 1000000000000) : appA (cfgP prim) #[22, 22] [gsl xs, .cl f [x]] (ghp 28 xs) = some (gsl (xs ++ [x]), ghp 28 (xs ++ [x])) :=
  appA_gsl (n := 4) (k := 72) (t1 := 28) (z := zeroK) (by kernel_rfl) (by kernel_rfl) (by kernel_rfl) (by kernel_rfl) rfl (by kernel_rfl) hx hs (by omega)
theorem bsK {k : KeyA} (hf : k.av.cells.all AV.flat = true) : buildSliceA (cfgP prim) 22 1 [(0, k.av)] = some (.cl true [k.av]) := by
  have he : elemT (cfgP prim) 22 = some 28 := by kernel_rfl
  have hc : (cfgP prim).csz 28 = some 5 := by kernel_rfl
  have hg : isAggT (cfgP prim) 28 = some true := by kernel_rfl
  have hz : zeroA (cfgP prim) 28 = some zeroK := by kernel_rfl
  simp only [buildSliceA, he, hc, hg, hz]
  rw [if_pos (by decide +kernel)]
  simp only [fillA, hf]
  rfl
end
theorem u64w (x : Int) : IntKind.u64.wrap x = x % 2 ^ 64 := by
  simp [IntKind.wrap, IntKind.bits, IntKind.signed]
end Go.Proofs.Ytonmpbfddiflhaa
