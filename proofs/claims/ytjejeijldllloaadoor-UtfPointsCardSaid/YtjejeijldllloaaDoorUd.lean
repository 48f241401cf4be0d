/- Contracts of functions, and plain facts about what they compute. -/
import Derived.Test.YtjejeijldllloaaDoorUc
set_option linter.unusedSimpArgs false
set_option linter.unusedVariables false
/- Chapter 1: strings.Builder: copyCheck, WriteByte. -/
namespace Go.Proofs.YtjejeijldllloaaDoor
open Go.AM
theorem store_fieldG {C : Cfg} {t : TypeId} {b n j g : Nat} {H : Hp} {x y : List AV} {u : AV} (hb : H.blks[b]? = some ⟨g, n, [.agg y]⟩) (hc : C.csz t = some 1) (hu : u.cells = [u]) (hf : u.flat = true) (hj : j < y.length) (hx : y.take j ++ [u] ++ y.drop (j + 1) = x) :
    storeA C t b g 0 j u H = some { H with blks := H.blks.set b ⟨g, n, [.agg x]⟩ } := by
  have h1 : blkAt H b g = some ⟨g, n, [.agg y]⟩ := by simp only [blkAt, hb, if_true]
  have h4 : some u.cells.length = C.csz t ∧ u.cells.all AV.flat := ⟨by rw [hc, hu]; rfl, by rw [hu]; simp [hf]⟩
  simp only [storeA, h1, List.getElem?_cons_zero, h4, and_self, if_true]
  have h2 : setCells (.agg y) j u.cells = some (.agg x) := by
    unfold setCells
    rw [hu]
    simp only [List.length_singleton]
    rw [if_pos (by omega), hx]
  rw [h2]
  rfl
/-- The writer: its builder, used or not; what is written. -/
def selfP : AV := .ptr 0 85 0 0
def wrA (u : Bool) : AV := if u then selfP else .v (.pointer none)
def wrH (u : Bool) (l : List UInt8) : Hp := { toks := (ghp 5 (byts l)).toks, blks := [⟨85, 2, [.agg [wrA u, gsl (byts l)]]⟩] }
theorem wrH_blk {u : Bool} {l : List UInt8} : blkAt (wrH u l) 0 85 = some ⟨85, 2, [.agg [wrA u, gsl (byts l)]]⟩ := rfl
section
variable {prim : FuncId → Option (List AV → Option AV)}
theorem wf0 {b g i j : Nat} : fieldAddrA (cfgP prim) 82 (.ptr b g i j) 0 = some (.ptr b g i (j + 0)) := by kernel_rfl
theorem wf1 {b g i j : Nat} : fieldAddrA (cfgP prim) 82 (.ptr b g i j) 1 = some (.ptr b g i (j + 1)) := by kernel_rfl
theorem rp80 {cs : List AV} {j : Nat} : partA (cfgP prim) 80 cs j = cs[j]? := by kernel_rfl
theorem peq1 : binA (cfgP prim) .eql 80 (Operand.tmp 5) (Operand.const (Value.pointer none)) (.ptr 0 85 0 0) (.v (.pointer none)) = some (.v (.bool false)) := by kernel_rfl
theorem peq2 : binA (cfgP prim) .eql 80 (Operand.tmp 5) (Operand.const (Value.pointer none)) (.v (.pointer none)) (.v (.pointer none)) = some (.v (.bool true)) := by kernel_rfl
theorem pne1 {x y : Operand} : binA (cfgP prim) .neq 80 x y (.ptr 0 85 0 0) (.ptr 0 85 0 0) = some (.v (.bool false)) := by kernel_rfl
theorem wrH_store0 {u : Bool} {l : List UInt8} : storeA (cfgP prim) 80 0 85 0 0 (.ptr 0 85 0 0) (wrH u l) = some (wrH true l) := by
  rw [store_fieldG (y := [wrA u, gsl (byts l)]) (x := [wrA true, gsl (byts l)]) rfl (by kernel_rfl) rfl rfl (by simp) rfl]
  rfl
theorem wrH_store1 {u : Bool} {l l2 : List UInt8} : storeA (cfgP prim) 72 0 85 0 1 (gsl (byts l2)) { wrH u l with toks := (ghp 5 (byts l2)).toks } = some (wrH u l2) := by
  rw [store_fieldG (y := [wrA u, gsl (byts l)]) (x := [wrA u, gsl (byts l2)]) rfl (by kernel_rfl) (gsl_cells _) (gsl_flat _) (by simp) rfl]
  rfl
end
theorem noEsc {call : FuncId → List AV → Option AV} {g : Nat} : callPA (cfgP fun _ => none) call (.fn (.func 110) [] []) [.ptr 0 g 0 0] = some (.ptr 0 g 0 0) := by kernel_rfl
theorem ct_noEsc {call : FuncId → List AV → Hp → Option (AV × Hp)} {Q : AV → Hp → Nat → Prop} {v : Tag Q} {g : Nat} {H : Hp} : callT (cfgP fun _ => none) call Q v (.fn (.func 110) [] []) [.ptr 0 g 0 0] H = Q (.ptr 0 g 0 0) H 0 := by
  show wkCall _ _ _ _ _ _ = _
  unfold wkCall
  rw [noEsc]
theorem cvn1 : convA (cfgP fun _ => none) 80 135 (.ptr 0 85 0 0) = none := by kernel_rfl
theorem cvn2 : convA (cfgP fun _ => none) 135 80 (.ptr 0 85 0 0) = none := by kernel_rfl
theorem ex1 {u : Bool} {l : List UInt8} : exStr (cfgP fun _ => none) 80 135 (.ptr 0 85 0 0) (wrH u l) = some (.ptr 0 85 0 0) := by kernel_rfl
theorem ex2 {u : Bool} {l : List UInt8} : exStr (cfgP fun _ => none) 135 80 (.ptr 0 85 0 0) (wrH u l) = some (.ptr 0 85 0 0) := by kernel_rfl
set_option maxHeartbeats 4000000 in
theorem copy_ok (u : Bool) (l : List UInt8) : CallOk (cfgP fun _ => none) 94 [.ptr 0 85 0 0] (wrH u l) (.tup []) (wrH true l) := by
  cases u with
  | true =>
    have ha : wrA true = .ptr 0 85 0 0 := rfl
    have hb := wrH_blk (u := true) (l := l)
    rw [ha] at hb
    refine call_of_wk (call := noCall) (fn := Tryd.f94) (rs := []) cokN noCall_ok (fns_cfg Tryd.func94 rfl) rfl rfl ?_
    intro env hl0 hargs
    have hn : env.length = 20 := hl0
    have h0 := hargs 0 _ rfl
    clear hargs hl0
    refine wkT_of ?_
    simp -dsimp only [hn, h0, wf0, wf1, rp80, hb, AV.cells, Nat.zero_add, List.getElem?_cons_zero, List.getElem?_cons_succ, peq1, peq2, pne1, cvn1, cvn2, cv_ptr, ex1, ex2, ct_noEsc, wt_seq, wt_block, wt_region, wt_cond, wt_skip, wt_ret, wt_exit, wst_nil, wst_cons, wst_guard, andThen_normal, andThen_ret, andThen_exit, leave_normal, leave_ret, leave_exit, EndsA_ret, EndsA_normal, ot_move, ot_assign, ot_pick, ot_binOp, ot_unOp, ot_convert, ot_field, ot_index, ot_indexAddr, ot_fieldAddr, ot_slice, ot_build, ot_buildSlice, ot_extract, ot_makeInterface, ot_makeFunc, ot_nilCheck, ot_call, ot_len, ot_append, ot_box, ot_load, ot_store, ot_makeSlice, ot_alloc, ot_sliceData, ot_unsafeString, ct_bool, ct_true, ct_false, bt_some, gt_some, aval_tmp, aval_int, aval_bool, aval_str, aval_slice, aval_nilPointer, aval_nilIface, aval_func, aval_global, avals, apairs, bareP, AV.bare, AV.bares, bin_lss, bin_leq, bin_gtr, bin_geq, bin_eql, bin_neq, bin_add, bin_sub, bin_mul, bin_and, bin_or, bin_xor, toV_int, toV_bool, toV_string, un_neg, un_not, bin_str_eql, bin_str_neq, bin_str_lss, bin_str_leq, bin_str_gtr, bin_str_geq, aget_aput, length_aput, aput_none, Nat.reduceEqDiff, Nat.reduceLT, Nat.reduceAdd, ↓reduceIte, reduceCtorEq, Bool.not_false, Bool.not_true, Bool.true_or, true_and, Option.bind_some, Option.map_some, List.nil_append, List.cons_append, resA, resA1, resVal, Option.getD_some, Nat.reduceLeDiff, bnd_some, yieldA_eq, yldOf_some, boolOf_bool, boolOf_undef, gt_none, List.getElem?_toArray, List.getElem?_cons_succ, List.getElem?_cons_zero, bq_true, bq_false, decide_true, decide_false, Option.toList_none, Option.toList_some, List.head?_cons, List.head?_nil, nb_cfg, not_false_eq_true, cv_some, pm_some, pm_none, plainA_v, plain_bool, plain_int, plain_str, Bool.false_eq_true, if_false]
    done
  | false =>
    have ha : wrA false = .v (.pointer none) := rfl
    have hb := wrH_blk (u := false) (l := l)
    rw [ha] at hb
    have ha' : wrA true = .ptr 0 85 0 0 := rfl
    have hb' := wrH_blk (u := true) (l := l)
    rw [ha'] at hb'
    refine call_of_wk (call := noCall) (fn := Tryd.f94) (rs := []) cokN noCall_ok (fns_cfg Tryd.func94 rfl) rfl rfl ?_
    intro env hl0 hargs
    have hn : env.length = 20 := hl0
    have h0 := hargs 0 _ rfl
    clear hargs hl0
    refine wkT_of ?_
    simp -dsimp only [hn, h0, wf0, wf1, rp80, hb, hb', wrH_store0, AV.cells, Nat.zero_add, List.getElem?_cons_zero, List.getElem?_cons_succ, peq1, peq2, pne1, cvn1, cvn2, cv_ptr, ex1, ex2, ct_noEsc, wt_seq, wt_block, wt_region, wt_cond, wt_skip, wt_ret, wt_exit, wst_nil, wst_cons, wst_guard, andThen_normal, andThen_ret, andThen_exit, leave_normal, leave_ret, leave_exit, EndsA_ret, EndsA_normal, ot_move, ot_assign, ot_pick, ot_binOp, ot_unOp, ot_convert, ot_field, ot_index, ot_indexAddr, ot_fieldAddr, ot_slice, ot_build, ot_buildSlice, ot_extract, ot_makeInterface, ot_makeFunc, ot_nilCheck, ot_call, ot_len, ot_append, ot_box, ot_load, ot_store, ot_makeSlice, ot_alloc, ot_sliceData, ot_unsafeString, ct_bool, ct_true, ct_false, bt_some, gt_some, aval_tmp, aval_int, aval_bool, aval_str, aval_slice, aval_nilPointer, aval_nilIface, aval_func, aval_global, avals, apairs, bareP, AV.bare, AV.bares, bin_lss, bin_leq, bin_gtr, bin_geq, bin_eql, bin_neq, bin_add, bin_sub, bin_mul, bin_and, bin_or, bin_xor, toV_int, toV_bool, toV_string, un_neg, un_not, bin_str_eql, bin_str_neq, bin_str_lss, bin_str_leq, bin_str_gtr, bin_str_geq, aget_aput, length_aput, aput_none, Nat.reduceEqDiff, Nat.reduceLT, Nat.reduceAdd, ↓reduceIte, reduceCtorEq, Bool.not_false, Bool.not_true, Bool.true_or, true_and, Option.bind_some, Option.map_some, List.nil_append, List.cons_append, resA, resA1, resVal, Option.getD_some, Nat.reduceLeDiff, bnd_some, yieldA_eq, yldOf_some, boolOf_bool, boolOf_undef, gt_none, List.getElem?_toArray, List.getElem?_cons_succ, List.getElem?_cons_zero, bq_true, bq_false, decide_true, decide_false, Option.toList_none, Option.toList_some, List.head?_cons, List.head?_nil, nb_cfg, not_false_eq_true, cv_some, pm_some, pm_none, plainA_v, plain_bool, plain_int, plain_str, Bool.false_eq_true, if_false]
    done
end Go.Proofs.YtjejeijldllloaaDoor

/- Chapter 1: strings.Builder: WriteByte. -/
namespace Go.Proofs.YtjejeijldllloaaDoor
open Go.AM
theorem wrA_inj {u v : Bool} (h : wrA u = wrA v) : u = v := by
  cases u <;> cases v <;> first | rfl | (exact absurd h (by intro h; cases h))
theorem gsl_inj {a b : List UInt8} (h : gsl (byts a) = gsl (byts b)) : a = b := by
  have e := congrArg elems h
  rw [elems_gsl, elems_gsl] at e
  exact byts_inj (Option.some.inj e)
theorem wrH_inj {u v : Bool} {a b : List UInt8} (h : wrH u a = wrH v b) : u = v ∧ a = b := by
  unfold wrH at h
  injection h with _ h2
  injection h2 with h2 _
  injection h2 with _ _ h2
  injection h2 with h2 _
  injection h2 with h2
  injection h2 with x h2
  injection h2 with y _
  exact ⟨wrA_inj x, gsl_inj y⟩
noncomputable def copyT := relT 94 (fun _ : Bool × List UInt8 => True) (fun _ => [.ptr 0 85 0 0]) (fun p => wrH p.1 p.2) (fun _ => .tup []) (fun p => wrH true p.2)
theorem copyT_ok : CallsOk (cfgP fun _ => none) copyT := relT_ok (fns_cfg Tryd.func94 rfl) rfl fun p _ => copy_ok p.1 p.2
theorem copyT_eq {u : Bool} {l : List UInt8} : copyT 94 [.ptr 0 85 0 0] (wrH u l) = some (.tup [], wrH true l) :=
  relT_eq (f0 := 94) (X := fun _ : Bool × List UInt8 => True) (a := fun _ => [.ptr 0 85 0 0]) (h := fun p => wrH p.1 p.2) (r := fun _ => .tup []) (h' := fun p => wrH true p.2) (fun p q _ _ _ h => by rw [(wrH_inj h).2]; exact ⟨rfl, rfl⟩) (u, l) trivial
set_option maxHeartbeats 4000000 in
theorem writeByte_ok (u : Bool) (l : List UInt8) (c : UInt8) (hl : l.length < 2 ^ 39) : CallOk (cfgP fun _ => none) 63 [.ptr 0 85 0 0, .v (.int .u8 (c.toNat : Int))] (wrH u l) (.v Value.nilIface) (wrH true (l ++ [c])) := by
  have q := copyT_eq (u := u) (l := l)
  have hap := app72 (prim := fun _ => none) (l := l) (b := [c]) (by simp) (by simp; omega) (H := wrH true l) rfl
  rw [show byts [c] = [.v (.int .u8 (c.toNat : Int))] from rfl] at hap
  have hst := wrH_store1 (prim := fun _ => none) (u := true) (l := l) (l2 := l ++ [c])
  have hb := wrH_blk (u := true) (l := l)
  obtain ⟨l2, hl2⟩ : ∃ l2, l ++ [c] = l2 := ⟨_, rfl⟩
  rw [hl2] at hap hst ⊢
  refine call_of_wk (call := copyT) (fn := Tryd.f63) (rs := [.tmp 4]) cokN copyT_ok (fns_cfg Tryd.func63 rfl) rfl rfl ?_
  intro env hl0 hargs
  have hn : env.length = 17 := hl0
  have h0 := hargs 0 _ rfl
  have h1 := hargs 1 _ rfl
  clear hargs hl0
  refine wkT_of ?_
  simp -dsimp only [hn, h0, h1, ct_own (C := cfgP fun _ => none) (f := 94) rfl rfl, q, wf0, wf1, rp72, hb, AV.cells, Nat.zero_add, List.getElem?_cons_zero, List.getElem?_cons_succ, bs1, hap, hst, wt_seq, wt_block, wt_region, wt_cond, wt_skip, wt_ret, wt_exit, wst_nil, wst_cons, wst_guard, andThen_normal, andThen_ret, andThen_exit, leave_normal, leave_ret, leave_exit, EndsA_ret, EndsA_normal, ot_move, ot_assign, ot_pick, ot_binOp, ot_unOp, ot_convert, ot_field, ot_index, ot_indexAddr, ot_fieldAddr, ot_slice, ot_build, ot_buildSlice, ot_extract, ot_makeInterface, ot_makeFunc, ot_nilCheck, ot_call, ot_len, ot_append, ot_box, ot_load, ot_store, ot_makeSlice, ot_alloc, ot_sliceData, ot_unsafeString, ct_bool, ct_true, ct_false, bt_some, gt_some, aval_tmp, aval_int, aval_bool, aval_str, aval_slice, aval_nilPointer, aval_nilIface, aval_func, aval_global, avals, apairs, bareP, AV.bare, AV.bares, bin_lss, bin_leq, bin_gtr, bin_geq, bin_eql, bin_neq, bin_add, bin_sub, bin_mul, bin_and, bin_or, bin_xor, toV_int, toV_bool, toV_string, un_neg, un_not, bin_str_eql, bin_str_neq, bin_str_lss, bin_str_leq, bin_str_gtr, bin_str_geq, aget_aput, length_aput, aput_none, Nat.reduceEqDiff, Nat.reduceLT, Nat.reduceAdd, ↓reduceIte, reduceCtorEq, Bool.not_false, Bool.not_true, Bool.true_or, true_and, Option.bind_some, Option.map_some, List.nil_append, List.cons_append, resA, resA1, resVal, Option.getD_some, Nat.reduceLeDiff, bnd_some, yieldA_eq, yldOf_some, boolOf_bool, boolOf_undef, gt_none, List.getElem?_toArray, List.getElem?_cons_succ, List.getElem?_cons_zero, bq_true, bq_false, decide_true, decide_false, Option.toList_none, Option.toList_some, List.head?_cons, List.head?_nil, nb_cfg, not_false_eq_true, cv_some, pm_some, pm_none, plainA_v, plain_bool, plain_int, plain_str, Bool.false_eq_true, if_false]
  done
end Go.Proofs.YtjejeijldllloaaDoor

/- Chapter 1: strings.Builder: WriteString; one byte of a quote. -/
namespace Go.Proofs.YtjejeijldllloaaDoor
open Go.AM
section
variable {prim : FuncId → Option (List AV → Option AV)}
theorem srcS {b : List UInt8} : srcA (cfgP prim) 5 (str b) = some (byts b) := by
  have h : isU8 (cfgP prim) 5 = true := by kernel_rfl
  unfold srcA str
  simp only [h, if_true]
  simp [byteAVs, byts, byt]
theorem appS1 {s : AV} {b : List UInt8} {H : Hp} : appA (cfgP prim) #[72, 9] [s, str b] H = appendA (cfgP prim) 5 s (str b) H := by kernel_rfl
theorem appS2 {s : AV} {b : List UInt8} {H : Hp} : appA (cfgP prim) #[72, 72] [s, .cl true (byts b)] H = appendA (cfgP prim) 5 s (.cl true (byts b)) H := by kernel_rfl
theorem app729 {l b : List UInt8} (hne : b ≠ []) (hl : l.length + b.length < 2 ^ 40) {H : Hp} (hH : H.toks = (ghp 5 (byts l)).toks) : appA (cfgP prim) #[72, 9] [gsl (byts l), str b] H = some (gsl (byts (l ++ b)), { H with toks := (ghp 5 (byts (l ++ b))).toks }) := by
  rw [appS1, ← app72 hne hl hH, appS2]
  unfold appendA
  rw [srcS, srcA_elems (e := 5) (y := .cl true (byts b)) (ys := byts b) rfl]
end
set_option maxHeartbeats 4000000 in
theorem writeString_ok (u : Bool) (l b : List UInt8) (hb : b ≠ []) (hl : l.length < 2 ^ 38) (hbl : b.length < 2 ^ 38) : CallOk (cfgP fun _ => none) 96 [.ptr 0 85 0 0, str b] (wrH u l) (.tup [.v (.int .i64 (b.length : Int)), .v Value.nilIface]) (wrH true (l ++ b)) := by
  have q := copyT_eq (u := u) (l := l)
  have hap := app729 (prim := fun _ => none) (l := l) (b := b) hb (by omega) (H := wrH true l) rfl
  have hst := wrH_store1 (prim := fun _ => none) (u := true) (l := l) (l2 := l ++ b)
  have hbk := wrH_blk (u := true) (l := l)
  obtain ⟨l2, hl2⟩ : ∃ l2, l ++ b = l2 := ⟨_, rfl⟩
  rw [hl2] at hap hst ⊢
  refine call_of_wk (call := copyT) (fn := Tryd.f96) (rs := [.tmp 4, .tmp 5]) cokN copyT_ok (fns_cfg Tryd.func96 rfl) rfl rfl ?_
  intro env hl0 hargs
  have hn : env.length = 19 := hl0
  have h0 := hargs 0 _ rfl
  have h1 := hargs 1 _ rfl
  clear hargs hl0
  refine wkT_of ?_
  simp -dsimp only [hn, h0, h1, ct_own (C := cfgP fun _ => none) (f := 94) rfl rfl, q, wf0, wf1, rp72, hbk, AV.cells, Nat.zero_add, List.getElem?_cons_zero, List.getElem?_cons_succ, len_s, hap, hst, wt_seq, wt_block, wt_region, wt_cond, wt_skip, wt_ret, wt_exit, wst_nil, wst_cons, wst_guard, andThen_normal, andThen_ret, andThen_exit, leave_normal, leave_ret, leave_exit, EndsA_ret, EndsA_normal, ot_move, ot_assign, ot_pick, ot_binOp, ot_unOp, ot_convert, ot_field, ot_index, ot_indexAddr, ot_fieldAddr, ot_slice, ot_build, ot_buildSlice, ot_extract, ot_makeInterface, ot_makeFunc, ot_nilCheck, ot_call, ot_len, ot_append, ot_box, ot_load, ot_store, ot_makeSlice, ot_alloc, ot_sliceData, ot_unsafeString, ct_bool, ct_true, ct_false, bt_some, gt_some, aval_tmp, aval_int, aval_bool, aval_str, aval_slice, aval_nilPointer, aval_nilIface, aval_func, aval_global, avals, apairs, bareP, AV.bare, AV.bares, bin_lss, bin_leq, bin_gtr, bin_geq, bin_eql, bin_neq, bin_add, bin_sub, bin_mul, bin_and, bin_or, bin_xor, toV_int, toV_bool, toV_string, un_neg, un_not, bin_str_eql, bin_str_neq, bin_str_lss, bin_str_leq, bin_str_gtr, bin_str_geq, aget_aput, length_aput, aput_none, Nat.reduceEqDiff, Nat.reduceLT, Nat.reduceAdd, ↓reduceIte, reduceCtorEq, Bool.not_false, Bool.not_true, Bool.true_or, true_and, Option.bind_some, Option.map_some, List.nil_append, List.cons_append, resA, resA1, resVal, Option.getD_some, Nat.reduceLeDiff, bnd_some, yieldA_eq, yldOf_some, boolOf_bool, boolOf_undef, gt_none, List.getElem?_toArray, List.getElem?_cons_succ, List.getElem?_cons_zero, bq_true, bq_false, decide_true, decide_false, Option.toList_none, Option.toList_some, List.head?_cons, List.head?_nil, nb_cfg, not_false_eq_true, cv_some, pm_some, pm_none, plainA_v, plain_bool, plain_int, plain_str, Bool.false_eq_true, if_false]
  done
end Go.Proofs.YtjejeijldllloaaDoor

/- Chapter 1: one byte of a quote. -/
namespace Go.Proofs.YtjejeijldllloaaDoor
open Go.AM
def digL : List UInt8 := [48, 49, 50, 51, 52, 53, 54, 55, 56, 57, 97, 98, 99, 100, 101, 102]
def digU (k : Nat) : UInt8 := digL.getD k 0
/-- What is written for a byte. -/
def putL (c : UInt8) : List UInt8 := if shortN c.toNat ≠ 0 then [92, UInt8.ofNat (shortN c.toNat)] else if c.toNat < 32 then [92, 117, 48, 48, digU (c.toNat / 16), digU (c.toNat % 16)] else [c]
noncomputable def byteT := relT 63 (fun p : Bool × List UInt8 × UInt8 => p.2.1.length < 2 ^ 38) (fun p => [.ptr 0 85 0 0, .v (.int .u8 (p.2.2.toNat : Int))]) (fun p => wrH p.1 p.2.1) (fun _ => .v Value.nilIface) (fun p => wrH true (p.2.1 ++ [p.2.2]))
theorem byteT_ok : CallsOk (cfgP fun _ => none) byteT := relT_ok (fns_cfg Tryd.func63 rfl) rfl fun p h => writeByte_ok p.1 p.2.1 p.2.2 (by omega)
theorem byteT_eq {u : Bool} {l : List UInt8} {c : UInt8} (h : l.length < 2 ^ 38) : byteT 63 [.ptr 0 85 0 0, .v (.int .u8 (c.toNat : Int))] (wrH u l) = some (.v Value.nilIface, wrH true (l ++ [c])) :=
  relT_eq (f0 := 63) (X := fun p : Bool × List UInt8 × UInt8 => p.2.1.length < 2 ^ 38) (a := fun p => [.ptr 0 85 0 0, .v (.int .u8 (p.2.2.toNat : Int))]) (h := fun p => wrH p.1 p.2.1) (r := fun _ => .v Value.nilIface) (h' := fun p => wrH true (p.2.1 ++ [p.2.2])) (fun p q _ _ ha h => by
    have e : p.2.2 = q.2.2 := by
      injection ha with _ ha
      injection ha with ha _
      exact byt_inj ha
    rw [(wrH_inj h).2, e]; exact ⟨rfl, rfl⟩) (u, l, c) h
noncomputable def strT := relT 96 (fun p : Bool × List UInt8 × List UInt8 => p.2.2 ≠ [] ∧ p.2.1.length < 2 ^ 38 ∧ p.2.2.length < 2 ^ 38) (fun p => [.ptr 0 85 0 0, str p.2.2]) (fun p => wrH p.1 p.2.1) (fun p => .tup [.v (.int .i64 (p.2.2.length : Int)), .v Value.nilIface]) (fun p => wrH true (p.2.1 ++ p.2.2))
theorem strT_ok : CallsOk (cfgP fun _ => none) strT := relT_ok (fns_cfg Tryd.func96 rfl) rfl fun p h => writeString_ok p.1 p.2.1 p.2.2 h.1 h.2.1 h.2.2
theorem strT_eq {u : Bool} {l b : List UInt8} (hb : b ≠ []) (h : l.length < 2 ^ 38) (h2 : b.length < 2 ^ 38) : strT 96 [.ptr 0 85 0 0, str b] (wrH u l) = some (.tup [.v (.int .i64 (b.length : Int)), .v Value.nilIface], wrH true (l ++ b)) :=
  relT_eq (f0 := 96) (X := fun p : Bool × List UInt8 × List UInt8 => p.2.2 ≠ [] ∧ p.2.1.length < 2 ^ 38 ∧ p.2.2.length < 2 ^ 38) (a := fun p => [.ptr 0 85 0 0, str p.2.2]) (h := fun p => wrH p.1 p.2.1) (r := fun p => .tup [.v (.int .i64 (p.2.2.length : Int)), .v Value.nilIface]) (h' := fun p => wrH true (p.2.1 ++ p.2.2)) (fun p q _ _ ha h => by
    have e : p.2.2 = q.2.2 := by
      injection ha with _ ha
      injection ha with ha _
      exact str_inj ha
    rw [(wrH_inj h).2, e]; exact ⟨rfl, rfl⟩) (u, l, b) ⟨hb, h, h2⟩
noncomputable def wT := orT byteT strT
theorem wT_ok : CallsOk (cfgP ul1) wT := calls_prim (orT_ok byteT_ok strT_ok)
theorem wT_byte {u : Bool} {l : List UInt8} {c : UInt8} (h : l.length < 2 ^ 38) : wT 63 [.ptr 0 85 0 0, .v (.int .u8 (c.toNat : Int))] (wrH u l) = some (.v Value.nilIface, wrH true (l ++ [c])) := orT_l (byteT_eq h)
theorem wT_str {u : Bool} {l b : List UInt8} (hb : b ≠ []) (h : l.length < 2 ^ 38) (h2 : b.length < 2 ^ 38) : wT 96 [.ptr 0 85 0 0, str b] (wrH u l) = some (.tup [.v (.int .i64 (b.length : Int)), .v Value.nilIface], wrH true (l ++ b)) := orT_r (relT_none (by decide)) (strT_eq hb h h2)
theorem wf84 {prim : FuncId → Option (List AV → Option AV)} {b g i j : Nat} : fieldAddrA (cfgP prim) 84 (.ptr b g i j) 0 = some (.ptr b g i (j + 0)) := by kernel_rfl
theorem an15 : ∀ n : Fin 256, IntKind.u8.wrap ((BitVec.ofInt IntKind.u8.bits (n.1 : Nat) &&& BitVec.ofInt IntKind.u8.bits 15).toNat : Nat) = ((n.1 % 16 : Nat) : Int) := by decide +kernel
theorem ba15 {prim : FuncId → Option (List AV → Option AV)} {t : TypeId} {x y : Operand} {n : Nat} (h : n < 256) : binA (cfgP prim) .and t x y (.v (.int .u8 (n : Int))) (.v (.int .u8 15)) = some (.v (.int .u8 ((n % 16 : Nat) : Int))) := by rw [bin_and, an15 ⟨n, h⟩]
theorem dig_get {k : Nat} (h : k < 16) : digL[k]? = some (digU k) := by
  have hl : k < digL.length := h
  rw [List.getElem?_eq_getElem hl]
  simp [digU, List.getD_eq_getElem?_getD, hl]
theorem dig_ix {prim : FuncId → Option (List AV → Option AV)} {k : Nat} (h : k < 16) : indexA (cfgP prim) 9 (str [48, 49, 50, 51, 52, 53, 54, 55, 56, 57, 97, 98, 99, 100, 101, 102]) (.v (.int .u8 (k : Int))) = some (.v (.int .u8 ((digU k).toNat : Int))) := ix_s (l := digL) (k := .u8) (i := k) (dig_get h)
theorem shortN_lt (n : Nat) : shortN n < 256 := by
  unfold shortN
  repeat' split
  all_goals omega
set_option maxHeartbeats 4000000 in
theorem put_ok (u : Bool) (l : List UInt8) (c : UInt8) (hl : l.length < 2 ^ 37) : CallOk (cfgP ul1) 65 [.ptr 0 85 0 0, .v (.int .u8 (c.toNat : Int))] (wrH u l) (.tup []) (wrH true (l ++ putL c)) := by
  have qs : b1P shortV [.v (.int .u8 (c.toNat : Int))] = some (.v (.int .u8 ((shortN c.toNat : Nat) : Int))) := b1P_eq (g := shortV) (c := c)
  have hlt := shortN_lt c.toNat
  by_cases h1 : shortN c.toNat = 0
  · have g1 : (!decide (((shortN c.toNat : Nat) : Int) = 0)) = false := by simp; omega
    by_cases h2 : c.toNat < 32
    · have g2 : decide ((c.toNat : Int) < 32) = true := decide_eq_true (by omega)
      have q1 := wT_str (u := u) (l := l) (b := [92, 117, 48, 48]) (by simp) (by omega) (by simp)
      have q1' : wT 96 [.ptr 0 85 0 0, str [92, 117, 48, 48]] (wrH u l) = some (.tup [.v (.int .i64 4), .v Value.nilIface], wrH true (l ++ [92, 117, 48, 48])) := q1
      clear q1
      have hp : l ++ putL c = l ++ [92, 117, 48, 48] ++ [digU (c.toNat / 16)] ++ [digU (c.toNat % 16)] := by unfold putL; rw [if_neg (by omega), if_pos h2]; simp
      rw [hp]
      have q2 := wT_byte (u := true) (l := l ++ [92, 117, 48, 48]) (c := digU (c.toNat / 16)) (by simp; omega)
      have q3 := wT_byte (u := true) (l := l ++ [92, 117, 48, 48] ++ [digU (c.toNat / 16)]) (c := digU (c.toNat % 16)) (by simp; omega)
      have i1 := dig_ix (prim := ul1) (k := c.toNat / 16) (by omega)
      have i2 := dig_ix (prim := ul1) (k := c.toNat % 16) (by omega)
      have hc := UInt8.toNat_lt c
      obtain ⟨la, hla⟩ : ∃ la, l ++ [92, 117, 48, 48] = la := ⟨_, rfl⟩
      obtain ⟨lb, hlb⟩ : ∃ lb, la ++ [digU (c.toNat / 16)] = lb := ⟨_, rfl⟩
      obtain ⟨lc, hlc⟩ : ∃ lc, lb ++ [digU (c.toNat % 16)] = lc := ⟨_, rfl⟩
      rw [hla, hlb, hlc] at q3
      rw [hla, hlb] at q2
      rw [hla] at q1'
      rw [hla, hlb, hlc]
      clear h1 h2 hp hla hlb hlc
      refine call_of_wk (call := wT) (fn := Tryd.f65) (rs := []) ul1_ok wT_ok (fns_cfg Tryd.func65 rfl) rfl rfl ?_
      intro env hl0 hargs
      have hn : env.length = 45 := hl0
      have h0 := hargs 0 _ rfl
      have h1 := hargs 1 _ rfl
      clear hargs hl0
      refine wkT_of ?_
      simp -dsimp only [hn, h0, h1, ct_prim ul1_95, qs, g1, g2, wf84, Nat.zero_add, ct_own (C := cfgP ul1) (f := 63) rfl rfl, ct_own (C := cfgP ul1) (f := 96) rfl rfl, q1', q2, q3, vshr hc, ba15 hc, i1, i2, wt_seq, wt_block, wt_region, wt_cond, wt_skip, wt_ret, wt_exit, wst_nil, wst_cons, wst_guard, andThen_normal, andThen_ret, andThen_exit, leave_normal, leave_ret, leave_exit, EndsA_ret, EndsA_normal, ot_move, ot_assign, ot_pick, ot_binOp, ot_unOp, ot_convert, ot_field, ot_index, ot_indexAddr, ot_fieldAddr, ot_slice, ot_build, ot_buildSlice, ot_extract, ot_makeInterface, ot_makeFunc, ot_nilCheck, ot_call, ot_len, ot_append, ot_box, ot_load, ot_store, ot_makeSlice, ot_alloc, ot_sliceData, ot_unsafeString, ct_bool, ct_true, ct_false, bt_some, gt_some, aval_tmp, aval_int, aval_bool, aval_str, aval_slice, aval_nilPointer, aval_nilIface, aval_func, aval_global, avals, apairs, bareP, AV.bare, AV.bares, bin_lss, bin_leq, bin_gtr, bin_geq, bin_eql, bin_neq, bin_add, bin_sub, bin_mul, bin_and, bin_or, bin_xor, toV_int, toV_bool, toV_string, un_neg, un_not, bin_str_eql, bin_str_neq, bin_str_lss, bin_str_leq, bin_str_gtr, bin_str_geq, aget_aput, length_aput, aput_none, Nat.reduceEqDiff, Nat.reduceLT, Nat.reduceAdd, ↓reduceIte, reduceCtorEq, Bool.not_false, Bool.not_true, Bool.true_or, true_and, Option.bind_some, Option.map_some, List.nil_append, List.cons_append, resA, resA1, resVal, Option.getD_some, Nat.reduceLeDiff, bnd_some, yieldA_eq, yldOf_some, boolOf_bool, boolOf_undef, gt_none, List.getElem?_toArray, List.getElem?_cons_succ, List.getElem?_cons_zero, bq_true, bq_false, decide_true, decide_false, Option.toList_none, Option.toList_some, List.head?_cons, List.head?_nil, nb_cfg, not_false_eq_true, cv_some, pm_some, pm_none, plainA_v, plain_bool, plain_int, plain_str, Bool.false_eq_true, if_false]
      first | exact ⟨by kernel_rfl, by kernel_rfl, trivial⟩ | exact ⟨by kernel_rfl, trivial⟩
    · have g2 : decide ((c.toNat : Int) < 32) = false := decide_eq_false (by omega)
      have q1 := wT_byte (u := u) (l := l) (c := c) (by omega)
      have hp : putL c = [c] := by unfold putL; rw [if_neg (by omega), if_neg h2]
      rw [hp]
      clear h1 h2
      refine call_of_wk (call := wT) (fn := Tryd.f65) (rs := []) ul1_ok wT_ok (fns_cfg Tryd.func65 rfl) rfl rfl ?_
      intro env hl0 hargs
      have hn : env.length = 45 := hl0
      have h0 := hargs 0 _ rfl
      have h1 := hargs 1 _ rfl
      clear hargs hl0
      refine wkT_of ?_
      simp -dsimp only [hn, h0, h1, ct_prim ul1_95, qs, g1, g2, wf84, Nat.zero_add, ct_own (C := cfgP ul1) (f := 63) rfl rfl, q1, wt_seq, wt_block, wt_region, wt_cond, wt_skip, wt_ret, wt_exit, wst_nil, wst_cons, wst_guard, andThen_normal, andThen_ret, andThen_exit, leave_normal, leave_ret, leave_exit, EndsA_ret, EndsA_normal, ot_move, ot_assign, ot_pick, ot_binOp, ot_unOp, ot_convert, ot_field, ot_index, ot_indexAddr, ot_fieldAddr, ot_slice, ot_build, ot_buildSlice, ot_extract, ot_makeInterface, ot_makeFunc, ot_nilCheck, ot_call, ot_len, ot_append, ot_box, ot_load, ot_store, ot_makeSlice, ot_alloc, ot_sliceData, ot_unsafeString, ct_bool, ct_true, ct_false, bt_some, gt_some, aval_tmp, aval_int, aval_bool, aval_str, aval_slice, aval_nilPointer, aval_nilIface, aval_func, aval_global, avals, apairs, bareP, AV.bare, AV.bares, bin_lss, bin_leq, bin_gtr, bin_geq, bin_eql, bin_neq, bin_add, bin_sub, bin_mul, bin_and, bin_or, bin_xor, toV_int, toV_bool, toV_string, un_neg, un_not, bin_str_eql, bin_str_neq, bin_str_lss, bin_str_leq, bin_str_gtr, bin_str_geq, aget_aput, length_aput, aput_none, Nat.reduceEqDiff, Nat.reduceLT, Nat.reduceAdd, ↓reduceIte, reduceCtorEq, Bool.not_false, Bool.not_true, Bool.true_or, true_and, Option.bind_some, Option.map_some, List.nil_append, List.cons_append, resA, resA1, resVal, Option.getD_some, Nat.reduceLeDiff, bnd_some, yieldA_eq, yldOf_some, boolOf_bool, boolOf_undef, gt_none, List.getElem?_toArray, List.getElem?_cons_succ, List.getElem?_cons_zero, bq_true, bq_false, decide_true, decide_false, Option.toList_none, Option.toList_some, List.head?_cons, List.head?_nil, nb_cfg, not_false_eq_true, cv_some, pm_some, pm_none, plainA_v, plain_bool, plain_int, plain_str, Bool.false_eq_true, if_false]
      done
  · have g1 : (!decide (((shortN c.toNat : Nat) : Int) = 0)) = true := by simp; omega
    have q1 := wT_byte (u := u) (l := l) (c := 92) (by omega)
    have q2 := wT_byte (u := true) (l := l ++ [92]) (c := UInt8.ofNat (shortN c.toNat)) (by simp; omega)
    rw [UInt8.toNat_ofNat', Nat.mod_eq_of_lt hlt] at q2
    have q1' : wT 63 [.ptr 0 85 0 0, .v (.int .u8 92)] (wrH u l) = some (.v Value.nilIface, wrH true (l ++ [92])) := q1
    have hp : l ++ putL c = l ++ [92] ++ [UInt8.ofNat (shortN c.toNat)] := by unfold putL; rw [if_pos h1]; simp
    rw [hp]
    obtain ⟨l2, hl2⟩ : ∃ l2, l ++ [92] ++ [UInt8.ofNat (shortN c.toNat)] = l2 := ⟨_, rfl⟩
    rw [hl2] at q2 ⊢
    clear h1 hp hl2
    refine call_of_wk (call := wT) (fn := Tryd.f65) (rs := []) ul1_ok wT_ok (fns_cfg Tryd.func65 rfl) rfl rfl ?_
    intro env hl0 hargs
    have hn : env.length = 45 := hl0
    have h0 := hargs 0 _ rfl
    have h1 := hargs 1 _ rfl
    clear hargs hl0
    refine wkT_of ?_
    simp -dsimp only [hn, h0, h1, ct_prim ul1_95, qs, g1, wf84, Nat.zero_add, ct_own (C := cfgP ul1) (f := 63) rfl rfl, q1', q2, wt_seq, wt_block, wt_region, wt_cond, wt_skip, wt_ret, wt_exit, wst_nil, wst_cons, wst_guard, andThen_normal, andThen_ret, andThen_exit, leave_normal, leave_ret, leave_exit, EndsA_ret, EndsA_normal, ot_move, ot_assign, ot_pick, ot_binOp, ot_unOp, ot_convert, ot_field, ot_index, ot_indexAddr, ot_fieldAddr, ot_slice, ot_build, ot_buildSlice, ot_extract, ot_makeInterface, ot_makeFunc, ot_nilCheck, ot_call, ot_len, ot_append, ot_box, ot_load, ot_store, ot_makeSlice, ot_alloc, ot_sliceData, ot_unsafeString, ct_bool, ct_true, ct_false, bt_some, gt_some, aval_tmp, aval_int, aval_bool, aval_str, aval_slice, aval_nilPointer, aval_nilIface, aval_func, aval_global, avals, apairs, bareP, AV.bare, AV.bares, bin_lss, bin_leq, bin_gtr, bin_geq, bin_eql, bin_neq, bin_add, bin_sub, bin_mul, bin_and, bin_or, bin_xor, toV_int, toV_bool, toV_string, un_neg, un_not, bin_str_eql, bin_str_neq, bin_str_lss, bin_str_leq, bin_str_gtr, bin_str_geq, aget_aput, length_aput, aput_none, Nat.reduceEqDiff, Nat.reduceLT, Nat.reduceAdd, ↓reduceIte, reduceCtorEq, Bool.not_false, Bool.not_true, Bool.true_or, true_and, Option.bind_some, Option.map_some, List.nil_append, List.cons_append, resA, resA1, resVal, Option.getD_some, Nat.reduceLeDiff, bnd_some, yieldA_eq, yldOf_some, boolOf_bool, boolOf_undef, gt_none, List.getElem?_toArray, List.getElem?_cons_succ, List.getElem?_cons_zero, bq_true, bq_false, decide_true, decide_false, Option.toList_none, Option.toList_some, List.head?_cons, List.head?_nil, nb_cfg, not_false_eq_true, cv_some, pm_some, pm_none, plainA_v, plain_bool, plain_int, plain_str, Bool.false_eq_true, if_false]
    done
end Go.Proofs.YtjejeijldllloaaDoor

/- Chapter 1: each byte of a quote. -/
namespace Go.Proofs.YtjejeijldllloaaDoor
open Go.AM
noncomputable def putT := relT 65 (fun p : List UInt8 × UInt8 => p.1.length < 2 ^ 37) (fun p => [.ptr 0 85 0 0, .v (.int .u8 (p.2.toNat : Int))]) (fun p => wrH true p.1) (fun _ => .tup []) (fun p => wrH true (p.1 ++ putL p.2))
theorem putT_ok : CallsOk (cfgP ul1) putT := relT_ok (fns_cfg Tryd.func65 rfl) rfl fun p h => put_ok true p.1 p.2 h
theorem putT_eq {l : List UInt8} {c : UInt8} (h : l.length < 2 ^ 37) : putT 65 [.ptr 0 85 0 0, .v (.int .u8 (c.toNat : Int))] (wrH true l) = some (.tup [], wrH true (l ++ putL c)) :=
  relT_eq (f0 := 65) (X := fun p : List UInt8 × UInt8 => p.1.length < 2 ^ 37) (a := fun p => [.ptr 0 85 0 0, .v (.int .u8 (p.2.toNat : Int))]) (h := fun p => wrH true p.1) (r := fun _ => .tup []) (h' := fun p => wrH true (p.1 ++ putL p.2)) (fun p q _ _ ha h => by
    have e : p.2 = q.2 := by
      injection ha with _ ha
      injection ha with ha _
      exact byt_inj ha
    rw [(wrH_inj h).2, e]; exact ⟨rfl, rfl⟩) (l, c) h
theorem putL_len (c : UInt8) : (putL c).length ≤ 6 := by
  unfold putL
  repeat' split
  all_goals simp
theorem putL_all (s : List UInt8) : (s.flatMap putL).length ≤ 6 * s.length := by
  induction s with
  | nil => simp
  | cons c s ih =>
    have := putL_len c
    rw [List.flatMap_cons, List.length_append, List.length_cons]
    omega
structure EaI (s l : List UInt8) (i : Nat) (e : Env) (h : Hp) : Prop where
  len : e.length = 16
  hp : h = wrH true (l ++ (s.take i).flatMap putL)
  a0 : aget e 0 = str s
  a1 : aget e 1 = .fn (.func 65) [.ptr 0 85 0 0] []
  a6 : aget e 6 = .v (.int .i64 (s.length : Int))
  a7 : aget e 7 = .v (.int .i64 (i : Int))
set_option maxHeartbeats 4000000 in
theorem each_ok (s l : List UInt8) (hl : l.length + 6 * s.length < 2 ^ 37) : CallOk (cfgP ul1) 64 [str s, .fn (.func 65) [.ptr 0 85 0 0] []] (wrH true l) (.tup []) (wrH true (l ++ s.flatMap putL)) := by
  refine call_of_wk (call := putT) (fn := Tryd.f64) (rs := []) ul1_ok putT_ok (fns_cfg Tryd.func64 rfl) rfl rfl ?_
  intro env hl0 hargs
  have hn : env.length = 16 := hl0
  have h0 := hargs 0 _ rfl
  have h1 := hargs 1 _ rfl
  clear hargs hl0
  refine wkT_of ?_
  simp -dsimp only [hn, h0, h1, len_s, wt_seq, wt_block, wt_region, wt_cond, wt_skip, wt_ret, wt_exit, wst_nil, wst_cons, wst_guard, andThen_normal, andThen_ret, andThen_exit, leave_normal, leave_ret, leave_exit, EndsA_ret, EndsA_normal, ot_move, ot_assign, ot_pick, ot_binOp, ot_unOp, ot_convert, ot_field, ot_index, ot_indexAddr, ot_fieldAddr, ot_slice, ot_build, ot_buildSlice, ot_extract, ot_makeInterface, ot_makeFunc, ot_nilCheck, ot_call, ot_len, ot_append, ot_box, ot_load, ot_store, ot_makeSlice, ot_alloc, ot_sliceData, ot_unsafeString, ct_bool, ct_true, ct_false, bt_some, gt_some, aval_tmp, aval_int, aval_bool, aval_str, aval_slice, aval_nilPointer, aval_nilIface, aval_func, aval_global, avals, apairs, bareP, AV.bare, AV.bares, bin_lss, bin_leq, bin_gtr, bin_geq, bin_eql, bin_neq, bin_add, bin_sub, bin_mul, bin_and, bin_or, bin_xor, toV_int, toV_bool, toV_string, un_neg, un_not, bin_str_eql, bin_str_neq, bin_str_lss, bin_str_leq, bin_str_gtr, bin_str_geq, aget_aput, length_aput, aput_none, Nat.reduceEqDiff, Nat.reduceLT, Nat.reduceAdd, ↓reduceIte, reduceCtorEq, Bool.not_false, Bool.not_true, Bool.true_or, true_and, Option.bind_some, Option.map_some, List.nil_append, List.cons_append, resA, resA1, resVal, Option.getD_some, Nat.reduceLeDiff, bnd_some, yieldA_eq, yldOf_some, boolOf_bool, boolOf_undef, gt_none, List.getElem?_toArray, List.getElem?_cons_succ, List.getElem?_cons_zero, bq_true, bq_false, decide_true, decide_false, Option.toList_none, Option.toList_some, List.head?_cons, List.head?_nil, nb_cfg, not_false_eq_true, cv_some, pm_some, pm_none, plainA_v, plain_bool, plain_int, plain_str, Bool.false_eq_true, if_false]
  refine wt_loop (m := s.length) (fun m e h => ∃ i, i + m = s.length ∧ EaI s l i e h) ?_ ?_
  · clear hn h0 h1
    rintro m e h ⟨i, hi, hn, rfl, h0, h1, h6, h7⟩
    by_cases hil : i < s.length
    · have d : decide ((i : Int) < (s.length : Int)) = true := decide_eq_true (by omega)
      have e1 : IntKind.i64.wrap ((i : Int) + 1) = ((i + 1 : Nat) : Int) := wr64 (by omega) (by omega)
      have hc : s[i]? = some s[i] := List.getElem?_eq_getElem hil
      have x0 : indexA (cfgP ul1) 9 (str s) (.v (.int .i64 (i : Int))) = some (.v (.int .u8 s[i].toNat)) := ixl (k := i) rfl hc
      have hb := putL_all (s.take i)
      rw [List.length_take] at hb
      have q := putT_eq (l := l ++ (s.take i).flatMap putL) (c := s[i]) (by rw [List.length_append]; omega)
      have hx : l ++ (s.take i).flatMap putL ++ putL s[i] = l ++ (s.take (i + 1)).flatMap putL := by
        rw [List.take_add_one, hc, Option.toList_some, List.flatMap_append, List.append_assoc, List.flatMap_cons, List.flatMap_nil, List.append_nil]
      rw [hx] at q
      simp -dsimp only [hn, h0, h1, h6, h7, d, e1, x0, ct_own (C := cfgP ul1) (f := 65) rfl rfl, q, List.append_nil, List.cons_append, List.nil_append, wt_seq, wt_block, wt_region, wt_cond, wt_skip, wt_ret, wt_exit, wst_nil, wst_cons, wst_guard, andThen_normal, andThen_ret, andThen_exit, leave_normal, leave_ret, leave_exit, EndsA_ret, EndsA_normal, ot_move, ot_assign, ot_pick, ot_binOp, ot_unOp, ot_convert, ot_field, ot_index, ot_indexAddr, ot_fieldAddr, ot_slice, ot_build, ot_buildSlice, ot_extract, ot_makeInterface, ot_makeFunc, ot_nilCheck, ot_call, ot_len, ot_append, ot_box, ot_load, ot_store, ot_makeSlice, ot_alloc, ot_sliceData, ot_unsafeString, ct_bool, ct_true, ct_false, bt_some, gt_some, aval_tmp, aval_int, aval_bool, aval_str, aval_slice, aval_nilPointer, aval_nilIface, aval_func, aval_global, avals, apairs, bareP, AV.bare, AV.bares, bin_lss, bin_leq, bin_gtr, bin_geq, bin_eql, bin_neq, bin_add, bin_sub, bin_mul, bin_and, bin_or, bin_xor, toV_int, toV_bool, toV_string, un_neg, un_not, bin_str_eql, bin_str_neq, bin_str_lss, bin_str_leq, bin_str_gtr, bin_str_geq, aget_aput, length_aput, aput_none, Nat.reduceEqDiff, Nat.reduceLT, Nat.reduceAdd, ↓reduceIte, reduceCtorEq, Bool.not_false, Bool.not_true, Bool.true_or, true_and, Option.bind_some, Option.map_some, List.nil_append, List.cons_append, resA, resA1, resVal, Option.getD_some, Nat.reduceLeDiff, bnd_some, yieldA_eq, yldOf_some, boolOf_bool, boolOf_undef, gt_none, List.getElem?_toArray, List.getElem?_cons_succ, List.getElem?_cons_zero, bq_true, bq_false, decide_true, decide_false, Option.toList_none, Option.toList_some, List.head?_cons, List.head?_nil, nb_cfg, not_false_eq_true, cv_some, pm_some, pm_none, plainA_v, plain_bool, plain_int, plain_str, Bool.false_eq_true, if_false]
      refine ⟨m - 1, by omega, i + 1, by omega, ?_, rfl, ?_, ?_, ?_, ?_⟩
      all_goals simp -dsimp only [hn, h0, h1, h6, h7, wt_seq, wt_block, wt_region, wt_cond, wt_skip, wt_ret, wt_exit, wst_nil, wst_cons, wst_guard, andThen_normal, andThen_ret, andThen_exit, leave_normal, leave_ret, leave_exit, EndsA_ret, EndsA_normal, ot_move, ot_assign, ot_pick, ot_binOp, ot_unOp, ot_convert, ot_field, ot_index, ot_indexAddr, ot_fieldAddr, ot_slice, ot_build, ot_buildSlice, ot_extract, ot_makeInterface, ot_makeFunc, ot_nilCheck, ot_call, ot_len, ot_append, ot_box, ot_load, ot_store, ot_makeSlice, ot_alloc, ot_sliceData, ot_unsafeString, ct_bool, ct_true, ct_false, bt_some, gt_some, aval_tmp, aval_int, aval_bool, aval_str, aval_slice, aval_nilPointer, aval_nilIface, aval_func, aval_global, avals, apairs, bareP, AV.bare, AV.bares, bin_lss, bin_leq, bin_gtr, bin_geq, bin_eql, bin_neq, bin_add, bin_sub, bin_mul, bin_and, bin_or, bin_xor, toV_int, toV_bool, toV_string, un_neg, un_not, bin_str_eql, bin_str_neq, bin_str_lss, bin_str_leq, bin_str_gtr, bin_str_geq, aget_aput, length_aput, aput_none, Nat.reduceEqDiff, Nat.reduceLT, Nat.reduceAdd, ↓reduceIte, reduceCtorEq, Bool.not_false, Bool.not_true, Bool.true_or, true_and, Option.bind_some, Option.map_some, List.nil_append, List.cons_append, resA, resA1, resVal, Option.getD_some, Nat.reduceLeDiff, bnd_some, yieldA_eq, yldOf_some, boolOf_bool, boolOf_undef, gt_none, List.getElem?_toArray, List.getElem?_cons_succ, List.getElem?_cons_zero, bq_true, bq_false, decide_true, decide_false, Option.toList_none, Option.toList_some, List.head?_cons, List.head?_nil, nb_cfg, not_false_eq_true, cv_some, pm_some, pm_none, plainA_v, plain_bool, plain_int, plain_str, Bool.false_eq_true, if_false]
    · have d : decide ((i : Int) < (s.length : Int)) = false := decide_eq_false (by omega)
      obtain rfl : i = s.length := by omega
      rw [List.take_length]
      simp -dsimp only [hn, h0, h1, h6, h7, d, wt_seq, wt_block, wt_region, wt_cond, wt_skip, wt_ret, wt_exit, wst_nil, wst_cons, wst_guard, andThen_normal, andThen_ret, andThen_exit, leave_normal, leave_ret, leave_exit, EndsA_ret, EndsA_normal, ot_move, ot_assign, ot_pick, ot_binOp, ot_unOp, ot_convert, ot_field, ot_index, ot_indexAddr, ot_fieldAddr, ot_slice, ot_build, ot_buildSlice, ot_extract, ot_makeInterface, ot_makeFunc, ot_nilCheck, ot_call, ot_len, ot_append, ot_box, ot_load, ot_store, ot_makeSlice, ot_alloc, ot_sliceData, ot_unsafeString, ct_bool, ct_true, ct_false, bt_some, gt_some, aval_tmp, aval_int, aval_bool, aval_str, aval_slice, aval_nilPointer, aval_nilIface, aval_func, aval_global, avals, apairs, bareP, AV.bare, AV.bares, bin_lss, bin_leq, bin_gtr, bin_geq, bin_eql, bin_neq, bin_add, bin_sub, bin_mul, bin_and, bin_or, bin_xor, toV_int, toV_bool, toV_string, un_neg, un_not, bin_str_eql, bin_str_neq, bin_str_lss, bin_str_leq, bin_str_gtr, bin_str_geq, aget_aput, length_aput, aput_none, Nat.reduceEqDiff, Nat.reduceLT, Nat.reduceAdd, ↓reduceIte, reduceCtorEq, Bool.not_false, Bool.not_true, Bool.true_or, true_and, Option.bind_some, Option.map_some, List.nil_append, List.cons_append, resA, resA1, resVal, Option.getD_some, Nat.reduceLeDiff, bnd_some, yieldA_eq, yldOf_some, boolOf_bool, boolOf_undef, gt_none, List.getElem?_toArray, List.getElem?_cons_succ, List.getElem?_cons_zero, bq_true, bq_false, decide_true, decide_false, Option.toList_none, Option.toList_some, List.head?_cons, List.head?_nil, nb_cfg, not_false_eq_true, cv_some, pm_some, pm_none, plainA_v, plain_bool, plain_int, plain_str, Bool.false_eq_true, if_false]
      done
  · refine ⟨0, by omega, ?_, ?_, ?_, ?_, ?_, ?_⟩
    case refine_2 => simp
    all_goals simp -dsimp only [hn, h0, h1, wt_seq, wt_block, wt_region, wt_cond, wt_skip, wt_ret, wt_exit, wst_nil, wst_cons, wst_guard, andThen_normal, andThen_ret, andThen_exit, leave_normal, leave_ret, leave_exit, EndsA_ret, EndsA_normal, ot_move, ot_assign, ot_pick, ot_binOp, ot_unOp, ot_convert, ot_field, ot_index, ot_indexAddr, ot_fieldAddr, ot_slice, ot_build, ot_buildSlice, ot_extract, ot_makeInterface, ot_makeFunc, ot_nilCheck, ot_call, ot_len, ot_append, ot_box, ot_load, ot_store, ot_makeSlice, ot_alloc, ot_sliceData, ot_unsafeString, ct_bool, ct_true, ct_false, bt_some, gt_some, aval_tmp, aval_int, aval_bool, aval_str, aval_slice, aval_nilPointer, aval_nilIface, aval_func, aval_global, avals, apairs, bareP, AV.bare, AV.bares, bin_lss, bin_leq, bin_gtr, bin_geq, bin_eql, bin_neq, bin_add, bin_sub, bin_mul, bin_and, bin_or, bin_xor, toV_int, toV_bool, toV_string, un_neg, un_not, bin_str_eql, bin_str_neq, bin_str_lss, bin_str_leq, bin_str_gtr, bin_str_geq, aget_aput, length_aput, aput_none, Nat.reduceEqDiff, Nat.reduceLT, Nat.reduceAdd, ↓reduceIte, reduceCtorEq, Bool.not_false, Bool.not_true, Bool.true_or, true_and, Option.bind_some, Option.map_some, List.nil_append, List.cons_append, resA, resA1, resVal, Option.getD_some, Nat.reduceLeDiff, bnd_some, yieldA_eq, yldOf_some, boolOf_bool, boolOf_undef, gt_none, List.getElem?_toArray, List.getElem?_cons_succ, List.getElem?_cons_zero, bq_true, bq_false, decide_true, decide_false, Option.toList_none, Option.toList_some, List.head?_cons, List.head?_nil, nb_cfg, not_false_eq_true, cv_some, pm_some, pm_none, plainA_v, plain_bool, plain_int, plain_str, Bool.false_eq_true, if_false]
    all_goals rfl
end Go.Proofs.YtjejeijldllloaaDoor

/- Chapter 1: strings.Builder: String. -/
namespace Go.Proofs.YtjejeijldllloaaDoor
open Go.AM
def deadH (l : List UInt8) : Hp := { toks := [(l.length, deadT)], blks := [⟨85, 2, [.agg [wrA true, .ap 0 (byts l)]]⟩] }
theorem bytesS_byts (l : List UInt8) : bytesS (byts l) = some l := by
  induction l with
  | nil => rfl
  | cons c r ih =>
    have h := UInt8.toNat_lt c
    simp_all [byts, bytesS, byt]
    omega
set_option maxHeartbeats 4000000 in
theorem string_ok (l : List UInt8) (hne : l ≠ []) (hl : l.length < 2 ^ 38) : CallOk (cfgP ul1) 66 [.ptr 0 85 0 0] (wrH true l) (str l) (deadH l) := by
  have hb := wrH_blk (u := true) (l := l)
  have hg : gsl (byts l) = .ap 0 (byts l) := gsl_ne (by simp [byts, hne])
  rw [hg] at hb
  have hle : lenA (cfgP ul1) #[72] [.ap 0 (byts l)] = some (.v (.int .i64 (l.length : Int))) := by
    have := len_elems (C := cfgP ul1) (ts := #[72]) (e := 5) (x := .ap 0 (byts l)) (xs := byts l) (by kernel_rfl) rfl
    rw [this]
    simp [byts]
  have hsd : sdA [.ap 0 (byts l)] = some (.sd 0 (byts l)) := by
    obtain ⟨c, r, rfl⟩ := List.exists_cons_of_ne_nil hne
    rfl
  have hus : usA (cfgP ul1) #[116, 3] [.sd 0 (byts l), .v (.int .i64 (l.length : Int))] (wrH true l) = some (str l, deadH l) := by
    have b1 : bytesS (byts l) = some l := bytesS_byts l
    have u1 : ((#[116, 3] : Array TypeId)[0]?).bind (cfgP ul1).und = some (.pointer 5) := by kernel_rfl
    have u2 : isU8 (cfgP ul1) 5 = true := by kernel_rfl
    have u3 : (cfgP ul1).csz 5 = some 1 := by kernel_rfl
    have u4 : (cfgP ul1).csz deadT = none := by kernel_rfl
    have t1 : (wrH true l).toks[0]? = some (l.length, 5) := by
      obtain ⟨c, r, rfl⟩ := List.exists_cons_of_ne_nil hne
      simp [wrH, byts, ghp]
    have hln : (byts l).length = l.length := by simp [byts]
    show unsafeStrA (cfgP ul1) #[116, 3] 0 (byts l) (l.length : Int) (wrH true l) = _
    simp only [unsafeStrA, t1, b1, u1]
    rw [if_pos ⟨(by first | trivial | rfl), hln.symm, by rw [hln], by simp [byts, hne], (by first | trivial | rfl), u2, u3, u4, by rw [hln]; omega⟩]
    obtain ⟨c, r, rfl⟩ := List.exists_cons_of_ne_nil hne
    rfl
  refine call_of_wk (call := noCall) (fn := Tryd.f66) (rs := [.tmp 2]) ul1_ok noCall_ok (fns_cfg Tryd.func66 rfl) rfl rfl ?_
  intro env hl0 hargs
  have hn : env.length = 14 := hl0
  have h0 := hargs 0 _ rfl
  clear hargs hl0
  refine wkT_of ?_
  simp -dsimp only [hn, h0, wf0, wf1, rp72, hb, AV.cells, Nat.zero_add, List.getElem?_cons_zero, List.getElem?_cons_succ, hle, hsd, hus, wt_seq, wt_block, wt_region, wt_cond, wt_skip, wt_ret, wt_exit, wst_nil, wst_cons, wst_guard, andThen_normal, andThen_ret, andThen_exit, leave_normal, leave_ret, leave_exit, EndsA_ret, EndsA_normal, ot_move, ot_assign, ot_pick, ot_binOp, ot_unOp, ot_convert, ot_field, ot_index, ot_indexAddr, ot_fieldAddr, ot_slice, ot_build, ot_buildSlice, ot_extract, ot_makeInterface, ot_makeFunc, ot_nilCheck, ot_call, ot_len, ot_append, ot_box, ot_load, ot_store, ot_makeSlice, ot_alloc, ot_sliceData, ot_unsafeString, ct_bool, ct_true, ct_false, bt_some, gt_some, aval_tmp, aval_int, aval_bool, aval_str, aval_slice, aval_nilPointer, aval_nilIface, aval_func, aval_global, avals, apairs, bareP, AV.bare, AV.bares, bin_lss, bin_leq, bin_gtr, bin_geq, bin_eql, bin_neq, bin_add, bin_sub, bin_mul, bin_and, bin_or, bin_xor, toV_int, toV_bool, toV_string, un_neg, un_not, bin_str_eql, bin_str_neq, bin_str_lss, bin_str_leq, bin_str_gtr, bin_str_geq, aget_aput, length_aput, aput_none, Nat.reduceEqDiff, Nat.reduceLT, Nat.reduceAdd, ↓reduceIte, reduceCtorEq, Bool.not_false, Bool.not_true, Bool.true_or, true_and, Option.bind_some, Option.map_some, List.nil_append, List.cons_append, resA, resA1, resVal, Option.getD_some, Nat.reduceLeDiff, bnd_some, yieldA_eq, yldOf_some, boolOf_bool, boolOf_undef, gt_none, List.getElem?_toArray, List.getElem?_cons_succ, List.getElem?_cons_zero, bq_true, bq_false, decide_true, decide_false, Option.toList_none, Option.toList_some, List.head?_cons, List.head?_nil, nb_cfg, not_false_eq_true, cv_some, pm_some, pm_none, plainA_v, plain_bool, plain_int, plain_str, Bool.false_eq_true, if_false]
  exact ⟨by kernel_rfl, trivial⟩
end Go.Proofs.YtjejeijldllloaaDoor

/- Chapter 1: Quote. -/
namespace Go.Proofs.YtjejeijldllloaaDoor
open Go.AM
noncomputable def eachT := relT 64 (fun p : List UInt8 × List UInt8 => p.2.length + 6 * p.1.length < 2 ^ 37) (fun p => [str p.1, .fn (.func 65) [.ptr 0 85 0 0] []]) (fun p => wrH true p.2) (fun _ => .tup []) (fun p => wrH true (p.2 ++ p.1.flatMap putL))
theorem eachT_ok : CallsOk (cfgP ul1) eachT := relT_ok (fns_cfg Tryd.func64 rfl) rfl fun p h => each_ok p.1 p.2 h
theorem eachT_eq {s l : List UInt8} (h : l.length + 6 * s.length < 2 ^ 37) : eachT 64 [str s, .fn (.func 65) [.ptr 0 85 0 0] []] (wrH true l) = some (.tup [], wrH true (l ++ s.flatMap putL)) :=
  relT_eq (f0 := 64) (X := fun p : List UInt8 × List UInt8 => p.2.length + 6 * p.1.length < 2 ^ 37) (a := fun p => [str p.1, .fn (.func 65) [.ptr 0 85 0 0] []]) (h := fun p => wrH true p.2) (r := fun _ => .tup []) (h' := fun p => wrH true (p.2 ++ p.1.flatMap putL)) (fun p q _ _ ha h => by
    have e : p.1 = q.1 := by
      injection ha with ha _
      exact str_inj ha
    rw [(wrH_inj h).2, e]; exact ⟨rfl, rfl⟩) (s, l) h
noncomputable def sgT := relT 66 (fun l : List UInt8 => l ≠ [] ∧ l.length < 2 ^ 38) (fun _ => [.ptr 0 85 0 0]) (fun l => wrH true l) (fun l => str l) (fun l => deadH l)
theorem sgT_ok : CallsOk (cfgP ul1) sgT := relT_ok (fns_cfg Tryd.func66 rfl) rfl fun l h => string_ok l h.1 h.2
theorem sgT_eq {l : List UInt8} (h : l ≠ []) (h2 : l.length < 2 ^ 38) : sgT 66 [.ptr 0 85 0 0] (wrH true l) = some (str l, deadH l) :=
  relT_eq (f0 := 66) (X := fun l : List UInt8 => l ≠ [] ∧ l.length < 2 ^ 38) (a := fun _ => [.ptr 0 85 0 0]) (h := fun l => wrH true l) (r := fun l => str l) (h' := fun l => deadH l) (fun p q _ _ _ h => by rw [(wrH_inj h).2]; exact ⟨rfl, rfl⟩) l ⟨h, h2⟩
noncomputable def qT := orT byteT (orT eachT sgT)
theorem qT_ok : CallsOk (cfgP ug1) qT := orT_ok (calls_prim byteT_ok) (orT_ok (calls_prim eachT_ok) (calls_prim sgT_ok))
/-- A text as it is quoted. -/
def quoteL (s : List UInt8) : List UInt8 := 34 :: s.flatMap putL ++ [34]
def quoteV (s : List UInt8) : AV := if utfB s then .tup [str (quoteL s), .v (.int .i64 0)] else .tup [str [], .v (.int .i64 2)]
theorem bld84 {prim : FuncId → Option (List AV → Option AV)} : buildA (cfgP prim) 84 [] = some (.agg [.v (.pointer none), .v (.slice none 0 0)]) := by kernel_rfl
theorem bx84 {Q : AV → Hp → Nat → Prop} {u : Tag Q} : boxT Q u (genOf (cfgP ug1) 84) false (.agg [.v (.pointer none), .v (.slice none 0 0)]) {} = Q (.ptr 0 85 0 0) (wrH false []) 2 := by
  rw [bxt_rw rfl]
  rfl
set_option maxHeartbeats 4000000 in
theorem quote_ok (s : List UInt8) (hs : s.length < 2 ^ 30) : PureOk (cfgP ug1) 21 [str s] (quoteV s) := by
  have qv := validP_eq (l := s) (by omega)
  have hro : (cfgP ug1).roBox 21 9 = false := rfl
  unfold quoteV
  cases hu : utfB s with
  | false =>
    rw [hu] at qv
    show PureOk _ _ _ (.tup [str [], .v (.int .i64 2)])
    refine pure_of_wk (call := qT) (fn := Tryd.f21) (rs := [.tmp 2, .tmp 3]) ug1_ok qT_ok (fns_cfg Tryd.func21 rfl) rfl rfl ?_
    intro env hl0 hargs
    have hn : env.length = 26 := hl0
    have h0 := hargs 0 _ rfl
    clear hargs hl0
    refine wkT_of ?_
    simp -dsimp only [hn, h0, ct_prim ug1_22, bare_s, qv, Bool.not_false, wt_seq, wt_block, wt_region, wt_cond, wt_skip, wt_ret, wt_exit, wst_nil, wst_cons, wst_guard, andThen_normal, andThen_ret, andThen_exit, leave_normal, leave_ret, leave_exit, EndsA_ret, EndsA_normal, ot_move, ot_assign, ot_pick, ot_binOp, ot_unOp, ot_convert, ot_field, ot_index, ot_indexAddr, ot_fieldAddr, ot_slice, ot_build, ot_buildSlice, ot_extract, ot_makeInterface, ot_makeFunc, ot_nilCheck, ot_call, ot_len, ot_append, ot_box, ot_load, ot_store, ot_makeSlice, ot_alloc, ot_sliceData, ot_unsafeString, ct_bool, ct_true, ct_false, bt_some, gt_some, aval_tmp, aval_int, aval_bool, aval_str, aval_slice, aval_nilPointer, aval_nilIface, aval_func, aval_global, avals, apairs, bareP, AV.bare, AV.bares, bin_lss, bin_leq, bin_gtr, bin_geq, bin_eql, bin_neq, bin_add, bin_sub, bin_mul, bin_and, bin_or, bin_xor, toV_int, toV_bool, toV_string, un_neg, un_not, bin_str_eql, bin_str_neq, bin_str_lss, bin_str_leq, bin_str_gtr, bin_str_geq, aget_aput, length_aput, aput_none, Nat.reduceEqDiff, Nat.reduceLT, Nat.reduceAdd, ↓reduceIte, reduceCtorEq, Bool.not_false, Bool.not_true, Bool.true_or, true_and, Option.bind_some, Option.map_some, List.nil_append, List.cons_append, resA, resA1, resVal, Option.getD_some, Nat.reduceLeDiff, bnd_some, yieldA_eq, yldOf_some, boolOf_bool, boolOf_undef, gt_none, List.getElem?_toArray, List.getElem?_cons_succ, List.getElem?_cons_zero, bq_true, bq_false, decide_true, decide_false, Option.toList_none, Option.toList_some, List.head?_cons, List.head?_nil, nb_cfg, not_false_eq_true, cv_some, pm_some, pm_none, plainA_v, plain_bool, plain_int, plain_str, Bool.false_eq_true, if_false]
    exact ⟨5, rfl⟩
  | true =>
    rw [hu] at qv
    show PureOk _ _ _ (.tup [str (quoteL s), .v (.int .i64 0)])
    have hb := putL_all s
    have q1 : qT 63 [.ptr 0 85 0 0, .v (.int .u8 34)] (wrH false []) = some (.v Value.nilIface, wrH true [34]) := orT_l (byteT_eq (u := false) (l := []) (c := 34) (by simp))
    have q2 : qT 64 [str s, .fn (.func 65) [.ptr 0 85 0 0] []] (wrH true [34]) = some (.tup [], wrH true ([34] ++ s.flatMap putL)) := orT_r (relT_none (by decide)) (orT_l (eachT_eq (by simp; omega)))
    have q3 : qT 63 [.ptr 0 85 0 0, .v (.int .u8 34)] (wrH true ([34] ++ s.flatMap putL)) = some (.v Value.nilIface, wrH true (quoteL s)) := orT_l (byteT_eq (u := true) (l := [34] ++ s.flatMap putL) (c := 34) (by rw [List.length_append, List.length_singleton]; omega))
    have q4 : qT 66 [.ptr 0 85 0 0] (wrH true (quoteL s)) = some (str (quoteL s), deadH (quoteL s)) := orT_r (relT_none (by decide)) (orT_r (relT_none (by decide)) (sgT_eq (by simp [quoteL]) (by unfold quoteL; rw [List.length_append, List.length_cons, List.length_singleton]; omega)))
    obtain ⟨l2, hl2⟩ : ∃ l2, [34] ++ s.flatMap putL = l2 := ⟨_, rfl⟩
    rw [hl2] at q2 q3
    refine pure_of_wk (call := qT) (fn := Tryd.f21) (rs := [.tmp 2, .tmp 3]) ug1_ok qT_ok (fns_cfg Tryd.func21 rfl) rfl rfl ?_
    intro env hl0 hargs
    have hn : env.length = 26 := hl0
    have h0 := hargs 0 _ rfl
    clear hargs hl0
    refine wkT_of ?_
    simp -dsimp only [hn, h0, ct_prim ug1_22, bare_s, qv, Bool.not_true, bld84, hro, bx84, wf84, Nat.zero_add, ct_own (C := cfgP ug1) (f := 63) rfl rfl, ct_own (C := cfgP ug1) (f := 64) rfl rfl, ct_own (C := cfgP ug1) (f := 66) rfl rfl, q1, q2, q3, q4, wt_seq, wt_block, wt_region, wt_cond, wt_skip, wt_ret, wt_exit, wst_nil, wst_cons, wst_guard, andThen_normal, andThen_ret, andThen_exit, leave_normal, leave_ret, leave_exit, EndsA_ret, EndsA_normal, ot_move, ot_assign, ot_pick, ot_binOp, ot_unOp, ot_convert, ot_field, ot_index, ot_indexAddr, ot_fieldAddr, ot_slice, ot_build, ot_buildSlice, ot_extract, ot_makeInterface, ot_makeFunc, ot_nilCheck, ot_call, ot_len, ot_append, ot_box, ot_load, ot_store, ot_makeSlice, ot_alloc, ot_sliceData, ot_unsafeString, ct_bool, ct_true, ct_false, bt_some, gt_some, aval_tmp, aval_int, aval_bool, aval_str, aval_slice, aval_nilPointer, aval_nilIface, aval_func, aval_global, avals, apairs, bareP, AV.bare, AV.bares, bin_lss, bin_leq, bin_gtr, bin_geq, bin_eql, bin_neq, bin_add, bin_sub, bin_mul, bin_and, bin_or, bin_xor, toV_int, toV_bool, toV_string, un_neg, un_not, bin_str_eql, bin_str_neq, bin_str_lss, bin_str_leq, bin_str_gtr, bin_str_geq, aget_aput, length_aput, aput_none, Nat.reduceEqDiff, Nat.reduceLT, Nat.reduceAdd, ↓reduceIte, reduceCtorEq, Bool.not_false, Bool.not_true, Bool.true_or, true_and, Option.bind_some, Option.map_some, List.nil_append, List.cons_append, resA, resA1, resVal, Option.getD_some, Nat.reduceLeDiff, bnd_some, yieldA_eq, yldOf_some, boolOf_bool, boolOf_undef, gt_none, List.getElem?_toArray, List.getElem?_cons_succ, List.getElem?_cons_zero, bq_true, bq_false, decide_true, decide_false, Option.toList_none, Option.toList_some, List.head?_cons, List.head?_nil, nb_cfg, not_false_eq_true, cv_some, pm_some, pm_none, plainA_v, plain_bool, plain_int, plain_str, Bool.false_eq_true, if_false]
    exact ⟨5, rfl⟩
end Go.Proofs.YtjejeijldllloaaDoor
