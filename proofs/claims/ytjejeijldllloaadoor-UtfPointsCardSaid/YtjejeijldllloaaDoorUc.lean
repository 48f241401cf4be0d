/- Contracts of functions, and plain facts about what they compute. -/
import Derived.Test.YtjejeijldllloaaDoorUb
import Derived.Test.YtjejeijldllloaaDoorAmD
import Derived.Test.YtjejeijldllloaaDoorAmE
set_option linter.unusedSimpArgs false
set_option linter.unusedVariables false
/- Chapter 1: what reads a text in quotes: its next byte. -/
namespace Go.Proofs.YtjejeijldllloaaDoor
open Go.AM
section
variable {prim : FuncId → Option (List AV → Option AV)}
theorem rf0 {b g i j : Nat} : fieldAddrA (cfgP prim) 74 (.ptr b g i j) 0 = some (.ptr b g i (j + 0)) := by kernel_rfl
theorem rf1 {b g i j : Nat} : fieldAddrA (cfgP prim) 74 (.ptr b g i j) 1 = some (.ptr b g i (j + 1)) := by kernel_rfl
theorem rf2 {b g i j : Nat} : fieldAddrA (cfgP prim) 74 (.ptr b g i j) 2 = some (.ptr b g i (j + 2)) := by kernel_rfl
theorem rp9 {cs : List AV} {j : Nat} : partA (cfgP prim) 9 cs j = cs[j]? := by kernel_rfl
theorem rp3 {cs : List AV} {j : Nat} : partA (cfgP prim) 3 cs j = cs[j]? := by kernel_rfl
end
/-- The reader: the text, where it stands, what it says so far. -/
def rdH (s : List UInt8) (at' : Nat) (x : AV) (tk : List (Nat × TypeId)) : Hp := { toks := tk, blks := [⟨0, 3, [.agg [str s, .v (.int .i64 (at' : Int)), x]]⟩] }
theorem rdH_blk {s : List UInt8} {k : Nat} {x : AV} {tk : List (Nat × TypeId)} : blkAt (rdH s k x tk) 0 0 = some ⟨0, 3, [.agg [str s, .v (.int .i64 (k : Int)), x]]⟩ := rfl
theorem rdH_store {prim : FuncId → Option (List AV → Option AV)} {s : List UInt8} {k j : Nat} {x : AV} {tk : List (Nat × TypeId)} : storeA (cfgP prim) 3 0 0 0 1 (.v (.int .i64 (j : Int))) (rdH s k x tk) = some (rdH s j x tk) := by
  rw [store_field (y := [str s, .v (.int .i64 (k : Int)), x]) (x := [str s, .v (.int .i64 (j : Int)), x]) rfl (by kernel_rfl) rfl rfl (by simp) rfl]
  rfl
def nextV (s : List UInt8) (k : Nat) : AV := match s[k]? with
  | some c => .tup [.v (.int .u8 c.toNat), .v (.bool true)]
  | none => .tup [.v (.int .u8 0), .v (.bool false)]
def nextK (s : List UInt8) (k : Nat) : Nat := if k < s.length then k + 1 else k
theorem next_ok (s : List UInt8) (k : Nat) (x : AV) (tk : List (Nat × TypeId)) (hs : s.length < 2 ^ 62) (hk : k ≤ s.length) : CallOk (cfgP fun _ => none) 90 [.ptr 0 0 0 0] (rdH s k x tk) (nextV s k) (rdH s (nextK s k) x tk) := by
  by_cases h : k < s.length
  · have d : decide ((s.length : Int) ≤ (k : Int)) = false := decide_eq_false (by omega)
    have e1 : IntKind.i64.wrap ((k : Int) + 1) = ((k + 1 : Nat) : Int) := wr64 (by omega) (by omega)
    have e2 : IntKind.i64.wrap (((k + 1 : Nat) : Int) - 1) = (k : Int) := by
      rw [show (((k + 1 : Nat) : Int) - 1) = (k : Int) by omega]
      exact wr64 (by omega) (by omega)
    have hc : s[k]? = some s[k] := List.getElem?_eq_getElem h
    have x0 : indexA (cfgP fun _ => none) 9 (str s) (.v (.int .i64 (k : Int))) = some (.v (.int .u8 s[k].toNat)) := ixl (k := k) rfl hc
    have hv : nextV s k = .tup [.v (.int .u8 s[k].toNat), .v (.bool true)] := by unfold nextV; rw [hc]
    have hn : nextK s k = k + 1 := if_pos h
    rw [hv, hn]
    clear hv hn
    refine call_of_wk (call := noCall) (fn := Tryd.f90) (rs := [.tmp 2, .tmp 3]) cokN noCall_ok (fns_cfg Tryd.func90 rfl) rfl rfl ?_
    intro env hl0 hargs
    have hn : env.length = 31 := hl0
    have h0 := hargs 0 _ rfl
    clear hargs hl0
    refine wkT_of ?_
    simp -dsimp only [hn, h0, rf0, rf1, rp9, rp3, rdH_blk, rdH_store, AV.cells, Nat.zero_add, List.getElem?_cons_zero, List.getElem?_cons_succ, len_s, d, e1, e2, x0, wt_seq, wt_block, wt_region, wt_cond, wt_skip, wt_ret, wt_exit, wst_nil, wst_cons, wst_guard, andThen_normal, andThen_ret, andThen_exit, leave_normal, leave_ret, leave_exit, EndsA_ret, EndsA_normal, ot_move, ot_assign, ot_pick, ot_binOp, ot_unOp, ot_convert, ot_field, ot_index, ot_indexAddr, ot_fieldAddr, ot_slice, ot_build, ot_buildSlice, ot_extract, ot_makeInterface, ot_makeFunc, ot_nilCheck, ot_call, ot_len, ot_append, ot_box, ot_load, ot_store, ot_makeSlice, ot_alloc, ot_sliceData, ot_unsafeString, ct_bool, ct_true, ct_false, bt_some, gt_some, aval_tmp, aval_int, aval_bool, aval_str, aval_slice, aval_nilPointer, aval_nilIface, aval_func, aval_global, avals, apairs, bareP, AV.bare, AV.bares, bin_lss, bin_leq, bin_gtr, bin_geq, bin_eql, bin_neq, bin_add, bin_sub, bin_mul, bin_and, bin_or, bin_xor, toV_int, toV_bool, toV_string, un_neg, un_not, bin_str_eql, bin_str_neq, bin_str_lss, bin_str_leq, bin_str_gtr, bin_str_geq, aget_aput, length_aput, aput_none, Nat.reduceEqDiff, Nat.reduceLT, Nat.reduceAdd, ↓reduceIte, reduceCtorEq, Bool.not_false, Bool.not_true, Bool.true_or, true_and, Option.bind_some, Option.map_some, List.nil_append, List.cons_append, resA, resA1, resVal, Option.getD_some, Nat.reduceLeDiff, bnd_some, yieldA_eq, yldOf_some, boolOf_bool, boolOf_undef, gt_none, List.getElem?_toArray, List.getElem?_cons_succ, List.getElem?_cons_zero, bq_true, bq_false, decide_true, decide_false, Option.toList_none, Option.toList_some, List.head?_cons, List.head?_nil, nb_cfg, not_false_eq_true, cv_some, pm_some, pm_none, plainA_v, plain_bool, plain_int, plain_str, Bool.false_eq_true, if_false]
    exact ⟨by kernel_rfl, by kernel_rfl, trivial⟩
  · have d : decide ((s.length : Int) ≤ (k : Int)) = true := decide_eq_true (by omega)
    have hv : nextV s k = .tup [.v (.int .u8 0), .v (.bool false)] := by unfold nextV; rw [List.getElem?_eq_none (by omega)]
    have hn : nextK s k = k := if_neg h
    rw [hv, hn]
    clear hv hn
    refine call_of_wk (call := noCall) (fn := Tryd.f90) (rs := [.tmp 2, .tmp 3]) cokN noCall_ok (fns_cfg Tryd.func90 rfl) rfl rfl ?_
    intro env hl0 hargs
    have hn : env.length = 31 := hl0
    have h0 := hargs 0 _ rfl
    clear hargs hl0
    refine wkT_of ?_
    simp -dsimp only [hn, h0, rf0, rf1, rp9, rp3, rdH_blk, AV.cells, Nat.zero_add, List.getElem?_cons_zero, List.getElem?_cons_succ, len_s, d, wt_seq, wt_block, wt_region, wt_cond, wt_skip, wt_ret, wt_exit, wst_nil, wst_cons, wst_guard, andThen_normal, andThen_ret, andThen_exit, leave_normal, leave_ret, leave_exit, EndsA_ret, EndsA_normal, ot_move, ot_assign, ot_pick, ot_binOp, ot_unOp, ot_convert, ot_field, ot_index, ot_indexAddr, ot_fieldAddr, ot_slice, ot_build, ot_buildSlice, ot_extract, ot_makeInterface, ot_makeFunc, ot_nilCheck, ot_call, ot_len, ot_append, ot_box, ot_load, ot_store, ot_makeSlice, ot_alloc, ot_sliceData, ot_unsafeString, ct_bool, ct_true, ct_false, bt_some, gt_some, aval_tmp, aval_int, aval_bool, aval_str, aval_slice, aval_nilPointer, aval_nilIface, aval_func, aval_global, avals, apairs, bareP, AV.bare, AV.bares, bin_lss, bin_leq, bin_gtr, bin_geq, bin_eql, bin_neq, bin_add, bin_sub, bin_mul, bin_and, bin_or, bin_xor, toV_int, toV_bool, toV_string, un_neg, un_not, bin_str_eql, bin_str_neq, bin_str_lss, bin_str_leq, bin_str_gtr, bin_str_geq, aget_aput, length_aput, aput_none, Nat.reduceEqDiff, Nat.reduceLT, Nat.reduceAdd, ↓reduceIte, reduceCtorEq, Bool.not_false, Bool.not_true, Bool.true_or, true_and, Option.bind_some, Option.map_some, List.nil_append, List.cons_append, resA, resA1, resVal, Option.getD_some, Nat.reduceLeDiff, bnd_some, yieldA_eq, yldOf_some, boolOf_bool, boolOf_undef, gt_none, List.getElem?_toArray, List.getElem?_cons_succ, List.getElem?_cons_zero, bq_true, bq_false, decide_true, decide_false, Option.toList_none, Option.toList_some, List.head?_cons, List.head?_nil, nb_cfg, not_false_eq_true, cv_some, pm_some, pm_none, plainA_v, plain_bool, plain_int, plain_str, Bool.false_eq_true, if_false]
    exact ⟨by kernel_rfl, trivial⟩
theorem rdH_inj {s s' : List UInt8} {k k' : Nat} {x x' : AV} {tk tk' : List (Nat × TypeId)} (h : rdH s k x tk = rdH s' k' x' tk') : s = s' ∧ k = k' ∧ x = x' ∧ tk = tk' := by
  unfold rdH at h
  injection h with h1 h2
  injection h2 with h2 _
  injection h2 with _ _ h2
  injection h2 with h2 _
  injection h2 with h2
  injection h2 with a h2
  injection h2 with b h2
  injection h2 with c _
  injection b with b
  injection b with _ b
  exact ⟨str_inj a, by omega, c, h1.symm ▸ rfl⟩
structure Rd where
  s : List UInt8
  k : Nat
  x : AV
  tk : List (Nat × TypeId)
def Rd.H (p : Rd) : Hp := rdH p.s p.k p.x p.tk
def Rd.ok (p : Rd) : Prop := p.s.length < 2 ^ 62 ∧ p.k ≤ p.s.length
theorem Rd.inj {p q : Rd} (h : p.H = q.H) : p = q := by
  obtain ⟨a, b, c, d⟩ := rdH_inj h
  cases p; cases q
  simp_all
noncomputable def nextT := relT 90 Rd.ok (fun _ => [.ptr 0 0 0 0]) Rd.H (fun p => nextV p.s p.k) (fun p => rdH p.s (nextK p.s p.k) p.x p.tk)
theorem nextT_ok : CallsOk (cfgP fun _ => none) nextT := relT_ok (fns_cfg Tryd.func90 rfl) rfl fun p h => next_ok p.s p.k p.x p.tk h.1 h.2
theorem nextT_eq {s : List UInt8} {k : Nat} {x : AV} {tk : List (Nat × TypeId)} (h : s.length < 2 ^ 62) (hk : k ≤ s.length) : nextT 90 [.ptr 0 0 0 0] (rdH s k x tk) = some (nextV s k, rdH s (nextK s k) x tk) :=
  relT_eq (f0 := 90) (X := Rd.ok) (a := fun _ => [.ptr 0 0 0 0]) (h := Rd.H) (r := fun p => nextV p.s p.k) (h' := fun p => rdH p.s (nextK p.s p.k) p.x p.tk) (fun p q _ _ _ h => by rw [Rd.inj h]; exact ⟨rfl, rfl⟩) ⟨s, k, x, tk⟩ ⟨h, hk⟩
end Go.Proofs.YtjejeijldllloaaDoor

/- Chapter 1: four digits. -/
namespace Go.Proofs.YtjejeijldllloaaDoor
open Go.AM
/-- What a digit of sixteen says. -/
def digV (c : UInt8) : Option Nat := if 48 ≤ c.toNat ∧ c.toNat ≤ 57 then some (c.toNat - 48) else if 97 ≤ c.toNat ∧ c.toNat ≤ 102 then some (c.toNat - 87) else if 65 ≤ c.toNat ∧ c.toNat ≤ 70 then some (c.toNat - 55) else none
/-- So many digits from k on: their number, and where it stops. -/
def hexF (s : List UInt8) : Nat → Nat → Nat → Option Nat × Nat
  | 0, k, n => (some n, k)
  | i + 1, k, n => match s[k]? with
    | none => (none, k)
    | some c => match digV c with
      | none => (none, k + 1)
      | some d => hexF s i (k + 1) (n * 16 + d)
def hexV (o : Option Nat) : AV := match o with
  | some n => .tup [.v (.int .i32 (n : Int)), .v (.bool true)]
  | none => .tup [.v (.int .i32 0), .v (.bool false)]
theorem wr32 {n : Int} (h1 : 0 ≤ n) (h2 : n < 2 ^ 31) : IntKind.i32.wrap n = n := by
  simp [IntKind.wrap, IntKind.bits, IntKind.signed]; omega
theorem wr8 {n : Int} (h1 : 0 ≤ n) (h2 : n < 2 ^ 8) : IntKind.u8.wrap n = n := by
  simp [IntKind.wrap, IntKind.bits, IntKind.signed]; omega
theorem nib_or (n d : Nat) (hd : d < 16) : n * 16 ||| d = n * 16 + d := by
  have := Nat.shiftLeft_add_eq_or_of_lt (a := n) (b := d) (i := 4) hd
  rw [Nat.shiftLeft_eq] at this
  exact this.symm
section
variable {prim : FuncId → Option (List AV → Option AV)}
theorem cv5r {n : Int} : convA (cfgP prim) 5 21 (.v (.int .u8 n)) = some (.v (.int .i32 (IntKind.i32.wrap n))) := conv_int (j := .u8) (by kernel_rfl) (by kernel_rfl) (by kernel_rfl) (by kernel_rfl)
theorem bshl {n : Nat} {t : TypeId} {x y : Operand} (hn : n < 2 ^ 16) : binA (cfgP prim) .shl t x y (.v (.int .i32 (n : Int))) (.v (.int .u64 4)) = some (.v (.int .i32 ((n * 16 : Nat) : Int))) := by
  rw [bin_shl (by decide), show ((n : Int) * 2 ^ min (4 : Int).toNat IntKind.i32.bits) = ((n * 16 : Nat) : Int) from by
    rw [show min (4 : Int).toNat IntKind.i32.bits = 4 from by decide]; push_cast; rfl, wr32 (by omega) (by omega)]
theorem bor {n d : Nat} {t : TypeId} {x y : Operand} (hn : n < 2 ^ 16) (hd : d < 16) : binA (cfgP prim) .or t x y (.v (.int .i32 ((n * 16 : Nat) : Int))) (.v (.int .i32 (d : Int))) = some (.v (.int .i32 ((n * 16 + d : Nat) : Int))) := by
  rw [bin_or, BitVec.ofInt_natCast, BitVec.ofInt_natCast, BitVec.toNat_or, BitVec.toNat_ofNat, BitVec.toNat_ofNat, Nat.mod_eq_of_lt (by show n * 16 < 2 ^ 32; omega), Nat.mod_eq_of_lt (by show d < 2 ^ 32; omega), nib_or n d hd, wr32 (by omega) (by omega)]
end
structure HxI (s : List UInt8) (x : AV) (tk : List (Nat × TypeId)) (k0 m : Nat) (i k n : Nat) (e : Env) (h : Hp) : Prop where
  len : e.length = 51
  hp : h = rdH s k x tk
  a0 : aget e 0 = .ptr 0 0 0 0
  a4 : aget e 4 = .v (.int .i32 (n : Int))
  a7 : aget e 7 = .v (.int .i64 (i : Int))
  nl : n < 16 ^ i
  kl : k ≤ s.length
  eq : hexF s m k n = hexF s 4 k0 0
set_option maxHeartbeats 4000000 in
set_option maxRecDepth 100000 in
theorem hex_ok (s : List UInt8) (k0 : Nat) (x : AV) (tk : List (Nat × TypeId)) (hs : s.length < 2 ^ 62) (hk : k0 ≤ s.length) : CallOk (cfgP fun _ => none) 121 [.ptr 0 0 0 0] (rdH s k0 x tk) (hexV (hexF s 4 k0 0).1) (rdH s (hexF s 4 k0 0).2 x tk) := by
  refine call_of_wk (call := nextT) (fn := Tryd.f121) (rs := [.tmp 2, .tmp 3]) cokN nextT_ok (fns_cfg Tryd.func121 rfl) rfl rfl ?_
  intro env hl0 hargs
  have hn : env.length = 51 := hl0
  have h0 := hargs 0 _ rfl
  clear hargs hl0
  refine wkT_of ?_
  simp -dsimp only [hn, h0, wt_seq, wt_block, wt_region, wt_cond, wt_skip, wt_ret, wt_exit, wst_nil, wst_cons, wst_guard, andThen_normal, andThen_ret, andThen_exit, leave_normal, leave_ret, leave_exit, EndsA_ret, EndsA_normal, ot_move, ot_assign, ot_pick, ot_binOp, ot_unOp, ot_convert, ot_field, ot_index, ot_indexAddr, ot_fieldAddr, ot_slice, ot_build, ot_buildSlice, ot_extract, ot_makeInterface, ot_makeFunc, ot_nilCheck, ot_call, ot_len, ot_append, ot_box, ot_load, ot_store, ot_makeSlice, ot_alloc, ot_sliceData, ot_unsafeString, ct_bool, ct_true, ct_false, bt_some, gt_some, aval_tmp, aval_int, aval_bool, aval_str, aval_slice, aval_nilPointer, aval_nilIface, aval_func, aval_global, avals, apairs, bareP, AV.bare, AV.bares, bin_lss, bin_leq, bin_gtr, bin_geq, bin_eql, bin_neq, bin_add, bin_sub, bin_mul, bin_and, bin_or, bin_xor, toV_int, toV_bool, toV_string, un_neg, un_not, bin_str_eql, bin_str_neq, bin_str_lss, bin_str_leq, bin_str_gtr, bin_str_geq, aget_aput, length_aput, aput_none, Nat.reduceEqDiff, Nat.reduceLT, Nat.reduceAdd, ↓reduceIte, reduceCtorEq, Bool.not_false, Bool.not_true, Bool.true_or, true_and, Option.bind_some, Option.map_some, List.nil_append, List.cons_append, resA, resA1, resVal, Option.getD_some, Nat.reduceLeDiff, bnd_some, yieldA_eq, yldOf_some, boolOf_bool, boolOf_undef, gt_none, List.getElem?_toArray, List.getElem?_cons_succ, List.getElem?_cons_zero, bq_true, bq_false, decide_true, decide_false, Option.toList_none, Option.toList_some, List.head?_cons, List.head?_nil, nb_cfg, not_false_eq_true, cv_some, pm_some, pm_none, plainA_v, plain_bool, plain_int, plain_str, Bool.false_eq_true, if_false]
  refine wt_loop (m := 4) (fun m e h => ∃ i k n, i + m = 4 ∧ HxI s x tk k0 m i k n e h) ?_ ?_
  · clear hn h0
    rintro m e h ⟨i, k, n, hi, hn, rfl, h0, h4, h7, hnl, hkl, heq⟩
    cases m with
    | zero =>
      obtain rfl : i = 4 := by omega
      have d : decide (((4 : Nat) : Int) < 4) = false := by decide
      simp -dsimp only [hn, h0, h4, h7, d, wt_seq, wt_block, wt_region, wt_cond, wt_skip, wt_ret, wt_exit, wst_nil, wst_cons, wst_guard, andThen_normal, andThen_ret, andThen_exit, leave_normal, leave_ret, leave_exit, EndsA_ret, EndsA_normal, ot_move, ot_assign, ot_pick, ot_binOp, ot_unOp, ot_convert, ot_field, ot_index, ot_indexAddr, ot_fieldAddr, ot_slice, ot_build, ot_buildSlice, ot_extract, ot_makeInterface, ot_makeFunc, ot_nilCheck, ot_call, ot_len, ot_append, ot_box, ot_load, ot_store, ot_makeSlice, ot_alloc, ot_sliceData, ot_unsafeString, ct_bool, ct_true, ct_false, bt_some, gt_some, aval_tmp, aval_int, aval_bool, aval_str, aval_slice, aval_nilPointer, aval_nilIface, aval_func, aval_global, avals, apairs, bareP, AV.bare, AV.bares, bin_lss, bin_leq, bin_gtr, bin_geq, bin_eql, bin_neq, bin_add, bin_sub, bin_mul, bin_and, bin_or, bin_xor, toV_int, toV_bool, toV_string, un_neg, un_not, bin_str_eql, bin_str_neq, bin_str_lss, bin_str_leq, bin_str_gtr, bin_str_geq, aget_aput, length_aput, aput_none, Nat.reduceEqDiff, Nat.reduceLT, Nat.reduceAdd, ↓reduceIte, reduceCtorEq, Bool.not_false, Bool.not_true, Bool.true_or, true_and, Option.bind_some, Option.map_some, List.nil_append, List.cons_append, resA, resA1, resVal, Option.getD_some, Nat.reduceLeDiff, bnd_some, yieldA_eq, yldOf_some, boolOf_bool, boolOf_undef, gt_none, List.getElem?_toArray, List.getElem?_cons_succ, List.getElem?_cons_zero, bq_true, bq_false, decide_true, decide_false, Option.toList_none, Option.toList_some, List.head?_cons, List.head?_nil, nb_cfg, not_false_eq_true, cv_some, pm_some, pm_none, plainA_v, plain_bool, plain_int, plain_str, Bool.false_eq_true, if_false]
      rw [← heq]
      exact ⟨rfl, rfl⟩
    | succ m =>
      have d : decide ((i : Int) < 4) = true := decide_eq_true (by omega)
      have q := nextT_eq (x := x) (tk := tk) hs hkl
      have n16 : n < 2 ^ 16 := Nat.lt_of_lt_of_le hnl (Nat.le_trans (Nat.pow_le_pow_right (by decide) (show i ≤ 4 by omega)) (by decide))
      by_cases hlt : k < s.length
      · obtain ⟨c, hc⟩ : ∃ c, s[k]? = some c := ⟨s[k], List.getElem?_eq_getElem hlt⟩
        have hv : nextV s k = .tup [.v (.int .u8 c.toNat), .v (.bool true)] := by unfold nextV; rw [hc]
        have hnk : nextK s k = k + 1 := if_pos hlt
        rw [hv, hnk] at q
        have hcl := UInt8.toNat_lt c
        have w1 : IntKind.i64.wrap ((i : Int) + 1) = ((i + 1 : Nat) : Int) := wr64 (by omega) (by omega)
        by_cases b0 : c.toNat ≤ 47
        · have g0 : decide ((48 : Int) ≤ (c.toNat : Int)) = false := decide_eq_false (by omega)
          have g1 : decide ((c.toNat : Int) ≤ 57) = true := decide_eq_true (by omega)
          have g2 : decide ((97 : Int) ≤ (c.toNat : Int)) = false := decide_eq_false (by omega)
          have g3 : decide ((c.toNat : Int) ≤ 102) = true := decide_eq_true (by omega)
          have g4 : decide ((65 : Int) ≤ (c.toNat : Int)) = false := decide_eq_false (by omega)
          have g5 : decide ((c.toNat : Int) ≤ 70) = true := decide_eq_true (by omega)
          have hd : digV c = none := by unfold digV; (repeat' split); all_goals first | rfl | omega
          have hx : hexF s (m + 1) k n = (none, k + 1) := by simp only [hexF, hc, hd]
          simp -dsimp only [hn, h0, h4, h7, d, q, ct_own (C := cfgP fun _ => none) (f := 90) rfl rfl, Bool.not_true, g0, g1, g2, g3, g4, g5, wt_seq, wt_block, wt_region, wt_cond, wt_skip, wt_ret, wt_exit, wst_nil, wst_cons, wst_guard, andThen_normal, andThen_ret, andThen_exit, leave_normal, leave_ret, leave_exit, EndsA_ret, EndsA_normal, ot_move, ot_assign, ot_pick, ot_binOp, ot_unOp, ot_convert, ot_field, ot_index, ot_indexAddr, ot_fieldAddr, ot_slice, ot_build, ot_buildSlice, ot_extract, ot_makeInterface, ot_makeFunc, ot_nilCheck, ot_call, ot_len, ot_append, ot_box, ot_load, ot_store, ot_makeSlice, ot_alloc, ot_sliceData, ot_unsafeString, ct_bool, ct_true, ct_false, bt_some, gt_some, aval_tmp, aval_int, aval_bool, aval_str, aval_slice, aval_nilPointer, aval_nilIface, aval_func, aval_global, avals, apairs, bareP, AV.bare, AV.bares, bin_lss, bin_leq, bin_gtr, bin_geq, bin_eql, bin_neq, bin_add, bin_sub, bin_mul, bin_and, bin_or, bin_xor, toV_int, toV_bool, toV_string, un_neg, un_not, bin_str_eql, bin_str_neq, bin_str_lss, bin_str_leq, bin_str_gtr, bin_str_geq, aget_aput, length_aput, aput_none, Nat.reduceEqDiff, Nat.reduceLT, Nat.reduceAdd, ↓reduceIte, reduceCtorEq, Bool.not_false, Bool.not_true, Bool.true_or, true_and, Option.bind_some, Option.map_some, List.nil_append, List.cons_append, resA, resA1, resVal, Option.getD_some, Nat.reduceLeDiff, bnd_some, yieldA_eq, yldOf_some, boolOf_bool, boolOf_undef, gt_none, List.getElem?_toArray, List.getElem?_cons_succ, List.getElem?_cons_zero, bq_true, bq_false, decide_true, decide_false, Option.toList_none, Option.toList_some, List.head?_cons, List.head?_nil, nb_cfg, not_false_eq_true, cv_some, pm_some, pm_none, plainA_v, plain_bool, plain_int, plain_str, Bool.false_eq_true, if_false]
          rw [← heq, hx]
          exact ⟨rfl, rfl⟩
        by_cases b1 : c.toNat ≤ 57
        · have g0 : decide ((48 : Int) ≤ (c.toNat : Int)) = true := decide_eq_true (by omega)
          have g1 : decide ((c.toNat : Int) ≤ 57) = true := decide_eq_true (by omega)
          have g2 : decide ((97 : Int) ≤ (c.toNat : Int)) = false := decide_eq_false (by omega)
          have g3 : decide ((c.toNat : Int) ≤ 102) = true := decide_eq_true (by omega)
          have g4 : decide ((65 : Int) ≤ (c.toNat : Int)) = false := decide_eq_false (by omega)
          have g5 : decide ((c.toNat : Int) ≤ 70) = true := decide_eq_true (by omega)
          have hd : digV c = some (c.toNat - 48) := by unfold digV; (repeat' split); all_goals first | rfl | omega
          have hx : hexF s (m + 1) k n = hexF s m (k + 1) (n * 16 + (c.toNat - 48)) := by simp only [hexF, hc, hd]
          rw [hx] at heq
          have w2 : IntKind.u8.wrap ((c.toNat : Int) - 48) = ((c.toNat - 48 : Nat) : Int) := by
            rw [show ((c.toNat : Int) - 48) = ((c.toNat - 48 : Nat) : Int) by omega]
            exact wr8 (by omega) (by omega)
          obtain ⟨dd, hdd⟩ : ∃ dd, c.toNat - 48 = dd := ⟨_, rfl⟩
          rw [hdd] at w2 heq
          have d16 : dd < 16 := by omega
          have w3 : IntKind.i32.wrap (dd : Int) = (dd : Int) := wr32 (by omega) (by omega)
          simp -dsimp only [hn, h0, h4, h7, d, q, ct_own (C := cfgP fun _ => none) (f := 90) rfl rfl, Bool.not_true, g0, g1, g2, g3, g4, g5, w2, cv5r, w3, bshl n16, bor n16 d16, w1, wt_seq, wt_block, wt_region, wt_cond, wt_skip, wt_ret, wt_exit, wst_nil, wst_cons, wst_guard, andThen_normal, andThen_ret, andThen_exit, leave_normal, leave_ret, leave_exit, EndsA_ret, EndsA_normal, ot_move, ot_assign, ot_pick, ot_binOp, ot_unOp, ot_convert, ot_field, ot_index, ot_indexAddr, ot_fieldAddr, ot_slice, ot_build, ot_buildSlice, ot_extract, ot_makeInterface, ot_makeFunc, ot_nilCheck, ot_call, ot_len, ot_append, ot_box, ot_load, ot_store, ot_makeSlice, ot_alloc, ot_sliceData, ot_unsafeString, ct_bool, ct_true, ct_false, bt_some, gt_some, aval_tmp, aval_int, aval_bool, aval_str, aval_slice, aval_nilPointer, aval_nilIface, aval_func, aval_global, avals, apairs, bareP, AV.bare, AV.bares, bin_lss, bin_leq, bin_gtr, bin_geq, bin_eql, bin_neq, bin_add, bin_sub, bin_mul, bin_and, bin_or, bin_xor, toV_int, toV_bool, toV_string, un_neg, un_not, bin_str_eql, bin_str_neq, bin_str_lss, bin_str_leq, bin_str_gtr, bin_str_geq, aget_aput, length_aput, aput_none, Nat.reduceEqDiff, Nat.reduceLT, Nat.reduceAdd, ↓reduceIte, reduceCtorEq, Bool.not_false, Bool.not_true, Bool.true_or, true_and, Option.bind_some, Option.map_some, List.nil_append, List.cons_append, resA, resA1, resVal, Option.getD_some, Nat.reduceLeDiff, bnd_some, yieldA_eq, yldOf_some, boolOf_bool, boolOf_undef, gt_none, List.getElem?_toArray, List.getElem?_cons_succ, List.getElem?_cons_zero, bq_true, bq_false, decide_true, decide_false, Option.toList_none, Option.toList_some, List.head?_cons, List.head?_nil, nb_cfg, not_false_eq_true, cv_some, pm_some, pm_none, plainA_v, plain_bool, plain_int, plain_str, Bool.false_eq_true, if_false]
          refine ⟨m, by omega, i + 1, k + 1, n * 16 + dd, by omega, ?_, rfl, ?_, ?_, ?_, ?_, by omega, heq⟩
          case refine_5 =>
            rw [Nat.pow_succ]
            generalize 16 ^ i = P at *
            omega
          all_goals simp -dsimp only [hn, h0, h4, h7, wt_seq, wt_block, wt_region, wt_cond, wt_skip, wt_ret, wt_exit, wst_nil, wst_cons, wst_guard, andThen_normal, andThen_ret, andThen_exit, leave_normal, leave_ret, leave_exit, EndsA_ret, EndsA_normal, ot_move, ot_assign, ot_pick, ot_binOp, ot_unOp, ot_convert, ot_field, ot_index, ot_indexAddr, ot_fieldAddr, ot_slice, ot_build, ot_buildSlice, ot_extract, ot_makeInterface, ot_makeFunc, ot_nilCheck, ot_call, ot_len, ot_append, ot_box, ot_load, ot_store, ot_makeSlice, ot_alloc, ot_sliceData, ot_unsafeString, ct_bool, ct_true, ct_false, bt_some, gt_some, aval_tmp, aval_int, aval_bool, aval_str, aval_slice, aval_nilPointer, aval_nilIface, aval_func, aval_global, avals, apairs, bareP, AV.bare, AV.bares, bin_lss, bin_leq, bin_gtr, bin_geq, bin_eql, bin_neq, bin_add, bin_sub, bin_mul, bin_and, bin_or, bin_xor, toV_int, toV_bool, toV_string, un_neg, un_not, bin_str_eql, bin_str_neq, bin_str_lss, bin_str_leq, bin_str_gtr, bin_str_geq, aget_aput, length_aput, aput_none, Nat.reduceEqDiff, Nat.reduceLT, Nat.reduceAdd, ↓reduceIte, reduceCtorEq, Bool.not_false, Bool.not_true, Bool.true_or, true_and, Option.bind_some, Option.map_some, List.nil_append, List.cons_append, resA, resA1, resVal, Option.getD_some, Nat.reduceLeDiff, bnd_some, yieldA_eq, yldOf_some, boolOf_bool, boolOf_undef, gt_none, List.getElem?_toArray, List.getElem?_cons_succ, List.getElem?_cons_zero, bq_true, bq_false, decide_true, decide_false, Option.toList_none, Option.toList_some, List.head?_cons, List.head?_nil, nb_cfg, not_false_eq_true, cv_some, pm_some, pm_none, plainA_v, plain_bool, plain_int, plain_str, Bool.false_eq_true, if_false]
        by_cases b2 : c.toNat ≤ 64
        · have g0 : decide ((48 : Int) ≤ (c.toNat : Int)) = true := decide_eq_true (by omega)
          have g1 : decide ((c.toNat : Int) ≤ 57) = false := decide_eq_false (by omega)
          have g2 : decide ((97 : Int) ≤ (c.toNat : Int)) = false := decide_eq_false (by omega)
          have g3 : decide ((c.toNat : Int) ≤ 102) = true := decide_eq_true (by omega)
          have g4 : decide ((65 : Int) ≤ (c.toNat : Int)) = false := decide_eq_false (by omega)
          have g5 : decide ((c.toNat : Int) ≤ 70) = true := decide_eq_true (by omega)
          have hd : digV c = none := by unfold digV; (repeat' split); all_goals first | rfl | omega
          have hx : hexF s (m + 1) k n = (none, k + 1) := by simp only [hexF, hc, hd]
          simp -dsimp only [hn, h0, h4, h7, d, q, ct_own (C := cfgP fun _ => none) (f := 90) rfl rfl, Bool.not_true, g0, g1, g2, g3, g4, g5, wt_seq, wt_block, wt_region, wt_cond, wt_skip, wt_ret, wt_exit, wst_nil, wst_cons, wst_guard, andThen_normal, andThen_ret, andThen_exit, leave_normal, leave_ret, leave_exit, EndsA_ret, EndsA_normal, ot_move, ot_assign, ot_pick, ot_binOp, ot_unOp, ot_convert, ot_field, ot_index, ot_indexAddr, ot_fieldAddr, ot_slice, ot_build, ot_buildSlice, ot_extract, ot_makeInterface, ot_makeFunc, ot_nilCheck, ot_call, ot_len, ot_append, ot_box, ot_load, ot_store, ot_makeSlice, ot_alloc, ot_sliceData, ot_unsafeString, ct_bool, ct_true, ct_false, bt_some, gt_some, aval_tmp, aval_int, aval_bool, aval_str, aval_slice, aval_nilPointer, aval_nilIface, aval_func, aval_global, avals, apairs, bareP, AV.bare, AV.bares, bin_lss, bin_leq, bin_gtr, bin_geq, bin_eql, bin_neq, bin_add, bin_sub, bin_mul, bin_and, bin_or, bin_xor, toV_int, toV_bool, toV_string, un_neg, un_not, bin_str_eql, bin_str_neq, bin_str_lss, bin_str_leq, bin_str_gtr, bin_str_geq, aget_aput, length_aput, aput_none, Nat.reduceEqDiff, Nat.reduceLT, Nat.reduceAdd, ↓reduceIte, reduceCtorEq, Bool.not_false, Bool.not_true, Bool.true_or, true_and, Option.bind_some, Option.map_some, List.nil_append, List.cons_append, resA, resA1, resVal, Option.getD_some, Nat.reduceLeDiff, bnd_some, yieldA_eq, yldOf_some, boolOf_bool, boolOf_undef, gt_none, List.getElem?_toArray, List.getElem?_cons_succ, List.getElem?_cons_zero, bq_true, bq_false, decide_true, decide_false, Option.toList_none, Option.toList_some, List.head?_cons, List.head?_nil, nb_cfg, not_false_eq_true, cv_some, pm_some, pm_none, plainA_v, plain_bool, plain_int, plain_str, Bool.false_eq_true, if_false]
          rw [← heq, hx]
          exact ⟨rfl, rfl⟩
        by_cases b3 : c.toNat ≤ 70
        · have g0 : decide ((48 : Int) ≤ (c.toNat : Int)) = true := decide_eq_true (by omega)
          have g1 : decide ((c.toNat : Int) ≤ 57) = false := decide_eq_false (by omega)
          have g2 : decide ((97 : Int) ≤ (c.toNat : Int)) = false := decide_eq_false (by omega)
          have g3 : decide ((c.toNat : Int) ≤ 102) = true := decide_eq_true (by omega)
          have g4 : decide ((65 : Int) ≤ (c.toNat : Int)) = true := decide_eq_true (by omega)
          have g5 : decide ((c.toNat : Int) ≤ 70) = true := decide_eq_true (by omega)
          have hd : digV c = some (c.toNat - 55) := by unfold digV; (repeat' split); all_goals first | rfl | omega
          have hx : hexF s (m + 1) k n = hexF s m (k + 1) (n * 16 + (c.toNat - 55)) := by simp only [hexF, hc, hd]
          rw [hx] at heq
          have w2 : IntKind.u8.wrap ((c.toNat : Int) - 55) = ((c.toNat - 55 : Nat) : Int) := by
            rw [show ((c.toNat : Int) - 55) = ((c.toNat - 55 : Nat) : Int) by omega]
            exact wr8 (by omega) (by omega)
          obtain ⟨dd, hdd⟩ : ∃ dd, c.toNat - 55 = dd := ⟨_, rfl⟩
          rw [hdd] at w2 heq
          have d16 : dd < 16 := by omega
          have w3 : IntKind.i32.wrap (dd : Int) = (dd : Int) := wr32 (by omega) (by omega)
          simp -dsimp only [hn, h0, h4, h7, d, q, ct_own (C := cfgP fun _ => none) (f := 90) rfl rfl, Bool.not_true, g0, g1, g2, g3, g4, g5, w2, cv5r, w3, bshl n16, bor n16 d16, w1, wt_seq, wt_block, wt_region, wt_cond, wt_skip, wt_ret, wt_exit, wst_nil, wst_cons, wst_guard, andThen_normal, andThen_ret, andThen_exit, leave_normal, leave_ret, leave_exit, EndsA_ret, EndsA_normal, ot_move, ot_assign, ot_pick, ot_binOp, ot_unOp, ot_convert, ot_field, ot_index, ot_indexAddr, ot_fieldAddr, ot_slice, ot_build, ot_buildSlice, ot_extract, ot_makeInterface, ot_makeFunc, ot_nilCheck, ot_call, ot_len, ot_append, ot_box, ot_load, ot_store, ot_makeSlice, ot_alloc, ot_sliceData, ot_unsafeString, ct_bool, ct_true, ct_false, bt_some, gt_some, aval_tmp, aval_int, aval_bool, aval_str, aval_slice, aval_nilPointer, aval_nilIface, aval_func, aval_global, avals, apairs, bareP, AV.bare, AV.bares, bin_lss, bin_leq, bin_gtr, bin_geq, bin_eql, bin_neq, bin_add, bin_sub, bin_mul, bin_and, bin_or, bin_xor, toV_int, toV_bool, toV_string, un_neg, un_not, bin_str_eql, bin_str_neq, bin_str_lss, bin_str_leq, bin_str_gtr, bin_str_geq, aget_aput, length_aput, aput_none, Nat.reduceEqDiff, Nat.reduceLT, Nat.reduceAdd, ↓reduceIte, reduceCtorEq, Bool.not_false, Bool.not_true, Bool.true_or, true_and, Option.bind_some, Option.map_some, List.nil_append, List.cons_append, resA, resA1, resVal, Option.getD_some, Nat.reduceLeDiff, bnd_some, yieldA_eq, yldOf_some, boolOf_bool, boolOf_undef, gt_none, List.getElem?_toArray, List.getElem?_cons_succ, List.getElem?_cons_zero, bq_true, bq_false, decide_true, decide_false, Option.toList_none, Option.toList_some, List.head?_cons, List.head?_nil, nb_cfg, not_false_eq_true, cv_some, pm_some, pm_none, plainA_v, plain_bool, plain_int, plain_str, Bool.false_eq_true, if_false]
          refine ⟨m, by omega, i + 1, k + 1, n * 16 + dd, by omega, ?_, rfl, ?_, ?_, ?_, ?_, by omega, heq⟩
          case refine_5 =>
            rw [Nat.pow_succ]
            generalize 16 ^ i = P at *
            omega
          all_goals simp -dsimp only [hn, h0, h4, h7, wt_seq, wt_block, wt_region, wt_cond, wt_skip, wt_ret, wt_exit, wst_nil, wst_cons, wst_guard, andThen_normal, andThen_ret, andThen_exit, leave_normal, leave_ret, leave_exit, EndsA_ret, EndsA_normal, ot_move, ot_assign, ot_pick, ot_binOp, ot_unOp, ot_convert, ot_field, ot_index, ot_indexAddr, ot_fieldAddr, ot_slice, ot_build, ot_buildSlice, ot_extract, ot_makeInterface, ot_makeFunc, ot_nilCheck, ot_call, ot_len, ot_append, ot_box, ot_load, ot_store, ot_makeSlice, ot_alloc, ot_sliceData, ot_unsafeString, ct_bool, ct_true, ct_false, bt_some, gt_some, aval_tmp, aval_int, aval_bool, aval_str, aval_slice, aval_nilPointer, aval_nilIface, aval_func, aval_global, avals, apairs, bareP, AV.bare, AV.bares, bin_lss, bin_leq, bin_gtr, bin_geq, bin_eql, bin_neq, bin_add, bin_sub, bin_mul, bin_and, bin_or, bin_xor, toV_int, toV_bool, toV_string, un_neg, un_not, bin_str_eql, bin_str_neq, bin_str_lss, bin_str_leq, bin_str_gtr, bin_str_geq, aget_aput, length_aput, aput_none, Nat.reduceEqDiff, Nat.reduceLT, Nat.reduceAdd, ↓reduceIte, reduceCtorEq, Bool.not_false, Bool.not_true, Bool.true_or, true_and, Option.bind_some, Option.map_some, List.nil_append, List.cons_append, resA, resA1, resVal, Option.getD_some, Nat.reduceLeDiff, bnd_some, yieldA_eq, yldOf_some, boolOf_bool, boolOf_undef, gt_none, List.getElem?_toArray, List.getElem?_cons_succ, List.getElem?_cons_zero, bq_true, bq_false, decide_true, decide_false, Option.toList_none, Option.toList_some, List.head?_cons, List.head?_nil, nb_cfg, not_false_eq_true, cv_some, pm_some, pm_none, plainA_v, plain_bool, plain_int, plain_str, Bool.false_eq_true, if_false]
        by_cases b4 : c.toNat ≤ 96
        · have g0 : decide ((48 : Int) ≤ (c.toNat : Int)) = true := decide_eq_true (by omega)
          have g1 : decide ((c.toNat : Int) ≤ 57) = false := decide_eq_false (by omega)
          have g2 : decide ((97 : Int) ≤ (c.toNat : Int)) = false := decide_eq_false (by omega)
          have g3 : decide ((c.toNat : Int) ≤ 102) = true := decide_eq_true (by omega)
          have g4 : decide ((65 : Int) ≤ (c.toNat : Int)) = true := decide_eq_true (by omega)
          have g5 : decide ((c.toNat : Int) ≤ 70) = false := decide_eq_false (by omega)
          have hd : digV c = none := by unfold digV; (repeat' split); all_goals first | rfl | omega
          have hx : hexF s (m + 1) k n = (none, k + 1) := by simp only [hexF, hc, hd]
          simp -dsimp only [hn, h0, h4, h7, d, q, ct_own (C := cfgP fun _ => none) (f := 90) rfl rfl, Bool.not_true, g0, g1, g2, g3, g4, g5, wt_seq, wt_block, wt_region, wt_cond, wt_skip, wt_ret, wt_exit, wst_nil, wst_cons, wst_guard, andThen_normal, andThen_ret, andThen_exit, leave_normal, leave_ret, leave_exit, EndsA_ret, EndsA_normal, ot_move, ot_assign, ot_pick, ot_binOp, ot_unOp, ot_convert, ot_field, ot_index, ot_indexAddr, ot_fieldAddr, ot_slice, ot_build, ot_buildSlice, ot_extract, ot_makeInterface, ot_makeFunc, ot_nilCheck, ot_call, ot_len, ot_append, ot_box, ot_load, ot_store, ot_makeSlice, ot_alloc, ot_sliceData, ot_unsafeString, ct_bool, ct_true, ct_false, bt_some, gt_some, aval_tmp, aval_int, aval_bool, aval_str, aval_slice, aval_nilPointer, aval_nilIface, aval_func, aval_global, avals, apairs, bareP, AV.bare, AV.bares, bin_lss, bin_leq, bin_gtr, bin_geq, bin_eql, bin_neq, bin_add, bin_sub, bin_mul, bin_and, bin_or, bin_xor, toV_int, toV_bool, toV_string, un_neg, un_not, bin_str_eql, bin_str_neq, bin_str_lss, bin_str_leq, bin_str_gtr, bin_str_geq, aget_aput, length_aput, aput_none, Nat.reduceEqDiff, Nat.reduceLT, Nat.reduceAdd, ↓reduceIte, reduceCtorEq, Bool.not_false, Bool.not_true, Bool.true_or, true_and, Option.bind_some, Option.map_some, List.nil_append, List.cons_append, resA, resA1, resVal, Option.getD_some, Nat.reduceLeDiff, bnd_some, yieldA_eq, yldOf_some, boolOf_bool, boolOf_undef, gt_none, List.getElem?_toArray, List.getElem?_cons_succ, List.getElem?_cons_zero, bq_true, bq_false, decide_true, decide_false, Option.toList_none, Option.toList_some, List.head?_cons, List.head?_nil, nb_cfg, not_false_eq_true, cv_some, pm_some, pm_none, plainA_v, plain_bool, plain_int, plain_str, Bool.false_eq_true, if_false]
          rw [← heq, hx]
          exact ⟨rfl, rfl⟩
        by_cases b5 : c.toNat ≤ 102
        · have g0 : decide ((48 : Int) ≤ (c.toNat : Int)) = true := decide_eq_true (by omega)
          have g1 : decide ((c.toNat : Int) ≤ 57) = false := decide_eq_false (by omega)
          have g2 : decide ((97 : Int) ≤ (c.toNat : Int)) = true := decide_eq_true (by omega)
          have g3 : decide ((c.toNat : Int) ≤ 102) = true := decide_eq_true (by omega)
          have g4 : decide ((65 : Int) ≤ (c.toNat : Int)) = true := decide_eq_true (by omega)
          have g5 : decide ((c.toNat : Int) ≤ 70) = false := decide_eq_false (by omega)
          have hd : digV c = some (c.toNat - 87) := by unfold digV; (repeat' split); all_goals first | rfl | omega
          have hx : hexF s (m + 1) k n = hexF s m (k + 1) (n * 16 + (c.toNat - 87)) := by simp only [hexF, hc, hd]
          rw [hx] at heq
          have w2 : IntKind.u8.wrap ((c.toNat : Int) - 87) = ((c.toNat - 87 : Nat) : Int) := by
            rw [show ((c.toNat : Int) - 87) = ((c.toNat - 87 : Nat) : Int) by omega]
            exact wr8 (by omega) (by omega)
          obtain ⟨dd, hdd⟩ : ∃ dd, c.toNat - 87 = dd := ⟨_, rfl⟩
          rw [hdd] at w2 heq
          have d16 : dd < 16 := by omega
          have w3 : IntKind.i32.wrap (dd : Int) = (dd : Int) := wr32 (by omega) (by omega)
          simp -dsimp only [hn, h0, h4, h7, d, q, ct_own (C := cfgP fun _ => none) (f := 90) rfl rfl, Bool.not_true, g0, g1, g2, g3, g4, g5, w2, cv5r, w3, bshl n16, bor n16 d16, w1, wt_seq, wt_block, wt_region, wt_cond, wt_skip, wt_ret, wt_exit, wst_nil, wst_cons, wst_guard, andThen_normal, andThen_ret, andThen_exit, leave_normal, leave_ret, leave_exit, EndsA_ret, EndsA_normal, ot_move, ot_assign, ot_pick, ot_binOp, ot_unOp, ot_convert, ot_field, ot_index, ot_indexAddr, ot_fieldAddr, ot_slice, ot_build, ot_buildSlice, ot_extract, ot_makeInterface, ot_makeFunc, ot_nilCheck, ot_call, ot_len, ot_append, ot_box, ot_load, ot_store, ot_makeSlice, ot_alloc, ot_sliceData, ot_unsafeString, ct_bool, ct_true, ct_false, bt_some, gt_some, aval_tmp, aval_int, aval_bool, aval_str, aval_slice, aval_nilPointer, aval_nilIface, aval_func, aval_global, avals, apairs, bareP, AV.bare, AV.bares, bin_lss, bin_leq, bin_gtr, bin_geq, bin_eql, bin_neq, bin_add, bin_sub, bin_mul, bin_and, bin_or, bin_xor, toV_int, toV_bool, toV_string, un_neg, un_not, bin_str_eql, bin_str_neq, bin_str_lss, bin_str_leq, bin_str_gtr, bin_str_geq, aget_aput, length_aput, aput_none, Nat.reduceEqDiff, Nat.reduceLT, Nat.reduceAdd, ↓reduceIte, reduceCtorEq, Bool.not_false, Bool.not_true, Bool.true_or, true_and, Option.bind_some, Option.map_some, List.nil_append, List.cons_append, resA, resA1, resVal, Option.getD_some, Nat.reduceLeDiff, bnd_some, yieldA_eq, yldOf_some, boolOf_bool, boolOf_undef, gt_none, List.getElem?_toArray, List.getElem?_cons_succ, List.getElem?_cons_zero, bq_true, bq_false, decide_true, decide_false, Option.toList_none, Option.toList_some, List.head?_cons, List.head?_nil, nb_cfg, not_false_eq_true, cv_some, pm_some, pm_none, plainA_v, plain_bool, plain_int, plain_str, Bool.false_eq_true, if_false]
          refine ⟨m, by omega, i + 1, k + 1, n * 16 + dd, by omega, ?_, rfl, ?_, ?_, ?_, ?_, by omega, heq⟩
          case refine_5 =>
            rw [Nat.pow_succ]
            generalize 16 ^ i = P at *
            omega
          all_goals simp -dsimp only [hn, h0, h4, h7, wt_seq, wt_block, wt_region, wt_cond, wt_skip, wt_ret, wt_exit, wst_nil, wst_cons, wst_guard, andThen_normal, andThen_ret, andThen_exit, leave_normal, leave_ret, leave_exit, EndsA_ret, EndsA_normal, ot_move, ot_assign, ot_pick, ot_binOp, ot_unOp, ot_convert, ot_field, ot_index, ot_indexAddr, ot_fieldAddr, ot_slice, ot_build, ot_buildSlice, ot_extract, ot_makeInterface, ot_makeFunc, ot_nilCheck, ot_call, ot_len, ot_append, ot_box, ot_load, ot_store, ot_makeSlice, ot_alloc, ot_sliceData, ot_unsafeString, ct_bool, ct_true, ct_false, bt_some, gt_some, aval_tmp, aval_int, aval_bool, aval_str, aval_slice, aval_nilPointer, aval_nilIface, aval_func, aval_global, avals, apairs, bareP, AV.bare, AV.bares, bin_lss, bin_leq, bin_gtr, bin_geq, bin_eql, bin_neq, bin_add, bin_sub, bin_mul, bin_and, bin_or, bin_xor, toV_int, toV_bool, toV_string, un_neg, un_not, bin_str_eql, bin_str_neq, bin_str_lss, bin_str_leq, bin_str_gtr, bin_str_geq, aget_aput, length_aput, aput_none, Nat.reduceEqDiff, Nat.reduceLT, Nat.reduceAdd, ↓reduceIte, reduceCtorEq, Bool.not_false, Bool.not_true, Bool.true_or, true_and, Option.bind_some, Option.map_some, List.nil_append, List.cons_append, resA, resA1, resVal, Option.getD_some, Nat.reduceLeDiff, bnd_some, yieldA_eq, yldOf_some, boolOf_bool, boolOf_undef, gt_none, List.getElem?_toArray, List.getElem?_cons_succ, List.getElem?_cons_zero, bq_true, bq_false, decide_true, decide_false, Option.toList_none, Option.toList_some, List.head?_cons, List.head?_nil, nb_cfg, not_false_eq_true, cv_some, pm_some, pm_none, plainA_v, plain_bool, plain_int, plain_str, Bool.false_eq_true, if_false]
        have g0 : decide ((48 : Int) ≤ (c.toNat : Int)) = true := decide_eq_true (by omega)
        have g1 : decide ((c.toNat : Int) ≤ 57) = false := decide_eq_false (by omega)
        have g2 : decide ((97 : Int) ≤ (c.toNat : Int)) = true := decide_eq_true (by omega)
        have g3 : decide ((c.toNat : Int) ≤ 102) = false := decide_eq_false (by omega)
        have g4 : decide ((65 : Int) ≤ (c.toNat : Int)) = true := decide_eq_true (by omega)
        have g5 : decide ((c.toNat : Int) ≤ 70) = false := decide_eq_false (by omega)
        have hd : digV c = none := by unfold digV; (repeat' split); all_goals first | rfl | omega
        have hx : hexF s (m + 1) k n = (none, k + 1) := by simp only [hexF, hc, hd]
        simp -dsimp only [hn, h0, h4, h7, d, q, ct_own (C := cfgP fun _ => none) (f := 90) rfl rfl, Bool.not_true, g0, g1, g2, g3, g4, g5, wt_seq, wt_block, wt_region, wt_cond, wt_skip, wt_ret, wt_exit, wst_nil, wst_cons, wst_guard, andThen_normal, andThen_ret, andThen_exit, leave_normal, leave_ret, leave_exit, EndsA_ret, EndsA_normal, ot_move, ot_assign, ot_pick, ot_binOp, ot_unOp, ot_convert, ot_field, ot_index, ot_indexAddr, ot_fieldAddr, ot_slice, ot_build, ot_buildSlice, ot_extract, ot_makeInterface, ot_makeFunc, ot_nilCheck, ot_call, ot_len, ot_append, ot_box, ot_load, ot_store, ot_makeSlice, ot_alloc, ot_sliceData, ot_unsafeString, ct_bool, ct_true, ct_false, bt_some, gt_some, aval_tmp, aval_int, aval_bool, aval_str, aval_slice, aval_nilPointer, aval_nilIface, aval_func, aval_global, avals, apairs, bareP, AV.bare, AV.bares, bin_lss, bin_leq, bin_gtr, bin_geq, bin_eql, bin_neq, bin_add, bin_sub, bin_mul, bin_and, bin_or, bin_xor, toV_int, toV_bool, toV_string, un_neg, un_not, bin_str_eql, bin_str_neq, bin_str_lss, bin_str_leq, bin_str_gtr, bin_str_geq, aget_aput, length_aput, aput_none, Nat.reduceEqDiff, Nat.reduceLT, Nat.reduceAdd, ↓reduceIte, reduceCtorEq, Bool.not_false, Bool.not_true, Bool.true_or, true_and, Option.bind_some, Option.map_some, List.nil_append, List.cons_append, resA, resA1, resVal, Option.getD_some, Nat.reduceLeDiff, bnd_some, yieldA_eq, yldOf_some, boolOf_bool, boolOf_undef, gt_none, List.getElem?_toArray, List.getElem?_cons_succ, List.getElem?_cons_zero, bq_true, bq_false, decide_true, decide_false, Option.toList_none, Option.toList_some, List.head?_cons, List.head?_nil, nb_cfg, not_false_eq_true, cv_some, pm_some, pm_none, plainA_v, plain_bool, plain_int, plain_str, Bool.false_eq_true, if_false]
        rw [← heq, hx]
        exact ⟨rfl, rfl⟩
      · have hc : s[k]? = none := List.getElem?_eq_none (by omega)
        have hv : nextV s k = .tup [.v (.int .u8 0), .v (.bool false)] := by unfold nextV; rw [hc]
        have hnk : nextK s k = k := if_neg hlt
        rw [hv, hnk] at q
        have hx : hexF s (m + 1) k n = (none, k) := by simp only [hexF, hc]
        simp -dsimp only [hn, h0, h4, h7, d, q, ct_own (C := cfgP fun _ => none) (f := 90) rfl rfl, Bool.not_false, wt_seq, wt_block, wt_region, wt_cond, wt_skip, wt_ret, wt_exit, wst_nil, wst_cons, wst_guard, andThen_normal, andThen_ret, andThen_exit, leave_normal, leave_ret, leave_exit, EndsA_ret, EndsA_normal, ot_move, ot_assign, ot_pick, ot_binOp, ot_unOp, ot_convert, ot_field, ot_index, ot_indexAddr, ot_fieldAddr, ot_slice, ot_build, ot_buildSlice, ot_extract, ot_makeInterface, ot_makeFunc, ot_nilCheck, ot_call, ot_len, ot_append, ot_box, ot_load, ot_store, ot_makeSlice, ot_alloc, ot_sliceData, ot_unsafeString, ct_bool, ct_true, ct_false, bt_some, gt_some, aval_tmp, aval_int, aval_bool, aval_str, aval_slice, aval_nilPointer, aval_nilIface, aval_func, aval_global, avals, apairs, bareP, AV.bare, AV.bares, bin_lss, bin_leq, bin_gtr, bin_geq, bin_eql, bin_neq, bin_add, bin_sub, bin_mul, bin_and, bin_or, bin_xor, toV_int, toV_bool, toV_string, un_neg, un_not, bin_str_eql, bin_str_neq, bin_str_lss, bin_str_leq, bin_str_gtr, bin_str_geq, aget_aput, length_aput, aput_none, Nat.reduceEqDiff, Nat.reduceLT, Nat.reduceAdd, ↓reduceIte, reduceCtorEq, Bool.not_false, Bool.not_true, Bool.true_or, true_and, Option.bind_some, Option.map_some, List.nil_append, List.cons_append, resA, resA1, resVal, Option.getD_some, Nat.reduceLeDiff, bnd_some, yieldA_eq, yldOf_some, boolOf_bool, boolOf_undef, gt_none, List.getElem?_toArray, List.getElem?_cons_succ, List.getElem?_cons_zero, bq_true, bq_false, decide_true, decide_false, Option.toList_none, Option.toList_some, List.head?_cons, List.head?_nil, nb_cfg, not_false_eq_true, cv_some, pm_some, pm_none, plainA_v, plain_bool, plain_int, plain_str, Bool.false_eq_true, if_false]
        rw [← heq, hx]
        exact ⟨rfl, rfl⟩
  · refine ⟨0, k0, 0, rfl, ?_, rfl, ?_, ?_, ?_, by decide, hk, rfl⟩
    all_goals simp -dsimp only [hn, h0, wt_seq, wt_block, wt_region, wt_cond, wt_skip, wt_ret, wt_exit, wst_nil, wst_cons, wst_guard, andThen_normal, andThen_ret, andThen_exit, leave_normal, leave_ret, leave_exit, EndsA_ret, EndsA_normal, ot_move, ot_assign, ot_pick, ot_binOp, ot_unOp, ot_convert, ot_field, ot_index, ot_indexAddr, ot_fieldAddr, ot_slice, ot_build, ot_buildSlice, ot_extract, ot_makeInterface, ot_makeFunc, ot_nilCheck, ot_call, ot_len, ot_append, ot_box, ot_load, ot_store, ot_makeSlice, ot_alloc, ot_sliceData, ot_unsafeString, ct_bool, ct_true, ct_false, bt_some, gt_some, aval_tmp, aval_int, aval_bool, aval_str, aval_slice, aval_nilPointer, aval_nilIface, aval_func, aval_global, avals, apairs, bareP, AV.bare, AV.bares, bin_lss, bin_leq, bin_gtr, bin_geq, bin_eql, bin_neq, bin_add, bin_sub, bin_mul, bin_and, bin_or, bin_xor, toV_int, toV_bool, toV_string, un_neg, un_not, bin_str_eql, bin_str_neq, bin_str_lss, bin_str_leq, bin_str_gtr, bin_str_geq, aget_aput, length_aput, aput_none, Nat.reduceEqDiff, Nat.reduceLT, Nat.reduceAdd, ↓reduceIte, reduceCtorEq, Bool.not_false, Bool.not_true, Bool.true_or, true_and, Option.bind_some, Option.map_some, List.nil_append, List.cons_append, resA, resA1, resVal, Option.getD_some, Nat.reduceLeDiff, bnd_some, yieldA_eq, yldOf_some, boolOf_bool, boolOf_undef, gt_none, List.getElem?_toArray, List.getElem?_cons_succ, List.getElem?_cons_zero, bq_true, bq_false, decide_true, decide_false, Option.toList_none, Option.toList_some, List.head?_cons, List.head?_nil, nb_cfg, not_false_eq_true, cv_some, pm_some, pm_none, plainA_v, plain_bool, plain_int, plain_str, Bool.false_eq_true, if_false]
    all_goals rfl
end Go.Proofs.YtjejeijldllloaaDoor

/- Chapter 1: the second half of a pair. -/
namespace Go.Proofs.YtjejeijldllloaaDoor
open Go.AM
theorem hexF_pos (s : List UInt8) : ∀ (i k n : Nat), k ≤ s.length → (hexF s i k n).2 ≤ s.length
  | 0, k, n, h => h
  | i + 1, k, n, h => by
    simp only [hexF]
    split
    · exact h
    · rename_i c hc
      have hl : k < s.length := (List.getElem?_eq_some_iff.1 hc).1
      split
      · show k + 1 ≤ _; omega
      · exact hexF_pos s i _ _ hl
theorem digV_lt {c : UInt8} {d : Nat} (h : digV c = some d) : d < 16 := by
  unfold digV at h
  split at h
  · injection h with h; omega
  · split at h
    · injection h with h; omega
    · split at h
      · injection h with h; omega
      · cases h
theorem hexF_lt (s : List UInt8) : ∀ (i k n m : Nat), (hexF s i k n).1 = some m → m < (n + 1) * 16 ^ i
  | 0, k, n, m, h => by
    simp only [hexF, Option.some.injEq] at h
    omega
  | i + 1, k, n, m, h => by
    simp only [hexF] at h
    split at h
    · cases h
    · split at h
      · cases h
      · rename_i d hd
        have h1 := hexF_lt s i _ _ _ h
        have h2 := digV_lt hd
        have h3 : (n * 16 + d + 1) * 16 ^ i ≤ ((n + 1) * 16) * 16 ^ i := Nat.mul_le_mul_right _ (by omega)
        rw [Nat.pow_succ, Nat.mul_comm (16 ^ i) 16, ← Nat.mul_assoc]
        omega
noncomputable def hexT := relT 121 Rd.ok (fun _ => [.ptr 0 0 0 0]) Rd.H (fun p => hexV (hexF p.s 4 p.k 0).1) (fun p => rdH p.s (hexF p.s 4 p.k 0).2 p.x p.tk)
theorem hexT_ok : CallsOk (cfgP fun _ => none) hexT := relT_ok (fns_cfg Tryd.func121 rfl) rfl fun p h => hex_ok p.s p.k p.x p.tk h.1 h.2
noncomputable def nhT := orT nextT hexT
theorem nhT_ok : CallsOk (cfgP fun _ => none) nhT := orT_ok nextT_ok hexT_ok
theorem nhT_next {s : List UInt8} {k : Nat} {x : AV} {tk : List (Nat × TypeId)} (h : s.length < 2 ^ 62) (hk : k ≤ s.length) : nhT 90 [.ptr 0 0 0 0] (rdH s k x tk) = some (nextV s k, rdH s (nextK s k) x tk) := orT_l (nextT_eq h hk)
theorem nhT_hex {s : List UInt8} {k : Nat} {x : AV} {tk : List (Nat × TypeId)} (h : s.length < 2 ^ 62) (hk : k ≤ s.length) : nhT 121 [.ptr 0 0 0 0] (rdH s k x tk) = some (hexV (hexF s 4 k 0).1, rdH s (hexF s 4 k 0).2 x tk) :=
  orT_r (relT_none (by decide)) (relT_eq (f0 := 121) (X := Rd.ok) (a := fun _ => [.ptr 0 0 0 0]) (h := Rd.H) (r := fun p => hexV (hexF p.s 4 p.k 0).1) (h' := fun p => rdH p.s (hexF p.s 4 p.k 0).2 p.x p.tk) (fun p q _ _ _ h => by rw [Rd.inj h]; exact ⟨rfl, rfl⟩) ⟨s, k, x, tk⟩ ⟨h, hk⟩)
theorem nextK_le {s : List UInt8} {k : Nat} (h : k ≤ s.length) : nextK s k ≤ s.length := by
  unfold nextK
  split <;> omega
theorem nextV_some {s : List UInt8} {k : Nat} {c : UInt8} (h : s[k]? = some c) : nextV s k = .tup [.v (.int .u8 c.toNat), .v (.bool true)] ∧ nextK s k = k + 1 := by
  refine ⟨by unfold nextV; rw [h], if_pos (List.getElem?_eq_some_iff.1 h).1⟩
theorem nextV_none {s : List UInt8} {k : Nat} (h : s[k]? = none) : nextV s k = .tup [.v (.int .u8 0), .v (.bool false)] ∧ nextK s k = k := by
  refine ⟨by unfold nextV; rw [h], if_neg (by rw [List.getElem?_eq_none_iff] at h; omega)⟩
/-- What is behind the first half: the code point, and where it stops. -/
def halfF (s : List UInt8) (k n : Nat) : Option Nat × Nat :=
  if s[k]? = some 92 ∧ s[k + 1]? = some 117 then
    (match (hexF s 4 (k + 2) 0).1 with
      | some m => if m < 56320 ∨ 57344 ≤ m then none else some (65536 + (n - 55296) * 1024 + (m - 56320))
      | none => none, (hexF s 4 (k + 2) 0).2)
  else (none, nextK s (nextK s k))
section
variable {prim : FuncId → Option (List AV → Option AV)}
theorem hshl {n : Nat} {t : TypeId} {x y : Operand} (hn : n < 1024) : binA (cfgP prim) .shl t x y (.v (.int .i32 (n : Int))) (.v (.int .u64 10)) = some (.v (.int .i32 ((n * 1024 : Nat) : Int))) := by
  rw [bin_shl (by decide), show ((n : Int) * 2 ^ min (10 : Int).toNat IntKind.i32.bits) = ((n * 1024 : Nat) : Int) from by
    rw [show min (10 : Int).toNat IntKind.i32.bits = 10 from by decide, show ((2 : Int) ^ 10) = 1024 from by decide]; omega, wr32 (by omega) (by omega)]
end
set_option maxHeartbeats 4000000 in
set_option maxRecDepth 100000 in
theorem half_ok (s : List UInt8) (k : Nat) (x : AV) (tk : List (Nat × TypeId)) (n : Nat) (hs : s.length < 2 ^ 62) (hk : k ≤ s.length) (h1 : 55296 ≤ n) (h2 : n < 56320) :
    CallOk (cfgP fun _ => none) 122 [.ptr 0 0 0 0, .v (.int .i32 (n : Int))] (rdH s k x tk) (hexV (halfF s k n).1) (rdH s (halfF s k n).2 x tk) := by
  have q1 := nhT_next (x := x) (tk := tk) hs hk
  have q2 := nhT_next (x := x) (tk := tk) hs (nextK_le hk)
  cases e1 : s[k]? with
  | none =>
    obtain ⟨v1, k1⟩ := nextV_none e1
    have hf : halfF s k n = (none, k) := by
      unfold halfF
      rw [if_neg (by rw [e1]; rintro ⟨h, _⟩; cases h), k1, k1]
    rw [k1] at q2
    rw [v1, k1] at q1
    rw [v1, k1] at q2
    rw [hf]
    clear h1 h2
    refine call_of_wk (call := nhT) (fn := Tryd.f122) (rs := [.tmp 4, .tmp 5]) cokN nhT_ok (fns_cfg Tryd.func122 rfl) rfl rfl ?_
    intro env hl0 hargs
    have hn : env.length = 57 := hl0
    have h0 := hargs 0 _ rfl
    have h1 := hargs 1 _ rfl
    clear hargs hl0
    refine wkT_of ?_
    simp -dsimp only [hn, h0, h1, ct_own (C := cfgP fun _ => none) (f := 90) rfl rfl, q1, q2, Bool.not_false, Bool.not_true, wt_seq, wt_block, wt_region, wt_cond, wt_skip, wt_ret, wt_exit, wst_nil, wst_cons, wst_guard, andThen_normal, andThen_ret, andThen_exit, leave_normal, leave_ret, leave_exit, EndsA_ret, EndsA_normal, ot_move, ot_assign, ot_pick, ot_binOp, ot_unOp, ot_convert, ot_field, ot_index, ot_indexAddr, ot_fieldAddr, ot_slice, ot_build, ot_buildSlice, ot_extract, ot_makeInterface, ot_makeFunc, ot_nilCheck, ot_call, ot_len, ot_append, ot_box, ot_load, ot_store, ot_makeSlice, ot_alloc, ot_sliceData, ot_unsafeString, ct_bool, ct_true, ct_false, bt_some, gt_some, aval_tmp, aval_int, aval_bool, aval_str, aval_slice, aval_nilPointer, aval_nilIface, aval_func, aval_global, avals, apairs, bareP, AV.bare, AV.bares, bin_lss, bin_leq, bin_gtr, bin_geq, bin_eql, bin_neq, bin_add, bin_sub, bin_mul, bin_and, bin_or, bin_xor, toV_int, toV_bool, toV_string, un_neg, un_not, bin_str_eql, bin_str_neq, bin_str_lss, bin_str_leq, bin_str_gtr, bin_str_geq, aget_aput, length_aput, aput_none, Nat.reduceEqDiff, Nat.reduceLT, Nat.reduceAdd, ↓reduceIte, reduceCtorEq, Bool.not_false, Bool.not_true, Bool.true_or, true_and, Option.bind_some, Option.map_some, List.nil_append, List.cons_append, resA, resA1, resVal, Option.getD_some, Nat.reduceLeDiff, bnd_some, yieldA_eq, yldOf_some, boolOf_bool, boolOf_undef, gt_none, List.getElem?_toArray, List.getElem?_cons_succ, List.getElem?_cons_zero, bq_true, bq_false, decide_true, decide_false, Option.toList_none, Option.toList_some, List.head?_cons, List.head?_nil, nb_cfg, not_false_eq_true, cv_some, pm_some, pm_none, plainA_v, plain_bool, plain_int, plain_str, Bool.false_eq_true, if_false]
    exact ⟨rfl, trivial⟩
  | some a =>
    obtain ⟨v1, k1⟩ := nextV_some e1
    rw [k1] at q2
    rw [v1, k1] at q1
    have hkl : k < s.length := (List.getElem?_eq_some_iff.1 e1).1
    cases e2 : s[k + 1]? with
    | none =>
      obtain ⟨v2, k2⟩ := nextV_none e2
      rw [v2, k2] at q2
      have hf : halfF s k n = (none, k + 1) := by
        unfold halfF
        rw [if_neg (by rw [e2]; rintro ⟨_, h⟩; cases h), k1, k2]
      rw [hf]
      clear h1 h2
      refine call_of_wk (call := nhT) (fn := Tryd.f122) (rs := [.tmp 4, .tmp 5]) cokN nhT_ok (fns_cfg Tryd.func122 rfl) rfl rfl ?_
      intro env hl0 hargs
      have hn : env.length = 57 := hl0
      have h0 := hargs 0 _ rfl
      have h1 := hargs 1 _ rfl
      clear hargs hl0
      refine wkT_of ?_
      simp -dsimp only [hn, h0, h1, ct_own (C := cfgP fun _ => none) (f := 90) rfl rfl, q1, q2, Bool.not_false, Bool.not_true, wt_seq, wt_block, wt_region, wt_cond, wt_skip, wt_ret, wt_exit, wst_nil, wst_cons, wst_guard, andThen_normal, andThen_ret, andThen_exit, leave_normal, leave_ret, leave_exit, EndsA_ret, EndsA_normal, ot_move, ot_assign, ot_pick, ot_binOp, ot_unOp, ot_convert, ot_field, ot_index, ot_indexAddr, ot_fieldAddr, ot_slice, ot_build, ot_buildSlice, ot_extract, ot_makeInterface, ot_makeFunc, ot_nilCheck, ot_call, ot_len, ot_append, ot_box, ot_load, ot_store, ot_makeSlice, ot_alloc, ot_sliceData, ot_unsafeString, ct_bool, ct_true, ct_false, bt_some, gt_some, aval_tmp, aval_int, aval_bool, aval_str, aval_slice, aval_nilPointer, aval_nilIface, aval_func, aval_global, avals, apairs, bareP, AV.bare, AV.bares, bin_lss, bin_leq, bin_gtr, bin_geq, bin_eql, bin_neq, bin_add, bin_sub, bin_mul, bin_and, bin_or, bin_xor, toV_int, toV_bool, toV_string, un_neg, un_not, bin_str_eql, bin_str_neq, bin_str_lss, bin_str_leq, bin_str_gtr, bin_str_geq, aget_aput, length_aput, aput_none, Nat.reduceEqDiff, Nat.reduceLT, Nat.reduceAdd, ↓reduceIte, reduceCtorEq, Bool.not_false, Bool.not_true, Bool.true_or, true_and, Option.bind_some, Option.map_some, List.nil_append, List.cons_append, resA, resA1, resVal, Option.getD_some, Nat.reduceLeDiff, bnd_some, yieldA_eq, yldOf_some, boolOf_bool, boolOf_undef, gt_none, List.getElem?_toArray, List.getElem?_cons_succ, List.getElem?_cons_zero, bq_true, bq_false, decide_true, decide_false, Option.toList_none, Option.toList_some, List.head?_cons, List.head?_nil, nb_cfg, not_false_eq_true, cv_some, pm_some, pm_none, plainA_v, plain_bool, plain_int, plain_str, Bool.false_eq_true, if_false]
      exact ⟨rfl, trivial⟩
    | some b =>
      obtain ⟨v2, k2⟩ := nextV_some e2
      rw [v2, k2] at q2
      have hkl2 : k + 1 < s.length := (List.getElem?_eq_some_iff.1 e2).1
      by_cases ha : a.toNat = 92
      · have g1 : (!decide ((a.toNat : Int) = 92)) = false := by simp; omega
        obtain rfl : a = 92 := UInt8.toNat_inj.1 ha
        by_cases hb : b.toNat = 117
        · have g2 : (!decide ((b.toNat : Int) = 117)) = false := by simp; omega
          obtain rfl : b = 117 := UInt8.toNat_inj.1 hb
          have q3 := nhT_hex (x := x) (tk := tk) hs (k := k + 1 + 1) (by omega)
          have hf : halfF s k n = (match (hexF s 4 (k + 1 + 1) 0).1 with
      | some m => if m < 56320 ∨ 57344 ≤ m then none else some (65536 + (n - 55296) * 1024 + (m - 56320))
      | none => none, (hexF s 4 (k + 1 + 1) 0).2) := by
            unfold halfF
            rw [if_pos ⟨e1, e2⟩]
          rw [hf]
          obtain ⟨j, hj⟩ : ∃ j, (hexF s 4 (k + 1 + 1) 0).2 = j := ⟨_, rfl⟩
          rw [hj] at q3 ⊢
          cases hx : (hexF s 4 (k + 1 + 1) 0).1 with
          | none =>
            rw [hx] at q3
            simp only [hexV] at q3
            clear h1 h2
            refine call_of_wk (call := nhT) (fn := Tryd.f122) (rs := [.tmp 4, .tmp 5]) cokN nhT_ok (fns_cfg Tryd.func122 rfl) rfl rfl ?_
            intro env hl0 hargs
            have hn : env.length = 57 := hl0
            have h0 := hargs 0 _ rfl
            have h1 := hargs 1 _ rfl
            clear hargs hl0
            refine wkT_of ?_
            simp -dsimp only [hn, h0, h1, ct_own (C := cfgP fun _ => none) (f := 90) rfl rfl, ct_own (C := cfgP fun _ => none) (f := 121) rfl rfl, q1, q2, q3, g1, g2, Bool.not_false, Bool.not_true, wt_seq, wt_block, wt_region, wt_cond, wt_skip, wt_ret, wt_exit, wst_nil, wst_cons, wst_guard, andThen_normal, andThen_ret, andThen_exit, leave_normal, leave_ret, leave_exit, EndsA_ret, EndsA_normal, ot_move, ot_assign, ot_pick, ot_binOp, ot_unOp, ot_convert, ot_field, ot_index, ot_indexAddr, ot_fieldAddr, ot_slice, ot_build, ot_buildSlice, ot_extract, ot_makeInterface, ot_makeFunc, ot_nilCheck, ot_call, ot_len, ot_append, ot_box, ot_load, ot_store, ot_makeSlice, ot_alloc, ot_sliceData, ot_unsafeString, ct_bool, ct_true, ct_false, bt_some, gt_some, aval_tmp, aval_int, aval_bool, aval_str, aval_slice, aval_nilPointer, aval_nilIface, aval_func, aval_global, avals, apairs, bareP, AV.bare, AV.bares, bin_lss, bin_leq, bin_gtr, bin_geq, bin_eql, bin_neq, bin_add, bin_sub, bin_mul, bin_and, bin_or, bin_xor, toV_int, toV_bool, toV_string, un_neg, un_not, bin_str_eql, bin_str_neq, bin_str_lss, bin_str_leq, bin_str_gtr, bin_str_geq, aget_aput, length_aput, aput_none, Nat.reduceEqDiff, Nat.reduceLT, Nat.reduceAdd, ↓reduceIte, reduceCtorEq, Bool.not_false, Bool.not_true, Bool.true_or, true_and, Option.bind_some, Option.map_some, List.nil_append, List.cons_append, resA, resA1, resVal, Option.getD_some, Nat.reduceLeDiff, bnd_some, yieldA_eq, yldOf_some, boolOf_bool, boolOf_undef, gt_none, List.getElem?_toArray, List.getElem?_cons_succ, List.getElem?_cons_zero, bq_true, bq_false, decide_true, decide_false, Option.toList_none, Option.toList_some, List.head?_cons, List.head?_nil, nb_cfg, not_false_eq_true, cv_some, pm_some, pm_none, plainA_v, plain_bool, plain_int, plain_str, Bool.false_eq_true, if_false]
            exact ⟨rfl, trivial⟩
          | some m =>
            have hm := hexF_lt s 4 _ _ _ hx
            rw [hx] at q3
            simp only [hexV] at q3
            by_cases hl : m < 56320
            · have g3 : decide ((m : Int) < 56320) = true := decide_eq_true (by omega)
              simp only [hl, true_or, if_true]
              clear h1 h2
              refine call_of_wk (call := nhT) (fn := Tryd.f122) (rs := [.tmp 4, .tmp 5]) cokN nhT_ok (fns_cfg Tryd.func122 rfl) rfl rfl ?_
              intro env hl0 hargs
              have hn : env.length = 57 := hl0
              have h0 := hargs 0 _ rfl
              have h1 := hargs 1 _ rfl
              clear hargs hl0
              refine wkT_of ?_
              simp -dsimp only [hn, h0, h1, ct_own (C := cfgP fun _ => none) (f := 90) rfl rfl, ct_own (C := cfgP fun _ => none) (f := 121) rfl rfl, q1, q2, q3, g1, g2, g3, Bool.not_false, Bool.not_true, wt_seq, wt_block, wt_region, wt_cond, wt_skip, wt_ret, wt_exit, wst_nil, wst_cons, wst_guard, andThen_normal, andThen_ret, andThen_exit, leave_normal, leave_ret, leave_exit, EndsA_ret, EndsA_normal, ot_move, ot_assign, ot_pick, ot_binOp, ot_unOp, ot_convert, ot_field, ot_index, ot_indexAddr, ot_fieldAddr, ot_slice, ot_build, ot_buildSlice, ot_extract, ot_makeInterface, ot_makeFunc, ot_nilCheck, ot_call, ot_len, ot_append, ot_box, ot_load, ot_store, ot_makeSlice, ot_alloc, ot_sliceData, ot_unsafeString, ct_bool, ct_true, ct_false, bt_some, gt_some, aval_tmp, aval_int, aval_bool, aval_str, aval_slice, aval_nilPointer, aval_nilIface, aval_func, aval_global, avals, apairs, bareP, AV.bare, AV.bares, bin_lss, bin_leq, bin_gtr, bin_geq, bin_eql, bin_neq, bin_add, bin_sub, bin_mul, bin_and, bin_or, bin_xor, toV_int, toV_bool, toV_string, un_neg, un_not, bin_str_eql, bin_str_neq, bin_str_lss, bin_str_leq, bin_str_gtr, bin_str_geq, aget_aput, length_aput, aput_none, Nat.reduceEqDiff, Nat.reduceLT, Nat.reduceAdd, ↓reduceIte, reduceCtorEq, Bool.not_false, Bool.not_true, Bool.true_or, true_and, Option.bind_some, Option.map_some, List.nil_append, List.cons_append, resA, resA1, resVal, Option.getD_some, Nat.reduceLeDiff, bnd_some, yieldA_eq, yldOf_some, boolOf_bool, boolOf_undef, gt_none, List.getElem?_toArray, List.getElem?_cons_succ, List.getElem?_cons_zero, bq_true, bq_false, decide_true, decide_false, Option.toList_none, Option.toList_some, List.head?_cons, List.head?_nil, nb_cfg, not_false_eq_true, cv_some, pm_some, pm_none, plainA_v, plain_bool, plain_int, plain_str, Bool.false_eq_true, if_false]
              exact ⟨rfl, trivial⟩
            · have g3 : decide ((m : Int) < 56320) = false := decide_eq_false (by omega)
              by_cases hu : 57344 ≤ m
              · have g4 : decide ((57344 : Int) ≤ (m : Int)) = true := decide_eq_true (by omega)
                simp only [hu, or_true, if_true]
                clear h1 h2
                refine call_of_wk (call := nhT) (fn := Tryd.f122) (rs := [.tmp 4, .tmp 5]) cokN nhT_ok (fns_cfg Tryd.func122 rfl) rfl rfl ?_
                intro env hl0 hargs
                have hn : env.length = 57 := hl0
                have h0 := hargs 0 _ rfl
                have h1 := hargs 1 _ rfl
                clear hargs hl0
                refine wkT_of ?_
                simp -dsimp only [hn, h0, h1, ct_own (C := cfgP fun _ => none) (f := 90) rfl rfl, ct_own (C := cfgP fun _ => none) (f := 121) rfl rfl, q1, q2, q3, g1, g2, g3, g4, Bool.not_false, Bool.not_true, wt_seq, wt_block, wt_region, wt_cond, wt_skip, wt_ret, wt_exit, wst_nil, wst_cons, wst_guard, andThen_normal, andThen_ret, andThen_exit, leave_normal, leave_ret, leave_exit, EndsA_ret, EndsA_normal, ot_move, ot_assign, ot_pick, ot_binOp, ot_unOp, ot_convert, ot_field, ot_index, ot_indexAddr, ot_fieldAddr, ot_slice, ot_build, ot_buildSlice, ot_extract, ot_makeInterface, ot_makeFunc, ot_nilCheck, ot_call, ot_len, ot_append, ot_box, ot_load, ot_store, ot_makeSlice, ot_alloc, ot_sliceData, ot_unsafeString, ct_bool, ct_true, ct_false, bt_some, gt_some, aval_tmp, aval_int, aval_bool, aval_str, aval_slice, aval_nilPointer, aval_nilIface, aval_func, aval_global, avals, apairs, bareP, AV.bare, AV.bares, bin_lss, bin_leq, bin_gtr, bin_geq, bin_eql, bin_neq, bin_add, bin_sub, bin_mul, bin_and, bin_or, bin_xor, toV_int, toV_bool, toV_string, un_neg, un_not, bin_str_eql, bin_str_neq, bin_str_lss, bin_str_leq, bin_str_gtr, bin_str_geq, aget_aput, length_aput, aput_none, Nat.reduceEqDiff, Nat.reduceLT, Nat.reduceAdd, ↓reduceIte, reduceCtorEq, Bool.not_false, Bool.not_true, Bool.true_or, true_and, Option.bind_some, Option.map_some, List.nil_append, List.cons_append, resA, resA1, resVal, Option.getD_some, Nat.reduceLeDiff, bnd_some, yieldA_eq, yldOf_some, boolOf_bool, boolOf_undef, gt_none, List.getElem?_toArray, List.getElem?_cons_succ, List.getElem?_cons_zero, bq_true, bq_false, decide_true, decide_false, Option.toList_none, Option.toList_some, List.head?_cons, List.head?_nil, nb_cfg, not_false_eq_true, cv_some, pm_some, pm_none, plainA_v, plain_bool, plain_int, plain_str, Bool.false_eq_true, if_false]
                exact ⟨rfl, trivial⟩
              · have g4 : decide ((57344 : Int) ≤ (m : Int)) = false := decide_eq_false (by omega)
                show CallOk _ _ _ _ (hexV (if m < 56320 ∨ 57344 ≤ m then none else some (65536 + (n - 55296) * 1024 + (m - 56320)))) (rdH s j x tk)
                rw [if_neg (show ¬ (m < 56320 ∨ 57344 ≤ m) by omega)]
                obtain ⟨u, hu'⟩ : ∃ u, n - 55296 = u := ⟨_, rfl⟩
                have hul : u < 1024 := by omega
                have a1 : IntKind.i32.wrap ((n : Int) - 55296) = (u : Int) := by
                  rw [show ((n : Int) - 55296) = (u : Int) by omega]; exact wr32 (by omega) (by omega)
                have a2 : IntKind.i32.wrap (65536 + ((u * 1024 : Nat) : Int)) = ((65536 + u * 1024 : Nat) : Int) := by
                  rw [show (65536 + ((u * 1024 : Nat) : Int)) = ((65536 + u * 1024 : Nat) : Int) by omega]; exact wr32 (by omega) (by omega)
                have a3 : IntKind.i32.wrap (((65536 + u * 1024 : Nat) : Int) + (m : Int)) = ((65536 + u * 1024 + m : Nat) : Int) := by
                  rw [show (((65536 + u * 1024 : Nat) : Int) + (m : Int)) = ((65536 + u * 1024 + m : Nat) : Int) by omega]; exact wr32 (by omega) (by omega)
                have a4 : IntKind.i32.wrap (((65536 + u * 1024 + m : Nat) : Int) - 56320) = ((65536 + u * 1024 + (m - 56320) : Nat) : Int) := by
                  rw [show (((65536 + u * 1024 + m : Nat) : Int) - 56320) = ((65536 + u * 1024 + (m - 56320) : Nat) : Int) by omega]; exact wr32 (by omega) (by omega)
                rw [hu']
                clear h1 h2 hu'
                refine call_of_wk (call := nhT) (fn := Tryd.f122) (rs := [.tmp 4, .tmp 5]) cokN nhT_ok (fns_cfg Tryd.func122 rfl) rfl rfl ?_
                intro env hl0 hargs
                have hn : env.length = 57 := hl0
                have h0 := hargs 0 _ rfl
                have h1 := hargs 1 _ rfl
                clear hargs hl0
                refine wkT_of ?_
                simp -dsimp only [hn, h0, h1, ct_own (C := cfgP fun _ => none) (f := 90) rfl rfl, ct_own (C := cfgP fun _ => none) (f := 121) rfl rfl, q1, q2, q3, g1, g2, g3, g4, a1, hshl hul, a2, a3, a4, Bool.not_false, Bool.not_true, wt_seq, wt_block, wt_region, wt_cond, wt_skip, wt_ret, wt_exit, wst_nil, wst_cons, wst_guard, andThen_normal, andThen_ret, andThen_exit, leave_normal, leave_ret, leave_exit, EndsA_ret, EndsA_normal, ot_move, ot_assign, ot_pick, ot_binOp, ot_unOp, ot_convert, ot_field, ot_index, ot_indexAddr, ot_fieldAddr, ot_slice, ot_build, ot_buildSlice, ot_extract, ot_makeInterface, ot_makeFunc, ot_nilCheck, ot_call, ot_len, ot_append, ot_box, ot_load, ot_store, ot_makeSlice, ot_alloc, ot_sliceData, ot_unsafeString, ct_bool, ct_true, ct_false, bt_some, gt_some, aval_tmp, aval_int, aval_bool, aval_str, aval_slice, aval_nilPointer, aval_nilIface, aval_func, aval_global, avals, apairs, bareP, AV.bare, AV.bares, bin_lss, bin_leq, bin_gtr, bin_geq, bin_eql, bin_neq, bin_add, bin_sub, bin_mul, bin_and, bin_or, bin_xor, toV_int, toV_bool, toV_string, un_neg, un_not, bin_str_eql, bin_str_neq, bin_str_lss, bin_str_leq, bin_str_gtr, bin_str_geq, aget_aput, length_aput, aput_none, Nat.reduceEqDiff, Nat.reduceLT, Nat.reduceAdd, ↓reduceIte, reduceCtorEq, Bool.not_false, Bool.not_true, Bool.true_or, true_and, Option.bind_some, Option.map_some, List.nil_append, List.cons_append, resA, resA1, resVal, Option.getD_some, Nat.reduceLeDiff, bnd_some, yieldA_eq, yldOf_some, boolOf_bool, boolOf_undef, gt_none, List.getElem?_toArray, List.getElem?_cons_succ, List.getElem?_cons_zero, bq_true, bq_false, decide_true, decide_false, Option.toList_none, Option.toList_some, List.head?_cons, List.head?_nil, nb_cfg, not_false_eq_true, cv_some, pm_some, pm_none, plainA_v, plain_bool, plain_int, plain_str, Bool.false_eq_true, if_false]
                exact ⟨rfl, trivial⟩
        · have g2 : (!decide ((b.toNat : Int) = 117)) = true := by simp; omega
          have hf : halfF s k n = (none, k + 1 + 1) := by
            unfold halfF
            rw [if_neg (by rw [e2]; rintro ⟨_, h⟩; injection h with h; subst h; exact hb rfl), k1, k2]
          rw [hf]
          clear h1 h2
          refine call_of_wk (call := nhT) (fn := Tryd.f122) (rs := [.tmp 4, .tmp 5]) cokN nhT_ok (fns_cfg Tryd.func122 rfl) rfl rfl ?_
          intro env hl0 hargs
          have hn : env.length = 57 := hl0
          have h0 := hargs 0 _ rfl
          have h1 := hargs 1 _ rfl
          clear hargs hl0
          refine wkT_of ?_
          simp -dsimp only [hn, h0, h1, ct_own (C := cfgP fun _ => none) (f := 90) rfl rfl, q1, q2, g1, g2, Bool.not_false, Bool.not_true, wt_seq, wt_block, wt_region, wt_cond, wt_skip, wt_ret, wt_exit, wst_nil, wst_cons, wst_guard, andThen_normal, andThen_ret, andThen_exit, leave_normal, leave_ret, leave_exit, EndsA_ret, EndsA_normal, ot_move, ot_assign, ot_pick, ot_binOp, ot_unOp, ot_convert, ot_field, ot_index, ot_indexAddr, ot_fieldAddr, ot_slice, ot_build, ot_buildSlice, ot_extract, ot_makeInterface, ot_makeFunc, ot_nilCheck, ot_call, ot_len, ot_append, ot_box, ot_load, ot_store, ot_makeSlice, ot_alloc, ot_sliceData, ot_unsafeString, ct_bool, ct_true, ct_false, bt_some, gt_some, aval_tmp, aval_int, aval_bool, aval_str, aval_slice, aval_nilPointer, aval_nilIface, aval_func, aval_global, avals, apairs, bareP, AV.bare, AV.bares, bin_lss, bin_leq, bin_gtr, bin_geq, bin_eql, bin_neq, bin_add, bin_sub, bin_mul, bin_and, bin_or, bin_xor, toV_int, toV_bool, toV_string, un_neg, un_not, bin_str_eql, bin_str_neq, bin_str_lss, bin_str_leq, bin_str_gtr, bin_str_geq, aget_aput, length_aput, aput_none, Nat.reduceEqDiff, Nat.reduceLT, Nat.reduceAdd, ↓reduceIte, reduceCtorEq, Bool.not_false, Bool.not_true, Bool.true_or, true_and, Option.bind_some, Option.map_some, List.nil_append, List.cons_append, resA, resA1, resVal, Option.getD_some, Nat.reduceLeDiff, bnd_some, yieldA_eq, yldOf_some, boolOf_bool, boolOf_undef, gt_none, List.getElem?_toArray, List.getElem?_cons_succ, List.getElem?_cons_zero, bq_true, bq_false, decide_true, decide_false, Option.toList_none, Option.toList_some, List.head?_cons, List.head?_nil, nb_cfg, not_false_eq_true, cv_some, pm_some, pm_none, plainA_v, plain_bool, plain_int, plain_str, Bool.false_eq_true, if_false]
          exact ⟨rfl, trivial⟩
      · have g1 : (!decide ((a.toNat : Int) = 92)) = true := by simp; omega
        have hf : halfF s k n = (none, k + 1 + 1) := by
          unfold halfF
          rw [if_neg (by rw [e1]; rintro ⟨h, _⟩; injection h with h; subst h; exact ha rfl), k1, k2]
        rw [hf]
        clear h1 h2
        refine call_of_wk (call := nhT) (fn := Tryd.f122) (rs := [.tmp 4, .tmp 5]) cokN nhT_ok (fns_cfg Tryd.func122 rfl) rfl rfl ?_
        intro env hl0 hargs
        have hn : env.length = 57 := hl0
        have h0 := hargs 0 _ rfl
        have h1 := hargs 1 _ rfl
        clear hargs hl0
        refine wkT_of ?_
        simp -dsimp only [hn, h0, h1, ct_own (C := cfgP fun _ => none) (f := 90) rfl rfl, q1, q2, g1, Bool.not_false, Bool.not_true, wt_seq, wt_block, wt_region, wt_cond, wt_skip, wt_ret, wt_exit, wst_nil, wst_cons, wst_guard, andThen_normal, andThen_ret, andThen_exit, leave_normal, leave_ret, leave_exit, EndsA_ret, EndsA_normal, ot_move, ot_assign, ot_pick, ot_binOp, ot_unOp, ot_convert, ot_field, ot_index, ot_indexAddr, ot_fieldAddr, ot_slice, ot_build, ot_buildSlice, ot_extract, ot_makeInterface, ot_makeFunc, ot_nilCheck, ot_call, ot_len, ot_append, ot_box, ot_load, ot_store, ot_makeSlice, ot_alloc, ot_sliceData, ot_unsafeString, ct_bool, ct_true, ct_false, bt_some, gt_some, aval_tmp, aval_int, aval_bool, aval_str, aval_slice, aval_nilPointer, aval_nilIface, aval_func, aval_global, avals, apairs, bareP, AV.bare, AV.bares, bin_lss, bin_leq, bin_gtr, bin_geq, bin_eql, bin_neq, bin_add, bin_sub, bin_mul, bin_and, bin_or, bin_xor, toV_int, toV_bool, toV_string, un_neg, un_not, bin_str_eql, bin_str_neq, bin_str_lss, bin_str_leq, bin_str_gtr, bin_str_geq, aget_aput, length_aput, aput_none, Nat.reduceEqDiff, Nat.reduceLT, Nat.reduceAdd, ↓reduceIte, reduceCtorEq, Bool.not_false, Bool.not_true, Bool.true_or, true_and, Option.bind_some, Option.map_some, List.nil_append, List.cons_append, resA, resA1, resVal, Option.getD_some, Nat.reduceLeDiff, bnd_some, yieldA_eq, yldOf_some, boolOf_bool, boolOf_undef, gt_none, List.getElem?_toArray, List.getElem?_cons_succ, List.getElem?_cons_zero, bq_true, bq_false, decide_true, decide_false, Option.toList_none, Option.toList_some, List.head?_cons, List.head?_nil, nb_cfg, not_false_eq_true, cv_some, pm_some, pm_none, plainA_v, plain_bool, plain_int, plain_str, Bool.false_eq_true, if_false]
        exact ⟨rfl, trivial⟩
end Go.Proofs.YtjejeijldllloaaDoor

/- Chapter 1: short escapes, both ways: by computing each byte. -/
namespace Go.Proofs.YtjejeijldllloaaDoor
open Go.AM
/-- What a short escape's sign says. -/
def longN (c : Nat) : Option Nat := if c = 98 then some 8 else if c = 116 then some 9 else if c = 110 then some 10 else if c = 102 then some 12 else if c = 114 then some 13 else if c = 34 then some 34 else if c = 92 then some 92 else if c = 47 then some 47 else none
/-- The sign of a short escape; 0: there is none. -/
def shortN (c : Nat) : Nat := if c = 8 then 98 else if c = 9 then 116 else if c = 10 then 110 else if c = 12 then 102 else if c = 13 then 114 else if c = 34 then 34 else if c = 92 then 92 else 0
def longV (c : Nat) : AV := match longN c with
  | some x => .tup [.v (.int .u8 (x : Int)), .v (.bool true)]
  | none => .tup [.v (.int .u8 0), .v (.bool false)]
noncomputable def longB (n : Nat) : Bool := match callA (cfgP fun _ => none) 30 109 [.v (.int .u8 (n : Int))] {} with
  | some (.tup [.v (.int .u8 m), .v (.bool b)], _) => decide (m = ((longN n).getD 0 : Nat)) && (b == (longN n).isSome)
  | _ => false
theorem long_all : (List.range 256).all longB = true := by kernel_rfl
theorem long_ok (n : Nat) (h : n < 256) : PureOk (cfgP fun _ => none) 109 [.v (.int .u8 (n : Int))] (longV n) := by
  have h1 := List.all_eq_true.1 long_all n (List.mem_range.2 h)
  unfold longB at h1
  split at h1
  · rename_i m b H hc
    simp only [Bool.and_eq_true, decide_eq_true_eq, beq_iff_eq] at h1
    obtain ⟨rfl, rfl⟩ := h1
    have e : longV n = .tup [.v (.int .u8 (((longN n).getD 0 : Nat) : Int)), .v (.bool (longN n).isSome)] := by
      unfold longV
      cases longN n <;> rfl
    rw [e]
    exact pureOk_of (n := 4) (((callA_ok cokN 30).ok _ _ _ _ _ hc).2) rfl
  · cases h1
noncomputable def shortB (n : Nat) : Bool := match callA (cfgP fun _ => none) 30 95 [.v (.int .u8 (n : Int))] {} with
  | some (.v (.int .u8 m), _) => decide (m = (shortN n : Nat))
  | _ => false
theorem short_all : (List.range 256).all shortB = true := by kernel_rfl
theorem short_ok (n : Nat) (h : n < 256) : PureOk (cfgP fun _ => none) 95 [.v (.int .u8 (n : Int))] (.v (.int .u8 (shortN n : Nat))) := by
  have h1 := List.all_eq_true.1 short_all n (List.mem_range.2 h)
  unfold shortB at h1
  split at h1
  · rename_i m H hc
    rw [decide_eq_true_eq] at h1
    subst h1
    exact pureOk_of (n := 1) (((callA_ok cokN 30).ok _ _ _ _ _ hc).2) rfl
  · cases h1
def shortV (n : Nat) : AV := .v (.int .u8 (shortN n : Nat))
/-- One byte. -/
def b1P (g : Nat → AV) : List AV → Option AV
  | [.v (.int .u8 n)] => if 0 ≤ n ∧ n < 256 then some (g n.toNat) else none
  | _ => none
theorem b1P_eq {g : Nat → AV} {c : UInt8} : b1P g [.v (.int .u8 (c.toNat : Int))] = some (g c.toNat) := by
  have := UInt8.toNat_lt c
  have h' : (0 : Int) ≤ (c.toNat : Int) ∧ ((c.toNat : Nat) : Int) < 256 := by omega
  simp only [b1P, h', and_self, if_true, Int.toNat_natCast]
theorem b1P_of {g : Nat → AV} {X : List AV → AV → Prop} (h : ∀ n : Nat, n < 256 → X [.v (.int .u8 (n : Int))] (g n)) : ∀ xs r, b1P g xs = some r → X xs r := by
  intro xs r hx
  unfold b1P at hx
  split at hx
  · rename_i n
    split at hx
    · rename_i hn
      injection hx with hx; subst hx
      have := h n.toNat (by omega)
      rwa [show ((n.toNat : Nat) : Int) = n by omega] at this
    · cases hx
  · cases hx
def ul1 : FuncId → Option (List AV → Option AV) := tab [(109, (b1P longV)), (95, (b1P shortV))]
theorem ul1_ok : (cfgP ul1).Ok := cfg_ok (tab_ok ⟨prim_at Tryd.func109 (by kernel_rfl) rfl ((b1P_of long_ok)), prim_at Tryd.func95 (by kernel_rfl) rfl ((b1P_of short_ok)), trivial⟩)
theorem ul1_109 : (cfgP ul1).prim 109 = some (b1P longV) := rfl
theorem ul1_95 : (cfgP ul1).prim 95 = some (b1P shortV) := rfl
end Go.Proofs.YtjejeijldllloaaDoor

/- Chapter 1: AppendRune, of a code point that is no half. -/
namespace Go.Proofs.YtjejeijldllloaaDoor
open Go.AM
def encN (r : Nat) : List Nat := if r ≤ 127 then [r] else if r ≤ 2047 then [192 + r / 64, 128 + r % 64] else if r ≤ 65535 then [224 + r / 4096, 128 + r / 64 % 64, 128 + r % 64] else [240 + r / 262144, 128 + r / 4096 % 64, 128 + r / 64 % 64, 128 + r % 64]
/-- A code point's bytes. -/
def encU (r : Nat) : List UInt8 := (encN r).map UInt8.ofNat
theorem an63 : ∀ n : Fin 256, IntKind.u8.wrap ((BitVec.ofInt IntKind.u8.bits (n.1 : Nat) &&& BitVec.ofInt IntKind.u8.bits 63).toNat : Nat) = ((n.1 % 64 : Nat) : Int) := by decide +kernel
theorem or128 : ∀ n : Fin 64, IntKind.u8.wrap ((BitVec.ofInt IntKind.u8.bits 128 ||| BitVec.ofInt IntKind.u8.bits (n.1 : Nat)).toNat : Nat) = ((128 + n.1 : Nat) : Int) := by decide +kernel
theorem or192 : ∀ n : Fin 32, IntKind.u8.wrap ((BitVec.ofInt IntKind.u8.bits 192 ||| BitVec.ofInt IntKind.u8.bits (n.1 : Nat)).toNat : Nat) = ((192 + n.1 : Nat) : Int) := by decide +kernel
theorem or224 : ∀ n : Fin 16, IntKind.u8.wrap ((BitVec.ofInt IntKind.u8.bits 224 ||| BitVec.ofInt IntKind.u8.bits (n.1 : Nat)).toNat : Nat) = ((224 + n.1 : Nat) : Int) := by decide +kernel
theorem or240 : ∀ n : Fin 8, IntKind.u8.wrap ((BitVec.ofInt IntKind.u8.bits 240 ||| BitVec.ofInt IntKind.u8.bits (n.1 : Nat)).toNat : Nat) = ((240 + n.1 : Nat) : Int) := by decide +kernel
section
variable {prim : FuncId → Option (List AV → Option AV)} {t : TypeId} {x y : Operand}
theorem band {n : Nat} (h : n < 256) : binA (cfgP prim) .and t x y (.v (.int .u8 (n : Int))) (.v (.int .u8 63)) = some (.v (.int .u8 ((n % 64 : Nat) : Int))) := by rw [bin_and, an63 ⟨n, h⟩]
theorem bo128 {n : Nat} (h : n < 64) : binA (cfgP prim) .or t x y (.v (.int .u8 128)) (.v (.int .u8 (n : Int))) = some (.v (.int .u8 ((128 + n : Nat) : Int))) := by rw [bin_or, or128 ⟨n, h⟩]
theorem bo192 {n : Nat} (h : n < 32) : binA (cfgP prim) .or t x y (.v (.int .u8 192)) (.v (.int .u8 (n : Int))) = some (.v (.int .u8 ((192 + n : Nat) : Int))) := by rw [bin_or, or192 ⟨n, h⟩]
theorem bo224 {n : Nat} (h : n < 16) : binA (cfgP prim) .or t x y (.v (.int .u8 224)) (.v (.int .u8 (n : Int))) = some (.v (.int .u8 ((224 + n : Nat) : Int))) := by rw [bin_or, or224 ⟨n, h⟩]
theorem bo240 {n : Nat} (h : n < 8) : binA (cfgP prim) .or t x y (.v (.int .u8 240)) (.v (.int .u8 (n : Int))) = some (.v (.int .u8 ((240 + n : Nat) : Int))) := by rw [bin_or, or240 ⟨n, h⟩]
theorem fdiv_nat (r m : Nat) : ((r : Int)).fdiv (m : Int) = ((r / m : Nat) : Int) := by
  rw [Int.fdiv_eq_ediv_of_nonneg _ (by omega)]
  rfl
theorem bsh6 {r : Nat} : binA (cfgP prim) .shr t x y (.v (.int .i32 (r : Int))) (.v (.int .u64 6)) = some (.v (.int .i32 ((r / 64 : Nat) : Int))) := by
  rw [bin_shr (by decide), show ((2 : Int) ^ min (6 : Int).toNat IntKind.i32.bits) = ((64 : Nat) : Int) from by decide, fdiv_nat]
theorem bsh12 {r : Nat} : binA (cfgP prim) .shr t x y (.v (.int .i32 (r : Int))) (.v (.int .u64 12)) = some (.v (.int .i32 ((r / 4096 : Nat) : Int))) := by
  rw [bin_shr (by decide), show ((2 : Int) ^ min (12 : Int).toNat IntKind.i32.bits) = ((4096 : Nat) : Int) from by decide, fdiv_nat]
theorem bsh18 {r : Nat} : binA (cfgP prim) .shr t x y (.v (.int .i32 (r : Int))) (.v (.int .u64 18)) = some (.v (.int .i32 ((r / 262144 : Nat) : Int))) := by
  rw [bin_shr (by decide), show ((2 : Int) ^ min (18 : Int).toNat IntKind.i32.bits) = ((262144 : Nat) : Int) from by decide, fdiv_nat]
theorem cr5 {n : Nat} : convA (cfgP prim) 21 5 (.v (.int .i32 (n : Int))) = some (.v (.int .u8 ((n % 256 : Nat) : Int))) := by
  rw [conv_int (C := cfgP prim) (s := 21) (t := 5) (j := .i32) (k' := .u8) (by kernel_rfl) (by kernel_rfl) (by kernel_rfl) (by kernel_rfl)]
  congr 3
theorem cru {n : Nat} (h : n < 2 ^ 31) : convA (cfgP prim) 21 148 (.v (.int .i32 (n : Int))) = some (.v (.int .u32 (n : Int))) := by
  rw [conv_int (C := cfgP prim) (s := 21) (t := 148) (j := .i32) (k' := .u32) (by kernel_rfl) (by kernel_rfl) (by kernel_rfl) (by kernel_rfl)]
  congr 3
  simp [IntKind.wrap, IntKind.bits, IntKind.signed]
  omega
theorem bs1 {a : Int} : buildSliceA (cfgP prim) 72 1 [(0, .v (.int .u8 a))] = some (.cl true [.v (.int .u8 a)]) := by kernel_rfl
theorem bs2 {a b : Int} : buildSliceA (cfgP prim) 72 2 [(0, .v (.int .u8 a)), (1, .v (.int .u8 b))] = some (.cl true [.v (.int .u8 a), .v (.int .u8 b)]) := by kernel_rfl
theorem bs3 {a b c : Int} : buildSliceA (cfgP prim) 72 3 [(0, .v (.int .u8 a)), (1, .v (.int .u8 b)), (2, .v (.int .u8 c))] = some (.cl true [.v (.int .u8 a), .v (.int .u8 b), .v (.int .u8 c)]) := by kernel_rfl
theorem bs4 {a b c d : Int} : buildSliceA (cfgP prim) 72 4 [(0, .v (.int .u8 a)), (1, .v (.int .u8 b)), (2, .v (.int .u8 c)), (3, .v (.int .u8 d))] = some (.cl true [.v (.int .u8 a), .v (.int .u8 b), .v (.int .u8 c), .v (.int .u8 d)]) := by kernel_rfl
theorem sized_by (l : List UInt8) : sized 1 (byts l) := fun x hx => by
  obtain ⟨c, _, rfl⟩ := List.mem_map.1 hx
  rfl
theorem app72 {l b : List UInt8} (hne : b ≠ []) (hl : l.length + b.length < 2 ^ 40) {H : Hp} (hH : H.toks = (ghp 5 (byts l)).toks) : appA (cfgP prim) #[72, 72] [gsl (byts l), .cl true (byts b)] H = some (gsl (byts (l ++ b)), { H with toks := (ghp 5 (byts (l ++ b))).toks }) := by
  have := appA_gslHs (C := cfgP prim) (ts := #[72, 72]) (e := 5) (t1 := 5) (n := 0) (k := 1) (z := .v (.int .u8 0)) (by kernel_rfl) (by kernel_rfl) (by kernel_rfl) (by kernel_rfl) rfl (by kernel_rfl) (xs := byts l) (ys := byts b) (f := true) (by simp [byts, hne]) (sized_by b) (sized_by l) (by simp [byts]; omega) hH
  rw [this]
  simp [byts]
end
theorem byt_nat {m : Nat} (h : m < 256) : (AV.v (.int .u8 (m : Int))) = byt (UInt8.ofNat m) := by
  show AV.v (.int .u8 (m : Int)) = AV.v (.int .u8 (((UInt8.ofNat m).toNat : Nat) : Int))
  rw [UInt8.toNat_ofNat', Nat.mod_eq_of_lt h]
def apR (H : Hp) (l : List UInt8) : Hp := { H with toks := (ghp 5 (byts l)).toks }
set_option maxHeartbeats 4000000 in
set_option maxRecDepth 100000 in
theorem apNon_ok (H : Hp) (l : List UInt8) (r : Nat) (hH : H.toks = (ghp 5 (byts l)).toks) (hl : l.length < 2 ^ 39) (h1 : 127 < r) (h2 : r ≤ 1114111) (h3 : r < 55296 ∨ 57343 < r) :
    CallOk (cfgP fun _ => none) 128 [gsl (byts l), .v (.int .i32 (r : Int))] H (gsl (byts (l ++ encU r))) (apR H (l ++ encU r)) := by
  have cu := cru (prim := fun _ => none) (n := r) (by omega)
  have b1 : ∀ {x y : Operand}, _ := fun {x y} => bo128 (prim := fun _ => none) (t := 5) (x := x) (y := y) (n := r % 256 % 64) (by omega)
  have n1 : ∀ {x y : Operand}, _ := fun {x y} => band (prim := fun _ => none) (t := 5) (x := x) (y := y) (n := r % 256) (by omega)
  by_cases c1 : r ≤ 2047
  · have g1 : decide ((r : Int) ≤ 2047) = true := decide_eq_true (by omega)
    have he : encU r = [UInt8.ofNat (192 + r / 64 % 256), UInt8.ofNat (128 + r % 256 % 64)] := by
      unfold encU encN
      rw [if_neg (by omega), if_pos c1]
      simp only [List.map_cons, List.map_nil]
      rw [show r / 64 % 256 = r / 64 by omega, show r % 256 % 64 = r % 64 by omega]
    have hap := app72 (prim := fun _ => none) (l := l) (b := encU r) (by rw [he]; simp) (by rw [he]; simp; omega) hH
    have hb : byts (encU r) = [.v (.int .u8 ((192 + r / 64 % 256 : Nat) : Int)), .v (.int .u8 ((128 + r % 256 % 64 : Nat) : Int))] := by
      rw [he, byt_nat (by omega), byt_nat (by omega)]; rfl
    rw [hb] at hap
    have o1 : ∀ {x y : Operand}, _ := fun {x y} => bo192 (prim := fun _ => none) (t := 5) (x := x) (y := y) (n := r / 64 % 256) (by omega)
    obtain ⟨z, hz⟩ : ∃ z, gsl (byts l) = z := ⟨_, rfl⟩
    rw [hz] at hap ⊢
    clear h1 h2 h3 hz he hb
    refine call_of_wk (call := noCall) (fn := Tryd.f128) (rs := [.tmp 4]) cokN noCall_ok (fns_cfg Tryd.func128 rfl) rfl rfl ?_
    intro env hl0 hargs
    have hn : env.length = 78 := hl0
    have h0 := hargs 0 _ rfl
    have h1 := hargs 1 _ rfl
    clear hargs hl0
    refine wkT_of ?_
    simp -dsimp only [hn, h0, h1, cu, g1, bsh6, cr5, o1, n1, b1, bs2, hap, wt_seq, wt_block, wt_region, wt_cond, wt_skip, wt_ret, wt_exit, wst_nil, wst_cons, wst_guard, andThen_normal, andThen_ret, andThen_exit, leave_normal, leave_ret, leave_exit, EndsA_ret, EndsA_normal, ot_move, ot_assign, ot_pick, ot_binOp, ot_unOp, ot_convert, ot_field, ot_index, ot_indexAddr, ot_fieldAddr, ot_slice, ot_build, ot_buildSlice, ot_extract, ot_makeInterface, ot_makeFunc, ot_nilCheck, ot_call, ot_len, ot_append, ot_box, ot_load, ot_store, ot_makeSlice, ot_alloc, ot_sliceData, ot_unsafeString, ct_bool, ct_true, ct_false, bt_some, gt_some, aval_tmp, aval_int, aval_bool, aval_str, aval_slice, aval_nilPointer, aval_nilIface, aval_func, aval_global, avals, apairs, bareP, AV.bare, AV.bares, bin_lss, bin_leq, bin_gtr, bin_geq, bin_eql, bin_neq, bin_add, bin_sub, bin_mul, bin_and, bin_or, bin_xor, toV_int, toV_bool, toV_string, un_neg, un_not, bin_str_eql, bin_str_neq, bin_str_lss, bin_str_leq, bin_str_gtr, bin_str_geq, aget_aput, length_aput, aput_none, Nat.reduceEqDiff, Nat.reduceLT, Nat.reduceAdd, ↓reduceIte, reduceCtorEq, Bool.not_false, Bool.not_true, Bool.true_or, true_and, Option.bind_some, Option.map_some, List.nil_append, List.cons_append, resA, resA1, resVal, Option.getD_some, Nat.reduceLeDiff, bnd_some, yieldA_eq, yldOf_some, boolOf_bool, boolOf_undef, gt_none, List.getElem?_toArray, List.getElem?_cons_succ, List.getElem?_cons_zero, bq_true, bq_false, decide_true, decide_false, Option.toList_none, Option.toList_some, List.head?_cons, List.head?_nil, nb_cfg, not_false_eq_true, cv_some, pm_some, pm_none, plainA_v, plain_bool, plain_int, plain_str, Bool.false_eq_true, if_false]
    rfl
  · have g1 : decide ((r : Int) ≤ 2047) = false := decide_eq_false (by omega)
    by_cases c2 : r < 55296
    · have g2 : decide ((r : Int) < 55296) = true := decide_eq_true (by omega)
      have he : encU r = [UInt8.ofNat (224 + r / 4096 % 256), UInt8.ofNat (128 + r / 64 % 256 % 64), UInt8.ofNat (128 + r % 256 % 64)] := by
        unfold encU encN
        rw [if_neg (by omega), if_neg (by omega), if_pos (by omega)]
        simp only [List.map_cons, List.map_nil]
        rw [show r / 4096 % 256 = r / 4096 by omega, show r / 64 % 256 % 64 = r / 64 % 64 by omega, show r % 256 % 64 = r % 64 by omega]
      have hap := app72 (prim := fun _ => none) (l := l) (b := encU r) (by rw [he]; simp) (by rw [he]; simp; omega) hH
      have hb : byts (encU r) = [.v (.int .u8 ((224 + r / 4096 % 256 : Nat) : Int)), .v (.int .u8 ((128 + r / 64 % 256 % 64 : Nat) : Int)), .v (.int .u8 ((128 + r % 256 % 64 : Nat) : Int))] := by
        rw [he, byt_nat (by omega), byt_nat (by omega), byt_nat (by omega)]; rfl
      rw [hb] at hap
      have o0 : ∀ {x y : Operand}, _ := fun {x y} => bo224 (prim := fun _ => none) (t := 5) (x := x) (y := y) (n := r / 4096 % 256) (by omega)
      have o1 : ∀ {x y : Operand}, _ := fun {x y} => bo128 (prim := fun _ => none) (t := 5) (x := x) (y := y) (n := r / 64 % 256 % 64) (by omega)
      have m1 : ∀ {x y : Operand}, _ := fun {x y} => band (prim := fun _ => none) (t := 5) (x := x) (y := y) (n := r / 64 % 256) (by omega)
      have o2 : ∀ {x y : Operand}, _ := fun {x y} => bo128 (prim := fun _ => none) (t := 5) (x := x) (y := y) (n := r % 256 % 64) (by omega)
      have m2 : ∀ {x y : Operand}, _ := fun {x y} => band (prim := fun _ => none) (t := 5) (x := x) (y := y) (n := r % 256) (by omega)
      obtain ⟨z, hz⟩ : ∃ z, gsl (byts l) = z := ⟨_, rfl⟩
      rw [hz] at hap ⊢
      clear h1 h2 h3 hz he hb b1 n1
      refine call_of_wk (call := noCall) (fn := Tryd.f128) (rs := [.tmp 4]) cokN noCall_ok (fns_cfg Tryd.func128 rfl) rfl rfl ?_
      intro env hl0 hargs
      have hn : env.length = 78 := hl0
      have h0 := hargs 0 _ rfl
      have h1 := hargs 1 _ rfl
      clear hargs hl0
      refine wkT_of ?_
      simp -dsimp only [hn, h0, h1, cu, g1, g2, bsh6, bsh12, bsh18, cr5, o0, o1, m1, o2, m2, bs3, hap, wt_seq, wt_block, wt_region, wt_cond, wt_skip, wt_ret, wt_exit, wst_nil, wst_cons, wst_guard, andThen_normal, andThen_ret, andThen_exit, leave_normal, leave_ret, leave_exit, EndsA_ret, EndsA_normal, ot_move, ot_assign, ot_pick, ot_binOp, ot_unOp, ot_convert, ot_field, ot_index, ot_indexAddr, ot_fieldAddr, ot_slice, ot_build, ot_buildSlice, ot_extract, ot_makeInterface, ot_makeFunc, ot_nilCheck, ot_call, ot_len, ot_append, ot_box, ot_load, ot_store, ot_makeSlice, ot_alloc, ot_sliceData, ot_unsafeString, ct_bool, ct_true, ct_false, bt_some, gt_some, aval_tmp, aval_int, aval_bool, aval_str, aval_slice, aval_nilPointer, aval_nilIface, aval_func, aval_global, avals, apairs, bareP, AV.bare, AV.bares, bin_lss, bin_leq, bin_gtr, bin_geq, bin_eql, bin_neq, bin_add, bin_sub, bin_mul, bin_and, bin_or, bin_xor, toV_int, toV_bool, toV_string, un_neg, un_not, bin_str_eql, bin_str_neq, bin_str_lss, bin_str_leq, bin_str_gtr, bin_str_geq, aget_aput, length_aput, aput_none, Nat.reduceEqDiff, Nat.reduceLT, Nat.reduceAdd, ↓reduceIte, reduceCtorEq, Bool.not_false, Bool.not_true, Bool.true_or, true_and, Option.bind_some, Option.map_some, List.nil_append, List.cons_append, resA, resA1, resVal, Option.getD_some, Nat.reduceLeDiff, bnd_some, yieldA_eq, yldOf_some, boolOf_bool, boolOf_undef, gt_none, List.getElem?_toArray, List.getElem?_cons_succ, List.getElem?_cons_zero, bq_true, bq_false, decide_true, decide_false, Option.toList_none, Option.toList_some, List.head?_cons, List.head?_nil, nb_cfg, not_false_eq_true, cv_some, pm_some, pm_none, plainA_v, plain_bool, plain_int, plain_str, Bool.false_eq_true, if_false]
      rfl
    · have g2 : decide ((r : Int) < 55296) = false := decide_eq_false (by omega)
      have g3 : decide ((57343 : Int) < (r : Int)) = true := decide_eq_true (by omega)
      by_cases c3 : r ≤ 65535
      · have g4 : decide ((r : Int) ≤ 65535) = true := decide_eq_true (by omega)
        have he : encU r = [UInt8.ofNat (224 + r / 4096 % 256), UInt8.ofNat (128 + r / 64 % 256 % 64), UInt8.ofNat (128 + r % 256 % 64)] := by
          unfold encU encN
          rw [if_neg (by omega), if_neg (by omega), if_pos (by omega)]
          simp only [List.map_cons, List.map_nil]
          rw [show r / 4096 % 256 = r / 4096 by omega, show r / 64 % 256 % 64 = r / 64 % 64 by omega, show r % 256 % 64 = r % 64 by omega]
        have hap := app72 (prim := fun _ => none) (l := l) (b := encU r) (by rw [he]; simp) (by rw [he]; simp; omega) hH
        have hb : byts (encU r) = [.v (.int .u8 ((224 + r / 4096 % 256 : Nat) : Int)), .v (.int .u8 ((128 + r / 64 % 256 % 64 : Nat) : Int)), .v (.int .u8 ((128 + r % 256 % 64 : Nat) : Int))] := by
          rw [he, byt_nat (by omega), byt_nat (by omega), byt_nat (by omega)]; rfl
        rw [hb] at hap
        have o0 : ∀ {x y : Operand}, _ := fun {x y} => bo224 (prim := fun _ => none) (t := 5) (x := x) (y := y) (n := r / 4096 % 256) (by omega)
        have o1 : ∀ {x y : Operand}, _ := fun {x y} => bo128 (prim := fun _ => none) (t := 5) (x := x) (y := y) (n := r / 64 % 256 % 64) (by omega)
        have m1 : ∀ {x y : Operand}, _ := fun {x y} => band (prim := fun _ => none) (t := 5) (x := x) (y := y) (n := r / 64 % 256) (by omega)
        have o2 : ∀ {x y : Operand}, _ := fun {x y} => bo128 (prim := fun _ => none) (t := 5) (x := x) (y := y) (n := r % 256 % 64) (by omega)
        have m2 : ∀ {x y : Operand}, _ := fun {x y} => band (prim := fun _ => none) (t := 5) (x := x) (y := y) (n := r % 256) (by omega)
        obtain ⟨z, hz⟩ : ∃ z, gsl (byts l) = z := ⟨_, rfl⟩
        rw [hz] at hap ⊢
        clear h1 h2 h3 hz he hb b1 n1
        refine call_of_wk (call := noCall) (fn := Tryd.f128) (rs := [.tmp 4]) cokN noCall_ok (fns_cfg Tryd.func128 rfl) rfl rfl ?_
        intro env hl0 hargs
        have hn : env.length = 78 := hl0
        have h0 := hargs 0 _ rfl
        have h1 := hargs 1 _ rfl
        clear hargs hl0
        refine wkT_of ?_
        simp -dsimp only [hn, h0, h1, cu, g1, g2, g3, g4, bsh6, bsh12, bsh18, cr5, o0, o1, m1, o2, m2, bs3, hap, wt_seq, wt_block, wt_region, wt_cond, wt_skip, wt_ret, wt_exit, wst_nil, wst_cons, wst_guard, andThen_normal, andThen_ret, andThen_exit, leave_normal, leave_ret, leave_exit, EndsA_ret, EndsA_normal, ot_move, ot_assign, ot_pick, ot_binOp, ot_unOp, ot_convert, ot_field, ot_index, ot_indexAddr, ot_fieldAddr, ot_slice, ot_build, ot_buildSlice, ot_extract, ot_makeInterface, ot_makeFunc, ot_nilCheck, ot_call, ot_len, ot_append, ot_box, ot_load, ot_store, ot_makeSlice, ot_alloc, ot_sliceData, ot_unsafeString, ct_bool, ct_true, ct_false, bt_some, gt_some, aval_tmp, aval_int, aval_bool, aval_str, aval_slice, aval_nilPointer, aval_nilIface, aval_func, aval_global, avals, apairs, bareP, AV.bare, AV.bares, bin_lss, bin_leq, bin_gtr, bin_geq, bin_eql, bin_neq, bin_add, bin_sub, bin_mul, bin_and, bin_or, bin_xor, toV_int, toV_bool, toV_string, un_neg, un_not, bin_str_eql, bin_str_neq, bin_str_lss, bin_str_leq, bin_str_gtr, bin_str_geq, aget_aput, length_aput, aput_none, Nat.reduceEqDiff, Nat.reduceLT, Nat.reduceAdd, ↓reduceIte, reduceCtorEq, Bool.not_false, Bool.not_true, Bool.true_or, true_and, Option.bind_some, Option.map_some, List.nil_append, List.cons_append, resA, resA1, resVal, Option.getD_some, Nat.reduceLeDiff, bnd_some, yieldA_eq, yldOf_some, boolOf_bool, boolOf_undef, gt_none, List.getElem?_toArray, List.getElem?_cons_succ, List.getElem?_cons_zero, bq_true, bq_false, decide_true, decide_false, Option.toList_none, Option.toList_some, List.head?_cons, List.head?_nil, nb_cfg, not_false_eq_true, cv_some, pm_some, pm_none, plainA_v, plain_bool, plain_int, plain_str, Bool.false_eq_true, if_false]
        rfl
      · have g4 : decide ((r : Int) ≤ 65535) = false := decide_eq_false (by omega)
        have g5 : decide ((65535 : Int) < (r : Int)) = true := decide_eq_true (by omega)
        have g6 : decide ((r : Int) ≤ 1114111) = true := decide_eq_true (by omega)
        have he : encU r = [UInt8.ofNat (240 + r / 262144 % 256), UInt8.ofNat (128 + r / 4096 % 256 % 64), UInt8.ofNat (128 + r / 64 % 256 % 64), UInt8.ofNat (128 + r % 256 % 64)] := by
          unfold encU encN
          rw [if_neg (by omega), if_neg (by omega), if_neg (by omega)]
          simp only [List.map_cons, List.map_nil]
          rw [show r / 262144 % 256 = r / 262144 by omega, show r / 4096 % 256 % 64 = r / 4096 % 64 by omega, show r / 64 % 256 % 64 = r / 64 % 64 by omega, show r % 256 % 64 = r % 64 by omega]
        have hap := app72 (prim := fun _ => none) (l := l) (b := encU r) (by rw [he]; simp) (by rw [he]; simp; omega) hH
        have hb : byts (encU r) = [.v (.int .u8 ((240 + r / 262144 % 256 : Nat) : Int)), .v (.int .u8 ((128 + r / 4096 % 256 % 64 : Nat) : Int)), .v (.int .u8 ((128 + r / 64 % 256 % 64 : Nat) : Int)), .v (.int .u8 ((128 + r % 256 % 64 : Nat) : Int))] := by
          rw [he, byt_nat (by omega), byt_nat (by omega), byt_nat (by omega), byt_nat (by omega)]; rfl
        rw [hb] at hap
        have o0 : ∀ {x y : Operand}, _ := fun {x y} => bo240 (prim := fun _ => none) (t := 5) (x := x) (y := y) (n := r / 262144 % 256) (by omega)
        have o1 : ∀ {x y : Operand}, _ := fun {x y} => bo128 (prim := fun _ => none) (t := 5) (x := x) (y := y) (n := r / 4096 % 256 % 64) (by omega)
        have m1 : ∀ {x y : Operand}, _ := fun {x y} => band (prim := fun _ => none) (t := 5) (x := x) (y := y) (n := r / 4096 % 256) (by omega)
        have o2 : ∀ {x y : Operand}, _ := fun {x y} => bo128 (prim := fun _ => none) (t := 5) (x := x) (y := y) (n := r / 64 % 256 % 64) (by omega)
        have m2 : ∀ {x y : Operand}, _ := fun {x y} => band (prim := fun _ => none) (t := 5) (x := x) (y := y) (n := r / 64 % 256) (by omega)
        have o3 : ∀ {x y : Operand}, _ := fun {x y} => bo128 (prim := fun _ => none) (t := 5) (x := x) (y := y) (n := r % 256 % 64) (by omega)
        have m3 : ∀ {x y : Operand}, _ := fun {x y} => band (prim := fun _ => none) (t := 5) (x := x) (y := y) (n := r % 256) (by omega)
        obtain ⟨z, hz⟩ : ∃ z, gsl (byts l) = z := ⟨_, rfl⟩
        rw [hz] at hap ⊢
        clear h1 h2 h3 hz he hb b1 n1
        refine call_of_wk (call := noCall) (fn := Tryd.f128) (rs := [.tmp 4]) cokN noCall_ok (fns_cfg Tryd.func128 rfl) rfl rfl ?_
        intro env hl0 hargs
        have hn : env.length = 78 := hl0
        have h0 := hargs 0 _ rfl
        have h1 := hargs 1 _ rfl
        clear hargs hl0
        refine wkT_of ?_
        simp -dsimp only [hn, h0, h1, cu, g1, g2, g3, g4, g5, g6, bsh6, bsh12, bsh18, cr5, o0, o1, m1, o2, m2, o3, m3, bs4, hap, wt_seq, wt_block, wt_region, wt_cond, wt_skip, wt_ret, wt_exit, wst_nil, wst_cons, wst_guard, andThen_normal, andThen_ret, andThen_exit, leave_normal, leave_ret, leave_exit, EndsA_ret, EndsA_normal, ot_move, ot_assign, ot_pick, ot_binOp, ot_unOp, ot_convert, ot_field, ot_index, ot_indexAddr, ot_fieldAddr, ot_slice, ot_build, ot_buildSlice, ot_extract, ot_makeInterface, ot_makeFunc, ot_nilCheck, ot_call, ot_len, ot_append, ot_box, ot_load, ot_store, ot_makeSlice, ot_alloc, ot_sliceData, ot_unsafeString, ct_bool, ct_true, ct_false, bt_some, gt_some, aval_tmp, aval_int, aval_bool, aval_str, aval_slice, aval_nilPointer, aval_nilIface, aval_func, aval_global, avals, apairs, bareP, AV.bare, AV.bares, bin_lss, bin_leq, bin_gtr, bin_geq, bin_eql, bin_neq, bin_add, bin_sub, bin_mul, bin_and, bin_or, bin_xor, toV_int, toV_bool, toV_string, un_neg, un_not, bin_str_eql, bin_str_neq, bin_str_lss, bin_str_leq, bin_str_gtr, bin_str_geq, aget_aput, length_aput, aput_none, Nat.reduceEqDiff, Nat.reduceLT, Nat.reduceAdd, ↓reduceIte, reduceCtorEq, Bool.not_false, Bool.not_true, Bool.true_or, true_and, Option.bind_some, Option.map_some, List.nil_append, List.cons_append, resA, resA1, resVal, Option.getD_some, Nat.reduceLeDiff, bnd_some, yieldA_eq, yldOf_some, boolOf_bool, boolOf_undef, gt_none, List.getElem?_toArray, List.getElem?_cons_succ, List.getElem?_cons_zero, bq_true, bq_false, decide_true, decide_false, Option.toList_none, Option.toList_some, List.head?_cons, List.head?_nil, nb_cfg, not_false_eq_true, cv_some, pm_some, pm_none, plainA_v, plain_bool, plain_int, plain_str, Bool.false_eq_true, if_false]
        rfl
end Go.Proofs.YtjejeijldllloaaDoor

/- Chapter 1: AppendRune; a code point by its digits. -/
namespace Go.Proofs.YtjejeijldllloaaDoor
open Go.AM
structure Ap where
  H : Hp
  l : List UInt8
  r : Nat
def Ap.ok (p : Ap) : Prop := p.H.toks = (ghp 5 (byts p.l)).toks ∧ p.l.length < 2 ^ 39 ∧ p.r ≤ 1114111 ∧ (p.r < 55296 ∨ 57343 < p.r)
def Ap.ok' (p : Ap) : Prop := p.ok ∧ 127 < p.r
def Ap.a (p : Ap) : List AV := [gsl (byts p.l), .v (.int .i32 (p.r : Int))]
theorem Ap.inj {p q : Ap} (h : p.a = q.a) (hH : p.H = q.H) : p = q := by
  unfold Ap.a at h
  injection h with h1 h2
  injection h2 with h2 _
  injection h2 with h2
  injection h2 with _ h2
  have e := congrArg elems h1
  rw [elems_gsl, elems_gsl] at e
  have e := byts_inj (Option.some.inj e)
  cases p; cases q
  simp_all
  omega
noncomputable def apnT := relT 128 Ap.ok' Ap.a Ap.H (fun p => gsl (byts (p.l ++ encU p.r))) (fun p => apR p.H (p.l ++ encU p.r))
theorem apnT_ok : CallsOk (cfgP fun _ => none) apnT := relT_ok (fns_cfg Tryd.func128 rfl) rfl fun p h => apNon_ok p.H p.l p.r h.1.1 h.1.2.1 h.2 h.1.2.2.1 h.1.2.2.2
theorem apnT_eq {H : Hp} {l : List UInt8} {r : Nat} (h : Ap.ok' ⟨H, l, r⟩) : apnT 128 [gsl (byts l), .v (.int .i32 (r : Int))] H = some (gsl (byts (l ++ encU r)), apR H (l ++ encU r)) :=
  relT_eq (f0 := 128) (X := Ap.ok') (a := Ap.a) (h := Ap.H) (r := fun p => gsl (byts (p.l ++ encU p.r))) (h' := fun p => apR p.H (p.l ++ encU p.r)) (fun p q _ _ h1 h2 => by rw [Ap.inj h1 h2]; exact ⟨rfl, rfl⟩) ⟨H, l, r⟩ h
theorem apRune_ok (H : Hp) (l : List UInt8) (r : Nat) (h : Ap.ok ⟨H, l, r⟩) : CallOk (cfgP fun _ => none) 123 [gsl (byts l), .v (.int .i32 (r : Int))] H (gsl (byts (l ++ encU r))) (apR H (l ++ encU r)) := by
  have h' := h
  obtain ⟨hH, hl, h2, h3⟩ := h'
  simp only at hH hl h2 h3
  have cu := cru (prim := fun _ => none) (n := r) (by omega)
  by_cases c1 : r ≤ 127
  · have g1 : decide ((r : Int) ≤ 127) = true := decide_eq_true (by omega)
    have he : encU r = [UInt8.ofNat (r % 256)] := by
      unfold encU encN
      rw [if_pos c1, show r % 256 = r by omega]
      rfl
    have hap := app72 (prim := fun _ => none) (l := l) (b := encU r) (by rw [he]; simp) (by rw [he]; simp; omega) hH
    have hb : byts (encU r) = [.v (.int .u8 ((r % 256 : Nat) : Int))] := by
      rw [he, byt_nat (by omega)]; rfl
    rw [hb] at hap
    obtain ⟨z, hz⟩ : ∃ z, gsl (byts l) = z := ⟨_, rfl⟩
    rw [hz] at hap ⊢
    clear h h2 h3 hz he hb
    refine call_of_wk (call := noCall) (fn := Tryd.f123) (rs := [.tmp 4]) cokN noCall_ok (fns_cfg Tryd.func123 rfl) rfl rfl ?_
    intro env hl0 hargs
    have hn : env.length = 16 := hl0
    have h0 := hargs 0 _ rfl
    have h1 := hargs 1 _ rfl
    clear hargs hl0
    refine wkT_of ?_
    simp -dsimp only [hn, h0, h1, cu, g1, cr5, bs1, hap, wt_seq, wt_block, wt_region, wt_cond, wt_skip, wt_ret, wt_exit, wst_nil, wst_cons, wst_guard, andThen_normal, andThen_ret, andThen_exit, leave_normal, leave_ret, leave_exit, EndsA_ret, EndsA_normal, ot_move, ot_assign, ot_pick, ot_binOp, ot_unOp, ot_convert, ot_field, ot_index, ot_indexAddr, ot_fieldAddr, ot_slice, ot_build, ot_buildSlice, ot_extract, ot_makeInterface, ot_makeFunc, ot_nilCheck, ot_call, ot_len, ot_append, ot_box, ot_load, ot_store, ot_makeSlice, ot_alloc, ot_sliceData, ot_unsafeString, ct_bool, ct_true, ct_false, bt_some, gt_some, aval_tmp, aval_int, aval_bool, aval_str, aval_slice, aval_nilPointer, aval_nilIface, aval_func, aval_global, avals, apairs, bareP, AV.bare, AV.bares, bin_lss, bin_leq, bin_gtr, bin_geq, bin_eql, bin_neq, bin_add, bin_sub, bin_mul, bin_and, bin_or, bin_xor, toV_int, toV_bool, toV_string, un_neg, un_not, bin_str_eql, bin_str_neq, bin_str_lss, bin_str_leq, bin_str_gtr, bin_str_geq, aget_aput, length_aput, aput_none, Nat.reduceEqDiff, Nat.reduceLT, Nat.reduceAdd, ↓reduceIte, reduceCtorEq, Bool.not_false, Bool.not_true, Bool.true_or, true_and, Option.bind_some, Option.map_some, List.nil_append, List.cons_append, resA, resA1, resVal, Option.getD_some, Nat.reduceLeDiff, bnd_some, yieldA_eq, yldOf_some, boolOf_bool, boolOf_undef, gt_none, List.getElem?_toArray, List.getElem?_cons_succ, List.getElem?_cons_zero, bq_true, bq_false, decide_true, decide_false, Option.toList_none, Option.toList_some, List.head?_cons, List.head?_nil, nb_cfg, not_false_eq_true, cv_some, pm_some, pm_none, plainA_v, plain_bool, plain_int, plain_str, Bool.false_eq_true, if_false]
    rfl
  · have g1 : decide ((r : Int) ≤ 127) = false := decide_eq_false (by omega)
    have q := apnT_eq ⟨h, by show 127 < r; omega⟩
    obtain ⟨z, hz⟩ : ∃ z, gsl (byts l) = z := ⟨_, rfl⟩
    rw [hz] at q ⊢
    clear h h2 h3 hz
    refine call_of_wk (call := apnT) (fn := Tryd.f123) (rs := [.tmp 4]) cokN apnT_ok (fns_cfg Tryd.func123 rfl) rfl rfl ?_
    intro env hl0 hargs
    have hn : env.length = 16 := hl0
    have h0 := hargs 0 _ rfl
    have h1 := hargs 1 _ rfl
    clear hargs hl0
    refine wkT_of ?_
    simp -dsimp only [hn, h0, h1, cu, g1, ct_own (C := cfgP fun _ => none) (f := 128) rfl rfl, q, wt_seq, wt_block, wt_region, wt_cond, wt_skip, wt_ret, wt_exit, wst_nil, wst_cons, wst_guard, andThen_normal, andThen_ret, andThen_exit, leave_normal, leave_ret, leave_exit, EndsA_ret, EndsA_normal, ot_move, ot_assign, ot_pick, ot_binOp, ot_unOp, ot_convert, ot_field, ot_index, ot_indexAddr, ot_fieldAddr, ot_slice, ot_build, ot_buildSlice, ot_extract, ot_makeInterface, ot_makeFunc, ot_nilCheck, ot_call, ot_len, ot_append, ot_box, ot_load, ot_store, ot_makeSlice, ot_alloc, ot_sliceData, ot_unsafeString, ct_bool, ct_true, ct_false, bt_some, gt_some, aval_tmp, aval_int, aval_bool, aval_str, aval_slice, aval_nilPointer, aval_nilIface, aval_func, aval_global, avals, apairs, bareP, AV.bare, AV.bares, bin_lss, bin_leq, bin_gtr, bin_geq, bin_eql, bin_neq, bin_add, bin_sub, bin_mul, bin_and, bin_or, bin_xor, toV_int, toV_bool, toV_string, un_neg, un_not, bin_str_eql, bin_str_neq, bin_str_lss, bin_str_leq, bin_str_gtr, bin_str_geq, aget_aput, length_aput, aput_none, Nat.reduceEqDiff, Nat.reduceLT, Nat.reduceAdd, ↓reduceIte, reduceCtorEq, Bool.not_false, Bool.not_true, Bool.true_or, true_and, Option.bind_some, Option.map_some, List.nil_append, List.cons_append, resA, resA1, resVal, Option.getD_some, Nat.reduceLeDiff, bnd_some, yieldA_eq, yldOf_some, boolOf_bool, boolOf_undef, gt_none, List.getElem?_toArray, List.getElem?_cons_succ, List.getElem?_cons_zero, bq_true, bq_false, decide_true, decide_false, Option.toList_none, Option.toList_some, List.head?_cons, List.head?_nil, nb_cfg, not_false_eq_true, cv_some, pm_some, pm_none, plainA_v, plain_bool, plain_int, plain_str, Bool.false_eq_true, if_false]
    done
noncomputable def apT := relT 123 Ap.ok Ap.a Ap.H (fun p => gsl (byts (p.l ++ encU p.r))) (fun p => apR p.H (p.l ++ encU p.r))
theorem apT_ok : CallsOk (cfgP fun _ => none) apT := relT_ok (fns_cfg Tryd.func123 rfl) rfl fun p h => apRune_ok p.H p.l p.r h
theorem apT_eq {H : Hp} {l : List UInt8} {r : Nat} (h : Ap.ok ⟨H, l, r⟩) : apT 123 [gsl (byts l), .v (.int .i32 (r : Int))] H = some (gsl (byts (l ++ encU r)), apR H (l ++ encU r)) :=
  relT_eq (f0 := 123) (X := Ap.ok) (a := Ap.a) (h := Ap.H) (r := fun p => gsl (byts (p.l ++ encU p.r))) (h' := fun p => apR p.H (p.l ++ encU p.r)) (fun p q _ _ h1 h2 => by rw [Ap.inj h1 h2]; exact ⟨rfl, rfl⟩) ⟨H, l, r⟩ h
/-- The half's call, as a table. -/
structure Hf where
  p : Rd
  n : Nat
def Hf.ok (p : Hf) : Prop := p.p.ok ∧ 55296 ≤ p.n ∧ p.n < 56320
noncomputable def halfT := relT 122 Hf.ok (fun p => [.ptr 0 0 0 0, .v (.int .i32 (p.n : Int))]) (fun p => p.p.H) (fun p => hexV (halfF p.p.s p.p.k p.n).1) (fun p => rdH p.p.s (halfF p.p.s p.p.k p.n).2 p.p.x p.p.tk)
theorem halfT_ok : CallsOk (cfgP fun _ => none) halfT := relT_ok (fns_cfg Tryd.func122 rfl) rfl fun p h => half_ok p.p.s p.p.k p.p.x p.p.tk p.n h.1.1 h.1.2 h.2.1 h.2.2
theorem halfT_eq {s : List UInt8} {k n : Nat} {x : AV} {tk : List (Nat × TypeId)} (h : s.length < 2 ^ 62) (hk : k ≤ s.length) (h1 : 55296 ≤ n) (h2 : n < 56320) : halfT 122 [.ptr 0 0 0 0, .v (.int .i32 (n : Int))] (rdH s k x tk) = some (hexV (halfF s k n).1, rdH s (halfF s k n).2 x tk) :=
  relT_eq (f0 := 122) (X := Hf.ok) (a := fun p => [.ptr 0 0 0 0, .v (.int .i32 (p.n : Int))]) (h := fun p => p.p.H) (r := fun p => hexV (halfF p.p.s p.p.k p.n).1) (h' := fun p => rdH p.p.s (halfF p.p.s p.p.k p.n).2 p.p.x p.p.tk) (fun p q _ _ ha hH => by
    have e1 := Rd.inj hH
    injection ha with _ ha
    injection ha with ha _
    injection ha with ha
    injection ha with _ ha
    have e2 : p.n = q.n := by omega
    rw [e1, e2]; exact ⟨rfl, rfl⟩) ⟨⟨s, k, x, tk⟩, n⟩ ⟨⟨h, hk⟩, h1, h2⟩
end Go.Proofs.YtjejeijldllloaaDoor

/- Chapter 1: a code point by its digits; what stands behind a backslash. -/
namespace Go.Proofs.YtjejeijldllloaaDoor
open Go.AM
/-- The reader, with what it says so far. -/
def rdU (s : List UInt8) (k : Nat) (l : List UInt8) : Hp := rdH s k (gsl (byts l)) (ghp 5 (byts l)).toks
theorem gsl_cells (xs : List AV) : (gsl xs).cells = [gsl xs] := by cases xs <;> rfl
theorem gsl_flat (xs : List AV) : (gsl xs).flat = true := by cases xs <;> rfl
section
variable {prim : FuncId → Option (List AV → Option AV)}
theorem rp72 {cs : List AV} {j : Nat} : partA (cfgP prim) 72 cs j = cs[j]? := by kernel_rfl
theorem rdH_store2 {s : List UInt8} {k : Nat} {x : AV} {xs : List AV} {tk : List (Nat × TypeId)} : storeA (cfgP prim) 72 0 0 0 2 (gsl xs) (rdH s k x tk) = some (rdH s k (gsl xs) tk) := by
  rw [store_field (y := [str s, .v (.int .i64 (k : Int)), x]) (x := [str s, .v (.int .i64 (k : Int)), gsl xs]) rfl (by kernel_rfl) (gsl_cells xs) (gsl_flat xs) (by simp) rfl]
  rfl
end
noncomputable def pT := orT hexT (orT halfT apT)
theorem pT_ok : CallsOk (cfgP fun _ => none) pT := orT_ok hexT_ok (orT_ok halfT_ok apT_ok)
theorem pT_hex {s : List UInt8} {k : Nat} {x : AV} {tk : List (Nat × TypeId)} (h : s.length < 2 ^ 62) (hk : k ≤ s.length) : pT 121 [.ptr 0 0 0 0] (rdH s k x tk) = some (hexV (hexF s 4 k 0).1, rdH s (hexF s 4 k 0).2 x tk) :=
  orT_l (relT_eq (f0 := 121) (X := Rd.ok) (a := fun _ => [.ptr 0 0 0 0]) (h := Rd.H) (r := fun p => hexV (hexF p.s 4 p.k 0).1) (h' := fun p => rdH p.s (hexF p.s 4 p.k 0).2 p.x p.tk) (fun p q _ _ _ h => by rw [Rd.inj h]; exact ⟨rfl, rfl⟩) ⟨s, k, x, tk⟩ ⟨h, hk⟩)
theorem pT_half {s : List UInt8} {k n : Nat} {x : AV} {tk : List (Nat × TypeId)} (h : s.length < 2 ^ 62) (hk : k ≤ s.length) (h1 : 55296 ≤ n) (h2 : n < 56320) : pT 122 [.ptr 0 0 0 0, .v (.int .i32 (n : Int))] (rdH s k x tk) = some (hexV (halfF s k n).1, rdH s (halfF s k n).2 x tk) :=
  orT_r (relT_none (by decide)) (orT_l (halfT_eq h hk h1 h2))
theorem pT_ap {H : Hp} {l : List UInt8} {r : Nat} (h : Ap.ok ⟨H, l, r⟩) : pT 123 [gsl (byts l), .v (.int .i32 (r : Int))] H = some (gsl (byts (l ++ encU r)), apR H (l ++ encU r)) :=
  orT_r (relT_none (by decide)) (orT_r (relT_none (by decide)) (apT_eq h))
/-- A code point by its digits. -/
def pointF (s : List UInt8) (k : Nat) : Option Nat × Nat := match (hexF s 4 k 0).1 with
  | none => (none, (hexF s 4 k 0).2)
  | some n => if 56320 ≤ n ∧ n < 57344 then (none, (hexF s 4 k 0).2) else if 55296 ≤ n ∧ n < 56320 then halfF s (hexF s 4 k 0).2 n else (some n, (hexF s 4 k 0).2)
def pointL (l : List UInt8) (o : Option Nat) : List UInt8 := match o with
  | some r => l ++ encU r
  | none => l
theorem halfF_ok {s : List UInt8} {k n r : Nat} (h1 : 55296 ≤ n) (h2 : n < 56320) (h : (halfF s k n).1 = some r) : 65536 ≤ r ∧ r ≤ 1114111 := by
  unfold halfF at h
  split at h
  · simp only at h
    split at h
    · rename_i m hm
      split at h
      · cases h
      · injection h with h
        omega
    · cases h
  · cases h
theorem halfF_pos {s : List UInt8} {k n : Nat} (hk : k ≤ s.length) : (halfF s k n).2 ≤ s.length := by
  unfold halfF
  split
  · rename_i h
    have := (List.getElem?_eq_some_iff.1 h.2).1
    exact hexF_pos s 4 _ _ (by omega)
  · exact nextK_le (nextK_le hk)
set_option maxHeartbeats 4000000 in
set_option maxRecDepth 100000 in
theorem point_ok (s : List UInt8) (k : Nat) (l : List UInt8) (hs : s.length < 2 ^ 62) (hk : k ≤ s.length) (hl : l.length < 2 ^ 39) :
    CallOk (cfgP fun _ => none) 108 [.ptr 0 0 0 0] (rdU s k l) (.v (.bool (pointF s k).1.isSome)) (rdU s (pointF s k).2 (pointL l (pointF s k).1)) := by
  obtain ⟨z, hz⟩ : ∃ z, gsl (byts l) = z := ⟨_, rfl⟩
  obtain ⟨tk, htk⟩ : ∃ tk, (ghp 5 (byts l)).toks = tk := ⟨_, rfl⟩
  have q1 := pT_hex (x := z) (tk := tk) hs hk
  have hp1 := hexF_pos s 4 k 0 hk
  have hcv : rdU s k l = rdH s k z tk := by unfold rdU; rw [hz, htk]
  rw [hcv]
  obtain ⟨j, hj⟩ : ∃ j, (hexF s 4 k 0).2 = j := ⟨_, rfl⟩
  rw [hj] at q1 hp1
  have fin : ∀ (j r : Nat), r ≤ 1114111 ∧ (r < 55296 ∨ 57343 < r) → ∃ z' tk', pT 123 [z, .v (.int .i32 (r : Int))] (rdH s j z tk) = some (gsl (byts (l ++ encU r)), rdH s j z tk') ∧ z' = gsl (byts (l ++ encU r)) ∧ rdU s j (l ++ encU r) = rdH s j (gsl (byts (l ++ encU r))) tk' := by
    intro j r hr
    refine ⟨_, (ghp 5 (byts (l ++ encU r))).toks, ?_, rfl, rfl⟩
    have := pT_ap (H := rdH s j z tk) (l := l) (r := r) ⟨htk.symm, hl, hr.1, hr.2⟩
    rw [hz] at this
    exact this
  cases hx : (hexF s 4 k 0).1 with
  | none =>
    have hf : pointF s k = (none, j) := by unfold pointF; rw [hx, hj]
    rw [hf]
    have hcv' : rdU s ((none, j) : Option Nat × Nat).2 (pointL l ((none, j) : Option Nat × Nat).1) = rdH s j z tk := by show rdU s j l = _; unfold rdU; rw [hz, htk]
    rw [hcv']
    rw [hx] at q1
    simp only [hexV] at q1
    clear hcv hcv' hz htk fin
    refine call_of_wk (call := pT) (fn := Tryd.f108) (rs := [.tmp 2]) cokN pT_ok (fns_cfg Tryd.func108 rfl) rfl rfl ?_
    intro env hl0 hargs
    have hn : env.length = 45 := hl0
    have h0 := hargs 0 _ rfl
    clear hargs hl0
    refine wkT_of ?_
    simp -dsimp only [hn, h0, ct_own (C := cfgP fun _ => none) (f := 121) rfl rfl, q1, wt_seq, wt_block, wt_region, wt_cond, wt_skip, wt_ret, wt_exit, wst_nil, wst_cons, wst_guard, andThen_normal, andThen_ret, andThen_exit, leave_normal, leave_ret, leave_exit, EndsA_ret, EndsA_normal, ot_move, ot_assign, ot_pick, ot_binOp, ot_unOp, ot_convert, ot_field, ot_index, ot_indexAddr, ot_fieldAddr, ot_slice, ot_build, ot_buildSlice, ot_extract, ot_makeInterface, ot_makeFunc, ot_nilCheck, ot_call, ot_len, ot_append, ot_box, ot_load, ot_store, ot_makeSlice, ot_alloc, ot_sliceData, ot_unsafeString, ct_bool, ct_true, ct_false, bt_some, gt_some, aval_tmp, aval_int, aval_bool, aval_str, aval_slice, aval_nilPointer, aval_nilIface, aval_func, aval_global, avals, apairs, bareP, AV.bare, AV.bares, bin_lss, bin_leq, bin_gtr, bin_geq, bin_eql, bin_neq, bin_add, bin_sub, bin_mul, bin_and, bin_or, bin_xor, toV_int, toV_bool, toV_string, un_neg, un_not, bin_str_eql, bin_str_neq, bin_str_lss, bin_str_leq, bin_str_gtr, bin_str_geq, aget_aput, length_aput, aput_none, Nat.reduceEqDiff, Nat.reduceLT, Nat.reduceAdd, ↓reduceIte, reduceCtorEq, Bool.not_false, Bool.not_true, Bool.true_or, true_and, Option.bind_some, Option.map_some, List.nil_append, List.cons_append, resA, resA1, resVal, Option.getD_some, Nat.reduceLeDiff, bnd_some, yieldA_eq, yldOf_some, boolOf_bool, boolOf_undef, gt_none, List.getElem?_toArray, List.getElem?_cons_succ, List.getElem?_cons_zero, bq_true, bq_false, decide_true, decide_false, Option.toList_none, Option.toList_some, List.head?_cons, List.head?_nil, nb_cfg, not_false_eq_true, cv_some, pm_some, pm_none, plainA_v, plain_bool, plain_int, plain_str, Bool.false_eq_true, if_false]
    exact ⟨rfl, trivial⟩
  | some n =>
    have hn16 := hexF_lt s 4 _ _ _ hx
    rw [hx] at q1
    simp only [hexV] at q1
    by_cases c1 : 56320 ≤ n ∧ n < 57344
    · have g1 : decide ((56320 : Int) ≤ (n : Int)) = true := decide_eq_true (by omega)
      have g2 : decide ((n : Int) < 57344) = true := decide_eq_true (by omega)
      have hf : pointF s k = (none, j) := by unfold pointF; rw [hx, hj]; exact if_pos c1
      rw [hf]
      have hcv' : rdU s ((none, j) : Option Nat × Nat).2 (pointL l ((none, j) : Option Nat × Nat).1) = rdH s j z tk := by show rdU s j l = _; unfold rdU; rw [hz, htk]
      rw [hcv']
      clear hcv hcv' hz htk fin
      refine call_of_wk (call := pT) (fn := Tryd.f108) (rs := [.tmp 2]) cokN pT_ok (fns_cfg Tryd.func108 rfl) rfl rfl ?_
      intro env hl0 hargs
      have hn : env.length = 45 := hl0
      have h0 := hargs 0 _ rfl
      clear hargs hl0
      refine wkT_of ?_
      simp -dsimp only [hn, h0, ct_own (C := cfgP fun _ => none) (f := 121) rfl rfl, q1, g1, g2, wt_seq, wt_block, wt_region, wt_cond, wt_skip, wt_ret, wt_exit, wst_nil, wst_cons, wst_guard, andThen_normal, andThen_ret, andThen_exit, leave_normal, leave_ret, leave_exit, EndsA_ret, EndsA_normal, ot_move, ot_assign, ot_pick, ot_binOp, ot_unOp, ot_convert, ot_field, ot_index, ot_indexAddr, ot_fieldAddr, ot_slice, ot_build, ot_buildSlice, ot_extract, ot_makeInterface, ot_makeFunc, ot_nilCheck, ot_call, ot_len, ot_append, ot_box, ot_load, ot_store, ot_makeSlice, ot_alloc, ot_sliceData, ot_unsafeString, ct_bool, ct_true, ct_false, bt_some, gt_some, aval_tmp, aval_int, aval_bool, aval_str, aval_slice, aval_nilPointer, aval_nilIface, aval_func, aval_global, avals, apairs, bareP, AV.bare, AV.bares, bin_lss, bin_leq, bin_gtr, bin_geq, bin_eql, bin_neq, bin_add, bin_sub, bin_mul, bin_and, bin_or, bin_xor, toV_int, toV_bool, toV_string, un_neg, un_not, bin_str_eql, bin_str_neq, bin_str_lss, bin_str_leq, bin_str_gtr, bin_str_geq, aget_aput, length_aput, aput_none, Nat.reduceEqDiff, Nat.reduceLT, Nat.reduceAdd, ↓reduceIte, reduceCtorEq, Bool.not_false, Bool.not_true, Bool.true_or, true_and, Option.bind_some, Option.map_some, List.nil_append, List.cons_append, resA, resA1, resVal, Option.getD_some, Nat.reduceLeDiff, bnd_some, yieldA_eq, yldOf_some, boolOf_bool, boolOf_undef, gt_none, List.getElem?_toArray, List.getElem?_cons_succ, List.getElem?_cons_zero, bq_true, bq_false, decide_true, decide_false, Option.toList_none, Option.toList_some, List.head?_cons, List.head?_nil, nb_cfg, not_false_eq_true, cv_some, pm_some, pm_none, plainA_v, plain_bool, plain_int, plain_str, Bool.false_eq_true, if_false]
      exact ⟨rfl, trivial⟩
    · by_cases c2 : 55296 ≤ n ∧ n < 56320
      · have g1 : decide ((56320 : Int) ≤ (n : Int)) = false := decide_eq_false (by omega)
        have g3 : decide ((55296 : Int) ≤ (n : Int)) = true := decide_eq_true (by omega)
        have g4 : decide ((n : Int) < 56320) = true := decide_eq_true (by omega)
        have hf : pointF s k = halfF s j n := by unfold pointF; rw [hx, hj]; show (if _ then _ else if _ then _ else _) = _; rw [if_neg c1, if_pos c2]
        rw [hf]
        have q2 := pT_half (x := z) (tk := tk) hs hp1 c2.1 c2.2
        have hv := fun r => halfF_ok (s := s) (k := j) (r := r) c2.1 c2.2
        have hp2 := halfF_pos (n := n) hp1
        obtain ⟨o, ho⟩ : ∃ o, halfF s j n = o := ⟨_, rfl⟩
        rw [ho] at q2 hv hp2 ⊢
        obtain ⟨o, j2⟩ := o
        cases o with
        | none =>
          have hcv' : rdU s ((none, j2) : Option Nat × Nat).2 (pointL l ((none, j2) : Option Nat × Nat).1) = rdH s j2 z tk := by show rdU s j2 l = _; unfold rdU; rw [hz, htk]
          rw [hcv']
          simp only [hexV] at q2
          clear hcv hcv' hz htk fin hv
          refine call_of_wk (call := pT) (fn := Tryd.f108) (rs := [.tmp 2]) cokN pT_ok (fns_cfg Tryd.func108 rfl) rfl rfl ?_
          intro env hl0 hargs
          have hn : env.length = 45 := hl0
          have h0 := hargs 0 _ rfl
          clear hargs hl0
          refine wkT_of ?_
          simp -dsimp only [hn, h0, ct_own (C := cfgP fun _ => none) (f := 121) rfl rfl, ct_own (C := cfgP fun _ => none) (f := 122) rfl rfl, ct_own (C := cfgP fun _ => none) (f := 123) rfl rfl, q1, q2, g1, g3, g4, wt_seq, wt_block, wt_region, wt_cond, wt_skip, wt_ret, wt_exit, wst_nil, wst_cons, wst_guard, andThen_normal, andThen_ret, andThen_exit, leave_normal, leave_ret, leave_exit, EndsA_ret, EndsA_normal, ot_move, ot_assign, ot_pick, ot_binOp, ot_unOp, ot_convert, ot_field, ot_index, ot_indexAddr, ot_fieldAddr, ot_slice, ot_build, ot_buildSlice, ot_extract, ot_makeInterface, ot_makeFunc, ot_nilCheck, ot_call, ot_len, ot_append, ot_box, ot_load, ot_store, ot_makeSlice, ot_alloc, ot_sliceData, ot_unsafeString, ct_bool, ct_true, ct_false, bt_some, gt_some, aval_tmp, aval_int, aval_bool, aval_str, aval_slice, aval_nilPointer, aval_nilIface, aval_func, aval_global, avals, apairs, bareP, AV.bare, AV.bares, bin_lss, bin_leq, bin_gtr, bin_geq, bin_eql, bin_neq, bin_add, bin_sub, bin_mul, bin_and, bin_or, bin_xor, toV_int, toV_bool, toV_string, un_neg, un_not, bin_str_eql, bin_str_neq, bin_str_lss, bin_str_leq, bin_str_gtr, bin_str_geq, aget_aput, length_aput, aput_none, Nat.reduceEqDiff, Nat.reduceLT, Nat.reduceAdd, ↓reduceIte, reduceCtorEq, Bool.not_false, Bool.not_true, Bool.true_or, true_and, Option.bind_some, Option.map_some, List.nil_append, List.cons_append, resA, resA1, resVal, Option.getD_some, Nat.reduceLeDiff, bnd_some, yieldA_eq, yldOf_some, boolOf_bool, boolOf_undef, gt_none, List.getElem?_toArray, List.getElem?_cons_succ, List.getElem?_cons_zero, bq_true, bq_false, decide_true, decide_false, Option.toList_none, Option.toList_some, List.head?_cons, List.head?_nil, nb_cfg, not_false_eq_true, cv_some, pm_some, pm_none, plainA_v, plain_bool, plain_int, plain_str, Bool.false_eq_true, if_false]
          exact ⟨rfl, trivial⟩
        | some r =>
          have hvr := hv r rfl
          clear hv
          simp only [hexV] at q2
          obtain ⟨_, tk', qa, _, hr⟩ := fin j2 r (by omega)
          have hcv' : rdU s ((some r, j2) : Option Nat × Nat).2 (pointL l ((some r, j2) : Option Nat × Nat).1) = rdH s j2 (gsl (byts (l ++ encU r))) tk' := hr
          rw [hcv']
          clear hcv hcv' hz htk fin hr
          refine call_of_wk (call := pT) (fn := Tryd.f108) (rs := [.tmp 2]) cokN pT_ok (fns_cfg Tryd.func108 rfl) rfl rfl ?_
          intro env hl0 hargs
          have hn : env.length = 45 := hl0
          have h0 := hargs 0 _ rfl
          clear hargs hl0
          refine wkT_of ?_
          simp -dsimp only [hn, h0, ct_own (C := cfgP fun _ => none) (f := 121) rfl rfl, ct_own (C := cfgP fun _ => none) (f := 122) rfl rfl, ct_own (C := cfgP fun _ => none) (f := 123) rfl rfl, q1, q2, g1, g3, g4, qa, rf2, rp72, rdH_blk, AV.cells, Nat.zero_add, List.getElem?_cons_zero, List.getElem?_cons_succ, rdH_store2, wt_seq, wt_block, wt_region, wt_cond, wt_skip, wt_ret, wt_exit, wst_nil, wst_cons, wst_guard, andThen_normal, andThen_ret, andThen_exit, leave_normal, leave_ret, leave_exit, EndsA_ret, EndsA_normal, ot_move, ot_assign, ot_pick, ot_binOp, ot_unOp, ot_convert, ot_field, ot_index, ot_indexAddr, ot_fieldAddr, ot_slice, ot_build, ot_buildSlice, ot_extract, ot_makeInterface, ot_makeFunc, ot_nilCheck, ot_call, ot_len, ot_append, ot_box, ot_load, ot_store, ot_makeSlice, ot_alloc, ot_sliceData, ot_unsafeString, ct_bool, ct_true, ct_false, bt_some, gt_some, aval_tmp, aval_int, aval_bool, aval_str, aval_slice, aval_nilPointer, aval_nilIface, aval_func, aval_global, avals, apairs, bareP, AV.bare, AV.bares, bin_lss, bin_leq, bin_gtr, bin_geq, bin_eql, bin_neq, bin_add, bin_sub, bin_mul, bin_and, bin_or, bin_xor, toV_int, toV_bool, toV_string, un_neg, un_not, bin_str_eql, bin_str_neq, bin_str_lss, bin_str_leq, bin_str_gtr, bin_str_geq, aget_aput, length_aput, aput_none, Nat.reduceEqDiff, Nat.reduceLT, Nat.reduceAdd, ↓reduceIte, reduceCtorEq, Bool.not_false, Bool.not_true, Bool.true_or, true_and, Option.bind_some, Option.map_some, List.nil_append, List.cons_append, resA, resA1, resVal, Option.getD_some, Nat.reduceLeDiff, bnd_some, yieldA_eq, yldOf_some, boolOf_bool, boolOf_undef, gt_none, List.getElem?_toArray, List.getElem?_cons_succ, List.getElem?_cons_zero, bq_true, bq_false, decide_true, decide_false, Option.toList_none, Option.toList_some, List.head?_cons, List.head?_nil, nb_cfg, not_false_eq_true, cv_some, pm_some, pm_none, plainA_v, plain_bool, plain_int, plain_str, Bool.false_eq_true, if_false]
          exact ⟨rfl, trivial⟩
      · have hf : pointF s k = (some n, j) := by unfold pointF; rw [hx, hj]; show (if _ then _ else if _ then _ else _) = _; rw [if_neg c1, if_neg c2]
        rw [hf]
        by_cases c3 : n < 55296
        · have g1 : decide ((56320 : Int) ≤ (n : Int)) = false := decide_eq_false (by omega)
          have g3 : decide ((55296 : Int) ≤ (n : Int)) = false := decide_eq_false (by omega)
          obtain ⟨_, tk', qa, _, hr⟩ := fin j n (by omega)
          have hcv' : rdU s ((some n, j) : Option Nat × Nat).2 (pointL l ((some n, j) : Option Nat × Nat).1) = rdH s j (gsl (byts (l ++ encU n))) tk' := hr
          rw [hcv']
          clear hcv hcv' hz htk fin hr
          refine call_of_wk (call := pT) (fn := Tryd.f108) (rs := [.tmp 2]) cokN pT_ok (fns_cfg Tryd.func108 rfl) rfl rfl ?_
          intro env hl0 hargs
          have hn : env.length = 45 := hl0
          have h0 := hargs 0 _ rfl
          clear hargs hl0
          refine wkT_of ?_
          simp -dsimp only [hn, h0, ct_own (C := cfgP fun _ => none) (f := 121) rfl rfl, ct_own (C := cfgP fun _ => none) (f := 122) rfl rfl, ct_own (C := cfgP fun _ => none) (f := 123) rfl rfl, q1, g1, g3, qa, rf2, rp72, rdH_blk, AV.cells, Nat.zero_add, List.getElem?_cons_zero, List.getElem?_cons_succ, rdH_store2, wt_seq, wt_block, wt_region, wt_cond, wt_skip, wt_ret, wt_exit, wst_nil, wst_cons, wst_guard, andThen_normal, andThen_ret, andThen_exit, leave_normal, leave_ret, leave_exit, EndsA_ret, EndsA_normal, ot_move, ot_assign, ot_pick, ot_binOp, ot_unOp, ot_convert, ot_field, ot_index, ot_indexAddr, ot_fieldAddr, ot_slice, ot_build, ot_buildSlice, ot_extract, ot_makeInterface, ot_makeFunc, ot_nilCheck, ot_call, ot_len, ot_append, ot_box, ot_load, ot_store, ot_makeSlice, ot_alloc, ot_sliceData, ot_unsafeString, ct_bool, ct_true, ct_false, bt_some, gt_some, aval_tmp, aval_int, aval_bool, aval_str, aval_slice, aval_nilPointer, aval_nilIface, aval_func, aval_global, avals, apairs, bareP, AV.bare, AV.bares, bin_lss, bin_leq, bin_gtr, bin_geq, bin_eql, bin_neq, bin_add, bin_sub, bin_mul, bin_and, bin_or, bin_xor, toV_int, toV_bool, toV_string, un_neg, un_not, bin_str_eql, bin_str_neq, bin_str_lss, bin_str_leq, bin_str_gtr, bin_str_geq, aget_aput, length_aput, aput_none, Nat.reduceEqDiff, Nat.reduceLT, Nat.reduceAdd, ↓reduceIte, reduceCtorEq, Bool.not_false, Bool.not_true, Bool.true_or, true_and, Option.bind_some, Option.map_some, List.nil_append, List.cons_append, resA, resA1, resVal, Option.getD_some, Nat.reduceLeDiff, bnd_some, yieldA_eq, yldOf_some, boolOf_bool, boolOf_undef, gt_none, List.getElem?_toArray, List.getElem?_cons_succ, List.getElem?_cons_zero, bq_true, bq_false, decide_true, decide_false, Option.toList_none, Option.toList_some, List.head?_cons, List.head?_nil, nb_cfg, not_false_eq_true, cv_some, pm_some, pm_none, plainA_v, plain_bool, plain_int, plain_str, Bool.false_eq_true, if_false]
          exact ⟨rfl, trivial⟩
        · have g1 : decide ((56320 : Int) ≤ (n : Int)) = true := decide_eq_true (by omega)
          have g2 : decide ((n : Int) < 57344) = false := decide_eq_false (by omega)
          have g3 : decide ((55296 : Int) ≤ (n : Int)) = true := decide_eq_true (by omega)
          have g4 : decide ((n : Int) < 56320) = false := decide_eq_false (by omega)
          obtain ⟨_, tk', qa, _, hr⟩ := fin j n (by omega)
          have hcv' : rdU s ((some n, j) : Option Nat × Nat).2 (pointL l ((some n, j) : Option Nat × Nat).1) = rdH s j (gsl (byts (l ++ encU n))) tk' := hr
          rw [hcv']
          clear hcv hcv' hz htk fin hr
          refine call_of_wk (call := pT) (fn := Tryd.f108) (rs := [.tmp 2]) cokN pT_ok (fns_cfg Tryd.func108 rfl) rfl rfl ?_
          intro env hl0 hargs
          have hn : env.length = 45 := hl0
          have h0 := hargs 0 _ rfl
          clear hargs hl0
          refine wkT_of ?_
          simp -dsimp only [hn, h0, ct_own (C := cfgP fun _ => none) (f := 121) rfl rfl, ct_own (C := cfgP fun _ => none) (f := 122) rfl rfl, ct_own (C := cfgP fun _ => none) (f := 123) rfl rfl, q1, g1, g2, g3, g4, qa, rf2, rp72, rdH_blk, AV.cells, Nat.zero_add, List.getElem?_cons_zero, List.getElem?_cons_succ, rdH_store2, wt_seq, wt_block, wt_region, wt_cond, wt_skip, wt_ret, wt_exit, wst_nil, wst_cons, wst_guard, andThen_normal, andThen_ret, andThen_exit, leave_normal, leave_ret, leave_exit, EndsA_ret, EndsA_normal, ot_move, ot_assign, ot_pick, ot_binOp, ot_unOp, ot_convert, ot_field, ot_index, ot_indexAddr, ot_fieldAddr, ot_slice, ot_build, ot_buildSlice, ot_extract, ot_makeInterface, ot_makeFunc, ot_nilCheck, ot_call, ot_len, ot_append, ot_box, ot_load, ot_store, ot_makeSlice, ot_alloc, ot_sliceData, ot_unsafeString, ct_bool, ct_true, ct_false, bt_some, gt_some, aval_tmp, aval_int, aval_bool, aval_str, aval_slice, aval_nilPointer, aval_nilIface, aval_func, aval_global, avals, apairs, bareP, AV.bare, AV.bares, bin_lss, bin_leq, bin_gtr, bin_geq, bin_eql, bin_neq, bin_add, bin_sub, bin_mul, bin_and, bin_or, bin_xor, toV_int, toV_bool, toV_string, un_neg, un_not, bin_str_eql, bin_str_neq, bin_str_lss, bin_str_leq, bin_str_gtr, bin_str_geq, aget_aput, length_aput, aput_none, Nat.reduceEqDiff, Nat.reduceLT, Nat.reduceAdd, ↓reduceIte, reduceCtorEq, Bool.not_false, Bool.not_true, Bool.true_or, true_and, Option.bind_some, Option.map_some, List.nil_append, List.cons_append, resA, resA1, resVal, Option.getD_some, Nat.reduceLeDiff, bnd_some, yieldA_eq, yldOf_some, boolOf_bool, boolOf_undef, gt_none, List.getElem?_toArray, List.getElem?_cons_succ, List.getElem?_cons_zero, bq_true, bq_false, decide_true, decide_false, Option.toList_none, Option.toList_some, List.head?_cons, List.head?_nil, nb_cfg, not_false_eq_true, cv_some, pm_some, pm_none, plainA_v, plain_bool, plain_int, plain_str, Bool.false_eq_true, if_false]
          exact ⟨rfl, trivial⟩
end Go.Proofs.YtjejeijldllloaaDoor

/- Chapter 1: what stands behind a backslash. -/
namespace Go.Proofs.YtjejeijldllloaaDoor
open Go.AM
theorem sim_prim {p q : FuncId → Option (List AV → Option AV)} {G : Gs} {H : Hp} {W : World} (h : Sim (cfgP p) G H W) : Sim (cfgP q) G H W where
  base := h.base
  im := h.im
  lit := h.lit
  own := h.own
  tok := h.tok
  tokN := h.tokN
  blk := h.blk
  blkN := h.blkN
  gl := h.gl
theorem call_prim {p q : FuncId → Option (List AV → Option AV)} {f : FuncId} {xs : List AV} {H H' : Hp} {r : AV} (h : CallOk (cfgP p) f xs H r H') : CallOk (cfgP q) f xs H r H' := fun G W vs S rv =>
  (h G W vs (sim_prim S) rv).mono fun e W' ⟨y, he, G', r1, S', A⟩ => ⟨y, he, G', r1, sim_prim S', A⟩
theorem calls_prim {p q : FuncId → Option (List AV → Option AV)} {T : FuncId → List AV → Hp → Option (AV × Hp)} (h : CallsOk (cfgP p) T) : CallsOk (cfgP q) T :=
  ⟨fun f args H r H' hy => ⟨(h.ok f args H r H' hy).1, call_prim (h.ok f args H r H' hy).2⟩⟩
structure Ru where
  s : List UInt8
  k : Nat
  l : List UInt8
def Ru.H (p : Ru) : Hp := rdU p.s p.k p.l
def Ru.ok (p : Ru) : Prop := p.s.length < 2 ^ 62 ∧ p.k ≤ p.s.length ∧ p.l.length < 2 ^ 39
theorem Ru.inj {p q : Ru} (h : p.H = q.H) : p = q := by
  obtain ⟨a, b, c, d⟩ := rdH_inj h
  have e := congrArg elems c
  rw [elems_gsl, elems_gsl] at e
  have e := byts_inj (Option.some.inj e)
  cases p; cases q
  simp_all
noncomputable def pointT := relT 108 Ru.ok (fun _ => [.ptr 0 0 0 0]) Ru.H (fun p => .v (.bool (pointF p.s p.k).1.isSome)) (fun p => rdU p.s (pointF p.s p.k).2 (pointL p.l (pointF p.s p.k).1))
theorem pointT_ok : CallsOk (cfgP fun _ => none) pointT := relT_ok (fns_cfg Tryd.func108 rfl) rfl fun p h => point_ok p.s p.k p.l h.1 h.2.1 h.2.2
theorem pointT_eq {s : List UInt8} {k : Nat} {l : List UInt8} (h : s.length < 2 ^ 62) (hk : k ≤ s.length) (hl : l.length < 2 ^ 39) : pointT 108 [.ptr 0 0 0 0] (rdU s k l) = some (.v (.bool (pointF s k).1.isSome), rdU s (pointF s k).2 (pointL l (pointF s k).1)) :=
  relT_eq (f0 := 108) (X := Ru.ok) (a := fun _ => [.ptr 0 0 0 0]) (h := Ru.H) (r := fun p => .v (.bool (pointF p.s p.k).1.isSome)) (h' := fun p => rdU p.s (pointF p.s p.k).2 (pointL p.l (pointF p.s p.k).1)) (fun p q _ _ _ h => by rw [Ru.inj h]; exact ⟨rfl, rfl⟩) ⟨s, k, l⟩ ⟨h, hk, hl⟩
noncomputable def eT := orT nextT pointT
theorem eT_ok : CallsOk (cfgP ul1) eT := calls_prim (orT_ok nextT_ok pointT_ok)
theorem eT_next {s : List UInt8} {k : Nat} {l : List UInt8} (h : s.length < 2 ^ 62) (hk : k ≤ s.length) : eT 90 [.ptr 0 0 0 0] (rdU s k l) = some (nextV s k, rdU s (nextK s k) l) := orT_l (nextT_eq h hk)
theorem eT_point {s : List UInt8} {k : Nat} {l : List UInt8} (h : s.length < 2 ^ 62) (hk : k ≤ s.length) (hl : l.length < 2 ^ 39) : eT 108 [.ptr 0 0 0 0] (rdU s k l) = some (.v (.bool (pointF s k).1.isSome), rdU s (pointF s k).2 (pointL l (pointF s k).1)) :=
  orT_r (relT_none (by decide)) (pointT_eq h hk hl)
/-- What stands behind a backslash: whether it may, where it stops, what is said. -/
def escF (s : List UInt8) (k : Nat) (l : List UInt8) : Bool × Nat × List UInt8 := match s[k]? with
  | none => (false, k, l)
  | some c => if c.toNat = 117 then ((pointF s (k + 1)).1.isSome, (pointF s (k + 1)).2, pointL l (pointF s (k + 1)).1) else match longN c.toNat with
    | some x => (true, k + 1, l ++ [UInt8.ofNat x])
    | none => (false, k + 1, l)
theorem rdU_blk {s : List UInt8} {k : Nat} {l : List UInt8} : blkAt (rdU s k l) 0 0 = some ⟨0, 3, [.agg [str s, .v (.int .i64 (k : Int)), gsl (byts l)]]⟩ := rfl
theorem longN_lt {c x : Nat} (h : longN c = some x) : x < 256 := by
  unfold longN at h
  repeat' split at h
  all_goals first | (injection h with h; omega) | cases h
set_option maxHeartbeats 4000000 in
set_option maxRecDepth 100000 in
theorem esc_ok (s : List UInt8) (k : Nat) (l : List UInt8) (hs : s.length < 2 ^ 62) (hk : k ≤ s.length) (hl : l.length < 2 ^ 39) :
    CallOk (cfgP ul1) 91 [.ptr 0 0 0 0] (rdU s k l) (.v (.bool (escF s k l).1)) (rdU s (escF s k l).2.1 (escF s k l).2.2) := by
  have q1 := eT_next (l := l) hs hk
  cases e1 : s[k]? with
  | none =>
    obtain ⟨v1, k1⟩ := nextV_none e1
    rw [v1, k1] at q1
    have hf : escF s k l = (false, k, l) := by unfold escF; rw [e1]
    rw [hf]
    have qb := b1P_eq (g := longV) (c := 0)
    refine call_of_wk (call := eT) (fn := Tryd.f91) (rs := [.tmp 2]) ul1_ok eT_ok (fns_cfg Tryd.func91 rfl) rfl rfl ?_
    intro env hl0 hargs
    have hn : env.length = 40 := hl0
    have h0 := hargs 0 _ rfl
    clear hargs hl0
    refine wkT_of ?_
    simp -dsimp only [hn, h0, ct_own (C := cfgP ul1) (f := 90) rfl rfl, q1, ct_prim ul1_109, Bool.not_false, show b1P longV [.v (.int .u8 0)] = some (.tup [.v (.int .u8 0), .v (.bool false)]) from qb, wt_seq, wt_block, wt_region, wt_cond, wt_skip, wt_ret, wt_exit, wst_nil, wst_cons, wst_guard, andThen_normal, andThen_ret, andThen_exit, leave_normal, leave_ret, leave_exit, EndsA_ret, EndsA_normal, ot_move, ot_assign, ot_pick, ot_binOp, ot_unOp, ot_convert, ot_field, ot_index, ot_indexAddr, ot_fieldAddr, ot_slice, ot_build, ot_buildSlice, ot_extract, ot_makeInterface, ot_makeFunc, ot_nilCheck, ot_call, ot_len, ot_append, ot_box, ot_load, ot_store, ot_makeSlice, ot_alloc, ot_sliceData, ot_unsafeString, ct_bool, ct_true, ct_false, bt_some, gt_some, aval_tmp, aval_int, aval_bool, aval_str, aval_slice, aval_nilPointer, aval_nilIface, aval_func, aval_global, avals, apairs, bareP, AV.bare, AV.bares, bin_lss, bin_leq, bin_gtr, bin_geq, bin_eql, bin_neq, bin_add, bin_sub, bin_mul, bin_and, bin_or, bin_xor, toV_int, toV_bool, toV_string, un_neg, un_not, bin_str_eql, bin_str_neq, bin_str_lss, bin_str_leq, bin_str_gtr, bin_str_geq, aget_aput, length_aput, aput_none, Nat.reduceEqDiff, Nat.reduceLT, Nat.reduceAdd, ↓reduceIte, reduceCtorEq, Bool.not_false, Bool.not_true, Bool.true_or, true_and, Option.bind_some, Option.map_some, List.nil_append, List.cons_append, resA, resA1, resVal, Option.getD_some, Nat.reduceLeDiff, bnd_some, yieldA_eq, yldOf_some, boolOf_bool, boolOf_undef, gt_none, List.getElem?_toArray, List.getElem?_cons_succ, List.getElem?_cons_zero, bq_true, bq_false, decide_true, decide_false, Option.toList_none, Option.toList_some, List.head?_cons, List.head?_nil, nb_cfg, not_false_eq_true, cv_some, pm_some, pm_none, plainA_v, plain_bool, plain_int, plain_str, Bool.false_eq_true, if_false]
  | some c =>
    obtain ⟨v1, k1⟩ := nextV_some e1
    rw [v1, k1] at q1
    have hkl : k < s.length := (List.getElem?_eq_some_iff.1 e1).1
    by_cases hu : c.toNat = 117
    · have g1 : decide ((c.toNat : Int) = 117) = true := decide_eq_true (by omega)
      have q2 := eT_point (k := k + 1) hs (by omega) hl
      have hf : escF s k l = ((pointF s (k + 1)).1.isSome, (pointF s (k + 1)).2, pointL l (pointF s (k + 1)).1) := by unfold escF; rw [e1]; exact if_pos hu
      rw [hf]
      obtain ⟨b, hb⟩ : ∃ b, (pointF s (k + 1)).1.isSome = b := ⟨_, rfl⟩
      obtain ⟨H', hH⟩ : ∃ H', rdU s (pointF s (k + 1)).2 (pointL l (pointF s (k + 1)).1) = H' := ⟨_, rfl⟩
      show CallOk _ _ _ _ (.v (.bool (pointF s (k + 1)).1.isSome)) (rdU s (pointF s (k + 1)).2 (pointL l (pointF s (k + 1)).1))
      rw [hb, hH] at q2 ⊢
      clear hf hb hH hs
      refine call_of_wk (call := eT) (fn := Tryd.f91) (rs := [.tmp 2]) ul1_ok eT_ok (fns_cfg Tryd.func91 rfl) rfl rfl ?_
      intro env hl0 hargs
      have hn : env.length = 40 := hl0
      have h0 := hargs 0 _ rfl
      clear hargs hl0
      refine wkT_of ?_
      simp -dsimp only [hn, h0, ct_own (C := cfgP ul1) (f := 90) rfl rfl, ct_own (C := cfgP ul1) (f := 108) rfl rfl, q1, q2, g1, wt_seq, wt_block, wt_region, wt_cond, wt_skip, wt_ret, wt_exit, wst_nil, wst_cons, wst_guard, andThen_normal, andThen_ret, andThen_exit, leave_normal, leave_ret, leave_exit, EndsA_ret, EndsA_normal, ot_move, ot_assign, ot_pick, ot_binOp, ot_unOp, ot_convert, ot_field, ot_index, ot_indexAddr, ot_fieldAddr, ot_slice, ot_build, ot_buildSlice, ot_extract, ot_makeInterface, ot_makeFunc, ot_nilCheck, ot_call, ot_len, ot_append, ot_box, ot_load, ot_store, ot_makeSlice, ot_alloc, ot_sliceData, ot_unsafeString, ct_bool, ct_true, ct_false, bt_some, gt_some, aval_tmp, aval_int, aval_bool, aval_str, aval_slice, aval_nilPointer, aval_nilIface, aval_func, aval_global, avals, apairs, bareP, AV.bare, AV.bares, bin_lss, bin_leq, bin_gtr, bin_geq, bin_eql, bin_neq, bin_add, bin_sub, bin_mul, bin_and, bin_or, bin_xor, toV_int, toV_bool, toV_string, un_neg, un_not, bin_str_eql, bin_str_neq, bin_str_lss, bin_str_leq, bin_str_gtr, bin_str_geq, aget_aput, length_aput, aput_none, Nat.reduceEqDiff, Nat.reduceLT, Nat.reduceAdd, ↓reduceIte, reduceCtorEq, Bool.not_false, Bool.not_true, Bool.true_or, true_and, Option.bind_some, Option.map_some, List.nil_append, List.cons_append, resA, resA1, resVal, Option.getD_some, Nat.reduceLeDiff, bnd_some, yieldA_eq, yldOf_some, boolOf_bool, boolOf_undef, gt_none, List.getElem?_toArray, List.getElem?_cons_succ, List.getElem?_cons_zero, bq_true, bq_false, decide_true, decide_false, Option.toList_none, Option.toList_some, List.head?_cons, List.head?_nil, nb_cfg, not_false_eq_true, cv_some, pm_some, pm_none, plainA_v, plain_bool, plain_int, plain_str, Bool.false_eq_true, if_false]
    · have g1 : decide ((c.toNat : Int) = 117) = false := decide_eq_false (by omega)
      have qb := b1P_eq (g := longV) (c := c)
      cases hlg : longN c.toNat with
      | none =>
        have hv : longV c.toNat = .tup [.v (.int .u8 0), .v (.bool false)] := by unfold longV; rw [hlg]
        rw [hv] at qb
        have hf : escF s k l = (false, k + 1, l) := by unfold escF; rw [e1]; show (if _ then _ else _) = _; rw [if_neg hu, hlg]
        rw [hf]
        refine call_of_wk (call := eT) (fn := Tryd.f91) (rs := [.tmp 2]) ul1_ok eT_ok (fns_cfg Tryd.func91 rfl) rfl rfl ?_
        intro env hl0 hargs
        have hn : env.length = 40 := hl0
        have h0 := hargs 0 _ rfl
        clear hargs hl0
        refine wkT_of ?_
        simp -dsimp only [hn, h0, ct_own (C := cfgP ul1) (f := 90) rfl rfl, q1, g1, ct_prim ul1_109, Bool.not_false, Bool.not_true, qb, wt_seq, wt_block, wt_region, wt_cond, wt_skip, wt_ret, wt_exit, wst_nil, wst_cons, wst_guard, andThen_normal, andThen_ret, andThen_exit, leave_normal, leave_ret, leave_exit, EndsA_ret, EndsA_normal, ot_move, ot_assign, ot_pick, ot_binOp, ot_unOp, ot_convert, ot_field, ot_index, ot_indexAddr, ot_fieldAddr, ot_slice, ot_build, ot_buildSlice, ot_extract, ot_makeInterface, ot_makeFunc, ot_nilCheck, ot_call, ot_len, ot_append, ot_box, ot_load, ot_store, ot_makeSlice, ot_alloc, ot_sliceData, ot_unsafeString, ct_bool, ct_true, ct_false, bt_some, gt_some, aval_tmp, aval_int, aval_bool, aval_str, aval_slice, aval_nilPointer, aval_nilIface, aval_func, aval_global, avals, apairs, bareP, AV.bare, AV.bares, bin_lss, bin_leq, bin_gtr, bin_geq, bin_eql, bin_neq, bin_add, bin_sub, bin_mul, bin_and, bin_or, bin_xor, toV_int, toV_bool, toV_string, un_neg, un_not, bin_str_eql, bin_str_neq, bin_str_lss, bin_str_leq, bin_str_gtr, bin_str_geq, aget_aput, length_aput, aput_none, Nat.reduceEqDiff, Nat.reduceLT, Nat.reduceAdd, ↓reduceIte, reduceCtorEq, Bool.not_false, Bool.not_true, Bool.true_or, true_and, Option.bind_some, Option.map_some, List.nil_append, List.cons_append, resA, resA1, resVal, Option.getD_some, Nat.reduceLeDiff, bnd_some, yieldA_eq, yldOf_some, boolOf_bool, boolOf_undef, gt_none, List.getElem?_toArray, List.getElem?_cons_succ, List.getElem?_cons_zero, bq_true, bq_false, decide_true, decide_false, Option.toList_none, Option.toList_some, List.head?_cons, List.head?_nil, nb_cfg, not_false_eq_true, cv_some, pm_some, pm_none, plainA_v, plain_bool, plain_int, plain_str, Bool.false_eq_true, if_false]
      | some x =>
        have hv : longV c.toNat = .tup [.v (.int .u8 (x : Int)), .v (.bool true)] := by unfold longV; rw [hlg]
        rw [hv] at qb
        have hf : escF s k l = (true, k + 1, l ++ [UInt8.ofNat x]) := by unfold escF; rw [e1]; show (if _ then _ else _) = _; rw [if_neg hu, hlg]
        rw [hf]
        have hx := longN_lt hlg
        have hap := app72 (prim := ul1) (l := l) (b := [UInt8.ofNat x]) (by simp) (by simp; omega) (H := rdU s (k + 1) l) rfl
        rw [show byts [UInt8.ofNat x] = [.v (.int .u8 (x : Int))] from by rw [byt_nat hx]; rfl] at hap
        have hst : storeA (cfgP ul1) 72 0 0 0 2 (gsl (byts (l ++ [UInt8.ofNat x]))) { rdU s (k + 1) l with toks := (ghp 5 (byts (l ++ [UInt8.ofNat x]))).toks } = some (rdU s (k + 1) (l ++ [UInt8.ofNat x])) := rdH_store2
        have hbk := rdU_blk (s := s) (k := k + 1) (l := l)
        obtain ⟨l2, hl2⟩ : ∃ l2, l ++ [UInt8.ofNat x] = l2 := ⟨_, rfl⟩
        rw [hl2] at hap hst ⊢
        refine call_of_wk (call := eT) (fn := Tryd.f91) (rs := [.tmp 2]) ul1_ok eT_ok (fns_cfg Tryd.func91 rfl) rfl rfl ?_
        intro env hl0 hargs
        have hn : env.length = 40 := hl0
        have h0 := hargs 0 _ rfl
        clear hargs hl0
        refine wkT_of ?_
        simp -dsimp only [hn, h0, ct_own (C := cfgP ul1) (f := 90) rfl rfl, q1, g1, ct_prim ul1_109, Bool.not_true, qb, rf2, rp72, hbk, AV.cells, Nat.zero_add, List.getElem?_cons_zero, List.getElem?_cons_succ, bs1, hap, hst, wt_seq, wt_block, wt_region, wt_cond, wt_skip, wt_ret, wt_exit, wst_nil, wst_cons, wst_guard, andThen_normal, andThen_ret, andThen_exit, leave_normal, leave_ret, leave_exit, EndsA_ret, EndsA_normal, ot_move, ot_assign, ot_pick, ot_binOp, ot_unOp, ot_convert, ot_field, ot_index, ot_indexAddr, ot_fieldAddr, ot_slice, ot_build, ot_buildSlice, ot_extract, ot_makeInterface, ot_makeFunc, ot_nilCheck, ot_call, ot_len, ot_append, ot_box, ot_load, ot_store, ot_makeSlice, ot_alloc, ot_sliceData, ot_unsafeString, ct_bool, ct_true, ct_false, bt_some, gt_some, aval_tmp, aval_int, aval_bool, aval_str, aval_slice, aval_nilPointer, aval_nilIface, aval_func, aval_global, avals, apairs, bareP, AV.bare, AV.bares, bin_lss, bin_leq, bin_gtr, bin_geq, bin_eql, bin_neq, bin_add, bin_sub, bin_mul, bin_and, bin_or, bin_xor, toV_int, toV_bool, toV_string, un_neg, un_not, bin_str_eql, bin_str_neq, bin_str_lss, bin_str_leq, bin_str_gtr, bin_str_geq, aget_aput, length_aput, aput_none, Nat.reduceEqDiff, Nat.reduceLT, Nat.reduceAdd, ↓reduceIte, reduceCtorEq, Bool.not_false, Bool.not_true, Bool.true_or, true_and, Option.bind_some, Option.map_some, List.nil_append, List.cons_append, resA, resA1, resVal, Option.getD_some, Nat.reduceLeDiff, bnd_some, yieldA_eq, yldOf_some, boolOf_bool, boolOf_undef, gt_none, List.getElem?_toArray, List.getElem?_cons_succ, List.getElem?_cons_zero, bq_true, bq_false, decide_true, decide_false, Option.toList_none, Option.toList_some, List.head?_cons, List.head?_nil, nb_cfg, not_false_eq_true, cv_some, pm_some, pm_none, plainA_v, plain_bool, plain_int, plain_str, Bool.false_eq_true, if_false]
end Go.Proofs.YtjejeijldllloaaDoor

/- Chapter 1: a text in quotes. -/
namespace Go.Proofs.YtjejeijldllloaaDoor
open Go.AM
theorem hexF_mono (s : List UInt8) : ∀ (i k n : Nat), k ≤ (hexF s i k n).2
  | 0, k, n => Nat.le_refl _
  | i + 1, k, n => by
    simp only [hexF]
    split
    · exact Nat.le_refl _
    · split
      · exact Nat.le_succ _
      · exact Nat.le_trans (Nat.le_succ _) (hexF_mono s i _ _)
theorem nextK_mono (s : List UInt8) (k : Nat) : k ≤ nextK s k := by
  unfold nextK
  split <;> omega
theorem halfF_mono (s : List UInt8) (k n : Nat) : k ≤ (halfF s k n).2 := by
  unfold halfF
  split
  · exact Nat.le_trans (by omega) (hexF_mono s 4 (k + 2) 0)
  · exact Nat.le_trans (nextK_mono s k) (nextK_mono s _)
theorem pointF_mono (s : List UInt8) (k : Nat) : k ≤ (pointF s k).2 := by
  have h := hexF_mono s 4 k 0
  unfold pointF
  split
  · exact h
  · split
    · exact h
    · split
      · exact Nat.le_trans h (halfF_mono s _ _)
      · exact h
theorem pointF_pos {s : List UInt8} {k : Nat} (hk : k ≤ s.length) : (pointF s k).2 ≤ s.length := by
  have h := hexF_pos s 4 k 0 hk
  unfold pointF
  split
  · exact h
  · split
    · exact h
    · split
      · exact halfF_pos h
      · exact h
theorem encU_len (r : Nat) : (encU r).length ≤ 4 := by
  unfold encU encN
  repeat' split
  all_goals simp
theorem pointL_len (l : List UInt8) (o : Option Nat) : (pointL l o).length ≤ l.length + 4 := by
  cases o with
  | none => simp [pointL]
  | some r => have := encU_len r; simp only [pointL, List.length_append]; omega
theorem escF_mono (s : List UInt8) (k : Nat) (l : List UInt8) (hk : k ≤ s.length) : k ≤ (escF s k l).2.1 ∧ (escF s k l).2.1 ≤ s.length ∧ (escF s k l).2.2.length ≤ l.length + 4 := by
  unfold escF
  split
  · exact ⟨Nat.le_refl _, hk, by simp⟩
  · rename_i c hc
    have hl : k < s.length := (List.getElem?_eq_some_iff.1 hc).1
    split
    · exact ⟨Nat.le_trans (Nat.le_succ _) (pointF_mono s _), pointF_pos (by omega), pointL_len _ _⟩
    · split
      · exact ⟨Nat.le_succ _, by show k + 1 ≤ _; omega, by simp⟩
      · exact ⟨Nat.le_succ _, by show k + 1 ≤ _; omega, by simp⟩
/-- What is read behind the first quote: whether it may, where it stops, what is said. -/
def unqF (s : List UInt8) : Nat → Nat → List UInt8 → Bool × Nat × List UInt8
  | 0, k, l => (false, k, l)
  | f + 1, k, l => match s[k]? with
    | none => (false, k, l)
    | some c => if c.toNat < 32 then (false, k + 1, l) else if c.toNat = 34 then (utfB l, k + 1, l) else if c.toNat = 92 then
        (if (escF s (k + 1) l).1 then unqF s f (escF s (k + 1) l).2.1 (escF s (k + 1) l).2.2 else (false, (escF s (k + 1) l).2.1, (escF s (k + 1) l).2.2))
      else unqF s f (k + 1) (l ++ [c])
def textF (s : List UInt8) : Bool × Nat × List UInt8 := match s[0]? with
  | none => (false, 0, [])
  | some c => if c.toNat = 34 then unqF s s.length 1 [] else (false, 1, [])
noncomputable def escT := relT 91 Ru.ok (fun _ => [.ptr 0 0 0 0]) Ru.H (fun p => .v (.bool (escF p.s p.k p.l).1)) (fun p => rdU p.s (escF p.s p.k p.l).2.1 (escF p.s p.k p.l).2.2)
theorem escT_ok : CallsOk (cfgP ul1) escT := relT_ok (fns_cfg Tryd.func91 rfl) rfl fun p h => esc_ok p.s p.k p.l h.1 h.2.1 h.2.2
theorem escT_eq {s : List UInt8} {k : Nat} {l : List UInt8} (h : s.length < 2 ^ 62) (hk : k ≤ s.length) (hl : l.length < 2 ^ 39) : escT 91 [.ptr 0 0 0 0] (rdU s k l) = some (.v (.bool (escF s k l).1), rdU s (escF s k l).2.1 (escF s k l).2.2) :=
  relT_eq (f0 := 91) (X := Ru.ok) (a := fun _ => [.ptr 0 0 0 0]) (h := Ru.H) (r := fun p => .v (.bool (escF p.s p.k p.l).1)) (h' := fun p => rdU p.s (escF p.s p.k p.l).2.1 (escF p.s p.k p.l).2.2) (fun p q _ _ _ h => by rw [Ru.inj h]; exact ⟨rfl, rfl⟩) ⟨s, k, l⟩ ⟨h, hk, hl⟩
def ug1 : FuncId → Option (List AV → Option AV) := tab [(22, validP)]
theorem ug1_ok : (cfgP ug1).Ok := cfg_ok (tab_ok ⟨prim_at Tryd.func22 (by kernel_rfl) rfl ((s1P_of good_ok)), trivial⟩)
theorem ug1_22 : (cfgP ug1).prim 22 = some validP := rfl
noncomputable def xT := orT nextT escT
theorem xT_ok : CallsOk (cfgP ug1) xT := orT_ok (calls_prim nextT_ok) (calls_prim escT_ok)
theorem xT_next {s : List UInt8} {k : Nat} {l : List UInt8} (h : s.length < 2 ^ 62) (hk : k ≤ s.length) : xT 90 [.ptr 0 0 0 0] (rdU s k l) = some (nextV s k, rdU s (nextK s k) l) := orT_l (nextT_eq h hk)
theorem xT_esc {s : List UInt8} {k : Nat} {l : List UInt8} (h : s.length < 2 ^ 62) (hk : k ≤ s.length) (hl : l.length < 2 ^ 39) : xT 91 [.ptr 0 0 0 0] (rdU s k l) = some (.v (.bool (escF s k l).1), rdU s (escF s k l).2.1 (escF s k l).2.2) :=
  orT_r (relT_none (by decide)) (escT_eq h hk hl)
theorem convG {prim : FuncId → Option (List AV → Option AV)} {l : List UInt8} : convA (cfgP prim) 72 9 (gsl (byts l)) = some (str l) := conv_str (e := 5) (by kernel_rfl) (by kernel_rfl) (by kernel_rfl) (elems_gsl _)
structure TxI (s : List UInt8) (m k : Nat) (l : List UInt8) (e : Env) (h : Hp) : Prop where
  len : e.length = 59
  hp : h = rdU s k l
  a0 : aget e 0 = .ptr 0 0 0 0
  a3 : aget e 3 = .fn (.func 90) [.ptr 0 0 0 0] []
  kl : k ≤ s.length
  ll : l.length ≤ 4 * k
  fu : s.length - k < m
  eq : unqF s m k l = unqF s s.length 1 []
set_option maxHeartbeats 4000000 in
set_option maxRecDepth 100000 in
theorem text_ok (s : List UInt8) (hs : s.length < 2 ^ 36) : CallOk (cfgP ug1) 60 [.ptr 0 0 0 0] (rdU s 0 []) (.v (.bool (textF s).1)) (rdU s (textF s).2.1 (textF s).2.2) := by
  have q1 := xT_next (l := []) (s := s) (k := 0) (by omega) (by omega)
  cases e1 : s[0]? with
  | none =>
    obtain ⟨v1, k1⟩ := nextV_none e1
    rw [v1, k1] at q1
    have hf : textF s = (false, 0, []) := by unfold textF; rw [e1]
    rw [hf]
    refine call_of_wk (call := xT) (fn := Tryd.f60) (rs := [.tmp 2]) ug1_ok xT_ok (fns_cfg Tryd.func60 rfl) rfl rfl ?_
    intro env hl0 hargs
    have hn : env.length = 59 := hl0
    have h0 := hargs 0 _ rfl
    clear hargs hl0
    refine wkT_of ?_
    simp -dsimp only [hn, h0, ct_own (C := cfgP ug1) (f := 90) rfl rfl, q1, Bool.not_false, Bool.not_true, List.append_nil, List.nil_append, wt_seq, wt_block, wt_region, wt_cond, wt_skip, wt_ret, wt_exit, wst_nil, wst_cons, wst_guard, andThen_normal, andThen_ret, andThen_exit, leave_normal, leave_ret, leave_exit, EndsA_ret, EndsA_normal, ot_move, ot_assign, ot_pick, ot_binOp, ot_unOp, ot_convert, ot_field, ot_index, ot_indexAddr, ot_fieldAddr, ot_slice, ot_build, ot_buildSlice, ot_extract, ot_makeInterface, ot_makeFunc, ot_nilCheck, ot_call, ot_len, ot_append, ot_box, ot_load, ot_store, ot_makeSlice, ot_alloc, ot_sliceData, ot_unsafeString, ct_bool, ct_true, ct_false, bt_some, gt_some, aval_tmp, aval_int, aval_bool, aval_str, aval_slice, aval_nilPointer, aval_nilIface, aval_func, aval_global, avals, apairs, bareP, AV.bare, AV.bares, bin_lss, bin_leq, bin_gtr, bin_geq, bin_eql, bin_neq, bin_add, bin_sub, bin_mul, bin_and, bin_or, bin_xor, toV_int, toV_bool, toV_string, un_neg, un_not, bin_str_eql, bin_str_neq, bin_str_lss, bin_str_leq, bin_str_gtr, bin_str_geq, aget_aput, length_aput, aput_none, Nat.reduceEqDiff, Nat.reduceLT, Nat.reduceAdd, ↓reduceIte, reduceCtorEq, Bool.not_false, Bool.not_true, Bool.true_or, true_and, Option.bind_some, Option.map_some, List.nil_append, List.cons_append, resA, resA1, resVal, Option.getD_some, Nat.reduceLeDiff, bnd_some, yieldA_eq, yldOf_some, boolOf_bool, boolOf_undef, gt_none, List.getElem?_toArray, List.getElem?_cons_succ, List.getElem?_cons_zero, bq_true, bq_false, decide_true, decide_false, Option.toList_none, Option.toList_some, List.head?_cons, List.head?_nil, nb_cfg, not_false_eq_true, cv_some, pm_some, pm_none, plainA_v, plain_bool, plain_int, plain_str, Bool.false_eq_true, if_false]
    done
  | some c =>
    obtain ⟨v1, k1⟩ := nextV_some e1
    rw [v1, k1] at q1
    have hkl : 0 < s.length := (List.getElem?_eq_some_iff.1 e1).1
    by_cases hc : c.toNat = 34
    · have g1 : (!decide ((c.toNat : Int) = 34)) = false := by simp; omega
      have hf : textF s = unqF s s.length 1 [] := by unfold textF; rw [e1]; exact if_pos hc
      rw [hf]
      refine call_of_wk (call := xT) (fn := Tryd.f60) (rs := [.tmp 2]) ug1_ok xT_ok (fns_cfg Tryd.func60 rfl) rfl rfl ?_
      intro env hl0 hargs
      have hn : env.length = 59 := hl0
      have h0 := hargs 0 _ rfl
      clear hargs hl0
      refine wkT_of ?_
      simp -dsimp only [hn, h0, ct_own (C := cfgP ug1) (f := 90) rfl rfl, q1, g1, Bool.not_false, Bool.not_true, List.append_nil, List.nil_append, wt_seq, wt_block, wt_region, wt_cond, wt_skip, wt_ret, wt_exit, wst_nil, wst_cons, wst_guard, andThen_normal, andThen_ret, andThen_exit, leave_normal, leave_ret, leave_exit, EndsA_ret, EndsA_normal, ot_move, ot_assign, ot_pick, ot_binOp, ot_unOp, ot_convert, ot_field, ot_index, ot_indexAddr, ot_fieldAddr, ot_slice, ot_build, ot_buildSlice, ot_extract, ot_makeInterface, ot_makeFunc, ot_nilCheck, ot_call, ot_len, ot_append, ot_box, ot_load, ot_store, ot_makeSlice, ot_alloc, ot_sliceData, ot_unsafeString, ct_bool, ct_true, ct_false, bt_some, gt_some, aval_tmp, aval_int, aval_bool, aval_str, aval_slice, aval_nilPointer, aval_nilIface, aval_func, aval_global, avals, apairs, bareP, AV.bare, AV.bares, bin_lss, bin_leq, bin_gtr, bin_geq, bin_eql, bin_neq, bin_add, bin_sub, bin_mul, bin_and, bin_or, bin_xor, toV_int, toV_bool, toV_string, un_neg, un_not, bin_str_eql, bin_str_neq, bin_str_lss, bin_str_leq, bin_str_gtr, bin_str_geq, aget_aput, length_aput, aput_none, Nat.reduceEqDiff, Nat.reduceLT, Nat.reduceAdd, ↓reduceIte, reduceCtorEq, Bool.not_false, Bool.not_true, Bool.true_or, true_and, Option.bind_some, Option.map_some, List.nil_append, List.cons_append, resA, resA1, resVal, Option.getD_some, Nat.reduceLeDiff, bnd_some, yieldA_eq, yldOf_some, boolOf_bool, boolOf_undef, gt_none, List.getElem?_toArray, List.getElem?_cons_succ, List.getElem?_cons_zero, bq_true, bq_false, decide_true, decide_false, Option.toList_none, Option.toList_some, List.head?_cons, List.head?_nil, nb_cfg, not_false_eq_true, cv_some, pm_some, pm_none, plainA_v, plain_bool, plain_int, plain_str, Bool.false_eq_true, if_false]
      refine wt_loop (m := s.length) (fun m e h => ∃ k l, TxI s m k l e h) ?_ ?_
      · clear hn h0 q1
        rintro m e h ⟨k, l, hn, rfl, h0, h3, hkl', hll, hfu, heq⟩
        rw [← heq]
        obtain ⟨m, rfl⟩ : ∃ m', m = m' + 1 := ⟨m - 1, by omega⟩
        have q := xT_next (l := l) (s := s) (k := k) (by omega) hkl'
        cases e2 : s[k]? with
        | none =>
          obtain ⟨v2, k2⟩ := nextV_none e2
          rw [v2, k2] at q
          have hx : unqF s (m + 1) k l = (false, k, l) := by simp only [unqF, e2]
          rw [hx]
          simp -dsimp only [hn, h0, h3, ct_own (C := cfgP ug1) (f := 90) rfl rfl, q, Bool.not_false, Bool.not_true, List.append_nil, List.nil_append, wt_seq, wt_block, wt_region, wt_cond, wt_skip, wt_ret, wt_exit, wst_nil, wst_cons, wst_guard, andThen_normal, andThen_ret, andThen_exit, leave_normal, leave_ret, leave_exit, EndsA_ret, EndsA_normal, ot_move, ot_assign, ot_pick, ot_binOp, ot_unOp, ot_convert, ot_field, ot_index, ot_indexAddr, ot_fieldAddr, ot_slice, ot_build, ot_buildSlice, ot_extract, ot_makeInterface, ot_makeFunc, ot_nilCheck, ot_call, ot_len, ot_append, ot_box, ot_load, ot_store, ot_makeSlice, ot_alloc, ot_sliceData, ot_unsafeString, ct_bool, ct_true, ct_false, bt_some, gt_some, aval_tmp, aval_int, aval_bool, aval_str, aval_slice, aval_nilPointer, aval_nilIface, aval_func, aval_global, avals, apairs, bareP, AV.bare, AV.bares, bin_lss, bin_leq, bin_gtr, bin_geq, bin_eql, bin_neq, bin_add, bin_sub, bin_mul, bin_and, bin_or, bin_xor, toV_int, toV_bool, toV_string, un_neg, un_not, bin_str_eql, bin_str_neq, bin_str_lss, bin_str_leq, bin_str_gtr, bin_str_geq, aget_aput, length_aput, aput_none, Nat.reduceEqDiff, Nat.reduceLT, Nat.reduceAdd, ↓reduceIte, reduceCtorEq, Bool.not_false, Bool.not_true, Bool.true_or, true_and, Option.bind_some, Option.map_some, List.nil_append, List.cons_append, resA, resA1, resVal, Option.getD_some, Nat.reduceLeDiff, bnd_some, yieldA_eq, yldOf_some, boolOf_bool, boolOf_undef, gt_none, List.getElem?_toArray, List.getElem?_cons_succ, List.getElem?_cons_zero, bq_true, bq_false, decide_true, decide_false, Option.toList_none, Option.toList_some, List.head?_cons, List.head?_nil, nb_cfg, not_false_eq_true, cv_some, pm_some, pm_none, plainA_v, plain_bool, plain_int, plain_str, Bool.false_eq_true, if_false]
          done
        | some d =>
          obtain ⟨v2, k2⟩ := nextV_some e2
          rw [v2, k2] at q
          have hkl2 : k < s.length := (List.getElem?_eq_some_iff.1 e2).1
          by_cases b1 : d.toNat < 32
          · have g2 : decide ((d.toNat : Int) < 32) = true := decide_eq_true (by omega)
            have hx : unqF s (m + 1) k l = (false, k + 1, l) := by simp only [unqF, e2, if_pos b1]
            rw [hx]
            simp -dsimp only [hn, h0, h3, ct_own (C := cfgP ug1) (f := 90) rfl rfl, q, g2, Bool.not_false, Bool.not_true, List.append_nil, List.nil_append, wt_seq, wt_block, wt_region, wt_cond, wt_skip, wt_ret, wt_exit, wst_nil, wst_cons, wst_guard, andThen_normal, andThen_ret, andThen_exit, leave_normal, leave_ret, leave_exit, EndsA_ret, EndsA_normal, ot_move, ot_assign, ot_pick, ot_binOp, ot_unOp, ot_convert, ot_field, ot_index, ot_indexAddr, ot_fieldAddr, ot_slice, ot_build, ot_buildSlice, ot_extract, ot_makeInterface, ot_makeFunc, ot_nilCheck, ot_call, ot_len, ot_append, ot_box, ot_load, ot_store, ot_makeSlice, ot_alloc, ot_sliceData, ot_unsafeString, ct_bool, ct_true, ct_false, bt_some, gt_some, aval_tmp, aval_int, aval_bool, aval_str, aval_slice, aval_nilPointer, aval_nilIface, aval_func, aval_global, avals, apairs, bareP, AV.bare, AV.bares, bin_lss, bin_leq, bin_gtr, bin_geq, bin_eql, bin_neq, bin_add, bin_sub, bin_mul, bin_and, bin_or, bin_xor, toV_int, toV_bool, toV_string, un_neg, un_not, bin_str_eql, bin_str_neq, bin_str_lss, bin_str_leq, bin_str_gtr, bin_str_geq, aget_aput, length_aput, aput_none, Nat.reduceEqDiff, Nat.reduceLT, Nat.reduceAdd, ↓reduceIte, reduceCtorEq, Bool.not_false, Bool.not_true, Bool.true_or, true_and, Option.bind_some, Option.map_some, List.nil_append, List.cons_append, resA, resA1, resVal, Option.getD_some, Nat.reduceLeDiff, bnd_some, yieldA_eq, yldOf_some, boolOf_bool, boolOf_undef, gt_none, List.getElem?_toArray, List.getElem?_cons_succ, List.getElem?_cons_zero, bq_true, bq_false, decide_true, decide_false, Option.toList_none, Option.toList_some, List.head?_cons, List.head?_nil, nb_cfg, not_false_eq_true, cv_some, pm_some, pm_none, plainA_v, plain_bool, plain_int, plain_str, Bool.false_eq_true, if_false]
            done
          · have g2 : decide ((d.toNat : Int) < 32) = false := decide_eq_false (by omega)
            by_cases b2 : d.toNat = 34
            · have g3 : decide ((d.toNat : Int) = 34) = true := decide_eq_true (by omega)
              have hx : unqF s (m + 1) k l = (utfB l, k + 1, l) := by simp only [unqF, e2, if_neg b1, if_pos b2]
              rw [hx]
              have hbk := rdU_blk (s := s) (k := k + 1) (l := l)
              have qv := validP_eq (l := l) (by omega)
              simp -dsimp only [hn, h0, h3, ct_own (C := cfgP ug1) (f := 90) rfl rfl, q, g2, g3, Bool.not_false, Bool.not_true, List.append_nil, List.nil_append, rf2, rp72, hbk, AV.cells, Nat.zero_add, List.getElem?_cons_zero, List.getElem?_cons_succ, convG, ct_prim ug1_22, bare_s, qv, wt_seq, wt_block, wt_region, wt_cond, wt_skip, wt_ret, wt_exit, wst_nil, wst_cons, wst_guard, andThen_normal, andThen_ret, andThen_exit, leave_normal, leave_ret, leave_exit, EndsA_ret, EndsA_normal, ot_move, ot_assign, ot_pick, ot_binOp, ot_unOp, ot_convert, ot_field, ot_index, ot_indexAddr, ot_fieldAddr, ot_slice, ot_build, ot_buildSlice, ot_extract, ot_makeInterface, ot_makeFunc, ot_nilCheck, ot_call, ot_len, ot_append, ot_box, ot_load, ot_store, ot_makeSlice, ot_alloc, ot_sliceData, ot_unsafeString, ct_bool, ct_true, ct_false, bt_some, gt_some, aval_tmp, aval_int, aval_bool, aval_str, aval_slice, aval_nilPointer, aval_nilIface, aval_func, aval_global, avals, apairs, bareP, AV.bare, AV.bares, bin_lss, bin_leq, bin_gtr, bin_geq, bin_eql, bin_neq, bin_add, bin_sub, bin_mul, bin_and, bin_or, bin_xor, toV_int, toV_bool, toV_string, un_neg, un_not, bin_str_eql, bin_str_neq, bin_str_lss, bin_str_leq, bin_str_gtr, bin_str_geq, aget_aput, length_aput, aput_none, Nat.reduceEqDiff, Nat.reduceLT, Nat.reduceAdd, ↓reduceIte, reduceCtorEq, Bool.not_false, Bool.not_true, Bool.true_or, true_and, Option.bind_some, Option.map_some, List.nil_append, List.cons_append, resA, resA1, resVal, Option.getD_some, Nat.reduceLeDiff, bnd_some, yieldA_eq, yldOf_some, boolOf_bool, boolOf_undef, gt_none, List.getElem?_toArray, List.getElem?_cons_succ, List.getElem?_cons_zero, bq_true, bq_false, decide_true, decide_false, Option.toList_none, Option.toList_some, List.head?_cons, List.head?_nil, nb_cfg, not_false_eq_true, cv_some, pm_some, pm_none, plainA_v, plain_bool, plain_int, plain_str, Bool.false_eq_true, if_false]
              done
            · have g3 : decide ((d.toNat : Int) = 34) = false := decide_eq_false (by omega)
              by_cases b3 : d.toNat = 92
              · have g4 : (!decide ((d.toNat : Int) = 92)) = false := by simp; omega
                have qe := xT_esc (l := l) (s := s) (k := k + 1) (by omega) (by omega) (by omega)
                obtain ⟨y1, y2, y3⟩ := escF_mono s (k + 1) l (by omega)
                have hx : unqF s (m + 1) k l = (if (escF s (k + 1) l).1 then unqF s m (escF s (k + 1) l).2.1 (escF s (k + 1) l).2.2 else (false, (escF s (k + 1) l).2.1, (escF s (k + 1) l).2.2)) := by simp only [unqF, e2, if_neg b1, if_neg b2, if_pos b3]
                rw [hx] at heq ⊢
                clear hx
                obtain ⟨o, ho⟩ : ∃ o, escF s (k + 1) l = o := ⟨_, rfl⟩
                rw [ho] at qe y1 y2 y3 heq ⊢
                obtain ⟨ok, k3, l3⟩ := o
                simp only at y1 y2 y3 heq qe ⊢
                cases ok with
                | false =>
                  simp -dsimp only [hn, h0, h3, ct_own (C := cfgP ug1) (f := 90) rfl rfl, ct_own (C := cfgP ug1) (f := 91) rfl rfl, q, qe, g2, g3, g4, Bool.not_false, Bool.not_true, List.append_nil, List.nil_append, wt_seq, wt_block, wt_region, wt_cond, wt_skip, wt_ret, wt_exit, wst_nil, wst_cons, wst_guard, andThen_normal, andThen_ret, andThen_exit, leave_normal, leave_ret, leave_exit, EndsA_ret, EndsA_normal, ot_move, ot_assign, ot_pick, ot_binOp, ot_unOp, ot_convert, ot_field, ot_index, ot_indexAddr, ot_fieldAddr, ot_slice, ot_build, ot_buildSlice, ot_extract, ot_makeInterface, ot_makeFunc, ot_nilCheck, ot_call, ot_len, ot_append, ot_box, ot_load, ot_store, ot_makeSlice, ot_alloc, ot_sliceData, ot_unsafeString, ct_bool, ct_true, ct_false, bt_some, gt_some, aval_tmp, aval_int, aval_bool, aval_str, aval_slice, aval_nilPointer, aval_nilIface, aval_func, aval_global, avals, apairs, bareP, AV.bare, AV.bares, bin_lss, bin_leq, bin_gtr, bin_geq, bin_eql, bin_neq, bin_add, bin_sub, bin_mul, bin_and, bin_or, bin_xor, toV_int, toV_bool, toV_string, un_neg, un_not, bin_str_eql, bin_str_neq, bin_str_lss, bin_str_leq, bin_str_gtr, bin_str_geq, aget_aput, length_aput, aput_none, Nat.reduceEqDiff, Nat.reduceLT, Nat.reduceAdd, ↓reduceIte, reduceCtorEq, Bool.not_false, Bool.not_true, Bool.true_or, true_and, Option.bind_some, Option.map_some, List.nil_append, List.cons_append, resA, resA1, resVal, Option.getD_some, Nat.reduceLeDiff, bnd_some, yieldA_eq, yldOf_some, boolOf_bool, boolOf_undef, gt_none, List.getElem?_toArray, List.getElem?_cons_succ, List.getElem?_cons_zero, bq_true, bq_false, decide_true, decide_false, Option.toList_none, Option.toList_some, List.head?_cons, List.head?_nil, nb_cfg, not_false_eq_true, cv_some, pm_some, pm_none, plainA_v, plain_bool, plain_int, plain_str, Bool.false_eq_true, if_false]
                  done
                | true =>
                  simp -dsimp only [hn, h0, h3, ct_own (C := cfgP ug1) (f := 90) rfl rfl, ct_own (C := cfgP ug1) (f := 91) rfl rfl, q, qe, g2, g3, g4, Bool.not_false, Bool.not_true, List.append_nil, List.nil_append, wt_seq, wt_block, wt_region, wt_cond, wt_skip, wt_ret, wt_exit, wst_nil, wst_cons, wst_guard, andThen_normal, andThen_ret, andThen_exit, leave_normal, leave_ret, leave_exit, EndsA_ret, EndsA_normal, ot_move, ot_assign, ot_pick, ot_binOp, ot_unOp, ot_convert, ot_field, ot_index, ot_indexAddr, ot_fieldAddr, ot_slice, ot_build, ot_buildSlice, ot_extract, ot_makeInterface, ot_makeFunc, ot_nilCheck, ot_call, ot_len, ot_append, ot_box, ot_load, ot_store, ot_makeSlice, ot_alloc, ot_sliceData, ot_unsafeString, ct_bool, ct_true, ct_false, bt_some, gt_some, aval_tmp, aval_int, aval_bool, aval_str, aval_slice, aval_nilPointer, aval_nilIface, aval_func, aval_global, avals, apairs, bareP, AV.bare, AV.bares, bin_lss, bin_leq, bin_gtr, bin_geq, bin_eql, bin_neq, bin_add, bin_sub, bin_mul, bin_and, bin_or, bin_xor, toV_int, toV_bool, toV_string, un_neg, un_not, bin_str_eql, bin_str_neq, bin_str_lss, bin_str_leq, bin_str_gtr, bin_str_geq, aget_aput, length_aput, aput_none, Nat.reduceEqDiff, Nat.reduceLT, Nat.reduceAdd, ↓reduceIte, reduceCtorEq, Bool.not_false, Bool.not_true, Bool.true_or, true_and, Option.bind_some, Option.map_some, List.nil_append, List.cons_append, resA, resA1, resVal, Option.getD_some, Nat.reduceLeDiff, bnd_some, yieldA_eq, yldOf_some, boolOf_bool, boolOf_undef, gt_none, List.getElem?_toArray, List.getElem?_cons_succ, List.getElem?_cons_zero, bq_true, bq_false, decide_true, decide_false, Option.toList_none, Option.toList_some, List.head?_cons, List.head?_nil, nb_cfg, not_false_eq_true, cv_some, pm_some, pm_none, plainA_v, plain_bool, plain_int, plain_str, Bool.false_eq_true, if_false]
                  refine ⟨m, by omega, k3, l3, ?_, rfl, ?_, ?_, y2, by omega, by omega, heq⟩
                  all_goals simp -dsimp only [hn, h0, h3, wt_seq, wt_block, wt_region, wt_cond, wt_skip, wt_ret, wt_exit, wst_nil, wst_cons, wst_guard, andThen_normal, andThen_ret, andThen_exit, leave_normal, leave_ret, leave_exit, EndsA_ret, EndsA_normal, ot_move, ot_assign, ot_pick, ot_binOp, ot_unOp, ot_convert, ot_field, ot_index, ot_indexAddr, ot_fieldAddr, ot_slice, ot_build, ot_buildSlice, ot_extract, ot_makeInterface, ot_makeFunc, ot_nilCheck, ot_call, ot_len, ot_append, ot_box, ot_load, ot_store, ot_makeSlice, ot_alloc, ot_sliceData, ot_unsafeString, ct_bool, ct_true, ct_false, bt_some, gt_some, aval_tmp, aval_int, aval_bool, aval_str, aval_slice, aval_nilPointer, aval_nilIface, aval_func, aval_global, avals, apairs, bareP, AV.bare, AV.bares, bin_lss, bin_leq, bin_gtr, bin_geq, bin_eql, bin_neq, bin_add, bin_sub, bin_mul, bin_and, bin_or, bin_xor, toV_int, toV_bool, toV_string, un_neg, un_not, bin_str_eql, bin_str_neq, bin_str_lss, bin_str_leq, bin_str_gtr, bin_str_geq, aget_aput, length_aput, aput_none, Nat.reduceEqDiff, Nat.reduceLT, Nat.reduceAdd, ↓reduceIte, reduceCtorEq, Bool.not_false, Bool.not_true, Bool.true_or, true_and, Option.bind_some, Option.map_some, List.nil_append, List.cons_append, resA, resA1, resVal, Option.getD_some, Nat.reduceLeDiff, bnd_some, yieldA_eq, yldOf_some, boolOf_bool, boolOf_undef, gt_none, List.getElem?_toArray, List.getElem?_cons_succ, List.getElem?_cons_zero, bq_true, bq_false, decide_true, decide_false, Option.toList_none, Option.toList_some, List.head?_cons, List.head?_nil, nb_cfg, not_false_eq_true, cv_some, pm_some, pm_none, plainA_v, plain_bool, plain_int, plain_str, Bool.false_eq_true, if_false]
              · have g4 : (!decide ((d.toNat : Int) = 92)) = true := by simp; omega
                have hx : unqF s (m + 1) k l = unqF s m (k + 1) (l ++ [d]) := by simp only [unqF, e2, if_neg b1, if_neg b2, if_neg b3]
                rw [hx] at heq ⊢
                have hap := app72 (prim := ug1) (l := l) (b := [d]) (by simp) (by simp; omega) (H := rdU s (k + 1) l) rfl
                rw [show byts [d] = [.v (.int .u8 (d.toNat : Int))] from rfl] at hap
                have hst : storeA (cfgP ug1) 72 0 0 0 2 (gsl (byts (l ++ [d]))) { rdU s (k + 1) l with toks := (ghp 5 (byts (l ++ [d]))).toks } = some (rdU s (k + 1) (l ++ [d])) := rdH_store2
                have hbk := rdU_blk (s := s) (k := k + 1) (l := l)
                have hl2l : (l ++ [d]).length ≤ 4 * (k + 1) := by simp; omega
                obtain ⟨l2, hl2⟩ : ∃ l2, l ++ [d] = l2 := ⟨_, rfl⟩
                rw [hl2] at hap hst heq hl2l ⊢
                simp -dsimp only [hn, h0, h3, ct_own (C := cfgP ug1) (f := 90) rfl rfl, q, g2, g3, g4, Bool.not_false, Bool.not_true, List.append_nil, List.nil_append, rf2, rp72, hbk, AV.cells, Nat.zero_add, List.getElem?_cons_zero, List.getElem?_cons_succ, bs1, hap, hst, wt_seq, wt_block, wt_region, wt_cond, wt_skip, wt_ret, wt_exit, wst_nil, wst_cons, wst_guard, andThen_normal, andThen_ret, andThen_exit, leave_normal, leave_ret, leave_exit, EndsA_ret, EndsA_normal, ot_move, ot_assign, ot_pick, ot_binOp, ot_unOp, ot_convert, ot_field, ot_index, ot_indexAddr, ot_fieldAddr, ot_slice, ot_build, ot_buildSlice, ot_extract, ot_makeInterface, ot_makeFunc, ot_nilCheck, ot_call, ot_len, ot_append, ot_box, ot_load, ot_store, ot_makeSlice, ot_alloc, ot_sliceData, ot_unsafeString, ct_bool, ct_true, ct_false, bt_some, gt_some, aval_tmp, aval_int, aval_bool, aval_str, aval_slice, aval_nilPointer, aval_nilIface, aval_func, aval_global, avals, apairs, bareP, AV.bare, AV.bares, bin_lss, bin_leq, bin_gtr, bin_geq, bin_eql, bin_neq, bin_add, bin_sub, bin_mul, bin_and, bin_or, bin_xor, toV_int, toV_bool, toV_string, un_neg, un_not, bin_str_eql, bin_str_neq, bin_str_lss, bin_str_leq, bin_str_gtr, bin_str_geq, aget_aput, length_aput, aput_none, Nat.reduceEqDiff, Nat.reduceLT, Nat.reduceAdd, ↓reduceIte, reduceCtorEq, Bool.not_false, Bool.not_true, Bool.true_or, true_and, Option.bind_some, Option.map_some, List.nil_append, List.cons_append, resA, resA1, resVal, Option.getD_some, Nat.reduceLeDiff, bnd_some, yieldA_eq, yldOf_some, boolOf_bool, boolOf_undef, gt_none, List.getElem?_toArray, List.getElem?_cons_succ, List.getElem?_cons_zero, bq_true, bq_false, decide_true, decide_false, Option.toList_none, Option.toList_some, List.head?_cons, List.head?_nil, nb_cfg, not_false_eq_true, cv_some, pm_some, pm_none, plainA_v, plain_bool, plain_int, plain_str, Bool.false_eq_true, if_false]
                refine ⟨m, by omega, k + 1, l2, ?_, rfl, ?_, ?_, by omega, hl2l, by omega, heq⟩
                all_goals simp -dsimp only [hn, h0, h3, wt_seq, wt_block, wt_region, wt_cond, wt_skip, wt_ret, wt_exit, wst_nil, wst_cons, wst_guard, andThen_normal, andThen_ret, andThen_exit, leave_normal, leave_ret, leave_exit, EndsA_ret, EndsA_normal, ot_move, ot_assign, ot_pick, ot_binOp, ot_unOp, ot_convert, ot_field, ot_index, ot_indexAddr, ot_fieldAddr, ot_slice, ot_build, ot_buildSlice, ot_extract, ot_makeInterface, ot_makeFunc, ot_nilCheck, ot_call, ot_len, ot_append, ot_box, ot_load, ot_store, ot_makeSlice, ot_alloc, ot_sliceData, ot_unsafeString, ct_bool, ct_true, ct_false, bt_some, gt_some, aval_tmp, aval_int, aval_bool, aval_str, aval_slice, aval_nilPointer, aval_nilIface, aval_func, aval_global, avals, apairs, bareP, AV.bare, AV.bares, bin_lss, bin_leq, bin_gtr, bin_geq, bin_eql, bin_neq, bin_add, bin_sub, bin_mul, bin_and, bin_or, bin_xor, toV_int, toV_bool, toV_string, un_neg, un_not, bin_str_eql, bin_str_neq, bin_str_lss, bin_str_leq, bin_str_gtr, bin_str_geq, aget_aput, length_aput, aput_none, Nat.reduceEqDiff, Nat.reduceLT, Nat.reduceAdd, ↓reduceIte, reduceCtorEq, Bool.not_false, Bool.not_true, Bool.true_or, true_and, Option.bind_some, Option.map_some, List.nil_append, List.cons_append, resA, resA1, resVal, Option.getD_some, Nat.reduceLeDiff, bnd_some, yieldA_eq, yldOf_some, boolOf_bool, boolOf_undef, gt_none, List.getElem?_toArray, List.getElem?_cons_succ, List.getElem?_cons_zero, bq_true, bq_false, decide_true, decide_false, Option.toList_none, Option.toList_some, List.head?_cons, List.head?_nil, nb_cfg, not_false_eq_true, cv_some, pm_some, pm_none, plainA_v, plain_bool, plain_int, plain_str, Bool.false_eq_true, if_false]
      · refine ⟨1, [], ?_, rfl, ?_, ?_, by omega, by simp, by omega, rfl⟩
        all_goals simp -dsimp only [hn, h0, wt_seq, wt_block, wt_region, wt_cond, wt_skip, wt_ret, wt_exit, wst_nil, wst_cons, wst_guard, andThen_normal, andThen_ret, andThen_exit, leave_normal, leave_ret, leave_exit, EndsA_ret, EndsA_normal, ot_move, ot_assign, ot_pick, ot_binOp, ot_unOp, ot_convert, ot_field, ot_index, ot_indexAddr, ot_fieldAddr, ot_slice, ot_build, ot_buildSlice, ot_extract, ot_makeInterface, ot_makeFunc, ot_nilCheck, ot_call, ot_len, ot_append, ot_box, ot_load, ot_store, ot_makeSlice, ot_alloc, ot_sliceData, ot_unsafeString, ct_bool, ct_true, ct_false, bt_some, gt_some, aval_tmp, aval_int, aval_bool, aval_str, aval_slice, aval_nilPointer, aval_nilIface, aval_func, aval_global, avals, apairs, bareP, AV.bare, AV.bares, bin_lss, bin_leq, bin_gtr, bin_geq, bin_eql, bin_neq, bin_add, bin_sub, bin_mul, bin_and, bin_or, bin_xor, toV_int, toV_bool, toV_string, un_neg, un_not, bin_str_eql, bin_str_neq, bin_str_lss, bin_str_leq, bin_str_gtr, bin_str_geq, aget_aput, length_aput, aput_none, Nat.reduceEqDiff, Nat.reduceLT, Nat.reduceAdd, ↓reduceIte, reduceCtorEq, Bool.not_false, Bool.not_true, Bool.true_or, true_and, Option.bind_some, Option.map_some, List.nil_append, List.cons_append, resA, resA1, resVal, Option.getD_some, Nat.reduceLeDiff, bnd_some, yieldA_eq, yldOf_some, boolOf_bool, boolOf_undef, gt_none, List.getElem?_toArray, List.getElem?_cons_succ, List.getElem?_cons_zero, bq_true, bq_false, decide_true, decide_false, Option.toList_none, Option.toList_some, List.head?_cons, List.head?_nil, nb_cfg, not_false_eq_true, cv_some, pm_some, pm_none, plainA_v, plain_bool, plain_int, plain_str, Bool.false_eq_true, if_false]
    · have g1 : (!decide ((c.toNat : Int) = 34)) = true := by simp; omega
      have hf : textF s = (false, 1, []) := by unfold textF; rw [e1]; exact if_neg hc
      rw [hf]
      refine call_of_wk (call := xT) (fn := Tryd.f60) (rs := [.tmp 2]) ug1_ok xT_ok (fns_cfg Tryd.func60 rfl) rfl rfl ?_
      intro env hl0 hargs
      have hn : env.length = 59 := hl0
      have h0 := hargs 0 _ rfl
      clear hargs hl0
      refine wkT_of ?_
      simp -dsimp only [hn, h0, ct_own (C := cfgP ug1) (f := 90) rfl rfl, q1, g1, Bool.not_false, Bool.not_true, List.append_nil, List.nil_append, wt_seq, wt_block, wt_region, wt_cond, wt_skip, wt_ret, wt_exit, wst_nil, wst_cons, wst_guard, andThen_normal, andThen_ret, andThen_exit, leave_normal, leave_ret, leave_exit, EndsA_ret, EndsA_normal, ot_move, ot_assign, ot_pick, ot_binOp, ot_unOp, ot_convert, ot_field, ot_index, ot_indexAddr, ot_fieldAddr, ot_slice, ot_build, ot_buildSlice, ot_extract, ot_makeInterface, ot_makeFunc, ot_nilCheck, ot_call, ot_len, ot_append, ot_box, ot_load, ot_store, ot_makeSlice, ot_alloc, ot_sliceData, ot_unsafeString, ct_bool, ct_true, ct_false, bt_some, gt_some, aval_tmp, aval_int, aval_bool, aval_str, aval_slice, aval_nilPointer, aval_nilIface, aval_func, aval_global, avals, apairs, bareP, AV.bare, AV.bares, bin_lss, bin_leq, bin_gtr, bin_geq, bin_eql, bin_neq, bin_add, bin_sub, bin_mul, bin_and, bin_or, bin_xor, toV_int, toV_bool, toV_string, un_neg, un_not, bin_str_eql, bin_str_neq, bin_str_lss, bin_str_leq, bin_str_gtr, bin_str_geq, aget_aput, length_aput, aput_none, Nat.reduceEqDiff, Nat.reduceLT, Nat.reduceAdd, ↓reduceIte, reduceCtorEq, Bool.not_false, Bool.not_true, Bool.true_or, true_and, Option.bind_some, Option.map_some, List.nil_append, List.cons_append, resA, resA1, resVal, Option.getD_some, Nat.reduceLeDiff, bnd_some, yieldA_eq, yldOf_some, boolOf_bool, boolOf_undef, gt_none, List.getElem?_toArray, List.getElem?_cons_succ, List.getElem?_cons_zero, bq_true, bq_false, decide_true, decide_false, Option.toList_none, Option.toList_some, List.head?_cons, List.head?_nil, nb_cfg, not_false_eq_true, cv_some, pm_some, pm_none, plainA_v, plain_bool, plain_int, plain_str, Bool.false_eq_true, if_false]
      done
end Go.Proofs.YtjejeijldllloaaDoor

/- Chapter 1: Unquote. -/
namespace Go.Proofs.YtjejeijldllloaaDoor
open Go.AM
noncomputable def textT := relT 60 (fun s : List UInt8 => s.length < 2 ^ 36) (fun _ => [.ptr 0 0 0 0]) (fun s => rdU s 0 []) (fun s => .v (.bool (textF s).1)) (fun s => rdU s (textF s).2.1 (textF s).2.2)
theorem textT_ok : CallsOk (cfgP ug1) textT := relT_ok (fns_cfg Tryd.func60 rfl) rfl fun s h => text_ok s h
theorem textT_eq {s : List UInt8} (h : s.length < 2 ^ 36) : textT 60 [.ptr 0 0 0 0] (rdU s 0 []) = some (.v (.bool (textF s).1), rdU s (textF s).2.1 (textF s).2.2) :=
  relT_eq (f0 := 60) (X := fun s : List UInt8 => s.length < 2 ^ 36) (a := fun _ => [.ptr 0 0 0 0]) (h := fun s => rdU s 0 []) (r := fun s => .v (.bool (textF s).1)) (h' := fun s => rdU s (textF s).2.1 (textF s).2.2) (fun p q _ _ _ h => by rw [(rdH_inj h).1]; exact ⟨rfl, rfl⟩) s h
/-- What a text in quotes says, how many bytes it takes, and the error. -/
def unqV (s : List UInt8) : AV := if (textF s).1 then .tup [str (textF s).2.2, .v (.int .i64 ((textF s).2.1 : Int)), .v (.int .i64 0)] else .tup [str [], .v (.int .i64 0), .v (.int .i64 2)]
theorem bld74 {prim : FuncId → Option (List AV → Option AV)} {s : List UInt8} : buildA (cfgP prim) 74 [(0, str s)] = some (.agg [str s, .v (.int .i64 0), .v (.slice none 0 0)]) := by kernel_rfl
theorem bx74 {s : List UInt8} {Q : AV → Hp → Nat → Prop} {u : Tag Q} : boxT Q u (genOf (cfgP ug1) 74) false (.agg [str s, .v (.int .i64 0), .v (.slice none 0 0)]) {} = Q (.ptr 0 0 0 0) (rdU s 0 []) 2 := by
  rw [bxt_rw rfl]
  rfl
theorem unquote_ok (s : List UInt8) (hs : s.length < 2 ^ 36) : PureOk (cfgP ug1) 19 [str s] (unqV s) := by
  have q := textT_eq hs
  have hro : (cfgP ug1).roBox 19 8 = false := rfl
  obtain ⟨o, ho⟩ : ∃ o, textF s = o := ⟨_, rfl⟩
  unfold unqV
  rw [ho] at q ⊢
  obtain ⟨ok, k, l⟩ := o
  simp only at q ⊢
  have hbk := rdU_blk (s := s) (k := k) (l := l)
  cases ok with
  | false =>
    show PureOk _ _ _ (.tup [str [], .v (.int .i64 0), .v (.int .i64 2)])
    refine pure_of_wk (call := textT) (fn := Tryd.f19) (rs := [.tmp 2, .tmp 3, .tmp 4]) ug1_ok textT_ok (fns_cfg Tryd.func19 rfl) rfl rfl ?_
    intro env hl0 hargs
    have hn : env.length = 21 := hl0
    have h0 := hargs 0 _ rfl
    clear hargs hl0
    refine wkT_of ?_
    simp -dsimp only [hn, h0, bld74, hro, bx74, ct_own (C := cfgP ug1) (f := 60) rfl rfl, q, Bool.not_false, wt_seq, wt_block, wt_region, wt_cond, wt_skip, wt_ret, wt_exit, wst_nil, wst_cons, wst_guard, andThen_normal, andThen_ret, andThen_exit, leave_normal, leave_ret, leave_exit, EndsA_ret, EndsA_normal, ot_move, ot_assign, ot_pick, ot_binOp, ot_unOp, ot_convert, ot_field, ot_index, ot_indexAddr, ot_fieldAddr, ot_slice, ot_build, ot_buildSlice, ot_extract, ot_makeInterface, ot_makeFunc, ot_nilCheck, ot_call, ot_len, ot_append, ot_box, ot_load, ot_store, ot_makeSlice, ot_alloc, ot_sliceData, ot_unsafeString, ct_bool, ct_true, ct_false, bt_some, gt_some, aval_tmp, aval_int, aval_bool, aval_str, aval_slice, aval_nilPointer, aval_nilIface, aval_func, aval_global, avals, apairs, bareP, AV.bare, AV.bares, bin_lss, bin_leq, bin_gtr, bin_geq, bin_eql, bin_neq, bin_add, bin_sub, bin_mul, bin_and, bin_or, bin_xor, toV_int, toV_bool, toV_string, un_neg, un_not, bin_str_eql, bin_str_neq, bin_str_lss, bin_str_leq, bin_str_gtr, bin_str_geq, aget_aput, length_aput, aput_none, Nat.reduceEqDiff, Nat.reduceLT, Nat.reduceAdd, ↓reduceIte, reduceCtorEq, Bool.not_false, Bool.not_true, Bool.true_or, true_and, Option.bind_some, Option.map_some, List.nil_append, List.cons_append, resA, resA1, resVal, Option.getD_some, Nat.reduceLeDiff, bnd_some, yieldA_eq, yldOf_some, boolOf_bool, boolOf_undef, gt_none, List.getElem?_toArray, List.getElem?_cons_succ, List.getElem?_cons_zero, bq_true, bq_false, decide_true, decide_false, Option.toList_none, Option.toList_some, List.head?_cons, List.head?_nil, nb_cfg, not_false_eq_true, cv_some, pm_some, pm_none, plainA_v, plain_bool, plain_int, plain_str, Bool.false_eq_true, if_false]
    exact ⟨5, rfl⟩
  | true =>
    show PureOk _ _ _ (.tup [str l, .v (.int .i64 (k : Int)), .v (.int .i64 0)])
    refine pure_of_wk (call := textT) (fn := Tryd.f19) (rs := [.tmp 2, .tmp 3, .tmp 4]) ug1_ok textT_ok (fns_cfg Tryd.func19 rfl) rfl rfl ?_
    intro env hl0 hargs
    have hn : env.length = 21 := hl0
    have h0 := hargs 0 _ rfl
    clear hargs hl0
    refine wkT_of ?_
    simp -dsimp only [hn, h0, bld74, hro, bx74, ct_own (C := cfgP ug1) (f := 60) rfl rfl, q, Bool.not_true, rf1, rf2, rp3, rp72, hbk, AV.cells, Nat.zero_add, List.getElem?_cons_zero, List.getElem?_cons_succ, convG, wt_seq, wt_block, wt_region, wt_cond, wt_skip, wt_ret, wt_exit, wst_nil, wst_cons, wst_guard, andThen_normal, andThen_ret, andThen_exit, leave_normal, leave_ret, leave_exit, EndsA_ret, EndsA_normal, ot_move, ot_assign, ot_pick, ot_binOp, ot_unOp, ot_convert, ot_field, ot_index, ot_indexAddr, ot_fieldAddr, ot_slice, ot_build, ot_buildSlice, ot_extract, ot_makeInterface, ot_makeFunc, ot_nilCheck, ot_call, ot_len, ot_append, ot_box, ot_load, ot_store, ot_makeSlice, ot_alloc, ot_sliceData, ot_unsafeString, ct_bool, ct_true, ct_false, bt_some, gt_some, aval_tmp, aval_int, aval_bool, aval_str, aval_slice, aval_nilPointer, aval_nilIface, aval_func, aval_global, avals, apairs, bareP, AV.bare, AV.bares, bin_lss, bin_leq, bin_gtr, bin_geq, bin_eql, bin_neq, bin_add, bin_sub, bin_mul, bin_and, bin_or, bin_xor, toV_int, toV_bool, toV_string, un_neg, un_not, bin_str_eql, bin_str_neq, bin_str_lss, bin_str_leq, bin_str_gtr, bin_str_geq, aget_aput, length_aput, aput_none, Nat.reduceEqDiff, Nat.reduceLT, Nat.reduceAdd, ↓reduceIte, reduceCtorEq, Bool.not_false, Bool.not_true, Bool.true_or, true_and, Option.bind_some, Option.map_some, List.nil_append, List.cons_append, resA, resA1, resVal, Option.getD_some, Nat.reduceLeDiff, bnd_some, yieldA_eq, yldOf_some, boolOf_bool, boolOf_undef, gt_none, List.getElem?_toArray, List.getElem?_cons_succ, List.getElem?_cons_zero, bq_true, bq_false, decide_true, decide_false, Option.toList_none, Option.toList_some, List.head?_cons, List.head?_nil, nb_cfg, not_false_eq_true, cv_some, pm_some, pm_none, plainA_v, plain_bool, plain_int, plain_str, Bool.false_eq_true, if_false]
    exact ⟨by kernel_rfl, 5, rfl⟩
end Go.Proofs.YtjejeijldllloaaDoor
