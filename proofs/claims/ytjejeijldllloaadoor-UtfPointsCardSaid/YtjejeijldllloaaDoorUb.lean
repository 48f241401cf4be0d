/- Contracts of functions, and plain facts about what they compute. -/
import Derived.Test.YtjejeijldllloaaDoorAmD
import Derived.Test.YtjejeijldllloaaDoorAmE
import Derived.Laws.Externs
import Derived.Test.YtjejeijldllloaaDoorProg
import Derived.KernelRfl
set_option linter.unusedSimpArgs false
set_option linter.unusedVariables false
/- A program's tables, and what its small types are. -/
namespace Go.Proofs.YtjejeijldllloaaDoor
open Go.AM
/-- Variables that are written once they are there. -/
def rwL : List (Nat × Nat) := [(19, 8), (21, 9), (10, 6), (11, 7), (11, 8), (11, 10), (11, 11), (12, 9), (12, 11), (13, 3), (13, 5), (13, 6), (13, 7), (15, 3), (15, 5), (15, 8), (16, 9), (16, 13), (17, 4), (17, 5), (17, 6), (17, 7), (17, 9), (17, 11), (17, 13), (17, 14), (17, 15), (28, 1), (30, 5), (30, 7), (35, 2), (35, 5), (36, 2), (38, 2), (39, 4), (40, 6), (41, 4), (42, 4), (43, 4), (44, 6), (45, 6), (46, 6), (47, 6), (48, 6), (49, 6), (50, 2), (51, 2), (52, 2), (52, 3), (53, 2), (54, 2), (54, 3), (54, 4), (55, 2), (55, 3), (55, 4), (59, 6), (59, 7), (59, 8), (67, 6), (75, 8), (75, 9), (76, 8), (76, 9), (80, 4), (88, 2), (89, 2), (98, 4), (103, 7), (106, 2), (107, 2), (107, 3), (116, 5)]
/-- Functions that share the heap of who calls them. -/
def shL : List Nat := [60, 63, 64, 65, 66, 90, 91, 94, 96, 108, 121, 122, 123, 128]
/-- The functions that are looked at. -/
def fnL : List Nat := [3, 4, 5, 6, 7, 8, 18, 19, 20, 21, 22, 23, 24, 25, 26, 27, 60, 61, 62, 63, 64, 65, 66, 67, 68, 90, 91, 92, 93, 94, 95, 96, 97, 108, 109, 110, 121, 122, 123, 128]
def gls : List (Nat × AV) := [(0, .agg firstA), (1, .agg accA)]
/-- Bytes of a text that are written. -/
def nbL : List (Nat × Nat) := []
noncomputable def cfgP (prim : FuncId → Option (List AV → Option AV)) : Cfg := cfgOf Tryd.prog (fun f => fnL.contains f) (glOf gls) (fun f => !(shL.contains f)) (fun f t => !(rwL.contains (f, t))) prim (fun f t => nbL.contains (f, t)) (fun f => f == 110) (fun t => t == 84) (fun e u => e == 84 && u == 82)
theorem ck3 : chkF Tryd.prog 3 = true := by kernel_rfl
theorem ck4 : chkF Tryd.prog 4 = true := by kernel_rfl
theorem ck5 : chkF Tryd.prog 5 = true := by kernel_rfl
theorem ck6 : chkF Tryd.prog 6 = true := by kernel_rfl
theorem ck7 : chkF Tryd.prog 7 = true := by kernel_rfl
theorem ck8 : chkF Tryd.prog 8 = true := by kernel_rfl
theorem ck18 : chkF Tryd.prog 18 = true := by kernel_rfl
theorem ck19 : chkF Tryd.prog 19 = true := by kernel_rfl
theorem ck20 : chkF Tryd.prog 20 = true := by kernel_rfl
theorem ck21 : chkF Tryd.prog 21 = true := by kernel_rfl
theorem ck22 : chkF Tryd.prog 22 = true := by kernel_rfl
theorem ck23 : chkF Tryd.prog 23 = true := by kernel_rfl
theorem ck24 : chkF Tryd.prog 24 = true := by kernel_rfl
theorem ck25 : chkF Tryd.prog 25 = true := by kernel_rfl
theorem ck26 : chkF Tryd.prog 26 = true := by kernel_rfl
theorem ck27 : chkF Tryd.prog 27 = true := by kernel_rfl
theorem ck60 : chkF Tryd.prog 60 = true := by kernel_rfl
theorem ck61 : chkF Tryd.prog 61 = true := by kernel_rfl
theorem ck62 : chkF Tryd.prog 62 = true := by kernel_rfl
theorem ck63 : chkF Tryd.prog 63 = true := by kernel_rfl
theorem ck64 : chkF Tryd.prog 64 = true := by kernel_rfl
theorem ck65 : chkF Tryd.prog 65 = true := by kernel_rfl
theorem ck66 : chkF Tryd.prog 66 = true := by kernel_rfl
theorem ck67 : chkF Tryd.prog 67 = true := by kernel_rfl
theorem ck68 : chkF Tryd.prog 68 = true := by kernel_rfl
theorem ck90 : chkF Tryd.prog 90 = true := by kernel_rfl
theorem ck91 : chkF Tryd.prog 91 = true := by kernel_rfl
theorem ck92 : chkF Tryd.prog 92 = true := by kernel_rfl
theorem ck93 : chkF Tryd.prog 93 = true := by kernel_rfl
theorem ck94 : chkF Tryd.prog 94 = true := by kernel_rfl
theorem ck95 : chkF Tryd.prog 95 = true := by kernel_rfl
theorem ck96 : chkF Tryd.prog 96 = true := by kernel_rfl
theorem ck97 : chkF Tryd.prog 97 = true := by kernel_rfl
theorem ck108 : chkF Tryd.prog 108 = true := by kernel_rfl
theorem ck109 : chkF Tryd.prog 109 = true := by kernel_rfl
theorem ck110 : chkF Tryd.prog 110 = true := by kernel_rfl
theorem ck121 : chkF Tryd.prog 121 = true := by kernel_rfl
theorem ck122 : chkF Tryd.prog 122 = true := by kernel_rfl
theorem ck123 : chkF Tryd.prog 123 = true := by kernel_rfl
theorem ck128 : chkF Tryd.prog 128 = true := by kernel_rfl
theorem fok : funcsOk Tryd.prog (fun f => fnL.contains f) = true := funcsOk_of (l := fnL) ⟨ck3, ck4, ck5, ck6, ck7, ck8, ck18, ck19, ck20, ck21, ck22, ck23, ck24, ck25, ck26, ck27, ck60, ck61, ck62, ck63, ck64, ck65, ck66, ck67, ck68, ck90, ck91, ck92, ck93, ck94, ck95, ck96, ck97, ck108, ck109, ck110, ck121, ck122, ck123, ck128, trivial⟩
theorem mixed : Tryd.prog.follows .mixedOrders = true := by kernel_rfl
theorem cfg_ok {prim : FuncId → Option (List AV → Option AV)} (hp : ∀ f p, prim f = some p → PrimOk (cfgP prim) f p) : (cfgP prim).Ok := cfgOf_ok mixed fok hp
  (fun f h x W => by
    rw [beq_iff_eq] at h
    subst h
    rw [run_callFunc_extern Tryd.func110 (by kernel_rfl) (by kernel_rfl) (by kernel_rfl) (e := Extern.AbiNoEscape.same) (by kernel_rfl)]
    rfl)
  (fun e u h => by
    simp only [Bool.and_eq_true, beq_iff_eq] at h
    obtain ⟨rfl, rfl⟩ := h
    kernel_rfl)
theorem cokN : (cfgP fun _ => none).Ok := cfg_ok (fun _ _ h => by cases h)
section
variable {prim : FuncId → Option (List AV → Option AV)}
theorem ro_cfg (f : FuncId) (t : Tmp) (h : (!(rwL.contains (f, t))) = true := by rfl) : (cfgP prim).roBox f t = true := h
theorem nb_cfg {f : FuncId} {d : Option Tmp} : nbOf (cfgP prim) f d = false := by cases d <;> rfl
theorem fns_cfg {f : FuncId} {fn : Func} (h : Tryd.prog.funcs[f]? = some fn) (hf : fnL.contains f = true) : (cfgP prim).fns f = some fn := by simp only [cfgP, cfgOf, hf, if_true, h]
theorem pureOk_prim {prim' : FuncId → Option (List AV → Option AV)} {f : FuncId} {xs : List AV} {r : AV} (h : PureOk (cfgP prim) f xs r) : PureOk (cfgP prim') f xs r := Go.AM.PureOk.other (C := cfgP prim) (C' := cfgP prim') rfl rfl rfl h
theorem prim_at {prim' : FuncId → Option (List AV → Option AV)} {f : FuncId} {fn : Func} {p : List AV → Option AV} (hf : Tryd.prog.funcs[f]? = some fn) (hn : (fn.name == "runtime.NumGoroutine") = false) (hb : fn.body.isSome = true) (h : ∀ xs r, p xs = some r → PureOk (cfgP prim) f xs r) : PrimOk (cfgP prim') f p :=
  .inl ⟨⟨fn, hf, hn, hb⟩, fun xs r hx => pureOk_prim (h xs r hx)⟩
end
end Go.Proofs.YtjejeijldllloaaDoor

/- Texts: length, bytes, parts. -/
namespace Go.Proofs.YtjejeijldllloaaDoor
open Go.AM
section
variable {prim : FuncId → Option (List AV → Option AV)}
theorem len_s {l : List UInt8} : lenA (cfgP prim) #[9] [str l] = some (.v (.int .i64 l.length)) := len_str (by kernel_rfl)
theorem index_s {l : List UInt8} {k : IntKind} {i : Nat} (h : i < l.length) : indexA (cfgP prim) 9 (str l) (.v (.int k i)) = some (byt l[i]) := index_str (by kernel_rfl) (by omega) (by simpa using h)
theorem index_s0 {l : List UInt8} {c : UInt8} {k : IntKind} : indexA (cfgP prim) 9 (str (c :: l)) (.v (.int k 0)) = some (.v (.int .u8 c.toNat)) := index_s (i := 0) (l := c :: l) (by simp)
theorem sliceT {l : List UInt8} {k : IntKind} {i : Nat} (h : i ≤ l.length) : sliceA (cfgP prim) 9 (str l) none (some (.v (.int k i))) none = some (str (l.take i)) := by
  have := slice_str (C := cfgP prim) (t := 9) (a := l) (lo := none) (hi := some (.v (.int k i))) (l := 0) (h := i) (by kernel_rfl) rfl (by simp [optIdx, idx]) ⟨Nat.zero_le _, h⟩
  simpa using this
theorem sliceD {l : List UInt8} {k : IntKind} {i : Nat} (h : i ≤ l.length) : sliceA (cfgP prim) 9 (str l) (some (.v (.int k i))) none none = some (str (l.drop i)) := by
  have := slice_str (C := cfgP prim) (t := 9) (a := l) (lo := some (.v (.int k i))) (hi := none) (l := i) (h := l.length) (by kernel_rfl) (by simp [optIdx, idx]) rfl ⟨h, Nat.le_refl _⟩
  rw [List.take_of_length_le (by simp)] at this
  exact this
end
theorem bare_s (l : List UInt8) : AV.bare (str l) = some (str l) := rfl
theorem wr64 {n : Int} (h1 : 0 ≤ n) (h2 : n < 2 ^ 63) : IntKind.i64.wrap n = n := by
  simp [IntKind.wrap, IntKind.bits, IntKind.signed]; omega
section
variable {prim : FuncId → Option (List AV → Option AV)}
theorem ix_s {l : List UInt8} {k : IntKind} {i : Nat} {c : UInt8} (h : l[i]? = some c) : indexA (cfgP prim) 9 (str l) (.v (.int k i)) = some (.v (.int .u8 c.toNat)) := by
  obtain ⟨hl, rfl⟩ := List.getElem?_eq_some_iff.1 h
  exact index_s hl
end
end Go.Proofs.YtjejeijldllloaaDoor

/- Chapter 1: whether a text is well-formed. -/
namespace Go.Proofs.YtjejeijldllloaaDoor
open Go.AM
section
variable {prim : FuncId → Option (List AV → Option AV)}
theorem cv5w {n : Int} : convA (cfgP prim) 5 137 (.v (.int .u8 n)) = some (.v (.int .u64 (IntKind.u64.wrap n))) := conv_int (j := .u8) (by kernel_rfl) (by kernel_rfl) (by kernel_rfl) (by kernel_rfl)
theorem cv5v {c : UInt8} : convA (cfgP prim) 5 137 (.v (.int .u8 c.toNat)) = some (w64 (bv c)) := by
  rw [cv5w, w_conv]
  rfl
theorem cv53 {n : Int} : convA (cfgP prim) 5 3 (.v (.int .u8 n)) = some (.v (.int .i64 (IntKind.i64.wrap n))) := conv_int (j := .u8) (by kernel_rfl) (by kernel_rfl) (by kernel_rfl) (by kernel_rfl)
theorem ixl {l : List UInt8} {c : UInt8} {k : Nat} {j : Int} (hj : j = (k : Int)) (h : l[k]? = some c) : indexA (cfgP prim) 9 (str l) (.v (.int .i64 j)) = some (.v (.int .u8 c.toNat)) := by rw [hj]; exact ix_s h
end
theorem word_gen (s : AV) (X0 X1 X2 X3 X4 X5 X6 X7 C0 C1 C2 C3 C4 C5 C6 C7 S1 S2 S3 S4 S5 S6 S7 O1 O2 O3 O4 O5 O6 O7 : AV) (x0 : indexA (cfgP fun _ => none) 9 s (.v (.int .i64 0)) = some X0) (v0 : convA (cfgP fun _ => none) 5 137 X0 = some C0) (x1 : indexA (cfgP fun _ => none) 9 s (.v (.int .i64 1)) = some X1) (v1 : convA (cfgP fun _ => none) 5 137 X1 = some C1) (s1 : ∀ x y, binA (cfgP fun _ => none) .shl 137 x y C1 (.v (.int .u64 8)) = some S1) (o1 : ∀ x y, binA (cfgP fun _ => none) .or 137 x y C0 S1 = some O1) (x2 : indexA (cfgP fun _ => none) 9 s (.v (.int .i64 2)) = some X2) (v2 : convA (cfgP fun _ => none) 5 137 X2 = some C2) (s2 : ∀ x y, binA (cfgP fun _ => none) .shl 137 x y C2 (.v (.int .u64 16)) = some S2) (o2 : ∀ x y, binA (cfgP fun _ => none) .or 137 x y O1 S2 = some O2) (x3 : indexA (cfgP fun _ => none) 9 s (.v (.int .i64 3)) = some X3) (v3 : convA (cfgP fun _ => none) 5 137 X3 = some C3) (s3 : ∀ x y, binA (cfgP fun _ => none) .shl 137 x y C3 (.v (.int .u64 24)) = some S3) (o3 : ∀ x y, binA (cfgP fun _ => none) .or 137 x y O2 S3 = some O3) (x4 : indexA (cfgP fun _ => none) 9 s (.v (.int .i64 4)) = some X4) (v4 : convA (cfgP fun _ => none) 5 137 X4 = some C4) (s4 : ∀ x y, binA (cfgP fun _ => none) .shl 137 x y C4 (.v (.int .u64 32)) = some S4) (o4 : ∀ x y, binA (cfgP fun _ => none) .or 137 x y O3 S4 = some O4) (x5 : indexA (cfgP fun _ => none) 9 s (.v (.int .i64 5)) = some X5) (v5 : convA (cfgP fun _ => none) 5 137 X5 = some C5) (s5 : ∀ x y, binA (cfgP fun _ => none) .shl 137 x y C5 (.v (.int .u64 40)) = some S5) (o5 : ∀ x y, binA (cfgP fun _ => none) .or 137 x y O4 S5 = some O5) (x6 : indexA (cfgP fun _ => none) 9 s (.v (.int .i64 6)) = some X6) (v6 : convA (cfgP fun _ => none) 5 137 X6 = some C6) (s6 : ∀ x y, binA (cfgP fun _ => none) .shl 137 x y C6 (.v (.int .u64 48)) = some S6) (o6 : ∀ x y, binA (cfgP fun _ => none) .or 137 x y O5 S6 = some O6) (x7 : indexA (cfgP fun _ => none) 9 s (.v (.int .i64 7)) = some X7) (v7 : convA (cfgP fun _ => none) 5 137 X7 = some C7) (s7 : ∀ x y, binA (cfgP fun _ => none) .shl 137 x y C7 (.v (.int .u64 56)) = some S7) (o7 : ∀ x y, binA (cfgP fun _ => none) .or 137 x y O6 S7 = some O7) (hb : s.bare = some s) (ht : ∀ H n, O7.thaw H (n + 1) = some O7) : PureOk (cfgP fun _ => none) 97 [s] O7 := by
  refine pure_of_wk (call := noCall) (fn := Tryd.f97) (rs := [.tmp 2]) cokN noCall_ok (fns_cfg Tryd.func97 rfl) rfl rfl ?_
  intro env hl0 hargs
  have hn : env.length = 59 := hl0
  have h0 := hargs 0 _ rfl
  clear hargs hl0
  refine wkT_of ?_
  simp -dsimp only [hn, h0, x0, v0, x1, v1, s1, o1, x2, v2, s2, o2, x3, v3, s3, o3, x4, v4, s4, o4, x5, v5, s5, o5, x6, v6, s6, o6, x7, v7, s7, o7, wt_seq, wt_block, wt_region, wt_cond, wt_skip, wt_ret, wt_exit, wst_nil, wst_cons, wst_guard, andThen_normal, andThen_ret, andThen_exit, leave_normal, leave_ret, leave_exit, EndsA_ret, EndsA_normal, ot_move, ot_assign, ot_pick, ot_binOp, ot_unOp, ot_convert, ot_field, ot_index, ot_indexAddr, ot_fieldAddr, ot_slice, ot_build, ot_buildSlice, ot_extract, ot_makeInterface, ot_makeFunc, ot_nilCheck, ot_call, ot_len, ot_append, ot_box, ot_load, ot_store, ot_makeSlice, ot_alloc, ot_sliceData, ot_unsafeString, ct_bool, ct_true, ct_false, bt_some, gt_some, aval_tmp, aval_int, aval_bool, aval_str, aval_slice, aval_nilPointer, aval_nilIface, aval_func, aval_global, avals, apairs, bareP, AV.bare, AV.bares, bin_lss, bin_leq, bin_gtr, bin_geq, bin_eql, bin_neq, bin_add, bin_sub, bin_mul, bin_and, bin_or, bin_xor, toV_int, toV_bool, toV_string, un_neg, un_not, bin_str_eql, bin_str_neq, bin_str_lss, bin_str_leq, bin_str_gtr, bin_str_geq, aget_aput, length_aput, aput_none, Nat.reduceEqDiff, Nat.reduceLT, Nat.reduceAdd, ↓reduceIte, reduceCtorEq, Bool.not_false, Bool.not_true, Bool.true_or, true_and, Option.bind_some, Option.map_some, List.nil_append, List.cons_append, resA, resA1, resVal, Option.getD_some, Nat.reduceLeDiff, bnd_some, yieldA_eq, yldOf_some, boolOf_bool, boolOf_undef, gt_none, List.getElem?_toArray, List.getElem?_cons_succ, List.getElem?_cons_zero, bq_true, bq_false, decide_true, decide_false, Option.toList_none, Option.toList_some, List.head?_cons, List.head?_nil, nb_cfg, not_false_eq_true, cv_some, pm_some, pm_none, plainA_v, plain_bool, plain_int, plain_str, Bool.false_eq_true, if_false]
  exact ⟨by kernel_rfl, 1, ht _ _⟩
theorem word_ok (l : List UInt8) (h : 8 ≤ l.length) : PureOk (cfgP fun _ => none) 97 [str l] (w64 (wb l)) := by
  match l, h with
  | a :: b :: c :: d :: e :: f :: g :: i :: r, _ =>
    have hw : wb (a :: b :: c :: d :: e :: f :: g :: i :: r) = ((((((bv a ||| bv b <<< 8) ||| bv c <<< 16) ||| bv d <<< 24) ||| bv e <<< 32) ||| bv f <<< 40) ||| bv g <<< 48) ||| bv i <<< 56 := by simp only [wb]
    rw [hw]
    exact word_gen _ _ _ _ _ _ _ _ _ _ _ _ _ _ _ _ _ _ _ _ _ _ _ _ _ _ _ _ _ _ _ (ixl (k := 0) rfl rfl) cv5v (ixl (k := 1) rfl rfl) cv5v (fun _ _ => bin_shl64 8 (j := 8) rfl (by decide)) (fun _ _ => bin_or64) (ixl (k := 2) rfl rfl) cv5v (fun _ _ => bin_shl64 16 (j := 16) rfl (by decide)) (fun _ _ => bin_or64) (ixl (k := 3) rfl rfl) cv5v (fun _ _ => bin_shl64 24 (j := 24) rfl (by decide)) (fun _ _ => bin_or64) (ixl (k := 4) rfl rfl) cv5v (fun _ _ => bin_shl64 32 (j := 32) rfl (by decide)) (fun _ _ => bin_or64) (ixl (k := 5) rfl rfl) cv5v (fun _ _ => bin_shl64 40 (j := 40) rfl (by decide)) (fun _ _ => bin_or64) (ixl (k := 6) rfl rfl) cv5v (fun _ _ => bin_shl64 48 (j := 48) rfl (by decide)) (fun _ _ => bin_or64) (ixl (k := 7) rfl rfl) cv5v (fun _ _ => bin_shl64 56 (j := 56) rfl (by decide)) (fun _ _ => bin_or64) rfl (fun _ _ => rfl)
noncomputable def wordP := relP (fun l : List UInt8 => 8 ≤ l.length) (fun l => [str l]) (fun l => w64 (wb l))
theorem wordP_ok : ∀ xs r, wordP xs = some r → PureOk (cfgP fun _ => none) 97 xs r := relP_ok fun l h => word_ok l h
theorem wordP_eq {l : List UInt8} (h : 8 ≤ l.length) : wordP [str l] = some (w64 (wb l)) := relP_eq (fun p q _ _ h => by
  injection h with h
  rw [str_inj h]) l h
end Go.Proofs.YtjejeijldllloaaDoor

/- Chapter 1: ValidString. -/
namespace Go.Proofs.YtjejeijldllloaaDoor
open Go.AM
def wordQ : List AV → Option AV
  | [x] => (dS x).bind fun l => if 8 ≤ l.length then some (w64 (wb l)) else none
  | _ => none
theorem wordQ_ok (xs : List AV) (r : AV) (h : wordQ xs = some r) : PureOk (cfgP fun _ => none) 97 xs r := by
  match xs, h with
  | [x], h =>
    obtain ⟨l, hl, h⟩ := Option.bind_eq_some_iff.1 h
    split at h
    · rename_i hn
      injection h with h; subst h
      rw [dS_iff.1 hl]
      exact word_ok l hn
    · cases h
theorem wordQ_eq {l : List UInt8} (h : 8 ≤ l.length) : wordQ [str l] = some (w64 (wb l)) := by
  simp only [wordQ, dS_str, Option.bind_some, h, if_true]
def uw1 : FuncId → Option (List AV → Option AV) := tab [(97, wordQ)]
theorem uw1_ok : (cfgP uw1).Ok := cfg_ok (tab_ok ⟨prim_at Tryd.func97 (by kernel_rfl) rfl (wordQ_ok), trivial⟩)
theorem uw1_97 : (cfgP uw1).prim 97 = some wordQ := rfl
structure VI (l0 l : List UInt8) (e : Env) : Prop where
  n : e.length = 169
  t0 : aget e 0 = str l
  len : l.length ≤ l0.length
  eq : utfB l = utfB l0
theorem utf_drop {l0 l l' : List UInt8} {k : Nat} (he : utfB l = utfB l0) (h : l.drop k = l') (hk : k ≤ l.length) (ha : ∀ c ∈ l.take k, c.toNat < 128) : utfB l' = utfB l0 := by
  rw [← h, ← utfB_ascii k l hk ha, he]
theorem sl_at {prim : FuncId → Option (List AV → Option AV)} {l l' : List UInt8} {k : Nat} {j : Int} (h : l.drop k = l') (hj : j = (k : Int)) (hk : k ≤ l.length) : sliceA (cfgP prim) 9 (str l) (some (.v (.int .i64 j))) none none = some (str l') := by
  rw [← h, hj]
  exact sliceD hk
theorem take_ascii {l l' : List UInt8} {a b : Nat} (h : l.drop a = l') (h1 : ∀ c ∈ l.take a, c.toNat < 128) (h2 : ∀ c ∈ l'.take b, c.toNat < 128) : ∀ c ∈ l.take (a + b), c.toNat < 128 := by
  intro c hc
  rw [List.take_add, List.mem_append, h] at hc
  exact hc.elim (h1 c) (h2 c)
section
variable {prim : FuncId → Option (List AV → Option AV)}
theorem vg0 : (cfgP prim).gl 0 = some (.agg firstA) := rfl
theorem vg1 : (cfgP prim).gl 1 = some (.agg accA) := rfl
theorem vi0 {n : Nat} (h : n < 256) : indexAddrA (cfgP prim) 118 (.rp (.agg firstA) 0) (.v (.int .u8 (n : Int))) = some (.rp (.agg firstA) n) := by
  have h1 : (cfgP prim).und 118 = some (.array 256 5) := by kernel_rfl
  have h2 : (cfgP prim).csz 5 = some 1 := by kernel_rfl
  have h3 : idx (.v (.int .u8 (n : Int))) = some n := by simp [idx]
  simp only [indexAddrA, h1, h2, h3, if_pos h, Nat.zero_add, Nat.mul_one]
theorem vi1 {n : Nat} (h : n < 16) : indexAddrA (cfgP prim) 121 (.rp (.agg accA) 0) (.v (.int .u8 (n : Int))) = some (.rp (.agg accA) (n * 2)) := by
  have h1 : (cfgP prim).und 121 = some (.array 16 120) := by kernel_rfl
  have h2 : (cfgP prim).csz 120 = some 2 := by kernel_rfl
  have h3 : idx (.v (.int .u8 (n : Int))) = some n := by simp [idx]
  simp only [indexAddrA, h1, h2, h3, if_pos h, Nat.zero_add]
theorem vp5 {cs : List AV} {j : Nat} : partA (cfgP prim) 5 cs j = cs[j]? := by kernel_rfl
theorem vp120 {n lo hi : Nat} (h : n < 16) (ha : accN.getD n (0, 0) = (lo, hi)) : partA (cfgP prim) 120 accA (n * 2) = some (.agg [.v (.int .u8 (lo : Int)), .v (.int .u8 (hi : Int))]) := by
  have h1 : isAggT (cfgP prim) 120 = some true := by kernel_rfl
  have h2 : (cfgP prim).csz 120 = some 2 := by kernel_rfl
  have h3 := accA_get ⟨n, h⟩
  have h4 : accA.length = 32 := rfl
  simp only [ha] at h3
  simp only [partA, h1, h2, h4, h3, if_pos (show n * 2 + 2 ≤ 32 by omega)]
theorem valloc {H : Hp} : allocA (cfgP prim) 120 false H = some (.ptr H.blks.length 0 0 0, { H with blks := H.blks ++ [⟨0, 2, [.agg [.v (.int .u8 0), .v (.int .u8 0)]]⟩] }, 2) := by
  have hz : zeroA (cfgP prim) 120 = some (.agg [.v (.int .u8 0), .v (.int .u8 0)]) := by kernel_rfl
  have hf : (AV.agg [.v (.int .u8 0), .v (.int .u8 0)]).cells.all AV.flat = true := rfl
  simp only [allocA, hz, Option.bind_some, hf, if_true, Bool.false_eq_true, if_false]
  rfl
theorem vstore {H : Hp} {lo hi : Int} : storeA (cfgP prim) 120 H.blks.length 0 0 0 (.agg [.v (.int .u8 lo), .v (.int .u8 hi)]) { H with blks := H.blks ++ [⟨0, 2, [.agg [.v (.int .u8 0), .v (.int .u8 0)]]⟩] } = some { H with blks := H.blks ++ [⟨0, 2, [.agg [.v (.int .u8 lo), .v (.int .u8 hi)]]⟩] } := by
  have h1 : ({ H with blks := H.blks ++ [⟨0, 2, [.agg [.v (.int .u8 0), .v (.int .u8 0)]]⟩] } : Hp).blks[H.blks.length]? = some ⟨0, 2, [.agg [.v (.int .u8 0), .v (.int .u8 0)]]⟩ := by simp
  rw [store_all (x := [.v (.int .u8 lo), .v (.int .u8 hi)]) h1 (by kernel_rfl) rfl rfl]
  simp
theorem vblk {H : Hp} {lo hi : Int} : blkAt ({ H with blks := H.blks ++ [⟨0, 2, [.agg [.v (.int .u8 lo), .v (.int .u8 hi)]]⟩] } : Hp) H.blks.length 0 = some ⟨0, 2, [.agg [.v (.int .u8 lo), .v (.int .u8 hi)]]⟩ := by
  refine blkAt_of ?_ rfl
  simp
theorem vf0 {b g i j : Nat} : fieldAddrA (cfgP prim) 120 (.ptr b g i j) 0 = some (.ptr b g i (j + 0)) := by kernel_rfl
theorem vf1 {b g i j : Nat} : fieldAddrA (cfgP prim) 120 (.ptr b g i j) 1 = some (.ptr b g i (j + 1)) := by kernel_rfl
theorem vand {n s : Nat} {t : TypeId} {x y : Operand} (h : n < 256) (hs : n % 8 = s) : binA (cfgP prim) .and t x y (.v (.int .u8 (n : Int))) (.v (.int .u8 7)) = some (.v (.int .u8 (s : Int))) := by
  rw [bin_and, sz_and ⟨n, h⟩, hs]
theorem vshr {n : Nat} {t : TypeId} {x y : Operand} (h : n < 256) : binA (cfgP prim) .shr t x y (.v (.int .u8 (n : Int))) (.v (.int .u64 4)) = some (.v (.int .u8 ((n / 16 : Nat) : Int))) := by
  rw [bin_shr (by decide), sz_shr ⟨n, h⟩]
end
theorem bad2 {c b : UInt8} {r : List UInt8} (hs : szN c.toNat = 2) (h : secB c b = false) : stepN (c :: b :: r) = 0 := by simp [stepN, hs, h]
theorem bad3 {c b d : UInt8} {r : List UInt8} (hs : szN c.toNat = 3) (h : (secB c b && contB d) = false) : stepN (c :: b :: d :: r) = 0 := by
  simp only [stepN, hs, h]; rfl
theorem bad4 {c b d e : UInt8} {r : List UInt8} (hs : szN c.toNat = 4) (h : (secB c b && contB d && contB e) = false) : stepN (c :: b :: d :: e :: r) = 0 := by
  simp only [stepN, hs, h]; rfl
theorem good2 {c b : UInt8} {r : List UInt8} (hs : szN c.toNat = 2) (h : secB c b = true) : stepN (c :: b :: r) = 2 := by simp [stepN, hs, h]
theorem good3 {c b d : UInt8} {r : List UInt8} (hs : szN c.toNat = 3) (h : (secB c b && contB d) = true) : stepN (c :: b :: d :: r) = 3 := by
  simp only [stepN, hs, h]; rfl
theorem good4 {c b d e : UInt8} {r : List UInt8} (hs : szN c.toNat = 4) (h : (secB c b && contB d && contB e) = true) : stepN (c :: b :: d :: e :: r) = 4 := by
  simp only [stepN, hs, h]; rfl
theorem short {c : UInt8} {r : List UInt8} {k : Nat} (h1 : 128 ≤ c.toNat) (hs : szN c.toNat = k) (h : (c :: r).length < k) : stepN (c :: r) = 0 := by
  have h4 := szN_lt c.toNat
  simp only [List.length_cons] at h
  match r, h with
  | [], h =>
    simp only [stepN]
    repeat' split
    all_goals first | rfl | omega
  | [_], h =>
    simp only [stepN]
    repeat' split
    all_goals first | rfl | (simp only [List.length_cons, List.length_nil] at h; omega)
  | [_, _], h =>
    simp only [stepN]
    repeat' split
    all_goals first | rfl | (simp only [List.length_cons, List.length_nil] at h; omega)
  | _ :: _ :: _ :: r, h =>
    simp only [List.length_cons] at h
    omega
set_option maxHeartbeats 40000000 in
set_option maxRecDepth 100000 in
theorem valid_ok (l0 : List UInt8) (hl0 : l0.length < 2 ^ 63) : PureOk (cfgP uw1) 67 [str l0] (.v (.bool (utfB l0))) := by
  refine pure_of_wk (call := noCall) (fn := Tryd.f67) (rs := [.tmp 2]) uw1_ok noCall_ok (fns_cfg Tryd.func67 rfl) rfl rfl ?_
  intro env hl0 hargs
  have hn : env.length = 169 := hl0
  have h0 := hargs 0 _ rfl
  clear hargs hl0
  refine wkT_of ?_
  simp -dsimp only [hn, h0, wt_seq, wt_block, wt_region, wt_cond, wt_skip, wt_ret, wt_exit, wst_nil, wst_cons, wst_guard, andThen_normal, andThen_ret, andThen_exit, leave_normal, leave_ret, leave_exit, EndsA_ret, EndsA_normal, ot_move, ot_assign, ot_pick, ot_binOp, ot_unOp, ot_convert, ot_field, ot_index, ot_indexAddr, ot_fieldAddr, ot_slice, ot_build, ot_buildSlice, ot_extract, ot_makeInterface, ot_makeFunc, ot_nilCheck, ot_call, ot_len, ot_append, ot_box, ot_load, ot_store, ot_makeSlice, ot_alloc, ot_sliceData, ot_unsafeString, ct_bool, ct_true, ct_false, bt_some, gt_some, aval_tmp, aval_int, aval_bool, aval_str, aval_slice, aval_nilPointer, aval_nilIface, aval_func, aval_global, avals, apairs, bareP, AV.bare, AV.bares, bin_lss, bin_leq, bin_gtr, bin_geq, bin_eql, bin_neq, bin_add, bin_sub, bin_mul, bin_and, bin_or, bin_xor, toV_int, toV_bool, toV_string, un_neg, un_not, bin_str_eql, bin_str_neq, bin_str_lss, bin_str_leq, bin_str_gtr, bin_str_geq, aget_aput, length_aput, aput_none, Nat.reduceEqDiff, Nat.reduceLT, Nat.reduceAdd, ↓reduceIte, reduceCtorEq, Bool.not_false, Bool.not_true, Bool.true_or, true_and, Option.bind_some, Option.map_some, List.nil_append, List.cons_append, resA, resA1, resVal, Option.getD_some, Nat.reduceLeDiff, bnd_some, yieldA_eq, yldOf_some, boolOf_bool, boolOf_undef, gt_none, List.getElem?_toArray, List.getElem?_cons_succ, List.getElem?_cons_zero, bq_true, bq_false, decide_true, decide_false, Option.toList_none, Option.toList_some, List.head?_cons, List.head?_nil, nb_cfg, not_false_eq_true, cv_some, pm_some, pm_none, plainA_v, plain_bool, plain_int, plain_str, Bool.false_eq_true, if_false]
  refine wt_loop (m := l0.length) (fun m e h => ∃ l, l.length = m ∧ VI l0 l e) ?_ ?_
  · rintro m e H ⟨l, rfl, hn, h0, hle, he⟩
    by_cases hp : 0 < l.length
    · have d0 : decide ((0 : Int) < (l.length : Int)) = true := decide_eq_true (by omega)
      obtain ⟨c, hc⟩ : ∃ c, l[0]? = some c := ⟨l[0], List.getElem?_eq_getElem hp⟩
      have x0 : indexA (cfgP uw1) 9 (str l) (.v (.int .i64 0)) = some (.v (.int .u8 c.toNat)) := ixl (k := 0) rfl hc
      by_cases ha : c.toNat < 128
      · have da : decide ((c.toNat : Int) < 128) = true := decide_eq_true (by omega)
        obtain ⟨l1, e1⟩ : ∃ l1, l.drop 1 = l1 := ⟨_, rfl⟩
        have s1 := sl_at (prim := uw1) e1 (j := 1) rfl hp
        have n1 : l1.length = l.length - 1 := by rw [← e1, List.length_drop]
        have t1 : ∀ c' ∈ l.take 1, c'.toNat < 128 := by
          intro c' h
          rw [List.mem_take_iff_getElem] at h
          obtain ⟨i, hi, rfl⟩ := h
          obtain rfl : i = 0 := by omega
          rw [List.getElem?_eq_some_iff] at hc
          obtain ⟨_, rfl⟩ := hc
          exact ha
        have u1 : utfB l1 = utfB l0 := utf_drop he e1 hp t1
        by_cases g1 : 8 < l1.length ∧ wb l1 &&& wM = 0
        · obtain ⟨g1, z1⟩ := g1
          have d1 : decide ((8 : Int) < (l1.length : Int)) = true := decide_eq_true (by omega)
          have w1 : decide (wb l1 &&& wM = 0) = true := decide_eq_true z1
          have q1 := wordQ_eq (l := l1) (by omega)
          obtain ⟨l2, e2⟩ : ∃ l2, l1.drop 8 = l2 := ⟨_, rfl⟩
          have s2 := sl_at (prim := uw1) e2 (j := 8) rfl (by omega)
          have n2 : l2.length = l1.length - 8 := by rw [← e2, List.length_drop]
          have u2 : utfB l2 = utfB l0 := utf_drop u1 e2 (by omega) (wb_ascii' (by omega) z1)
          simp -dsimp only [hn, h0, len_s, d0, x0, da, s1, d1, ct_prim uw1_97, bare_s, q1, bin_and64, bin_eq64, w1, s2, wt_seq, wt_block, wt_region, wt_cond, wt_skip, wt_ret, wt_exit, wst_nil, wst_cons, wst_guard, andThen_normal, andThen_ret, andThen_exit, leave_normal, leave_ret, leave_exit, EndsA_ret, EndsA_normal, ot_move, ot_assign, ot_pick, ot_binOp, ot_unOp, ot_convert, ot_field, ot_index, ot_indexAddr, ot_fieldAddr, ot_slice, ot_build, ot_buildSlice, ot_extract, ot_makeInterface, ot_makeFunc, ot_nilCheck, ot_call, ot_len, ot_append, ot_box, ot_load, ot_store, ot_makeSlice, ot_alloc, ot_sliceData, ot_unsafeString, ct_bool, ct_true, ct_false, bt_some, gt_some, aval_tmp, aval_int, aval_bool, aval_str, aval_slice, aval_nilPointer, aval_nilIface, aval_func, aval_global, avals, apairs, bareP, AV.bare, AV.bares, bin_lss, bin_leq, bin_gtr, bin_geq, bin_eql, bin_neq, bin_add, bin_sub, bin_mul, bin_and, bin_or, bin_xor, toV_int, toV_bool, toV_string, un_neg, un_not, bin_str_eql, bin_str_neq, bin_str_lss, bin_str_leq, bin_str_gtr, bin_str_geq, aget_aput, length_aput, aput_none, Nat.reduceEqDiff, Nat.reduceLT, Nat.reduceAdd, ↓reduceIte, reduceCtorEq, Bool.not_false, Bool.not_true, Bool.true_or, true_and, Option.bind_some, Option.map_some, List.nil_append, List.cons_append, resA, resA1, resVal, Option.getD_some, Nat.reduceLeDiff, bnd_some, yieldA_eq, yldOf_some, boolOf_bool, boolOf_undef, gt_none, List.getElem?_toArray, List.getElem?_cons_succ, List.getElem?_cons_zero, bq_true, bq_false, decide_true, decide_false, Option.toList_none, Option.toList_some, List.head?_cons, List.head?_nil, nb_cfg, not_false_eq_true, cv_some, pm_some, pm_none, plainA_v, plain_bool, plain_int, plain_str, Bool.false_eq_true, if_false]
          by_cases g2 : 16 < l2.length ∧ (wb l2 ||| wb (l2.drop 8)) &&& wM = 0
          · obtain ⟨g2, z2⟩ := g2
            have d2 : decide ((16 : Int) < (l2.length : Int)) = true := decide_eq_true (by omega)
            have w2 : decide ((wb l2 ||| wb (l2.drop 8)) &&& wM = 0) = true := decide_eq_true z2
            obtain ⟨za, zb⟩ := wb_or2' z2
            have q2 := wordQ_eq (l := l2) (by omega)
            obtain ⟨l3, e3⟩ : ∃ l3, l2.drop 8 = l3 := ⟨_, rfl⟩
            rw [e3] at w2 zb
            have n3 : l3.length = l2.length - 8 := by rw [← e3, List.length_drop]
            have q3 := wordQ_eq (l := l3) (by omega)
            have s3 := sl_at (prim := uw1) e3 (j := 8) rfl (by omega)
            obtain ⟨l4, e4⟩ : ∃ l4, l2.drop 16 = l4 := ⟨_, rfl⟩
            have s4 := sl_at (prim := uw1) e4 (j := 16) rfl (by omega)
            have n4 : l4.length = l2.length - 16 := by rw [← e4, List.length_drop]
            have u4 : utfB l4 = utfB l0 := utf_drop u2 e4 (by omega) (take_ascii e3 (wb_ascii' (by omega) za) (wb_ascii' (by omega) zb))
            simp -dsimp only [hn, h0, len_s, d2, ct_prim uw1_97, bare_s, q2, q3, s3, bin_or64, bin_and64, bin_eq64, w2, s4, wt_seq, wt_block, wt_region, wt_cond, wt_skip, wt_ret, wt_exit, wst_nil, wst_cons, wst_guard, andThen_normal, andThen_ret, andThen_exit, leave_normal, leave_ret, leave_exit, EndsA_ret, EndsA_normal, ot_move, ot_assign, ot_pick, ot_binOp, ot_unOp, ot_convert, ot_field, ot_index, ot_indexAddr, ot_fieldAddr, ot_slice, ot_build, ot_buildSlice, ot_extract, ot_makeInterface, ot_makeFunc, ot_nilCheck, ot_call, ot_len, ot_append, ot_box, ot_load, ot_store, ot_makeSlice, ot_alloc, ot_sliceData, ot_unsafeString, ct_bool, ct_true, ct_false, bt_some, gt_some, aval_tmp, aval_int, aval_bool, aval_str, aval_slice, aval_nilPointer, aval_nilIface, aval_func, aval_global, avals, apairs, bareP, AV.bare, AV.bares, bin_lss, bin_leq, bin_gtr, bin_geq, bin_eql, bin_neq, bin_add, bin_sub, bin_mul, bin_and, bin_or, bin_xor, toV_int, toV_bool, toV_string, un_neg, un_not, bin_str_eql, bin_str_neq, bin_str_lss, bin_str_leq, bin_str_gtr, bin_str_geq, aget_aput, length_aput, aput_none, Nat.reduceEqDiff, Nat.reduceLT, Nat.reduceAdd, ↓reduceIte, reduceCtorEq, Bool.not_false, Bool.not_true, Bool.true_or, true_and, Option.bind_some, Option.map_some, List.nil_append, List.cons_append, resA, resA1, resVal, Option.getD_some, Nat.reduceLeDiff, bnd_some, yieldA_eq, yldOf_some, boolOf_bool, boolOf_undef, gt_none, List.getElem?_toArray, List.getElem?_cons_succ, List.getElem?_cons_zero, bq_true, bq_false, decide_true, decide_false, Option.toList_none, Option.toList_some, List.head?_cons, List.head?_nil, nb_cfg, not_false_eq_true, cv_some, pm_some, pm_none, plainA_v, plain_bool, plain_int, plain_str, Bool.false_eq_true, if_false]
            refine ⟨by kernel_rfl, ?_⟩
            refine wt_loop (m := l4.length) (fun m e h => ∃ l', l'.length = m ∧ VI l0 l' e ∧ l'.length < l.length) ?_ ?_
            · clear hn h0
              rintro m e H ⟨l5, rfl, ⟨hn, h0, hle5, u5⟩, hlt⟩
              by_cases g5 : 32 < l5.length
              · have d5 : decide ((32 : Int) < (l5.length : Int)) = true := decide_eq_true (by omega)
                obtain ⟨l6, e6⟩ : ∃ l6, l5.drop 8 = l6 := ⟨_, rfl⟩
                obtain ⟨l7, e7⟩ : ∃ l7, l5.drop 16 = l7 := ⟨_, rfl⟩
                obtain ⟨l8, e8⟩ : ∃ l8, l5.drop 24 = l8 := ⟨_, rfl⟩
                obtain ⟨l9, e9⟩ : ∃ l9, l5.drop 32 = l9 := ⟨_, rfl⟩
                have n6 : l6.length = l5.length - 8 := by rw [← e6, List.length_drop]
                have n7 : l7.length = l5.length - 16 := by rw [← e7, List.length_drop]
                have n8 : l8.length = l5.length - 24 := by rw [← e8, List.length_drop]
                have n9 : l9.length = l5.length - 32 := by rw [← e9, List.length_drop]
                have s6 := sl_at (prim := uw1) e6 (j := 8) rfl (by omega)
                have s7 := sl_at (prim := uw1) e7 (j := 16) rfl (by omega)
                have s8 := sl_at (prim := uw1) e8 (j := 24) rfl (by omega)
                have s9 := sl_at (prim := uw1) e9 (j := 32) rfl (by omega)
                have q5 := wordQ_eq (l := l5) (by omega)
                have q6 := wordQ_eq (l := l6) (by omega)
                have q7 := wordQ_eq (l := l7) (by omega)
                have q8 := wordQ_eq (l := l8) (by omega)
                by_cases z5 : ((wb l5 ||| wb l6) ||| (wb l7 ||| wb l8)) &&& wM = 0
                · have w5 : decide (((wb l5 ||| wb l6) ||| (wb l7 ||| wb l8)) &&& wM = 0) = true := decide_eq_true z5
                  obtain ⟨za, zb⟩ := wb_or2' z5
                  obtain ⟨zc, zd⟩ := wb_or2' za
                  obtain ⟨ze, zf⟩ := wb_or2' zb
                  have v6 := take_ascii e6 (wb_ascii' (l := l5) (by omega) zc) (wb_ascii' (l := l6) (by omega) zd)
                  have v7 := take_ascii e7 v6 (wb_ascii' (l := l7) (by omega) ze)
                  have v8 := take_ascii e8 v7 (wb_ascii' (l := l8) (by omega) zf)
                  have u9 : utfB l9 = utfB l0 := utf_drop u5 e9 (by omega) v8
                  simp -dsimp only [hn, h0, len_s, d5, ct_prim uw1_97, bare_s, q5, q6, q7, q8, s6, s7, s8, bin_or64, bin_and64, bin_eq64, w5, wt_seq, wt_block, wt_region, wt_cond, wt_skip, wt_ret, wt_exit, wst_nil, wst_cons, wst_guard, andThen_normal, andThen_ret, andThen_exit, leave_normal, leave_ret, leave_exit, EndsA_ret, EndsA_normal, ot_move, ot_assign, ot_pick, ot_binOp, ot_unOp, ot_convert, ot_field, ot_index, ot_indexAddr, ot_fieldAddr, ot_slice, ot_build, ot_buildSlice, ot_extract, ot_makeInterface, ot_makeFunc, ot_nilCheck, ot_call, ot_len, ot_append, ot_box, ot_load, ot_store, ot_makeSlice, ot_alloc, ot_sliceData, ot_unsafeString, ct_bool, ct_true, ct_false, bt_some, gt_some, aval_tmp, aval_int, aval_bool, aval_str, aval_slice, aval_nilPointer, aval_nilIface, aval_func, aval_global, avals, apairs, bareP, AV.bare, AV.bares, bin_lss, bin_leq, bin_gtr, bin_geq, bin_eql, bin_neq, bin_add, bin_sub, bin_mul, bin_and, bin_or, bin_xor, toV_int, toV_bool, toV_string, un_neg, un_not, bin_str_eql, bin_str_neq, bin_str_lss, bin_str_leq, bin_str_gtr, bin_str_geq, aget_aput, length_aput, aput_none, Nat.reduceEqDiff, Nat.reduceLT, Nat.reduceAdd, ↓reduceIte, reduceCtorEq, Bool.not_false, Bool.not_true, Bool.true_or, true_and, Option.bind_some, Option.map_some, List.nil_append, List.cons_append, resA, resA1, resVal, Option.getD_some, Nat.reduceLeDiff, bnd_some, yieldA_eq, yldOf_some, boolOf_bool, boolOf_undef, gt_none, List.getElem?_toArray, List.getElem?_cons_succ, List.getElem?_cons_zero, bq_true, bq_false, decide_true, decide_false, Option.toList_none, Option.toList_some, List.head?_cons, List.head?_nil, nb_cfg, not_false_eq_true, cv_some, pm_some, pm_none, plainA_v, plain_bool, plain_int, plain_str, Bool.false_eq_true, if_false]
                  refine ⟨by kernel_rfl, ?_⟩
                  simp -dsimp only [hn, h0, s9, wt_seq, wt_block, wt_region, wt_cond, wt_skip, wt_ret, wt_exit, wst_nil, wst_cons, wst_guard, andThen_normal, andThen_ret, andThen_exit, leave_normal, leave_ret, leave_exit, EndsA_ret, EndsA_normal, ot_move, ot_assign, ot_pick, ot_binOp, ot_unOp, ot_convert, ot_field, ot_index, ot_indexAddr, ot_fieldAddr, ot_slice, ot_build, ot_buildSlice, ot_extract, ot_makeInterface, ot_makeFunc, ot_nilCheck, ot_call, ot_len, ot_append, ot_box, ot_load, ot_store, ot_makeSlice, ot_alloc, ot_sliceData, ot_unsafeString, ct_bool, ct_true, ct_false, bt_some, gt_some, aval_tmp, aval_int, aval_bool, aval_str, aval_slice, aval_nilPointer, aval_nilIface, aval_func, aval_global, avals, apairs, bareP, AV.bare, AV.bares, bin_lss, bin_leq, bin_gtr, bin_geq, bin_eql, bin_neq, bin_add, bin_sub, bin_mul, bin_and, bin_or, bin_xor, toV_int, toV_bool, toV_string, un_neg, un_not, bin_str_eql, bin_str_neq, bin_str_lss, bin_str_leq, bin_str_gtr, bin_str_geq, aget_aput, length_aput, aput_none, Nat.reduceEqDiff, Nat.reduceLT, Nat.reduceAdd, ↓reduceIte, reduceCtorEq, Bool.not_false, Bool.not_true, Bool.true_or, true_and, Option.bind_some, Option.map_some, List.nil_append, List.cons_append, resA, resA1, resVal, Option.getD_some, Nat.reduceLeDiff, bnd_some, yieldA_eq, yldOf_some, boolOf_bool, boolOf_undef, gt_none, List.getElem?_toArray, List.getElem?_cons_succ, List.getElem?_cons_zero, bq_true, bq_false, decide_true, decide_false, Option.toList_none, Option.toList_some, List.head?_cons, List.head?_nil, nb_cfg, not_false_eq_true, cv_some, pm_some, pm_none, plainA_v, plain_bool, plain_int, plain_str, Bool.false_eq_true, if_false]
                  refine ⟨_, ?_, l9, rfl, ⟨?_, ?_, by omega, u9⟩, by omega⟩
                  · omega
                  all_goals simp -dsimp only [hn, h0, wt_seq, wt_block, wt_region, wt_cond, wt_skip, wt_ret, wt_exit, wst_nil, wst_cons, wst_guard, andThen_normal, andThen_ret, andThen_exit, leave_normal, leave_ret, leave_exit, EndsA_ret, EndsA_normal, ot_move, ot_assign, ot_pick, ot_binOp, ot_unOp, ot_convert, ot_field, ot_index, ot_indexAddr, ot_fieldAddr, ot_slice, ot_build, ot_buildSlice, ot_extract, ot_makeInterface, ot_makeFunc, ot_nilCheck, ot_call, ot_len, ot_append, ot_box, ot_load, ot_store, ot_makeSlice, ot_alloc, ot_sliceData, ot_unsafeString, ct_bool, ct_true, ct_false, bt_some, gt_some, aval_tmp, aval_int, aval_bool, aval_str, aval_slice, aval_nilPointer, aval_nilIface, aval_func, aval_global, avals, apairs, bareP, AV.bare, AV.bares, bin_lss, bin_leq, bin_gtr, bin_geq, bin_eql, bin_neq, bin_add, bin_sub, bin_mul, bin_and, bin_or, bin_xor, toV_int, toV_bool, toV_string, un_neg, un_not, bin_str_eql, bin_str_neq, bin_str_lss, bin_str_leq, bin_str_gtr, bin_str_geq, aget_aput, length_aput, aput_none, Nat.reduceEqDiff, Nat.reduceLT, Nat.reduceAdd, ↓reduceIte, reduceCtorEq, Bool.not_false, Bool.not_true, Bool.true_or, true_and, Option.bind_some, Option.map_some, List.nil_append, List.cons_append, resA, resA1, resVal, Option.getD_some, Nat.reduceLeDiff, bnd_some, yieldA_eq, yldOf_some, boolOf_bool, boolOf_undef, gt_none, List.getElem?_toArray, List.getElem?_cons_succ, List.getElem?_cons_zero, bq_true, bq_false, decide_true, decide_false, Option.toList_none, Option.toList_some, List.head?_cons, List.head?_nil, nb_cfg, not_false_eq_true, cv_some, pm_some, pm_none, plainA_v, plain_bool, plain_int, plain_str, Bool.false_eq_true, if_false]
                · have w5 : decide (((wb l5 ||| wb l6) ||| (wb l7 ||| wb l8)) &&& wM = 0) = false := decide_eq_false z5
                  simp -dsimp only [hn, h0, len_s, d5, ct_prim uw1_97, bare_s, q5, q6, q7, q8, s6, s7, s8, bin_or64, bin_and64, bin_eq64, w5, wt_seq, wt_block, wt_region, wt_cond, wt_skip, wt_ret, wt_exit, wst_nil, wst_cons, wst_guard, andThen_normal, andThen_ret, andThen_exit, leave_normal, leave_ret, leave_exit, EndsA_ret, EndsA_normal, ot_move, ot_assign, ot_pick, ot_binOp, ot_unOp, ot_convert, ot_field, ot_index, ot_indexAddr, ot_fieldAddr, ot_slice, ot_build, ot_buildSlice, ot_extract, ot_makeInterface, ot_makeFunc, ot_nilCheck, ot_call, ot_len, ot_append, ot_box, ot_load, ot_store, ot_makeSlice, ot_alloc, ot_sliceData, ot_unsafeString, ct_bool, ct_true, ct_false, bt_some, gt_some, aval_tmp, aval_int, aval_bool, aval_str, aval_slice, aval_nilPointer, aval_nilIface, aval_func, aval_global, avals, apairs, bareP, AV.bare, AV.bares, bin_lss, bin_leq, bin_gtr, bin_geq, bin_eql, bin_neq, bin_add, bin_sub, bin_mul, bin_and, bin_or, bin_xor, toV_int, toV_bool, toV_string, un_neg, un_not, bin_str_eql, bin_str_neq, bin_str_lss, bin_str_leq, bin_str_gtr, bin_str_geq, aget_aput, length_aput, aput_none, Nat.reduceEqDiff, Nat.reduceLT, Nat.reduceAdd, ↓reduceIte, reduceCtorEq, Bool.not_false, Bool.not_true, Bool.true_or, true_and, Option.bind_some, Option.map_some, List.nil_append, List.cons_append, resA, resA1, resVal, Option.getD_some, Nat.reduceLeDiff, bnd_some, yieldA_eq, yldOf_some, boolOf_bool, boolOf_undef, gt_none, List.getElem?_toArray, List.getElem?_cons_succ, List.getElem?_cons_zero, bq_true, bq_false, decide_true, decide_false, Option.toList_none, Option.toList_some, List.head?_cons, List.head?_nil, nb_cfg, not_false_eq_true, cv_some, pm_some, pm_none, plainA_v, plain_bool, plain_int, plain_str, Bool.false_eq_true, if_false]
                  refine ⟨by kernel_rfl, ?_⟩
                  refine ⟨_, hlt, l5, rfl, ?_, ?_, by omega, u5⟩
                  all_goals simp -dsimp only [hn, h0, wt_seq, wt_block, wt_region, wt_cond, wt_skip, wt_ret, wt_exit, wst_nil, wst_cons, wst_guard, andThen_normal, andThen_ret, andThen_exit, leave_normal, leave_ret, leave_exit, EndsA_ret, EndsA_normal, ot_move, ot_assign, ot_pick, ot_binOp, ot_unOp, ot_convert, ot_field, ot_index, ot_indexAddr, ot_fieldAddr, ot_slice, ot_build, ot_buildSlice, ot_extract, ot_makeInterface, ot_makeFunc, ot_nilCheck, ot_call, ot_len, ot_append, ot_box, ot_load, ot_store, ot_makeSlice, ot_alloc, ot_sliceData, ot_unsafeString, ct_bool, ct_true, ct_false, bt_some, gt_some, aval_tmp, aval_int, aval_bool, aval_str, aval_slice, aval_nilPointer, aval_nilIface, aval_func, aval_global, avals, apairs, bareP, AV.bare, AV.bares, bin_lss, bin_leq, bin_gtr, bin_geq, bin_eql, bin_neq, bin_add, bin_sub, bin_mul, bin_and, bin_or, bin_xor, toV_int, toV_bool, toV_string, un_neg, un_not, bin_str_eql, bin_str_neq, bin_str_lss, bin_str_leq, bin_str_gtr, bin_str_geq, aget_aput, length_aput, aput_none, Nat.reduceEqDiff, Nat.reduceLT, Nat.reduceAdd, ↓reduceIte, reduceCtorEq, Bool.not_false, Bool.not_true, Bool.true_or, true_and, Option.bind_some, Option.map_some, List.nil_append, List.cons_append, resA, resA1, resVal, Option.getD_some, Nat.reduceLeDiff, bnd_some, yieldA_eq, yldOf_some, boolOf_bool, boolOf_undef, gt_none, List.getElem?_toArray, List.getElem?_cons_succ, List.getElem?_cons_zero, bq_true, bq_false, decide_true, decide_false, Option.toList_none, Option.toList_some, List.head?_cons, List.head?_nil, nb_cfg, not_false_eq_true, cv_some, pm_some, pm_none, plainA_v, plain_bool, plain_int, plain_str, Bool.false_eq_true, if_false]
              · have d5 : decide ((32 : Int) < (l5.length : Int)) = false := decide_eq_false (by omega)
                simp -dsimp only [hn, h0, len_s, d5, wt_seq, wt_block, wt_region, wt_cond, wt_skip, wt_ret, wt_exit, wst_nil, wst_cons, wst_guard, andThen_normal, andThen_ret, andThen_exit, leave_normal, leave_ret, leave_exit, EndsA_ret, EndsA_normal, ot_move, ot_assign, ot_pick, ot_binOp, ot_unOp, ot_convert, ot_field, ot_index, ot_indexAddr, ot_fieldAddr, ot_slice, ot_build, ot_buildSlice, ot_extract, ot_makeInterface, ot_makeFunc, ot_nilCheck, ot_call, ot_len, ot_append, ot_box, ot_load, ot_store, ot_makeSlice, ot_alloc, ot_sliceData, ot_unsafeString, ct_bool, ct_true, ct_false, bt_some, gt_some, aval_tmp, aval_int, aval_bool, aval_str, aval_slice, aval_nilPointer, aval_nilIface, aval_func, aval_global, avals, apairs, bareP, AV.bare, AV.bares, bin_lss, bin_leq, bin_gtr, bin_geq, bin_eql, bin_neq, bin_add, bin_sub, bin_mul, bin_and, bin_or, bin_xor, toV_int, toV_bool, toV_string, un_neg, un_not, bin_str_eql, bin_str_neq, bin_str_lss, bin_str_leq, bin_str_gtr, bin_str_geq, aget_aput, length_aput, aput_none, Nat.reduceEqDiff, Nat.reduceLT, Nat.reduceAdd, ↓reduceIte, reduceCtorEq, Bool.not_false, Bool.not_true, Bool.true_or, true_and, Option.bind_some, Option.map_some, List.nil_append, List.cons_append, resA, resA1, resVal, Option.getD_some, Nat.reduceLeDiff, bnd_some, yieldA_eq, yldOf_some, boolOf_bool, boolOf_undef, gt_none, List.getElem?_toArray, List.getElem?_cons_succ, List.getElem?_cons_zero, bq_true, bq_false, decide_true, decide_false, Option.toList_none, Option.toList_some, List.head?_cons, List.head?_nil, nb_cfg, not_false_eq_true, cv_some, pm_some, pm_none, plainA_v, plain_bool, plain_int, plain_str, Bool.false_eq_true, if_false]
                refine ⟨by kernel_rfl, ?_⟩
                refine ⟨_, hlt, l5, rfl, ?_, ?_, by omega, u5⟩
                all_goals simp -dsimp only [hn, h0, wt_seq, wt_block, wt_region, wt_cond, wt_skip, wt_ret, wt_exit, wst_nil, wst_cons, wst_guard, andThen_normal, andThen_ret, andThen_exit, leave_normal, leave_ret, leave_exit, EndsA_ret, EndsA_normal, ot_move, ot_assign, ot_pick, ot_binOp, ot_unOp, ot_convert, ot_field, ot_index, ot_indexAddr, ot_fieldAddr, ot_slice, ot_build, ot_buildSlice, ot_extract, ot_makeInterface, ot_makeFunc, ot_nilCheck, ot_call, ot_len, ot_append, ot_box, ot_load, ot_store, ot_makeSlice, ot_alloc, ot_sliceData, ot_unsafeString, ct_bool, ct_true, ct_false, bt_some, gt_some, aval_tmp, aval_int, aval_bool, aval_str, aval_slice, aval_nilPointer, aval_nilIface, aval_func, aval_global, avals, apairs, bareP, AV.bare, AV.bares, bin_lss, bin_leq, bin_gtr, bin_geq, bin_eql, bin_neq, bin_add, bin_sub, bin_mul, bin_and, bin_or, bin_xor, toV_int, toV_bool, toV_string, un_neg, un_not, bin_str_eql, bin_str_neq, bin_str_lss, bin_str_leq, bin_str_gtr, bin_str_geq, aget_aput, length_aput, aput_none, Nat.reduceEqDiff, Nat.reduceLT, Nat.reduceAdd, ↓reduceIte, reduceCtorEq, Bool.not_false, Bool.not_true, Bool.true_or, true_and, Option.bind_some, Option.map_some, List.nil_append, List.cons_append, resA, resA1, resVal, Option.getD_some, Nat.reduceLeDiff, bnd_some, yieldA_eq, yldOf_some, boolOf_bool, boolOf_undef, gt_none, List.getElem?_toArray, List.getElem?_cons_succ, List.getElem?_cons_zero, bq_true, bq_false, decide_true, decide_false, Option.toList_none, Option.toList_some, List.head?_cons, List.head?_nil, nb_cfg, not_false_eq_true, cv_some, pm_some, pm_none, plainA_v, plain_bool, plain_int, plain_str, Bool.false_eq_true, if_false]
            · refine ⟨l4, rfl, ⟨?_, ?_, by omega, u4⟩, by omega⟩
              all_goals simp -dsimp only [hn, h0, wt_seq, wt_block, wt_region, wt_cond, wt_skip, wt_ret, wt_exit, wst_nil, wst_cons, wst_guard, andThen_normal, andThen_ret, andThen_exit, leave_normal, leave_ret, leave_exit, EndsA_ret, EndsA_normal, ot_move, ot_assign, ot_pick, ot_binOp, ot_unOp, ot_convert, ot_field, ot_index, ot_indexAddr, ot_fieldAddr, ot_slice, ot_build, ot_buildSlice, ot_extract, ot_makeInterface, ot_makeFunc, ot_nilCheck, ot_call, ot_len, ot_append, ot_box, ot_load, ot_store, ot_makeSlice, ot_alloc, ot_sliceData, ot_unsafeString, ct_bool, ct_true, ct_false, bt_some, gt_some, aval_tmp, aval_int, aval_bool, aval_str, aval_slice, aval_nilPointer, aval_nilIface, aval_func, aval_global, avals, apairs, bareP, AV.bare, AV.bares, bin_lss, bin_leq, bin_gtr, bin_geq, bin_eql, bin_neq, bin_add, bin_sub, bin_mul, bin_and, bin_or, bin_xor, toV_int, toV_bool, toV_string, un_neg, un_not, bin_str_eql, bin_str_neq, bin_str_lss, bin_str_leq, bin_str_gtr, bin_str_geq, aget_aput, length_aput, aput_none, Nat.reduceEqDiff, Nat.reduceLT, Nat.reduceAdd, ↓reduceIte, reduceCtorEq, Bool.not_false, Bool.not_true, Bool.true_or, true_and, Option.bind_some, Option.map_some, List.nil_append, List.cons_append, resA, resA1, resVal, Option.getD_some, Nat.reduceLeDiff, bnd_some, yieldA_eq, yldOf_some, boolOf_bool, boolOf_undef, gt_none, List.getElem?_toArray, List.getElem?_cons_succ, List.getElem?_cons_zero, bq_true, bq_false, decide_true, decide_false, Option.toList_none, Option.toList_some, List.head?_cons, List.head?_nil, nb_cfg, not_false_eq_true, cv_some, pm_some, pm_none, plainA_v, plain_bool, plain_int, plain_str, Bool.false_eq_true, if_false]
          · by_cases g3 : 16 < l2.length
            · have d2 : decide ((16 : Int) < (l2.length : Int)) = true := decide_eq_true (by omega)
              obtain ⟨l3, e3⟩ : ∃ l3, l2.drop 8 = l3 := ⟨_, rfl⟩
              rw [e3] at g2
              have w2 : decide ((wb l2 ||| wb l3) &&& wM = 0) = false := decide_eq_false fun h => g2 ⟨g3, h⟩
              have q2 := wordQ_eq (l := l2) (by omega)
              have n3 : l3.length = l2.length - 8 := by rw [← e3, List.length_drop]
              have q3 := wordQ_eq (l := l3) (by omega)
              have s3 := sl_at (prim := uw1) e3 (j := 8) rfl (by omega)
              simp -dsimp only [hn, h0, len_s, d2, ct_prim uw1_97, bare_s, q2, q3, s3, bin_or64, bin_and64, bin_eq64, w2, wt_seq, wt_block, wt_region, wt_cond, wt_skip, wt_ret, wt_exit, wst_nil, wst_cons, wst_guard, andThen_normal, andThen_ret, andThen_exit, leave_normal, leave_ret, leave_exit, EndsA_ret, EndsA_normal, ot_move, ot_assign, ot_pick, ot_binOp, ot_unOp, ot_convert, ot_field, ot_index, ot_indexAddr, ot_fieldAddr, ot_slice, ot_build, ot_buildSlice, ot_extract, ot_makeInterface, ot_makeFunc, ot_nilCheck, ot_call, ot_len, ot_append, ot_box, ot_load, ot_store, ot_makeSlice, ot_alloc, ot_sliceData, ot_unsafeString, ct_bool, ct_true, ct_false, bt_some, gt_some, aval_tmp, aval_int, aval_bool, aval_str, aval_slice, aval_nilPointer, aval_nilIface, aval_func, aval_global, avals, apairs, bareP, AV.bare, AV.bares, bin_lss, bin_leq, bin_gtr, bin_geq, bin_eql, bin_neq, bin_add, bin_sub, bin_mul, bin_and, bin_or, bin_xor, toV_int, toV_bool, toV_string, un_neg, un_not, bin_str_eql, bin_str_neq, bin_str_lss, bin_str_leq, bin_str_gtr, bin_str_geq, aget_aput, length_aput, aput_none, Nat.reduceEqDiff, Nat.reduceLT, Nat.reduceAdd, ↓reduceIte, reduceCtorEq, Bool.not_false, Bool.not_true, Bool.true_or, true_and, Option.bind_some, Option.map_some, List.nil_append, List.cons_append, resA, resA1, resVal, Option.getD_some, Nat.reduceLeDiff, bnd_some, yieldA_eq, yldOf_some, boolOf_bool, boolOf_undef, gt_none, List.getElem?_toArray, List.getElem?_cons_succ, List.getElem?_cons_zero, bq_true, bq_false, decide_true, decide_false, Option.toList_none, Option.toList_some, List.head?_cons, List.head?_nil, nb_cfg, not_false_eq_true, cv_some, pm_some, pm_none, plainA_v, plain_bool, plain_int, plain_str, Bool.false_eq_true, if_false]
              refine ⟨by kernel_rfl, ?_⟩
              refine ⟨_, ?_, l2, rfl, ?_, ?_, by omega, u2⟩
              · omega
              all_goals simp -dsimp only [hn, h0, wt_seq, wt_block, wt_region, wt_cond, wt_skip, wt_ret, wt_exit, wst_nil, wst_cons, wst_guard, andThen_normal, andThen_ret, andThen_exit, leave_normal, leave_ret, leave_exit, EndsA_ret, EndsA_normal, ot_move, ot_assign, ot_pick, ot_binOp, ot_unOp, ot_convert, ot_field, ot_index, ot_indexAddr, ot_fieldAddr, ot_slice, ot_build, ot_buildSlice, ot_extract, ot_makeInterface, ot_makeFunc, ot_nilCheck, ot_call, ot_len, ot_append, ot_box, ot_load, ot_store, ot_makeSlice, ot_alloc, ot_sliceData, ot_unsafeString, ct_bool, ct_true, ct_false, bt_some, gt_some, aval_tmp, aval_int, aval_bool, aval_str, aval_slice, aval_nilPointer, aval_nilIface, aval_func, aval_global, avals, apairs, bareP, AV.bare, AV.bares, bin_lss, bin_leq, bin_gtr, bin_geq, bin_eql, bin_neq, bin_add, bin_sub, bin_mul, bin_and, bin_or, bin_xor, toV_int, toV_bool, toV_string, un_neg, un_not, bin_str_eql, bin_str_neq, bin_str_lss, bin_str_leq, bin_str_gtr, bin_str_geq, aget_aput, length_aput, aput_none, Nat.reduceEqDiff, Nat.reduceLT, Nat.reduceAdd, ↓reduceIte, reduceCtorEq, Bool.not_false, Bool.not_true, Bool.true_or, true_and, Option.bind_some, Option.map_some, List.nil_append, List.cons_append, resA, resA1, resVal, Option.getD_some, Nat.reduceLeDiff, bnd_some, yieldA_eq, yldOf_some, boolOf_bool, boolOf_undef, gt_none, List.getElem?_toArray, List.getElem?_cons_succ, List.getElem?_cons_zero, bq_true, bq_false, decide_true, decide_false, Option.toList_none, Option.toList_some, List.head?_cons, List.head?_nil, nb_cfg, not_false_eq_true, cv_some, pm_some, pm_none, plainA_v, plain_bool, plain_int, plain_str, Bool.false_eq_true, if_false]
            · have d2 : decide ((16 : Int) < (l2.length : Int)) = false := decide_eq_false (by omega)
              simp -dsimp only [hn, h0, len_s, d2, wt_seq, wt_block, wt_region, wt_cond, wt_skip, wt_ret, wt_exit, wst_nil, wst_cons, wst_guard, andThen_normal, andThen_ret, andThen_exit, leave_normal, leave_ret, leave_exit, EndsA_ret, EndsA_normal, ot_move, ot_assign, ot_pick, ot_binOp, ot_unOp, ot_convert, ot_field, ot_index, ot_indexAddr, ot_fieldAddr, ot_slice, ot_build, ot_buildSlice, ot_extract, ot_makeInterface, ot_makeFunc, ot_nilCheck, ot_call, ot_len, ot_append, ot_box, ot_load, ot_store, ot_makeSlice, ot_alloc, ot_sliceData, ot_unsafeString, ct_bool, ct_true, ct_false, bt_some, gt_some, aval_tmp, aval_int, aval_bool, aval_str, aval_slice, aval_nilPointer, aval_nilIface, aval_func, aval_global, avals, apairs, bareP, AV.bare, AV.bares, bin_lss, bin_leq, bin_gtr, bin_geq, bin_eql, bin_neq, bin_add, bin_sub, bin_mul, bin_and, bin_or, bin_xor, toV_int, toV_bool, toV_string, un_neg, un_not, bin_str_eql, bin_str_neq, bin_str_lss, bin_str_leq, bin_str_gtr, bin_str_geq, aget_aput, length_aput, aput_none, Nat.reduceEqDiff, Nat.reduceLT, Nat.reduceAdd, ↓reduceIte, reduceCtorEq, Bool.not_false, Bool.not_true, Bool.true_or, true_and, Option.bind_some, Option.map_some, List.nil_append, List.cons_append, resA, resA1, resVal, Option.getD_some, Nat.reduceLeDiff, bnd_some, yieldA_eq, yldOf_some, boolOf_bool, boolOf_undef, gt_none, List.getElem?_toArray, List.getElem?_cons_succ, List.getElem?_cons_zero, bq_true, bq_false, decide_true, decide_false, Option.toList_none, Option.toList_some, List.head?_cons, List.head?_nil, nb_cfg, not_false_eq_true, cv_some, pm_some, pm_none, plainA_v, plain_bool, plain_int, plain_str, Bool.false_eq_true, if_false]
              refine ⟨by kernel_rfl, ?_⟩
              refine ⟨_, ?_, l2, rfl, ?_, ?_, by omega, u2⟩
              · omega
              all_goals simp -dsimp only [hn, h0, wt_seq, wt_block, wt_region, wt_cond, wt_skip, wt_ret, wt_exit, wst_nil, wst_cons, wst_guard, andThen_normal, andThen_ret, andThen_exit, leave_normal, leave_ret, leave_exit, EndsA_ret, EndsA_normal, ot_move, ot_assign, ot_pick, ot_binOp, ot_unOp, ot_convert, ot_field, ot_index, ot_indexAddr, ot_fieldAddr, ot_slice, ot_build, ot_buildSlice, ot_extract, ot_makeInterface, ot_makeFunc, ot_nilCheck, ot_call, ot_len, ot_append, ot_box, ot_load, ot_store, ot_makeSlice, ot_alloc, ot_sliceData, ot_unsafeString, ct_bool, ct_true, ct_false, bt_some, gt_some, aval_tmp, aval_int, aval_bool, aval_str, aval_slice, aval_nilPointer, aval_nilIface, aval_func, aval_global, avals, apairs, bareP, AV.bare, AV.bares, bin_lss, bin_leq, bin_gtr, bin_geq, bin_eql, bin_neq, bin_add, bin_sub, bin_mul, bin_and, bin_or, bin_xor, toV_int, toV_bool, toV_string, un_neg, un_not, bin_str_eql, bin_str_neq, bin_str_lss, bin_str_leq, bin_str_gtr, bin_str_geq, aget_aput, length_aput, aput_none, Nat.reduceEqDiff, Nat.reduceLT, Nat.reduceAdd, ↓reduceIte, reduceCtorEq, Bool.not_false, Bool.not_true, Bool.true_or, true_and, Option.bind_some, Option.map_some, List.nil_append, List.cons_append, resA, resA1, resVal, Option.getD_some, Nat.reduceLeDiff, bnd_some, yieldA_eq, yldOf_some, boolOf_bool, boolOf_undef, gt_none, List.getElem?_toArray, List.getElem?_cons_succ, List.getElem?_cons_zero, bq_true, bq_false, decide_true, decide_false, Option.toList_none, Option.toList_some, List.head?_cons, List.head?_nil, nb_cfg, not_false_eq_true, cv_some, pm_some, pm_none, plainA_v, plain_bool, plain_int, plain_str, Bool.false_eq_true, if_false]
        · by_cases g3 : 8 < l1.length
          · have d1 : decide ((8 : Int) < (l1.length : Int)) = true := decide_eq_true (by omega)
            have w1 : decide (wb l1 &&& wM = 0) = false := decide_eq_false fun h => g1 ⟨g3, h⟩
            have q1 := wordQ_eq (l := l1) (by omega)
            simp -dsimp only [hn, h0, len_s, d0, x0, da, s1, d1, ct_prim uw1_97, bare_s, q1, bin_and64, bin_eq64, w1, wt_seq, wt_block, wt_region, wt_cond, wt_skip, wt_ret, wt_exit, wst_nil, wst_cons, wst_guard, andThen_normal, andThen_ret, andThen_exit, leave_normal, leave_ret, leave_exit, EndsA_ret, EndsA_normal, ot_move, ot_assign, ot_pick, ot_binOp, ot_unOp, ot_convert, ot_field, ot_index, ot_indexAddr, ot_fieldAddr, ot_slice, ot_build, ot_buildSlice, ot_extract, ot_makeInterface, ot_makeFunc, ot_nilCheck, ot_call, ot_len, ot_append, ot_box, ot_load, ot_store, ot_makeSlice, ot_alloc, ot_sliceData, ot_unsafeString, ct_bool, ct_true, ct_false, bt_some, gt_some, aval_tmp, aval_int, aval_bool, aval_str, aval_slice, aval_nilPointer, aval_nilIface, aval_func, aval_global, avals, apairs, bareP, AV.bare, AV.bares, bin_lss, bin_leq, bin_gtr, bin_geq, bin_eql, bin_neq, bin_add, bin_sub, bin_mul, bin_and, bin_or, bin_xor, toV_int, toV_bool, toV_string, un_neg, un_not, bin_str_eql, bin_str_neq, bin_str_lss, bin_str_leq, bin_str_gtr, bin_str_geq, aget_aput, length_aput, aput_none, Nat.reduceEqDiff, Nat.reduceLT, Nat.reduceAdd, ↓reduceIte, reduceCtorEq, Bool.not_false, Bool.not_true, Bool.true_or, true_and, Option.bind_some, Option.map_some, List.nil_append, List.cons_append, resA, resA1, resVal, Option.getD_some, Nat.reduceLeDiff, bnd_some, yieldA_eq, yldOf_some, boolOf_bool, boolOf_undef, gt_none, List.getElem?_toArray, List.getElem?_cons_succ, List.getElem?_cons_zero, bq_true, bq_false, decide_true, decide_false, Option.toList_none, Option.toList_some, List.head?_cons, List.head?_nil, nb_cfg, not_false_eq_true, cv_some, pm_some, pm_none, plainA_v, plain_bool, plain_int, plain_str, Bool.false_eq_true, if_false]
            refine ⟨_, ?_, l1, rfl, ?_, ?_, by omega, u1⟩
            · omega
            all_goals simp -dsimp only [hn, h0, wt_seq, wt_block, wt_region, wt_cond, wt_skip, wt_ret, wt_exit, wst_nil, wst_cons, wst_guard, andThen_normal, andThen_ret, andThen_exit, leave_normal, leave_ret, leave_exit, EndsA_ret, EndsA_normal, ot_move, ot_assign, ot_pick, ot_binOp, ot_unOp, ot_convert, ot_field, ot_index, ot_indexAddr, ot_fieldAddr, ot_slice, ot_build, ot_buildSlice, ot_extract, ot_makeInterface, ot_makeFunc, ot_nilCheck, ot_call, ot_len, ot_append, ot_box, ot_load, ot_store, ot_makeSlice, ot_alloc, ot_sliceData, ot_unsafeString, ct_bool, ct_true, ct_false, bt_some, gt_some, aval_tmp, aval_int, aval_bool, aval_str, aval_slice, aval_nilPointer, aval_nilIface, aval_func, aval_global, avals, apairs, bareP, AV.bare, AV.bares, bin_lss, bin_leq, bin_gtr, bin_geq, bin_eql, bin_neq, bin_add, bin_sub, bin_mul, bin_and, bin_or, bin_xor, toV_int, toV_bool, toV_string, un_neg, un_not, bin_str_eql, bin_str_neq, bin_str_lss, bin_str_leq, bin_str_gtr, bin_str_geq, aget_aput, length_aput, aput_none, Nat.reduceEqDiff, Nat.reduceLT, Nat.reduceAdd, ↓reduceIte, reduceCtorEq, Bool.not_false, Bool.not_true, Bool.true_or, true_and, Option.bind_some, Option.map_some, List.nil_append, List.cons_append, resA, resA1, resVal, Option.getD_some, Nat.reduceLeDiff, bnd_some, yieldA_eq, yldOf_some, boolOf_bool, boolOf_undef, gt_none, List.getElem?_toArray, List.getElem?_cons_succ, List.getElem?_cons_zero, bq_true, bq_false, decide_true, decide_false, Option.toList_none, Option.toList_some, List.head?_cons, List.head?_nil, nb_cfg, not_false_eq_true, cv_some, pm_some, pm_none, plainA_v, plain_bool, plain_int, plain_str, Bool.false_eq_true, if_false]
          · have d1 : decide ((8 : Int) < (l1.length : Int)) = false := decide_eq_false (by omega)
            simp -dsimp only [hn, h0, len_s, d0, x0, da, s1, d1, wt_seq, wt_block, wt_region, wt_cond, wt_skip, wt_ret, wt_exit, wst_nil, wst_cons, wst_guard, andThen_normal, andThen_ret, andThen_exit, leave_normal, leave_ret, leave_exit, EndsA_ret, EndsA_normal, ot_move, ot_assign, ot_pick, ot_binOp, ot_unOp, ot_convert, ot_field, ot_index, ot_indexAddr, ot_fieldAddr, ot_slice, ot_build, ot_buildSlice, ot_extract, ot_makeInterface, ot_makeFunc, ot_nilCheck, ot_call, ot_len, ot_append, ot_box, ot_load, ot_store, ot_makeSlice, ot_alloc, ot_sliceData, ot_unsafeString, ct_bool, ct_true, ct_false, bt_some, gt_some, aval_tmp, aval_int, aval_bool, aval_str, aval_slice, aval_nilPointer, aval_nilIface, aval_func, aval_global, avals, apairs, bareP, AV.bare, AV.bares, bin_lss, bin_leq, bin_gtr, bin_geq, bin_eql, bin_neq, bin_add, bin_sub, bin_mul, bin_and, bin_or, bin_xor, toV_int, toV_bool, toV_string, un_neg, un_not, bin_str_eql, bin_str_neq, bin_str_lss, bin_str_leq, bin_str_gtr, bin_str_geq, aget_aput, length_aput, aput_none, Nat.reduceEqDiff, Nat.reduceLT, Nat.reduceAdd, ↓reduceIte, reduceCtorEq, Bool.not_false, Bool.not_true, Bool.true_or, true_and, Option.bind_some, Option.map_some, List.nil_append, List.cons_append, resA, resA1, resVal, Option.getD_some, Nat.reduceLeDiff, bnd_some, yieldA_eq, yldOf_some, boolOf_bool, boolOf_undef, gt_none, List.getElem?_toArray, List.getElem?_cons_succ, List.getElem?_cons_zero, bq_true, bq_false, decide_true, decide_false, Option.toList_none, Option.toList_some, List.head?_cons, List.head?_nil, nb_cfg, not_false_eq_true, cv_some, pm_some, pm_none, plainA_v, plain_bool, plain_int, plain_str, Bool.false_eq_true, if_false]
            refine ⟨_, ?_, l1, rfl, ?_, ?_, by omega, u1⟩
            · omega
            all_goals simp -dsimp only [hn, h0, wt_seq, wt_block, wt_region, wt_cond, wt_skip, wt_ret, wt_exit, wst_nil, wst_cons, wst_guard, andThen_normal, andThen_ret, andThen_exit, leave_normal, leave_ret, leave_exit, EndsA_ret, EndsA_normal, ot_move, ot_assign, ot_pick, ot_binOp, ot_unOp, ot_convert, ot_field, ot_index, ot_indexAddr, ot_fieldAddr, ot_slice, ot_build, ot_buildSlice, ot_extract, ot_makeInterface, ot_makeFunc, ot_nilCheck, ot_call, ot_len, ot_append, ot_box, ot_load, ot_store, ot_makeSlice, ot_alloc, ot_sliceData, ot_unsafeString, ct_bool, ct_true, ct_false, bt_some, gt_some, aval_tmp, aval_int, aval_bool, aval_str, aval_slice, aval_nilPointer, aval_nilIface, aval_func, aval_global, avals, apairs, bareP, AV.bare, AV.bares, bin_lss, bin_leq, bin_gtr, bin_geq, bin_eql, bin_neq, bin_add, bin_sub, bin_mul, bin_and, bin_or, bin_xor, toV_int, toV_bool, toV_string, un_neg, un_not, bin_str_eql, bin_str_neq, bin_str_lss, bin_str_leq, bin_str_gtr, bin_str_geq, aget_aput, length_aput, aput_none, Nat.reduceEqDiff, Nat.reduceLT, Nat.reduceAdd, ↓reduceIte, reduceCtorEq, Bool.not_false, Bool.not_true, Bool.true_or, true_and, Option.bind_some, Option.map_some, List.nil_append, List.cons_append, resA, resA1, resVal, Option.getD_some, Nat.reduceLeDiff, bnd_some, yieldA_eq, yldOf_some, boolOf_bool, boolOf_undef, gt_none, List.getElem?_toArray, List.getElem?_cons_succ, List.getElem?_cons_zero, bq_true, bq_false, decide_true, decide_false, Option.toList_none, Option.toList_some, List.head?_cons, List.head?_nil, nb_cfg, not_false_eq_true, cv_some, pm_some, pm_none, plainA_v, plain_bool, plain_int, plain_str, Bool.false_eq_true, if_false]
      · have da : decide ((c.toNat : Int) < 128) = false := decide_eq_false (by omega)
        have hcl := UInt8.toNat_lt c
        obtain ⟨f1, f2, f3⟩ := first_cls ⟨c.toNat, hcl⟩ (by show 128 ≤ c.toNat; omega)
        simp only at f1 f2 f3
        have fg := firstA_get c
        have fl := firstN_lt c.toNat
        obtain ⟨n, hN⟩ : ∃ n, firstN c.toNat = n := ⟨_, rfl⟩
        rw [hN] at f1 f2 f3 fg fl
        obtain ⟨r, hl⟩ : ∃ r, l = c :: r := by
          cases l with
          | nil => simp at hp
          | cons a r => exact ⟨r, by rw [List.getElem?_cons_zero] at hc; injection hc with hc; rw [hc]⟩
        have hcsz : szN c.toNat ≠ 1 := by
          unfold szN
          repeat' split
          all_goals omega
        have hro : (cfgP uw1).roBox 67 6 = false := rfl
        obtain ⟨lo, hi, hacc⟩ : ∃ lo hi, accN.getD (n / 16) (0, 0) = (lo, hi) := ⟨_, _, rfl⟩
        have fa := vp120 (prim := uw1) f2 hacc
        have fi := vi1 (prim := uw1) f2
        by_cases hk : szN c.toNat = 0
        · have f1 : n % 8 = 1 := by rw [f1, hk]; rfl
          simp -dsimp only [hn, h0, len_s, d0, x0, da, vg0, vg1, Option.map_some, vi0 hcl, AV.cells, vp5, fg, vand fl f1, vshr fl, fi, fa, cv53, ot_alloc, hro, valloc, vstore, vblk, vf0, vf1, Nat.zero_add, List.getElem?_cons_zero, List.getElem?_cons_succ, show IntKind.i64.wrap ((1 : Nat) : Int) = 1 from by decide, show decide ((1 : Int) = 2) = false from by decide, show decide ((1 : Int) = 3) = false from by decide, show decide ((1 : Int) = 4) = false from by decide, wt_seq, wt_block, wt_region, wt_cond, wt_skip, wt_ret, wt_exit, wst_nil, wst_cons, wst_guard, andThen_normal, andThen_ret, andThen_exit, leave_normal, leave_ret, leave_exit, EndsA_ret, EndsA_normal, ot_move, ot_assign, ot_pick, ot_binOp, ot_unOp, ot_convert, ot_field, ot_index, ot_indexAddr, ot_fieldAddr, ot_slice, ot_build, ot_buildSlice, ot_extract, ot_makeInterface, ot_makeFunc, ot_nilCheck, ot_call, ot_len, ot_append, ot_box, ot_load, ot_store, ot_makeSlice, ot_alloc, ot_sliceData, ot_unsafeString, ct_bool, ct_true, ct_false, bt_some, gt_some, aval_tmp, aval_int, aval_bool, aval_str, aval_slice, aval_nilPointer, aval_nilIface, aval_func, aval_global, avals, apairs, bareP, AV.bare, AV.bares, bin_lss, bin_leq, bin_gtr, bin_geq, bin_eql, bin_neq, bin_add, bin_sub, bin_mul, bin_and, bin_or, bin_xor, toV_int, toV_bool, toV_string, un_neg, un_not, bin_str_eql, bin_str_neq, bin_str_lss, bin_str_leq, bin_str_gtr, bin_str_geq, aget_aput, length_aput, aput_none, Nat.reduceEqDiff, Nat.reduceLT, Nat.reduceAdd, ↓reduceIte, reduceCtorEq, Bool.not_false, Bool.not_true, Bool.true_or, true_and, Option.bind_some, Option.map_some, List.nil_append, List.cons_append, resA, resA1, resVal, Option.getD_some, Nat.reduceLeDiff, bnd_some, yieldA_eq, yldOf_some, boolOf_bool, boolOf_undef, gt_none, List.getElem?_toArray, List.getElem?_cons_succ, List.getElem?_cons_zero, bq_true, bq_false, decide_true, decide_false, Option.toList_none, Option.toList_some, List.head?_cons, List.head?_nil, nb_cfg, not_false_eq_true, cv_some, pm_some, pm_none, plainA_v, plain_bool, plain_int, plain_str, Bool.false_eq_true, if_false]
          have hu : utfB l = false := utfB_bad (by rw [hl]; simp [stepN, hk]) (by rw [hl]; simp)
          exact ⟨1, by rw [← he, hu]; rfl⟩
        obtain ⟨hlo, hhi⟩ : lo = loN c.toNat ∧ hi = hiN c.toNat := by
          have := f3 (by omega)
          rw [List.getD_eq_getElem?_getD, this] at hacc
          injection hacc with a b
          exact ⟨a.symm, b.symm⟩
        clear f3 hacc
        by_cases hk : szN c.toNat = 2
        · have f1 : n % 8 = 2 := by rw [f1, hk]; rfl
          by_cases hsh : l.length < 2
          · have dl : decide ((l.length : Int) < 2) = true := decide_eq_true (by omega)
            simp -dsimp only [hn, h0, len_s, d0, x0, da, vg0, vg1, Option.map_some, vi0 hcl, AV.cells, vp5, fg, vand fl f1, vshr fl, fi, fa, cv53, ot_alloc, hro, valloc, vstore, vblk, vf0, vf1, Nat.zero_add, List.getElem?_cons_zero, List.getElem?_cons_succ, show IntKind.i64.wrap ((2 : Nat) : Int) = 2 from by decide, show decide ((2 : Int) = 2) = true from by decide, dl, wt_seq, wt_block, wt_region, wt_cond, wt_skip, wt_ret, wt_exit, wst_nil, wst_cons, wst_guard, andThen_normal, andThen_ret, andThen_exit, leave_normal, leave_ret, leave_exit, EndsA_ret, EndsA_normal, ot_move, ot_assign, ot_pick, ot_binOp, ot_unOp, ot_convert, ot_field, ot_index, ot_indexAddr, ot_fieldAddr, ot_slice, ot_build, ot_buildSlice, ot_extract, ot_makeInterface, ot_makeFunc, ot_nilCheck, ot_call, ot_len, ot_append, ot_box, ot_load, ot_store, ot_makeSlice, ot_alloc, ot_sliceData, ot_unsafeString, ct_bool, ct_true, ct_false, bt_some, gt_some, aval_tmp, aval_int, aval_bool, aval_str, aval_slice, aval_nilPointer, aval_nilIface, aval_func, aval_global, avals, apairs, bareP, AV.bare, AV.bares, bin_lss, bin_leq, bin_gtr, bin_geq, bin_eql, bin_neq, bin_add, bin_sub, bin_mul, bin_and, bin_or, bin_xor, toV_int, toV_bool, toV_string, un_neg, un_not, bin_str_eql, bin_str_neq, bin_str_lss, bin_str_leq, bin_str_gtr, bin_str_geq, aget_aput, length_aput, aput_none, Nat.reduceEqDiff, Nat.reduceLT, Nat.reduceAdd, ↓reduceIte, reduceCtorEq, Bool.not_false, Bool.not_true, Bool.true_or, true_and, Option.bind_some, Option.map_some, List.nil_append, List.cons_append, resA, resA1, resVal, Option.getD_some, Nat.reduceLeDiff, bnd_some, yieldA_eq, yldOf_some, boolOf_bool, boolOf_undef, gt_none, List.getElem?_toArray, List.getElem?_cons_succ, List.getElem?_cons_zero, bq_true, bq_false, decide_true, decide_false, Option.toList_none, Option.toList_some, List.head?_cons, List.head?_nil, nb_cfg, not_false_eq_true, cv_some, pm_some, pm_none, plainA_v, plain_bool, plain_int, plain_str, Bool.false_eq_true, if_false]
            refine ⟨by kernel_rfl, ?_⟩
            have hu : utfB l = false := utfB_bad (by rw [hl]; exact short (by omega) hk (by rw [← hl]; exact hsh)) (by rw [hl]; simp)
            exact ⟨1, by rw [← he, hu]; rfl⟩
          have dl : decide ((l.length : Int) < 2) = false := decide_eq_false (by omega)
          obtain ⟨b, r', hr⟩ : ∃ b r', r = b :: r' := by
            rw [hl] at hsh
            match r, hsh with
            | b :: r', _ => exact ⟨b, r', rfl⟩
            | [], h => simp at h
          rw [hr] at hl
          clear hr
          have x1 : indexA (cfgP uw1) 9 (str l) (.v (.int .i64 1)) = some (.v (.int .u8 b.toNat)) := ixl (k := 1) rfl (by rw [hl]; rfl)
          by_cases t0 : b.toNat < lo
          · have g0 : decide ((b.toNat : Int) < (lo : Int)) = true := decide_eq_true (by omega)
            simp -dsimp only [hn, h0, len_s, d0, x0, da, vg0, vg1, Option.map_some, vi0 hcl, AV.cells, vp5, fg, vand fl f1, vshr fl, fi, fa, cv53, ot_alloc, hro, valloc, vstore, vblk, vf0, vf1, Nat.zero_add, List.getElem?_cons_zero, List.getElem?_cons_succ, show IntKind.i64.wrap ((2 : Nat) : Int) = 2 from by decide, show decide ((2 : Int) = 2) = true from by decide, dl, x1, g0, wt_seq, wt_block, wt_region, wt_cond, wt_skip, wt_ret, wt_exit, wst_nil, wst_cons, wst_guard, andThen_normal, andThen_ret, andThen_exit, leave_normal, leave_ret, leave_exit, EndsA_ret, EndsA_normal, ot_move, ot_assign, ot_pick, ot_binOp, ot_unOp, ot_convert, ot_field, ot_index, ot_indexAddr, ot_fieldAddr, ot_slice, ot_build, ot_buildSlice, ot_extract, ot_makeInterface, ot_makeFunc, ot_nilCheck, ot_call, ot_len, ot_append, ot_box, ot_load, ot_store, ot_makeSlice, ot_alloc, ot_sliceData, ot_unsafeString, ct_bool, ct_true, ct_false, bt_some, gt_some, aval_tmp, aval_int, aval_bool, aval_str, aval_slice, aval_nilPointer, aval_nilIface, aval_func, aval_global, avals, apairs, bareP, AV.bare, AV.bares, bin_lss, bin_leq, bin_gtr, bin_geq, bin_eql, bin_neq, bin_add, bin_sub, bin_mul, bin_and, bin_or, bin_xor, toV_int, toV_bool, toV_string, un_neg, un_not, bin_str_eql, bin_str_neq, bin_str_lss, bin_str_leq, bin_str_gtr, bin_str_geq, aget_aput, length_aput, aput_none, Nat.reduceEqDiff, Nat.reduceLT, Nat.reduceAdd, ↓reduceIte, reduceCtorEq, Bool.not_false, Bool.not_true, Bool.true_or, true_and, Option.bind_some, Option.map_some, List.nil_append, List.cons_append, resA, resA1, resVal, Option.getD_some, Nat.reduceLeDiff, bnd_some, yieldA_eq, yldOf_some, boolOf_bool, boolOf_undef, gt_none, List.getElem?_toArray, List.getElem?_cons_succ, List.getElem?_cons_zero, bq_true, bq_false, decide_true, decide_false, Option.toList_none, Option.toList_some, List.head?_cons, List.head?_nil, nb_cfg, not_false_eq_true, cv_some, pm_some, pm_none, plainA_v, plain_bool, plain_int, plain_str, Bool.false_eq_true, if_false]
            refine ⟨by kernel_rfl, ?_⟩
            have hu : utfB l = false := utfB_bad (by rw [hl]; exact bad2 hk (by simp only [secB, contB, Bool.and_eq_false_iff, decide_eq_false_iff_not]; omega)) (by rw [hl]; simp)
            exact ⟨1, by rw [← he, hu]; rfl⟩
          have g0 : decide ((b.toNat : Int) < (lo : Int)) = false := decide_eq_false (by omega)
          by_cases t1 : hi < b.toNat
          · have g1 : decide ((hi : Int) < (b.toNat : Int)) = true := decide_eq_true (by omega)
            simp -dsimp only [hn, h0, len_s, d0, x0, da, vg0, vg1, Option.map_some, vi0 hcl, AV.cells, vp5, fg, vand fl f1, vshr fl, fi, fa, cv53, ot_alloc, hro, valloc, vstore, vblk, vf0, vf1, Nat.zero_add, List.getElem?_cons_zero, List.getElem?_cons_succ, show IntKind.i64.wrap ((2 : Nat) : Int) = 2 from by decide, show decide ((2 : Int) = 2) = true from by decide, dl, x1, g0, g1, wt_seq, wt_block, wt_region, wt_cond, wt_skip, wt_ret, wt_exit, wst_nil, wst_cons, wst_guard, andThen_normal, andThen_ret, andThen_exit, leave_normal, leave_ret, leave_exit, EndsA_ret, EndsA_normal, ot_move, ot_assign, ot_pick, ot_binOp, ot_unOp, ot_convert, ot_field, ot_index, ot_indexAddr, ot_fieldAddr, ot_slice, ot_build, ot_buildSlice, ot_extract, ot_makeInterface, ot_makeFunc, ot_nilCheck, ot_call, ot_len, ot_append, ot_box, ot_load, ot_store, ot_makeSlice, ot_alloc, ot_sliceData, ot_unsafeString, ct_bool, ct_true, ct_false, bt_some, gt_some, aval_tmp, aval_int, aval_bool, aval_str, aval_slice, aval_nilPointer, aval_nilIface, aval_func, aval_global, avals, apairs, bareP, AV.bare, AV.bares, bin_lss, bin_leq, bin_gtr, bin_geq, bin_eql, bin_neq, bin_add, bin_sub, bin_mul, bin_and, bin_or, bin_xor, toV_int, toV_bool, toV_string, un_neg, un_not, bin_str_eql, bin_str_neq, bin_str_lss, bin_str_leq, bin_str_gtr, bin_str_geq, aget_aput, length_aput, aput_none, Nat.reduceEqDiff, Nat.reduceLT, Nat.reduceAdd, ↓reduceIte, reduceCtorEq, Bool.not_false, Bool.not_true, Bool.true_or, true_and, Option.bind_some, Option.map_some, List.nil_append, List.cons_append, resA, resA1, resVal, Option.getD_some, Nat.reduceLeDiff, bnd_some, yieldA_eq, yldOf_some, boolOf_bool, boolOf_undef, gt_none, List.getElem?_toArray, List.getElem?_cons_succ, List.getElem?_cons_zero, bq_true, bq_false, decide_true, decide_false, Option.toList_none, Option.toList_some, List.head?_cons, List.head?_nil, nb_cfg, not_false_eq_true, cv_some, pm_some, pm_none, plainA_v, plain_bool, plain_int, plain_str, Bool.false_eq_true, if_false]
            refine ⟨by kernel_rfl, ?_⟩
            have hu : utfB l = false := utfB_bad (by rw [hl]; exact bad2 hk (by simp only [secB, contB, Bool.and_eq_false_iff, decide_eq_false_iff_not]; omega)) (by rw [hl]; simp)
            exact ⟨1, by rw [← he, hu]; rfl⟩
          have g1 : decide ((hi : Int) < (b.toNat : Int)) = false := decide_eq_false (by omega)
          have hst : stepN l = 2 := by rw [hl]; exact good2 hk (by simp only [secB, contB, Bool.and_eq_true, decide_eq_true_eq]; omega)
          have hsp := utfB_step (l := l) (by rw [hst]; decide)
          rw [hst] at hsp
          obtain ⟨l1, e1⟩ : ∃ l1, l.drop 2 = l1 := ⟨_, rfl⟩
          have s1 := sl_at (prim := uw1) e1 (j := 2) rfl (by omega)
          have n1 : l1.length = l.length - 2 := by rw [← e1, List.length_drop]
          rw [e1] at hsp
          simp -dsimp only [hn, h0, len_s, d0, x0, da, vg0, vg1, Option.map_some, vi0 hcl, AV.cells, vp5, fg, vand fl f1, vshr fl, fi, fa, cv53, ot_alloc, hro, valloc, vstore, vblk, vf0, vf1, Nat.zero_add, List.getElem?_cons_zero, List.getElem?_cons_succ, show IntKind.i64.wrap ((2 : Nat) : Int) = 2 from by decide, show decide ((2 : Int) = 2) = true from by decide, dl, x1, g0, g1, s1, wt_seq, wt_block, wt_region, wt_cond, wt_skip, wt_ret, wt_exit, wst_nil, wst_cons, wst_guard, andThen_normal, andThen_ret, andThen_exit, leave_normal, leave_ret, leave_exit, EndsA_ret, EndsA_normal, ot_move, ot_assign, ot_pick, ot_binOp, ot_unOp, ot_convert, ot_field, ot_index, ot_indexAddr, ot_fieldAddr, ot_slice, ot_build, ot_buildSlice, ot_extract, ot_makeInterface, ot_makeFunc, ot_nilCheck, ot_call, ot_len, ot_append, ot_box, ot_load, ot_store, ot_makeSlice, ot_alloc, ot_sliceData, ot_unsafeString, ct_bool, ct_true, ct_false, bt_some, gt_some, aval_tmp, aval_int, aval_bool, aval_str, aval_slice, aval_nilPointer, aval_nilIface, aval_func, aval_global, avals, apairs, bareP, AV.bare, AV.bares, bin_lss, bin_leq, bin_gtr, bin_geq, bin_eql, bin_neq, bin_add, bin_sub, bin_mul, bin_and, bin_or, bin_xor, toV_int, toV_bool, toV_string, un_neg, un_not, bin_str_eql, bin_str_neq, bin_str_lss, bin_str_leq, bin_str_gtr, bin_str_geq, aget_aput, length_aput, aput_none, Nat.reduceEqDiff, Nat.reduceLT, Nat.reduceAdd, ↓reduceIte, reduceCtorEq, Bool.not_false, Bool.not_true, Bool.true_or, true_and, Option.bind_some, Option.map_some, List.nil_append, List.cons_append, resA, resA1, resVal, Option.getD_some, Nat.reduceLeDiff, bnd_some, yieldA_eq, yldOf_some, boolOf_bool, boolOf_undef, gt_none, List.getElem?_toArray, List.getElem?_cons_succ, List.getElem?_cons_zero, bq_true, bq_false, decide_true, decide_false, Option.toList_none, Option.toList_some, List.head?_cons, List.head?_nil, nb_cfg, not_false_eq_true, cv_some, pm_some, pm_none, plainA_v, plain_bool, plain_int, plain_str, Bool.false_eq_true, if_false]
          refine ⟨by kernel_rfl, ?_⟩
          refine ⟨_, ?_, l1, rfl, ?_, ?_, by omega, by rw [← hsp, he]⟩
          · omega
          all_goals simp -dsimp only [hn, h0, wt_seq, wt_block, wt_region, wt_cond, wt_skip, wt_ret, wt_exit, wst_nil, wst_cons, wst_guard, andThen_normal, andThen_ret, andThen_exit, leave_normal, leave_ret, leave_exit, EndsA_ret, EndsA_normal, ot_move, ot_assign, ot_pick, ot_binOp, ot_unOp, ot_convert, ot_field, ot_index, ot_indexAddr, ot_fieldAddr, ot_slice, ot_build, ot_buildSlice, ot_extract, ot_makeInterface, ot_makeFunc, ot_nilCheck, ot_call, ot_len, ot_append, ot_box, ot_load, ot_store, ot_makeSlice, ot_alloc, ot_sliceData, ot_unsafeString, ct_bool, ct_true, ct_false, bt_some, gt_some, aval_tmp, aval_int, aval_bool, aval_str, aval_slice, aval_nilPointer, aval_nilIface, aval_func, aval_global, avals, apairs, bareP, AV.bare, AV.bares, bin_lss, bin_leq, bin_gtr, bin_geq, bin_eql, bin_neq, bin_add, bin_sub, bin_mul, bin_and, bin_or, bin_xor, toV_int, toV_bool, toV_string, un_neg, un_not, bin_str_eql, bin_str_neq, bin_str_lss, bin_str_leq, bin_str_gtr, bin_str_geq, aget_aput, length_aput, aput_none, Nat.reduceEqDiff, Nat.reduceLT, Nat.reduceAdd, ↓reduceIte, reduceCtorEq, Bool.not_false, Bool.not_true, Bool.true_or, true_and, Option.bind_some, Option.map_some, List.nil_append, List.cons_append, resA, resA1, resVal, Option.getD_some, Nat.reduceLeDiff, bnd_some, yieldA_eq, yldOf_some, boolOf_bool, boolOf_undef, gt_none, List.getElem?_toArray, List.getElem?_cons_succ, List.getElem?_cons_zero, bq_true, bq_false, decide_true, decide_false, Option.toList_none, Option.toList_some, List.head?_cons, List.head?_nil, nb_cfg, not_false_eq_true, cv_some, pm_some, pm_none, plainA_v, plain_bool, plain_int, plain_str, Bool.false_eq_true, if_false]
        by_cases hk : szN c.toNat = 3
        · have f1 : n % 8 = 3 := by rw [f1, hk]; rfl
          by_cases hsh : l.length < 3
          · have dl : decide ((l.length : Int) < 3) = true := decide_eq_true (by omega)
            simp -dsimp only [hn, h0, len_s, d0, x0, da, vg0, vg1, Option.map_some, vi0 hcl, AV.cells, vp5, fg, vand fl f1, vshr fl, fi, fa, cv53, ot_alloc, hro, valloc, vstore, vblk, vf0, vf1, Nat.zero_add, List.getElem?_cons_zero, List.getElem?_cons_succ, show IntKind.i64.wrap ((3 : Nat) : Int) = 3 from by decide, show decide ((3 : Int) = 2) = false from by decide, show decide ((3 : Int) = 3) = true from by decide, dl, wt_seq, wt_block, wt_region, wt_cond, wt_skip, wt_ret, wt_exit, wst_nil, wst_cons, wst_guard, andThen_normal, andThen_ret, andThen_exit, leave_normal, leave_ret, leave_exit, EndsA_ret, EndsA_normal, ot_move, ot_assign, ot_pick, ot_binOp, ot_unOp, ot_convert, ot_field, ot_index, ot_indexAddr, ot_fieldAddr, ot_slice, ot_build, ot_buildSlice, ot_extract, ot_makeInterface, ot_makeFunc, ot_nilCheck, ot_call, ot_len, ot_append, ot_box, ot_load, ot_store, ot_makeSlice, ot_alloc, ot_sliceData, ot_unsafeString, ct_bool, ct_true, ct_false, bt_some, gt_some, aval_tmp, aval_int, aval_bool, aval_str, aval_slice, aval_nilPointer, aval_nilIface, aval_func, aval_global, avals, apairs, bareP, AV.bare, AV.bares, bin_lss, bin_leq, bin_gtr, bin_geq, bin_eql, bin_neq, bin_add, bin_sub, bin_mul, bin_and, bin_or, bin_xor, toV_int, toV_bool, toV_string, un_neg, un_not, bin_str_eql, bin_str_neq, bin_str_lss, bin_str_leq, bin_str_gtr, bin_str_geq, aget_aput, length_aput, aput_none, Nat.reduceEqDiff, Nat.reduceLT, Nat.reduceAdd, ↓reduceIte, reduceCtorEq, Bool.not_false, Bool.not_true, Bool.true_or, true_and, Option.bind_some, Option.map_some, List.nil_append, List.cons_append, resA, resA1, resVal, Option.getD_some, Nat.reduceLeDiff, bnd_some, yieldA_eq, yldOf_some, boolOf_bool, boolOf_undef, gt_none, List.getElem?_toArray, List.getElem?_cons_succ, List.getElem?_cons_zero, bq_true, bq_false, decide_true, decide_false, Option.toList_none, Option.toList_some, List.head?_cons, List.head?_nil, nb_cfg, not_false_eq_true, cv_some, pm_some, pm_none, plainA_v, plain_bool, plain_int, plain_str, Bool.false_eq_true, if_false]
            refine ⟨by kernel_rfl, ?_⟩
            have hu : utfB l = false := utfB_bad (by rw [hl]; exact short (by omega) hk (by rw [← hl]; exact hsh)) (by rw [hl]; simp)
            exact ⟨1, by rw [← he, hu]; rfl⟩
          have dl : decide ((l.length : Int) < 3) = false := decide_eq_false (by omega)
          obtain ⟨b, d, r', hr⟩ : ∃ b d r', r = b :: d :: r' := by
            rw [hl] at hsh
            match r, hsh with
            | b :: d :: r', _ => exact ⟨b, d, r', rfl⟩
            | [], h => simp at h
            | [_], h => simp at h
          rw [hr] at hl
          clear hr
          have x1 : indexA (cfgP uw1) 9 (str l) (.v (.int .i64 1)) = some (.v (.int .u8 b.toNat)) := ixl (k := 1) rfl (by rw [hl]; rfl)
          have x2 : indexA (cfgP uw1) 9 (str l) (.v (.int .i64 2)) = some (.v (.int .u8 d.toNat)) := ixl (k := 2) rfl (by rw [hl]; rfl)
          by_cases t0 : b.toNat < lo
          · have g0 : decide ((b.toNat : Int) < (lo : Int)) = true := decide_eq_true (by omega)
            simp -dsimp only [hn, h0, len_s, d0, x0, da, vg0, vg1, Option.map_some, vi0 hcl, AV.cells, vp5, fg, vand fl f1, vshr fl, fi, fa, cv53, ot_alloc, hro, valloc, vstore, vblk, vf0, vf1, Nat.zero_add, List.getElem?_cons_zero, List.getElem?_cons_succ, show IntKind.i64.wrap ((3 : Nat) : Int) = 3 from by decide, show decide ((3 : Int) = 2) = false from by decide, show decide ((3 : Int) = 3) = true from by decide, dl, x1, x2, g0, wt_seq, wt_block, wt_region, wt_cond, wt_skip, wt_ret, wt_exit, wst_nil, wst_cons, wst_guard, andThen_normal, andThen_ret, andThen_exit, leave_normal, leave_ret, leave_exit, EndsA_ret, EndsA_normal, ot_move, ot_assign, ot_pick, ot_binOp, ot_unOp, ot_convert, ot_field, ot_index, ot_indexAddr, ot_fieldAddr, ot_slice, ot_build, ot_buildSlice, ot_extract, ot_makeInterface, ot_makeFunc, ot_nilCheck, ot_call, ot_len, ot_append, ot_box, ot_load, ot_store, ot_makeSlice, ot_alloc, ot_sliceData, ot_unsafeString, ct_bool, ct_true, ct_false, bt_some, gt_some, aval_tmp, aval_int, aval_bool, aval_str, aval_slice, aval_nilPointer, aval_nilIface, aval_func, aval_global, avals, apairs, bareP, AV.bare, AV.bares, bin_lss, bin_leq, bin_gtr, bin_geq, bin_eql, bin_neq, bin_add, bin_sub, bin_mul, bin_and, bin_or, bin_xor, toV_int, toV_bool, toV_string, un_neg, un_not, bin_str_eql, bin_str_neq, bin_str_lss, bin_str_leq, bin_str_gtr, bin_str_geq, aget_aput, length_aput, aput_none, Nat.reduceEqDiff, Nat.reduceLT, Nat.reduceAdd, ↓reduceIte, reduceCtorEq, Bool.not_false, Bool.not_true, Bool.true_or, true_and, Option.bind_some, Option.map_some, List.nil_append, List.cons_append, resA, resA1, resVal, Option.getD_some, Nat.reduceLeDiff, bnd_some, yieldA_eq, yldOf_some, boolOf_bool, boolOf_undef, gt_none, List.getElem?_toArray, List.getElem?_cons_succ, List.getElem?_cons_zero, bq_true, bq_false, decide_true, decide_false, Option.toList_none, Option.toList_some, List.head?_cons, List.head?_nil, nb_cfg, not_false_eq_true, cv_some, pm_some, pm_none, plainA_v, plain_bool, plain_int, plain_str, Bool.false_eq_true, if_false]
            refine ⟨by kernel_rfl, ?_⟩
            have hu : utfB l = false := utfB_bad (by rw [hl]; exact bad3 hk (by simp only [secB, contB, Bool.and_eq_false_iff, decide_eq_false_iff_not]; omega)) (by rw [hl]; simp)
            exact ⟨1, by rw [← he, hu]; rfl⟩
          have g0 : decide ((b.toNat : Int) < (lo : Int)) = false := decide_eq_false (by omega)
          by_cases t1 : hi < b.toNat
          · have g1 : decide ((hi : Int) < (b.toNat : Int)) = true := decide_eq_true (by omega)
            simp -dsimp only [hn, h0, len_s, d0, x0, da, vg0, vg1, Option.map_some, vi0 hcl, AV.cells, vp5, fg, vand fl f1, vshr fl, fi, fa, cv53, ot_alloc, hro, valloc, vstore, vblk, vf0, vf1, Nat.zero_add, List.getElem?_cons_zero, List.getElem?_cons_succ, show IntKind.i64.wrap ((3 : Nat) : Int) = 3 from by decide, show decide ((3 : Int) = 2) = false from by decide, show decide ((3 : Int) = 3) = true from by decide, dl, x1, x2, g0, g1, wt_seq, wt_block, wt_region, wt_cond, wt_skip, wt_ret, wt_exit, wst_nil, wst_cons, wst_guard, andThen_normal, andThen_ret, andThen_exit, leave_normal, leave_ret, leave_exit, EndsA_ret, EndsA_normal, ot_move, ot_assign, ot_pick, ot_binOp, ot_unOp, ot_convert, ot_field, ot_index, ot_indexAddr, ot_fieldAddr, ot_slice, ot_build, ot_buildSlice, ot_extract, ot_makeInterface, ot_makeFunc, ot_nilCheck, ot_call, ot_len, ot_append, ot_box, ot_load, ot_store, ot_makeSlice, ot_alloc, ot_sliceData, ot_unsafeString, ct_bool, ct_true, ct_false, bt_some, gt_some, aval_tmp, aval_int, aval_bool, aval_str, aval_slice, aval_nilPointer, aval_nilIface, aval_func, aval_global, avals, apairs, bareP, AV.bare, AV.bares, bin_lss, bin_leq, bin_gtr, bin_geq, bin_eql, bin_neq, bin_add, bin_sub, bin_mul, bin_and, bin_or, bin_xor, toV_int, toV_bool, toV_string, un_neg, un_not, bin_str_eql, bin_str_neq, bin_str_lss, bin_str_leq, bin_str_gtr, bin_str_geq, aget_aput, length_aput, aput_none, Nat.reduceEqDiff, Nat.reduceLT, Nat.reduceAdd, ↓reduceIte, reduceCtorEq, Bool.not_false, Bool.not_true, Bool.true_or, true_and, Option.bind_some, Option.map_some, List.nil_append, List.cons_append, resA, resA1, resVal, Option.getD_some, Nat.reduceLeDiff, bnd_some, yieldA_eq, yldOf_some, boolOf_bool, boolOf_undef, gt_none, List.getElem?_toArray, List.getElem?_cons_succ, List.getElem?_cons_zero, bq_true, bq_false, decide_true, decide_false, Option.toList_none, Option.toList_some, List.head?_cons, List.head?_nil, nb_cfg, not_false_eq_true, cv_some, pm_some, pm_none, plainA_v, plain_bool, plain_int, plain_str, Bool.false_eq_true, if_false]
            refine ⟨by kernel_rfl, ?_⟩
            have hu : utfB l = false := utfB_bad (by rw [hl]; exact bad3 hk (by simp only [secB, contB, Bool.and_eq_false_iff, decide_eq_false_iff_not]; omega)) (by rw [hl]; simp)
            exact ⟨1, by rw [← he, hu]; rfl⟩
          have g1 : decide ((hi : Int) < (b.toNat : Int)) = false := decide_eq_false (by omega)
          by_cases t2 : d.toNat < 128
          · have g2 : decide ((d.toNat : Int) < 128) = true := decide_eq_true (by omega)
            simp -dsimp only [hn, h0, len_s, d0, x0, da, vg0, vg1, Option.map_some, vi0 hcl, AV.cells, vp5, fg, vand fl f1, vshr fl, fi, fa, cv53, ot_alloc, hro, valloc, vstore, vblk, vf0, vf1, Nat.zero_add, List.getElem?_cons_zero, List.getElem?_cons_succ, show IntKind.i64.wrap ((3 : Nat) : Int) = 3 from by decide, show decide ((3 : Int) = 2) = false from by decide, show decide ((3 : Int) = 3) = true from by decide, dl, x1, x2, g0, g1, g2, wt_seq, wt_block, wt_region, wt_cond, wt_skip, wt_ret, wt_exit, wst_nil, wst_cons, wst_guard, andThen_normal, andThen_ret, andThen_exit, leave_normal, leave_ret, leave_exit, EndsA_ret, EndsA_normal, ot_move, ot_assign, ot_pick, ot_binOp, ot_unOp, ot_convert, ot_field, ot_index, ot_indexAddr, ot_fieldAddr, ot_slice, ot_build, ot_buildSlice, ot_extract, ot_makeInterface, ot_makeFunc, ot_nilCheck, ot_call, ot_len, ot_append, ot_box, ot_load, ot_store, ot_makeSlice, ot_alloc, ot_sliceData, ot_unsafeString, ct_bool, ct_true, ct_false, bt_some, gt_some, aval_tmp, aval_int, aval_bool, aval_str, aval_slice, aval_nilPointer, aval_nilIface, aval_func, aval_global, avals, apairs, bareP, AV.bare, AV.bares, bin_lss, bin_leq, bin_gtr, bin_geq, bin_eql, bin_neq, bin_add, bin_sub, bin_mul, bin_and, bin_or, bin_xor, toV_int, toV_bool, toV_string, un_neg, un_not, bin_str_eql, bin_str_neq, bin_str_lss, bin_str_leq, bin_str_gtr, bin_str_geq, aget_aput, length_aput, aput_none, Nat.reduceEqDiff, Nat.reduceLT, Nat.reduceAdd, ↓reduceIte, reduceCtorEq, Bool.not_false, Bool.not_true, Bool.true_or, true_and, Option.bind_some, Option.map_some, List.nil_append, List.cons_append, resA, resA1, resVal, Option.getD_some, Nat.reduceLeDiff, bnd_some, yieldA_eq, yldOf_some, boolOf_bool, boolOf_undef, gt_none, List.getElem?_toArray, List.getElem?_cons_succ, List.getElem?_cons_zero, bq_true, bq_false, decide_true, decide_false, Option.toList_none, Option.toList_some, List.head?_cons, List.head?_nil, nb_cfg, not_false_eq_true, cv_some, pm_some, pm_none, plainA_v, plain_bool, plain_int, plain_str, Bool.false_eq_true, if_false]
            refine ⟨by kernel_rfl, ?_⟩
            have hu : utfB l = false := utfB_bad (by rw [hl]; exact bad3 hk (by simp only [secB, contB, Bool.and_eq_false_iff, decide_eq_false_iff_not]; omega)) (by rw [hl]; simp)
            exact ⟨1, by rw [← he, hu]; rfl⟩
          have g2 : decide ((d.toNat : Int) < 128) = false := decide_eq_false (by omega)
          by_cases t3 : 191 < d.toNat
          · have g3 : decide ((191 : Int) < (d.toNat : Int)) = true := decide_eq_true (by omega)
            simp -dsimp only [hn, h0, len_s, d0, x0, da, vg0, vg1, Option.map_some, vi0 hcl, AV.cells, vp5, fg, vand fl f1, vshr fl, fi, fa, cv53, ot_alloc, hro, valloc, vstore, vblk, vf0, vf1, Nat.zero_add, List.getElem?_cons_zero, List.getElem?_cons_succ, show IntKind.i64.wrap ((3 : Nat) : Int) = 3 from by decide, show decide ((3 : Int) = 2) = false from by decide, show decide ((3 : Int) = 3) = true from by decide, dl, x1, x2, g0, g1, g2, g3, wt_seq, wt_block, wt_region, wt_cond, wt_skip, wt_ret, wt_exit, wst_nil, wst_cons, wst_guard, andThen_normal, andThen_ret, andThen_exit, leave_normal, leave_ret, leave_exit, EndsA_ret, EndsA_normal, ot_move, ot_assign, ot_pick, ot_binOp, ot_unOp, ot_convert, ot_field, ot_index, ot_indexAddr, ot_fieldAddr, ot_slice, ot_build, ot_buildSlice, ot_extract, ot_makeInterface, ot_makeFunc, ot_nilCheck, ot_call, ot_len, ot_append, ot_box, ot_load, ot_store, ot_makeSlice, ot_alloc, ot_sliceData, ot_unsafeString, ct_bool, ct_true, ct_false, bt_some, gt_some, aval_tmp, aval_int, aval_bool, aval_str, aval_slice, aval_nilPointer, aval_nilIface, aval_func, aval_global, avals, apairs, bareP, AV.bare, AV.bares, bin_lss, bin_leq, bin_gtr, bin_geq, bin_eql, bin_neq, bin_add, bin_sub, bin_mul, bin_and, bin_or, bin_xor, toV_int, toV_bool, toV_string, un_neg, un_not, bin_str_eql, bin_str_neq, bin_str_lss, bin_str_leq, bin_str_gtr, bin_str_geq, aget_aput, length_aput, aput_none, Nat.reduceEqDiff, Nat.reduceLT, Nat.reduceAdd, ↓reduceIte, reduceCtorEq, Bool.not_false, Bool.not_true, Bool.true_or, true_and, Option.bind_some, Option.map_some, List.nil_append, List.cons_append, resA, resA1, resVal, Option.getD_some, Nat.reduceLeDiff, bnd_some, yieldA_eq, yldOf_some, boolOf_bool, boolOf_undef, gt_none, List.getElem?_toArray, List.getElem?_cons_succ, List.getElem?_cons_zero, bq_true, bq_false, decide_true, decide_false, Option.toList_none, Option.toList_some, List.head?_cons, List.head?_nil, nb_cfg, not_false_eq_true, cv_some, pm_some, pm_none, plainA_v, plain_bool, plain_int, plain_str, Bool.false_eq_true, if_false]
            refine ⟨by kernel_rfl, ?_⟩
            have hu : utfB l = false := utfB_bad (by rw [hl]; exact bad3 hk (by simp only [secB, contB, Bool.and_eq_false_iff, decide_eq_false_iff_not]; omega)) (by rw [hl]; simp)
            exact ⟨1, by rw [← he, hu]; rfl⟩
          have g3 : decide ((191 : Int) < (d.toNat : Int)) = false := decide_eq_false (by omega)
          have hst : stepN l = 3 := by rw [hl]; exact good3 hk (by simp only [secB, contB, Bool.and_eq_true, decide_eq_true_eq]; omega)
          have hsp := utfB_step (l := l) (by rw [hst]; decide)
          rw [hst] at hsp
          obtain ⟨l1, e1⟩ : ∃ l1, l.drop 3 = l1 := ⟨_, rfl⟩
          have s1 := sl_at (prim := uw1) e1 (j := 3) rfl (by omega)
          have n1 : l1.length = l.length - 3 := by rw [← e1, List.length_drop]
          rw [e1] at hsp
          simp -dsimp only [hn, h0, len_s, d0, x0, da, vg0, vg1, Option.map_some, vi0 hcl, AV.cells, vp5, fg, vand fl f1, vshr fl, fi, fa, cv53, ot_alloc, hro, valloc, vstore, vblk, vf0, vf1, Nat.zero_add, List.getElem?_cons_zero, List.getElem?_cons_succ, show IntKind.i64.wrap ((3 : Nat) : Int) = 3 from by decide, show decide ((3 : Int) = 2) = false from by decide, show decide ((3 : Int) = 3) = true from by decide, dl, x1, x2, g0, g1, g2, g3, s1, wt_seq, wt_block, wt_region, wt_cond, wt_skip, wt_ret, wt_exit, wst_nil, wst_cons, wst_guard, andThen_normal, andThen_ret, andThen_exit, leave_normal, leave_ret, leave_exit, EndsA_ret, EndsA_normal, ot_move, ot_assign, ot_pick, ot_binOp, ot_unOp, ot_convert, ot_field, ot_index, ot_indexAddr, ot_fieldAddr, ot_slice, ot_build, ot_buildSlice, ot_extract, ot_makeInterface, ot_makeFunc, ot_nilCheck, ot_call, ot_len, ot_append, ot_box, ot_load, ot_store, ot_makeSlice, ot_alloc, ot_sliceData, ot_unsafeString, ct_bool, ct_true, ct_false, bt_some, gt_some, aval_tmp, aval_int, aval_bool, aval_str, aval_slice, aval_nilPointer, aval_nilIface, aval_func, aval_global, avals, apairs, bareP, AV.bare, AV.bares, bin_lss, bin_leq, bin_gtr, bin_geq, bin_eql, bin_neq, bin_add, bin_sub, bin_mul, bin_and, bin_or, bin_xor, toV_int, toV_bool, toV_string, un_neg, un_not, bin_str_eql, bin_str_neq, bin_str_lss, bin_str_leq, bin_str_gtr, bin_str_geq, aget_aput, length_aput, aput_none, Nat.reduceEqDiff, Nat.reduceLT, Nat.reduceAdd, ↓reduceIte, reduceCtorEq, Bool.not_false, Bool.not_true, Bool.true_or, true_and, Option.bind_some, Option.map_some, List.nil_append, List.cons_append, resA, resA1, resVal, Option.getD_some, Nat.reduceLeDiff, bnd_some, yieldA_eq, yldOf_some, boolOf_bool, boolOf_undef, gt_none, List.getElem?_toArray, List.getElem?_cons_succ, List.getElem?_cons_zero, bq_true, bq_false, decide_true, decide_false, Option.toList_none, Option.toList_some, List.head?_cons, List.head?_nil, nb_cfg, not_false_eq_true, cv_some, pm_some, pm_none, plainA_v, plain_bool, plain_int, plain_str, Bool.false_eq_true, if_false]
          refine ⟨by kernel_rfl, ?_⟩
          refine ⟨_, ?_, l1, rfl, ?_, ?_, by omega, by rw [← hsp, he]⟩
          · omega
          all_goals simp -dsimp only [hn, h0, wt_seq, wt_block, wt_region, wt_cond, wt_skip, wt_ret, wt_exit, wst_nil, wst_cons, wst_guard, andThen_normal, andThen_ret, andThen_exit, leave_normal, leave_ret, leave_exit, EndsA_ret, EndsA_normal, ot_move, ot_assign, ot_pick, ot_binOp, ot_unOp, ot_convert, ot_field, ot_index, ot_indexAddr, ot_fieldAddr, ot_slice, ot_build, ot_buildSlice, ot_extract, ot_makeInterface, ot_makeFunc, ot_nilCheck, ot_call, ot_len, ot_append, ot_box, ot_load, ot_store, ot_makeSlice, ot_alloc, ot_sliceData, ot_unsafeString, ct_bool, ct_true, ct_false, bt_some, gt_some, aval_tmp, aval_int, aval_bool, aval_str, aval_slice, aval_nilPointer, aval_nilIface, aval_func, aval_global, avals, apairs, bareP, AV.bare, AV.bares, bin_lss, bin_leq, bin_gtr, bin_geq, bin_eql, bin_neq, bin_add, bin_sub, bin_mul, bin_and, bin_or, bin_xor, toV_int, toV_bool, toV_string, un_neg, un_not, bin_str_eql, bin_str_neq, bin_str_lss, bin_str_leq, bin_str_gtr, bin_str_geq, aget_aput, length_aput, aput_none, Nat.reduceEqDiff, Nat.reduceLT, Nat.reduceAdd, ↓reduceIte, reduceCtorEq, Bool.not_false, Bool.not_true, Bool.true_or, true_and, Option.bind_some, Option.map_some, List.nil_append, List.cons_append, resA, resA1, resVal, Option.getD_some, Nat.reduceLeDiff, bnd_some, yieldA_eq, yldOf_some, boolOf_bool, boolOf_undef, gt_none, List.getElem?_toArray, List.getElem?_cons_succ, List.getElem?_cons_zero, bq_true, bq_false, decide_true, decide_false, Option.toList_none, Option.toList_some, List.head?_cons, List.head?_nil, nb_cfg, not_false_eq_true, cv_some, pm_some, pm_none, plainA_v, plain_bool, plain_int, plain_str, Bool.false_eq_true, if_false]
        by_cases hk : szN c.toNat = 4
        · have f1 : n % 8 = 4 := by rw [f1, hk]; rfl
          by_cases hsh : l.length < 4
          · have dl : decide ((l.length : Int) < 4) = true := decide_eq_true (by omega)
            simp -dsimp only [hn, h0, len_s, d0, x0, da, vg0, vg1, Option.map_some, vi0 hcl, AV.cells, vp5, fg, vand fl f1, vshr fl, fi, fa, cv53, ot_alloc, hro, valloc, vstore, vblk, vf0, vf1, Nat.zero_add, List.getElem?_cons_zero, List.getElem?_cons_succ, show IntKind.i64.wrap ((4 : Nat) : Int) = 4 from by decide, show decide ((4 : Int) = 2) = false from by decide, show decide ((4 : Int) = 3) = false from by decide, show decide ((4 : Int) = 4) = true from by decide, dl, wt_seq, wt_block, wt_region, wt_cond, wt_skip, wt_ret, wt_exit, wst_nil, wst_cons, wst_guard, andThen_normal, andThen_ret, andThen_exit, leave_normal, leave_ret, leave_exit, EndsA_ret, EndsA_normal, ot_move, ot_assign, ot_pick, ot_binOp, ot_unOp, ot_convert, ot_field, ot_index, ot_indexAddr, ot_fieldAddr, ot_slice, ot_build, ot_buildSlice, ot_extract, ot_makeInterface, ot_makeFunc, ot_nilCheck, ot_call, ot_len, ot_append, ot_box, ot_load, ot_store, ot_makeSlice, ot_alloc, ot_sliceData, ot_unsafeString, ct_bool, ct_true, ct_false, bt_some, gt_some, aval_tmp, aval_int, aval_bool, aval_str, aval_slice, aval_nilPointer, aval_nilIface, aval_func, aval_global, avals, apairs, bareP, AV.bare, AV.bares, bin_lss, bin_leq, bin_gtr, bin_geq, bin_eql, bin_neq, bin_add, bin_sub, bin_mul, bin_and, bin_or, bin_xor, toV_int, toV_bool, toV_string, un_neg, un_not, bin_str_eql, bin_str_neq, bin_str_lss, bin_str_leq, bin_str_gtr, bin_str_geq, aget_aput, length_aput, aput_none, Nat.reduceEqDiff, Nat.reduceLT, Nat.reduceAdd, ↓reduceIte, reduceCtorEq, Bool.not_false, Bool.not_true, Bool.true_or, true_and, Option.bind_some, Option.map_some, List.nil_append, List.cons_append, resA, resA1, resVal, Option.getD_some, Nat.reduceLeDiff, bnd_some, yieldA_eq, yldOf_some, boolOf_bool, boolOf_undef, gt_none, List.getElem?_toArray, List.getElem?_cons_succ, List.getElem?_cons_zero, bq_true, bq_false, decide_true, decide_false, Option.toList_none, Option.toList_some, List.head?_cons, List.head?_nil, nb_cfg, not_false_eq_true, cv_some, pm_some, pm_none, plainA_v, plain_bool, plain_int, plain_str, Bool.false_eq_true, if_false]
            refine ⟨by kernel_rfl, ?_⟩
            have hu : utfB l = false := utfB_bad (by rw [hl]; exact short (by omega) hk (by rw [← hl]; exact hsh)) (by rw [hl]; simp)
            exact ⟨1, by rw [← he, hu]; rfl⟩
          have dl : decide ((l.length : Int) < 4) = false := decide_eq_false (by omega)
          obtain ⟨b, d, e, r', hr⟩ : ∃ b d e r', r = b :: d :: e :: r' := by
            rw [hl] at hsh
            match r, hsh with
            | b :: d :: e :: r', _ => exact ⟨b, d, e, r', rfl⟩
            | [], h => simp at h
            | [_], h => simp at h
            | [_, _], h => simp at h
          rw [hr] at hl
          clear hr
          have x1 : indexA (cfgP uw1) 9 (str l) (.v (.int .i64 1)) = some (.v (.int .u8 b.toNat)) := ixl (k := 1) rfl (by rw [hl]; rfl)
          have x2 : indexA (cfgP uw1) 9 (str l) (.v (.int .i64 2)) = some (.v (.int .u8 d.toNat)) := ixl (k := 2) rfl (by rw [hl]; rfl)
          have x3 : indexA (cfgP uw1) 9 (str l) (.v (.int .i64 3)) = some (.v (.int .u8 e.toNat)) := ixl (k := 3) rfl (by rw [hl]; rfl)
          by_cases t0 : b.toNat < lo
          · have g0 : decide ((b.toNat : Int) < (lo : Int)) = true := decide_eq_true (by omega)
            simp -dsimp only [hn, h0, len_s, d0, x0, da, vg0, vg1, Option.map_some, vi0 hcl, AV.cells, vp5, fg, vand fl f1, vshr fl, fi, fa, cv53, ot_alloc, hro, valloc, vstore, vblk, vf0, vf1, Nat.zero_add, List.getElem?_cons_zero, List.getElem?_cons_succ, show IntKind.i64.wrap ((4 : Nat) : Int) = 4 from by decide, show decide ((4 : Int) = 2) = false from by decide, show decide ((4 : Int) = 3) = false from by decide, show decide ((4 : Int) = 4) = true from by decide, dl, x1, x2, x3, g0, wt_seq, wt_block, wt_region, wt_cond, wt_skip, wt_ret, wt_exit, wst_nil, wst_cons, wst_guard, andThen_normal, andThen_ret, andThen_exit, leave_normal, leave_ret, leave_exit, EndsA_ret, EndsA_normal, ot_move, ot_assign, ot_pick, ot_binOp, ot_unOp, ot_convert, ot_field, ot_index, ot_indexAddr, ot_fieldAddr, ot_slice, ot_build, ot_buildSlice, ot_extract, ot_makeInterface, ot_makeFunc, ot_nilCheck, ot_call, ot_len, ot_append, ot_box, ot_load, ot_store, ot_makeSlice, ot_alloc, ot_sliceData, ot_unsafeString, ct_bool, ct_true, ct_false, bt_some, gt_some, aval_tmp, aval_int, aval_bool, aval_str, aval_slice, aval_nilPointer, aval_nilIface, aval_func, aval_global, avals, apairs, bareP, AV.bare, AV.bares, bin_lss, bin_leq, bin_gtr, bin_geq, bin_eql, bin_neq, bin_add, bin_sub, bin_mul, bin_and, bin_or, bin_xor, toV_int, toV_bool, toV_string, un_neg, un_not, bin_str_eql, bin_str_neq, bin_str_lss, bin_str_leq, bin_str_gtr, bin_str_geq, aget_aput, length_aput, aput_none, Nat.reduceEqDiff, Nat.reduceLT, Nat.reduceAdd, ↓reduceIte, reduceCtorEq, Bool.not_false, Bool.not_true, Bool.true_or, true_and, Option.bind_some, Option.map_some, List.nil_append, List.cons_append, resA, resA1, resVal, Option.getD_some, Nat.reduceLeDiff, bnd_some, yieldA_eq, yldOf_some, boolOf_bool, boolOf_undef, gt_none, List.getElem?_toArray, List.getElem?_cons_succ, List.getElem?_cons_zero, bq_true, bq_false, decide_true, decide_false, Option.toList_none, Option.toList_some, List.head?_cons, List.head?_nil, nb_cfg, not_false_eq_true, cv_some, pm_some, pm_none, plainA_v, plain_bool, plain_int, plain_str, Bool.false_eq_true, if_false]
            refine ⟨by kernel_rfl, ?_⟩
            have hu : utfB l = false := utfB_bad (by rw [hl]; exact bad4 hk (by simp only [secB, contB, Bool.and_eq_false_iff, decide_eq_false_iff_not]; omega)) (by rw [hl]; simp)
            exact ⟨1, by rw [← he, hu]; rfl⟩
          have g0 : decide ((b.toNat : Int) < (lo : Int)) = false := decide_eq_false (by omega)
          by_cases t1 : hi < b.toNat
          · have g1 : decide ((hi : Int) < (b.toNat : Int)) = true := decide_eq_true (by omega)
            simp -dsimp only [hn, h0, len_s, d0, x0, da, vg0, vg1, Option.map_some, vi0 hcl, AV.cells, vp5, fg, vand fl f1, vshr fl, fi, fa, cv53, ot_alloc, hro, valloc, vstore, vblk, vf0, vf1, Nat.zero_add, List.getElem?_cons_zero, List.getElem?_cons_succ, show IntKind.i64.wrap ((4 : Nat) : Int) = 4 from by decide, show decide ((4 : Int) = 2) = false from by decide, show decide ((4 : Int) = 3) = false from by decide, show decide ((4 : Int) = 4) = true from by decide, dl, x1, x2, x3, g0, g1, wt_seq, wt_block, wt_region, wt_cond, wt_skip, wt_ret, wt_exit, wst_nil, wst_cons, wst_guard, andThen_normal, andThen_ret, andThen_exit, leave_normal, leave_ret, leave_exit, EndsA_ret, EndsA_normal, ot_move, ot_assign, ot_pick, ot_binOp, ot_unOp, ot_convert, ot_field, ot_index, ot_indexAddr, ot_fieldAddr, ot_slice, ot_build, ot_buildSlice, ot_extract, ot_makeInterface, ot_makeFunc, ot_nilCheck, ot_call, ot_len, ot_append, ot_box, ot_load, ot_store, ot_makeSlice, ot_alloc, ot_sliceData, ot_unsafeString, ct_bool, ct_true, ct_false, bt_some, gt_some, aval_tmp, aval_int, aval_bool, aval_str, aval_slice, aval_nilPointer, aval_nilIface, aval_func, aval_global, avals, apairs, bareP, AV.bare, AV.bares, bin_lss, bin_leq, bin_gtr, bin_geq, bin_eql, bin_neq, bin_add, bin_sub, bin_mul, bin_and, bin_or, bin_xor, toV_int, toV_bool, toV_string, un_neg, un_not, bin_str_eql, bin_str_neq, bin_str_lss, bin_str_leq, bin_str_gtr, bin_str_geq, aget_aput, length_aput, aput_none, Nat.reduceEqDiff, Nat.reduceLT, Nat.reduceAdd, ↓reduceIte, reduceCtorEq, Bool.not_false, Bool.not_true, Bool.true_or, true_and, Option.bind_some, Option.map_some, List.nil_append, List.cons_append, resA, resA1, resVal, Option.getD_some, Nat.reduceLeDiff, bnd_some, yieldA_eq, yldOf_some, boolOf_bool, boolOf_undef, gt_none, List.getElem?_toArray, List.getElem?_cons_succ, List.getElem?_cons_zero, bq_true, bq_false, decide_true, decide_false, Option.toList_none, Option.toList_some, List.head?_cons, List.head?_nil, nb_cfg, not_false_eq_true, cv_some, pm_some, pm_none, plainA_v, plain_bool, plain_int, plain_str, Bool.false_eq_true, if_false]
            refine ⟨by kernel_rfl, ?_⟩
            have hu : utfB l = false := utfB_bad (by rw [hl]; exact bad4 hk (by simp only [secB, contB, Bool.and_eq_false_iff, decide_eq_false_iff_not]; omega)) (by rw [hl]; simp)
            exact ⟨1, by rw [← he, hu]; rfl⟩
          have g1 : decide ((hi : Int) < (b.toNat : Int)) = false := decide_eq_false (by omega)
          by_cases t2 : d.toNat < 128
          · have g2 : decide ((d.toNat : Int) < 128) = true := decide_eq_true (by omega)
            simp -dsimp only [hn, h0, len_s, d0, x0, da, vg0, vg1, Option.map_some, vi0 hcl, AV.cells, vp5, fg, vand fl f1, vshr fl, fi, fa, cv53, ot_alloc, hro, valloc, vstore, vblk, vf0, vf1, Nat.zero_add, List.getElem?_cons_zero, List.getElem?_cons_succ, show IntKind.i64.wrap ((4 : Nat) : Int) = 4 from by decide, show decide ((4 : Int) = 2) = false from by decide, show decide ((4 : Int) = 3) = false from by decide, show decide ((4 : Int) = 4) = true from by decide, dl, x1, x2, x3, g0, g1, g2, wt_seq, wt_block, wt_region, wt_cond, wt_skip, wt_ret, wt_exit, wst_nil, wst_cons, wst_guard, andThen_normal, andThen_ret, andThen_exit, leave_normal, leave_ret, leave_exit, EndsA_ret, EndsA_normal, ot_move, ot_assign, ot_pick, ot_binOp, ot_unOp, ot_convert, ot_field, ot_index, ot_indexAddr, ot_fieldAddr, ot_slice, ot_build, ot_buildSlice, ot_extract, ot_makeInterface, ot_makeFunc, ot_nilCheck, ot_call, ot_len, ot_append, ot_box, ot_load, ot_store, ot_makeSlice, ot_alloc, ot_sliceData, ot_unsafeString, ct_bool, ct_true, ct_false, bt_some, gt_some, aval_tmp, aval_int, aval_bool, aval_str, aval_slice, aval_nilPointer, aval_nilIface, aval_func, aval_global, avals, apairs, bareP, AV.bare, AV.bares, bin_lss, bin_leq, bin_gtr, bin_geq, bin_eql, bin_neq, bin_add, bin_sub, bin_mul, bin_and, bin_or, bin_xor, toV_int, toV_bool, toV_string, un_neg, un_not, bin_str_eql, bin_str_neq, bin_str_lss, bin_str_leq, bin_str_gtr, bin_str_geq, aget_aput, length_aput, aput_none, Nat.reduceEqDiff, Nat.reduceLT, Nat.reduceAdd, ↓reduceIte, reduceCtorEq, Bool.not_false, Bool.not_true, Bool.true_or, true_and, Option.bind_some, Option.map_some, List.nil_append, List.cons_append, resA, resA1, resVal, Option.getD_some, Nat.reduceLeDiff, bnd_some, yieldA_eq, yldOf_some, boolOf_bool, boolOf_undef, gt_none, List.getElem?_toArray, List.getElem?_cons_succ, List.getElem?_cons_zero, bq_true, bq_false, decide_true, decide_false, Option.toList_none, Option.toList_some, List.head?_cons, List.head?_nil, nb_cfg, not_false_eq_true, cv_some, pm_some, pm_none, plainA_v, plain_bool, plain_int, plain_str, Bool.false_eq_true, if_false]
            refine ⟨by kernel_rfl, ?_⟩
            have hu : utfB l = false := utfB_bad (by rw [hl]; exact bad4 hk (by simp only [secB, contB, Bool.and_eq_false_iff, decide_eq_false_iff_not]; omega)) (by rw [hl]; simp)
            exact ⟨1, by rw [← he, hu]; rfl⟩
          have g2 : decide ((d.toNat : Int) < 128) = false := decide_eq_false (by omega)
          by_cases t3 : 191 < d.toNat
          · have g3 : decide ((191 : Int) < (d.toNat : Int)) = true := decide_eq_true (by omega)
            simp -dsimp only [hn, h0, len_s, d0, x0, da, vg0, vg1, Option.map_some, vi0 hcl, AV.cells, vp5, fg, vand fl f1, vshr fl, fi, fa, cv53, ot_alloc, hro, valloc, vstore, vblk, vf0, vf1, Nat.zero_add, List.getElem?_cons_zero, List.getElem?_cons_succ, show IntKind.i64.wrap ((4 : Nat) : Int) = 4 from by decide, show decide ((4 : Int) = 2) = false from by decide, show decide ((4 : Int) = 3) = false from by decide, show decide ((4 : Int) = 4) = true from by decide, dl, x1, x2, x3, g0, g1, g2, g3, wt_seq, wt_block, wt_region, wt_cond, wt_skip, wt_ret, wt_exit, wst_nil, wst_cons, wst_guard, andThen_normal, andThen_ret, andThen_exit, leave_normal, leave_ret, leave_exit, EndsA_ret, EndsA_normal, ot_move, ot_assign, ot_pick, ot_binOp, ot_unOp, ot_convert, ot_field, ot_index, ot_indexAddr, ot_fieldAddr, ot_slice, ot_build, ot_buildSlice, ot_extract, ot_makeInterface, ot_makeFunc, ot_nilCheck, ot_call, ot_len, ot_append, ot_box, ot_load, ot_store, ot_makeSlice, ot_alloc, ot_sliceData, ot_unsafeString, ct_bool, ct_true, ct_false, bt_some, gt_some, aval_tmp, aval_int, aval_bool, aval_str, aval_slice, aval_nilPointer, aval_nilIface, aval_func, aval_global, avals, apairs, bareP, AV.bare, AV.bares, bin_lss, bin_leq, bin_gtr, bin_geq, bin_eql, bin_neq, bin_add, bin_sub, bin_mul, bin_and, bin_or, bin_xor, toV_int, toV_bool, toV_string, un_neg, un_not, bin_str_eql, bin_str_neq, bin_str_lss, bin_str_leq, bin_str_gtr, bin_str_geq, aget_aput, length_aput, aput_none, Nat.reduceEqDiff, Nat.reduceLT, Nat.reduceAdd, ↓reduceIte, reduceCtorEq, Bool.not_false, Bool.not_true, Bool.true_or, true_and, Option.bind_some, Option.map_some, List.nil_append, List.cons_append, resA, resA1, resVal, Option.getD_some, Nat.reduceLeDiff, bnd_some, yieldA_eq, yldOf_some, boolOf_bool, boolOf_undef, gt_none, List.getElem?_toArray, List.getElem?_cons_succ, List.getElem?_cons_zero, bq_true, bq_false, decide_true, decide_false, Option.toList_none, Option.toList_some, List.head?_cons, List.head?_nil, nb_cfg, not_false_eq_true, cv_some, pm_some, pm_none, plainA_v, plain_bool, plain_int, plain_str, Bool.false_eq_true, if_false]
            refine ⟨by kernel_rfl, ?_⟩
            have hu : utfB l = false := utfB_bad (by rw [hl]; exact bad4 hk (by simp only [secB, contB, Bool.and_eq_false_iff, decide_eq_false_iff_not]; omega)) (by rw [hl]; simp)
            exact ⟨1, by rw [← he, hu]; rfl⟩
          have g3 : decide ((191 : Int) < (d.toNat : Int)) = false := decide_eq_false (by omega)
          by_cases t4 : e.toNat < 128
          · have g4 : decide ((e.toNat : Int) < 128) = true := decide_eq_true (by omega)
            simp -dsimp only [hn, h0, len_s, d0, x0, da, vg0, vg1, Option.map_some, vi0 hcl, AV.cells, vp5, fg, vand fl f1, vshr fl, fi, fa, cv53, ot_alloc, hro, valloc, vstore, vblk, vf0, vf1, Nat.zero_add, List.getElem?_cons_zero, List.getElem?_cons_succ, show IntKind.i64.wrap ((4 : Nat) : Int) = 4 from by decide, show decide ((4 : Int) = 2) = false from by decide, show decide ((4 : Int) = 3) = false from by decide, show decide ((4 : Int) = 4) = true from by decide, dl, x1, x2, x3, g0, g1, g2, g3, g4, wt_seq, wt_block, wt_region, wt_cond, wt_skip, wt_ret, wt_exit, wst_nil, wst_cons, wst_guard, andThen_normal, andThen_ret, andThen_exit, leave_normal, leave_ret, leave_exit, EndsA_ret, EndsA_normal, ot_move, ot_assign, ot_pick, ot_binOp, ot_unOp, ot_convert, ot_field, ot_index, ot_indexAddr, ot_fieldAddr, ot_slice, ot_build, ot_buildSlice, ot_extract, ot_makeInterface, ot_makeFunc, ot_nilCheck, ot_call, ot_len, ot_append, ot_box, ot_load, ot_store, ot_makeSlice, ot_alloc, ot_sliceData, ot_unsafeString, ct_bool, ct_true, ct_false, bt_some, gt_some, aval_tmp, aval_int, aval_bool, aval_str, aval_slice, aval_nilPointer, aval_nilIface, aval_func, aval_global, avals, apairs, bareP, AV.bare, AV.bares, bin_lss, bin_leq, bin_gtr, bin_geq, bin_eql, bin_neq, bin_add, bin_sub, bin_mul, bin_and, bin_or, bin_xor, toV_int, toV_bool, toV_string, un_neg, un_not, bin_str_eql, bin_str_neq, bin_str_lss, bin_str_leq, bin_str_gtr, bin_str_geq, aget_aput, length_aput, aput_none, Nat.reduceEqDiff, Nat.reduceLT, Nat.reduceAdd, ↓reduceIte, reduceCtorEq, Bool.not_false, Bool.not_true, Bool.true_or, true_and, Option.bind_some, Option.map_some, List.nil_append, List.cons_append, resA, resA1, resVal, Option.getD_some, Nat.reduceLeDiff, bnd_some, yieldA_eq, yldOf_some, boolOf_bool, boolOf_undef, gt_none, List.getElem?_toArray, List.getElem?_cons_succ, List.getElem?_cons_zero, bq_true, bq_false, decide_true, decide_false, Option.toList_none, Option.toList_some, List.head?_cons, List.head?_nil, nb_cfg, not_false_eq_true, cv_some, pm_some, pm_none, plainA_v, plain_bool, plain_int, plain_str, Bool.false_eq_true, if_false]
            refine ⟨by kernel_rfl, ?_⟩
            have hu : utfB l = false := utfB_bad (by rw [hl]; exact bad4 hk (by simp only [secB, contB, Bool.and_eq_false_iff, decide_eq_false_iff_not]; omega)) (by rw [hl]; simp)
            exact ⟨1, by rw [← he, hu]; rfl⟩
          have g4 : decide ((e.toNat : Int) < 128) = false := decide_eq_false (by omega)
          by_cases t5 : 191 < e.toNat
          · have g5 : decide ((191 : Int) < (e.toNat : Int)) = true := decide_eq_true (by omega)
            simp -dsimp only [hn, h0, len_s, d0, x0, da, vg0, vg1, Option.map_some, vi0 hcl, AV.cells, vp5, fg, vand fl f1, vshr fl, fi, fa, cv53, ot_alloc, hro, valloc, vstore, vblk, vf0, vf1, Nat.zero_add, List.getElem?_cons_zero, List.getElem?_cons_succ, show IntKind.i64.wrap ((4 : Nat) : Int) = 4 from by decide, show decide ((4 : Int) = 2) = false from by decide, show decide ((4 : Int) = 3) = false from by decide, show decide ((4 : Int) = 4) = true from by decide, dl, x1, x2, x3, g0, g1, g2, g3, g4, g5, wt_seq, wt_block, wt_region, wt_cond, wt_skip, wt_ret, wt_exit, wst_nil, wst_cons, wst_guard, andThen_normal, andThen_ret, andThen_exit, leave_normal, leave_ret, leave_exit, EndsA_ret, EndsA_normal, ot_move, ot_assign, ot_pick, ot_binOp, ot_unOp, ot_convert, ot_field, ot_index, ot_indexAddr, ot_fieldAddr, ot_slice, ot_build, ot_buildSlice, ot_extract, ot_makeInterface, ot_makeFunc, ot_nilCheck, ot_call, ot_len, ot_append, ot_box, ot_load, ot_store, ot_makeSlice, ot_alloc, ot_sliceData, ot_unsafeString, ct_bool, ct_true, ct_false, bt_some, gt_some, aval_tmp, aval_int, aval_bool, aval_str, aval_slice, aval_nilPointer, aval_nilIface, aval_func, aval_global, avals, apairs, bareP, AV.bare, AV.bares, bin_lss, bin_leq, bin_gtr, bin_geq, bin_eql, bin_neq, bin_add, bin_sub, bin_mul, bin_and, bin_or, bin_xor, toV_int, toV_bool, toV_string, un_neg, un_not, bin_str_eql, bin_str_neq, bin_str_lss, bin_str_leq, bin_str_gtr, bin_str_geq, aget_aput, length_aput, aput_none, Nat.reduceEqDiff, Nat.reduceLT, Nat.reduceAdd, ↓reduceIte, reduceCtorEq, Bool.not_false, Bool.not_true, Bool.true_or, true_and, Option.bind_some, Option.map_some, List.nil_append, List.cons_append, resA, resA1, resVal, Option.getD_some, Nat.reduceLeDiff, bnd_some, yieldA_eq, yldOf_some, boolOf_bool, boolOf_undef, gt_none, List.getElem?_toArray, List.getElem?_cons_succ, List.getElem?_cons_zero, bq_true, bq_false, decide_true, decide_false, Option.toList_none, Option.toList_some, List.head?_cons, List.head?_nil, nb_cfg, not_false_eq_true, cv_some, pm_some, pm_none, plainA_v, plain_bool, plain_int, plain_str, Bool.false_eq_true, if_false]
            refine ⟨by kernel_rfl, ?_⟩
            have hu : utfB l = false := utfB_bad (by rw [hl]; exact bad4 hk (by simp only [secB, contB, Bool.and_eq_false_iff, decide_eq_false_iff_not]; omega)) (by rw [hl]; simp)
            exact ⟨1, by rw [← he, hu]; rfl⟩
          have g5 : decide ((191 : Int) < (e.toNat : Int)) = false := decide_eq_false (by omega)
          have hst : stepN l = 4 := by rw [hl]; exact good4 hk (by simp only [secB, contB, Bool.and_eq_true, decide_eq_true_eq]; omega)
          have hsp := utfB_step (l := l) (by rw [hst]; decide)
          rw [hst] at hsp
          obtain ⟨l1, e1⟩ : ∃ l1, l.drop 4 = l1 := ⟨_, rfl⟩
          have s1 := sl_at (prim := uw1) e1 (j := 4) rfl (by omega)
          have n1 : l1.length = l.length - 4 := by rw [← e1, List.length_drop]
          rw [e1] at hsp
          simp -dsimp only [hn, h0, len_s, d0, x0, da, vg0, vg1, Option.map_some, vi0 hcl, AV.cells, vp5, fg, vand fl f1, vshr fl, fi, fa, cv53, ot_alloc, hro, valloc, vstore, vblk, vf0, vf1, Nat.zero_add, List.getElem?_cons_zero, List.getElem?_cons_succ, show IntKind.i64.wrap ((4 : Nat) : Int) = 4 from by decide, show decide ((4 : Int) = 2) = false from by decide, show decide ((4 : Int) = 3) = false from by decide, show decide ((4 : Int) = 4) = true from by decide, dl, x1, x2, x3, g0, g1, g2, g3, g4, g5, s1, wt_seq, wt_block, wt_region, wt_cond, wt_skip, wt_ret, wt_exit, wst_nil, wst_cons, wst_guard, andThen_normal, andThen_ret, andThen_exit, leave_normal, leave_ret, leave_exit, EndsA_ret, EndsA_normal, ot_move, ot_assign, ot_pick, ot_binOp, ot_unOp, ot_convert, ot_field, ot_index, ot_indexAddr, ot_fieldAddr, ot_slice, ot_build, ot_buildSlice, ot_extract, ot_makeInterface, ot_makeFunc, ot_nilCheck, ot_call, ot_len, ot_append, ot_box, ot_load, ot_store, ot_makeSlice, ot_alloc, ot_sliceData, ot_unsafeString, ct_bool, ct_true, ct_false, bt_some, gt_some, aval_tmp, aval_int, aval_bool, aval_str, aval_slice, aval_nilPointer, aval_nilIface, aval_func, aval_global, avals, apairs, bareP, AV.bare, AV.bares, bin_lss, bin_leq, bin_gtr, bin_geq, bin_eql, bin_neq, bin_add, bin_sub, bin_mul, bin_and, bin_or, bin_xor, toV_int, toV_bool, toV_string, un_neg, un_not, bin_str_eql, bin_str_neq, bin_str_lss, bin_str_leq, bin_str_gtr, bin_str_geq, aget_aput, length_aput, aput_none, Nat.reduceEqDiff, Nat.reduceLT, Nat.reduceAdd, ↓reduceIte, reduceCtorEq, Bool.not_false, Bool.not_true, Bool.true_or, true_and, Option.bind_some, Option.map_some, List.nil_append, List.cons_append, resA, resA1, resVal, Option.getD_some, Nat.reduceLeDiff, bnd_some, yieldA_eq, yldOf_some, boolOf_bool, boolOf_undef, gt_none, List.getElem?_toArray, List.getElem?_cons_succ, List.getElem?_cons_zero, bq_true, bq_false, decide_true, decide_false, Option.toList_none, Option.toList_some, List.head?_cons, List.head?_nil, nb_cfg, not_false_eq_true, cv_some, pm_some, pm_none, plainA_v, plain_bool, plain_int, plain_str, Bool.false_eq_true, if_false]
          refine ⟨by kernel_rfl, ?_⟩
          refine ⟨_, ?_, l1, rfl, ?_, ?_, by omega, by rw [← hsp, he]⟩
          · omega
          all_goals simp -dsimp only [hn, h0, wt_seq, wt_block, wt_region, wt_cond, wt_skip, wt_ret, wt_exit, wst_nil, wst_cons, wst_guard, andThen_normal, andThen_ret, andThen_exit, leave_normal, leave_ret, leave_exit, EndsA_ret, EndsA_normal, ot_move, ot_assign, ot_pick, ot_binOp, ot_unOp, ot_convert, ot_field, ot_index, ot_indexAddr, ot_fieldAddr, ot_slice, ot_build, ot_buildSlice, ot_extract, ot_makeInterface, ot_makeFunc, ot_nilCheck, ot_call, ot_len, ot_append, ot_box, ot_load, ot_store, ot_makeSlice, ot_alloc, ot_sliceData, ot_unsafeString, ct_bool, ct_true, ct_false, bt_some, gt_some, aval_tmp, aval_int, aval_bool, aval_str, aval_slice, aval_nilPointer, aval_nilIface, aval_func, aval_global, avals, apairs, bareP, AV.bare, AV.bares, bin_lss, bin_leq, bin_gtr, bin_geq, bin_eql, bin_neq, bin_add, bin_sub, bin_mul, bin_and, bin_or, bin_xor, toV_int, toV_bool, toV_string, un_neg, un_not, bin_str_eql, bin_str_neq, bin_str_lss, bin_str_leq, bin_str_gtr, bin_str_geq, aget_aput, length_aput, aput_none, Nat.reduceEqDiff, Nat.reduceLT, Nat.reduceAdd, ↓reduceIte, reduceCtorEq, Bool.not_false, Bool.not_true, Bool.true_or, true_and, Option.bind_some, Option.map_some, List.nil_append, List.cons_append, resA, resA1, resVal, Option.getD_some, Nat.reduceLeDiff, bnd_some, yieldA_eq, yldOf_some, boolOf_bool, boolOf_undef, gt_none, List.getElem?_toArray, List.getElem?_cons_succ, List.getElem?_cons_zero, bq_true, bq_false, decide_true, decide_false, Option.toList_none, Option.toList_some, List.head?_cons, List.head?_nil, nb_cfg, not_false_eq_true, cv_some, pm_some, pm_none, plainA_v, plain_bool, plain_int, plain_str, Bool.false_eq_true, if_false]
        exfalso
        have := szN_lt c.toNat
        omega
    · have d0 : decide ((0 : Int) < (l.length : Int)) = false := decide_eq_false (by omega)
      obtain rfl : l = [] := List.length_eq_zero_iff.1 (by omega)
      simp -dsimp only [hn, h0, len_s, d0, wt_seq, wt_block, wt_region, wt_cond, wt_skip, wt_ret, wt_exit, wst_nil, wst_cons, wst_guard, andThen_normal, andThen_ret, andThen_exit, leave_normal, leave_ret, leave_exit, EndsA_ret, EndsA_normal, ot_move, ot_assign, ot_pick, ot_binOp, ot_unOp, ot_convert, ot_field, ot_index, ot_indexAddr, ot_fieldAddr, ot_slice, ot_build, ot_buildSlice, ot_extract, ot_makeInterface, ot_makeFunc, ot_nilCheck, ot_call, ot_len, ot_append, ot_box, ot_load, ot_store, ot_makeSlice, ot_alloc, ot_sliceData, ot_unsafeString, ct_bool, ct_true, ct_false, bt_some, gt_some, aval_tmp, aval_int, aval_bool, aval_str, aval_slice, aval_nilPointer, aval_nilIface, aval_func, aval_global, avals, apairs, bareP, AV.bare, AV.bares, bin_lss, bin_leq, bin_gtr, bin_geq, bin_eql, bin_neq, bin_add, bin_sub, bin_mul, bin_and, bin_or, bin_xor, toV_int, toV_bool, toV_string, un_neg, un_not, bin_str_eql, bin_str_neq, bin_str_lss, bin_str_leq, bin_str_gtr, bin_str_geq, aget_aput, length_aput, aput_none, Nat.reduceEqDiff, Nat.reduceLT, Nat.reduceAdd, ↓reduceIte, reduceCtorEq, Bool.not_false, Bool.not_true, Bool.true_or, true_and, Option.bind_some, Option.map_some, List.nil_append, List.cons_append, resA, resA1, resVal, Option.getD_some, Nat.reduceLeDiff, bnd_some, yieldA_eq, yldOf_some, boolOf_bool, boolOf_undef, gt_none, List.getElem?_toArray, List.getElem?_cons_succ, List.getElem?_cons_zero, bq_true, bq_false, decide_true, decide_false, Option.toList_none, Option.toList_some, List.head?_cons, List.head?_nil, nb_cfg, not_false_eq_true, cv_some, pm_some, pm_none, plainA_v, plain_bool, plain_int, plain_str, Bool.false_eq_true, if_false]
      exact ⟨1, by rw [← he]; rfl⟩
  · refine ⟨l0, rfl, ?_, ?_, Nat.le_refl _, rfl⟩
    all_goals simp -dsimp only [hn, h0, wt_seq, wt_block, wt_region, wt_cond, wt_skip, wt_ret, wt_exit, wst_nil, wst_cons, wst_guard, andThen_normal, andThen_ret, andThen_exit, leave_normal, leave_ret, leave_exit, EndsA_ret, EndsA_normal, ot_move, ot_assign, ot_pick, ot_binOp, ot_unOp, ot_convert, ot_field, ot_index, ot_indexAddr, ot_fieldAddr, ot_slice, ot_build, ot_buildSlice, ot_extract, ot_makeInterface, ot_makeFunc, ot_nilCheck, ot_call, ot_len, ot_append, ot_box, ot_load, ot_store, ot_makeSlice, ot_alloc, ot_sliceData, ot_unsafeString, ct_bool, ct_true, ct_false, bt_some, gt_some, aval_tmp, aval_int, aval_bool, aval_str, aval_slice, aval_nilPointer, aval_nilIface, aval_func, aval_global, avals, apairs, bareP, AV.bare, AV.bares, bin_lss, bin_leq, bin_gtr, bin_geq, bin_eql, bin_neq, bin_add, bin_sub, bin_mul, bin_and, bin_or, bin_xor, toV_int, toV_bool, toV_string, un_neg, un_not, bin_str_eql, bin_str_neq, bin_str_lss, bin_str_leq, bin_str_gtr, bin_str_geq, aget_aput, length_aput, aput_none, Nat.reduceEqDiff, Nat.reduceLT, Nat.reduceAdd, ↓reduceIte, reduceCtorEq, Bool.not_false, Bool.not_true, Bool.true_or, true_and, Option.bind_some, Option.map_some, List.nil_append, List.cons_append, resA, resA1, resVal, Option.getD_some, Nat.reduceLeDiff, bnd_some, yieldA_eq, yldOf_some, boolOf_bool, boolOf_undef, gt_none, List.getElem?_toArray, List.getElem?_cons_succ, List.getElem?_cons_zero, bq_true, bq_false, decide_true, decide_false, Option.toList_none, Option.toList_some, List.head?_cons, List.head?_nil, nb_cfg, not_false_eq_true, cv_some, pm_some, pm_none, plainA_v, plain_bool, plain_int, plain_str, Bool.false_eq_true, if_false]
end Go.Proofs.YtjejeijldllloaaDoor

/- Chapter 1: Good, Runes; what is told awake; UtfJoins. -/
namespace Go.Proofs
open Go.Shelf
shelf_lay Lays.n195 Nm 195 at Tryd as Tryd.lays195
end Go.Proofs
namespace Go.Proofs.YtjejeijldllloaaDoor
open Go.AM
/-- How many code points. -/
def runesP : List AV → Option AV
  | [x] => (dS x).bind fun l => if l.length < 9223372036854775807 then (cnt l).map fun (m : Nat) => AV.v (.int .i64 (m : Int)) else none
  | _ => none
theorem runes_ok (xs : List AV) (r : AV) (h : runesP xs = some r) : PureOk (cfgP fun _ => none) 68 xs r := by
  match xs, h with
  | [x], h =>
    obtain ⟨l, hl, h⟩ := Option.bind_eq_some_iff.1 h
    split at h
    · rename_i hn
      obtain ⟨m, hm, rfl⟩ := Option.map_eq_some_iff.1 h
      rw [dS_iff.1 hl, ← runeCount_of hm]
      exact runes_pure (fun s w hs => Any.utf8_RuneCountInString Tryd.lays195 s w hs) l hn
    · cases h
theorem runesP_eq {l : List UInt8} {m : Nat} (hl : l.length < 9223372036854775807) (h : cnt l = some m) : runesP [str l] = some (.v (.int .i64 (m : Int))) := by
  simp only [runesP, dS_str, Option.bind_some, if_pos hl, h, Option.map_some]
def validP := s1P 9223372036854775807 fun l => .v (.bool (utfB l))
theorem validP_eq {l : List UInt8} (h : l.length < 9223372036854775807) : validP [str l] = some (.v (.bool (utfB l))) := s1P_eq h
def uv1 : FuncId → Option (List AV → Option AV) := tab [(67, validP)]
theorem uv1_ok : (cfgP uv1).Ok := cfg_ok (tab_ok ⟨prim_at Tryd.func67 (by kernel_rfl) rfl ((s1P_of fun l h => valid_ok l (by omega))), trivial⟩)
theorem uv1_67 : (cfgP uv1).prim 67 = some validP := rfl
theorem good_ok (l : List UInt8) (h : l.length < 9223372036854775807) : PureOk (cfgP uv1) 22 [str l] (.v (.bool (utfB l))) := by
  refine pure_of_wk (call := noCall) (fn := Tryd.f22) (rs := [.tmp 2]) uv1_ok noCall_ok (fns_cfg Tryd.func22 rfl) rfl rfl ?_
  intro env hl0 hargs
  have hn : env.length = 5 := hl0
  have h0 := hargs 0 _ rfl
  clear hargs hl0
  refine wkT_of ?_
  simp -dsimp only [hn, h0, ct_prim uv1_67, bare_s, validP_eq h, wt_seq, wt_block, wt_region, wt_cond, wt_skip, wt_ret, wt_exit, wst_nil, wst_cons, wst_guard, andThen_normal, andThen_ret, andThen_exit, leave_normal, leave_ret, leave_exit, EndsA_ret, EndsA_normal, ot_move, ot_assign, ot_pick, ot_binOp, ot_unOp, ot_convert, ot_field, ot_index, ot_indexAddr, ot_fieldAddr, ot_slice, ot_build, ot_buildSlice, ot_extract, ot_makeInterface, ot_makeFunc, ot_nilCheck, ot_call, ot_len, ot_append, ot_box, ot_load, ot_store, ot_makeSlice, ot_alloc, ot_sliceData, ot_unsafeString, ct_bool, ct_true, ct_false, bt_some, gt_some, aval_tmp, aval_int, aval_bool, aval_str, aval_slice, aval_nilPointer, aval_nilIface, aval_func, aval_global, avals, apairs, bareP, AV.bare, AV.bares, bin_lss, bin_leq, bin_gtr, bin_geq, bin_eql, bin_neq, bin_add, bin_sub, bin_mul, bin_and, bin_or, bin_xor, toV_int, toV_bool, toV_string, un_neg, un_not, bin_str_eql, bin_str_neq, bin_str_lss, bin_str_leq, bin_str_gtr, bin_str_geq, aget_aput, length_aput, aput_none, Nat.reduceEqDiff, Nat.reduceLT, Nat.reduceAdd, ↓reduceIte, reduceCtorEq, Bool.not_false, Bool.not_true, Bool.true_or, true_and, Option.bind_some, Option.map_some, List.nil_append, List.cons_append, resA, resA1, resVal, Option.getD_some, Nat.reduceLeDiff, bnd_some, yieldA_eq, yldOf_some, boolOf_bool, boolOf_undef, gt_none, List.getElem?_toArray, List.getElem?_cons_succ, List.getElem?_cons_zero, bq_true, bq_false, decide_true, decide_false, Option.toList_none, Option.toList_some, List.head?_cons, List.head?_nil, nb_cfg, not_false_eq_true, cv_some, pm_some, pm_none, plainA_v, plain_bool, plain_int, plain_str, Bool.false_eq_true, if_false]
  exact ⟨1, rfl⟩
/-- How many code points a text has; -1: it is not well-formed. -/
def runesZ (l : List UInt8) : Int := match cnt l with
  | some m => m
  | none => -1
def runesQ := s1P 9223372036854775807 fun l => .v (.int .i64 (runesZ l))
theorem runesQ_eq {l : List UInt8} (h : l.length < 9223372036854775807) : runesQ [str l] = some (.v (.int .i64 (runesZ l))) := s1P_eq h
def uv2 : FuncId → Option (List AV → Option AV) := tab [(22, validP), (68, runesP)]
theorem uv2_ok : (cfgP uv2).Ok := cfg_ok (tab_ok ⟨prim_at Tryd.func22 (by kernel_rfl) rfl ((s1P_of good_ok)), prim_at Tryd.func68 (by kernel_rfl) rfl (runes_ok), trivial⟩)
theorem uv2_22 : (cfgP uv2).prim 22 = some validP := rfl
theorem uv2_68 : (cfgP uv2).prim 68 = some runesP := rfl
theorem runesF_ok (l : List UInt8) (h : l.length < 9223372036854775807) : PureOk (cfgP uv2) 23 [str l] (.v (.int .i64 (runesZ l))) := by
  cases hm : cnt l with
  | none =>
    have hu : utfB l = false := by unfold utfB; rw [hm]; rfl
    have hr : runesZ l = -1 := by unfold runesZ; rw [hm]
    rw [hr]
    refine pure_of_wk (call := noCall) (fn := Tryd.f23) (rs := [.tmp 2]) uv2_ok noCall_ok (fns_cfg Tryd.func23 rfl) rfl rfl ?_
    intro env hl0 hargs
    have hn : env.length = 8 := hl0
    have h0 := hargs 0 _ rfl
    clear hargs hl0
    refine wkT_of ?_
    simp -dsimp only [hn, h0, ct_prim uv2_22, bare_s, validP_eq h, hu, Bool.not_false, wt_seq, wt_block, wt_region, wt_cond, wt_skip, wt_ret, wt_exit, wst_nil, wst_cons, wst_guard, andThen_normal, andThen_ret, andThen_exit, leave_normal, leave_ret, leave_exit, EndsA_ret, EndsA_normal, ot_move, ot_assign, ot_pick, ot_binOp, ot_unOp, ot_convert, ot_field, ot_index, ot_indexAddr, ot_fieldAddr, ot_slice, ot_build, ot_buildSlice, ot_extract, ot_makeInterface, ot_makeFunc, ot_nilCheck, ot_call, ot_len, ot_append, ot_box, ot_load, ot_store, ot_makeSlice, ot_alloc, ot_sliceData, ot_unsafeString, ct_bool, ct_true, ct_false, bt_some, gt_some, aval_tmp, aval_int, aval_bool, aval_str, aval_slice, aval_nilPointer, aval_nilIface, aval_func, aval_global, avals, apairs, bareP, AV.bare, AV.bares, bin_lss, bin_leq, bin_gtr, bin_geq, bin_eql, bin_neq, bin_add, bin_sub, bin_mul, bin_and, bin_or, bin_xor, toV_int, toV_bool, toV_string, un_neg, un_not, bin_str_eql, bin_str_neq, bin_str_lss, bin_str_leq, bin_str_gtr, bin_str_geq, aget_aput, length_aput, aput_none, Nat.reduceEqDiff, Nat.reduceLT, Nat.reduceAdd, ↓reduceIte, reduceCtorEq, Bool.not_false, Bool.not_true, Bool.true_or, true_and, Option.bind_some, Option.map_some, List.nil_append, List.cons_append, resA, resA1, resVal, Option.getD_some, Nat.reduceLeDiff, bnd_some, yieldA_eq, yldOf_some, boolOf_bool, boolOf_undef, gt_none, List.getElem?_toArray, List.getElem?_cons_succ, List.getElem?_cons_zero, bq_true, bq_false, decide_true, decide_false, Option.toList_none, Option.toList_some, List.head?_cons, List.head?_nil, nb_cfg, not_false_eq_true, cv_some, pm_some, pm_none, plainA_v, plain_bool, plain_int, plain_str, Bool.false_eq_true, if_false]
    exact ⟨1, rfl⟩
  | some m =>
    have hu : utfB l = true := by unfold utfB; rw [hm]; rfl
    have hr : runesZ l = m := by unfold runesZ; rw [hm]
    rw [hr]
    refine pure_of_wk (call := noCall) (fn := Tryd.f23) (rs := [.tmp 2]) uv2_ok noCall_ok (fns_cfg Tryd.func23 rfl) rfl rfl ?_
    intro env hl0 hargs
    have hn : env.length = 8 := hl0
    have h0 := hargs 0 _ rfl
    clear hargs hl0
    refine wkT_of ?_
    simp -dsimp only [hn, h0, ct_prim uv2_22, ct_prim uv2_68, bare_s, validP_eq h, runesP_eq h hm, hu, Bool.not_true, wt_seq, wt_block, wt_region, wt_cond, wt_skip, wt_ret, wt_exit, wst_nil, wst_cons, wst_guard, andThen_normal, andThen_ret, andThen_exit, leave_normal, leave_ret, leave_exit, EndsA_ret, EndsA_normal, ot_move, ot_assign, ot_pick, ot_binOp, ot_unOp, ot_convert, ot_field, ot_index, ot_indexAddr, ot_fieldAddr, ot_slice, ot_build, ot_buildSlice, ot_extract, ot_makeInterface, ot_makeFunc, ot_nilCheck, ot_call, ot_len, ot_append, ot_box, ot_load, ot_store, ot_makeSlice, ot_alloc, ot_sliceData, ot_unsafeString, ct_bool, ct_true, ct_false, bt_some, gt_some, aval_tmp, aval_int, aval_bool, aval_str, aval_slice, aval_nilPointer, aval_nilIface, aval_func, aval_global, avals, apairs, bareP, AV.bare, AV.bares, bin_lss, bin_leq, bin_gtr, bin_geq, bin_eql, bin_neq, bin_add, bin_sub, bin_mul, bin_and, bin_or, bin_xor, toV_int, toV_bool, toV_string, un_neg, un_not, bin_str_eql, bin_str_neq, bin_str_lss, bin_str_leq, bin_str_gtr, bin_str_geq, aget_aput, length_aput, aput_none, Nat.reduceEqDiff, Nat.reduceLT, Nat.reduceAdd, ↓reduceIte, reduceCtorEq, Bool.not_false, Bool.not_true, Bool.true_or, true_and, Option.bind_some, Option.map_some, List.nil_append, List.cons_append, resA, resA1, resVal, Option.getD_some, Nat.reduceLeDiff, bnd_some, yieldA_eq, yldOf_some, boolOf_bool, boolOf_undef, gt_none, List.getElem?_toArray, List.getElem?_cons_succ, List.getElem?_cons_zero, bq_true, bq_false, decide_true, decide_false, Option.toList_none, Option.toList_some, List.head?_cons, List.head?_nil, nb_cfg, not_false_eq_true, cv_some, pm_some, pm_none, plainA_v, plain_bool, plain_int, plain_str, Bool.false_eq_true, if_false]
    exact ⟨1, rfl⟩
theorem uawake_run : (callA (cfgP uv2) 5000 18 [] {}).map (·.1) = some (.v (.bool true)) := by kernel_rfl
def awakeP : List AV → Option AV
  | [] => some (.v (.bool true))
  | _ => none
theorem uawake_ok : ∀ xs r, awakeP xs = some r → PureOk (cfgP uv2) 18 xs r := by
  intro xs r h
  unfold awakeP at h
  split at h
  · injection h with h; subst h
    obtain ⟨⟨x, H⟩, hr, hx⟩ := Option.map_eq_some_iff.1 uawake_run
    cases hx
    exact pureOk_of (n := 1) (((callA_ok uv2_ok 5000).ok _ _ _ _ _ hr).2) rfl
  · cases h
def uv3 : FuncId → Option (List AV → Option AV) := tab [(18, awakeP), (22, validP), (23, runesQ)]
theorem uv3_ok : (cfgP uv3).Ok := cfg_ok (tab_ok ⟨prim_at Tryd.func18 (by kernel_rfl) rfl (uawake_ok), prim_at Tryd.func22 (by kernel_rfl) rfl ((s1P_of good_ok)), prim_at Tryd.func23 (by kernel_rfl) rfl ((s1P_of runesF_ok)), trivial⟩)
theorem uv3_18 : (cfgP uv3).prim 18 = some awakeP := rfl
theorem uv3_22 : (cfgP uv3).prim 22 = some validP := rfl
theorem uv3_23 : (cfgP uv3).prim 23 = some runesQ := rfl
end Go.Proofs.YtjejeijldllloaaDoor
