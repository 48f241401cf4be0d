/- Contracts of functions, and plain facts about what they compute. -/
import Derived.Test.YtonmpbfddiflhaaDoorIdk
import Derived.Test.YtonmpbfddiflhaaDoorAmD
set_option linter.unusedSimpArgs false
set_option linter.unusedVariables false
/- IdentEvents. -/
namespace Go.Proofs.YtonmpbfddiflhaaDoor
open Go.AM
theorem bares_byts : ∀ l : List UInt8, AV.bares (byts l) = some (byts l)
  | [] => rfl
  | c :: l => by
    have ih := bares_byts l
    show (match AV.bare (byt c), AV.bares (byts l) with | some y, some ys => some (y :: ys) | _, _ => none) = some (byts (c :: l))
    rw [ih]
    rfl
theorem flat_byts (l : List UInt8) : (byts l).all AV.flat = true := by
  rw [List.all_eq_true]
  intro x hx
  obtain ⟨c, _, rfl⟩ := List.mem_map.1 hx
  rfl
theorem chunk_byts : ∀ l : List UInt8, chunk false 1 (byts l) l.length = some (byts l)
  | [] => rfl
  | c :: l => by
    have ih := chunk_byts l
    simp only [byts] at ih
    simp [byts, chunk, ih]
section
variable {prim : FuncId → Option (List AV → Option AV)}
theorem slArr {l : List UInt8} (h : l.length = 32) : sliceA (cfgP prim) 38 (.rp (.agg (byts l)) 0) none none none = some (.cl false (byts l)) := by
  have hu : (cfgP prim).und 38 = some (.array 32 5) := by kernel_rfl
  have hg : isAggT (cfgP prim) 5 = some false := by kernel_rfl
  have hc : (cfgP prim).csz 5 = some 1 := by kernel_rfl
  have hl : (byts l).length = 32 * 1 ∧ 0 < 1 := by simp [byts, h]
  have hk := chunk_byts l
  rw [h] at hk
  simp only [sliceA, hu, hg, hc]
  rw [if_pos hl, hk]
  rfl
theorem c3u {n : Int} : convA (cfgP prim) 3 39 (.v (.int .i64 n)) = some (.v (.int .u64 (IntKind.u64.wrap n))) := conv_int (j := .i64) (by kernel_rfl) (by kernel_rfl) (by kernel_rfl) (by kernel_rfl)
theorem cu3 {n : Int} : convA (cfgP prim) 39 3 (.v (.int .u64 n)) = some (.v (.int .i64 (IntKind.i64.wrap n))) := conv_int (j := .u64) (by kernel_rfl) (by kernel_rfl) (by kernel_rfl) (by kernel_rfl)
theorem nb9 : nbOf (cfgP prim) 9 (some 25) = true := rfl
theorem nb9a : nbOf (cfgP prim) 9 (some 18) = false := rfl
theorem nb9b : nbOf (cfgP prim) 9 (some 21) = false := rfl
theorem nb9c : nbOf (cfgP prim) 9 (some 23) = false := rfl
theorem nb9d : nbOf (cfgP prim) 9 (some 33) = false := rfl
theorem nb9e : nbOf (cfgP prim) 9 (some 58) = false := rfl
theorem cvN {l : List UInt8} : convW (cfgP prim) 9 22 (str l) {} = some (.ex 0 0 1 0 l.length, hb1 1 (byts l)) := by
  have h1 : (cfgP prim).und 9 = some .string := by kernel_rfl
  have h2 : (cfgP prim).und 22 = some (.slice 5) := by kernel_rfl
  have h3 : isU8 (cfgP prim) 5 = true := by kernel_rfl
  simp only [convW, str, h1, h2, h3, if_true, byteAVs_str, str_size]
  rfl
theorem cvX {off len : Nat} : convA (cfgP prim) 22 9 (.ex 0 0 1 off len) = none := by kernel_rfl
theorem exX {off len : Nat} {l : List UInt8} (h : off + len ≤ l.length) : exStr (cfgP prim) 22 9 (.ex 0 0 1 off len) (hb1 1 (byts l)) = some (str ((l.drop off).take len)) := by
  have h1 : (cfgP prim).und 9 = some .string := by kernel_rfl
  have h2 : (cfgP prim).und 22 = some (.slice 5) := by kernel_rfl
  have h3 : isU8 (cfgP prim) 5 = true := by kernel_rfl
  have hb : blkAt (hb1 1 (byts l)) 0 0 = some ⟨0, 1, byts l⟩ := rfl
  have hl : off + len ≤ (byts l).length ∧ True ∧ True := by simp [byts, h]
  simp only [exStr, h1, h2, h3, if_true, hb, Option.bind_some]
  rw [if_pos hl]
  have : ((byts l).drop off).take len = byts ((l.drop off).take len) := by simp [byts]
  rw [this, bytesA_byts]
  rfl
theorem slX {L k : Nat} (h : k ≤ L) (hk : k ≠ L) : sliceA (cfgP prim) 22 (.ex 0 0 1 0 L) (some (.v (.int .i64 k))) none none = some (.ex 0 0 1 k (L - k)) := by
  have h1 : (elemT (cfgP prim) 22).bind (cfgP prim).csz = some 1 := by kernel_rfl
  have h0 : (0 : Int) ≤ (k : Int) := by omega
  simp only [sliceA, h1, optIdx, idx, h0, if_true, Int.toNat_natCast, h, Nat.le_refl, and_self, true_and, Nat.zero_add]
  rw [if_neg (by omega)]
theorem ixX {L i : Nat} {k : IntKind} (h : i < L) : indexAddrA (cfgP prim) 22 (.ex 0 0 1 0 L) (.v (.int k i)) = some (.ptr 0 0 i 0) := indexAddr_ex (n := 0) (e := 5) (by kernel_rfl) (by kernel_rfl) h
end
theorem event_len {c : UInt8} {t : List UInt8} (h : eventB (c :: t) = true) : t.length = 43 := by
  rw [eventB_cons] at h
  cases hg : get64 45 95 t with
  | none => rw [hg] at h; simp at h
  | some z =>
    rw [hg] at h
    simp only [Bool.and_eq_true, decide_eq_true_eq] at h
    have := put_get alph_url hg
    rw [← this, put64_length, h.2]
theorem event_put {b : List UInt8} (h : b.length = 32) : eventB (36 :: put64 45 95 b) = true := by
  rw [eventB_cons, get_put alph_url]
  simp [h]
theorem u64w' (x : Int) : IntKind.u64.wrap x = x % 2 ^ 64 := by
  simp [IntKind.wrap, IntKind.bits, IntKind.signed]
theorem cells_byt1 (c : UInt8) : (AV.v (.int .u8 c.toNat)).cells = [AV.v (.int .u8 c.toNat)] := rfl
theorem byts_set (l : List UInt8) (i : Nat) (c : UInt8) : (byts l).set i (AV.v (.int .u8 c.toNat)) = byts (l.set i c) := by
  simp only [byts, List.map_set]
  rfl
set_option maxRecDepth 100000 in
set_option maxHeartbeats 4000000 in
theorem identEvents_core (b : List UInt8) (at' : Int) (by' : UInt8) (hb : b.length = 32) : PureOk (cfgP id9) 9 [.agg (byts b), .v (.int .i64 at'), .v (.int .u8 by'.toNat)] (.v (.bool true)) := by
  have hba : AV.bare (.agg (byts b)) = some (.agg (byts b)) := by simp only [AV.bare, bares_byts, Option.map_some]
  have hfa : (AV.agg (byts b)).cells.all AV.flat = true := flat_byts b
  have hpu := putW_eq (p := 45) (s := 95) (x := .cl false (byts b)) (l := b) rfl (by omega)
  obtain ⟨q, hq⟩ : ∃ q, q = put64 45 95 b := ⟨_, rfl⟩
  have hql : q.length = 43 := by rw [hq, put64_length, hb]
  rw [← hq] at hpu
  have hsl : (36 :: q : List UInt8).length = 44 := by simp [hql]
  obtain ⟨k, hk⟩ : ∃ k : Nat, k = ((at' % 2 ^ 64).toNat) % 44 := ⟨_, rfl⟩
  have hkl : k < 44 := by omega
  have hw : IntKind.i64.wrap ((IntKind.u64.wrap at').tmod (IntKind.u64.wrap (((36 :: q : List UInt8).length : Nat) : Int))) = (k : Int) := by
    rw [hsl, u64w', u64w']
    have ht : at' % 2 ^ 64 = (((at' % 2 ^ 64).toNat : Nat) : Int) := by omega
    rw [ht, show (((44 : Nat) : Int) % 2 ^ 64) = ((44 : Nat) : Int) from rfl, Int.tmod_eq_emod_of_nonneg (by omega), ← Int.natCast_emod, ← hk]
    exact wi64 (by omega) (by omega)
  have hun : IntKind.u64.wrap (((36 :: q : List UInt8).length : Nat) : Int) ≠ 0 := by rw [hsl]; decide
  have hix := ixX (prim := id9) (L := (36 :: q : List UInt8).length) (i := k) (k := .i64) (by omega)
  have hix0 : indexAddrA (cfgP id9) 22 (.ex 0 0 1 0 (36 :: q : List UInt8).length) (.v (.int .i64 0)) = some (.ptr 0 0 0 0) := ixX (prim := id9) (L := (36 :: q : List UInt8).length) (i := 0) (k := .i64) (by omega)
  have hst := store_hb1 (C := cfgP id9) (t := 5) (i := k) (x := .v (.int .u8 by'.toNat)) (y := byt ((36 :: q : List UInt8)[k]'(by omega))) (xs := byts (36 :: q)) rfl rfl (by kernel_rfl) (by unfold byts; rw [List.getElem?_map, List.getElem?_eq_getElem (by omega)]; rfl) (fun cs h => by cases h)
  rw [byts_set] at hst
  obtain ⟨c, t, hx⟩ : ∃ c t, (36 :: q : List UInt8).set k by' = c :: t := by
    cases hh : (36 :: q : List UInt8).set k by' with
    | nil => have := congrArg List.length hh; simp at this
    | cons c t => exact ⟨c, t, rfl⟩
  have htl : t.length = 43 := by
    have := congrArg List.length hx
    simp [hql] at this
    omega
  rw [hx] at hst
  have hslx : sliceA (cfgP id9) 22 (.ex 0 0 1 0 (36 :: q : List UInt8).length) (some (.v (.int .i64 1))) none none = some (.ex 0 0 1 1 ((36 :: q : List UInt8).length - 1)) := slX (prim := id9) (L := (36 :: q : List UInt8).length) (k := 1) (by omega) (by omega)
  have hex1 := exX (prim := id9) (off := 1) (len := (36 :: q : List UInt8).length - 1) (l := c :: t) (by simp [hql, htl])
  have hex0 := exX (prim := id9) (off := 0) (len := (36 :: q : List UInt8).length) (l := c :: t) (by simp [hql, htl])
  have et1 : ((c :: t : List UInt8).drop 1).take ((36 :: q : List UInt8).length - 1) = t := by
    rw [hsl, List.drop_succ_cons, List.drop_zero, List.take_of_length_le (by omega)]
  have et0 : ((c :: t : List UInt8).drop 0).take ((36 :: q : List UInt8).length) = c :: t := by
    rw [hsl, List.drop_zero, List.take_of_length_le (by simp [htl])]
  rw [et1] at hex1
  rw [et0] at hex0
  have hld : blkAt (hb1 1 (byts (c :: t))) 0 0 = some ⟨0, 1, byts (c :: t)⟩ := rfl
  have hgt := getW_eq (p := 45) (s := 95) (l := t) (by omega)
  have hE0 := boolQ_eq (n := 1099511627776) (q := eventB) (l := 36 :: q) (by omega)
  have hE1 := boolQ_eq (n := 1099511627776) (q := eventB) (l := (36 :: q : List UInt8).take 43) (by simp; omega)
  have hE2 := boolQ_eq (n := 1099511627776) (q := eventB) (l := 36 :: (q ++ [65])) (by simp; omega)
  have hE3 := boolQ_eq (n := 1099511627776) (q := eventB) (l := c :: t) (by simp; omega)
  have v0 : eventB (36 :: q) = true := by rw [hq]; exact event_put hb
  have v1 : eventB ((36 :: q : List UInt8).take 43) = false := by
    rw [← Bool.not_eq_true]
    intro h
    have := event_len (c := 36) (t := q.take 42) (by rw [List.take_succ_cons] at h; exact h)
    rw [List.length_take] at this
    omega
  have v2 : eventB (36 :: (q ++ [65])) = false := by
    rw [← Bool.not_eq_true]
    intro h
    have := event_len (c := 36) (t := q ++ [65]) h
    simp at this
    omega
  rw [v0] at hE0
  rw [v1] at hE1
  rw [v2] at hE2
  have hs43 : sliceA (cfgP id9) 9 (str (36 :: q)) none (some (.v (.int .i64 43))) none = some (str ((36 :: q : List UInt8).take 43)) := sliceT (prim := id9) (l := 36 :: q) (k := .i64) (i := 43) (by omega)
  have hap1 : ([36] : List UInt8) ++ q = 36 :: q := rfl
  have hc0 : (byts (c :: t))[0]? = some (.v (.int .u8 c.toNat)) := rfl
  have hd44 : decide ((((36 :: q : List UInt8).length : Nat) : Int) = 44) = true := decide_eq_true (by rw [hsl]; rfl)
  have hc36 : decide (((c.toNat : Nat) : Int) = 36) = decide (c = 36) := by
    rw [decide_eq_decide]
    constructor
    · intro h
      exact UInt8.toNat_inj.1 (by rw [show (36 : UInt8).toNat = 36 from rfl]; omega)
    · rintro rfl; rfl
  have hE3' : eventB (c :: t) = (decide (c = 36) && match get64 45 95 t with
    | some z => decide (z.length = 32)
    | none => false) := rfl
  rw [hE3'] at hE3
  cases hg : get64 45 95 t with
  | none =>
    rw [hg] at hgt hE3
    refine pure_of_wk (call := noCall) (fn := Tryd.f9) (rs := [.tmp 6]) id9_ok noCall_ok (fns_cfg Tryd.func9 rfl) rfl rfl ?_
    intro env hl0 hargs
    have hn : env.length = 75 := hl0
    have h0 := hargs 0 _ rfl
    have h1 := hargs 1 _ rfl
    have h2 := hargs 2 _ rfl
    clear hargs hl0
    refine wkT_of ?_
    simp -dsimp only [hn, h0, h1, h2, ro_cfg, bxt_ro hba hfa, ct_prim id9_18, awakeP, slArr hb, ct_prim id9_13, hpu, List.toList_toArray, bin_str_add (show ([36] : List UInt8).length + q.length ≤ 9223372036854775807 by simp; omega), hap1, nb9, nb9a, nb9b, nb9c, nb9d, nb9e, c3u, cu3, len_s, bin_rem hun, hw, cv_new, cvN, hix, hst, hslx, cvX, cv_ex, hex1, hex0, ct_prim id9_15, bare_s, hgt, getR_eq, hd44, ct_prim id9_23, hE0, hs43, hE1, bin_str_add (show (36 :: q : List UInt8).length + ([65] : List UInt8).length ≤ 9223372036854775807 by simp; omega), List.cons_append, hE2, hE3, hix0, hld, hc0, cells_byt1, part5, hc36, wt_seq, wt_block, wt_region, wt_cond, wt_skip, wt_ret, wt_exit, wst_nil, wst_app_nil, wst_app_cons, wst_cons, wst_guard, andThen_normal, andThen_ret, andThen_exit, leave_normal, leave_ret, leave_exit, EndsA_ret, EndsA_normal, ot_move, ot_assign, ot_pick, ot_binOp, ot_unOp, ot_convert, ot_field, ot_index, ot_indexAddr, ot_fieldAddr, ot_slice, ot_build, ot_buildSlice, ot_extract, ot_makeInterface, ot_makeFunc, ot_nilCheck, ot_call, ot_len, ot_append, ot_box, ot_load, ot_store, ot_makeSlice, ct_bool, ct_true, ct_false, bt_some, gt_some, aval_tmp, aval_int, aval_bool, aval_str, aval_slice, aval_nilPointer, aval_nilIface, aval_func, aval_global, avals, apairs, bareP, AV.bare, AV.bares, bin_lss, bin_leq, bin_gtr, bin_geq, bin_eql, bin_neq, bin_add, bin_sub, bin_mul, bin_and, bin_or, bin_xor, toV_int, toV_bool, toV_string, un_neg, un_not, bin_str_eql, bin_str_neq, bin_str_lss, bin_str_leq, bin_str_gtr, bin_str_geq, aget_aput, length_aput, aput_none, Nat.reduceEqDiff, Nat.reduceLT, Nat.reduceAdd, reduceIte, reduceCtorEq, Bool.not_false, Bool.not_true, Bool.true_or, true_and, Option.bind_some, Option.map_some, List.nil_append, List.cons_append, resA, resA1, resVal, Option.getD_some, Nat.reduceLeDiff, bnd_some, yieldA_eq, yldOf_some, boolOf_bool, boolOf_undef, gt_none, List.getElem?_toArray, List.getElem?_cons_succ, List.getElem?_cons_zero, bq_true, bq_false, decide_true, decide_false, Option.toList_none, Option.toList_some, List.head?_cons, List.head?_nil, nb_cfg, not_false_eq_true, cv_some, pm_some, pm_none, plainA_v, plain_bool, plain_int, plain_str, Bool.false_eq_true, if_false]
    repeat (apply gm_step; (case h1 => intro hg; (try simp only [Bool.and_eq_true, Bool.not_eq_true', Bool.or_eq_false_iff, Bool.not_or, Bool.not_not] at hg); simp -dsimp only [hn, h0, h1, h2, getE, show decide ((2 : Int) = 0) = false from rfl, bin_bool_eql, hg, Bool.and_true, Bool.true_and, Bool.or_false, Bool.not_false, Bool.not_true, pk_or, pk_and, pk_and', pk_or', wt_seq, wt_block, wt_region, wt_cond, wt_skip, wt_ret, wt_exit, wst_nil, wst_app_nil, wst_app_cons, wst_cons, wst_guard, andThen_normal, andThen_ret, andThen_exit, leave_normal, leave_ret, leave_exit, EndsA_ret, EndsA_normal, ot_move, ot_assign, ot_pick, ot_binOp, ot_unOp, ot_convert, ot_field, ot_index, ot_indexAddr, ot_fieldAddr, ot_slice, ot_build, ot_buildSlice, ot_extract, ot_makeInterface, ot_makeFunc, ot_nilCheck, ot_call, ot_len, ot_append, ot_box, ot_load, ot_store, ot_makeSlice, ct_bool, ct_true, ct_false, bt_some, gt_some, aval_tmp, aval_int, aval_bool, aval_str, aval_slice, aval_nilPointer, aval_nilIface, aval_func, aval_global, avals, apairs, bareP, AV.bare, AV.bares, bin_lss, bin_leq, bin_gtr, bin_geq, bin_eql, bin_neq, bin_add, bin_sub, bin_mul, bin_and, bin_or, bin_xor, toV_int, toV_bool, toV_string, un_neg, un_not, bin_str_eql, bin_str_neq, bin_str_lss, bin_str_leq, bin_str_gtr, bin_str_geq, aget_aput, length_aput, aput_none, Nat.reduceEqDiff, Nat.reduceLT, Nat.reduceAdd, reduceIte, reduceCtorEq, Bool.not_false, Bool.not_true, Bool.true_or, true_and, Option.bind_some, Option.map_some, List.nil_append, List.cons_append, resA, resA1, resVal, Option.getD_some, Nat.reduceLeDiff, bnd_some, yieldA_eq, yldOf_some, boolOf_bool, boolOf_undef, gt_none, List.getElem?_toArray, List.getElem?_cons_succ, List.getElem?_cons_zero, bq_true, bq_false, decide_true, decide_false, Option.toList_none, Option.toList_some, List.head?_cons, List.head?_nil, nb_cfg, not_false_eq_true, cv_some, pm_some, pm_none, plainA_v, plain_bool, plain_int, plain_str, Bool.false_eq_true, if_false]; exact ⟨rfl, rfl, rfl⟩); (try simp -dsimp only [hn, h0, h1, h2, getE, show decide ((2 : Int) = 0) = false from rfl, bin_bool_eql, pk_and, pk_or, pk_and', pk_or', gt_ite, ite_self, wt_seq, wt_block, wt_region, wt_cond, wt_skip, wt_ret, wt_exit, wst_nil, wst_app_nil, wst_app_cons, wst_cons, wst_guard, andThen_normal, andThen_ret, andThen_exit, leave_normal, leave_ret, leave_exit, EndsA_ret, EndsA_normal, ot_move, ot_assign, ot_pick, ot_binOp, ot_unOp, ot_convert, ot_field, ot_index, ot_indexAddr, ot_fieldAddr, ot_slice, ot_build, ot_buildSlice, ot_extract, ot_makeInterface, ot_makeFunc, ot_nilCheck, ot_call, ot_len, ot_append, ot_box, ot_load, ot_store, ot_makeSlice, ct_bool, ct_true, ct_false, bt_some, gt_some, aval_tmp, aval_int, aval_bool, aval_str, aval_slice, aval_nilPointer, aval_nilIface, aval_func, aval_global, avals, apairs, bareP, AV.bare, AV.bares, bin_lss, bin_leq, bin_gtr, bin_geq, bin_eql, bin_neq, bin_add, bin_sub, bin_mul, bin_and, bin_or, bin_xor, toV_int, toV_bool, toV_string, un_neg, un_not, bin_str_eql, bin_str_neq, bin_str_lss, bin_str_leq, bin_str_gtr, bin_str_geq, aget_aput, length_aput, aput_none, Nat.reduceEqDiff, Nat.reduceLT, Nat.reduceAdd, reduceIte, reduceCtorEq, Bool.not_false, Bool.not_true, Bool.true_or, true_and, Option.bind_some, Option.map_some, List.nil_append, List.cons_append, resA, resA1, resVal, Option.getD_some, Nat.reduceLeDiff, bnd_some, yieldA_eq, yldOf_some, boolOf_bool, boolOf_undef, gt_none, List.getElem?_toArray, List.getElem?_cons_succ, List.getElem?_cons_zero, bq_true, bq_false, decide_true, decide_false, Option.toList_none, Option.toList_some, List.head?_cons, List.head?_nil, nb_cfg, not_false_eq_true, cv_some, pm_some, pm_none, plainA_v, plain_bool, plain_int, plain_str, Bool.false_eq_true, if_false]))
    refine ⟨by kernel_rfl, 1, ?_⟩
    cases decide (c = 36) <;> rfl
  | some z =>
    rw [hg] at hgt hE3
    have hlz := len22 (prim := id9) (x := getA (some z)) (xs := byts z) (by cases z <;> rfl)
    have hi32 : decide ((((byts z).length : Nat) : Int) = 32) = decide (z.length = 32) := by
      rw [show (byts z).length = z.length by simp [byts]]
      exact i32 _
    refine pure_of_wk (call := noCall) (fn := Tryd.f9) (rs := [.tmp 6]) id9_ok noCall_ok (fns_cfg Tryd.func9 rfl) rfl rfl ?_
    intro env hl0 hargs
    have hn : env.length = 75 := hl0
    have h0 := hargs 0 _ rfl
    have h1 := hargs 1 _ rfl
    have h2 := hargs 2 _ rfl
    clear hargs hl0
    refine wkT_of ?_
    simp -dsimp only [hn, h0, h1, h2, ro_cfg, bxt_ro hba hfa, ct_prim id9_18, awakeP, slArr hb, ct_prim id9_13, hpu, List.toList_toArray, bin_str_add (show ([36] : List UInt8).length + q.length ≤ 9223372036854775807 by simp; omega), hap1, nb9, nb9a, nb9b, nb9c, nb9d, nb9e, c3u, cu3, len_s, bin_rem hun, hw, cv_new, cvN, hix, hst, hslx, cvX, cv_ex, hex1, hex0, ct_prim id9_15, bare_s, hgt, getR_eq, hd44, ct_prim id9_23, hE0, hs43, hE1, bin_str_add (show (36 :: q : List UInt8).length + ([65] : List UInt8).length ≤ 9223372036854775807 by simp; omega), List.cons_append, hE2, hE3, hix0, hld, hc0, cells_byt1, part5, hc36, wt_seq, wt_block, wt_region, wt_cond, wt_skip, wt_ret, wt_exit, wst_nil, wst_app_nil, wst_app_cons, wst_cons, wst_guard, andThen_normal, andThen_ret, andThen_exit, leave_normal, leave_ret, leave_exit, EndsA_ret, EndsA_normal, ot_move, ot_assign, ot_pick, ot_binOp, ot_unOp, ot_convert, ot_field, ot_index, ot_indexAddr, ot_fieldAddr, ot_slice, ot_build, ot_buildSlice, ot_extract, ot_makeInterface, ot_makeFunc, ot_nilCheck, ot_call, ot_len, ot_append, ot_box, ot_load, ot_store, ot_makeSlice, ct_bool, ct_true, ct_false, bt_some, gt_some, aval_tmp, aval_int, aval_bool, aval_str, aval_slice, aval_nilPointer, aval_nilIface, aval_func, aval_global, avals, apairs, bareP, AV.bare, AV.bares, bin_lss, bin_leq, bin_gtr, bin_geq, bin_eql, bin_neq, bin_add, bin_sub, bin_mul, bin_and, bin_or, bin_xor, toV_int, toV_bool, toV_string, un_neg, un_not, bin_str_eql, bin_str_neq, bin_str_lss, bin_str_leq, bin_str_gtr, bin_str_geq, aget_aput, length_aput, aput_none, Nat.reduceEqDiff, Nat.reduceLT, Nat.reduceAdd, reduceIte, reduceCtorEq, Bool.not_false, Bool.not_true, Bool.true_or, true_and, Option.bind_some, Option.map_some, List.nil_append, List.cons_append, resA, resA1, resVal, Option.getD_some, Nat.reduceLeDiff, bnd_some, yieldA_eq, yldOf_some, boolOf_bool, boolOf_undef, gt_none, List.getElem?_toArray, List.getElem?_cons_succ, List.getElem?_cons_zero, bq_true, bq_false, decide_true, decide_false, Option.toList_none, Option.toList_some, List.head?_cons, List.head?_nil, nb_cfg, not_false_eq_true, cv_some, pm_some, pm_none, plainA_v, plain_bool, plain_int, plain_str, Bool.false_eq_true, if_false]
    repeat (apply gm_step; (case h1 => intro hg; (try simp only [Bool.and_eq_true, Bool.not_eq_true', Bool.or_eq_false_iff, Bool.not_or, Bool.not_not] at hg); simp -dsimp only [hn, h0, h1, h2, getE, eq_self, bin_bool_eql, hlz, hi32, hg, Bool.and_true, Bool.true_and, Bool.or_false, Bool.not_false, Bool.not_true, pk_or, pk_and, pk_and', pk_or', wt_seq, wt_block, wt_region, wt_cond, wt_skip, wt_ret, wt_exit, wst_nil, wst_app_nil, wst_app_cons, wst_cons, wst_guard, andThen_normal, andThen_ret, andThen_exit, leave_normal, leave_ret, leave_exit, EndsA_ret, EndsA_normal, ot_move, ot_assign, ot_pick, ot_binOp, ot_unOp, ot_convert, ot_field, ot_index, ot_indexAddr, ot_fieldAddr, ot_slice, ot_build, ot_buildSlice, ot_extract, ot_makeInterface, ot_makeFunc, ot_nilCheck, ot_call, ot_len, ot_append, ot_box, ot_load, ot_store, ot_makeSlice, ct_bool, ct_true, ct_false, bt_some, gt_some, aval_tmp, aval_int, aval_bool, aval_str, aval_slice, aval_nilPointer, aval_nilIface, aval_func, aval_global, avals, apairs, bareP, AV.bare, AV.bares, bin_lss, bin_leq, bin_gtr, bin_geq, bin_eql, bin_neq, bin_add, bin_sub, bin_mul, bin_and, bin_or, bin_xor, toV_int, toV_bool, toV_string, un_neg, un_not, bin_str_eql, bin_str_neq, bin_str_lss, bin_str_leq, bin_str_gtr, bin_str_geq, aget_aput, length_aput, aput_none, Nat.reduceEqDiff, Nat.reduceLT, Nat.reduceAdd, reduceIte, reduceCtorEq, Bool.not_false, Bool.not_true, Bool.true_or, true_and, Option.bind_some, Option.map_some, List.nil_append, List.cons_append, resA, resA1, resVal, Option.getD_some, Nat.reduceLeDiff, bnd_some, yieldA_eq, yldOf_some, boolOf_bool, boolOf_undef, gt_none, List.getElem?_toArray, List.getElem?_cons_succ, List.getElem?_cons_zero, bq_true, bq_false, decide_true, decide_false, Option.toList_none, Option.toList_some, List.head?_cons, List.head?_nil, nb_cfg, not_false_eq_true, cv_some, pm_some, pm_none, plainA_v, plain_bool, plain_int, plain_str, Bool.false_eq_true, if_false]; exact ⟨rfl, rfl, rfl⟩); (try simp -dsimp only [hn, h0, h1, h2, getE, eq_self, bin_bool_eql, hlz, hi32, pk_and, pk_or, pk_and', pk_or', gt_ite, ite_self, wt_seq, wt_block, wt_region, wt_cond, wt_skip, wt_ret, wt_exit, wst_nil, wst_app_nil, wst_app_cons, wst_cons, wst_guard, andThen_normal, andThen_ret, andThen_exit, leave_normal, leave_ret, leave_exit, EndsA_ret, EndsA_normal, ot_move, ot_assign, ot_pick, ot_binOp, ot_unOp, ot_convert, ot_field, ot_index, ot_indexAddr, ot_fieldAddr, ot_slice, ot_build, ot_buildSlice, ot_extract, ot_makeInterface, ot_makeFunc, ot_nilCheck, ot_call, ot_len, ot_append, ot_box, ot_load, ot_store, ot_makeSlice, ct_bool, ct_true, ct_false, bt_some, gt_some, aval_tmp, aval_int, aval_bool, aval_str, aval_slice, aval_nilPointer, aval_nilIface, aval_func, aval_global, avals, apairs, bareP, AV.bare, AV.bares, bin_lss, bin_leq, bin_gtr, bin_geq, bin_eql, bin_neq, bin_add, bin_sub, bin_mul, bin_and, bin_or, bin_xor, toV_int, toV_bool, toV_string, un_neg, un_not, bin_str_eql, bin_str_neq, bin_str_lss, bin_str_leq, bin_str_gtr, bin_str_geq, aget_aput, length_aput, aput_none, Nat.reduceEqDiff, Nat.reduceLT, Nat.reduceAdd, reduceIte, reduceCtorEq, Bool.not_false, Bool.not_true, Bool.true_or, true_and, Option.bind_some, Option.map_some, List.nil_append, List.cons_append, resA, resA1, resVal, Option.getD_some, Nat.reduceLeDiff, bnd_some, yieldA_eq, yldOf_some, boolOf_bool, boolOf_undef, gt_none, List.getElem?_toArray, List.getElem?_cons_succ, List.getElem?_cons_zero, bq_true, bq_false, decide_true, decide_false, Option.toList_none, Option.toList_some, List.head?_cons, List.head?_nil, nb_cfg, not_false_eq_true, cv_some, pm_some, pm_none, plainA_v, plain_bool, plain_int, plain_str, Bool.false_eq_true, if_false]))
    refine ⟨by kernel_rfl, 1, ?_⟩
    cases decide (c = 36) <;> cases decide (z.length = 32) <;> rfl
end Go.Proofs.YtonmpbfddiflhaaDoor
