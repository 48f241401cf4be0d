/- Contracts of functions, and plain facts about what they compute. -/
import Derived.Test.YtonmpbfddiflhaaKr
import Derived.Test.YtonmpbfddiflhaaAmD
set_option linter.unusedSimpArgs false
set_option linter.unusedVariables false
/- KeysFind: the walk. -/
namespace Go.Proofs.Ytonmpbfddiflhaa
open Go.AM
section
variable {prim : FuncId → Option (List AV → Option AV)}
theorem conv3u {n : Int} : convA (cfgP prim) 3 25 (.v (.int .i64 n)) = some (.v (.int .u64 (IntKind.u64.wrap n))) := conv_int (j := .i64) (by kernel_rfl) (by kernel_rfl) (by kernel_rfl) (by kernel_rfl)
theorem convu3 {n : Int} : convA (cfgP prim) 25 3 (.v (.int .u64 n)) = some (.v (.int .i64 (IntKind.i64.wrap n))) := conv_int (j := .u64) (by kernel_rfl) (by kernel_rfl) (by kernel_rfl) (by kernel_rfl)
theorem convB {x : AV} {l : List UInt8} (h : elems x = some (byts l)) : convA (cfgP prim) 26 9 x = some (str l) := conv_str (e := 5) (by kernel_rfl) (by kernel_rfl) (by kernel_rfl) h
theorem faP0 {b g i j : Nat} : fieldAddrA (cfgP prim) 28 (.ptr b g i j) 0 = some (.ptr b g i (j + 0)) := by kernel_rfl
theorem faP1 {b g i j : Nat} : fieldAddrA (cfgP prim) 28 (.ptr b g i j) 1 = some (.ptr b g i (j + 1)) := by kernel_rfl
theorem faP2 {b g i j : Nat} : fieldAddrA (cfgP prim) 28 (.ptr b g i j) 2 = some (.ptr b g i (j + 2)) := by kernel_rfl
theorem faP3 {b g i j : Nat} : fieldAddrA (cfgP prim) 28 (.ptr b g i j) 3 = some (.ptr b g i (j + 3)) := by kernel_rfl
theorem faP4 {b g i j : Nat} : fieldAddrA (cfgP prim) 28 (.ptr b g i j) 4 = some (.ptr b g i (j + 4)) := by kernel_rfl
theorem allocG {tk : List (Nat × TypeId)} : allocA (cfgP prim) 28 false { toks := tk } = some (.ptr 0 0 0 0, { toks := tk, blks := [⟨0, 5, [zeroK]⟩] }, 2) := by
  have hz : zeroA (cfgP prim) 28 = some zeroK := by kernel_rfl
  have hf : zeroK.cells.all AV.flat = true := rfl
  simp only [allocA, hz, Option.bind_some, hf, if_true, Bool.false_eq_true, if_false]
  rfl
theorem storeG {tk : List (Nat × TypeId)} {k : KeyA} (hf : ([str k.sv, str k.id, k.p, .v (.int .i64 k.f), .v (.int .i64 k.u)] : List AV).all AV.flat = true) : storeA (cfgP prim) 28 0 0 0 0 k.av { toks := tk, blks := [⟨0, 5, [zeroK]⟩] } = some { toks := tk, blks := [⟨0, 5, [k.av]⟩] } := by
  have h1 : ({ toks := tk, blks := [⟨0, 5, [zeroK]⟩] } : Hp).blks[0]? = some ⟨0, 5, [.agg [str [], str [], .v (.slice none 0 0), .v (.int .i64 0), .v (.int .i64 0)]]⟩ := rfl
  unfold KeyA.av
  rw [store_all (x := [str k.sv, str k.id, k.p, .v (.int .i64 k.f), .v (.int .i64 k.u)]) h1 (by kernel_rfl) rfl hf]
  rfl
theorem bool_eql {x y : Operand} {a b : Bool} : binA (cfgP prim) .eql 4 x y (.v (.bool a)) (.v (.bool b)) = some (.v (.bool (a == b))) := by
  cases a <;> cases b <;> kernel_rfl
end
/-- What stands in l. -/
def tkn (L : List KL) (k i : Nat) : List AV := ((turned L k).take i).map fun p => p.1.av
structure kfI (r : AV) (L : List KL) (ts : Int) (k i : Nat) (e : Env) (h : Hp) : Prop where
  len : e.length = 126
  hp : h = ghp 28 (tkn L k i)
  a0 : aget e 0 = r
  a1 : aget e 1 = .v (.int .i64 ts)
  a7 : aget e 7 = .v (.int .i64 k)
  a8 : aget e 8 = gsl (tkn L k i)
  a9 : aget e 9 = .v (.int .i64 i)
def findA : Option (List UInt8) → AV
  | some l => .ro (byts l)
  | none => .v (.slice none 0 0)
def findL : Option (List UInt8) → List UInt8
  | some l => l
  | none => []
theorem findV_eq (o : Option (List UInt8)) : findV o = .tup [findA o, .v (.bool o.isSome)] := by cases o <;> rfl
theorem findA_el (o : Option (List UInt8)) : elems (findA o) = some (byts (findL o)) := by cases o <;> rfl
set_option maxRecDepth 100000 in
set_option maxHeartbeats 2000000 in
theorem keysFind_core (r : AV) (L : List KL) (ts turn : Int) (hr : Ring r L) (hb : AV.bare r = some r) (hs : ∀ p ∈ L, p.1.sv.length < 2 ^ 63 ∧ p.1.id.length < 2 ^ 63) : PureOk (cfgP ky5) 3 [r, .v (.int .i64 ts), .v (.int .i64 turn)] (.v (.bool true)) := by
  have hlen : (L.map fun p => p.1.av).length = L.length := by simp
  by_cases h1 : L.length < 1
  · have hd : decide (((L.length : Nat) : Int) < 1) = true := decide_eq_true (by omega)
    refine pure_of_wk (call := noCall) (fn := Try.f3) (rs := [.tmp 6]) ky5_ok noCall_ok (fns_cfg Try.func3 rfl) rfl rfl ?_
    intro env hl0 hargs
    have hn : env.length = 126 := hl0
    have h0 := hargs 0 _ rfl
    have h1 := hargs 1 _ rfl
    have h2 := hargs 2 _ rfl
    clear hargs hl0
    refine wkT_of ?_
    simp -dsimp only [hn, h0, h1, h2, ct_prim ky5_7, awkP, lenK hr.el, hlen, hd, wt_seq, wt_block, wt_region, wt_cond, wt_skip, wt_ret, wt_exit, wst_nil, wst_app_nil, wst_app_cons, wst_cons, wst_guard, andThen_normal, andThen_ret, andThen_exit, leave_normal, leave_ret, leave_exit, EndsA_ret, EndsA_normal, ot_move, ot_assign, ot_pick, ot_binOp, ot_unOp, ot_convert, ot_field, ot_index, ot_indexAddr, ot_fieldAddr, ot_slice, ot_build, ot_buildSlice, ot_extract, ot_makeInterface, ot_makeFunc, ot_nilCheck, ot_call, ot_len, ot_append, ot_box, ot_load, ot_store, ot_makeSlice, ct_bool, ct_true, ct_false, bt_some, gt_some, aval_tmp, aval_int, aval_bool, aval_str, aval_slice, aval_nilPointer, aval_nilIface, aval_func, aval_global, avals, apairs, bareP, AV.bare, AV.bares, bin_lss, bin_leq, bin_gtr, bin_geq, bin_eql, bin_neq, bin_add, bin_sub, bin_mul, bin_and, bin_or, bin_xor, toV_int, toV_bool, toV_string, un_neg, un_not, bin_str_eql, bin_str_neq, bin_str_lss, bin_str_leq, bin_str_gtr, bin_str_geq, aget_aput, length_aput, aput_none, Nat.reduceEqDiff, Nat.reduceLT, Nat.reduceAdd, reduceIte, reduceCtorEq, Bool.not_false, Bool.not_true, Bool.true_or, true_and, Option.bind_some, Option.map_some, List.nil_append, List.cons_append, resA, resA1, resVal, Option.getD_some, Nat.reduceLeDiff, bnd_some, yieldA_eq, yldOf_some, boolOf_bool, boolOf_undef, gt_none, List.getElem?_toArray, List.getElem?_cons_succ, List.getElem?_cons_zero, bq_true, bq_false, decide_true, decide_false, Option.toList_none, Option.toList_some, List.head?_cons, List.head?_nil, nb_cfg, cv_some, pm_some, pm_none, plainA_v, plain_bool, plain_int, plain_str, Bool.false_eq_true, if_false]
    exact ⟨1, rfl⟩
  have hd1 : decide (((L.length : Nat) : Int) < 1) = false := decide_eq_false (by omega)
  by_cases h20 : 20 < L.length
  · have hd : decide ((20 : Int) < ((L.length : Nat) : Int)) = true := decide_eq_true (by omega)
    refine pure_of_wk (call := noCall) (fn := Try.f3) (rs := [.tmp 6]) ky5_ok noCall_ok (fns_cfg Try.func3 rfl) rfl rfl ?_
    intro env hl0 hargs
    have hn : env.length = 126 := hl0
    have h0 := hargs 0 _ rfl
    have h1 := hargs 1 _ rfl
    have h2 := hargs 2 _ rfl
    clear hargs hl0
    refine wkT_of ?_
    simp -dsimp only [hn, h0, h1, h2, ct_prim ky5_7, awkP, lenK hr.el, hlen, hd1, hd, wt_seq, wt_block, wt_region, wt_cond, wt_skip, wt_ret, wt_exit, wst_nil, wst_app_nil, wst_app_cons, wst_cons, wst_guard, andThen_normal, andThen_ret, andThen_exit, leave_normal, leave_ret, leave_exit, EndsA_ret, EndsA_normal, ot_move, ot_assign, ot_pick, ot_binOp, ot_unOp, ot_convert, ot_field, ot_index, ot_indexAddr, ot_fieldAddr, ot_slice, ot_build, ot_buildSlice, ot_extract, ot_makeInterface, ot_makeFunc, ot_nilCheck, ot_call, ot_len, ot_append, ot_box, ot_load, ot_store, ot_makeSlice, ct_bool, ct_true, ct_false, bt_some, gt_some, aval_tmp, aval_int, aval_bool, aval_str, aval_slice, aval_nilPointer, aval_nilIface, aval_func, aval_global, avals, apairs, bareP, AV.bare, AV.bares, bin_lss, bin_leq, bin_gtr, bin_geq, bin_eql, bin_neq, bin_add, bin_sub, bin_mul, bin_and, bin_or, bin_xor, toV_int, toV_bool, toV_string, un_neg, un_not, bin_str_eql, bin_str_neq, bin_str_lss, bin_str_leq, bin_str_gtr, bin_str_geq, aget_aput, length_aput, aput_none, Nat.reduceEqDiff, Nat.reduceLT, Nat.reduceAdd, reduceIte, reduceCtorEq, Bool.not_false, Bool.not_true, Bool.true_or, true_and, Option.bind_some, Option.map_some, List.nil_append, List.cons_append, resA, resA1, resVal, Option.getD_some, Nat.reduceLeDiff, bnd_some, yieldA_eq, yldOf_some, boolOf_bool, boolOf_undef, gt_none, List.getElem?_toArray, List.getElem?_cons_succ, List.getElem?_cons_zero, bq_true, bq_false, decide_true, decide_false, Option.toList_none, Option.toList_some, List.head?_cons, List.head?_nil, nb_cfg, cv_some, pm_some, pm_none, plainA_v, plain_bool, plain_int, plain_str, Bool.false_eq_true, if_false]
    exact ⟨1, rfl⟩
  have hd20 : decide ((20 : Int) < ((L.length : Nat) : Int)) = false := decide_eq_false (by omega)
  have hsm : smallR r L := ⟨hb, by omega, hs⟩
  cases hm : mayB L with
  | false =>
    refine pure_of_wk (call := noCall) (fn := Try.f3) (rs := [.tmp 6]) ky5_ok noCall_ok (fns_cfg Try.func3 rfl) rfl rfl ?_
    intro env hl0 hargs
    have hn : env.length = 126 := hl0
    have h0 := hargs 0 _ rfl
    have h1 := hargs 1 _ rfl
    have h2 := hargs 2 _ rfl
    clear hargs hl0
    refine wkT_of ?_
    simp -dsimp only [hn, h0, h1, h2, ct_prim ky5_7, awkP, lenK hr.el, hlen, hd1, hd20, ct_prim ky5_8, hb, mayP_eq hr hsm, hm, wt_seq, wt_block, wt_region, wt_cond, wt_skip, wt_ret, wt_exit, wst_nil, wst_app_nil, wst_app_cons, wst_cons, wst_guard, andThen_normal, andThen_ret, andThen_exit, leave_normal, leave_ret, leave_exit, EndsA_ret, EndsA_normal, ot_move, ot_assign, ot_pick, ot_binOp, ot_unOp, ot_convert, ot_field, ot_index, ot_indexAddr, ot_fieldAddr, ot_slice, ot_build, ot_buildSlice, ot_extract, ot_makeInterface, ot_makeFunc, ot_nilCheck, ot_call, ot_len, ot_append, ot_box, ot_load, ot_store, ot_makeSlice, ct_bool, ct_true, ct_false, bt_some, gt_some, aval_tmp, aval_int, aval_bool, aval_str, aval_slice, aval_nilPointer, aval_nilIface, aval_func, aval_global, avals, apairs, bareP, AV.bare, AV.bares, bin_lss, bin_leq, bin_gtr, bin_geq, bin_eql, bin_neq, bin_add, bin_sub, bin_mul, bin_and, bin_or, bin_xor, toV_int, toV_bool, toV_string, un_neg, un_not, bin_str_eql, bin_str_neq, bin_str_lss, bin_str_leq, bin_str_gtr, bin_str_geq, aget_aput, length_aput, aput_none, Nat.reduceEqDiff, Nat.reduceLT, Nat.reduceAdd, reduceIte, reduceCtorEq, Bool.not_false, Bool.not_true, Bool.true_or, true_and, Option.bind_some, Option.map_some, List.nil_append, List.cons_append, resA, resA1, resVal, Option.getD_some, Nat.reduceLeDiff, bnd_some, yieldA_eq, yldOf_some, boolOf_bool, boolOf_undef, gt_none, List.getElem?_toArray, List.getElem?_cons_succ, List.getElem?_cons_zero, bq_true, bq_false, decide_true, decide_false, Option.toList_none, Option.toList_some, List.head?_cons, List.head?_nil, nb_cfg, cv_some, pm_some, pm_none, plainA_v, plain_bool, plain_int, plain_str, Bool.false_eq_true, if_false]
    exact ⟨1, rfl⟩
  | true =>
    obtain ⟨kk, hkk⟩ : ∃ kk : Nat, kk = ((turn % 2 ^ 64).toNat) % L.length := ⟨_, rfl⟩
    have hkl : kk < L.length := by rw [hkk]; exact Nat.mod_lt _ (by omega)
    have hw : IntKind.i64.wrap ((IntKind.u64.wrap turn).tmod (IntKind.u64.wrap ((L.length : Nat) : Int))) = (kk : Int) := by
      rw [u64w, u64w, show (((L.length : Nat) : Int) % 2 ^ 64) = ((L.length : Nat) : Int) by omega]
      have ht : turn % 2 ^ 64 = (((turn % 2 ^ 64).toNat : Nat) : Int) := by omega
      rw [ht, Int.tmod_eq_emod_of_nonneg (by omega), ← Int.natCast_emod, ← hkk]
      exact wr64 (by omega) (by omega)
    have hun : IntKind.u64.wrap ((L.length : Nat) : Int) ≠ 0 := by rw [u64w]; omega
    have hpm := mayB_iff L |>.1 hm
    have hperm := turned_perm L kk
    have hLt : (turned L kk).length = L.length := hperm.length_eq.symm
    have hok' : ∀ p ∈ turned L kk, pubOf p.1.p = some p.2 := fun p hp => hr.ok p (hperm.mem_iff.2 hp)
    have hfull : tkn L kk L.length = (turned L kk).map fun p => p.1.av := by
      unfold tkn
      rw [List.take_of_length_le (by omega)]
    obtain ⟨q0, qs, hq0⟩ : ∃ q0 qs, (turned L kk).map (fun p => p.1.av) = q0 :: qs := by
      cases hh : (turned L kk).map (fun p => p.1.av) with
      | nil =>
        have h := hLt
        rw [List.map_eq_nil_iff.1 hh] at h
        have h' : 0 = L.length := h
        omega
      | cons q0 qs => exact ⟨q0, qs, rfl⟩
    have hring : Ring (.ro (q0 :: qs)) (turned L kk) := ⟨by rw [hq0]; rfl, hok'⟩
    have hsm' : smallR (.ro (q0 :: qs)) (turned L kk) := ⟨rfl, by omega, fun p hp => hs p (hperm.mem_iff.2 hp)⟩
    have hbg : AV.bare (gsl (q0 :: qs)) = some (.ro (q0 :: qs)) := rfl
    have hghp : ghp 28 (q0 :: qs) = { toks := [((q0 :: qs).length, 28)] } := rfl
    have hmay' := mayB_perm hperm hm
    -- the key that is looked for
    obtain ⟨x, hx⟩ : ∃ x, x = L[kk] := ⟨_, rfl⟩
    have hxm : x ∈ L := by rw [hx]; exact List.getElem_mem hkl
    have hxo := hr.ok x hxm
    have hxf := KeyA.flat (pubOf_ok hxo)
    have hxe := (pubOf_ok hxo).1
    have hfo := fun s i => findO_perm hperm hpm.2 (s := s) (i := i) (ts := ts)
    obtain ⟨o, ho⟩ : ∃ o, o = findO L x.1.sv x.1.id ts := ⟨_, rfl⟩
    have hin : x.1.has ts = true → o = some x.2 := by
      intro h
      rw [ho]
      refine findO_of hpm.2 hxm ?_
      unfold foundB
      rw [hpm.1 x hxm, h]
      simp
    have hro : (cfgP ky5).roBox 3 10 = false := rfl
    have hgx : (L.map fun p => p.1.av)[kk]? = some x.1.av := by rw [hx]; exact ring_get hkl
    have hblk : ∀ tk, blkAt ({ toks := tk, blks := [⟨0, 5, [x.1.av]⟩] } : Hp) 0 0 = some ⟨0, 5, [x.1.av]⟩ := fun _ => rfl
    have hkc : x.1.av.cells = [str x.1.sv, str x.1.id, x.1.p, .v (.int .i64 x.1.f), .v (.int .i64 x.1.u)] := rfl
    have hpt : partA (cfgP ky5) 28 [str x.1.sv, str x.1.id, x.1.p, .v (.int .i64 x.1.f), .v (.int .i64 x.1.u)] 0 = some x.1.av := ptK
    have hel := convB (prim := ky5) (findA_el o)
    have hpl := convB (prim := ky5) hxe
    refine pure_of_wk (call := noCall) (fn := Try.f3) (rs := [.tmp 6]) ky5_ok noCall_ok (fns_cfg Try.func3 rfl) rfl rfl ?_
    intro env hl0 hargs
    have hn : env.length = 126 := hl0
    have h0 := hargs 0 _ rfl
    have h1 := hargs 1 _ rfl
    have h2 := hargs 2 _ rfl
    clear hargs hl0
    refine wkT_of ?_
    simp -dsimp only [hn, h0, h1, h2, ct_prim ky5_7, awkP, lenK hr.el, hlen, hd1, hd20, ct_prim ky5_8, hb, mayP_eq hr hsm, hm, conv3u, convu3, bin_rem hun, hw, wt_seq, wt_block, wt_region, wt_cond, wt_skip, wt_ret, wt_exit, wst_nil, wst_app_nil, wst_app_cons, wst_cons, wst_guard, andThen_normal, andThen_ret, andThen_exit, leave_normal, leave_ret, leave_exit, EndsA_ret, EndsA_normal, ot_move, ot_assign, ot_pick, ot_binOp, ot_unOp, ot_convert, ot_field, ot_index, ot_indexAddr, ot_fieldAddr, ot_slice, ot_build, ot_buildSlice, ot_extract, ot_makeInterface, ot_makeFunc, ot_nilCheck, ot_call, ot_len, ot_append, ot_box, ot_load, ot_store, ot_makeSlice, ct_bool, ct_true, ct_false, bt_some, gt_some, aval_tmp, aval_int, aval_bool, aval_str, aval_slice, aval_nilPointer, aval_nilIface, aval_func, aval_global, avals, apairs, bareP, AV.bare, AV.bares, bin_lss, bin_leq, bin_gtr, bin_geq, bin_eql, bin_neq, bin_add, bin_sub, bin_mul, bin_and, bin_or, bin_xor, toV_int, toV_bool, toV_string, un_neg, un_not, bin_str_eql, bin_str_neq, bin_str_lss, bin_str_leq, bin_str_gtr, bin_str_geq, aget_aput, length_aput, aput_none, Nat.reduceEqDiff, Nat.reduceLT, Nat.reduceAdd, reduceIte, reduceCtorEq, Bool.not_false, Bool.not_true, Bool.true_or, true_and, Option.bind_some, Option.map_some, List.nil_append, List.cons_append, resA, resA1, resVal, Option.getD_some, Nat.reduceLeDiff, bnd_some, yieldA_eq, yldOf_some, boolOf_bool, boolOf_undef, gt_none, List.getElem?_toArray, List.getElem?_cons_succ, List.getElem?_cons_zero, bq_true, bq_false, decide_true, decide_false, Option.toList_none, Option.toList_some, List.head?_cons, List.head?_nil, nb_cfg, cv_some, pm_some, pm_none, plainA_v, plain_bool, plain_int, plain_str, Bool.false_eq_true, if_false]
    refine wt_loop (m := L.length) (fun m e h => ∃ i, i + m = L.length ∧ kfI r L ts kk i e h) ?_ ?_
    · rintro m e h ⟨i, hi, hn, rfl, h0, h1, h7, h8, h9⟩
      by_cases hil : i < L.length
      · have hd : decide ((i : Int) < ((L.length : Nat) : Int)) = true := decide_eq_true (by omega)
        have e1 : IntKind.i64.wrap ((i : Int) + 1) = ((i + 1 : Nat) : Int) := wr64 (by omega) (by omega)
        have e2 : IntKind.i64.wrap ((i : Int) + (kk : Int)) = ((i + kk : Nat) : Int) := wr64 (by omega) (by omega)
        have e3 : Int.tmod ((i + kk : Nat) : Int) ((L.length : Nat) : Int) = (((i + kk) % L.length : Nat) : Int) := by
          rw [Int.tmod_eq_emod_of_nonneg (by omega)]; rfl
        have hml : (i + kk) % L.length < L.length := Nat.mod_lt _ (by omega)
        have hge := turned_get L kk i hkl hil
        rw [List.getElem?_eq_getElem hml, List.getElem?_eq_getElem (by omega)] at hge
        have hge := Option.some.inj hge
        have hsn : tkn L kk i ++ [L[(i + kk) % L.length].1.av] = tkn L kk (i + 1) := by
          unfold tkn
          rw [List.take_succ_eq_append_getElem (by omega), List.map_append, hge]
          rfl
        have hfl := KeyA.flat (pubOf_ok (hr.ok L[(i + kk) % L.length] (List.getElem_mem hml)))
        have hbr : AV.bare L[(i + kk) % L.length].1.av = some L[(i + kk) % L.length].1.av := KeyA.bare (pubOf_ok (hr.ok L[(i + kk) % L.length] (List.getElem_mem hml)))
        have hsz : sized 5 (tkn L kk i) := fun y hy => by
          unfold tkn at hy
          obtain ⟨p, _, rfl⟩ := List.mem_map.1 hy
          rfl
        have happ := appKs (prim := ky5) (f := true) (x := L[(i + kk) % L.length].1.av) rfl hsz (by unfold tkn; rw [List.length_map, List.length_take]; omega)
        rw [hsn] at happ
        simp -dsimp only [hn, h0, h1, h7, h8, h9, lenK hr.el, hlen, hd, e2, bin_rem (show ((L.length : Nat) : Int) ≠ 0 by omega), e3, idxK hr.el (ring_get hml) rfl, ptKa, hbr, bsK hfl, happ, e1, wt_seq, wt_block, wt_region, wt_cond, wt_skip, wt_ret, wt_exit, wst_nil, wst_app_nil, wst_app_cons, wst_cons, wst_guard, andThen_normal, andThen_ret, andThen_exit, leave_normal, leave_ret, leave_exit, EndsA_ret, EndsA_normal, ot_move, ot_assign, ot_pick, ot_binOp, ot_unOp, ot_convert, ot_field, ot_index, ot_indexAddr, ot_fieldAddr, ot_slice, ot_build, ot_buildSlice, ot_extract, ot_makeInterface, ot_makeFunc, ot_nilCheck, ot_call, ot_len, ot_append, ot_box, ot_load, ot_store, ot_makeSlice, ct_bool, ct_true, ct_false, bt_some, gt_some, aval_tmp, aval_int, aval_bool, aval_str, aval_slice, aval_nilPointer, aval_nilIface, aval_func, aval_global, avals, apairs, bareP, AV.bare, AV.bares, bin_lss, bin_leq, bin_gtr, bin_geq, bin_eql, bin_neq, bin_add, bin_sub, bin_mul, bin_and, bin_or, bin_xor, toV_int, toV_bool, toV_string, un_neg, un_not, bin_str_eql, bin_str_neq, bin_str_lss, bin_str_leq, bin_str_gtr, bin_str_geq, aget_aput, length_aput, aput_none, Nat.reduceEqDiff, Nat.reduceLT, Nat.reduceAdd, reduceIte, reduceCtorEq, Bool.not_false, Bool.not_true, Bool.true_or, true_and, Option.bind_some, Option.map_some, List.nil_append, List.cons_append, resA, resA1, resVal, Option.getD_some, Nat.reduceLeDiff, bnd_some, yieldA_eq, yldOf_some, boolOf_bool, boolOf_undef, gt_none, List.getElem?_toArray, List.getElem?_cons_succ, List.getElem?_cons_zero, bq_true, bq_false, decide_true, decide_false, Option.toList_none, Option.toList_some, List.head?_cons, List.head?_nil, nb_cfg, cv_some, pm_some, pm_none, plainA_v, plain_bool, plain_int, plain_str, Bool.false_eq_true, if_false]
        refine ⟨m - 1, by omega, i + 1, by omega, ?_, rfl, ?_, ?_, ?_, ?_, ?_⟩
        all_goals simp -dsimp only [hn, h0, h1, h7, wt_seq, wt_block, wt_region, wt_cond, wt_skip, wt_ret, wt_exit, wst_nil, wst_app_nil, wst_app_cons, wst_cons, wst_guard, andThen_normal, andThen_ret, andThen_exit, leave_normal, leave_ret, leave_exit, EndsA_ret, EndsA_normal, ot_move, ot_assign, ot_pick, ot_binOp, ot_unOp, ot_convert, ot_field, ot_index, ot_indexAddr, ot_fieldAddr, ot_slice, ot_build, ot_buildSlice, ot_extract, ot_makeInterface, ot_makeFunc, ot_nilCheck, ot_call, ot_len, ot_append, ot_box, ot_load, ot_store, ot_makeSlice, ct_bool, ct_true, ct_false, bt_some, gt_some, aval_tmp, aval_int, aval_bool, aval_str, aval_slice, aval_nilPointer, aval_nilIface, aval_func, aval_global, avals, apairs, bareP, AV.bare, AV.bares, bin_lss, bin_leq, bin_gtr, bin_geq, bin_eql, bin_neq, bin_add, bin_sub, bin_mul, bin_and, bin_or, bin_xor, toV_int, toV_bool, toV_string, un_neg, un_not, bin_str_eql, bin_str_neq, bin_str_lss, bin_str_leq, bin_str_gtr, bin_str_geq, aget_aput, length_aput, aput_none, Nat.reduceEqDiff, Nat.reduceLT, Nat.reduceAdd, reduceIte, reduceCtorEq, Bool.not_false, Bool.not_true, Bool.true_or, true_and, Option.bind_some, Option.map_some, List.nil_append, List.cons_append, resA, resA1, resVal, Option.getD_some, Nat.reduceLeDiff, bnd_some, yieldA_eq, yldOf_some, boolOf_bool, boolOf_undef, gt_none, List.getElem?_toArray, List.getElem?_cons_succ, List.getElem?_cons_zero, bq_true, bq_false, decide_true, decide_false, Option.toList_none, Option.toList_some, List.head?_cons, List.head?_nil, nb_cfg, cv_some, pm_some, pm_none, plainA_v, plain_bool, plain_int, plain_str, Bool.false_eq_true, if_false]
      · have hd : decide ((i : Int) < ((L.length : Nat) : Int)) = false := decide_eq_false (by omega)
        have hie : i = L.length := by omega
        subst hie
        rw [hfull, hq0] at h8 ⊢
        rw [hghp]
        have hst := storeG (prim := ky5) (tk := [((q0 :: qs).length, 28)]) hxf
        have hbb : ∀ b : Bool, (b == b) = true := fun b => by cases b <;> rfl
        cases c1 : decide (x.1.f ≤ ts) <;> cases c2 : decide (ts ≤ x.1.u) <;> rcases o with _ | l
        all_goals first
          | (have hl := Option.some.inj (hin (by unfold KeyA.has; rw [c1, c2]; rfl))
             subst hl
             simp -dsimp only [hn, h0, h1, h7, h8, h9, lenK hr.el, hlen, hd, idxK hr.el hgx rfl, ptKa, hpt, ot_alloc, hro, allocG, hst, faP0, faP1, faP2, faP3, faP4, Nat.zero_add, Nat.add_zero, hblk, hkc, pt9, pt2, pt26, ct_prim ky5_9, ct_prim ky5_8, hb, hbg, bare_s, fndP_eq hr hsm, fndP_eq hring hsm', mayP_eq hring hsm', hmay', findV_eq, hfo, ← ho, c1, c2, bool_eql, hel, hpl, hbb, eq_self, Option.isSome_some, Option.isSome_none, findL, wt_seq, wt_block, wt_region, wt_cond, wt_skip, wt_ret, wt_exit, wst_nil, wst_app_nil, wst_app_cons, wst_cons, wst_guard, andThen_normal, andThen_ret, andThen_exit, leave_normal, leave_ret, leave_exit, EndsA_ret, EndsA_normal, ot_move, ot_assign, ot_pick, ot_binOp, ot_unOp, ot_convert, ot_field, ot_index, ot_indexAddr, ot_fieldAddr, ot_slice, ot_build, ot_buildSlice, ot_extract, ot_makeInterface, ot_makeFunc, ot_nilCheck, ot_call, ot_len, ot_append, ot_box, ot_load, ot_store, ot_makeSlice, ct_bool, ct_true, ct_false, bt_some, gt_some, aval_tmp, aval_int, aval_bool, aval_str, aval_slice, aval_nilPointer, aval_nilIface, aval_func, aval_global, avals, apairs, bareP, AV.bare, AV.bares, bin_lss, bin_leq, bin_gtr, bin_geq, bin_eql, bin_neq, bin_add, bin_sub, bin_mul, bin_and, bin_or, bin_xor, toV_int, toV_bool, toV_string, un_neg, un_not, bin_str_eql, bin_str_neq, bin_str_lss, bin_str_leq, bin_str_gtr, bin_str_geq, aget_aput, length_aput, aput_none, Nat.reduceEqDiff, Nat.reduceLT, Nat.reduceAdd, reduceIte, reduceCtorEq, Bool.not_false, Bool.not_true, Bool.true_or, true_and, Option.bind_some, Option.map_some, List.nil_append, List.cons_append, resA, resA1, resVal, Option.getD_some, Nat.reduceLeDiff, bnd_some, yieldA_eq, yldOf_some, boolOf_bool, boolOf_undef, gt_none, List.getElem?_toArray, List.getElem?_cons_succ, List.getElem?_cons_zero, bq_true, bq_false, decide_true, decide_false, Option.toList_none, Option.toList_some, List.head?_cons, List.head?_nil, nb_cfg, cv_some, pm_some, pm_none, plainA_v, plain_bool, plain_int, plain_str, Bool.false_eq_true, if_false]
             exact ⟨1, rfl⟩)
          | (exfalso
             have := hin (by unfold KeyA.has; rw [c1, c2]; rfl)
             cases this)
          | (simp -dsimp only [hn, h0, h1, h7, h8, h9, lenK hr.el, hlen, hd, idxK hr.el hgx rfl, ptKa, hpt, ot_alloc, hro, allocG, hst, faP0, faP1, faP2, faP3, faP4, Nat.zero_add, Nat.add_zero, hblk, hkc, pt9, pt2, pt26, ct_prim ky5_9, ct_prim ky5_8, hb, hbg, bare_s, fndP_eq hr hsm, fndP_eq hring hsm', mayP_eq hring hsm', hmay', findV_eq, hfo, ← ho, c1, c2, bool_eql, hel, hpl, hbb, eq_self, Option.isSome_some, Option.isSome_none, findL, wt_seq, wt_block, wt_region, wt_cond, wt_skip, wt_ret, wt_exit, wst_nil, wst_app_nil, wst_app_cons, wst_cons, wst_guard, andThen_normal, andThen_ret, andThen_exit, leave_normal, leave_ret, leave_exit, EndsA_ret, EndsA_normal, ot_move, ot_assign, ot_pick, ot_binOp, ot_unOp, ot_convert, ot_field, ot_index, ot_indexAddr, ot_fieldAddr, ot_slice, ot_build, ot_buildSlice, ot_extract, ot_makeInterface, ot_makeFunc, ot_nilCheck, ot_call, ot_len, ot_append, ot_box, ot_load, ot_store, ot_makeSlice, ct_bool, ct_true, ct_false, bt_some, gt_some, aval_tmp, aval_int, aval_bool, aval_str, aval_slice, aval_nilPointer, aval_nilIface, aval_func, aval_global, avals, apairs, bareP, AV.bare, AV.bares, bin_lss, bin_leq, bin_gtr, bin_geq, bin_eql, bin_neq, bin_add, bin_sub, bin_mul, bin_and, bin_or, bin_xor, toV_int, toV_bool, toV_string, un_neg, un_not, bin_str_eql, bin_str_neq, bin_str_lss, bin_str_leq, bin_str_gtr, bin_str_geq, aget_aput, length_aput, aput_none, Nat.reduceEqDiff, Nat.reduceLT, Nat.reduceAdd, reduceIte, reduceCtorEq, Bool.not_false, Bool.not_true, Bool.true_or, true_and, Option.bind_some, Option.map_some, List.nil_append, List.cons_append, resA, resA1, resVal, Option.getD_some, Nat.reduceLeDiff, bnd_some, yieldA_eq, yldOf_some, boolOf_bool, boolOf_undef, gt_none, List.getElem?_toArray, List.getElem?_cons_succ, List.getElem?_cons_zero, bq_true, bq_false, decide_true, decide_false, Option.toList_none, Option.toList_some, List.head?_cons, List.head?_nil, nb_cfg, cv_some, pm_some, pm_none, plainA_v, plain_bool, plain_int, plain_str, Bool.false_eq_true, if_false]
             exact ⟨1, rfl⟩)
    · refine ⟨0, Nat.zero_add _, ?_, rfl, ?_, ?_, ?_, ?_, ?_⟩
      any_goals simp -dsimp only [hn, h0, h1, h2, wt_seq, wt_block, wt_region, wt_cond, wt_skip, wt_ret, wt_exit, wst_nil, wst_app_nil, wst_app_cons, wst_cons, wst_guard, andThen_normal, andThen_ret, andThen_exit, leave_normal, leave_ret, leave_exit, EndsA_ret, EndsA_normal, ot_move, ot_assign, ot_pick, ot_binOp, ot_unOp, ot_convert, ot_field, ot_index, ot_indexAddr, ot_fieldAddr, ot_slice, ot_build, ot_buildSlice, ot_extract, ot_makeInterface, ot_makeFunc, ot_nilCheck, ot_call, ot_len, ot_append, ot_box, ot_load, ot_store, ot_makeSlice, ct_bool, ct_true, ct_false, bt_some, gt_some, aval_tmp, aval_int, aval_bool, aval_str, aval_slice, aval_nilPointer, aval_nilIface, aval_func, aval_global, avals, apairs, bareP, AV.bare, AV.bares, bin_lss, bin_leq, bin_gtr, bin_geq, bin_eql, bin_neq, bin_add, bin_sub, bin_mul, bin_and, bin_or, bin_xor, toV_int, toV_bool, toV_string, un_neg, un_not, bin_str_eql, bin_str_neq, bin_str_lss, bin_str_leq, bin_str_gtr, bin_str_geq, aget_aput, length_aput, aput_none, Nat.reduceEqDiff, Nat.reduceLT, Nat.reduceAdd, reduceIte, reduceCtorEq, Bool.not_false, Bool.not_true, Bool.true_or, true_and, Option.bind_some, Option.map_some, List.nil_append, List.cons_append, resA, resA1, resVal, Option.getD_some, Nat.reduceLeDiff, bnd_some, yieldA_eq, yldOf_some, boolOf_bool, boolOf_undef, gt_none, List.getElem?_toArray, List.getElem?_cons_succ, List.getElem?_cons_zero, bq_true, bq_false, decide_true, decide_false, Option.toList_none, Option.toList_some, List.head?_cons, List.head?_nil, nb_cfg, cv_some, pm_some, pm_none, plainA_v, plain_bool, plain_int, plain_str, Bool.false_eq_true, if_false]
      all_goals rfl
end Go.Proofs.Ytonmpbfddiflhaa

/- Keys: the document's answers. -/
namespace Go.Proofs.Ytonmpbfddiflhaa
open Go.AM
def kr0 : FuncId → Option (List AV → Option AV) := tab [(28, (boolP serverB)), (29, (boolP keyIDB))]
theorem kr0_ok : (cfgP kr0).Ok := cfgOf_ok mixed fok (tab_ok ⟨prim_at Try.func28 (by kernel_rfl) rfl (boolP_of refServer_ok), prim_at Try.func29 (by kernel_rfl) rfl (boolP_of refKeyID_ok), trivial⟩)
theorem kr0_28 : (cfgP kr0).prim 28 = some (boolP serverB) := rfl
theorem kr0_29 : (cfgP kr0).prim 29 = some (boolP keyIDB) := rfl
theorem rgood_ok (k : KeyA) (l : List UInt8) (h : pubOf k.p = some l) (h1 : k.sv.length < 2 ^ 63) (h2 : k.id.length < 2 ^ 63) : PureOk (cfgP kr0) 15 [k.av] (.v (.bool (goodB k l))) := by
  have hb := KeyA.bare (pubOf_ok h)
  have hf := KeyA.flat (pubOf_ok h)
  have hp := (pubOf_ok h).1
  unfold KeyA.av
  refine pure_of_wk (call := noCall) (fn := Try.f15) (rs := [.tmp 2]) kr0_ok noCall_ok (fns_cfg Try.func15 rfl) rfl rfl ?_
  intro env hl0 hargs
  have hn : env.length = 29 := hl0
  have h0 := hargs 0 _ rfl
  clear hargs hl0
  refine wkT_of ?_
  simp -dsimp only [hn, h0, ro_cfg 15 1, bxt_ro hb hf, faK0, AV.cells, pt9, Nat.zero_add, Nat.add_zero, ct_prim kr0_28, bare_s, boolP_eq (q := serverB) h1, wt_seq, wt_block, wt_region, wt_cond, wt_skip, wt_ret, wt_exit, wst_nil, wst_app_nil, wst_app_cons, wst_cons, wst_guard, andThen_normal, andThen_ret, andThen_exit, leave_normal, leave_ret, leave_exit, EndsA_ret, EndsA_normal, ot_move, ot_assign, ot_pick, ot_binOp, ot_unOp, ot_convert, ot_field, ot_index, ot_indexAddr, ot_fieldAddr, ot_slice, ot_build, ot_buildSlice, ot_extract, ot_makeInterface, ot_makeFunc, ot_nilCheck, ot_call, ot_len, ot_append, ot_box, ot_load, ot_store, ot_makeSlice, ct_bool, ct_true, ct_false, bt_some, gt_some, aval_tmp, aval_int, aval_bool, aval_str, aval_slice, aval_nilPointer, aval_nilIface, aval_func, aval_global, avals, apairs, bareP, AV.bare, AV.bares, bin_lss, bin_leq, bin_gtr, bin_geq, bin_eql, bin_neq, bin_add, bin_sub, bin_mul, bin_and, bin_or, bin_xor, toV_int, toV_bool, toV_string, un_neg, un_not, bin_str_eql, bin_str_neq, bin_str_lss, bin_str_leq, bin_str_gtr, bin_str_geq, aget_aput, length_aput, aput_none, Nat.reduceEqDiff, Nat.reduceLT, Nat.reduceAdd, reduceIte, reduceCtorEq, Bool.not_false, Bool.not_true, Bool.true_or, true_and, Option.bind_some, Option.map_some, List.nil_append, List.cons_append, resA, resA1, resVal, Option.getD_some, Nat.reduceLeDiff, bnd_some, yieldA_eq, yldOf_some, boolOf_bool, boolOf_undef, gt_none, List.getElem?_toArray, List.getElem?_cons_succ, List.getElem?_cons_zero, bq_true, bq_false, decide_true, decide_false, Option.toList_none, Option.toList_some, List.head?_cons, List.head?_nil, nb_cfg, cv_some, pm_some, pm_none, plainA_v, plain_bool, plain_int, plain_str, Bool.false_eq_true, if_false]
  repeat (apply gm_step; (case h1 => intro hg; (try simp only [Bool.and_eq_true, Bool.not_eq_true', Bool.or_eq_false_iff, Bool.not_or, Bool.not_not] at hg); simp -dsimp only [hn, h0, faK0, faK1, faK2, faK3, faK4, AV.cells, pt9, pt2, pt26, Nat.zero_add, Nat.add_zero, ct_prim kr0_29, bare_s, boolP_eq (q := keyIDB) h2, lenBy hp, hg, Bool.and_true, Bool.true_and, Bool.or_false, Bool.not_false, Bool.not_true, pk_or, pk_and, pk_and', pk_or', wt_seq, wt_block, wt_region, wt_cond, wt_skip, wt_ret, wt_exit, wst_nil, wst_app_nil, wst_app_cons, wst_cons, wst_guard, andThen_normal, andThen_ret, andThen_exit, leave_normal, leave_ret, leave_exit, EndsA_ret, EndsA_normal, ot_move, ot_assign, ot_pick, ot_binOp, ot_unOp, ot_convert, ot_field, ot_index, ot_indexAddr, ot_fieldAddr, ot_slice, ot_build, ot_buildSlice, ot_extract, ot_makeInterface, ot_makeFunc, ot_nilCheck, ot_call, ot_len, ot_append, ot_box, ot_load, ot_store, ot_makeSlice, ct_bool, ct_true, ct_false, bt_some, gt_some, aval_tmp, aval_int, aval_bool, aval_str, aval_slice, aval_nilPointer, aval_nilIface, aval_func, aval_global, avals, apairs, bareP, AV.bare, AV.bares, bin_lss, bin_leq, bin_gtr, bin_geq, bin_eql, bin_neq, bin_add, bin_sub, bin_mul, bin_and, bin_or, bin_xor, toV_int, toV_bool, toV_string, un_neg, un_not, bin_str_eql, bin_str_neq, bin_str_lss, bin_str_leq, bin_str_gtr, bin_str_geq, aget_aput, length_aput, aput_none, Nat.reduceEqDiff, Nat.reduceLT, Nat.reduceAdd, reduceIte, reduceCtorEq, Bool.not_false, Bool.not_true, Bool.true_or, true_and, Option.bind_some, Option.map_some, List.nil_append, List.cons_append, resA, resA1, resVal, Option.getD_some, Nat.reduceLeDiff, bnd_some, yieldA_eq, yldOf_some, boolOf_bool, boolOf_undef, gt_none, List.getElem?_toArray, List.getElem?_cons_succ, List.getElem?_cons_zero, bq_true, bq_false, decide_true, decide_false, Option.toList_none, Option.toList_some, List.head?_cons, List.head?_nil, nb_cfg, cv_some, pm_some, pm_none, plainA_v, plain_bool, plain_int, plain_str, Bool.false_eq_true, if_false]; exact ⟨rfl, rfl, rfl⟩); (try simp -dsimp only [hn, h0, faK0, faK1, faK2, faK3, faK4, AV.cells, pt9, pt2, pt26, Nat.zero_add, Nat.add_zero, ct_prim kr0_29, bare_s, boolP_eq (q := keyIDB) h2, lenBy hp, pk_and, pk_or, pk_and', pk_or', gt_ite, ite_self, wt_seq, wt_block, wt_region, wt_cond, wt_skip, wt_ret, wt_exit, wst_nil, wst_app_nil, wst_app_cons, wst_cons, wst_guard, andThen_normal, andThen_ret, andThen_exit, leave_normal, leave_ret, leave_exit, EndsA_ret, EndsA_normal, ot_move, ot_assign, ot_pick, ot_binOp, ot_unOp, ot_convert, ot_field, ot_index, ot_indexAddr, ot_fieldAddr, ot_slice, ot_build, ot_buildSlice, ot_extract, ot_makeInterface, ot_makeFunc, ot_nilCheck, ot_call, ot_len, ot_append, ot_box, ot_load, ot_store, ot_makeSlice, ct_bool, ct_true, ct_false, bt_some, gt_some, aval_tmp, aval_int, aval_bool, aval_str, aval_slice, aval_nilPointer, aval_nilIface, aval_func, aval_global, avals, apairs, bareP, AV.bare, AV.bares, bin_lss, bin_leq, bin_gtr, bin_geq, bin_eql, bin_neq, bin_add, bin_sub, bin_mul, bin_and, bin_or, bin_xor, toV_int, toV_bool, toV_string, un_neg, un_not, bin_str_eql, bin_str_neq, bin_str_lss, bin_str_leq, bin_str_gtr, bin_str_geq, aget_aput, length_aput, aput_none, Nat.reduceEqDiff, Nat.reduceLT, Nat.reduceAdd, reduceIte, reduceCtorEq, Bool.not_false, Bool.not_true, Bool.true_or, true_and, Option.bind_some, Option.map_some, List.nil_append, List.cons_append, resA, resA1, resVal, Option.getD_some, Nat.reduceLeDiff, bnd_some, yieldA_eq, yldOf_some, boolOf_bool, boolOf_undef, gt_none, List.getElem?_toArray, List.getElem?_cons_succ, List.getElem?_cons_zero, bq_true, bq_false, decide_true, decide_false, Option.toList_none, Option.toList_some, List.head?_cons, List.head?_nil, nb_cfg, cv_some, pm_some, pm_none, plainA_v, plain_bool, plain_int, plain_str, Bool.false_eq_true, if_false]))
  exact ⟨1, rfl⟩
/-- Small enough to be handed on. -/
def smK (p : KL) : Prop := pubOf p.1.p = some p.2 ∧ p.1.sv.length < 2 ^ 63 ∧ p.1.id.length < 2 ^ 63
theorem av_inj {a b : KeyA} (h : a.av = b.av) : a = b := by
  unfold KeyA.av at h
  injection h with h
  injection h with h1 h
  injection h with h2 h
  injection h with h3 h
  injection h with h4 h
  injection h with h5 _
  obtain ⟨s, i, p, f, u⟩ := a
  obtain ⟨s', i', p', f', u'⟩ := b
  simp only at h1 h2 h3 h4 h5
  have e1 := str_inj h1
  have e2 := str_inj h2
  injection h4 with h4
  injection h4 with _ h4
  injection h5 with h5
  injection h5 with _ h5
  subst e1; subst e2; subst h3; subst h4; subst h5
  rfl
theorem kl_inj {p q : KL} (hp : pubOf p.1.p = some p.2) (hq : pubOf q.1.p = some q.2) (h : p.1.av = q.1.av) : p = q := by
  obtain ⟨a, l⟩ := p
  obtain ⟨b, m⟩ := q
  have e := av_inj h
  simp only at e hp hq
  subst e
  rw [hp] at hq
  injection hq with hq
  subst hq
  rfl
theorem ring_inj {r : AV} {L M : List KL} (h : Ring r L) (h' : Ring r M) : L = M := by
  have h1 := decR_eq h
  rw [decR_eq h'] at h1
  exact (Option.some.inj h1).symm
noncomputable def rgdP := relP (fun p : KL => smK p) (fun p => [p.1.av]) (fun p => .v (.bool (goodB p.1 p.2)))
theorem rgdP_ok : ∀ xs r, rgdP xs = some r → PureOk (cfgP kr0) 15 xs r := relP_ok fun p h => rgood_ok p.1 p.2 h.1 h.2.1 h.2.2
theorem rgdP_eq (p : KL) (h : smK p) : rgdP [p.1.av] = some (.v (.bool (goodB p.1 p.2))) := relP_eq (fun p q hp hq h => by
  injection h with h
  rw [kl_inj hp.1 hq.1 h]) p h
noncomputable section
def kr1 : FuncId → Option (List AV → Option AV) := tab [(15, rgdP)]
theorem kr1_ok : (cfgP kr1).Ok := cfgOf_ok mixed fok (tab_ok ⟨prim_at Try.func15 (by kernel_rfl) rfl (rgdP_ok), trivial⟩)
theorem kr1_15 : (cfgP kr1).prim 15 = some rgdP := rfl
end
/-- Whether two of one name have a time in common. -/
def meetB (a b : KeyA) : Bool := decide (a.sv = b.sv) && decide (a.id = b.id) && decide (a.f ≤ b.u) && decide (b.f ≤ a.u)
theorem meet_clash {a b : KL} (ha : goodB a.1 a.2 = true) (hb : goodB b.1 b.2 = true) : meetB a.1 b.1 = clashB b.1 a.1 := by
  have h1 : a.1.f ≤ a.1.u := by
    unfold goodB at ha
    simp only [Bool.and_eq_true, decide_eq_true_eq] at ha
    exact ha.2
  have h2 : b.1.f ≤ b.1.u := by
    unfold goodB at hb
    simp only [Bool.and_eq_true, decide_eq_true_eq] at hb
    exact hb.2
  rw [Bool.eq_iff_iff]
  unfold meetB clashB KeyA.has
  simp only [Bool.and_eq_true, decide_eq_true_eq, Bool.or_eq_true]
  constructor
  · rintro ⟨⟨⟨h3, h4⟩, h5⟩, h6⟩
    exact ⟨⟨h3.symm, h4.symm⟩, by omega⟩
  · rintro ⟨⟨h3, h4⟩, h5⟩
    exact ⟨⟨⟨h3.symm, h4.symm⟩, by omega⟩, by omega⟩
section
variable {prim : FuncId → Option (List AV → Option AV)}
theorem gx {L : List KL} {i : Nat} (h : i < L.length) : (L.map fun p => p.1.av)[i]? = some (.agg [str L[i].1.sv, str L[i].1.id, L[i].1.p, .v (.int .i64 L[i].1.f), .v (.int .i64 L[i].1.u)]) := by simp [h, KeyA.av]
theorem idxA {r : AV} {L : List KL} (hr : Ring r L) {i : Nat} (h : i < L.length) : indexAddrA (cfgP prim) 22 r (.v (.int .i64 i)) = some (.rp (.agg [str L[i].1.sv, str L[i].1.id, L[i].1.p, .v (.int .i64 L[i].1.f), .v (.int .i64 L[i].1.u)]) 0) := idxK hr.el (gx h) rfl
end
structure rmI (r : AV) (L : List KL) (i : Nat) (e : Env) (h : Hp) : Prop where
  len : e.length = 72
  hp : h = {}
  a0 : aget e 0 = r
  a3 : aget e 3 = .v (.int .i64 i)
set_option maxHeartbeats 4000000 in
theorem rmay_ok (r : AV) (L : List KL) (hr : Ring r L) (hb : AV.bare r = some r) (hL : L.length < 2 ^ 62) (hs : ∀ p ∈ L, smK p) : PureOk (cfgP kr1) 14 [r] (.v (.bool (mayB L))) := by
  have hlen : (L.map fun p => p.1.av).length = L.length := by simp
  refine pure_of_wk (call := noCall) (fn := Try.f14) (rs := [.tmp 2]) kr1_ok noCall_ok (fns_cfg Try.func14 rfl) rfl rfl ?_
  intro env hl0 hargs
  have hn : env.length = 72 := hl0
  have h0 := hargs 0 _ rfl
  clear hargs hl0
  refine wkT_of ?_
  simp -dsimp only [hn, h0, wt_seq, wt_block, wt_region, wt_cond, wt_skip, wt_ret, wt_exit, wst_nil, wst_app_nil, wst_app_cons, wst_cons, wst_guard, andThen_normal, andThen_ret, andThen_exit, leave_normal, leave_ret, leave_exit, EndsA_ret, EndsA_normal, ot_move, ot_assign, ot_pick, ot_binOp, ot_unOp, ot_convert, ot_field, ot_index, ot_indexAddr, ot_fieldAddr, ot_slice, ot_build, ot_buildSlice, ot_extract, ot_makeInterface, ot_makeFunc, ot_nilCheck, ot_call, ot_len, ot_append, ot_box, ot_load, ot_store, ot_makeSlice, ct_bool, ct_true, ct_false, bt_some, gt_some, aval_tmp, aval_int, aval_bool, aval_str, aval_slice, aval_nilPointer, aval_nilIface, aval_func, aval_global, avals, apairs, bareP, AV.bare, AV.bares, bin_lss, bin_leq, bin_gtr, bin_geq, bin_eql, bin_neq, bin_add, bin_sub, bin_mul, bin_and, bin_or, bin_xor, toV_int, toV_bool, toV_string, un_neg, un_not, bin_str_eql, bin_str_neq, bin_str_lss, bin_str_leq, bin_str_gtr, bin_str_geq, aget_aput, length_aput, aput_none, Nat.reduceEqDiff, Nat.reduceLT, Nat.reduceAdd, reduceIte, reduceCtorEq, Bool.not_false, Bool.not_true, Bool.true_or, true_and, Option.bind_some, Option.map_some, List.nil_append, List.cons_append, resA, resA1, resVal, Option.getD_some, Nat.reduceLeDiff, bnd_some, yieldA_eq, yldOf_some, boolOf_bool, boolOf_undef, gt_none, List.getElem?_toArray, List.getElem?_cons_succ, List.getElem?_cons_zero, bq_true, bq_false, decide_true, decide_false, Option.toList_none, Option.toList_some, List.head?_cons, List.head?_nil, nb_cfg, cv_some, pm_some, pm_none, plainA_v, plain_bool, plain_int, plain_str, Bool.false_eq_true, if_false]
  refine wt_loop (m := L.length) (fun m e h => ∃ i, i + m = L.length ∧ rmI r L i e h ∧ mayTo L i) ?_ ?_
  · rintro m e h ⟨i, hi, ⟨hn, rfl, h0, h3⟩, hto⟩
    by_cases hil : i < L.length
    · have hd : decide ((i : Int) < ((L.length : Nat) : Int)) = true := decide_eq_true (by omega)
      have e1 : IntKind.i64.wrap ((i : Int) + 1) = ((i + 1 : Nat) : Int) := wr64 (by omega) (by omega)
      have hsm := hs L[i] (List.getElem_mem hil)
      have hpi := (pubOf_ok hsm.1).2.1
      have hgd := rgdP_eq L[i] hsm
      unfold KeyA.av at hgd
      have hgood : ∀ j (hj : j < i), goodB (L[j]'(by omega)).1 (L[j]'(by omega)).2 = true := fun j hj => (hto j hj (by omega)).1
      cases q : goodB L[i].1 L[i].2 with
      | false =>
        simp -dsimp only [hn, h0, h3, lenK hr.el, hlen, hd, idxA hr hil, AV.cells, ptK, ct_prim kr1_15, bare_s, hpi, hgd, q, wt_seq, wt_block, wt_region, wt_cond, wt_skip, wt_ret, wt_exit, wst_nil, wst_app_nil, wst_app_cons, wst_cons, wst_guard, andThen_normal, andThen_ret, andThen_exit, leave_normal, leave_ret, leave_exit, EndsA_ret, EndsA_normal, ot_move, ot_assign, ot_pick, ot_binOp, ot_unOp, ot_convert, ot_field, ot_index, ot_indexAddr, ot_fieldAddr, ot_slice, ot_build, ot_buildSlice, ot_extract, ot_makeInterface, ot_makeFunc, ot_nilCheck, ot_call, ot_len, ot_append, ot_box, ot_load, ot_store, ot_makeSlice, ct_bool, ct_true, ct_false, bt_some, gt_some, aval_tmp, aval_int, aval_bool, aval_str, aval_slice, aval_nilPointer, aval_nilIface, aval_func, aval_global, avals, apairs, bareP, AV.bare, AV.bares, bin_lss, bin_leq, bin_gtr, bin_geq, bin_eql, bin_neq, bin_add, bin_sub, bin_mul, bin_and, bin_or, bin_xor, toV_int, toV_bool, toV_string, un_neg, un_not, bin_str_eql, bin_str_neq, bin_str_lss, bin_str_leq, bin_str_gtr, bin_str_geq, aget_aput, length_aput, aput_none, Nat.reduceEqDiff, Nat.reduceLT, Nat.reduceAdd, reduceIte, reduceCtorEq, Bool.not_false, Bool.not_true, Bool.true_or, true_and, Option.bind_some, Option.map_some, List.nil_append, List.cons_append, resA, resA1, resVal, Option.getD_some, Nat.reduceLeDiff, bnd_some, yieldA_eq, yldOf_some, boolOf_bool, boolOf_undef, gt_none, List.getElem?_toArray, List.getElem?_cons_succ, List.getElem?_cons_zero, bq_true, bq_false, decide_true, decide_false, Option.toList_none, Option.toList_some, List.head?_cons, List.head?_nil, nb_cfg, cv_some, pm_some, pm_none, plainA_v, plain_bool, plain_int, plain_str, Bool.false_eq_true, if_false]
        refine ⟨1, ?_⟩
        rw [mayB_false hil (.inl q)]
        rfl
      | true =>
        simp -dsimp only [hn, h0, h3, lenK hr.el, hlen, hd, idxA hr hil, AV.cells, ptK, ct_prim kr1_15, bare_s, hpi, hgd, q, wt_seq, wt_block, wt_region, wt_cond, wt_skip, wt_ret, wt_exit, wst_nil, wst_app_nil, wst_app_cons, wst_cons, wst_guard, andThen_normal, andThen_ret, andThen_exit, leave_normal, leave_ret, leave_exit, EndsA_ret, EndsA_normal, ot_move, ot_assign, ot_pick, ot_binOp, ot_unOp, ot_convert, ot_field, ot_index, ot_indexAddr, ot_fieldAddr, ot_slice, ot_build, ot_buildSlice, ot_extract, ot_makeInterface, ot_makeFunc, ot_nilCheck, ot_call, ot_len, ot_append, ot_box, ot_load, ot_store, ot_makeSlice, ct_bool, ct_true, ct_false, bt_some, gt_some, aval_tmp, aval_int, aval_bool, aval_str, aval_slice, aval_nilPointer, aval_nilIface, aval_func, aval_global, avals, apairs, bareP, AV.bare, AV.bares, bin_lss, bin_leq, bin_gtr, bin_geq, bin_eql, bin_neq, bin_add, bin_sub, bin_mul, bin_and, bin_or, bin_xor, toV_int, toV_bool, toV_string, un_neg, un_not, bin_str_eql, bin_str_neq, bin_str_lss, bin_str_leq, bin_str_gtr, bin_str_geq, aget_aput, length_aput, aput_none, Nat.reduceEqDiff, Nat.reduceLT, Nat.reduceAdd, reduceIte, reduceCtorEq, Bool.not_false, Bool.not_true, Bool.true_or, true_and, Option.bind_some, Option.map_some, List.nil_append, List.cons_append, resA, resA1, resVal, Option.getD_some, Nat.reduceLeDiff, bnd_some, yieldA_eq, yldOf_some, boolOf_bool, boolOf_undef, gt_none, List.getElem?_toArray, List.getElem?_cons_succ, List.getElem?_cons_zero, bq_true, bq_false, decide_true, decide_false, Option.toList_none, Option.toList_some, List.head?_cons, List.head?_nil, nb_cfg, cv_some, pm_some, pm_none, plainA_v, plain_bool, plain_int, plain_str, Bool.false_eq_true, if_false]
        refine wt_loop (m := i) (fun m e h => ∃ j, j + m = i ∧ (rmI r L i e h ∧ aget e 4 = .v (.int .i64 j)) ∧ ∀ n (hn : n < j) (hl : n < L.length), meetB L[i].1 L[n].1 = false) ?_ ?_
        · rintro m e h ⟨j, hj, ⟨⟨hn, rfl, h0, h3⟩, h4⟩, hno⟩
          by_cases hji : j < i
          · have hjl : j < L.length := by omega
            have hd2 : decide ((j : Int) < (i : Int)) = true := decide_eq_true (by omega)
            have e2 : IntKind.i64.wrap ((j : Int) + 1) = ((j + 1 : Nat) : Int) := wr64 (by omega) (by omega)
            simp -dsimp only [hn, h0, h3, h4, hd2, idxA hr hil, idxA hr hjl, faK0, AV.cells, pt9, Nat.zero_add, wt_seq, wt_block, wt_region, wt_cond, wt_skip, wt_ret, wt_exit, wst_nil, wst_app_nil, wst_app_cons, wst_cons, wst_guard, andThen_normal, andThen_ret, andThen_exit, leave_normal, leave_ret, leave_exit, EndsA_ret, EndsA_normal, ot_move, ot_assign, ot_pick, ot_binOp, ot_unOp, ot_convert, ot_field, ot_index, ot_indexAddr, ot_fieldAddr, ot_slice, ot_build, ot_buildSlice, ot_extract, ot_makeInterface, ot_makeFunc, ot_nilCheck, ot_call, ot_len, ot_append, ot_box, ot_load, ot_store, ot_makeSlice, ct_bool, ct_true, ct_false, bt_some, gt_some, aval_tmp, aval_int, aval_bool, aval_str, aval_slice, aval_nilPointer, aval_nilIface, aval_func, aval_global, avals, apairs, bareP, AV.bare, AV.bares, bin_lss, bin_leq, bin_gtr, bin_geq, bin_eql, bin_neq, bin_add, bin_sub, bin_mul, bin_and, bin_or, bin_xor, toV_int, toV_bool, toV_string, un_neg, un_not, bin_str_eql, bin_str_neq, bin_str_lss, bin_str_leq, bin_str_gtr, bin_str_geq, aget_aput, length_aput, aput_none, Nat.reduceEqDiff, Nat.reduceLT, Nat.reduceAdd, reduceIte, reduceCtorEq, Bool.not_false, Bool.not_true, Bool.true_or, true_and, Option.bind_some, Option.map_some, List.nil_append, List.cons_append, resA, resA1, resVal, Option.getD_some, Nat.reduceLeDiff, bnd_some, yieldA_eq, yldOf_some, boolOf_bool, boolOf_undef, gt_none, List.getElem?_toArray, List.getElem?_cons_succ, List.getElem?_cons_zero, bq_true, bq_false, decide_true, decide_false, Option.toList_none, Option.toList_some, List.head?_cons, List.head?_nil, nb_cfg, cv_some, pm_some, pm_none, plainA_v, plain_bool, plain_int, plain_str, Bool.false_eq_true, if_false]
            repeat (apply gm_step; (case h1 => intro hg; (try simp only [Bool.and_eq_true, Bool.not_eq_true', Bool.or_eq_false_iff, Bool.not_or, Bool.not_not] at hg); simp -dsimp only [hn, h0, h3, h4, idxA hr hil, idxA hr hjl, faK1, faK3, faK4, AV.cells, pt9, pt2, Nat.zero_add, hg, Bool.and_true, Bool.true_and, Bool.or_false, Bool.not_false, Bool.not_true, pk_or, pk_and, pk_and', pk_or', wt_seq, wt_block, wt_region, wt_cond, wt_skip, wt_ret, wt_exit, wst_nil, wst_app_nil, wst_app_cons, wst_cons, wst_guard, andThen_normal, andThen_ret, andThen_exit, leave_normal, leave_ret, leave_exit, EndsA_ret, EndsA_normal, ot_move, ot_assign, ot_pick, ot_binOp, ot_unOp, ot_convert, ot_field, ot_index, ot_indexAddr, ot_fieldAddr, ot_slice, ot_build, ot_buildSlice, ot_extract, ot_makeInterface, ot_makeFunc, ot_nilCheck, ot_call, ot_len, ot_append, ot_box, ot_load, ot_store, ot_makeSlice, ct_bool, ct_true, ct_false, bt_some, gt_some, aval_tmp, aval_int, aval_bool, aval_str, aval_slice, aval_nilPointer, aval_nilIface, aval_func, aval_global, avals, apairs, bareP, AV.bare, AV.bares, bin_lss, bin_leq, bin_gtr, bin_geq, bin_eql, bin_neq, bin_add, bin_sub, bin_mul, bin_and, bin_or, bin_xor, toV_int, toV_bool, toV_string, un_neg, un_not, bin_str_eql, bin_str_neq, bin_str_lss, bin_str_leq, bin_str_gtr, bin_str_geq, aget_aput, length_aput, aput_none, Nat.reduceEqDiff, Nat.reduceLT, Nat.reduceAdd, reduceIte, reduceCtorEq, Bool.not_false, Bool.not_true, Bool.true_or, true_and, Option.bind_some, Option.map_some, List.nil_append, List.cons_append, resA, resA1, resVal, Option.getD_some, Nat.reduceLeDiff, bnd_some, yieldA_eq, yldOf_some, boolOf_bool, boolOf_undef, gt_none, List.getElem?_toArray, List.getElem?_cons_succ, List.getElem?_cons_zero, bq_true, bq_false, decide_true, decide_false, Option.toList_none, Option.toList_some, List.head?_cons, List.head?_nil, nb_cfg, cv_some, pm_some, pm_none, plainA_v, plain_bool, plain_int, plain_str, Bool.false_eq_true, if_false]; exact ⟨rfl, rfl, rfl⟩); (try simp -dsimp only [hn, h0, h3, h4, idxA hr hil, idxA hr hjl, faK1, faK3, faK4, AV.cells, pt9, pt2, Nat.zero_add, pk_and, pk_or, pk_and', pk_or', gt_ite, ite_self, wt_seq, wt_block, wt_region, wt_cond, wt_skip, wt_ret, wt_exit, wst_nil, wst_app_nil, wst_app_cons, wst_cons, wst_guard, andThen_normal, andThen_ret, andThen_exit, leave_normal, leave_ret, leave_exit, EndsA_ret, EndsA_normal, ot_move, ot_assign, ot_pick, ot_binOp, ot_unOp, ot_convert, ot_field, ot_index, ot_indexAddr, ot_fieldAddr, ot_slice, ot_build, ot_buildSlice, ot_extract, ot_makeInterface, ot_makeFunc, ot_nilCheck, ot_call, ot_len, ot_append, ot_box, ot_load, ot_store, ot_makeSlice, ct_bool, ct_true, ct_false, bt_some, gt_some, aval_tmp, aval_int, aval_bool, aval_str, aval_slice, aval_nilPointer, aval_nilIface, aval_func, aval_global, avals, apairs, bareP, AV.bare, AV.bares, bin_lss, bin_leq, bin_gtr, bin_geq, bin_eql, bin_neq, bin_add, bin_sub, bin_mul, bin_and, bin_or, bin_xor, toV_int, toV_bool, toV_string, un_neg, un_not, bin_str_eql, bin_str_neq, bin_str_lss, bin_str_leq, bin_str_gtr, bin_str_geq, aget_aput, length_aput, aput_none, Nat.reduceEqDiff, Nat.reduceLT, Nat.reduceAdd, reduceIte, reduceCtorEq, Bool.not_false, Bool.not_true, Bool.true_or, true_and, Option.bind_some, Option.map_some, List.nil_append, List.cons_append, resA, resA1, resVal, Option.getD_some, Nat.reduceLeDiff, bnd_some, yieldA_eq, yldOf_some, boolOf_bool, boolOf_undef, gt_none, List.getElem?_toArray, List.getElem?_cons_succ, List.getElem?_cons_zero, bq_true, bq_false, decide_true, decide_false, Option.toList_none, Option.toList_some, List.head?_cons, List.head?_nil, nb_cfg, cv_some, pm_some, pm_none, plainA_v, plain_bool, plain_int, plain_str, Bool.false_eq_true, if_false]))
            have hm : meetB L[i].1 L[j].1 = (decide (L[i].1.sv = L[j].1.sv) && decide (L[i].1.id = L[j].1.id) && decide (L[i].1.f ≤ L[j].1.u) && decide (L[j].1.f ≤ L[i].1.u)) := rfl
            rw [← hm]
            refine ⟨by kernel_rfl, ?_⟩
            cases q2 : meetB L[i].1 L[j].1 with
            | true =>
              simp -dsimp only [hn, h0, h3, h4, wt_seq, wt_block, wt_region, wt_cond, wt_skip, wt_ret, wt_exit, wst_nil, wst_app_nil, wst_app_cons, wst_cons, wst_guard, andThen_normal, andThen_ret, andThen_exit, leave_normal, leave_ret, leave_exit, EndsA_ret, EndsA_normal, ot_move, ot_assign, ot_pick, ot_binOp, ot_unOp, ot_convert, ot_field, ot_index, ot_indexAddr, ot_fieldAddr, ot_slice, ot_build, ot_buildSlice, ot_extract, ot_makeInterface, ot_makeFunc, ot_nilCheck, ot_call, ot_len, ot_append, ot_box, ot_load, ot_store, ot_makeSlice, ct_bool, ct_true, ct_false, bt_some, gt_some, aval_tmp, aval_int, aval_bool, aval_str, aval_slice, aval_nilPointer, aval_nilIface, aval_func, aval_global, avals, apairs, bareP, AV.bare, AV.bares, bin_lss, bin_leq, bin_gtr, bin_geq, bin_eql, bin_neq, bin_add, bin_sub, bin_mul, bin_and, bin_or, bin_xor, toV_int, toV_bool, toV_string, un_neg, un_not, bin_str_eql, bin_str_neq, bin_str_lss, bin_str_leq, bin_str_gtr, bin_str_geq, aget_aput, length_aput, aput_none, Nat.reduceEqDiff, Nat.reduceLT, Nat.reduceAdd, reduceIte, reduceCtorEq, Bool.not_false, Bool.not_true, Bool.true_or, true_and, Option.bind_some, Option.map_some, List.nil_append, List.cons_append, resA, resA1, resVal, Option.getD_some, Nat.reduceLeDiff, bnd_some, yieldA_eq, yldOf_some, boolOf_bool, boolOf_undef, gt_none, List.getElem?_toArray, List.getElem?_cons_succ, List.getElem?_cons_zero, bq_true, bq_false, decide_true, decide_false, Option.toList_none, Option.toList_some, List.head?_cons, List.head?_nil, nb_cfg, cv_some, pm_some, pm_none, plainA_v, plain_bool, plain_int, plain_str, Bool.false_eq_true, if_false]
              refine ⟨1, ?_⟩
              rw [mayB_false hil (.inr ?_)]
              · rfl
              · rw [List.any_eq_true]
                refine ⟨L[j], List.mem_take_iff_getElem.2 ⟨j, by omega, rfl⟩, ?_⟩
                rw [← meet_clash q (hgood j hji)]
                exact q2
            | false =>
              simp -dsimp only [hn, h0, h3, h4, e2, wt_seq, wt_block, wt_region, wt_cond, wt_skip, wt_ret, wt_exit, wst_nil, wst_app_nil, wst_app_cons, wst_cons, wst_guard, andThen_normal, andThen_ret, andThen_exit, leave_normal, leave_ret, leave_exit, EndsA_ret, EndsA_normal, ot_move, ot_assign, ot_pick, ot_binOp, ot_unOp, ot_convert, ot_field, ot_index, ot_indexAddr, ot_fieldAddr, ot_slice, ot_build, ot_buildSlice, ot_extract, ot_makeInterface, ot_makeFunc, ot_nilCheck, ot_call, ot_len, ot_append, ot_box, ot_load, ot_store, ot_makeSlice, ct_bool, ct_true, ct_false, bt_some, gt_some, aval_tmp, aval_int, aval_bool, aval_str, aval_slice, aval_nilPointer, aval_nilIface, aval_func, aval_global, avals, apairs, bareP, AV.bare, AV.bares, bin_lss, bin_leq, bin_gtr, bin_geq, bin_eql, bin_neq, bin_add, bin_sub, bin_mul, bin_and, bin_or, bin_xor, toV_int, toV_bool, toV_string, un_neg, un_not, bin_str_eql, bin_str_neq, bin_str_lss, bin_str_leq, bin_str_gtr, bin_str_geq, aget_aput, length_aput, aput_none, Nat.reduceEqDiff, Nat.reduceLT, Nat.reduceAdd, reduceIte, reduceCtorEq, Bool.not_false, Bool.not_true, Bool.true_or, true_and, Option.bind_some, Option.map_some, List.nil_append, List.cons_append, resA, resA1, resVal, Option.getD_some, Nat.reduceLeDiff, bnd_some, yieldA_eq, yldOf_some, boolOf_bool, boolOf_undef, gt_none, List.getElem?_toArray, List.getElem?_cons_succ, List.getElem?_cons_zero, bq_true, bq_false, decide_true, decide_false, Option.toList_none, Option.toList_some, List.head?_cons, List.head?_nil, nb_cfg, cv_some, pm_some, pm_none, plainA_v, plain_bool, plain_int, plain_str, Bool.false_eq_true, if_false]
              refine ⟨m - 1, by omega, j + 1, by omega, ⟨⟨?_, rfl, ?_, ?_⟩, ?_⟩, fun n hn hl => ?_⟩
              any_goals simp -dsimp only [hn, h0, h3, h4, wt_seq, wt_block, wt_region, wt_cond, wt_skip, wt_ret, wt_exit, wst_nil, wst_app_nil, wst_app_cons, wst_cons, wst_guard, andThen_normal, andThen_ret, andThen_exit, leave_normal, leave_ret, leave_exit, EndsA_ret, EndsA_normal, ot_move, ot_assign, ot_pick, ot_binOp, ot_unOp, ot_convert, ot_field, ot_index, ot_indexAddr, ot_fieldAddr, ot_slice, ot_build, ot_buildSlice, ot_extract, ot_makeInterface, ot_makeFunc, ot_nilCheck, ot_call, ot_len, ot_append, ot_box, ot_load, ot_store, ot_makeSlice, ct_bool, ct_true, ct_false, bt_some, gt_some, aval_tmp, aval_int, aval_bool, aval_str, aval_slice, aval_nilPointer, aval_nilIface, aval_func, aval_global, avals, apairs, bareP, AV.bare, AV.bares, bin_lss, bin_leq, bin_gtr, bin_geq, bin_eql, bin_neq, bin_add, bin_sub, bin_mul, bin_and, bin_or, bin_xor, toV_int, toV_bool, toV_string, un_neg, un_not, bin_str_eql, bin_str_neq, bin_str_lss, bin_str_leq, bin_str_gtr, bin_str_geq, aget_aput, length_aput, aput_none, Nat.reduceEqDiff, Nat.reduceLT, Nat.reduceAdd, reduceIte, reduceCtorEq, Bool.not_false, Bool.not_true, Bool.true_or, true_and, Option.bind_some, Option.map_some, List.nil_append, List.cons_append, resA, resA1, resVal, Option.getD_some, Nat.reduceLeDiff, bnd_some, yieldA_eq, yldOf_some, boolOf_bool, boolOf_undef, gt_none, List.getElem?_toArray, List.getElem?_cons_succ, List.getElem?_cons_zero, bq_true, bq_false, decide_true, decide_false, Option.toList_none, Option.toList_some, List.head?_cons, List.head?_nil, nb_cfg, cv_some, pm_some, pm_none, plainA_v, plain_bool, plain_int, plain_str, Bool.false_eq_true, if_false]
              rcases Nat.lt_succ_iff_lt_or_eq.1 hn with hn | rfl
              · exact hno n hn hl
              · exact q2
          · have hd2 : decide ((j : Int) < (i : Int)) = false := decide_eq_false (by omega)
            simp -dsimp only [hn, h0, h3, h4, hd2, e1, wt_seq, wt_block, wt_region, wt_cond, wt_skip, wt_ret, wt_exit, wst_nil, wst_app_nil, wst_app_cons, wst_cons, wst_guard, andThen_normal, andThen_ret, andThen_exit, leave_normal, leave_ret, leave_exit, EndsA_ret, EndsA_normal, ot_move, ot_assign, ot_pick, ot_binOp, ot_unOp, ot_convert, ot_field, ot_index, ot_indexAddr, ot_fieldAddr, ot_slice, ot_build, ot_buildSlice, ot_extract, ot_makeInterface, ot_makeFunc, ot_nilCheck, ot_call, ot_len, ot_append, ot_box, ot_load, ot_store, ot_makeSlice, ct_bool, ct_true, ct_false, bt_some, gt_some, aval_tmp, aval_int, aval_bool, aval_str, aval_slice, aval_nilPointer, aval_nilIface, aval_func, aval_global, avals, apairs, bareP, AV.bare, AV.bares, bin_lss, bin_leq, bin_gtr, bin_geq, bin_eql, bin_neq, bin_add, bin_sub, bin_mul, bin_and, bin_or, bin_xor, toV_int, toV_bool, toV_string, un_neg, un_not, bin_str_eql, bin_str_neq, bin_str_lss, bin_str_leq, bin_str_gtr, bin_str_geq, aget_aput, length_aput, aput_none, Nat.reduceEqDiff, Nat.reduceLT, Nat.reduceAdd, reduceIte, reduceCtorEq, Bool.not_false, Bool.not_true, Bool.true_or, true_and, Option.bind_some, Option.map_some, List.nil_append, List.cons_append, resA, resA1, resVal, Option.getD_some, Nat.reduceLeDiff, bnd_some, yieldA_eq, yldOf_some, boolOf_bool, boolOf_undef, gt_none, List.getElem?_toArray, List.getElem?_cons_succ, List.getElem?_cons_zero, bq_true, bq_false, decide_true, decide_false, Option.toList_none, Option.toList_some, List.head?_cons, List.head?_nil, nb_cfg, cv_some, pm_some, pm_none, plainA_v, plain_bool, plain_int, plain_str, Bool.false_eq_true, if_false]
            refine ⟨m + (L.length - i) - 1, by omega, i + 1, by omega, ⟨?_, rfl, ?_, ?_⟩, ?_⟩
            any_goals simp -dsimp only [hn, h0, h3, h4, wt_seq, wt_block, wt_region, wt_cond, wt_skip, wt_ret, wt_exit, wst_nil, wst_app_nil, wst_app_cons, wst_cons, wst_guard, andThen_normal, andThen_ret, andThen_exit, leave_normal, leave_ret, leave_exit, EndsA_ret, EndsA_normal, ot_move, ot_assign, ot_pick, ot_binOp, ot_unOp, ot_convert, ot_field, ot_index, ot_indexAddr, ot_fieldAddr, ot_slice, ot_build, ot_buildSlice, ot_extract, ot_makeInterface, ot_makeFunc, ot_nilCheck, ot_call, ot_len, ot_append, ot_box, ot_load, ot_store, ot_makeSlice, ct_bool, ct_true, ct_false, bt_some, gt_some, aval_tmp, aval_int, aval_bool, aval_str, aval_slice, aval_nilPointer, aval_nilIface, aval_func, aval_global, avals, apairs, bareP, AV.bare, AV.bares, bin_lss, bin_leq, bin_gtr, bin_geq, bin_eql, bin_neq, bin_add, bin_sub, bin_mul, bin_and, bin_or, bin_xor, toV_int, toV_bool, toV_string, un_neg, un_not, bin_str_eql, bin_str_neq, bin_str_lss, bin_str_leq, bin_str_gtr, bin_str_geq, aget_aput, length_aput, aput_none, Nat.reduceEqDiff, Nat.reduceLT, Nat.reduceAdd, reduceIte, reduceCtorEq, Bool.not_false, Bool.not_true, Bool.true_or, true_and, Option.bind_some, Option.map_some, List.nil_append, List.cons_append, resA, resA1, resVal, Option.getD_some, Nat.reduceLeDiff, bnd_some, yieldA_eq, yldOf_some, boolOf_bool, boolOf_undef, gt_none, List.getElem?_toArray, List.getElem?_cons_succ, List.getElem?_cons_zero, bq_true, bq_false, decide_true, decide_false, Option.toList_none, Option.toList_some, List.head?_cons, List.head?_nil, nb_cfg, cv_some, pm_some, pm_none, plainA_v, plain_bool, plain_int, plain_str, Bool.false_eq_true, if_false]
            intro n hn hl
            rcases Nat.lt_succ_iff_lt_or_eq.1 hn with hn | rfl
            · exact hto n hn hl
            · refine ⟨q, ?_⟩
              rw [List.any_eq_false]
              intro p hp
              obtain ⟨a, ha, rfl⟩ := List.mem_take_iff_getElem.1 hp
              have han : a < n := by omega
              rw [← meet_clash q (hgood a han), hno a (by omega) (by omega)]
              decide
        · refine ⟨0, Nat.zero_add _, ⟨⟨?_, rfl, ?_, ?_⟩, ?_⟩, fun n hn => absurd hn (Nat.not_lt_zero _)⟩
          any_goals simp -dsimp only [hn, h0, h3, wt_seq, wt_block, wt_region, wt_cond, wt_skip, wt_ret, wt_exit, wst_nil, wst_app_nil, wst_app_cons, wst_cons, wst_guard, andThen_normal, andThen_ret, andThen_exit, leave_normal, leave_ret, leave_exit, EndsA_ret, EndsA_normal, ot_move, ot_assign, ot_pick, ot_binOp, ot_unOp, ot_convert, ot_field, ot_index, ot_indexAddr, ot_fieldAddr, ot_slice, ot_build, ot_buildSlice, ot_extract, ot_makeInterface, ot_makeFunc, ot_nilCheck, ot_call, ot_len, ot_append, ot_box, ot_load, ot_store, ot_makeSlice, ct_bool, ct_true, ct_false, bt_some, gt_some, aval_tmp, aval_int, aval_bool, aval_str, aval_slice, aval_nilPointer, aval_nilIface, aval_func, aval_global, avals, apairs, bareP, AV.bare, AV.bares, bin_lss, bin_leq, bin_gtr, bin_geq, bin_eql, bin_neq, bin_add, bin_sub, bin_mul, bin_and, bin_or, bin_xor, toV_int, toV_bool, toV_string, un_neg, un_not, bin_str_eql, bin_str_neq, bin_str_lss, bin_str_leq, bin_str_gtr, bin_str_geq, aget_aput, length_aput, aput_none, Nat.reduceEqDiff, Nat.reduceLT, Nat.reduceAdd, reduceIte, reduceCtorEq, Bool.not_false, Bool.not_true, Bool.true_or, true_and, Option.bind_some, Option.map_some, List.nil_append, List.cons_append, resA, resA1, resVal, Option.getD_some, Nat.reduceLeDiff, bnd_some, yieldA_eq, yldOf_some, boolOf_bool, boolOf_undef, gt_none, List.getElem?_toArray, List.getElem?_cons_succ, List.getElem?_cons_zero, bq_true, bq_false, decide_true, decide_false, Option.toList_none, Option.toList_some, List.head?_cons, List.head?_nil, nb_cfg, cv_some, pm_some, pm_none, plainA_v, plain_bool, plain_int, plain_str, Bool.false_eq_true, if_false]
          rfl
    · have hd : decide ((i : Int) < ((L.length : Nat) : Int)) = false := decide_eq_false (by omega)
      simp -dsimp only [hn, h0, h3, lenK hr.el, hlen, hd, wt_seq, wt_block, wt_region, wt_cond, wt_skip, wt_ret, wt_exit, wst_nil, wst_app_nil, wst_app_cons, wst_cons, wst_guard, andThen_normal, andThen_ret, andThen_exit, leave_normal, leave_ret, leave_exit, EndsA_ret, EndsA_normal, ot_move, ot_assign, ot_pick, ot_binOp, ot_unOp, ot_convert, ot_field, ot_index, ot_indexAddr, ot_fieldAddr, ot_slice, ot_build, ot_buildSlice, ot_extract, ot_makeInterface, ot_makeFunc, ot_nilCheck, ot_call, ot_len, ot_append, ot_box, ot_load, ot_store, ot_makeSlice, ct_bool, ct_true, ct_false, bt_some, gt_some, aval_tmp, aval_int, aval_bool, aval_str, aval_slice, aval_nilPointer, aval_nilIface, aval_func, aval_global, avals, apairs, bareP, AV.bare, AV.bares, bin_lss, bin_leq, bin_gtr, bin_geq, bin_eql, bin_neq, bin_add, bin_sub, bin_mul, bin_and, bin_or, bin_xor, toV_int, toV_bool, toV_string, un_neg, un_not, bin_str_eql, bin_str_neq, bin_str_lss, bin_str_leq, bin_str_gtr, bin_str_geq, aget_aput, length_aput, aput_none, Nat.reduceEqDiff, Nat.reduceLT, Nat.reduceAdd, reduceIte, reduceCtorEq, Bool.not_false, Bool.not_true, Bool.true_or, true_and, Option.bind_some, Option.map_some, List.nil_append, List.cons_append, resA, resA1, resVal, Option.getD_some, Nat.reduceLeDiff, bnd_some, yieldA_eq, yldOf_some, boolOf_bool, boolOf_undef, gt_none, List.getElem?_toArray, List.getElem?_cons_succ, List.getElem?_cons_zero, bq_true, bq_false, decide_true, decide_false, Option.toList_none, Option.toList_some, List.head?_cons, List.head?_nil, nb_cfg, cv_some, pm_some, pm_none, plainA_v, plain_bool, plain_int, plain_str, Bool.false_eq_true, if_false]
      refine ⟨1, ?_⟩
      have : i = L.length := by omega
      subst this
      rw [mayB_true hto]
      rfl
  · refine ⟨0, Nat.zero_add _, ⟨?_, rfl, ?_, ?_⟩, fun j hj => absurd hj (Nat.not_lt_zero _)⟩
    any_goals simp -dsimp only [hn, h0, wt_seq, wt_block, wt_region, wt_cond, wt_skip, wt_ret, wt_exit, wst_nil, wst_app_nil, wst_app_cons, wst_cons, wst_guard, andThen_normal, andThen_ret, andThen_exit, leave_normal, leave_ret, leave_exit, EndsA_ret, EndsA_normal, ot_move, ot_assign, ot_pick, ot_binOp, ot_unOp, ot_convert, ot_field, ot_index, ot_indexAddr, ot_fieldAddr, ot_slice, ot_build, ot_buildSlice, ot_extract, ot_makeInterface, ot_makeFunc, ot_nilCheck, ot_call, ot_len, ot_append, ot_box, ot_load, ot_store, ot_makeSlice, ct_bool, ct_true, ct_false, bt_some, gt_some, aval_tmp, aval_int, aval_bool, aval_str, aval_slice, aval_nilPointer, aval_nilIface, aval_func, aval_global, avals, apairs, bareP, AV.bare, AV.bares, bin_lss, bin_leq, bin_gtr, bin_geq, bin_eql, bin_neq, bin_add, bin_sub, bin_mul, bin_and, bin_or, bin_xor, toV_int, toV_bool, toV_string, un_neg, un_not, bin_str_eql, bin_str_neq, bin_str_lss, bin_str_leq, bin_str_gtr, bin_str_geq, aget_aput, length_aput, aput_none, Nat.reduceEqDiff, Nat.reduceLT, Nat.reduceAdd, reduceIte, reduceCtorEq, Bool.not_false, Bool.not_true, Bool.true_or, true_and, Option.bind_some, Option.map_some, List.nil_append, List.cons_append, resA, resA1, resVal, Option.getD_some, Nat.reduceLeDiff, bnd_some, yieldA_eq, yldOf_some, boolOf_bool, boolOf_undef, gt_none, List.getElem?_toArray, List.getElem?_cons_succ, List.getElem?_cons_zero, bq_true, bq_false, decide_true, decide_false, Option.toList_none, Option.toList_some, List.head?_cons, List.head?_nil, nb_cfg, cv_some, pm_some, pm_none, plainA_v, plain_bool, plain_int, plain_str, Bool.false_eq_true, if_false]
    rfl
end Go.Proofs.Ytonmpbfddiflhaa

/- Keys: the document's Find; alike; Clone, Copy. -/
namespace Go.Proofs.Ytonmpbfddiflhaa
open Go.AM
section
variable {prim : FuncId → Option (List AV → Option AV)}
theorem allocKH {H : Hp} : allocA (cfgP prim) 28 false H = some (.ptr H.blks.length 0 0 0, { H with blks := H.blks ++ [⟨0, 5, [zeroK]⟩] }, 2) := by
  have hz : zeroA (cfgP prim) 28 = some zeroK := by kernel_rfl
  have hf : zeroK.cells.all AV.flat = true := rfl
  simp only [allocA, hz, Option.bind_some, hf, if_true, Bool.false_eq_true, if_false]
  rfl
theorem storeKH {H : Hp} {k : KeyA} (hf : ([str k.sv, str k.id, k.p, .v (.int .i64 k.f), .v (.int .i64 k.u)] : List AV).all AV.flat = true) : storeA (cfgP prim) 28 H.blks.length 0 0 0 (.agg [str k.sv, str k.id, k.p, .v (.int .i64 k.f), .v (.int .i64 k.u)]) { H with blks := H.blks ++ [⟨0, 5, [zeroK]⟩] } = some { H with blks := H.blks ++ [⟨0, 5, [k.av]⟩] } := by
  have h1 : ({ H with blks := H.blks ++ [⟨0, 5, [zeroK]⟩] } : Hp).blks[H.blks.length]? = some ⟨0, 5, [.agg [str [], str [], .v (.slice none 0 0), .v (.int .i64 0), .v (.int .i64 0)]]⟩ := by
    simp [zeroK]
  rw [store_all (x := [str k.sv, str k.id, k.p, .v (.int .i64 k.f), .v (.int .i64 k.u)]) h1 (by kernel_rfl) rfl hf]
  congr 1
  simp [KeyA.av]
theorem blkKH {H : Hp} {k : KeyA} : blkAt ({ H with blks := H.blks ++ [⟨0, 5, [k.av]⟩] } : Hp) H.blks.length 0 = some ⟨0, 5, [.agg [str k.sv, str k.id, k.p, .v (.int .i64 k.f), .v (.int .i64 k.u)]]⟩ := by
  refine blkAt_of ?_ rfl
  simp [KeyA.av]
theorem app26n {y : AV} {l : List UInt8} (hy : elems y = some (byts l)) (hne : l ≠ []) (hl : l.length < 2 ^ 40) {H : Hp} : appA (cfgP prim) #[26, 26] [.cl true [], y] H = some (.ap H.toks.length (byts l), { H with toks := H.toks ++ [(l.length, 5)] }) := by
  have := appA_new (C := cfgP prim) (ts := #[26, 26]) (e := 5) (t1 := 5) (n := 0) (k := 1) (z := .v (.int .u8 0)) (by kernel_rfl) (by kernel_rfl) (by kernel_rfl) (by kernel_rfl) rfl (by kernel_rfl) hy (by simp [byts, hne]) (sized_by l) (by simp [byts]; omega) (H := H)
  rw [this]
  simp [byts]
theorem bs26 : buildSliceA (cfgP prim) 26 0 [] = some (.cl true []) := by kernel_rfl
end
structure rfI (r : AV) (sv id : List UInt8) (ts : Int) (i : Nat) (e : Env) (h : Hp) : Prop where
  len : e.length = 52
  hp : h.toks = []
  a0 : aget e 0 = r
  a1 : aget e 1 = str sv
  a2 : aget e 2 = str id
  a3 : aget e 3 = .v (.int .i64 ts)
  a10 : aget e 10 = .v (.int .i64 i)
set_option maxHeartbeats 4000000 in
theorem rfind_ok (r : AV) (L : List KL) (sv id : List UInt8) (ts : Int) (hr : Ring r L) (hL : L.length < 2 ^ 62) (hs : ∀ p ∈ L, smK p) : PureOk (cfgP kr1) 13 [r, str sv, str id, .v (.int .i64 ts)] (findV (findO L sv id ts)) := by
  have hlen : (L.map fun p => p.1.av).length = L.length := by simp
  refine pure_of_wk (call := noCall) (fn := Try.f13) (rs := [.tmp 8, .tmp 9]) kr1_ok noCall_ok (fns_cfg Try.func13 rfl) rfl rfl ?_
  intro env hl0 hargs
  have hn : env.length = 52 := hl0
  have h0 := hargs 0 _ rfl
  have h1 := hargs 1 _ rfl
  have h2 := hargs 2 _ rfl
  have h3 := hargs 3 _ rfl
  clear hargs hl0
  refine wkT_of ?_
  simp -dsimp only [hn, h0, h1, h2, h3, wt_seq, wt_block, wt_region, wt_cond, wt_skip, wt_ret, wt_exit, wst_nil, wst_app_nil, wst_app_cons, wst_cons, wst_guard, andThen_normal, andThen_ret, andThen_exit, leave_normal, leave_ret, leave_exit, EndsA_ret, EndsA_normal, ot_move, ot_assign, ot_pick, ot_binOp, ot_unOp, ot_convert, ot_field, ot_index, ot_indexAddr, ot_fieldAddr, ot_slice, ot_build, ot_buildSlice, ot_extract, ot_makeInterface, ot_makeFunc, ot_nilCheck, ot_call, ot_len, ot_append, ot_box, ot_load, ot_store, ot_makeSlice, ct_bool, ct_true, ct_false, bt_some, gt_some, aval_tmp, aval_int, aval_bool, aval_str, aval_slice, aval_nilPointer, aval_nilIface, aval_func, aval_global, avals, apairs, bareP, AV.bare, AV.bares, bin_lss, bin_leq, bin_gtr, bin_geq, bin_eql, bin_neq, bin_add, bin_sub, bin_mul, bin_and, bin_or, bin_xor, toV_int, toV_bool, toV_string, un_neg, un_not, bin_str_eql, bin_str_neq, bin_str_lss, bin_str_leq, bin_str_gtr, bin_str_geq, aget_aput, length_aput, aput_none, Nat.reduceEqDiff, Nat.reduceLT, Nat.reduceAdd, reduceIte, reduceCtorEq, Bool.not_false, Bool.not_true, Bool.true_or, true_and, Option.bind_some, Option.map_some, List.nil_append, List.cons_append, resA, resA1, resVal, Option.getD_some, Nat.reduceLeDiff, bnd_some, yieldA_eq, yldOf_some, boolOf_bool, boolOf_undef, gt_none, List.getElem?_toArray, List.getElem?_cons_succ, List.getElem?_cons_zero, bq_true, bq_false, decide_true, decide_false, Option.toList_none, Option.toList_some, List.head?_cons, List.head?_nil, nb_cfg, cv_some, pm_some, pm_none, plainA_v, plain_bool, plain_int, plain_str, Bool.false_eq_true, if_false]
  refine wt_loop (m := L.length) (fun m e h => ∃ i, i + m = L.length ∧ rfI r sv id ts i e h ∧ ∀ p ∈ L.take i, foundB p.1 p.2 sv id ts = false) ?_ ?_
  · rintro m e H ⟨i, hi, ⟨hn, hH, h0, h1, h2, h3, h10⟩, hno⟩
    by_cases hil : i < L.length
    · have hd : decide ((i : Int) < ((L.length : Nat) : Int)) = true := decide_eq_true (by omega)
      have e1 : IntKind.i64.wrap ((i : Int) + 1) = ((i + 1 : Nat) : Int) := wr64 (by omega) (by omega)
      have hsm := hs L[i] (List.getElem_mem hil)
      have hpi := (pubOf_ok hsm.1).2.1
      have hgd := rgdP_eq L[i] hsm
      unfold KeyA.av at hgd
      have hfl := KeyA.flat (pubOf_ok hsm.1)
      have hro : (cfgP kr1).roBox 13 11 = false := rfl
      have hst := storeKH (prim := kr1) (H := H) hfl
      have hbk := blkKH (H := H) (k := L[i].1)
      have hfb : (((goodB L[i].1 L[i].2 && decide (L[i].1.sv = sv)) && decide (L[i].1.id = id)) && decide (L[i].1.f ≤ ts) && decide (ts ≤ L[i].1.u)) = foundB L[i].1 L[i].2 sv id ts := by
        unfold foundB KeyA.has
        simp only [Bool.and_assoc]
      simp -dsimp only [hn, h0, h1, h2, h3, h10, lenK hr.el, hlen, hd, idxA hr hil, AV.cells, ptK, ot_alloc, hro, allocKH, hst, hbk, ct_prim kr1_15, bare_s, hpi, hgd, wt_seq, wt_block, wt_region, wt_cond, wt_skip, wt_ret, wt_exit, wst_nil, wst_app_nil, wst_app_cons, wst_cons, wst_guard, andThen_normal, andThen_ret, andThen_exit, leave_normal, leave_ret, leave_exit, EndsA_ret, EndsA_normal, ot_move, ot_assign, ot_pick, ot_binOp, ot_unOp, ot_convert, ot_field, ot_index, ot_indexAddr, ot_fieldAddr, ot_slice, ot_build, ot_buildSlice, ot_extract, ot_makeInterface, ot_makeFunc, ot_nilCheck, ot_call, ot_len, ot_append, ot_box, ot_load, ot_store, ot_makeSlice, ct_bool, ct_true, ct_false, bt_some, gt_some, aval_tmp, aval_int, aval_bool, aval_str, aval_slice, aval_nilPointer, aval_nilIface, aval_func, aval_global, avals, apairs, bareP, AV.bare, AV.bares, bin_lss, bin_leq, bin_gtr, bin_geq, bin_eql, bin_neq, bin_add, bin_sub, bin_mul, bin_and, bin_or, bin_xor, toV_int, toV_bool, toV_string, un_neg, un_not, bin_str_eql, bin_str_neq, bin_str_lss, bin_str_leq, bin_str_gtr, bin_str_geq, aget_aput, length_aput, aput_none, Nat.reduceEqDiff, Nat.reduceLT, Nat.reduceAdd, reduceIte, reduceCtorEq, Bool.not_false, Bool.not_true, Bool.true_or, true_and, Option.bind_some, Option.map_some, List.nil_append, List.cons_append, resA, resA1, resVal, Option.getD_some, Nat.reduceLeDiff, bnd_some, yieldA_eq, yldOf_some, boolOf_bool, boolOf_undef, gt_none, List.getElem?_toArray, List.getElem?_cons_succ, List.getElem?_cons_zero, bq_true, bq_false, decide_true, decide_false, Option.toList_none, Option.toList_some, List.head?_cons, List.head?_nil, nb_cfg, cv_some, pm_some, pm_none, plainA_v, plain_bool, plain_int, plain_str, Bool.false_eq_true, if_false]
      repeat (apply gm_step; (case h1 => intro hg; (try simp only [Bool.and_eq_true, Bool.not_eq_true', Bool.or_eq_false_iff, Bool.not_or, Bool.not_not] at hg); simp -dsimp only [hn, h0, h1, h2, h3, h10, hbk, faP0, faP1, faP3, faP4, AV.cells, pt9, pt2, Nat.zero_add, hg, Bool.and_true, Bool.true_and, Bool.or_false, Bool.not_false, Bool.not_true, pk_or, pk_and, pk_and', pk_or', wt_seq, wt_block, wt_region, wt_cond, wt_skip, wt_ret, wt_exit, wst_nil, wst_app_nil, wst_app_cons, wst_cons, wst_guard, andThen_normal, andThen_ret, andThen_exit, leave_normal, leave_ret, leave_exit, EndsA_ret, EndsA_normal, ot_move, ot_assign, ot_pick, ot_binOp, ot_unOp, ot_convert, ot_field, ot_index, ot_indexAddr, ot_fieldAddr, ot_slice, ot_build, ot_buildSlice, ot_extract, ot_makeInterface, ot_makeFunc, ot_nilCheck, ot_call, ot_len, ot_append, ot_box, ot_load, ot_store, ot_makeSlice, ct_bool, ct_true, ct_false, bt_some, gt_some, aval_tmp, aval_int, aval_bool, aval_str, aval_slice, aval_nilPointer, aval_nilIface, aval_func, aval_global, avals, apairs, bareP, AV.bare, AV.bares, bin_lss, bin_leq, bin_gtr, bin_geq, bin_eql, bin_neq, bin_add, bin_sub, bin_mul, bin_and, bin_or, bin_xor, toV_int, toV_bool, toV_string, un_neg, un_not, bin_str_eql, bin_str_neq, bin_str_lss, bin_str_leq, bin_str_gtr, bin_str_geq, aget_aput, length_aput, aput_none, Nat.reduceEqDiff, Nat.reduceLT, Nat.reduceAdd, reduceIte, reduceCtorEq, Bool.not_false, Bool.not_true, Bool.true_or, true_and, Option.bind_some, Option.map_some, List.nil_append, List.cons_append, resA, resA1, resVal, Option.getD_some, Nat.reduceLeDiff, bnd_some, yieldA_eq, yldOf_some, boolOf_bool, boolOf_undef, gt_none, List.getElem?_toArray, List.getElem?_cons_succ, List.getElem?_cons_zero, bq_true, bq_false, decide_true, decide_false, Option.toList_none, Option.toList_some, List.head?_cons, List.head?_nil, nb_cfg, cv_some, pm_some, pm_none, plainA_v, plain_bool, plain_int, plain_str, Bool.false_eq_true, if_false]; exact ⟨rfl, rfl, rfl⟩); (try simp -dsimp only [hn, h0, h1, h2, h3, h10, hbk, faP0, faP1, faP3, faP4, AV.cells, pt9, pt2, Nat.zero_add, pk_and, pk_or, pk_and', pk_or', gt_ite, ite_self, wt_seq, wt_block, wt_region, wt_cond, wt_skip, wt_ret, wt_exit, wst_nil, wst_app_nil, wst_app_cons, wst_cons, wst_guard, andThen_normal, andThen_ret, andThen_exit, leave_normal, leave_ret, leave_exit, EndsA_ret, EndsA_normal, ot_move, ot_assign, ot_pick, ot_binOp, ot_unOp, ot_convert, ot_field, ot_index, ot_indexAddr, ot_fieldAddr, ot_slice, ot_build, ot_buildSlice, ot_extract, ot_makeInterface, ot_makeFunc, ot_nilCheck, ot_call, ot_len, ot_append, ot_box, ot_load, ot_store, ot_makeSlice, ct_bool, ct_true, ct_false, bt_some, gt_some, aval_tmp, aval_int, aval_bool, aval_str, aval_slice, aval_nilPointer, aval_nilIface, aval_func, aval_global, avals, apairs, bareP, AV.bare, AV.bares, bin_lss, bin_leq, bin_gtr, bin_geq, bin_eql, bin_neq, bin_add, bin_sub, bin_mul, bin_and, bin_or, bin_xor, toV_int, toV_bool, toV_string, un_neg, un_not, bin_str_eql, bin_str_neq, bin_str_lss, bin_str_leq, bin_str_gtr, bin_str_geq, aget_aput, length_aput, aput_none, Nat.reduceEqDiff, Nat.reduceLT, Nat.reduceAdd, reduceIte, reduceCtorEq, Bool.not_false, Bool.not_true, Bool.true_or, true_and, Option.bind_some, Option.map_some, List.nil_append, List.cons_append, resA, resA1, resVal, Option.getD_some, Nat.reduceLeDiff, bnd_some, yieldA_eq, yldOf_some, boolOf_bool, boolOf_undef, gt_none, List.getElem?_toArray, List.getElem?_cons_succ, List.getElem?_cons_zero, bq_true, bq_false, decide_true, decide_false, Option.toList_none, Option.toList_some, List.head?_cons, List.head?_nil, nb_cfg, cv_some, pm_some, pm_none, plainA_v, plain_bool, plain_int, plain_str, Bool.false_eq_true, if_false]))
      rw [hfb]
      cases q : foundB L[i].1 L[i].2 sv id ts with
      | true =>
        have h32 : L[i].2.length = 32 := by
          unfold foundB goodB at q
          simp only [Bool.and_eq_true, decide_eq_true_eq] at q
          omega
        have hne : L[i].2 ≠ [] := by
          intro h
          rw [h] at h32
          cases h32
        have hp := (pubOf_ok hsm.1).1
        simp -dsimp only [hn, h0, h1, h2, h3, h10, hbk, faP2, AV.cells, pt26, Nat.zero_add, bs26, app26n hp hne (by omega), wt_seq, wt_block, wt_region, wt_cond, wt_skip, wt_ret, wt_exit, wst_nil, wst_app_nil, wst_app_cons, wst_cons, wst_guard, andThen_normal, andThen_ret, andThen_exit, leave_normal, leave_ret, leave_exit, EndsA_ret, EndsA_normal, ot_move, ot_assign, ot_pick, ot_binOp, ot_unOp, ot_convert, ot_field, ot_index, ot_indexAddr, ot_fieldAddr, ot_slice, ot_build, ot_buildSlice, ot_extract, ot_makeInterface, ot_makeFunc, ot_nilCheck, ot_call, ot_len, ot_append, ot_box, ot_load, ot_store, ot_makeSlice, ct_bool, ct_true, ct_false, bt_some, gt_some, aval_tmp, aval_int, aval_bool, aval_str, aval_slice, aval_nilPointer, aval_nilIface, aval_func, aval_global, avals, apairs, bareP, AV.bare, AV.bares, bin_lss, bin_leq, bin_gtr, bin_geq, bin_eql, bin_neq, bin_add, bin_sub, bin_mul, bin_and, bin_or, bin_xor, toV_int, toV_bool, toV_string, un_neg, un_not, bin_str_eql, bin_str_neq, bin_str_lss, bin_str_leq, bin_str_gtr, bin_str_geq, aget_aput, length_aput, aput_none, Nat.reduceEqDiff, Nat.reduceLT, Nat.reduceAdd, reduceIte, reduceCtorEq, Bool.not_false, Bool.not_true, Bool.true_or, true_and, Option.bind_some, Option.map_some, List.nil_append, List.cons_append, resA, resA1, resVal, Option.getD_some, Nat.reduceLeDiff, bnd_some, yieldA_eq, yldOf_some, boolOf_bool, boolOf_undef, gt_none, List.getElem?_toArray, List.getElem?_cons_succ, List.getElem?_cons_zero, bq_true, bq_false, decide_true, decide_false, Option.toList_none, Option.toList_some, List.head?_cons, List.head?_nil, nb_cfg, cv_some, pm_some, pm_none, plainA_v, plain_bool, plain_int, plain_str, Bool.false_eq_true, if_false]
        have hfo : findO L sv id ts = some L[i].2 := by
          unfold findO
          have : L.find? (fun p => foundB p.1 p.2 sv id ts) = some L[i] := by
            rw [List.find?_eq_bind_findIdx?_getElem?]
            have : L.findIdx? (fun p => foundB p.1 p.2 sv id ts) = some i := by
              rw [List.findIdx?_eq_some_iff_getElem]
              refine ⟨hil, q, fun j hj => ?_⟩
              rw [hno L[j] (List.mem_take_iff_getElem.2 ⟨j, by omega, rfl⟩)]
              decide
            rw [this]
            simp [hil]
          rw [this]
          rfl
        rw [hfo]
        exact ⟨5, rfl⟩
      | false =>
        simp -dsimp only [hn, h0, h1, h2, h3, h10, e1, wt_seq, wt_block, wt_region, wt_cond, wt_skip, wt_ret, wt_exit, wst_nil, wst_app_nil, wst_app_cons, wst_cons, wst_guard, andThen_normal, andThen_ret, andThen_exit, leave_normal, leave_ret, leave_exit, EndsA_ret, EndsA_normal, ot_move, ot_assign, ot_pick, ot_binOp, ot_unOp, ot_convert, ot_field, ot_index, ot_indexAddr, ot_fieldAddr, ot_slice, ot_build, ot_buildSlice, ot_extract, ot_makeInterface, ot_makeFunc, ot_nilCheck, ot_call, ot_len, ot_append, ot_box, ot_load, ot_store, ot_makeSlice, ct_bool, ct_true, ct_false, bt_some, gt_some, aval_tmp, aval_int, aval_bool, aval_str, aval_slice, aval_nilPointer, aval_nilIface, aval_func, aval_global, avals, apairs, bareP, AV.bare, AV.bares, bin_lss, bin_leq, bin_gtr, bin_geq, bin_eql, bin_neq, bin_add, bin_sub, bin_mul, bin_and, bin_or, bin_xor, toV_int, toV_bool, toV_string, un_neg, un_not, bin_str_eql, bin_str_neq, bin_str_lss, bin_str_leq, bin_str_gtr, bin_str_geq, aget_aput, length_aput, aput_none, Nat.reduceEqDiff, Nat.reduceLT, Nat.reduceAdd, reduceIte, reduceCtorEq, Bool.not_false, Bool.not_true, Bool.true_or, true_and, Option.bind_some, Option.map_some, List.nil_append, List.cons_append, resA, resA1, resVal, Option.getD_some, Nat.reduceLeDiff, bnd_some, yieldA_eq, yldOf_some, boolOf_bool, boolOf_undef, gt_none, List.getElem?_toArray, List.getElem?_cons_succ, List.getElem?_cons_zero, bq_true, bq_false, decide_true, decide_false, Option.toList_none, Option.toList_some, List.head?_cons, List.head?_nil, nb_cfg, cv_some, pm_some, pm_none, plainA_v, plain_bool, plain_int, plain_str, Bool.false_eq_true, if_false]
        refine ⟨m - 1, by omega, i + 1, by omega, ⟨?_, hH, ?_, ?_, ?_, ?_, ?_⟩, fun p hp => ?_⟩
        any_goals simp -dsimp only [hn, h0, h1, h2, h3, h10, wt_seq, wt_block, wt_region, wt_cond, wt_skip, wt_ret, wt_exit, wst_nil, wst_app_nil, wst_app_cons, wst_cons, wst_guard, andThen_normal, andThen_ret, andThen_exit, leave_normal, leave_ret, leave_exit, EndsA_ret, EndsA_normal, ot_move, ot_assign, ot_pick, ot_binOp, ot_unOp, ot_convert, ot_field, ot_index, ot_indexAddr, ot_fieldAddr, ot_slice, ot_build, ot_buildSlice, ot_extract, ot_makeInterface, ot_makeFunc, ot_nilCheck, ot_call, ot_len, ot_append, ot_box, ot_load, ot_store, ot_makeSlice, ct_bool, ct_true, ct_false, bt_some, gt_some, aval_tmp, aval_int, aval_bool, aval_str, aval_slice, aval_nilPointer, aval_nilIface, aval_func, aval_global, avals, apairs, bareP, AV.bare, AV.bares, bin_lss, bin_leq, bin_gtr, bin_geq, bin_eql, bin_neq, bin_add, bin_sub, bin_mul, bin_and, bin_or, bin_xor, toV_int, toV_bool, toV_string, un_neg, un_not, bin_str_eql, bin_str_neq, bin_str_lss, bin_str_leq, bin_str_gtr, bin_str_geq, aget_aput, length_aput, aput_none, Nat.reduceEqDiff, Nat.reduceLT, Nat.reduceAdd, reduceIte, reduceCtorEq, Bool.not_false, Bool.not_true, Bool.true_or, true_and, Option.bind_some, Option.map_some, List.nil_append, List.cons_append, resA, resA1, resVal, Option.getD_some, Nat.reduceLeDiff, bnd_some, yieldA_eq, yldOf_some, boolOf_bool, boolOf_undef, gt_none, List.getElem?_toArray, List.getElem?_cons_succ, List.getElem?_cons_zero, bq_true, bq_false, decide_true, decide_false, Option.toList_none, Option.toList_some, List.head?_cons, List.head?_nil, nb_cfg, cv_some, pm_some, pm_none, plainA_v, plain_bool, plain_int, plain_str, Bool.false_eq_true, if_false]
        rw [List.take_succ_eq_append_getElem hil, List.mem_append, List.mem_singleton] at hp
        rcases hp with hp | rfl
        · exact hno p hp
        · exact q
    · have hd : decide ((i : Int) < ((L.length : Nat) : Int)) = false := decide_eq_false (by omega)
      simp -dsimp only [hn, h0, h1, h2, h3, h10, lenK hr.el, hlen, hd, wt_seq, wt_block, wt_region, wt_cond, wt_skip, wt_ret, wt_exit, wst_nil, wst_app_nil, wst_app_cons, wst_cons, wst_guard, andThen_normal, andThen_ret, andThen_exit, leave_normal, leave_ret, leave_exit, EndsA_ret, EndsA_normal, ot_move, ot_assign, ot_pick, ot_binOp, ot_unOp, ot_convert, ot_field, ot_index, ot_indexAddr, ot_fieldAddr, ot_slice, ot_build, ot_buildSlice, ot_extract, ot_makeInterface, ot_makeFunc, ot_nilCheck, ot_call, ot_len, ot_append, ot_box, ot_load, ot_store, ot_makeSlice, ct_bool, ct_true, ct_false, bt_some, gt_some, aval_tmp, aval_int, aval_bool, aval_str, aval_slice, aval_nilPointer, aval_nilIface, aval_func, aval_global, avals, apairs, bareP, AV.bare, AV.bares, bin_lss, bin_leq, bin_gtr, bin_geq, bin_eql, bin_neq, bin_add, bin_sub, bin_mul, bin_and, bin_or, bin_xor, toV_int, toV_bool, toV_string, un_neg, un_not, bin_str_eql, bin_str_neq, bin_str_lss, bin_str_leq, bin_str_gtr, bin_str_geq, aget_aput, length_aput, aput_none, Nat.reduceEqDiff, Nat.reduceLT, Nat.reduceAdd, reduceIte, reduceCtorEq, Bool.not_false, Bool.not_true, Bool.true_or, true_and, Option.bind_some, Option.map_some, List.nil_append, List.cons_append, resA, resA1, resVal, Option.getD_some, Nat.reduceLeDiff, bnd_some, yieldA_eq, yldOf_some, boolOf_bool, boolOf_undef, gt_none, List.getElem?_toArray, List.getElem?_cons_succ, List.getElem?_cons_zero, bq_true, bq_false, decide_true, decide_false, Option.toList_none, Option.toList_some, List.head?_cons, List.head?_nil, nb_cfg, cv_some, pm_some, pm_none, plainA_v, plain_bool, plain_int, plain_str, Bool.false_eq_true, if_false]
      have hfo : findO L sv id ts = none := by
        unfold findO
        have : L.find? (fun p => foundB p.1 p.2 sv id ts) = none := by
          rw [List.find?_eq_none]
          intro p hp
          rw [hno p (by rw [List.take_of_length_le (by omega)]; exact hp)]
          decide
        rw [this]
        rfl
      rw [hfo]
      exact ⟨5, rfl⟩
  · refine ⟨0, Nat.zero_add _, ⟨?_, rfl, ?_, ?_, ?_, ?_, ?_⟩, fun p hp => by simp at hp⟩
    any_goals simp -dsimp only [hn, h0, h1, h2, h3, wt_seq, wt_block, wt_region, wt_cond, wt_skip, wt_ret, wt_exit, wst_nil, wst_app_nil, wst_app_cons, wst_cons, wst_guard, andThen_normal, andThen_ret, andThen_exit, leave_normal, leave_ret, leave_exit, EndsA_ret, EndsA_normal, ot_move, ot_assign, ot_pick, ot_binOp, ot_unOp, ot_convert, ot_field, ot_index, ot_indexAddr, ot_fieldAddr, ot_slice, ot_build, ot_buildSlice, ot_extract, ot_makeInterface, ot_makeFunc, ot_nilCheck, ot_call, ot_len, ot_append, ot_box, ot_load, ot_store, ot_makeSlice, ct_bool, ct_true, ct_false, bt_some, gt_some, aval_tmp, aval_int, aval_bool, aval_str, aval_slice, aval_nilPointer, aval_nilIface, aval_func, aval_global, avals, apairs, bareP, AV.bare, AV.bares, bin_lss, bin_leq, bin_gtr, bin_geq, bin_eql, bin_neq, bin_add, bin_sub, bin_mul, bin_and, bin_or, bin_xor, toV_int, toV_bool, toV_string, un_neg, un_not, bin_str_eql, bin_str_neq, bin_str_lss, bin_str_leq, bin_str_gtr, bin_str_geq, aget_aput, length_aput, aput_none, Nat.reduceEqDiff, Nat.reduceLT, Nat.reduceAdd, reduceIte, reduceCtorEq, Bool.not_false, Bool.not_true, Bool.true_or, true_and, Option.bind_some, Option.map_some, List.nil_append, List.cons_append, resA, resA1, resVal, Option.getD_some, Nat.reduceLeDiff, bnd_some, yieldA_eq, yldOf_some, boolOf_bool, boolOf_undef, gt_none, List.getElem?_toArray, List.getElem?_cons_succ, List.getElem?_cons_zero, bq_true, bq_false, decide_true, decide_false, Option.toList_none, Option.toList_some, List.head?_cons, List.head?_nil, nb_cfg, cv_some, pm_some, pm_none, plainA_v, plain_bool, plain_int, plain_str, Bool.false_eq_true, if_false]
    rfl
theorem lapp0 {α : Type} {o : α} {l l' : List α} : (List.append (o :: l) l')[0]? = some o := rfl
theorem lappS {α : Type} {o : α} {l l' : List α} {n : Nat} : (List.append (o :: l) l')[n + 1]? = (List.append l l')[n]? := rfl
theorem lappN {α : Type} {l : List α} : List.append [] l = l := rfl
structure saI (r r' : AV) (i : Nat) (e : Env) (h : Hp) : Prop where
  len : e.length = 82
  hp : h = {}
  a0 : aget e 0 = r
  a1 : aget e 1 = r'
  a5 : aget e 5 = .v (.int .i64 i)
set_option maxRecDepth 100000 in
set_option maxHeartbeats 4000000 in
/-- A ring is like itself. -/
theorem same_ok (r r' : AV) (L : List KL) (hr : Ring r L) (hr' : Ring r' L) (hL : L.length < 2 ^ 62) : PureOk (cfgP kr1) 16 [r, r'] (.v (.bool true)) := by
  have hlen : (L.map fun p => p.1.av).length = L.length := by simp
  refine pure_of_wk (call := noCall) (fn := Try.f16) (rs := [.tmp 4]) kr1_ok noCall_ok (fns_cfg Try.func16 rfl) rfl rfl ?_
  intro env hl0 hargs
  have hn : env.length = 82 := hl0
  have h0 := hargs 0 _ rfl
  have h1 := hargs 1 _ rfl
  clear hargs hl0
  refine wkT_of ?_
  simp -dsimp only [hn, h0, h1, lenK hr.el, lenK hr'.el, hlen, eq_self, wt_seq, wt_block, wt_region, wt_cond, wt_skip, wt_ret, wt_exit, wst_nil, wst_app_nil, wst_app_cons, wst_cons, wst_guard, andThen_normal, andThen_ret, andThen_exit, leave_normal, leave_ret, leave_exit, EndsA_ret, EndsA_normal, ot_move, ot_assign, ot_pick, ot_binOp, ot_unOp, ot_convert, ot_field, ot_index, ot_indexAddr, ot_fieldAddr, ot_slice, ot_build, ot_buildSlice, ot_extract, ot_makeInterface, ot_makeFunc, ot_nilCheck, ot_call, ot_len, ot_append, ot_box, ot_load, ot_store, ot_makeSlice, ct_bool, ct_true, ct_false, bt_some, gt_some, aval_tmp, aval_int, aval_bool, aval_str, aval_slice, aval_nilPointer, aval_nilIface, aval_func, aval_global, avals, apairs, bareP, AV.bare, AV.bares, bin_lss, bin_leq, bin_gtr, bin_geq, bin_eql, bin_neq, bin_add, bin_sub, bin_mul, bin_and, bin_or, bin_xor, toV_int, toV_bool, toV_string, un_neg, un_not, bin_str_eql, bin_str_neq, bin_str_lss, bin_str_leq, bin_str_gtr, bin_str_geq, aget_aput, length_aput, aput_none, Nat.reduceEqDiff, Nat.reduceLT, Nat.reduceAdd, reduceIte, reduceCtorEq, Bool.not_false, Bool.not_true, Bool.true_or, true_and, Option.bind_some, Option.map_some, List.nil_append, List.cons_append, resA, resA1, resVal, Option.getD_some, Nat.reduceLeDiff, bnd_some, yieldA_eq, yldOf_some, boolOf_bool, boolOf_undef, gt_none, List.getElem?_toArray, List.getElem?_cons_succ, List.getElem?_cons_zero, bq_true, bq_false, decide_true, decide_false, Option.toList_none, Option.toList_some, List.head?_cons, List.head?_nil, nb_cfg, cv_some, pm_some, pm_none, plainA_v, plain_bool, plain_int, plain_str, Bool.false_eq_true, if_false]
  refine wt_loop (m := L.length) (fun m e h => ∃ i, i + m = L.length ∧ saI r r' i e h) ?_ ?_
  · rintro m e H ⟨i, hi, hn, rfl, h0, h1, h5⟩
    by_cases hil : i < L.length
    · have hd : decide ((i : Int) < ((L.length : Nat) : Int)) = true := decide_eq_true (by omega)
      have e1 : IntKind.i64.wrap ((i : Int) + 1) = ((i + 1 : Nat) : Int) := wr64 (by omega) (by omega)
      have hc := convB (prim := kr1) (pubOf_ok (hr.ok L[i] (List.getElem_mem hil))).1
      simp -dsimp only [hn, h0, h1, h5, lapp0, lappS, lappN, lenK hr.el, lenK hr'.el, hlen, hd, idxA hr hil, idxA hr' hil, faK0, faK1, faK2, faK3, faK4, AV.cells, pt9, pt2, pt26, Nat.zero_add, hc, eq_self, e1, wt_seq, wt_block, wt_region, wt_cond, wt_skip, wt_ret, wt_exit, wst_nil, wst_app_nil, wst_app_cons, wst_cons, wst_guard, andThen_normal, andThen_ret, andThen_exit, leave_normal, leave_ret, leave_exit, EndsA_ret, EndsA_normal, ot_move, ot_assign, ot_pick, ot_binOp, ot_unOp, ot_convert, ot_field, ot_index, ot_indexAddr, ot_fieldAddr, ot_slice, ot_build, ot_buildSlice, ot_extract, ot_makeInterface, ot_makeFunc, ot_nilCheck, ot_call, ot_len, ot_append, ot_box, ot_load, ot_store, ot_makeSlice, ct_bool, ct_true, ct_false, bt_some, gt_some, aval_tmp, aval_int, aval_bool, aval_str, aval_slice, aval_nilPointer, aval_nilIface, aval_func, aval_global, avals, apairs, bareP, AV.bare, AV.bares, bin_lss, bin_leq, bin_gtr, bin_geq, bin_eql, bin_neq, bin_add, bin_sub, bin_mul, bin_and, bin_or, bin_xor, toV_int, toV_bool, toV_string, un_neg, un_not, bin_str_eql, bin_str_neq, bin_str_lss, bin_str_leq, bin_str_gtr, bin_str_geq, aget_aput, length_aput, aput_none, Nat.reduceEqDiff, Nat.reduceLT, Nat.reduceAdd, reduceIte, reduceCtorEq, Bool.not_false, Bool.not_true, Bool.true_or, true_and, Option.bind_some, Option.map_some, List.nil_append, List.cons_append, resA, resA1, resVal, Option.getD_some, Nat.reduceLeDiff, bnd_some, yieldA_eq, yldOf_some, boolOf_bool, boolOf_undef, gt_none, List.getElem?_toArray, List.getElem?_cons_succ, List.getElem?_cons_zero, bq_true, bq_false, decide_true, decide_false, Option.toList_none, Option.toList_some, List.head?_cons, List.head?_nil, nb_cfg, cv_some, pm_some, pm_none, plainA_v, plain_bool, plain_int, plain_str, Bool.false_eq_true, if_false]
      refine ⟨by kernel_rfl, m - 1, by omega, i + 1, by omega, ?_, rfl, ?_, ?_, ?_⟩
      all_goals simp -dsimp only [hn, h0, h1, h5, wt_seq, wt_block, wt_region, wt_cond, wt_skip, wt_ret, wt_exit, wst_nil, wst_app_nil, wst_app_cons, wst_cons, wst_guard, andThen_normal, andThen_ret, andThen_exit, leave_normal, leave_ret, leave_exit, EndsA_ret, EndsA_normal, ot_move, ot_assign, ot_pick, ot_binOp, ot_unOp, ot_convert, ot_field, ot_index, ot_indexAddr, ot_fieldAddr, ot_slice, ot_build, ot_buildSlice, ot_extract, ot_makeInterface, ot_makeFunc, ot_nilCheck, ot_call, ot_len, ot_append, ot_box, ot_load, ot_store, ot_makeSlice, ct_bool, ct_true, ct_false, bt_some, gt_some, aval_tmp, aval_int, aval_bool, aval_str, aval_slice, aval_nilPointer, aval_nilIface, aval_func, aval_global, avals, apairs, bareP, AV.bare, AV.bares, bin_lss, bin_leq, bin_gtr, bin_geq, bin_eql, bin_neq, bin_add, bin_sub, bin_mul, bin_and, bin_or, bin_xor, toV_int, toV_bool, toV_string, un_neg, un_not, bin_str_eql, bin_str_neq, bin_str_lss, bin_str_leq, bin_str_gtr, bin_str_geq, aget_aput, length_aput, aput_none, Nat.reduceEqDiff, Nat.reduceLT, Nat.reduceAdd, reduceIte, reduceCtorEq, Bool.not_false, Bool.not_true, Bool.true_or, true_and, Option.bind_some, Option.map_some, List.nil_append, List.cons_append, resA, resA1, resVal, Option.getD_some, Nat.reduceLeDiff, bnd_some, yieldA_eq, yldOf_some, boolOf_bool, boolOf_undef, gt_none, List.getElem?_toArray, List.getElem?_cons_succ, List.getElem?_cons_zero, bq_true, bq_false, decide_true, decide_false, Option.toList_none, Option.toList_some, List.head?_cons, List.head?_nil, nb_cfg, cv_some, pm_some, pm_none, plainA_v, plain_bool, plain_int, plain_str, Bool.false_eq_true, if_false]
    · have hd : decide ((i : Int) < ((L.length : Nat) : Int)) = false := decide_eq_false (by omega)
      simp -dsimp only [hn, h0, h1, h5, lenK hr.el, lenK hr'.el, hlen, hd, wt_seq, wt_block, wt_region, wt_cond, wt_skip, wt_ret, wt_exit, wst_nil, wst_app_nil, wst_app_cons, wst_cons, wst_guard, andThen_normal, andThen_ret, andThen_exit, leave_normal, leave_ret, leave_exit, EndsA_ret, EndsA_normal, ot_move, ot_assign, ot_pick, ot_binOp, ot_unOp, ot_convert, ot_field, ot_index, ot_indexAddr, ot_fieldAddr, ot_slice, ot_build, ot_buildSlice, ot_extract, ot_makeInterface, ot_makeFunc, ot_nilCheck, ot_call, ot_len, ot_append, ot_box, ot_load, ot_store, ot_makeSlice, ct_bool, ct_true, ct_false, bt_some, gt_some, aval_tmp, aval_int, aval_bool, aval_str, aval_slice, aval_nilPointer, aval_nilIface, aval_func, aval_global, avals, apairs, bareP, AV.bare, AV.bares, bin_lss, bin_leq, bin_gtr, bin_geq, bin_eql, bin_neq, bin_add, bin_sub, bin_mul, bin_and, bin_or, bin_xor, toV_int, toV_bool, toV_string, un_neg, un_not, bin_str_eql, bin_str_neq, bin_str_lss, bin_str_leq, bin_str_gtr, bin_str_geq, aget_aput, length_aput, aput_none, Nat.reduceEqDiff, Nat.reduceLT, Nat.reduceAdd, reduceIte, reduceCtorEq, Bool.not_false, Bool.not_true, Bool.true_or, true_and, Option.bind_some, Option.map_some, List.nil_append, List.cons_append, resA, resA1, resVal, Option.getD_some, Nat.reduceLeDiff, bnd_some, yieldA_eq, yldOf_some, boolOf_bool, boolOf_undef, gt_none, List.getElem?_toArray, List.getElem?_cons_succ, List.getElem?_cons_zero, bq_true, bq_false, decide_true, decide_false, Option.toList_none, Option.toList_some, List.head?_cons, List.head?_nil, nb_cfg, cv_some, pm_some, pm_none, plainA_v, plain_bool, plain_int, plain_str, Bool.false_eq_true, if_false]
      exact ⟨1, rfl⟩
  · refine ⟨0, Nat.zero_add _, ?_, rfl, ?_, ?_, ?_⟩
    any_goals simp -dsimp only [hn, h0, h1, wt_seq, wt_block, wt_region, wt_cond, wt_skip, wt_ret, wt_exit, wst_nil, wst_app_nil, wst_app_cons, wst_cons, wst_guard, andThen_normal, andThen_ret, andThen_exit, leave_normal, leave_ret, leave_exit, EndsA_ret, EndsA_normal, ot_move, ot_assign, ot_pick, ot_binOp, ot_unOp, ot_convert, ot_field, ot_index, ot_indexAddr, ot_fieldAddr, ot_slice, ot_build, ot_buildSlice, ot_extract, ot_makeInterface, ot_makeFunc, ot_nilCheck, ot_call, ot_len, ot_append, ot_box, ot_load, ot_store, ot_makeSlice, ct_bool, ct_true, ct_false, bt_some, gt_some, aval_tmp, aval_int, aval_bool, aval_str, aval_slice, aval_nilPointer, aval_nilIface, aval_func, aval_global, avals, apairs, bareP, AV.bare, AV.bares, bin_lss, bin_leq, bin_gtr, bin_geq, bin_eql, bin_neq, bin_add, bin_sub, bin_mul, bin_and, bin_or, bin_xor, toV_int, toV_bool, toV_string, un_neg, un_not, bin_str_eql, bin_str_neq, bin_str_lss, bin_str_leq, bin_str_gtr, bin_str_geq, aget_aput, length_aput, aput_none, Nat.reduceEqDiff, Nat.reduceLT, Nat.reduceAdd, reduceIte, reduceCtorEq, Bool.not_false, Bool.not_true, Bool.true_or, true_and, Option.bind_some, Option.map_some, List.nil_append, List.cons_append, resA, resA1, resVal, Option.getD_some, Nat.reduceLeDiff, bnd_some, yieldA_eq, yldOf_some, boolOf_bool, boolOf_undef, gt_none, List.getElem?_toArray, List.getElem?_cons_succ, List.getElem?_cons_zero, bq_true, bq_false, decide_true, decide_false, Option.toList_none, Option.toList_some, List.head?_cons, List.head?_nil, nb_cfg, cv_some, pm_some, pm_none, plainA_v, plain_bool, plain_int, plain_str, Bool.false_eq_true, if_false]
    rfl
end Go.Proofs.Ytonmpbfddiflhaa

/- Keys: Clone, Copy, Put. -/
namespace Go.Proofs.Ytonmpbfddiflhaa
open Go.AM
def avs (L : List KL) : List AV := L.map fun p => p.1.av
/-- A ring's clone, while it is appended to. -/
def cloneV (r : AV) (L : List KL) : AV := match r with
  | .v (.slice none 0 0) => .v (.slice none 0 0)
  | _ => csl (avs L)
/-- What rings are handed on here. -/
def rawR (r : AV) (L : List KL) : Prop := (r = .v (.slice none 0 0) ∧ L = []) ∨ r = .ro (avs L)
theorem sized_avs (L : List KL) : sized 5 (avs L) := fun x hx => by
  unfold avs at hx
  obtain ⟨p, _, rfl⟩ := List.mem_map.1 hx
  rfl
section
variable {prim : FuncId → Option (List AV → Option AV)}
theorem nilKn {x y : Operand} {xs : List AV} : binA (cfgP prim) .eql 22 x y (.ro xs) (.v (.slice none 0 0)) = some (.v (.bool false)) := by
  have hu : (cfgP prim).und 22 = some (.slice 28) := by kernel_rfl
  have h1 : AV.toV (.ro xs) = none := rfl
  simp only [binA, h1, nilEq, hu, someSl, nilSl, Bool.false_and, Bool.true_and, Bool.false_or, if_true]
theorem nilKnn {x y : Operand} : binA (cfgP prim) .eql 22 x y (.v (.slice none 0 0)) (.v (.slice none 0 0)) = some (.v (.bool true)) := by kernel_rfl
theorem bs22e : buildSliceA (cfgP prim) 22 0 [] = some (csl []) := by kernel_rfl
theorem appKc {L : List KL} {y : AV} (hy : elems y = some (avs L)) (hl : L.length < 2 ^ 30) : appA (cfgP prim) #[22, 22] [csl [], y] {} = some (csl (avs L), ghp 28 (avs L)) := by
  have := appA_csl (C := cfgP prim) (ts := #[22, 22]) (e := 28) (n := 4) (k := 72) (t1 := 28) (z := zeroK) (by kernel_rfl) (by kernel_rfl) (by kernel_rfl) (by kernel_rfl) rfl (by kernel_rfl) (xs := []) hy (fun _ h => by cases h) (sized_avs L) (by simp only [avs, List.length_nil, List.length_map]; omega)
  rw [List.nil_append] at this
  exact this
end
theorem clone_rok (r : AV) (L : List KL) (hr : rawR r L) (hl : L.length < 2 ^ 30) : CallOk (cfgP kr1) 25 [r] {} (cloneV r L) (ghp 28 (avs L)) := by
  rcases hr with ⟨rfl, rfl⟩ | rfl
  · skip
    refine call_of_wk (call := noCall) (fn := Try.f25) (rs := [.tmp 2]) kr1_ok noCall_ok (fns_cfg Try.func25 rfl) rfl rfl ?_
    intro env hl0 hargs
    have hn : env.length = 8 := hl0
    have h0 := hargs 0 _ rfl
    clear hargs hl0
    refine wkT_of ?_
    simp -dsimp only [hn, h0, nilKnn, wt_seq, wt_block, wt_region, wt_cond, wt_skip, wt_ret, wt_exit, wst_nil, wst_app_nil, wst_app_cons, wst_cons, wst_guard, andThen_normal, andThen_ret, andThen_exit, leave_normal, leave_ret, leave_exit, EndsA_ret, EndsA_normal, ot_move, ot_assign, ot_pick, ot_binOp, ot_unOp, ot_convert, ot_field, ot_index, ot_indexAddr, ot_fieldAddr, ot_slice, ot_build, ot_buildSlice, ot_extract, ot_makeInterface, ot_makeFunc, ot_nilCheck, ot_call, ot_len, ot_append, ot_box, ot_load, ot_store, ot_makeSlice, ct_bool, ct_true, ct_false, bt_some, gt_some, aval_tmp, aval_int, aval_bool, aval_str, aval_slice, aval_nilPointer, aval_nilIface, aval_func, aval_global, avals, apairs, bareP, AV.bare, AV.bares, bin_lss, bin_leq, bin_gtr, bin_geq, bin_eql, bin_neq, bin_add, bin_sub, bin_mul, bin_and, bin_or, bin_xor, toV_int, toV_bool, toV_string, un_neg, un_not, bin_str_eql, bin_str_neq, bin_str_lss, bin_str_leq, bin_str_gtr, bin_str_geq, aget_aput, length_aput, aput_none, Nat.reduceEqDiff, Nat.reduceLT, Nat.reduceAdd, reduceIte, reduceCtorEq, Bool.not_false, Bool.not_true, Bool.true_or, true_and, Option.bind_some, Option.map_some, List.nil_append, List.cons_append, resA, resA1, resVal, Option.getD_some, Nat.reduceLeDiff, bnd_some, yieldA_eq, yldOf_some, boolOf_bool, boolOf_undef, gt_none, List.getElem?_toArray, List.getElem?_cons_succ, List.getElem?_cons_zero, bq_true, bq_false, decide_true, decide_false, Option.toList_none, Option.toList_some, List.head?_cons, List.head?_nil, nb_cfg, cv_some, pm_some, pm_none, plainA_v, plain_bool, plain_int, plain_str, Bool.false_eq_true, if_false]
    exact ⟨rfl, rfl⟩
  · have happ := appKc (prim := kr1) (L := L) (y := .ro (avs L)) rfl hl
    refine call_of_wk (call := noCall) (fn := Try.f25) (rs := [.tmp 2]) kr1_ok noCall_ok (fns_cfg Try.func25 rfl) rfl rfl ?_
    intro env hl0 hargs
    have hn : env.length = 8 := hl0
    have h0 := hargs 0 _ rfl
    clear hargs hl0
    refine wkT_of ?_
    simp -dsimp only [hn, h0, nilKn, bs22e, happ, wt_seq, wt_block, wt_region, wt_cond, wt_skip, wt_ret, wt_exit, wst_nil, wst_app_nil, wst_app_cons, wst_cons, wst_guard, andThen_normal, andThen_ret, andThen_exit, leave_normal, leave_ret, leave_exit, EndsA_ret, EndsA_normal, ot_move, ot_assign, ot_pick, ot_binOp, ot_unOp, ot_convert, ot_field, ot_index, ot_indexAddr, ot_fieldAddr, ot_slice, ot_build, ot_buildSlice, ot_extract, ot_makeInterface, ot_makeFunc, ot_nilCheck, ot_call, ot_len, ot_append, ot_box, ot_load, ot_store, ot_makeSlice, ct_bool, ct_true, ct_false, bt_some, gt_some, aval_tmp, aval_int, aval_bool, aval_str, aval_slice, aval_nilPointer, aval_nilIface, aval_func, aval_global, avals, apairs, bareP, AV.bare, AV.bares, bin_lss, bin_leq, bin_gtr, bin_geq, bin_eql, bin_neq, bin_add, bin_sub, bin_mul, bin_and, bin_or, bin_xor, toV_int, toV_bool, toV_string, un_neg, un_not, bin_str_eql, bin_str_neq, bin_str_lss, bin_str_leq, bin_str_gtr, bin_str_geq, aget_aput, length_aput, aput_none, Nat.reduceEqDiff, Nat.reduceLT, Nat.reduceAdd, reduceIte, reduceCtorEq, Bool.not_false, Bool.not_true, Bool.true_or, true_and, Option.bind_some, Option.map_some, List.nil_append, List.cons_append, resA, resA1, resVal, Option.getD_some, Nat.reduceLeDiff, bnd_some, yieldA_eq, yldOf_some, boolOf_bool, boolOf_undef, gt_none, List.getElem?_toArray, List.getElem?_cons_succ, List.getElem?_cons_zero, bq_true, bq_false, decide_true, decide_false, Option.toList_none, Option.toList_some, List.head?_cons, List.head?_nil, nb_cfg, cv_some, pm_some, pm_none, plainA_v, plain_bool, plain_int, plain_str, Bool.false_eq_true, if_false]
    exact ⟨rfl, trivial⟩
structure CloneX (p : AV × List KL) : Prop where
  raw : rawR p.1 p.2
  sm : ∀ q ∈ p.2, smK q
  len : p.2.length < 2 ^ 30
theorem avs_inj : ∀ {L M : List KL}, (∀ q ∈ L, smK q) → (∀ q ∈ M, smK q) → avs L = avs M → L = M
  | [], [], _, _, _ => rfl
  | [], _ :: _, _, _, h => by cases h
  | _ :: _, [], _, _, h => by cases h
  | p :: L, q :: M, h1, h2, h => by
    unfold avs at h
    simp only [List.map_cons] at h
    injection h with h3 h4
    rw [kl_inj (h1 p (by simp)).1 (h2 q (by simp)).1 h3, avs_inj (fun x hx => h1 x (by simp [hx])) (fun x hx => h2 x (by simp [hx])) h4]
theorem cloneX_inj {p q : AV × List KL} (hp : CloneX p) (hq : CloneX q) (h : p.1 = q.1) : p = q := by
  obtain ⟨r, L⟩ := p
  obtain ⟨r', M⟩ := q
  simp only at h
  subst h
  have e : L = M := by
    rcases hp.raw with ⟨h1, h2⟩ | h1 <;> rcases hq.raw with ⟨h3, h4⟩ | h3
    · simp only at h1 h2 h3 h4
      rw [h2, h4]
    · simp only at h1 h3
      rw [h1] at h3
      cases h3
    · simp only at h1 h3
      rw [h1] at h3
      cases h3
    · simp only at h1 h3
      rw [h1] at h3
      injection h3 with h3
      exact avs_inj hp.sm hq.sm h3
  rw [e]
noncomputable def cloneT := relT 25 CloneX (fun p => [p.1]) (fun _ => {}) (fun p => cloneV p.1 p.2) (fun p => ghp 28 (avs p.2))
theorem cloneT_ok : CallsOk (cfgP kr1) cloneT := relT_ok (fns_cfg Try.func25 rfl) rfl fun p hp => clone_rok p.1 p.2 hp.raw hp.len
theorem cloneT_eq {r : AV} {L : List KL} (h : rawR r L) (hs : ∀ q ∈ L, smK q) (hl : L.length < 2 ^ 30) : cloneT 25 [r] {} = some (cloneV r L, ghp 28 (avs L)) :=
  relT_eq (a := fun p : AV × List KL => [p.1]) (h := fun _ => ({} : Hp)) (fun p q hp hq h1 _ => by
    injection h1 with h1
    rw [cloneX_inj hp hq h1]
    exact ⟨rfl, rfl⟩) (r, L) ⟨h, hs, hl⟩
/-- With bytes each. -/
def fullK (p : KL) : Prop := smK p ∧ p.2 ≠ [] ∧ p.2.length < 2 ^ 40
theorem fullK_p {p : KL} (h : fullK p) : p.1.p = .ro (byts p.2) := pub_ro h.1.1 h.2.1
/-- What lies there when so many were copied. -/
def hpC (L : List KL) : Hp := { toks := (ghp 28 (avs L)).toks, blks := L.map fun p => ⟨0, 5, [p.1.av]⟩ }
structure copI (r : AV) (L : List KL) (i : Nat) (e : Env) (h : Hp) : Prop where
  len : e.length = 22
  hp : h = hpC (L.take i)
  a3 : aget e 3 = gsl (avs (L.take i))
  a6 : aget e 6 = r
  a7 : aget e 7 = .v (.int .i64 L.length)
  a8 : aget e 8 = .v (.int .i64 i)
noncomputable section
def kc0 : FuncId → Option (List AV → Option AV) := tab [(23, clnP)]
theorem kc0_ok : (cfgP kc0).Ok := cfgOf_ok mixed fok (tab_ok ⟨prim_at Try.func23 (by kernel_rfl) rfl (clnP_ok), trivial⟩)
theorem kc0_23 : (cfgP kc0).prim 23 = some clnP := rfl
end
theorem thaw_gslA (H : Hp) (n : Nat) (x : AV) (xs : List AV) : (gsl (x :: xs)).thaw H (n + 1) = some (.ro (x :: xs)) := rfl
set_option maxHeartbeats 4000000 in
theorem copy_ok (r : AV) (L : List KL) (hr : Ring r L) (hne : L ≠ []) (hL : L.length < 2 ^ 30) (hs : ∀ p ∈ L, fullK p) : PureOk (cfgP kc0) 24 [r] (.ro (avs L)) := by
  have hlen : (L.map fun p => p.1.av).length = L.length := by simp
  refine pure_of_wk (call := noCall) (fn := Try.f24) (rs := [.tmp 2]) kc0_ok noCall_ok (fns_cfg Try.func24 rfl) rfl rfl ?_
  intro env hl0 hargs
  have hn : env.length = 22 := hl0
  have h0 := hargs 0 _ rfl
  clear hargs hl0
  refine wkT_of ?_
  simp -dsimp only [hn, h0, lenK hr.el, hlen, wt_seq, wt_block, wt_region, wt_cond, wt_skip, wt_ret, wt_exit, wst_nil, wst_app_nil, wst_app_cons, wst_cons, wst_guard, andThen_normal, andThen_ret, andThen_exit, leave_normal, leave_ret, leave_exit, EndsA_ret, EndsA_normal, ot_move, ot_assign, ot_pick, ot_binOp, ot_unOp, ot_convert, ot_field, ot_index, ot_indexAddr, ot_fieldAddr, ot_slice, ot_build, ot_buildSlice, ot_extract, ot_makeInterface, ot_makeFunc, ot_nilCheck, ot_call, ot_len, ot_append, ot_box, ot_load, ot_store, ot_makeSlice, ct_bool, ct_true, ct_false, bt_some, gt_some, aval_tmp, aval_int, aval_bool, aval_str, aval_slice, aval_nilPointer, aval_nilIface, aval_func, aval_global, avals, apairs, bareP, AV.bare, AV.bares, bin_lss, bin_leq, bin_gtr, bin_geq, bin_eql, bin_neq, bin_add, bin_sub, bin_mul, bin_and, bin_or, bin_xor, toV_int, toV_bool, toV_string, un_neg, un_not, bin_str_eql, bin_str_neq, bin_str_lss, bin_str_leq, bin_str_gtr, bin_str_geq, aget_aput, length_aput, aput_none, Nat.reduceEqDiff, Nat.reduceLT, Nat.reduceAdd, reduceIte, reduceCtorEq, Bool.not_false, Bool.not_true, Bool.true_or, true_and, Option.bind_some, Option.map_some, List.nil_append, List.cons_append, resA, resA1, resVal, Option.getD_some, Nat.reduceLeDiff, bnd_some, yieldA_eq, yldOf_some, boolOf_bool, boolOf_undef, gt_none, List.getElem?_toArray, List.getElem?_cons_succ, List.getElem?_cons_zero, bq_true, bq_false, decide_true, decide_false, Option.toList_none, Option.toList_some, List.head?_cons, List.head?_nil, nb_cfg, cv_some, pm_some, pm_none, plainA_v, plain_bool, plain_int, plain_str, Bool.false_eq_true, if_false]
  refine wt_loop (m := L.length) (fun m e h => ∃ i, i + m = L.length ∧ copI r L i e h) ?_ ?_
  · rintro m e H ⟨i, hi, hn, rfl, h3, h6, h7, h8⟩
    by_cases hil : i < L.length
    · have hd : decide ((i : Int) < ((L.length : Nat) : Int)) = true := decide_eq_true (by omega)
      have e1 : IntKind.i64.wrap ((i : Int) + 1) = ((i + 1 : Nat) : Int) := wr64 (by omega) (by omega)
      have hfu := hs L[i] (List.getElem_mem hil)
      have hsm := hfu.1
      have hfl := KeyA.flat (pubOf_ok hsm.1)
      have hro : (cfgP kc0).roBox 24 5 = false := rfl
      have hst := storeKH (prim := kc0) (H := hpC (L.take i)) hfl
      have hbk := blkKH (H := hpC (L.take i)) (k := L[i].1)
      have hbr : AV.bare L[i].1.p = some (.ro (byts L[i].2)) := by rw [fullK_p hfu]; rfl
      have hcl := clnP_eq (l := L[i].2) hfu.2.1 hfu.2.2
      have hst2 : storeA (cfgP kc0) 26 (hpC (L.take i)).blks.length 0 0 2 (.ro (byts L[i].2)) { hpC (L.take i) with blks := (hpC (L.take i)).blks ++ [⟨0, 5, [L[i].1.av]⟩] } = some { hpC (L.take i) with blks := (hpC (L.take i)).blks ++ [⟨0, 5, [L[i].1.av]⟩] } := by
        have h1 : ({ hpC (L.take i) with blks := (hpC (L.take i)).blks ++ [⟨0, 5, [L[i].1.av]⟩] } : Hp).blks[(hpC (L.take i)).blks.length]? = some ⟨0, 5, [.agg [str L[i].1.sv, str L[i].1.id, L[i].1.p, .v (.int .i64 L[i].1.f), .v (.int .i64 L[i].1.u)]]⟩ := by simp [KeyA.av]
        have h2 := store_field (C := cfgP kc0) (t := 26) (j := 2) (u := .ro (byts L[i].2)) (x := [str L[i].1.sv, str L[i].1.id, L[i].1.p, .v (.int .i64 L[i].1.f), .v (.int .i64 L[i].1.u)]) h1 (by kernel_rfl) rfl rfl (by simp) (by rw [fullK_p hfu]; rfl)
        rw [h2, set_self h1]
      have hsn : avs (L.take i) ++ [L[i].1.av] = avs (L.take (i + 1)) := by
        unfold avs
        rw [List.take_succ_eq_append_getElem hil, List.map_append]
        rfl
      have hH' : ({ toks := (ghp 28 (avs (L.take (i + 1)))).toks, blks := (hpC (L.take i)).blks ++ [⟨0, 5, [L[i].1.av]⟩] } : Hp) = hpC (L.take (i + 1)) := by
        unfold hpC
        congr 1
        rw [List.take_succ_eq_append_getElem hil, List.map_append]
        rfl
      have happ : appA (cfgP kc0) #[22, 22] [gsl (avs (L.take i)), .cl true [L[i].1.av]] { hpC (L.take i) with blks := (hpC (L.take i)).blks ++ [⟨0, 5, [L[i].1.av]⟩] } = some (gsl (avs (L.take (i + 1))), hpC (L.take (i + 1))) := by
        have := appA_gslH (C := cfgP kc0) (ts := #[22, 22]) (e := 28) (n := 4) (k := 72) (t1 := 28) (z := zeroK) (by kernel_rfl) (by kernel_rfl) (by kernel_rfl) (by kernel_rfl) rfl (by kernel_rfl) (xs := avs (L.take i)) (f := true) (x := L[i].1.av) rfl (sized_avs _) (by simp only [avs, List.length_map, List.length_take]; omega) (H := { hpC (L.take i) with blks := (hpC (L.take i)).blks ++ [⟨0, 5, [L[i].1.av]⟩] }) rfl
        rw [this, hsn, hH']
      have hkb : AV.bare L[i].1.av = some L[i].1.av := KeyA.bare (pubOf_ok hsm.1)
      have hbs := bsK (prim := kc0) (k := L[i].1) hfl
      have hpp := fullK_p hfu
      unfold KeyA.av at hkb hbs happ hst hst2 hbk
      rw [hpp] at hbs happ hst hst2 hbk
      simp -dsimp only [hn, h3, h6, h7, h8, hd, idxA hr hil, AV.cells, ptK, ot_alloc, hro, allocKH, hst, hbk, faP2, pt26, Nat.zero_add, ct_prim kc0_23, hpp, bare_s, hcl, hst2, hbs, happ, e1, wt_seq, wt_block, wt_region, wt_cond, wt_skip, wt_ret, wt_exit, wst_nil, wst_app_nil, wst_app_cons, wst_cons, wst_guard, andThen_normal, andThen_ret, andThen_exit, leave_normal, leave_ret, leave_exit, EndsA_ret, EndsA_normal, ot_move, ot_assign, ot_pick, ot_binOp, ot_unOp, ot_convert, ot_field, ot_index, ot_indexAddr, ot_fieldAddr, ot_slice, ot_build, ot_buildSlice, ot_extract, ot_makeInterface, ot_makeFunc, ot_nilCheck, ot_call, ot_len, ot_append, ot_box, ot_load, ot_store, ot_makeSlice, ct_bool, ct_true, ct_false, bt_some, gt_some, aval_tmp, aval_int, aval_bool, aval_str, aval_slice, aval_nilPointer, aval_nilIface, aval_func, aval_global, avals, apairs, bareP, AV.bare, AV.bares, bin_lss, bin_leq, bin_gtr, bin_geq, bin_eql, bin_neq, bin_add, bin_sub, bin_mul, bin_and, bin_or, bin_xor, toV_int, toV_bool, toV_string, un_neg, un_not, bin_str_eql, bin_str_neq, bin_str_lss, bin_str_leq, bin_str_gtr, bin_str_geq, aget_aput, length_aput, aput_none, Nat.reduceEqDiff, Nat.reduceLT, Nat.reduceAdd, reduceIte, reduceCtorEq, Bool.not_false, Bool.not_true, Bool.true_or, true_and, Option.bind_some, Option.map_some, List.nil_append, List.cons_append, resA, resA1, resVal, Option.getD_some, Nat.reduceLeDiff, bnd_some, yieldA_eq, yldOf_some, boolOf_bool, boolOf_undef, gt_none, List.getElem?_toArray, List.getElem?_cons_succ, List.getElem?_cons_zero, bq_true, bq_false, decide_true, decide_false, Option.toList_none, Option.toList_some, List.head?_cons, List.head?_nil, nb_cfg, cv_some, pm_some, pm_none, plainA_v, plain_bool, plain_int, plain_str, Bool.false_eq_true, if_false]
      refine ⟨m - 1, by omega, i + 1, by omega, ?_, rfl, ?_, ?_, ?_, ?_⟩
      all_goals simp -dsimp only [hn, h3, h6, h7, h8, wt_seq, wt_block, wt_region, wt_cond, wt_skip, wt_ret, wt_exit, wst_nil, wst_app_nil, wst_app_cons, wst_cons, wst_guard, andThen_normal, andThen_ret, andThen_exit, leave_normal, leave_ret, leave_exit, EndsA_ret, EndsA_normal, ot_move, ot_assign, ot_pick, ot_binOp, ot_unOp, ot_convert, ot_field, ot_index, ot_indexAddr, ot_fieldAddr, ot_slice, ot_build, ot_buildSlice, ot_extract, ot_makeInterface, ot_makeFunc, ot_nilCheck, ot_call, ot_len, ot_append, ot_box, ot_load, ot_store, ot_makeSlice, ct_bool, ct_true, ct_false, bt_some, gt_some, aval_tmp, aval_int, aval_bool, aval_str, aval_slice, aval_nilPointer, aval_nilIface, aval_func, aval_global, avals, apairs, bareP, AV.bare, AV.bares, bin_lss, bin_leq, bin_gtr, bin_geq, bin_eql, bin_neq, bin_add, bin_sub, bin_mul, bin_and, bin_or, bin_xor, toV_int, toV_bool, toV_string, un_neg, un_not, bin_str_eql, bin_str_neq, bin_str_lss, bin_str_leq, bin_str_gtr, bin_str_geq, aget_aput, length_aput, aput_none, Nat.reduceEqDiff, Nat.reduceLT, Nat.reduceAdd, reduceIte, reduceCtorEq, Bool.not_false, Bool.not_true, Bool.true_or, true_and, Option.bind_some, Option.map_some, List.nil_append, List.cons_append, resA, resA1, resVal, Option.getD_some, Nat.reduceLeDiff, bnd_some, yieldA_eq, yldOf_some, boolOf_bool, boolOf_undef, gt_none, List.getElem?_toArray, List.getElem?_cons_succ, List.getElem?_cons_zero, bq_true, bq_false, decide_true, decide_false, Option.toList_none, Option.toList_some, List.head?_cons, List.head?_nil, nb_cfg, cv_some, pm_some, pm_none, plainA_v, plain_bool, plain_int, plain_str, Bool.false_eq_true, if_false]
    · have hd : decide ((i : Int) < ((L.length : Nat) : Int)) = false := decide_eq_false (by omega)
      have hie : i = L.length := by omega
      subst hie
      rw [List.take_length] at h3
      simp -dsimp only [hn, h3, h6, h7, h8, hd, wt_seq, wt_block, wt_region, wt_cond, wt_skip, wt_ret, wt_exit, wst_nil, wst_app_nil, wst_app_cons, wst_cons, wst_guard, andThen_normal, andThen_ret, andThen_exit, leave_normal, leave_ret, leave_exit, EndsA_ret, EndsA_normal, ot_move, ot_assign, ot_pick, ot_binOp, ot_unOp, ot_convert, ot_field, ot_index, ot_indexAddr, ot_fieldAddr, ot_slice, ot_build, ot_buildSlice, ot_extract, ot_makeInterface, ot_makeFunc, ot_nilCheck, ot_call, ot_len, ot_append, ot_box, ot_load, ot_store, ot_makeSlice, ct_bool, ct_true, ct_false, bt_some, gt_some, aval_tmp, aval_int, aval_bool, aval_str, aval_slice, aval_nilPointer, aval_nilIface, aval_func, aval_global, avals, apairs, bareP, AV.bare, AV.bares, bin_lss, bin_leq, bin_gtr, bin_geq, bin_eql, bin_neq, bin_add, bin_sub, bin_mul, bin_and, bin_or, bin_xor, toV_int, toV_bool, toV_string, un_neg, un_not, bin_str_eql, bin_str_neq, bin_str_lss, bin_str_leq, bin_str_gtr, bin_str_geq, aget_aput, length_aput, aput_none, Nat.reduceEqDiff, Nat.reduceLT, Nat.reduceAdd, reduceIte, reduceCtorEq, Bool.not_false, Bool.not_true, Bool.true_or, true_and, Option.bind_some, Option.map_some, List.nil_append, List.cons_append, resA, resA1, resVal, Option.getD_some, Nat.reduceLeDiff, bnd_some, yieldA_eq, yldOf_some, boolOf_bool, boolOf_undef, gt_none, List.getElem?_toArray, List.getElem?_cons_succ, List.getElem?_cons_zero, bq_true, bq_false, decide_true, decide_false, Option.toList_none, Option.toList_some, List.head?_cons, List.head?_nil, nb_cfg, cv_some, pm_some, pm_none, plainA_v, plain_bool, plain_int, plain_str, Bool.false_eq_true, if_false]
      refine ⟨1, ?_⟩
      obtain ⟨p, M, rfl⟩ := List.exists_cons_of_ne_nil hne
      rfl
  · refine ⟨0, Nat.zero_add _, ?_, rfl, ?_, ?_, ?_, ?_⟩
    any_goals simp -dsimp only [hn, h0, wt_seq, wt_block, wt_region, wt_cond, wt_skip, wt_ret, wt_exit, wst_nil, wst_app_nil, wst_app_cons, wst_cons, wst_guard, andThen_normal, andThen_ret, andThen_exit, leave_normal, leave_ret, leave_exit, EndsA_ret, EndsA_normal, ot_move, ot_assign, ot_pick, ot_binOp, ot_unOp, ot_convert, ot_field, ot_index, ot_indexAddr, ot_fieldAddr, ot_slice, ot_build, ot_buildSlice, ot_extract, ot_makeInterface, ot_makeFunc, ot_nilCheck, ot_call, ot_len, ot_append, ot_box, ot_load, ot_store, ot_makeSlice, ct_bool, ct_true, ct_false, bt_some, gt_some, aval_tmp, aval_int, aval_bool, aval_str, aval_slice, aval_nilPointer, aval_nilIface, aval_func, aval_global, avals, apairs, bareP, AV.bare, AV.bares, bin_lss, bin_leq, bin_gtr, bin_geq, bin_eql, bin_neq, bin_add, bin_sub, bin_mul, bin_and, bin_or, bin_xor, toV_int, toV_bool, toV_string, un_neg, un_not, bin_str_eql, bin_str_neq, bin_str_lss, bin_str_leq, bin_str_gtr, bin_str_geq, aget_aput, length_aput, aput_none, Nat.reduceEqDiff, Nat.reduceLT, Nat.reduceAdd, reduceIte, reduceCtorEq, Bool.not_false, Bool.not_true, Bool.true_or, true_and, Option.bind_some, Option.map_some, List.nil_append, List.cons_append, resA, resA1, resVal, Option.getD_some, Nat.reduceLeDiff, bnd_some, yieldA_eq, yldOf_some, boolOf_bool, boolOf_undef, gt_none, List.getElem?_toArray, List.getElem?_cons_succ, List.getElem?_cons_zero, bq_true, bq_false, decide_true, decide_false, Option.toList_none, Option.toList_some, List.head?_cons, List.head?_nil, nb_cfg, cv_some, pm_some, pm_none, plainA_v, plain_bool, plain_int, plain_str, Bool.false_eq_true, if_false]
    all_goals rfl
end Go.Proofs.Ytonmpbfddiflhaa

/- Keys: Put; what is handed to a law. -/
namespace Go.Proofs.Ytonmpbfddiflhaa
open Go.AM
noncomputable def copyP := relP (fun L : List KL => L ≠ [] ∧ L.length < 2 ^ 30 ∧ ∀ p ∈ L, fullK p) (fun L => [.ro (avs L)]) (fun L => .ro (avs L))
theorem copyP_ok : ∀ xs r, copyP xs = some r → PureOk (cfgP kc0) 24 xs r := relP_ok fun L h => copy_ok _ L ⟨rfl, fun p hp => (h.2.2 p hp).1.1⟩ h.1 h.2.1 h.2.2
theorem copyP_eq (L : List KL) (h : L ≠ [] ∧ L.length < 2 ^ 30 ∧ ∀ p ∈ L, fullK p) : copyP [.ro (avs L)] = some (.ro (avs L)) := relP_eq (a := fun L => [AV.ro (avs L)]) (r := fun L => AV.ro (avs L)) (fun p q _ _ h => by injection h) L h
noncomputable section
def kp0 : FuncId → Option (List AV → Option AV) := tab [(8, mayP), (12, gdP), (24, copyP)]
theorem kp0_ok : (cfgP kp0).Ok := cfgOf_ok mixed fok (tab_ok ⟨prim_at Try.func8 (by kernel_rfl) rfl (mayP_ok), prim_at Try.func12 (by kernel_rfl) rfl (gdP_ok), prim_at Try.func24 (by kernel_rfl) rfl (copyP_ok), trivial⟩)
theorem kp0_8 : (cfgP kp0).prim 8 = some mayP := rfl
theorem kp0_12 : (cfgP kp0).prim 12 = some gdP := rfl
theorem kp0_24 : (cfgP kp0).prim 24 = some copyP := rfl
end
theorem cloneT_okp : CallsOk (cfgP kp0) cloneT := ⟨fun f xs H r H' h => ⟨(cloneT_ok.ok f xs H r H' h).1, fun G W vs S rv => by
  have := (cloneT_ok.ok f xs H r H' h).2 G W vs (Sim.other (C := cfgP kp0) (C' := cfgP kr1) rfl rfl S) rv
  exact this.mono fun e W' ⟨y, he, G', ry, S', A⟩ => ⟨y, he, G', ry, Sim.other (C := cfgP kr1) (C' := cfgP kp0) rfl rfl S', A⟩⟩⟩
/-- What Put hands back. -/
def putV (L : List KL) (p : KL) : AV := if (mayB L && goodB p.1 p.2) = true then (if mayB (L ++ [p]) = true then .tup [.ro (avs (L ++ [p])), .v (.int .i64 0)] else .tup [.v (.slice none 0 0), .v (.int .i64 12)]) else .tup [.v (.slice none 0 0), .v (.int .i64 1)]
theorem full_of_good {p : KL} (h : smK p) (hg : goodB p.1 p.2 = true) : fullK p := by
  have h32 : p.2.length = 32 := by
    unfold goodB at hg
    simp only [Bool.and_eq_true, decide_eq_true_eq] at hg
    omega
  refine ⟨h, ?_, by omega⟩
  intro he
  rw [he] at h32
  cases h32
theorem rawR_ring {r : AV} {L : List KL} (h : rawR r L) (hs : ∀ q ∈ L, smK q) : Ring r L ∧ AV.bare r = some r := by
  rcases h with ⟨rfl, rfl⟩ | rfl
  · exact ⟨⟨rfl, fun p hp => by cases hp⟩, rfl⟩
  · exact ⟨⟨rfl, fun p hp => (hs p hp).1⟩, rfl⟩
theorem rawR_small {r : AV} {L : List KL} (h : rawR r L) (hs : ∀ q ∈ L, smK q) (hl : L.length < 2 ^ 62) : smallR r L := ⟨(rawR_ring h hs).2, hl, fun p hp => (hs p hp).2⟩
section
variable {prim : FuncId → Option (List AV → Option AV)}
theorem app_clone {r : AV} {L : List KL} {p : KL} (h : rawR r L) (hl : L.length < 2 ^ 29) : appA (cfgP prim) #[22, 22] [cloneV r L, .cl true [p.1.av]] (ghp 28 (avs L)) = some (.ap 0 (avs (L ++ [p])), ghp 28 (avs (L ++ [p]))) := by
  have he : avs (L ++ [p]) = avs L ++ [p.1.av] := by unfold avs; rw [List.map_append]; rfl
  have hne : avs L ++ [p.1.av] ≠ [] := by simp
  rw [he]
  rcases h with ⟨rfl, rfl⟩ | rfl
  · have := appKs (prim := prim) (xs := []) (f := true) (x := p.1.av) rfl (fun _ h => by cases h) (by decide)
    exact this
  · have := appA_csl (C := cfgP prim) (ts := #[22, 22]) (e := 28) (n := 4) (k := 72) (t1 := 28) (z := zeroK) (by kernel_rfl) (by kernel_rfl) (by kernel_rfl) (by kernel_rfl) rfl (by kernel_rfl) (xs := avs L) (y := .cl true [p.1.av]) (ys := [p.1.av]) rfl (sized_avs L) (fun x hx => by rcases List.mem_singleton.1 hx with rfl; rfl) (by simp only [avs, List.length_map, List.length_singleton]; omega)
    rw [← csl_ne hne]
    exact this
end
set_option maxHeartbeats 4000000 in
theorem put_ok (r : AV) (L : List KL) (p : KL) (hr : rawR r L) (hs : ∀ q ∈ L, smK q) (hL : L.length < 2 ^ 20) (hp : smK p) : PureOk (cfgP kp0) 11 [r, p.1.av] (putV L p) := by
  obtain ⟨hring, hbr⟩ := rawR_ring hr hs
  have hsm := rawR_small hr hs (by omega)
  have bp := KeyA.bare (pubOf_ok hp.1)
  have fp := KeyA.flat (pubOf_ok hp.1)
  have hpp := (pubOf_ok hp.1).2.1
  have hgd := gdP_eq hp.1 hp.2.1 hp.2.2
  have hmy := mayP_eq hring hsm
  have hav : p.1.av = .agg [str p.1.sv, str p.1.id, p.1.p, .v (.int .i64 p.1.f), .v (.int .i64 p.1.u)] := rfl
  have hbs := bsK (prim := kp0) (k := p.1) fp
  have happ := app_clone (prim := kp0) (p := p) hr (by omega)
  have hcl := cloneT_eq hr hs (by omega)
  unfold putV
  cases hm : mayB L with
  | false =>
    rw [hm] at hmy
    rw [hav]
    refine pure_of_wk (call := cloneT) (fn := Try.f11) (rs := [.tmp 4, .tmp 5]) kp0_ok cloneT_okp (fns_cfg Try.func11 rfl) rfl rfl ?_
    intro env hl0 hargs
    have hn : env.length = 25 := hl0
    have h0 := hargs 0 _ rfl
    have h1 := hargs 1 _ rfl
    clear hargs hl0
    refine wkT_of ?_
    simp -dsimp only [hn, h0, h1, ro_cfg 11 3, bxt_ro bp fp, ct_prim kp0_8, hbr, hmy, wt_seq, wt_block, wt_region, wt_cond, wt_skip, wt_ret, wt_exit, wst_nil, wst_app_nil, wst_app_cons, wst_cons, wst_guard, andThen_normal, andThen_ret, andThen_exit, leave_normal, leave_ret, leave_exit, EndsA_ret, EndsA_normal, ot_move, ot_assign, ot_pick, ot_binOp, ot_unOp, ot_convert, ot_field, ot_index, ot_indexAddr, ot_fieldAddr, ot_slice, ot_build, ot_buildSlice, ot_extract, ot_makeInterface, ot_makeFunc, ot_nilCheck, ot_call, ot_len, ot_append, ot_box, ot_load, ot_store, ot_makeSlice, ct_bool, ct_true, ct_false, bt_some, gt_some, aval_tmp, aval_int, aval_bool, aval_str, aval_slice, aval_nilPointer, aval_nilIface, aval_func, aval_global, avals, apairs, bareP, AV.bare, AV.bares, bin_lss, bin_leq, bin_gtr, bin_geq, bin_eql, bin_neq, bin_add, bin_sub, bin_mul, bin_and, bin_or, bin_xor, toV_int, toV_bool, toV_string, un_neg, un_not, bin_str_eql, bin_str_neq, bin_str_lss, bin_str_leq, bin_str_gtr, bin_str_geq, aget_aput, length_aput, aput_none, Nat.reduceEqDiff, Nat.reduceLT, Nat.reduceAdd, reduceIte, reduceCtorEq, Bool.not_false, Bool.not_true, Bool.true_or, true_and, Option.bind_some, Option.map_some, List.nil_append, List.cons_append, resA, resA1, resVal, Option.getD_some, Nat.reduceLeDiff, bnd_some, yieldA_eq, yldOf_some, boolOf_bool, boolOf_undef, gt_none, List.getElem?_toArray, List.getElem?_cons_succ, List.getElem?_cons_zero, bq_true, bq_false, decide_true, decide_false, Option.toList_none, Option.toList_some, List.head?_cons, List.head?_nil, nb_cfg, cv_some, pm_some, pm_none, plainA_v, plain_bool, plain_int, plain_str, Bool.false_eq_true, if_false]
    exact ⟨5, rfl⟩
  | true =>
    rw [hm] at hmy
    cases hg : goodB p.1 p.2 with
    | false =>
      rw [hg] at hgd
      rw [hav]
      refine pure_of_wk (call := cloneT) (fn := Try.f11) (rs := [.tmp 4, .tmp 5]) kp0_ok cloneT_okp (fns_cfg Try.func11 rfl) rfl rfl ?_
      intro env hl0 hargs
      have hn : env.length = 25 := hl0
      have h0 := hargs 0 _ rfl
      have h1 := hargs 1 _ rfl
      clear hargs hl0
      refine wkT_of ?_
      simp -dsimp only [hn, h0, h1, ro_cfg 11 3, bxt_ro bp fp, ct_prim kp0_8, ct_prim kp0_12, hbr, hmy, AV.cells, ptK, bare_s, hpp, hgd, wt_seq, wt_block, wt_region, wt_cond, wt_skip, wt_ret, wt_exit, wst_nil, wst_app_nil, wst_app_cons, wst_cons, wst_guard, andThen_normal, andThen_ret, andThen_exit, leave_normal, leave_ret, leave_exit, EndsA_ret, EndsA_normal, ot_move, ot_assign, ot_pick, ot_binOp, ot_unOp, ot_convert, ot_field, ot_index, ot_indexAddr, ot_fieldAddr, ot_slice, ot_build, ot_buildSlice, ot_extract, ot_makeInterface, ot_makeFunc, ot_nilCheck, ot_call, ot_len, ot_append, ot_box, ot_load, ot_store, ot_makeSlice, ct_bool, ct_true, ct_false, bt_some, gt_some, aval_tmp, aval_int, aval_bool, aval_str, aval_slice, aval_nilPointer, aval_nilIface, aval_func, aval_global, avals, apairs, bareP, AV.bare, AV.bares, bin_lss, bin_leq, bin_gtr, bin_geq, bin_eql, bin_neq, bin_add, bin_sub, bin_mul, bin_and, bin_or, bin_xor, toV_int, toV_bool, toV_string, un_neg, un_not, bin_str_eql, bin_str_neq, bin_str_lss, bin_str_leq, bin_str_gtr, bin_str_geq, aget_aput, length_aput, aput_none, Nat.reduceEqDiff, Nat.reduceLT, Nat.reduceAdd, reduceIte, reduceCtorEq, Bool.not_false, Bool.not_true, Bool.true_or, true_and, Option.bind_some, Option.map_some, List.nil_append, List.cons_append, resA, resA1, resVal, Option.getD_some, Nat.reduceLeDiff, bnd_some, yieldA_eq, yldOf_some, boolOf_bool, boolOf_undef, gt_none, List.getElem?_toArray, List.getElem?_cons_succ, List.getElem?_cons_zero, bq_true, bq_false, decide_true, decide_false, Option.toList_none, Option.toList_some, List.head?_cons, List.head?_nil, nb_cfg, cv_some, pm_some, pm_none, plainA_v, plain_bool, plain_int, plain_str, Bool.false_eq_true, if_false]
      exact ⟨5, rfl⟩
    | true =>
      rw [hg] at hgd
      have hall : ∀ q ∈ L ++ [p], fullK q := by
        intro q hq
        rcases List.mem_append.1 hq with hq | hq
        · exact full_of_good (hs q hq) ((mayB_iff L).1 hm |>.1 q hq)
        · rcases List.mem_singleton.1 hq with rfl
          exact full_of_good hp hg
      have hcp := copyP_eq (L ++ [p]) ⟨by simp, by simp; omega, hall⟩
      have hsm2 : smallR (.ro (avs (L ++ [p]))) (L ++ [p]) := ⟨rfl, by simp; omega, fun q hq => (hall q hq).1.2⟩
      have hmy2 := mayP_eq ⟨rfl, fun q hq => (hall q hq).1.1⟩ hsm2
      have hbp : p.1.p = .ro (byts p.2) := fullK_p (full_of_good hp hg)
      have hgd2 := hgd
      rw [hav] at happ hbs ⊢
      rw [hbp] at happ hbs bp fp hgd ⊢
      cases hm2 : mayB (L ++ [p]) with
      | false =>
        rw [hm2] at hmy2
        refine pure_of_wk (call := cloneT) (fn := Try.f11) (rs := [.tmp 4, .tmp 5]) kp0_ok cloneT_okp (fns_cfg Try.func11 rfl) rfl rfl ?_
        intro env hl0 hargs
        have hn : env.length = 25 := hl0
        have h0 := hargs 0 _ rfl
        have h1 := hargs 1 _ rfl
        clear hargs hl0
        refine wkT_of ?_
        simp -dsimp only [hn, h0, h1, ro_cfg 11 3, bxt_ro bp fp, ct_prim kp0_8, ct_prim kp0_12, ct_prim kp0_24, hbr, hmy, AV.cells, ptK, bare_s, hgd, ct_own (C := cfgP kp0) (f := 25) rfl rfl, hcl, hbs, happ, hcp, hmy2, wt_seq, wt_block, wt_region, wt_cond, wt_skip, wt_ret, wt_exit, wst_nil, wst_app_nil, wst_app_cons, wst_cons, wst_guard, andThen_normal, andThen_ret, andThen_exit, leave_normal, leave_ret, leave_exit, EndsA_ret, EndsA_normal, ot_move, ot_assign, ot_pick, ot_binOp, ot_unOp, ot_convert, ot_field, ot_index, ot_indexAddr, ot_fieldAddr, ot_slice, ot_build, ot_buildSlice, ot_extract, ot_makeInterface, ot_makeFunc, ot_nilCheck, ot_call, ot_len, ot_append, ot_box, ot_load, ot_store, ot_makeSlice, ct_bool, ct_true, ct_false, bt_some, gt_some, aval_tmp, aval_int, aval_bool, aval_str, aval_slice, aval_nilPointer, aval_nilIface, aval_func, aval_global, avals, apairs, bareP, AV.bare, AV.bares, bin_lss, bin_leq, bin_gtr, bin_geq, bin_eql, bin_neq, bin_add, bin_sub, bin_mul, bin_and, bin_or, bin_xor, toV_int, toV_bool, toV_string, un_neg, un_not, bin_str_eql, bin_str_neq, bin_str_lss, bin_str_leq, bin_str_gtr, bin_str_geq, aget_aput, length_aput, aput_none, Nat.reduceEqDiff, Nat.reduceLT, Nat.reduceAdd, reduceIte, reduceCtorEq, Bool.not_false, Bool.not_true, Bool.true_or, true_and, Option.bind_some, Option.map_some, List.nil_append, List.cons_append, resA, resA1, resVal, Option.getD_some, Nat.reduceLeDiff, bnd_some, yieldA_eq, yldOf_some, boolOf_bool, boolOf_undef, gt_none, List.getElem?_toArray, List.getElem?_cons_succ, List.getElem?_cons_zero, bq_true, bq_false, decide_true, decide_false, Option.toList_none, Option.toList_some, List.head?_cons, List.head?_nil, nb_cfg, cv_some, pm_some, pm_none, plainA_v, plain_bool, plain_int, plain_str, Bool.false_eq_true, if_false]
        exact ⟨by kernel_rfl, 5, rfl⟩
      | true =>
        rw [hm2] at hmy2
        refine pure_of_wk (call := cloneT) (fn := Try.f11) (rs := [.tmp 4, .tmp 5]) kp0_ok cloneT_okp (fns_cfg Try.func11 rfl) rfl rfl ?_
        intro env hl0 hargs
        have hn : env.length = 25 := hl0
        have h0 := hargs 0 _ rfl
        have h1 := hargs 1 _ rfl
        clear hargs hl0
        refine wkT_of ?_
        simp -dsimp only [hn, h0, h1, ro_cfg 11 3, bxt_ro bp fp, ct_prim kp0_8, ct_prim kp0_12, ct_prim kp0_24, hbr, hmy, AV.cells, ptK, bare_s, hgd, ct_own (C := cfgP kp0) (f := 25) rfl rfl, hcl, hbs, happ, hcp, hmy2, wt_seq, wt_block, wt_region, wt_cond, wt_skip, wt_ret, wt_exit, wst_nil, wst_app_nil, wst_app_cons, wst_cons, wst_guard, andThen_normal, andThen_ret, andThen_exit, leave_normal, leave_ret, leave_exit, EndsA_ret, EndsA_normal, ot_move, ot_assign, ot_pick, ot_binOp, ot_unOp, ot_convert, ot_field, ot_index, ot_indexAddr, ot_fieldAddr, ot_slice, ot_build, ot_buildSlice, ot_extract, ot_makeInterface, ot_makeFunc, ot_nilCheck, ot_call, ot_len, ot_append, ot_box, ot_load, ot_store, ot_makeSlice, ct_bool, ct_true, ct_false, bt_some, gt_some, aval_tmp, aval_int, aval_bool, aval_str, aval_slice, aval_nilPointer, aval_nilIface, aval_func, aval_global, avals, apairs, bareP, AV.bare, AV.bares, bin_lss, bin_leq, bin_gtr, bin_geq, bin_eql, bin_neq, bin_add, bin_sub, bin_mul, bin_and, bin_or, bin_xor, toV_int, toV_bool, toV_string, un_neg, un_not, bin_str_eql, bin_str_neq, bin_str_lss, bin_str_leq, bin_str_gtr, bin_str_geq, aget_aput, length_aput, aput_none, Nat.reduceEqDiff, Nat.reduceLT, Nat.reduceAdd, reduceIte, reduceCtorEq, Bool.not_false, Bool.not_true, Bool.true_or, true_and, Option.bind_some, Option.map_some, List.nil_append, List.cons_append, resA, resA1, resVal, Option.getD_some, Nat.reduceLeDiff, bnd_some, yieldA_eq, yldOf_some, boolOf_bool, boolOf_undef, gt_none, List.getElem?_toArray, List.getElem?_cons_succ, List.getElem?_cons_zero, bq_true, bq_false, decide_true, decide_false, Option.toList_none, Option.toList_some, List.head?_cons, List.head?_nil, nb_cfg, cv_some, pm_some, pm_none, plainA_v, plain_bool, plain_int, plain_str, Bool.false_eq_true, if_false]
        exact ⟨by kernel_rfl, 5, rfl⟩
structure PutX (q : AV × List KL × KL) : Prop where
  raw : rawR q.1 q.2.1
  sm : ∀ k ∈ q.2.1, smK k
  len : q.2.1.length < 2 ^ 20
  key : smK q.2.2
noncomputable def putP := relP PutX (fun q => [q.1, q.2.2.1.av]) (fun q => putV q.2.1 q.2.2)
theorem putP_ok : ∀ xs r, putP xs = some r → PureOk (cfgP kp0) 11 xs r := relP_ok fun q h => put_ok _ _ _ h.raw h.sm h.len h.key
theorem putP_eq {r : AV} {L : List KL} {p : KL} (h : PutX (r, L, p)) : putP [r, p.1.av] = some (putV L p) := relP_eq (X := PutX) (a := fun q => [q.1, q.2.2.1.av]) (r := fun q => putV q.2.1 q.2.2) (fun q q' hq hq' h => by
  injection h with h1 h
  injection h with h2 _
  have e1 := cloneX_inj (p := (q.1, q.2.1)) (q := (q'.1, q'.2.1)) ⟨hq.raw, hq.sm, by have := hq.len; simp only; omega⟩ ⟨hq'.raw, hq'.sm, by have := hq'.len; simp only; omega⟩ h1
  have e2 := kl_inj hq.key.1 hq'.key.1 h2
  injection e1 with _ e1
  rw [e1, e2]) (r, L, p) h
/-- What a ring is that a law is handed. -/
theorem arg_raw {x : AV} (h : Arg Try.prog 22 x) : ∃ L : List KL, rawR x L ∧ ∀ p ∈ L, smK p := by
  obtain ⟨L, h1, h2, h3⟩ := arg_ring h
  refine ⟨L, ?_, fun p hp => ⟨h1.ok p hp, (h3 p hp).1, (h3 p hp).2⟩⟩
  obtain ⟨n, ha⟩ := arg_one (by kernel_rfl) h
  have hu : Try.prog.underlying 22 = some (.slice 28) := by kernel_rfl
  unfold ArgC at ha
  rw [hu] at ha
  rcases ha with ha | ⟨ys, ha, _⟩
  · injection ha with ha
    subst ha
    have := h1.el
    injection this with this
    exact .inl ⟨rfl, List.map_eq_nil_iff.1 this.symm⟩
  · injection ha with ha
    subst ha
    have := h1.el
    injection this with this
    right
    rw [this]
    rfl
end Go.Proofs.Ytonmpbfddiflhaa
