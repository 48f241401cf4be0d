/- Contracts of functions, and plain facts about what they compute. -/
import Derived.Test.YtonmpbfddiflhaaKp
set_option linter.unusedSimpArgs false
set_option linter.unusedVariables false
/- KeysSays. -/
namespace Go.Proofs.Ytonmpbfddiflhaa
open Go.AM
structure RingX (r : AV) (L : List KL) : Prop where
  ring : Ring r L
  bare : AV.bare r = some r
  len : L.length < 2 ^ 62
  sm : ∀ p ∈ L, smK p
structure Fq where
  r : AV
  L : List KL
  sv : List UInt8
  id : List UInt8
  ts : Int
noncomputable def rfdP := relP (fun q : Fq => RingX q.r q.L) (fun q => [q.r, str q.sv, str q.id, .v (.int .i64 q.ts)]) (fun q => findV (findO q.L q.sv q.id q.ts))
theorem rfdP_ok : ∀ xs r, rfdP xs = some r → PureOk (cfgP kr1) 13 xs r := relP_ok fun q h => rfind_ok q.r q.L q.sv q.id q.ts h.ring h.len h.sm
theorem rfdP_eq {r : AV} {L : List KL} {s i : List UInt8} {ts : Int} (h : RingX r L) : rfdP [r, str s, str i, .v (.int .i64 ts)] = some (findV (findO L s i ts)) := relP_eq (X := fun q : Fq => RingX q.r q.L) (a := fun q => [q.r, str q.sv, str q.id, .v (.int .i64 q.ts)]) (r := fun q => findV (findO q.L q.sv q.id q.ts)) (fun q q' hq hq' h => by
  injection h with h1 h
  injection h with h2 h
  injection h with h3 h
  injection h with h4 _
  injection h4 with h4
  injection h4 with _ h4
  have e1 := hq.ring
  rw [h1] at e1
  rw [ring_inj e1 hq'.ring, str_inj h2, str_inj h3, h4]) ⟨r, L, s, i, ts⟩ h
noncomputable def rmyP := relP (fun q : AV × List KL => RingX q.1 q.2) (fun q => [q.1]) (fun q => .v (.bool (mayB q.2)))
theorem rmyP_ok : ∀ xs r, rmyP xs = some r → PureOk (cfgP kr1) 14 xs r := relP_ok fun q h => rmay_ok q.1 q.2 h.ring h.bare h.len h.sm
theorem rmyP_eq {r : AV} {L : List KL} (h : RingX r L) : rmyP [r] = some (.v (.bool (mayB L))) := relP_eq (X := fun q : AV × List KL => RingX q.1 q.2) (a := fun q => [q.1]) (r := fun q => .v (.bool (mayB q.2))) (fun q q' hq hq' h => by
  injection h with h1 h
  have e1 := hq.ring
  rw [h1] at e1
  rw [ring_inj e1 hq'.ring]) (r, L) h
noncomputable def samP := relP (fun q : AV × AV × List KL => Ring q.1 q.2.2 ∧ Ring q.2.1 q.2.2 ∧ q.2.2.length < 2 ^ 62) (fun q => [q.1, q.2.1]) (fun _ => .v (.bool true))
theorem samP_ok : ∀ xs r, samP xs = some r → PureOk (cfgP kr1) 16 xs r := relP_ok fun q h => same_ok q.1 q.2.1 q.2.2 h.1 h.2.1 h.2.2
theorem samP_eq {r r' : AV} {L : List KL} (h : Ring r L) (h' : Ring r' L) (hl : L.length < 2 ^ 62) : samP [r, r'] = some (.v (.bool true)) := relP_eq (X := fun q : AV × AV × List KL => Ring q.1 q.2.2 ∧ Ring q.2.1 q.2.2 ∧ q.2.2.length < 2 ^ 62) (a := fun q => [q.1, q.2.1]) (r := fun _ => .v (.bool true)) (fun _ _ _ _ _ => rfl) (r, r', L) ⟨h, h', hl⟩
noncomputable section
def kq0 : FuncId → Option (List AV → Option AV) := tab [(7, awkP), (9, fndP), (13, rfdP), (11, putP), (14, rmyP), (15, rgdP), (12, gdP), (8, mayP), (16, samP)]
theorem kq0_ok : (cfgP kq0).Ok := cfgOf_ok mixed fok (tab_ok ⟨prim_at Try.func7 (by kernel_rfl) rfl (awkP_ok), prim_at Try.func9 (by kernel_rfl) rfl (fndP_ok), prim_at Try.func13 (by kernel_rfl) rfl (rfdP_ok), prim_at Try.func11 (by kernel_rfl) rfl (putP_ok), prim_at Try.func14 (by kernel_rfl) rfl (rmyP_ok), prim_at Try.func15 (by kernel_rfl) rfl (rgdP_ok), prim_at Try.func12 (by kernel_rfl) rfl (gdP_ok), prim_at Try.func8 (by kernel_rfl) rfl (mayP_ok), prim_at Try.func16 (by kernel_rfl) rfl (samP_ok), trivial⟩)
theorem kq0_7 : (cfgP kq0).prim 7 = some awkP := rfl
theorem kq0_9 : (cfgP kq0).prim 9 = some fndP := rfl
theorem kq0_13 : (cfgP kq0).prim 13 = some rfdP := rfl
theorem kq0_11 : (cfgP kq0).prim 11 = some putP := rfl
theorem kq0_14 : (cfgP kq0).prim 14 = some rmyP := rfl
theorem kq0_15 : (cfgP kq0).prim 15 = some rgdP := rfl
theorem kq0_12 : (cfgP kq0).prim 12 = some gdP := rfl
theorem kq0_8 : (cfgP kq0).prim 8 = some mayP := rfl
theorem kq0_16 : (cfgP kq0).prim 16 = some samP := rfl
end
section
variable {prim : FuncId → Option (List AV → Option AV)}
theorem appKr {r : AV} {L : List KL} (hr : Ring r L) (hl : L.length < 2 ^ 30) : appA (cfgP prim) #[22, 22] [csl [], r] {} = some (csl (avs L), ghp 28 (avs L)) := appKc hr.el hl
theorem appKe {L : List KL} {p : KL} (hl : L.length < 2 ^ 29) : appA (cfgP prim) #[22, 22] [csl (avs L), .cl true [p.1.av]] (ghp 28 (avs L)) = some (.ap 0 (avs (L ++ [p])), ghp 28 (avs (L ++ [p]))) := by
  have := app_clone (prim := prim) (r := .ro (avs L)) (L := L) (p := p) (.inr rfl) hl
  exact this
end
theorem bool_beq (b : Bool) : (b == b) = true := by cases b <;> rfl
set_option maxRecDepth 100000 in
set_option maxHeartbeats 4000000 in
theorem keysSays_core (r : AV) (L : List KL) (p : KL) (sv id : List UInt8) (ts : Int) (hr : rawR r L) (hs : ∀ q ∈ L, smK q) (hp : smK p) : PureOk (cfgP kq0) 5 [r, p.1.av, str sv, str id, .v (.int .i64 ts)] (.v (.bool true)) := by
  obtain ⟨hring, hbr⟩ := rawR_ring hr hs
  have hlen : (L.map fun p => p.1.av).length = L.length := by simp
  have bp := KeyA.bare (pubOf_ok hp.1)
  have fp := KeyA.flat (pubOf_ok hp.1)
  have hav : p.1.av = .agg [str p.1.sv, str p.1.id, p.1.p, .v (.int .i64 p.1.f), .v (.int .i64 p.1.u)] := rfl
  rw [hav]
  by_cases h20 : 20 < L.length
  · have hd : decide ((20 : Int) < ((L.length : Nat) : Int)) = true := decide_eq_true (by omega)
    refine pure_of_wk (call := noCall) (fn := Try.f5) (rs := [.tmp 10]) kq0_ok noCall_ok (fns_cfg Try.func5 rfl) rfl rfl ?_
    intro env hl0 hargs
    have hn : env.length = 112 := hl0
    have h0 := hargs 0 _ rfl
    have h1 := hargs 1 _ rfl
    have h2 := hargs 2 _ rfl
    have h3 := hargs 3 _ rfl
    have h4 := hargs 4 _ rfl
    clear hargs hl0
    refine wkT_of ?_
    simp -dsimp only [hn, h0, h1, h2, h3, h4, ro_cfg 5 6, bxt_ro bp fp, ct_prim kq0_7, awkP, lenK hring.el, hlen, hd, wt_seq, wt_block, wt_region, wt_cond, wt_skip, wt_ret, wt_exit, wst_nil, wst_app_nil, wst_app_cons, wst_cons, wst_guard, andThen_normal, andThen_ret, andThen_exit, leave_normal, leave_ret, leave_exit, EndsA_ret, EndsA_normal, ot_move, ot_assign, ot_pick, ot_binOp, ot_unOp, ot_convert, ot_field, ot_index, ot_indexAddr, ot_fieldAddr, ot_slice, ot_build, ot_buildSlice, ot_extract, ot_makeInterface, ot_makeFunc, ot_nilCheck, ot_call, ot_len, ot_append, ot_box, ot_load, ot_store, ot_makeSlice, ct_bool, ct_true, ct_false, bt_some, gt_some, aval_tmp, aval_int, aval_bool, aval_str, aval_slice, aval_nilPointer, aval_nilIface, aval_func, aval_global, avals, apairs, bareP, AV.bare, AV.bares, bin_lss, bin_leq, bin_gtr, bin_geq, bin_eql, bin_neq, bin_add, bin_sub, bin_mul, bin_and, bin_or, bin_xor, toV_int, toV_bool, toV_string, un_neg, un_not, bin_str_eql, bin_str_neq, bin_str_lss, bin_str_leq, bin_str_gtr, bin_str_geq, aget_aput, length_aput, aput_none, Nat.reduceEqDiff, Nat.reduceLT, Nat.reduceAdd, reduceIte, reduceCtorEq, Bool.not_false, Bool.not_true, Bool.true_or, true_and, Option.bind_some, Option.map_some, List.nil_append, List.cons_append, resA, resA1, resVal, Option.getD_some, Nat.reduceLeDiff, bnd_some, yieldA_eq, yldOf_some, boolOf_bool, boolOf_undef, gt_none, List.getElem?_toArray, List.getElem?_cons_succ, List.getElem?_cons_zero, bq_true, bq_false, decide_true, decide_false, Option.toList_none, Option.toList_some, List.head?_cons, List.head?_nil, nb_cfg, cv_some, pm_some, pm_none, plainA_v, plain_bool, plain_int, plain_str, Bool.false_eq_true, if_false]
    exact ⟨1, rfl⟩
  have hd20 : decide ((20 : Int) < ((L.length : Nat) : Int)) = false := decide_eq_false (by omega)
  have hsm := rawR_small hr hs (by omega)
  have hpp := (pubOf_ok hp.1).2.1
  have hgd := gdP_eq hp.1 hp.2.1 hp.2.2
  have hrg := rgdP_eq p hp
  have hmy := mayP_eq hring hsm
  have hrx : RingX r L := ⟨hring, hbr, by omega, hs⟩
  have hall : ∀ q ∈ L ++ [p], smK q := by
    intro q hq
    rcases List.mem_append.1 hq with hq | hq
    · exact hs q hq
    · rcases List.mem_singleton.1 hq with rfl
      exact hp
  have hr2 : Ring (.ro (avs (L ++ [p]))) (L ++ [p]) := ⟨rfl, fun q hq => (hall q hq).1⟩
  have hr3 : Ring (.ap 0 (avs (L ++ [p]))) (L ++ [p]) := ⟨rfl, fun q hq => (hall q hq).1⟩
  have hrx2 : RingX (.ro (avs (L ++ [p]))) (L ++ [p]) := ⟨hr2, rfl, by simp; omega, hall⟩
  have hput := putP_eq (r := r) (L := L) (p := p) ⟨hr, hs, by simp only; omega, hp⟩
  have hfn := fndP_eq (s := sv) (i := id) (ts := ts) hring hsm
  have hrf := rfdP_eq (s := sv) (i := id) (ts := ts) hrx
  have hbs := bsK (prim := kq0) (k := p.1) fp
  have ha1 := appKr (prim := kq0) hring (by omega)
  have ha2 := appKe (prim := kq0) (L := L) (p := p) (by omega)
  have hsa := samP_eq hr2 hr2 (by simp; omega)
  have hln := lenK (prim := kq0) (x := .v (.slice none 0 0)) (xs := []) rfl
  obtain ⟨o, ho⟩ : ∃ o, o = findO L sv id ts := ⟨_, rfl⟩
  rw [← ho] at hfn hrf
  have hel := convB (prim := kq0) (findA_el o)
  have hrm := rmyP_eq hrx
  have hrm2 := rmyP_eq hrx2
  unfold putV at hput
  rw [hav] at hput ha2 hbs hrg
  have hI1 : decide ((1 : Int) = 0) = false := rfl
  have hI2 : decide ((12 : Int) = 0) = false := rfl
  have key : mayB L = false ∨ (mayB L = true ∧ goodB p.1 p.2 = false) ∨ (mayB L = true ∧ goodB p.1 p.2 = true ∧ mayB (L ++ [p]) = false) ∨ (mayB L = true ∧ goodB p.1 p.2 = true ∧ mayB (L ++ [p]) = true) := by
    cases mayB L <;> cases goodB p.1 p.2 <;> cases mayB (L ++ [p]) <;> simp
  rcases key with hm | ⟨hm, hg⟩ | ⟨hm, hg, hm2⟩ | ⟨hm, hg, hm2⟩
  all_goals
    rw [hm] at hmy hrm hput
    (try rw [hg] at hgd hrg hput)
    (try rw [hm2] at hrm2 hput)
    simp only [Bool.and_true, Bool.true_and, Bool.and_false, Bool.false_and, Bool.and_self, if_true, Bool.false_eq_true, if_false] at hput
    refine pure_of_wk (call := noCall) (fn := Try.f5) (rs := [.tmp 10]) kq0_ok noCall_ok (fns_cfg Try.func5 rfl) rfl rfl ?_
    intro env hl0 hargs
    have hn : env.length = 112 := hl0
    have h0 := hargs 0 _ rfl
    have h1 := hargs 1 _ rfl
    have h2 := hargs 2 _ rfl
    have h3 := hargs 3 _ rfl
    have h4 := hargs 4 _ rfl
    clear hargs hl0
    refine wkT_of ?_
    simp -dsimp only [hn, h0, h1, h2, h3, h4, ro_cfg 5 6, bxt_ro bp fp, ct_prim kq0_7, awkP, lenK hring.el, hlen, hd20, ct_prim kq0_9, ct_prim kq0_13, ct_prim kq0_11, ct_prim kq0_14, ct_prim kq0_15, ct_prim kq0_12, ct_prim kq0_8, ct_prim kq0_16, hbr, bare_s, hpp, hfn, hrf, findV_eq, AV.cells, ptK, hput, bs22e, ha1, hbs, ha2, hrm, hrm2, hrg, hgd, hmy, bool_eql, bool_beq, hel, eq_self, hsa, hln, List.length_nil, hI1, hI2, Int.ofNat_zero, Int.natCast_zero, Int.cast_ofNat_Int, wt_seq, wt_block, wt_region, wt_cond, wt_skip, wt_ret, wt_exit, wst_nil, wst_app_nil, wst_app_cons, wst_cons, wst_guard, andThen_normal, andThen_ret, andThen_exit, leave_normal, leave_ret, leave_exit, EndsA_ret, EndsA_normal, ot_move, ot_assign, ot_pick, ot_binOp, ot_unOp, ot_convert, ot_field, ot_index, ot_indexAddr, ot_fieldAddr, ot_slice, ot_build, ot_buildSlice, ot_extract, ot_makeInterface, ot_makeFunc, ot_nilCheck, ot_call, ot_len, ot_append, ot_box, ot_load, ot_store, ot_makeSlice, ct_bool, ct_true, ct_false, bt_some, gt_some, aval_tmp, aval_int, aval_bool, aval_str, aval_slice, aval_nilPointer, aval_nilIface, aval_func, aval_global, avals, apairs, bareP, AV.bare, AV.bares, bin_lss, bin_leq, bin_gtr, bin_geq, bin_eql, bin_neq, bin_add, bin_sub, bin_mul, bin_and, bin_or, bin_xor, toV_int, toV_bool, toV_string, un_neg, un_not, bin_str_eql, bin_str_neq, bin_str_lss, bin_str_leq, bin_str_gtr, bin_str_geq, aget_aput, length_aput, aput_none, Nat.reduceEqDiff, Nat.reduceLT, Nat.reduceAdd, reduceIte, reduceCtorEq, Bool.not_false, Bool.not_true, Bool.true_or, true_and, Option.bind_some, Option.map_some, List.nil_append, List.cons_append, resA, resA1, resVal, Option.getD_some, Nat.reduceLeDiff, bnd_some, yieldA_eq, yldOf_some, boolOf_bool, boolOf_undef, gt_none, List.getElem?_toArray, List.getElem?_cons_succ, List.getElem?_cons_zero, bq_true, bq_false, decide_true, decide_false, Option.toList_none, Option.toList_some, List.head?_cons, List.head?_nil, nb_cfg, cv_some, pm_some, pm_none, plainA_v, plain_bool, plain_int, plain_str, Bool.false_eq_true, if_false]
    exact ⟨by kernel_rfl, by kernel_rfl, 1, rfl⟩
end Go.Proofs.Ytonmpbfddiflhaa
