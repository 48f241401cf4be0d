/- Contracts of functions, and plain facts about what they compute. -/
import Derived.Test.YtjejeijldllloaaDoorWc
import Derived.Test.YtjejeijldllloaaDoorAmD
set_option linter.unusedSimpArgs false
set_option linter.unusedVariables false
/- Chapter 2: how each kind's values are asked: bare, bit, number, text; ask. -/
namespace Go.Proofs.YtjejeijldllloaaDoor
open Go.AM
section
variable {prim : FuncId → Option (List AV → Option AV)}
theorem ofs {x : AV} {j : Nat} : (fieldAddrA (cfgP prim) 125 (.rp x j) 1 = some (.rp x (j + 1)) ∧ fieldAddrA (cfgP prim) 125 (.rp x j) 2 = some (.rp x (j + 2))) ∧ fieldAddrA (cfgP prim) 125 (.rp x j) 3 = some (.rp x (j + 3)) ∧ fieldAddrA (cfgP prim) 125 (.rp x j) 4 = some (.rp x (j + 4)) := by
  refine ⟨⟨?_, ?_⟩, ?_, ?_⟩ <;> kernel_rfl
theorem of1 {x : AV} {j : Nat} : fieldAddrA (cfgP prim) 125 (.rp x j) 1 = some (.rp x (j + 1)) := ofs.1.1
theorem of2 {x : AV} {j : Nat} : fieldAddrA (cfgP prim) 125 (.rp x j) 2 = some (.rp x (j + 2)) := ofs.1.2
theorem of3 {x : AV} {j : Nat} : fieldAddrA (cfgP prim) 125 (.rp x j) 3 = some (.rp x (j + 3)) := ofs.2.1
theorem of4 {x : AV} {j : Nat} : fieldAddrA (cfgP prim) 125 (.rp x j) 4 = some (.rp x (j + 4)) := ofs.2.2
theorem ogs {b g i j : Nat} : (fieldAddrA (cfgP prim) 125 (.ptr b g i j) 1 = some (.ptr b g i (j + 1)) ∧ fieldAddrA (cfgP prim) 125 (.ptr b g i j) 2 = some (.ptr b g i (j + 2))) ∧ fieldAddrA (cfgP prim) 125 (.ptr b g i j) 3 = some (.ptr b g i (j + 3)) ∧ fieldAddrA (cfgP prim) 125 (.ptr b g i j) 4 = some (.ptr b g i (j + 4)) := by
  refine ⟨⟨?_, ?_⟩, ?_, ?_⟩ <;> kernel_rfl
theorem og1 {b g i j : Nat} : fieldAddrA (cfgP prim) 125 (.ptr b g i j) 1 = some (.ptr b g i (j + 1)) := ogs.1.1
theorem og2 {b g i j : Nat} : fieldAddrA (cfgP prim) 125 (.ptr b g i j) 2 = some (.ptr b g i (j + 2)) := ogs.1.2
theorem og3 {b g i j : Nat} : fieldAddrA (cfgP prim) 125 (.ptr b g i j) 3 = some (.ptr b g i (j + 3)) := ogs.2.1
theorem og4 {b g i j : Nat} : fieldAddrA (cfgP prim) 125 (.ptr b g i j) 4 = some (.ptr b g i (j + 4)) := ogs.2.2
theorem op125 {cs : List AV} (h : cs.length = 5) : partA (cfgP prim) 125 cs 0 = some (.agg cs) := by
  have h1 : isAggT (cfgP prim) 125 = some true := by kernel_rfl
  have h2 : (cfgP prim).csz 125 = some 5 := by kernel_rfl
  simp only [partA, h1, h2]
  rw [if_pos (by omega), List.drop_zero, ← h, List.take_length]
theorem g125 : genOf (cfgP prim) 125 = 0 := by kernel_rfl
theorem g39 : genOf (cfgP prim) 39 = 0 := by kernel_rfl
theorem bx_o {Q : AV → Hp → Nat → Prop} {u : Tag Q} {cs : List AV} (h5 : cs.length = 5) (hf : cs.all AV.flat = true) : boxT Q u 0 false (.agg cs) {} = Q (.ptr 0 0 0 0) (nH [⟨0, 5, [.agg cs]⟩]) 2 := by
  rw [bxt_rw (by exact hf), show (AV.agg cs).cells.length = 5 from h5]
  rfl
theorem o_blk {x : AV} {ext : List Blk} : blkAt (nH (⟨0, 5, [x]⟩ :: ext)) 0 0 = some ⟨0, 5, [x]⟩ := rfl
theorem o_st {t : TypeId} {j : Nat} {x : AV} {cs cs' : List AV} (ext : List Blk) (hc : (cfgP prim).csz t = some 1) (hx : x.cells = [x]) (hf : x.flat = true) (hj : j < cs.length) (hs : cs.set j x = cs') : storeA (cfgP prim) t 0 0 0 j x (nH (⟨0, 5, [.agg cs]⟩ :: ext)) = some (nH (⟨0, 5, [.agg cs']⟩ :: ext)) := by
  have h1 : setCells (.agg cs) j [x] = some (.agg cs') := by
    unfold setCells
    simp only [List.length_cons, List.length_nil]
    rw [if_pos (by omega), ← hs, List.set_eq_take_append_cons_drop, if_pos hj]
    simp
  simp only [storeA, o_blk, List.getElem?_cons_zero, hx, hc, List.length_cons, List.length_nil, Nat.zero_add, List.all_cons, List.all_nil, hf, Bool.and_self, and_self, if_true, h1, Option.map_some]
  rfl
end
/-- Nothing but its kind. -/
def GV.bareB : GV → Bool
  | .mk _ n s l m => decide (n = 0) && decide (s = []) && decide ((l.length : Int) = 0) && decide ((m.length : Int) = 0)
def bareA (v : GV) : AV := .v (.bool v.bareB)
set_option maxHeartbeats 4000000 in
set_option maxRecDepth 100000 in
theorem bare_ok : ∀ {v : GV} {x : AV} (h : FV v x), PureOk (cfgP fun _ => none) 111 [x] (bareA v)
  | .mk k n s l m, x, h => by
    have hb := h.bare
    have hfl : x.cells.all AV.flat = true := by
      obtain ⟨cs, e, _, _, hf⟩ := h.shape
      rw [e]
      exact hf
    obtain ⟨L, M, xs, ys, rfl, hL, hM, _, _, _, _, _, _, _, hl, hm, hv, hw⟩ := h
    have hxl := hv.len
    have hyl := hw.len
    have r1 : (cfgP fun _ => none).roBox 111 1 = true := rfl
    obtain ⟨cs, hcs⟩ : ∃ cs : List AV, cs = [.v (.int .i64 k), .v (.int .i64 n), str s, L, M] := ⟨_, rfl⟩
    rw [← hcs] at hb hfl ⊢
    have g1 : cs[1]? = some (.v (.int .i64 n)) := by rw [hcs]; rfl
    have g2 : cs[2]? = some (str s) := by rw [hcs]; rfl
    have g3 : cs[3]? = some L := by rw [hcs]; rfl
    have g4 : cs[4]? = some M := by rw [hcs]; rfl
    have e0 : (AV.v (.string { data := #[] })) = str [] := rfl
    clear hcs
    refine pure_of_wk (call := noCall) (fn := Tryd.f111) (rs := [.tmp 2]) cokN noCall_ok (fns_cfg Tryd.func111 rfl) rfl rfl ?_
    intro env hl0 hargs
    have hn : env.length = 23 := hl0
    have h0 := hargs 0 _ rfl
    clear hargs hl0
    refine wkT_of ?_
    rw [fe_self hn]
    (try simp -dsimp (disch := omega) only [h0, r1, bxt_ro hb hfl, of1, vp2, cellsA, g1, AS, avals, apairs, bareP, AV.bare, AV.bares, Nat.reduceEqDiff, Nat.reduceLT, Nat.reduceAdd, ↓reduceIte, reduceCtorEq, resA, resA1, resVal, Nat.reduceLeDiff, nb_cfg, Nat.reduceBEq, AX, Int.reduceLT, Int.reduceLE, Int.reduceEq, Int.reduceAdd, Int.reduceSub, Int.reduceMul, Int.reduceNeg, Int.reduceNe])
    repeat (apply gm_step; (case h1 => intro hg; (try simp only [Bool.and_eq_true, Bool.not_eq_true', Bool.or_eq_false_iff, Bool.not_or, Bool.not_not] at hg); simp -dsimp only [fe_get, fe_put, fe_len, upd_app, of1, of2, of3, of4, vp2, mp9, vp36, vp37, cellsA, g1, g2, g3, g4, len36 hL, len37 hM, hxl, hyl, e0, hg, Bool.and_true, Bool.true_and, Bool.or_false, Bool.not_false, Bool.not_true, pk_or, pk_and, pk_and', pk_or', AS, bin_and, bin_or, bin_xor, avals, apairs, bareP, AV.bare, AV.bares, Nat.reduceEqDiff, Nat.reduceLT, Nat.reduceAdd, ↓reduceIte, reduceCtorEq, resA, resA1, resVal, Nat.reduceLeDiff, nb_cfg, Nat.reduceBEq]; exact ⟨rfl, rfl, rfl⟩); (try simp -dsimp only [fe_get, fe_put, fe_len, upd_app, of1, of2, of3, of4, vp2, mp9, vp36, vp37, cellsA, g1, g2, g3, g4, len36 hL, len37 hM, hxl, hyl, e0, pk_and, pk_or, pk_and', pk_or', gt_ite, ite_self, AS, bin_and, bin_or, bin_xor, avals, apairs, bareP, AV.bare, AV.bares, Nat.reduceEqDiff, Nat.reduceLT, Nat.reduceAdd, ↓reduceIte, reduceCtorEq, resA, resA1, resVal, Nat.reduceLeDiff, nb_cfg, Nat.reduceBEq]))
    exact ⟨1, rfl⟩
noncomputable def bi1 : FuncId → Option (List AV → Option AV) := tab [(111, (vP bareA)), (22, validP)]
theorem bi1_ok : (cfgP bi1).Ok := cfg_ok (tab_ok ⟨prim_at Tryd.func111 (by kernel_rfl) rfl ((vP_ok (R := fun xs y => PureOk (cfgP fun _ => none) 111 xs y) fun v x h _ => bare_ok h)), prim_at Tryd.func22 (by kernel_rfl) rfl ((s1P_of (X := fun xs y => PureOk (cfgP fun _ => none) 22 xs y) fun l h => pureOk_prim (good_ok l h))), trivial⟩)
theorem bi1_111 : (cfgP bi1).prim 111 = some (vP bareA) := rfl
theorem bi1_22 : (cfgP bi1).prim 22 = some validP := rfl
def GV.bitB : GV → Bool
  | .mk k n s l m => (GV.mk k 0 s l m).bareB && (decide (n = 0) || decide (n = 1))
def GV.numB : GV → Bool
  | .mk k n s l m => (GV.mk k 0 s l m).bareB && decide (-9007199254740991 ≤ n) && decide (n ≤ 9007199254740991)
def GV.textB : GV → Bool
  | .mk k n s l m => (GV.mk k n [] l m).bareB && utfB s
def bitA (v : GV) : AV := .v (.bool v.bitB)
def numA (v : GV) : AV := .v (.bool v.numB)
def textA (v : GV) : AV := .v (.bool v.textB)
set_option maxHeartbeats 4000000 in
set_option maxRecDepth 100000 in
theorem bit_ok : ∀ {v : GV} {x : AV} (h : FV v x) (hs : v.sml), PureOk (cfgP bi1) 112 [x] (bitA v)
  | .mk k n s l m, x, h, hs => by
    have h5 := h.shape
    obtain ⟨L, M, xs, ys, rfl, hL, hM, k1, k2, b1, b2, f1, f2, sl, hl, hm, hv, hw⟩ := h
    have h' : FV (.mk k 0 s l m) (.agg [.v (.int .i64 k), .v (.int .i64 0), str s, L, M]) := ⟨L, M, xs, ys, rfl, hL, hM, k1, k2, b1, b2, f1, f2, sl, hl, hm, hv, hw⟩
    have q := vP_eq (r := bareA) h' hs
    have hb' := h'.bs
    have h5' := h'.l5
    obtain ⟨cs0, e, l5, _, hf⟩ := h5
    injection e with e
    subst e
    have r1 : (cfgP bi1).roBox 112 1 = false := rfl
    have st := o_st (prim := bi1) (t := 2) (j := 1) (x := .v (.int .i64 0)) (cs := [.v (.int .i64 k), .v (.int .i64 n), str s, L, M]) [] (by kernel_rfl) rfl rfl (by simp) rfl
    obtain ⟨B, hB⟩ : ∃ B, (GV.mk k 0 s l m).bareB = B := ⟨_, rfl⟩
    have hr : bitA (.mk k n s l m) = .v (.bool (B && (decide (n = 0) || decide (n = 1)))) := by rw [← hB]; rfl
    rw [hr]
    rw [show bareA (GV.mk k 0 s l m) = .v (.bool B) by rw [← hB]; rfl] at q
    obtain ⟨cs, hcs⟩ : ∃ cs : List AV, cs = [.v (.int .i64 k), .v (.int .i64 n), str s, L, M] := ⟨_, rfl⟩
    obtain ⟨cs', hcs'⟩ : ∃ cs : List AV, cs = [.v (.int .i64 k), .v (.int .i64 0), str s, L, M] := ⟨_, rfl⟩
    have hse : ([.v (.int .i64 k), .v (.int .i64 n), str s, L, M] : List AV).set 1 (.v (.int .i64 0)) = cs' := by rw [hcs']; rfl
    rw [hse] at st
    rw [← hcs'] at q hb' h5'
    have g1 : cs[1]? = some (.v (.int .i64 n)) := by rw [hcs]; rfl
    rw [← hcs] at l5 hf st ⊢
    clear hcs hcs' hse
    refine pure_of_wk (call := noCall) (fn := Tryd.f112) (rs := [.tmp 2]) bi1_ok noCall_ok (fns_cfg Tryd.func112 rfl) rfl rfl ?_
    intro env hl0 hargs
    have hn : env.length = 17 := hl0
    have h0 := hargs 0 _ rfl
    clear hargs hl0
    refine wkT_of ?_
    rw [fe_self hn]
    (try simp -dsimp (disch := omega) only [h0, r1, g125, bx_o l5 hf, og1, vp2, o_blk, cellsA, g1, st, op125 h5', ct_prim bi1_111, hb', q, AS, avals, apairs, bareP, AV.bare, AV.bares, Nat.reduceEqDiff, Nat.reduceLT, Nat.reduceAdd, ↓reduceIte, reduceCtorEq, resA, resA1, resVal, Nat.reduceLeDiff, nb_cfg, Nat.reduceBEq, AX, Int.reduceLT, Int.reduceLE, Int.reduceEq, Int.reduceAdd, Int.reduceSub, Int.reduceMul, Int.reduceNeg, Int.reduceNe])
    repeat (apply gm_step; (case h1 => intro hg; (try simp only [Bool.and_eq_true, Bool.not_eq_true', Bool.or_eq_false_iff, Bool.not_or, Bool.not_not] at hg); simp -dsimp only [fe_get, fe_put, fe_len, upd_app, h0, hg, Bool.and_true, Bool.true_and, Bool.or_false, Bool.not_false, Bool.not_true, pk_or, pk_and, pk_and', pk_or', AS, bin_and, bin_or, bin_xor, avals, apairs, bareP, AV.bare, AV.bares, Nat.reduceEqDiff, Nat.reduceLT, Nat.reduceAdd, ↓reduceIte, reduceCtorEq, resA, resA1, resVal, Nat.reduceLeDiff, nb_cfg, Nat.reduceBEq]; exact ⟨rfl, rfl, rfl⟩); (try simp -dsimp only [fe_get, fe_put, fe_len, upd_app, h0, pk_and, pk_or, pk_and', pk_or', gt_ite, ite_self, AS, bin_and, bin_or, bin_xor, avals, apairs, bareP, AV.bare, AV.bares, Nat.reduceEqDiff, Nat.reduceLT, Nat.reduceAdd, ↓reduceIte, reduceCtorEq, resA, resA1, resVal, Nat.reduceLeDiff, nb_cfg, Nat.reduceBEq]))
    exact ⟨1, rfl⟩
end Go.Proofs.YtjejeijldllloaaDoor

/- Chapter 2: how each kind's values are asked: number, text; ask. -/
namespace Go.Proofs.YtjejeijldllloaaDoor
open Go.AM
set_option maxHeartbeats 4000000 in
set_option maxRecDepth 100000 in
theorem num_ok : ∀ {v : GV} {x : AV} (h : FV v x) (hs : v.sml), PureOk (cfgP bi1) 113 [x] (numA v)
  | .mk k n s l m, x, h, hs => by
    have h5 := h.shape
    obtain ⟨L, M, xs, ys, rfl, hL, hM, k1, k2, b1, b2, f1, f2, sl, hl, hm, hv, hw⟩ := h
    have h' : FV (.mk k 0 s l m) (.agg [.v (.int .i64 k), .v (.int .i64 0), str s, L, M]) := ⟨L, M, xs, ys, rfl, hL, hM, k1, k2, b1, b2, f1, f2, sl, hl, hm, hv, hw⟩
    have q := vP_eq (r := bareA) h' hs
    have hb' := h'.bs
    have h5' := h'.l5
    obtain ⟨cs0, e, l5, _, hf⟩ := h5
    injection e with e
    subst e
    have r1 : (cfgP bi1).roBox 113 1 = false := rfl
    have st := o_st (prim := bi1) (t := 2) (j := 1) (x := .v (.int .i64 0)) (cs := [.v (.int .i64 k), .v (.int .i64 n), str s, L, M]) [] (by kernel_rfl) rfl rfl (by simp) rfl
    obtain ⟨B, hB⟩ : ∃ B, (GV.mk k 0 s l m).bareB = B := ⟨_, rfl⟩
    have hr : numA (.mk k n s l m) = .v (.bool (B && decide (-9007199254740991 ≤ n) && decide (n ≤ 9007199254740991))) := by rw [← hB]; rfl
    rw [hr]
    rw [show bareA (GV.mk k 0 s l m) = .v (.bool B) by rw [← hB]; rfl] at q
    obtain ⟨cs, hcs⟩ : ∃ cs : List AV, cs = [.v (.int .i64 k), .v (.int .i64 n), str s, L, M] := ⟨_, rfl⟩
    obtain ⟨cs', hcs'⟩ : ∃ cs : List AV, cs = [.v (.int .i64 k), .v (.int .i64 0), str s, L, M] := ⟨_, rfl⟩
    have hse : ([.v (.int .i64 k), .v (.int .i64 n), str s, L, M] : List AV).set 1 (.v (.int .i64 0)) = cs' := by rw [hcs']; rfl
    rw [hse] at st
    rw [← hcs'] at q hb' h5'
    have g1 : cs[1]? = some (.v (.int .i64 n)) := by rw [hcs]; rfl
    rw [← hcs] at l5 hf st ⊢
    clear hcs hcs' hse
    refine pure_of_wk (call := noCall) (fn := Tryd.f113) (rs := [.tmp 2]) bi1_ok noCall_ok (fns_cfg Tryd.func113 rfl) rfl rfl ?_
    intro env hl0 hargs
    have hn : env.length = 17 := hl0
    have h0 := hargs 0 _ rfl
    clear hargs hl0
    refine wkT_of ?_
    rw [fe_self hn]
    (try simp -dsimp (disch := omega) only [h0, r1, g125, bx_o l5 hf, og1, vp2, o_blk, cellsA, g1, st, op125 h5', ct_prim bi1_111, hb', q, AS, avals, apairs, bareP, AV.bare, AV.bares, Nat.reduceEqDiff, Nat.reduceLT, Nat.reduceAdd, ↓reduceIte, reduceCtorEq, resA, resA1, resVal, Nat.reduceLeDiff, nb_cfg, Nat.reduceBEq, AX, Int.reduceLT, Int.reduceLE, Int.reduceEq, Int.reduceAdd, Int.reduceSub, Int.reduceMul, Int.reduceNeg, Int.reduceNe])
    repeat (apply gm_step; (case h1 => intro hg; (try simp only [Bool.and_eq_true, Bool.not_eq_true', Bool.or_eq_false_iff, Bool.not_or, Bool.not_not] at hg); simp -dsimp only [fe_get, fe_put, fe_len, upd_app, h0, hg, Bool.and_true, Bool.true_and, Bool.or_false, Bool.not_false, Bool.not_true, pk_or, pk_and, pk_and', pk_or', AS, bin_and, bin_or, bin_xor, avals, apairs, bareP, AV.bare, AV.bares, Nat.reduceEqDiff, Nat.reduceLT, Nat.reduceAdd, ↓reduceIte, reduceCtorEq, resA, resA1, resVal, Nat.reduceLeDiff, nb_cfg, Nat.reduceBEq]; exact ⟨rfl, rfl, rfl⟩); (try simp -dsimp only [fe_get, fe_put, fe_len, upd_app, h0, pk_and, pk_or, pk_and', pk_or', gt_ite, ite_self, AS, bin_and, bin_or, bin_xor, avals, apairs, bareP, AV.bare, AV.bares, Nat.reduceEqDiff, Nat.reduceLT, Nat.reduceAdd, ↓reduceIte, reduceCtorEq, resA, resA1, resVal, Nat.reduceLeDiff, nb_cfg, Nat.reduceBEq]))
    exact ⟨1, rfl⟩
set_option maxHeartbeats 4000000 in
set_option maxRecDepth 100000 in
theorem textB_ok : ∀ {v : GV} {x : AV} (h : FV v x) (hs : v.sml), PureOk (cfgP bi1) 114 [x] (textA v)
  | .mk k n s l m, x, h, hs => by
    have h5 := h.shape
    obtain ⟨L, M, xs, ys, rfl, hL, hM, k1, k2, b1, b2, f1, f2, sl, hl, hm, hv, hw⟩ := h
    have h' : FV (.mk k n [] l m) (.agg [.v (.int .i64 k), .v (.int .i64 n), str [], L, M]) := ⟨L, M, xs, ys, rfl, hL, hM, k1, k2, b1, b2, f1, f2, by simp, hl, hm, hv, hw⟩
    have q := vP_eq (r := bareA) h' ⟨by simp, hs.2⟩
    have qs := validP_eq (l := s) (by have := hs.1; omega)
    have hb' := h'.bs
    have h5' := h'.l5
    obtain ⟨cs0, e, l5, _, hf⟩ := h5
    injection e with e
    subst e
    have r1 : (cfgP bi1).roBox 114 1 = false := rfl
    have e0 : (AV.v (.string { data := #[] })) = str [] := rfl
    have st := o_st (prim := bi1) (t := 9) (j := 2) (x := str []) (cs := [.v (.int .i64 k), .v (.int .i64 n), str s, L, M]) [] (by kernel_rfl) rfl rfl (by simp) rfl
    obtain ⟨B, hB⟩ : ∃ B, (GV.mk k n [] l m).bareB = B := ⟨_, rfl⟩
    have hr : textA (.mk k n s l m) = .v (.bool (B && utfB s)) := by rw [← hB]; rfl
    rw [hr]
    rw [show bareA (GV.mk k n [] l m) = .v (.bool B) by rw [← hB]; rfl] at q
    obtain ⟨cs, hcs⟩ : ∃ cs : List AV, cs = [.v (.int .i64 k), .v (.int .i64 n), str s, L, M] := ⟨_, rfl⟩
    obtain ⟨cs', hcs'⟩ : ∃ cs : List AV, cs = [.v (.int .i64 k), .v (.int .i64 n), str [], L, M] := ⟨_, rfl⟩
    have hse : ([.v (.int .i64 k), .v (.int .i64 n), str s, L, M] : List AV).set 2 (str []) = cs' := by rw [hcs']; rfl
    rw [hse] at st
    rw [← hcs'] at q hb' h5'
    have g2 : cs[2]? = some (str s) := by rw [hcs]; rfl
    rw [← hcs] at l5 hf st ⊢
    clear hcs hcs' hse
    refine pure_of_wk (call := noCall) (fn := Tryd.f114) (rs := [.tmp 2]) bi1_ok noCall_ok (fns_cfg Tryd.func114 rfl) rfl rfl ?_
    intro env hl0 hargs
    have hn : env.length = 13 := hl0
    have h0 := hargs 0 _ rfl
    clear hargs hl0
    refine wkT_of ?_
    rw [fe_self hn]
    (try simp -dsimp (disch := omega) only [h0, r1, g125, bx_o l5 hf, og2, mp9, o_blk, cellsA, g2, e0, st, op125 h5', ct_prim bi1_111, hb', q, AS, avals, apairs, bareP, AV.bare, AV.bares, Nat.reduceEqDiff, Nat.reduceLT, Nat.reduceAdd, ↓reduceIte, reduceCtorEq, resA, resA1, resVal, Nat.reduceLeDiff, nb_cfg, Nat.reduceBEq, AX, Int.reduceLT, Int.reduceLE, Int.reduceEq, Int.reduceAdd, Int.reduceSub, Int.reduceMul, Int.reduceNeg, Int.reduceNe])
    repeat (apply gm_step; (case h1 => intro hg; (try simp only [Bool.and_eq_true, Bool.not_eq_true', Bool.or_eq_false_iff, Bool.not_or, Bool.not_not] at hg); simp -dsimp only [fe_get, fe_put, fe_len, upd_app, h0, ct_prim bi1_22, bare_s, qs, hg, Bool.and_true, Bool.true_and, Bool.or_false, Bool.not_false, Bool.not_true, pk_or, pk_and, pk_and', pk_or', AS, bin_and, bin_or, bin_xor, avals, apairs, bareP, AV.bare, AV.bares, Nat.reduceEqDiff, Nat.reduceLT, Nat.reduceAdd, ↓reduceIte, reduceCtorEq, resA, resA1, resVal, Nat.reduceLeDiff, nb_cfg, Nat.reduceBEq]; exact ⟨rfl, rfl, rfl⟩); (try simp -dsimp only [fe_get, fe_put, fe_len, upd_app, h0, ct_prim bi1_22, bare_s, qs, pk_and, pk_or, pk_and', pk_or', gt_ite, ite_self, AS, bin_and, bin_or, bin_xor, avals, apairs, bareP, AV.bare, AV.bares, Nat.reduceEqDiff, Nat.reduceLT, Nat.reduceAdd, ↓reduceIte, reduceCtorEq, resA, resA1, resVal, Nat.reduceLeDiff, nb_cfg, Nat.reduceBEq]))
    exact ⟨1, rfl⟩
theorem aval_nilFunc {C : Cfg} {env : Env} : aval C env (.const .nilFunc) = some (.v .nilFunc) := rfl
/-- How a kind is asked. -/
def askK (k : Int) : AV :=
  if k = 0 then .tup [.fn (.func 111) [] [], .v (.bool true)]
  else if k = 1 then .tup [.fn (.func 112) [] [], .v (.bool true)]
  else if k = 2 then .tup [.fn (.func 113) [] [], .v (.bool true)]
  else if k = 3 then .tup [.fn (.func 114) [] [], .v (.bool true)]
  else if k = 4 then .tup [.fn (.func 115) [] [], .v (.bool true)]
  else if k = 5 then .tup [.fn (.func 116) [] [], .v (.bool true)]
  else .tup [.v .nilFunc, .v (.bool false)]
def kinds : List AV := [.fn (.func 111) [] [], .fn (.func 112) [] [], .fn (.func 113) [] [], .fn (.func 114) [] [], .fn (.func 115) [] [], .fn (.func 116) [] []]
def z138 : AV := .agg (List.replicate 6 (.v .nilFunc))
section
variable {prim : FuncId → Option (List AV → Option AV)}
theorem k_build : buildA (cfgP prim) 138 [(0, .fn (.func 111) [] []), (1, .fn (.func 112) [] []), (2, .fn (.func 113) [] []), (3, .fn (.func 114) [] []), (4, .fn (.func 115) [] []), (5, .fn (.func 116) [] [])] = some (.agg kinds) := by kernel_rfl
theorem k_alloc : allocA (cfgP prim) 138 false {} = some (.ptr 0 0 0 0, nH [⟨0, 6, [z138]⟩], 4) := by kernel_rfl
theorem k_store : storeA (cfgP prim) 138 0 0 0 0 (.agg kinds) (nH [⟨0, 6, [z138]⟩]) = some (nH [⟨0, 6, [.agg kinds]⟩]) := by kernel_rfl
theorem k_blk : blkAt (nH [⟨0, 6, [.agg kinds]⟩]) 0 0 = some ⟨0, 6, [.agg kinds]⟩ := rfl
theorem k_ix0 : indexAddrA (cfgP prim) 138 (.ptr 0 0 0 0) (.v (.int .i64 0)) = some (.ptr 0 0 0 0) := by kernel_rfl
theorem k_ix1 : indexAddrA (cfgP prim) 138 (.ptr 0 0 0 0) (.v (.int .i64 1)) = some (.ptr 0 0 0 1) := by kernel_rfl
theorem k_ix2 : indexAddrA (cfgP prim) 138 (.ptr 0 0 0 0) (.v (.int .i64 2)) = some (.ptr 0 0 0 2) := by kernel_rfl
theorem k_ix3 : indexAddrA (cfgP prim) 138 (.ptr 0 0 0 0) (.v (.int .i64 3)) = some (.ptr 0 0 0 3) := by kernel_rfl
theorem k_ix4 : indexAddrA (cfgP prim) 138 (.ptr 0 0 0 0) (.v (.int .i64 4)) = some (.ptr 0 0 0 4) := by kernel_rfl
theorem k_ix5 : indexAddrA (cfgP prim) 138 (.ptr 0 0 0 0) (.v (.int .i64 5)) = some (.ptr 0 0 0 5) := by kernel_rfl
theorem k_part {j : Nat} : partA (cfgP prim) 122 kinds j = kinds[j]? := by kernel_rfl
end
theorem k_get : ((kinds[0]? = some (.fn (.func 111) [] []) ∧ kinds[1]? = some (.fn (.func 112) [] [])) ∧ kinds[2]? = some (.fn (.func 113) [] []) ∧ kinds[3]? = some (.fn (.func 114) [] [])) ∧ kinds[4]? = some (.fn (.func 115) [] []) ∧ kinds[5]? = some (.fn (.func 116) [] []) := ⟨⟨⟨rfl, rfl⟩, rfl, rfl⟩, rfl, rfl⟩
set_option maxHeartbeats 4000000 in
set_option maxRecDepth 100000 in
theorem ask_ok (k : Int) : PureOk (cfgP fun _ => none) 98 [.v (.int .i64 k)] (askK k) := by
  have r4 : (cfgP fun _ => none).roBox 98 4 = false := rfl
  by_cases k0 : k = 0
  · subst k0
    refine pure_of_wk (call := noCall) (fn := Tryd.f98) (rs := [.tmp 2, .tmp 3]) cokN noCall_ok (fns_cfg Tryd.func98 rfl) rfl rfl ?_
    intro env hl0 hargs
    have hn : env.length = 15 := hl0
    have h0 := hargs 0 _ rfl
    clear hargs hl0
    refine wkT_of ?_
    rw [fe_self hn]
    (try simp -dsimp (disch := omega) only [aval_nilFunc, h0, r4, k_build, k_alloc, k_store, k_blk, k_ix0, k_part, cellsA, k_get.1.1.1, AS, avals, apairs, bareP, AV.bare, AV.bares, Nat.reduceEqDiff, Nat.reduceLT, Nat.reduceAdd, ↓reduceIte, reduceCtorEq, resA, resA1, resVal, Nat.reduceLeDiff, nb_cfg, Nat.reduceBEq, AX, Int.reduceLT, Int.reduceLE, Int.reduceEq, Int.reduceAdd, Int.reduceSub, Int.reduceMul, Int.reduceNeg, Int.reduceNe])
    exact ⟨5, rfl⟩
  by_cases k1 : k = 1
  · subst k1
    refine pure_of_wk (call := noCall) (fn := Tryd.f98) (rs := [.tmp 2, .tmp 3]) cokN noCall_ok (fns_cfg Tryd.func98 rfl) rfl rfl ?_
    intro env hl0 hargs
    have hn : env.length = 15 := hl0
    have h0 := hargs 0 _ rfl
    clear hargs hl0
    refine wkT_of ?_
    rw [fe_self hn]
    (try simp -dsimp (disch := omega) only [aval_nilFunc, h0, r4, k_build, k_alloc, k_store, k_blk, k_ix1, k_part, cellsA, k_get.1.1.2, AS, avals, apairs, bareP, AV.bare, AV.bares, Nat.reduceEqDiff, Nat.reduceLT, Nat.reduceAdd, ↓reduceIte, reduceCtorEq, resA, resA1, resVal, Nat.reduceLeDiff, nb_cfg, Nat.reduceBEq, AX, Int.reduceLT, Int.reduceLE, Int.reduceEq, Int.reduceAdd, Int.reduceSub, Int.reduceMul, Int.reduceNeg, Int.reduceNe])
    exact ⟨5, rfl⟩
  by_cases k2 : k = 2
  · subst k2
    refine pure_of_wk (call := noCall) (fn := Tryd.f98) (rs := [.tmp 2, .tmp 3]) cokN noCall_ok (fns_cfg Tryd.func98 rfl) rfl rfl ?_
    intro env hl0 hargs
    have hn : env.length = 15 := hl0
    have h0 := hargs 0 _ rfl
    clear hargs hl0
    refine wkT_of ?_
    rw [fe_self hn]
    (try simp -dsimp (disch := omega) only [aval_nilFunc, h0, r4, k_build, k_alloc, k_store, k_blk, k_ix2, k_part, cellsA, k_get.1.2.1, AS, avals, apairs, bareP, AV.bare, AV.bares, Nat.reduceEqDiff, Nat.reduceLT, Nat.reduceAdd, ↓reduceIte, reduceCtorEq, resA, resA1, resVal, Nat.reduceLeDiff, nb_cfg, Nat.reduceBEq, AX, Int.reduceLT, Int.reduceLE, Int.reduceEq, Int.reduceAdd, Int.reduceSub, Int.reduceMul, Int.reduceNeg, Int.reduceNe])
    exact ⟨5, rfl⟩
  by_cases k3 : k = 3
  · subst k3
    refine pure_of_wk (call := noCall) (fn := Tryd.f98) (rs := [.tmp 2, .tmp 3]) cokN noCall_ok (fns_cfg Tryd.func98 rfl) rfl rfl ?_
    intro env hl0 hargs
    have hn : env.length = 15 := hl0
    have h0 := hargs 0 _ rfl
    clear hargs hl0
    refine wkT_of ?_
    rw [fe_self hn]
    (try simp -dsimp (disch := omega) only [aval_nilFunc, h0, r4, k_build, k_alloc, k_store, k_blk, k_ix3, k_part, cellsA, k_get.1.2.2, AS, avals, apairs, bareP, AV.bare, AV.bares, Nat.reduceEqDiff, Nat.reduceLT, Nat.reduceAdd, ↓reduceIte, reduceCtorEq, resA, resA1, resVal, Nat.reduceLeDiff, nb_cfg, Nat.reduceBEq, AX, Int.reduceLT, Int.reduceLE, Int.reduceEq, Int.reduceAdd, Int.reduceSub, Int.reduceMul, Int.reduceNeg, Int.reduceNe])
    exact ⟨5, rfl⟩
  by_cases k4 : k = 4
  · subst k4
    refine pure_of_wk (call := noCall) (fn := Tryd.f98) (rs := [.tmp 2, .tmp 3]) cokN noCall_ok (fns_cfg Tryd.func98 rfl) rfl rfl ?_
    intro env hl0 hargs
    have hn : env.length = 15 := hl0
    have h0 := hargs 0 _ rfl
    clear hargs hl0
    refine wkT_of ?_
    rw [fe_self hn]
    (try simp -dsimp (disch := omega) only [aval_nilFunc, h0, r4, k_build, k_alloc, k_store, k_blk, k_ix4, k_part, cellsA, k_get.2.1, AS, avals, apairs, bareP, AV.bare, AV.bares, Nat.reduceEqDiff, Nat.reduceLT, Nat.reduceAdd, ↓reduceIte, reduceCtorEq, resA, resA1, resVal, Nat.reduceLeDiff, nb_cfg, Nat.reduceBEq, AX, Int.reduceLT, Int.reduceLE, Int.reduceEq, Int.reduceAdd, Int.reduceSub, Int.reduceMul, Int.reduceNeg, Int.reduceNe])
    exact ⟨5, rfl⟩
  by_cases k5 : k = 5
  · subst k5
    refine pure_of_wk (call := noCall) (fn := Tryd.f98) (rs := [.tmp 2, .tmp 3]) cokN noCall_ok (fns_cfg Tryd.func98 rfl) rfl rfl ?_
    intro env hl0 hargs
    have hn : env.length = 15 := hl0
    have h0 := hargs 0 _ rfl
    clear hargs hl0
    refine wkT_of ?_
    rw [fe_self hn]
    (try simp -dsimp (disch := omega) only [aval_nilFunc, h0, r4, k_build, k_alloc, k_store, k_blk, k_ix5, k_part, cellsA, k_get.2.2, AS, avals, apairs, bareP, AV.bare, AV.bares, Nat.reduceEqDiff, Nat.reduceLT, Nat.reduceAdd, ↓reduceIte, reduceCtorEq, resA, resA1, resVal, Nat.reduceLeDiff, nb_cfg, Nat.reduceBEq, AX, Int.reduceLT, Int.reduceLE, Int.reduceEq, Int.reduceAdd, Int.reduceSub, Int.reduceMul, Int.reduceNeg, Int.reduceNe])
    exact ⟨5, rfl⟩
  have hr : askK k = .tup [.v .nilFunc, .v (.bool false)] := by simp only [askK, if_neg k0, if_neg k1, if_neg k2, if_neg k3, if_neg k4, if_neg k5]
  rw [hr]
  have hd : k < 0 ∨ ¬ k < 0 ∧ 6 ≤ k := by omega
  rcases hd with hd | ⟨hd1, hd2⟩
  · skip
    refine pure_of_wk (call := noCall) (fn := Tryd.f98) (rs := [.tmp 2, .tmp 3]) cokN noCall_ok (fns_cfg Tryd.func98 rfl) rfl rfl ?_
    intro env hl0 hargs
    have hn : env.length = 15 := hl0
    have h0 := hargs 0 _ rfl
    clear hargs hl0
    refine wkT_of ?_
    rw [fe_self hn]
    (try simp -dsimp (disch := omega) only [aval_nilFunc, h0, r4, k_build, k_alloc, k_store, hd, AS, avals, apairs, bareP, AV.bare, AV.bares, Nat.reduceEqDiff, Nat.reduceLT, Nat.reduceAdd, ↓reduceIte, reduceCtorEq, resA, resA1, resVal, Nat.reduceLeDiff, nb_cfg, Nat.reduceBEq, AX, Int.reduceLT, Int.reduceLE, Int.reduceEq, Int.reduceAdd, Int.reduceSub, Int.reduceMul, Int.reduceNeg, Int.reduceNe])
    exact ⟨5, rfl⟩
  · skip
    refine pure_of_wk (call := noCall) (fn := Tryd.f98) (rs := [.tmp 2, .tmp 3]) cokN noCall_ok (fns_cfg Tryd.func98 rfl) rfl rfl ?_
    intro env hl0 hargs
    have hn : env.length = 15 := hl0
    have h0 := hargs 0 _ rfl
    clear hargs hl0
    refine wkT_of ?_
    rw [fe_self hn]
    (try simp -dsimp (disch := omega) only [aval_nilFunc, h0, r4, k_build, k_alloc, k_store, hd1, hd2, AS, avals, apairs, bareP, AV.bare, AV.bares, Nat.reduceEqDiff, Nat.reduceLT, Nat.reduceAdd, ↓reduceIte, reduceCtorEq, resA, resA1, resVal, Nat.reduceLeDiff, nb_cfg, Nat.reduceBEq, AX, Int.reduceLT, Int.reduceLE, Int.reduceEq, Int.reduceAdd, Int.reduceSub, Int.reduceMul, Int.reduceNeg, Int.reduceNe])
    exact ⟨5, rfl⟩
noncomputable def askQ := relP (fun _ : Int => True) (fun k => [.v (.int .i64 k)]) askK
theorem askQ_eq (k : Int) : askQ [.v (.int .i64 k)] = some (askK k) := relP_eq (X := fun _ : Int => True) (a := fun k => [.v (.int .i64 k)]) (r := askK) (fun p q _ _ e => by
  injection e with e _
  injection e with e
  injection e with _ e
  rw [e]) k trivial
theorem askQ_ok : ∀ xs y, askQ xs = some y → PureOk (cfgP fun _ => none) 98 xs y := relP_ok (R := fun xs y => PureOk (cfgP fun _ => none) 98 xs y) fun k _ => ask_ok k
end Go.Proofs.YtjejeijldllloaaDoor

/- Chapter 2: how a list is asked. -/
namespace Go.Proofs.YtjejeijldllloaaDoor
open Go.AM
/-- A slice of values, as it may be handed on. -/
structure LV (l : List GV) (L : AV) : Prop where
  ex : ∃ xs, elems L = some xs ∧ FVs l xs
  k : slK L
  b : L.bare = some L
theorem LV.inj {l l' : List GV} {L : AV} (h : LV l L) (h' : LV l' L) : l = l' := by
  obtain ⟨xs, e, hv⟩ := h.ex
  obtain ⟨xs', e', hv'⟩ := h'.ex
  rw [e] at e'
  injection e' with e'
  subst e'
  exact RVs.uniq hv.rv hv'.rv
def flc : AV := .fn (.func 125) [] []
def nmA (v : GV) : AV := .v (.bool (!v.may))
noncomputable def fnt (N : Nat) : FuncId → Option (List AV → Option AV) := tab [(70, smS mayA N)]
set_option maxHeartbeats 4000000 in
set_option maxRecDepth 100000 in
theorem flc_ok {N : Nat} (ok : (cfgP (fnt N)).Ok) {v : GV} {x : AV} (h : FV v x) (hs : v.sml) (hn : v.sz < N) : PureOk (cfgP (fnt N)) 125 [x] (nmA v) := by
  obtain ⟨cs, rfl, h5, hbs, hfl⟩ := h.shape
  have hb := h.bare
  have q := smS_eq (r := mayA) h hs hn
  have r1 : (cfgP (fnt N)).roBox 125 1 = true := rfl
  have pf : (cfgP (fnt N)).prim 70 = some (smS mayA N) := rfl
  refine pure_of_wk (call := noCall) (fn := Tryd.f125) (rs := [.tmp 2]) ok noCall_ok (fns_cfg Tryd.func125 rfl) rfl rfl ?_
  intro env hl0 hargs
  have hn : env.length = 6 := hl0
  have h0 := hargs 0 _ rfl
  clear hargs hl0
  refine wkT_of ?_
  rw [fe_self hn]
  (try simp -dsimp (disch := omega) only [h0, r1, bxt_ro hb hfl, cellsA, vp39 h5, ct_prim pf, hbs, q, mayA, AS, avals, apairs, bareP, AV.bare, AV.bares, Nat.reduceEqDiff, Nat.reduceLT, Nat.reduceAdd, ↓reduceIte, reduceCtorEq, resA, resA1, resVal, Nat.reduceLeDiff, nb_cfg, Nat.reduceBEq, AX, Int.reduceLT, Int.reduceLE, Int.reduceEq, Int.reduceAdd, Int.reduceSub, Int.reduceMul, Int.reduceNeg, Int.reduceNe])
  exact ⟨1, rfl⟩
/-- Where the first one stands that may not be. -/
def fidx : List GV → Nat → Int
  | [], _ => -1
  | v :: r, i => if v.may then fidx r (i + 1) else (i : Int)
theorem fidx_le : ∀ (l : List GV) (i : Nat), decide (0 ≤ fidx l i) = !GV.mays l
  | [], _ => rfl
  | v :: r, i => by
    have ih := fidx_le r (i + 1)
    unfold fidx
    rw [GV.mays]
    cases v.may with
    | true => simpa using ih
    | false => simp
noncomputable def lct (N : Nat) : FuncId → Option (List AV → Option AV) := tab [(125, smS nmA N)]
structure FiI (L : AV) (c i : Nat) (e : Env) (h : Hp) : Prop where
  len : e.length = 19
  a0 : aget e 0 = L
  a1 : aget e 1 = flc
  a6 : aget e 6 = L
  a7 : aget e 7 = .v (.int .i64 (c : Int))
  a8 : aget e 8 = .v (.int .i64 (i : Int))
  hp : h = {}
set_option maxHeartbeats 4000000 in
set_option maxRecDepth 100000 in
theorem fidx_ok {N : Nat} (ok : (cfgP (lct N)).Ok) {l : List GV} {L : AV} (h : LV l L) (hs : GV.smls l) (hn : GV.szs l < N) (hlen : l.length ≤ 140737488355328) : PureOk (cfgP (lct N)) 129 [L, flc] (.v (.int .i64 (fidx l 0))) := by
  obtain ⟨⟨xs, hL, hv⟩, hk, hb⟩ := h
  have hxl := hv.len
  have pf : (cfgP (lct N)).prim 125 = some (smS nmA N) := rfl
  obtain ⟨W, hW⟩ : ∃ W, fidx l 0 = W := ⟨_, rfl⟩
  rw [hW]
  refine pure_of_wk (call := noCall) (fn := Tryd.f129) (rs := [.tmp 4]) ok noCall_ok (fns_cfg Tryd.func129 rfl) rfl rfl ?_
  intro env hl0 hargs
  have hn : env.length = 19 := hl0
  have h0 := hargs 0 _ rfl
  have h1 := hargs 1 _ rfl
  clear hargs hl0
  refine wkT_of ?_
  rw [fe_self hn]
  (try simp -dsimp (disch := omega) only [h0, h1, len36 hL, hxl, AS, avals, apairs, bareP, AV.bare, AV.bares, Nat.reduceEqDiff, Nat.reduceLT, Nat.reduceAdd, ↓reduceIte, reduceCtorEq, resA, resA1, resVal, Nat.reduceLeDiff, nb_cfg, Nat.reduceBEq, AX, Int.reduceLT, Int.reduceLE, Int.reduceEq, Int.reduceAdd, Int.reduceSub, Int.reduceMul, Int.reduceNeg, Int.reduceNe])
  refine wt_loop (m := l.length) (fun q e h => ∃ i, i + q = l.length ∧ fidx (l.drop i) i = W ∧ FiI L l.length i e h) ?_ ?_
  · clear hn h0 h1
    rintro q e h ⟨i, hi, hWn, hn, h0, h1, h6, h7, h8, rfl⟩
    rw [fe_self hn]
    cases q with
    | zero =>
      obtain rfl : i = l.length := by omega
      rw [List.drop_length] at hWn
      obtain rfl : W = -1 := hWn.symm
      clear hWn hW
      (try simp -dsimp (disch := omega) only [h0, h1, h6, h7, h8, AS, avals, apairs, bareP, AV.bare, AV.bares, Nat.reduceEqDiff, Nat.reduceLT, Nat.reduceAdd, ↓reduceIte, reduceCtorEq, resA, resA1, resVal, Nat.reduceLeDiff, nb_cfg, Nat.reduceBEq, AX, Int.reduceLT, Int.reduceLE, Int.reduceEq, Int.reduceAdd, Int.reduceSub, Int.reduceMul, Int.reduceNeg, Int.reduceNe])
      exact ⟨1, rfl⟩
    | succ q =>
      obtain ⟨w, ws, e1, e2, e3, e4⟩ := hv.at (i := i) (by omega)
      have eb := e4.bs
      have es := smS_eq (r := nmA) (N := N) e4 (smls_get hs e1) (Nat.lt_of_le_of_lt (szs_get e1) (by assumption))
      have ew : (i : Int) + 1 = ((i + 1 : Nat) : Int) := by omega
      have hstep : fidx (l.drop i) i = if w.may then fidx (l.drop (i + 1)) (i + 1) else (i : Int) := by
        obtain ⟨hi', he⟩ := List.getElem?_eq_some_iff.1 e1
        rw [List.drop_eq_getElem_cons hi', he, fidx]
      rw [hstep] at hWn
      simp only [flc] at h1
      cases hmw : w.may with
      | true =>
        rw [hmw, if_pos rfl] at hWn
        (try simp -dsimp (disch := omega) only [h0, h1, h6, h7, h8, ix36 hL e2 e3, vp39 e3, cellsA, ct_prim pf, eb, es, nmA, hmw, Bool.not_true, wrap64, ew, AS, avals, apairs, bareP, AV.bare, AV.bares, Nat.reduceEqDiff, Nat.reduceLT, Nat.reduceAdd, ↓reduceIte, reduceCtorEq, resA, resA1, resVal, Nat.reduceLeDiff, nb_cfg, Nat.reduceBEq, AX, Int.reduceLT, Int.reduceLE, Int.reduceEq, Int.reduceAdd, Int.reduceSub, Int.reduceMul, Int.reduceNeg, Int.reduceNe])
        refine ⟨q, by omega, i + 1, by omega, hWn, fe_len, ?_, ?_, ?_, ?_, ?_, rfl⟩
        all_goals (try simp -dsimp (disch := omega) only [h0, h1, h6, h7, h8, AS, avals, apairs, bareP, AV.bare, AV.bares, Nat.reduceEqDiff, Nat.reduceLT, Nat.reduceAdd, ↓reduceIte, reduceCtorEq, resA, resA1, resVal, Nat.reduceLeDiff, nb_cfg, Nat.reduceBEq, AX, Int.reduceLT, Int.reduceLE, Int.reduceEq, Int.reduceAdd, Int.reduceSub, Int.reduceMul, Int.reduceNeg, Int.reduceNe])
        all_goals rfl
      | false =>
        rw [hmw, if_neg (by decide)] at hWn
        subst hWn
        (try simp -dsimp (disch := omega) only [h0, h1, h6, h7, h8, ix36 hL e2 e3, vp39 e3, cellsA, ct_prim pf, eb, es, nmA, hmw, Bool.not_false, AS, avals, apairs, bareP, AV.bare, AV.bares, Nat.reduceEqDiff, Nat.reduceLT, Nat.reduceAdd, ↓reduceIte, reduceCtorEq, resA, resA1, resVal, Nat.reduceLeDiff, nb_cfg, Nat.reduceBEq, AX, Int.reduceLT, Int.reduceLE, Int.reduceEq, Int.reduceAdd, Int.reduceSub, Int.reduceMul, Int.reduceNeg, Int.reduceNe])
        exact ⟨1, rfl⟩
  · refine ⟨0, by omega, by rw [List.drop_zero]; exact hW, fe_len, ?_, ?_, ?_, ?_, ?_, rfl⟩
    all_goals (try simp -dsimp (disch := omega) only [h0, h1, hxl, AS, avals, apairs, bareP, AV.bare, AV.bares, Nat.reduceEqDiff, Nat.reduceLT, Nat.reduceAdd, ↓reduceIte, reduceCtorEq, resA, resA1, resVal, Nat.reduceLeDiff, nb_cfg, Nat.reduceBEq, AX, Int.reduceLT, Int.reduceLE, Int.reduceEq, Int.reduceAdd, Int.reduceSub, Int.reduceMul, Int.reduceNeg, Int.reduceNe])
    all_goals rfl
/-- A table of what is said of slices of smaller ones. -/
noncomputable def lvT (r : List GV → AV) (N : Nat) : List AV → Option AV := relP (fun p : List GV × AV => LV p.1 p.2 ∧ GV.smls p.1 ∧ GV.szs p.1 < N ∧ p.1.length ≤ 140737488355328) (fun p => [p.2, flc]) (fun p => r p.1)
theorem lvT_eq {r : List GV → AV} {N : Nat} {l : List GV} {L : AV} (h : LV l L) (hs : GV.smls l) (hn : GV.szs l < N) (hl : l.length ≤ 140737488355328) : lvT r N [L, flc] = some (r l) :=
  relP_eq (X := fun p : List GV × AV => LV p.1 p.2 ∧ GV.smls p.1 ∧ GV.szs p.1 < N ∧ p.1.length ≤ 140737488355328) (a := fun p => [p.2, flc]) (r := fun p => r p.1) (fun p q hp hq e => by
    injection e with e _
    have := hp.1
    rw [e] at this
    rw [this.inj hq.1]) (l, L) ⟨h, hs, hn, hl⟩
theorem lvT_ok {r : List GV → AV} {N : Nat} {R : List AV → AV → Prop} (h : ∀ l L, LV l L → GV.smls l → GV.szs l < N → l.length ≤ 140737488355328 → R [L, flc] (r l)) : ∀ xs y, lvT r N xs = some y → R xs y := relP_ok fun p hp => h p.1 p.2 hp.1 hp.2.1 hp.2.2.1 hp.2.2.2
noncomputable def ixt (N : Nat) : FuncId → Option (List AV → Option AV) := tab [(129, lvT (fun l => .v (.int .i64 (fidx l 0))) N)]
def nmsA (l : List GV) : AV := .v (.bool (!GV.mays l))
theorem con_ok {N : Nat} (ok : (cfgP (ixt N)).Ok) {l : List GV} {L : AV} (h : LV l L) (hs : GV.smls l) (hn : GV.szs l < N) (hlen : l.length ≤ 140737488355328) : PureOk (cfgP (ixt N)) 124 [L, flc] (nmsA l) := by
  have pf : (cfgP (ixt N)).prim 129 = some (lvT (fun l => .v (.int .i64 (fidx l 0))) N) := rfl
  have q := lvT_eq (r := fun l => .v (.int .i64 (fidx l 0))) h hs hn hlen
  have hb := h.b
  have hd := fidx_le l 0
  simp only [flc] at q ⊢
  refine pure_of_wk (call := noCall) (fn := Tryd.f124) (rs := [.tmp 4]) ok noCall_ok (fns_cfg Tryd.func124 rfl) rfl rfl ?_
  intro env hl0 hargs
  have hn : env.length = 9 := hl0
  have h0 := hargs 0 _ rfl
  have h1 := hargs 1 _ rfl
  clear hargs hl0
  refine wkT_of ?_
  rw [fe_self hn]
  (try simp -dsimp (disch := omega) only [h0, h1, ct_prim pf, hb, q, hd, AS, avals, apairs, bareP, AV.bare, AV.bares, Nat.reduceEqDiff, Nat.reduceLT, Nat.reduceAdd, ↓reduceIte, reduceCtorEq, resA, resA1, resVal, Nat.reduceLeDiff, nb_cfg, Nat.reduceBEq, AX, Int.reduceLT, Int.reduceLE, Int.reduceEq, Int.reduceAdd, Int.reduceSub, Int.reduceMul, Int.reduceNeg, Int.reduceNe])
  exact ⟨1, rfl⟩
noncomputable def cot (N : Nat) : FuncId → Option (List AV → Option AV) := tab [(124, lvT nmsA N), (111, vP bareA)]
def GV.listB : GV → Bool
  | .mk k n s l m => (GV.mk k n s [] m).bareB && GV.mays l
def listA (v : GV) : AV := .v (.bool v.listB)
set_option maxHeartbeats 4000000 in
set_option maxRecDepth 100000 in
theorem listB_ok {N : Nat} (ok : (cfgP (cot N)).Ok) : ∀ {v : GV} {x : AV} (h : FV v x) (hs : v.sml) (hn : v.sz < N + 1), PureOk (cfgP (cot N)) 115 [x] (listA v)
  | .mk k n s l m, x, h, hs, hsz => by
    have h5 := h.shape
    obtain ⟨L, M, xs, ys, rfl, hL, hM, k1, k2, b1, b2, f1, f2, sl, hl, hm, hv, hw⟩ := h
    have h' : FV (.mk k n s [] m) (.agg [.v (.int .i64 k), .v (.int .i64 n), str s, .v (.slice none 0 0), M]) := ⟨_, M, [], ys, rfl, rfl, hM, .inl rfl, k2, rfl, b2, rfl, f2, sl, by simp, hm, rfl, hw⟩
    have q := vP_eq (r := bareA) h' ⟨hs.1, by simp, hs.2.2.1, trivial, hs.2.2.2.2⟩
    have hlv : LV l L := ⟨⟨xs, hL, hv⟩, k1, b1⟩
    have qc := lvT_eq (r := nmsA) (N := N) hlv hs.2.2.2.1 (by simp only [GV.sz] at hsz; omega) hs.2.1
    have hb' := h'.bs
    have h5' := h'.l5
    obtain ⟨cs0, e, l5, _, hf⟩ := h5
    injection e with e
    subst e
    have r1 : (cfgP (cot N)).roBox 115 1 = false := rfl
    have pb : (cfgP (cot N)).prim 111 = some (vP bareA) := rfl
    have pc : (cfgP (cot N)).prim 124 = some (lvT nmsA N) := rfl
    have st := o_st (prim := cot N) (t := 36) (j := 3) (x := .v (.slice none 0 0)) (cs := [.v (.int .i64 k), .v (.int .i64 n), str s, L, M]) [] (by kernel_rfl) rfl rfl (by simp) rfl
    obtain ⟨B, hB⟩ : ∃ B, (GV.mk k n s [] m).bareB = B := ⟨_, rfl⟩
    have hr : listA (.mk k n s l m) = .v (.bool (B && GV.mays l)) := by rw [← hB]; rfl
    rw [hr]
    rw [show bareA (GV.mk k n s [] m) = .v (.bool B) by rw [← hB]; rfl] at q
    obtain ⟨cs, hcs⟩ : ∃ cs : List AV, cs = [.v (.int .i64 k), .v (.int .i64 n), str s, L, M] := ⟨_, rfl⟩
    obtain ⟨cs', hcs'⟩ : ∃ cs : List AV, cs = [.v (.int .i64 k), .v (.int .i64 n), str s, .v (.slice none 0 0), M] := ⟨_, rfl⟩
    have hse : ([.v (.int .i64 k), .v (.int .i64 n), str s, L, M] : List AV).set 3 (.v (.slice none 0 0)) = cs' := by rw [hcs']; rfl
    rw [hse] at st
    rw [← hcs'] at q hb' h5'
    have g3 : cs[3]? = some L := by rw [hcs]; rfl
    rw [← hcs] at l5 hf st ⊢
    clear hcs hcs' hse
    simp only [flc, nmsA] at qc
    refine pure_of_wk (call := noCall) (fn := Tryd.f115) (rs := [.tmp 2]) ok noCall_ok (fns_cfg Tryd.func115 rfl) rfl rfl ?_
    intro env hl0 hargs
    have hn : env.length = 14 := hl0
    have h0 := hargs 0 _ rfl
    clear hargs hl0
    refine wkT_of ?_
    rw [fe_self hn]
    (try simp -dsimp (disch := omega) only [h0, r1, g125, bx_o l5 hf, og3, vp36, o_blk, cellsA, g3, st, op125 h5', ct_prim pb, hb', q, AS, avals, apairs, bareP, AV.bare, AV.bares, Nat.reduceEqDiff, Nat.reduceLT, Nat.reduceAdd, ↓reduceIte, reduceCtorEq, resA, resA1, resVal, Nat.reduceLeDiff, nb_cfg, Nat.reduceBEq, AX, Int.reduceLT, Int.reduceLE, Int.reduceEq, Int.reduceAdd, Int.reduceSub, Int.reduceMul, Int.reduceNeg, Int.reduceNe])
    repeat (apply gm_step; (case h1 => intro hg; (try simp only [Bool.and_eq_true, Bool.not_eq_true', Bool.or_eq_false_iff, Bool.not_or, Bool.not_not] at hg); simp -dsimp only [fe_get, fe_put, fe_len, upd_app, h0, ct_prim pc, b1, qc, Bool.not_not, hg, Bool.and_true, Bool.true_and, Bool.or_false, Bool.not_false, Bool.not_true, pk_or, pk_and, pk_and', pk_or', AS, bin_and, bin_or, bin_xor, avals, apairs, bareP, AV.bare, AV.bares, Nat.reduceEqDiff, Nat.reduceLT, Nat.reduceAdd, ↓reduceIte, reduceCtorEq, resA, resA1, resVal, Nat.reduceLeDiff, nb_cfg, Nat.reduceBEq]; exact ⟨rfl, rfl, rfl⟩); (try simp -dsimp only [fe_get, fe_put, fe_len, upd_app, h0, ct_prim pc, b1, qc, Bool.not_not, pk_and, pk_or, pk_and', pk_or', gt_ite, ite_self, AS, bin_and, bin_or, bin_xor, avals, apairs, bareP, AV.bare, AV.bares, Nat.reduceEqDiff, Nat.reduceLT, Nat.reduceAdd, ↓reduceIte, reduceCtorEq, resA, resA1, resVal, Nat.reduceLeDiff, nb_cfg, Nat.reduceBEq]))
    exact ⟨1, rfl⟩
end Go.Proofs.YtjejeijldllloaaDoor

/- Chapter 2: how a map is asked. -/
namespace Go.Proofs.YtjejeijldllloaaDoor
open Go.AM
theorem rise (p k : List UInt8) : bl p k = !(Op.bytesLess k p || decide (k = p)) := by
  rw [show Op.bytesLess k p = bl k p from rfl]
  cases h : bl p k with
  | true =>
    rw [bl_asymm h]
    have hn : k ≠ p := by
      rintro rfl
      rw [bl_irrefl] at h
      cases h
    rw [decide_eq_false hn]
    rfl
  | false =>
    cases h2 : bl k p with
    | true => rfl
    | false => rw [bl_tri h2 h]; simp
noncomputable def tat (N : Nat) : FuncId → Option (List AV → Option AV) := tab [(70, smS mayA N), (111, vP bareA), (22, validP), (24, lessQ)]
def GV.tableB : GV → Bool
  | .mk k n s l m => (GV.mk k n s l []).bareB && GV.maym none m
def tableA (v : GV) : AV := .v (.bool v.tableB)
structure TbI (M : AV) (c i : Nat) (e : Env) (h : Hp) : Prop where
  len : e.length = 46
  a3 : aget e 3 = M
  a12 : aget e 12 = M
  a13 : aget e 13 = .v (.int .i64 (c : Int))
  a14 : aget e 14 = .v (.int .i64 (i : Int))
  hp : ∃ ext, h = nH ext
set_option maxHeartbeats 8000000 in
set_option maxRecDepth 100000 in
theorem tableB_ok {N : Nat} (ok : (cfgP (tat N)).Ok) : ∀ {v : GV} {x : AV} (h : FV v x) (hs : v.sml) (hn : v.sz < N + 1), PureOk (cfgP (tat N)) 116 [x] (tableA v)
  | .mk k n s l m, x, h, hs, hsz => by
    have h5 := h.shape
    obtain ⟨L, M, xs, ys, rfl, hL, hM, k1, k2, b1, b2, f1, f2, sl, hl, hm, hv, hw⟩ := h
    have h' : FV (.mk k n s l []) (.agg [.v (.int .i64 k), .v (.int .i64 n), str s, L, .v (.slice none 0 0)]) := ⟨L, _, xs, [], rfl, hL, rfl, k1, .inl rfl, b1, rfl, f1, rfl, sl, hl, by simp, hv, rfl⟩
    have q := vP_eq (r := bareA) h' ⟨hs.1, hs.2.1, by simp, hs.2.2.2.1, trivial⟩
    have hb' := h'.bs
    have h5' := h'.l5
    have hyl := hw.len
    have hmz : GV.szm m < N := by simp only [GV.sz] at hsz; omega
    have z5 := hs.2.2.2.2
    have hml := hs.2.2.1
    obtain ⟨cs0, e, l5, _, hf⟩ := h5
    injection e with e
    subst e
    have r1 : (cfgP (tat N)).roBox 116 1 = false := rfl
    have r5 : (cfgP (tat N)).roBox 116 5 = false := rfl
    have pb : (cfgP (tat N)).prim 111 = some (vP bareA) := rfl
    have pf : (cfgP (tat N)).prim 70 = some (smS mayA N) := rfl
    have pg : (cfgP (tat N)).prim 22 = some validP := rfl
    have pl : (cfgP (tat N)).prim 24 = some lessQ := rfl
    have st := o_st (prim := tat N) (t := 37) (j := 4) (x := .v (.slice none 0 0)) (cs := [.v (.int .i64 k), .v (.int .i64 n), str s, L, M]) [] (by kernel_rfl) rfl rfl (by simp) rfl
    obtain ⟨B, hB⟩ : ∃ B, (GV.mk k n s l []).bareB = B := ⟨_, rfl⟩
    obtain ⟨W, hW⟩ : ∃ W, GV.maym none m = W := ⟨_, rfl⟩
    have hr : tableA (.mk k n s l m) = .v (.bool (B && W)) := by rw [← hB, ← hW]; rfl
    rw [hr]
    rw [show bareA (GV.mk k n s l []) = .v (.bool B) by rw [← hB]; rfl] at q
    obtain ⟨cs, hcs⟩ : ∃ cs : List AV, cs = [.v (.int .i64 k), .v (.int .i64 n), str s, L, M] := ⟨_, rfl⟩
    obtain ⟨cs', hcs'⟩ : ∃ cs : List AV, cs = [.v (.int .i64 k), .v (.int .i64 n), str s, L, .v (.slice none 0 0)] := ⟨_, rfl⟩
    have hse : ([.v (.int .i64 k), .v (.int .i64 n), str s, L, M] : List AV).set 4 (.v (.slice none 0 0)) = cs' := by rw [hcs']; rfl
    rw [hse] at st
    rw [← hcs'] at q hb' h5'
    have g4 : cs[4]? = some M := by rw [hcs]; rfl
    rw [← hcs] at l5 hf st ⊢
    clear hcs hcs' hse hB
    cases B with
    | false =>
      rw [Bool.false_and]
      refine pure_of_wk (call := noCall) (fn := Tryd.f116) (rs := [.tmp 2]) ok noCall_ok (fns_cfg Tryd.func116 rfl) rfl rfl ?_
      intro env hl0 hargs
      have hn : env.length = 46 := hl0
      have h0 := hargs 0 _ rfl
      clear hargs hl0
      refine wkT_of ?_
      rw [fe_self hn]
      (try simp -dsimp (disch := omega) only [h0, r1, g125, bx_o l5 hf, og4, vp37, o_blk, cellsA, g4, st, op125 h5', ct_prim pb, hb', q, AS, avals, apairs, bareP, AV.bare, AV.bares, Nat.reduceEqDiff, Nat.reduceLT, Nat.reduceAdd, ↓reduceIte, reduceCtorEq, resA, resA1, resVal, Nat.reduceLeDiff, nb_cfg, Nat.reduceBEq, AX, Int.reduceLT, Int.reduceLE, Int.reduceEq, Int.reduceAdd, Int.reduceSub, Int.reduceMul, Int.reduceNeg, Int.reduceNe])
      exact ⟨1, rfl⟩
    | true =>
      rw [Bool.true_and]
      refine pure_of_wk (call := noCall) (fn := Tryd.f116) (rs := [.tmp 2]) ok noCall_ok (fns_cfg Tryd.func116 rfl) rfl rfl ?_
      intro env hl0 hargs
      have hn : env.length = 46 := hl0
      have h0 := hargs 0 _ rfl
      clear hargs hl0
      refine wkT_of ?_
      rw [fe_self hn]
      (try simp -dsimp (disch := omega) only [h0, r1, g125, bx_o l5 hf, og4, vp37, o_blk, cellsA, g4, st, op125 h5', ct_prim pb, hb', q, len37 hM, hyl, AS, avals, apairs, bareP, AV.bare, AV.bares, Nat.reduceEqDiff, Nat.reduceLT, Nat.reduceAdd, ↓reduceIte, reduceCtorEq, resA, resA1, resVal, Nat.reduceLeDiff, nb_cfg, Nat.reduceBEq, AX, Int.reduceLT, Int.reduceLE, Int.reduceEq, Int.reduceAdd, Int.reduceSub, Int.reduceMul, Int.reduceNeg, Int.reduceNe])
      refine wt_loop (m := m.length) (fun q e h => ∃ i, i + q = m.length ∧ GV.maym (prevK m i) (m.drop i) = W ∧ TbI M m.length i e h) ?_ ?_
      · clear hn h0 q st
        rintro q e h ⟨i, hi, hWn, hn, h3, h12, h13, h14, ext, rfl⟩
        rw [fe_self hn]
        cases q with
        | zero =>
          obtain rfl : i = m.length := by omega
          rw [List.drop_length] at hWn
          obtain rfl : W = true := by rw [← hWn]; cases prevK m m.length <;> rfl
          clear hWn hW
          (try simp -dsimp (disch := omega) only [h3, h12, h13, h14, AS, avals, apairs, bareP, AV.bare, AV.bares, Nat.reduceEqDiff, Nat.reduceLT, Nat.reduceAdd, ↓reduceIte, reduceCtorEq, resA, resA1, resVal, Nat.reduceLeDiff, nb_cfg, Nat.reduceBEq, AX, Int.reduceLT, Int.reduceLE, Int.reduceEq, Int.reduceAdd, Int.reduceSub, Int.reduceMul, Int.reduceNeg, Int.reduceNe])
          exact ⟨1, rfl⟩
        | succ q =>
          obtain ⟨key, w, ws, e1, e2, e3, e4⟩ := hw.at (i := i) (by omega)
          have e5 : (str key :: ws).length = 6 := by rw [List.length_cons, e3]
          have eb := e4.bs
          have hf6 : (str key :: ws).all AV.flat = true := by
            rw [List.all_cons, e4.fl]
            rfl
          have es := smS_eq (r := mayA) (N := N) e4 (smlm_get z5 e1).2 (Nat.lt_of_le_of_lt (szm_get e1) hmz)
          have eg := validP_eq (l := key) (by have := (smlm_get z5 e1).1; omega)
          have ew : (i : Int) + 1 = ((i + 1 : Nat) : Int) := by omega
          have st := nH_store48 (prim := tat N) (ext := ext) e5 hf6
          have p6 : partA (cfgP (tat N)) 48 (str key :: ws) 0 = some (.agg (str key :: ws)) := mp48c (p := (key, ws)) e4.okE
          rw [maym_step e1] at hWn
          cases i with
          | zero =>
            have ei : decide ((0 : Int) < ((0 : Nat) : Int)) = false := rfl
            have hW' : (utfB key && w.may && GV.maym (prevK m (0 + 1)) (m.drop (0 + 1))) = W := by rw [← hWn]; simp only [prevK, Bool.not_false, Bool.and_true]
            clear hWn
            cases hu : utfB key with
            | false =>
              rw [hu] at eg hW'
              obtain rfl : W = false := hW'.symm
              (try simp -dsimp (disch := omega) only [h3, h12, h13, h14, hyl, ix37 hM e2 e5, p6, cellsA, r5, nH_alloc48, st, nH_blk, mf0p, mf1p, mp9, List.getElem?_cons_zero, vp39m e3, ct_prim pg, ct_prim pf, bare_s, eb, eg, es, mayA, wrap64, ew, ei, Bool.not_true, Bool.not_false, AS, avals, apairs, bareP, AV.bare, AV.bares, Nat.reduceEqDiff, Nat.reduceLT, Nat.reduceAdd, ↓reduceIte, reduceCtorEq, resA, resA1, resVal, Nat.reduceLeDiff, nb_cfg, Nat.reduceBEq, AX, Int.reduceLT, Int.reduceLE, Int.reduceEq, Int.reduceAdd, Int.reduceSub, Int.reduceMul, Int.reduceNeg, Int.reduceNe])
              refine ⟨by kernel_rfl, ?_⟩
              exact ⟨1, rfl⟩
            | true =>
              rw [hu, Bool.true_and] at hW'
              rw [hu] at eg
              cases hmw : w.may with
              | false =>
                rw [hmw] at hW'
                obtain rfl : W = false := hW'.symm
                (try simp -dsimp (disch := omega) only [hmw, h3, h12, h13, h14, hyl, ix37 hM e2 e5, p6, cellsA, r5, nH_alloc48, st, nH_blk, mf0p, mf1p, mp9, List.getElem?_cons_zero, vp39m e3, ct_prim pg, ct_prim pf, bare_s, eb, eg, es, mayA, wrap64, ew, ei, Bool.not_true, Bool.not_false, AS, avals, apairs, bareP, AV.bare, AV.bares, Nat.reduceEqDiff, Nat.reduceLT, Nat.reduceAdd, ↓reduceIte, reduceCtorEq, resA, resA1, resVal, Nat.reduceLeDiff, nb_cfg, Nat.reduceBEq, AX, Int.reduceLT, Int.reduceLE, Int.reduceEq, Int.reduceAdd, Int.reduceSub, Int.reduceMul, Int.reduceNeg, Int.reduceNe])
                refine ⟨by kernel_rfl, ?_⟩
                exact ⟨1, rfl⟩
              | true =>
                rw [hmw, Bool.true_and] at hW'
                (try simp -dsimp (disch := omega) only [hmw, h3, h12, h13, h14, hyl, ix37 hM e2 e5, p6, cellsA, r5, nH_alloc48, st, nH_blk, mf0p, mf1p, mp9, List.getElem?_cons_zero, vp39m e3, ct_prim pg, ct_prim pf, bare_s, eb, eg, es, mayA, wrap64, ew, ei, Bool.not_true, Bool.not_false, AS, avals, apairs, bareP, AV.bare, AV.bares, Nat.reduceEqDiff, Nat.reduceLT, Nat.reduceAdd, ↓reduceIte, reduceCtorEq, resA, resA1, resVal, Nat.reduceLeDiff, nb_cfg, Nat.reduceBEq, AX, Int.reduceLT, Int.reduceLE, Int.reduceEq, Int.reduceAdd, Int.reduceSub, Int.reduceMul, Int.reduceNeg, Int.reduceNe])
                refine ⟨by kernel_rfl, q, by omega, 0 + 1, by omega, hW', fe_len, ?_, ?_, ?_, ?_, _, rfl⟩
                all_goals (try simp -dsimp (disch := omega) only [h3, h12, h13, h14, AS, avals, apairs, bareP, AV.bare, AV.bares, Nat.reduceEqDiff, Nat.reduceLT, Nat.reduceAdd, ↓reduceIte, reduceCtorEq, resA, resA1, resVal, Nat.reduceLeDiff, nb_cfg, Nat.reduceBEq, AX, Int.reduceLT, Int.reduceLE, Int.reduceEq, Int.reduceAdd, Int.reduceSub, Int.reduceMul, Int.reduceNeg, Int.reduceNe])
          | succ i =>
            obtain ⟨key0, w0, ws0, f1', f2', f3', f4'⟩ := hw.at (i := i) (by omega)
            have f5' : (str key0 :: ws0).length = 6 := by rw [List.length_cons, f3']
            have ei : decide ((0 : Int) < ((i + 1 : Nat) : Int)) = true := decide_eq_true (by omega)
            have ej : ((i + 1 : Nat) : Int) - 1 = (i : Int) := by omega
            have hpk : prevK m (i + 1) = some key0 := by
              show (m[i]?).map Prod.fst = _
              rw [f1']
              rfl
            rw [hpk] at hWn
            replace hWn : (utfB key && !(Op.bytesLess key key0 || decide (key = key0)) && w.may && GV.maym (prevK m (i + 1 + 1)) (m.drop (i + 1 + 1))) = W := hWn
            rw [← rise] at hWn
            have el := lessQ_eq (a := key0) (b := key)
            cases hu : utfB key with
            | false =>
              rw [hu] at eg hWn
              obtain rfl : W = false := hWn.symm
              (try simp -dsimp (disch := omega) only [h3, h12, h13, h14, hyl, ix37 hM e2 e5, p6, cellsA, r5, nH_alloc48, st, nH_blk, mf0p, mf1p, mp9, List.getElem?_cons_zero, vp39m e3, ct_prim pg, ct_prim pf, bare_s, eb, eg, es, mayA, wrap64, ew, ei, Bool.not_true, Bool.not_false, AS, avals, apairs, bareP, AV.bare, AV.bares, Nat.reduceEqDiff, Nat.reduceLT, Nat.reduceAdd, ↓reduceIte, reduceCtorEq, resA, resA1, resVal, Nat.reduceLeDiff, nb_cfg, Nat.reduceBEq, AX, Int.reduceLT, Int.reduceLE, Int.reduceEq, Int.reduceAdd, Int.reduceSub, Int.reduceMul, Int.reduceNeg, Int.reduceNe])
              refine ⟨by kernel_rfl, ?_⟩
              exact ⟨1, rfl⟩
            | true =>
              rw [hu, Bool.true_and] at hWn
              rw [hu] at eg
              cases hle : bl key0 key with
              | false =>
                rw [hle] at hWn el
                obtain rfl : W = false := hWn.symm
                (try simp -dsimp (disch := omega) only [ej, ix37 hM f2' f5', mf0, ct_prim pl, el, h3, h12, h13, h14, hyl, ix37 hM e2 e5, p6, cellsA, r5, nH_alloc48, st, nH_blk, mf0p, mf1p, mp9, List.getElem?_cons_zero, vp39m e3, ct_prim pg, ct_prim pf, bare_s, eb, eg, es, mayA, wrap64, ew, ei, Bool.not_true, Bool.not_false, AS, avals, apairs, bareP, AV.bare, AV.bares, Nat.reduceEqDiff, Nat.reduceLT, Nat.reduceAdd, ↓reduceIte, reduceCtorEq, resA, resA1, resVal, Nat.reduceLeDiff, nb_cfg, Nat.reduceBEq, AX, Int.reduceLT, Int.reduceLE, Int.reduceEq, Int.reduceAdd, Int.reduceSub, Int.reduceMul, Int.reduceNeg, Int.reduceNe])
                refine ⟨by kernel_rfl, ?_⟩
                exact ⟨1, rfl⟩
              | true =>
                rw [hle, Bool.true_and] at hWn
                rw [hle] at el
                cases hmw : w.may with
                | false =>
                  rw [hmw] at hWn
                  obtain rfl : W = false := hWn.symm
                  (try simp -dsimp (disch := omega) only [hmw, ej, ix37 hM f2' f5', mf0, ct_prim pl, el, h3, h12, h13, h14, hyl, ix37 hM e2 e5, p6, cellsA, r5, nH_alloc48, st, nH_blk, mf0p, mf1p, mp9, List.getElem?_cons_zero, vp39m e3, ct_prim pg, ct_prim pf, bare_s, eb, eg, es, mayA, wrap64, ew, ei, Bool.not_true, Bool.not_false, AS, avals, apairs, bareP, AV.bare, AV.bares, Nat.reduceEqDiff, Nat.reduceLT, Nat.reduceAdd, ↓reduceIte, reduceCtorEq, resA, resA1, resVal, Nat.reduceLeDiff, nb_cfg, Nat.reduceBEq, AX, Int.reduceLT, Int.reduceLE, Int.reduceEq, Int.reduceAdd, Int.reduceSub, Int.reduceMul, Int.reduceNeg, Int.reduceNe])
                  refine ⟨by kernel_rfl, ?_⟩
                  exact ⟨1, rfl⟩
                | true =>
                  rw [hmw, Bool.true_and] at hWn
                  (try simp -dsimp (disch := omega) only [hmw, ej, ix37 hM f2' f5', mf0, ct_prim pl, el, h3, h12, h13, h14, hyl, ix37 hM e2 e5, p6, cellsA, r5, nH_alloc48, st, nH_blk, mf0p, mf1p, mp9, List.getElem?_cons_zero, vp39m e3, ct_prim pg, ct_prim pf, bare_s, eb, eg, es, mayA, wrap64, ew, ei, Bool.not_true, Bool.not_false, AS, avals, apairs, bareP, AV.bare, AV.bares, Nat.reduceEqDiff, Nat.reduceLT, Nat.reduceAdd, ↓reduceIte, reduceCtorEq, resA, resA1, resVal, Nat.reduceLeDiff, nb_cfg, Nat.reduceBEq, AX, Int.reduceLT, Int.reduceLE, Int.reduceEq, Int.reduceAdd, Int.reduceSub, Int.reduceMul, Int.reduceNeg, Int.reduceNe])
                  refine ⟨by kernel_rfl, q, by omega, i + 1 + 1, by omega, hWn, fe_len, ?_, ?_, ?_, ?_, _, rfl⟩
                  all_goals (try simp -dsimp (disch := omega) only [h3, h12, h13, h14, AS, avals, apairs, bareP, AV.bare, AV.bares, Nat.reduceEqDiff, Nat.reduceLT, Nat.reduceAdd, ↓reduceIte, reduceCtorEq, resA, resA1, resVal, Nat.reduceLeDiff, nb_cfg, Nat.reduceBEq, AX, Int.reduceLT, Int.reduceLE, Int.reduceEq, Int.reduceAdd, Int.reduceSub, Int.reduceMul, Int.reduceNeg, Int.reduceNe])
      · refine ⟨0, by omega, by rw [List.drop_zero]; exact hW, fe_len, ?_, ?_, ?_, ?_, _, rfl⟩
        all_goals (try simp -dsimp (disch := omega) only [h0, hyl, AS, avals, apairs, bareP, AV.bare, AV.bares, Nat.reduceEqDiff, Nat.reduceLT, Nat.reduceAdd, ↓reduceIte, reduceCtorEq, resA, resA1, resVal, Nat.reduceLeDiff, nb_cfg, Nat.reduceBEq, AX, Int.reduceLT, Int.reduceLE, Int.reduceEq, Int.reduceAdd, Int.reduceSub, Int.reduceMul, Int.reduceNeg, Int.reduceNe])
        all_goals rfl
end Go.Proofs.YtjejeijldllloaaDoor

/- Chapter 2: the document's Map: a row that grows and is written. -/
namespace Go.Proofs.YtjejeijldllloaaDoor
open Go.AM
/-- The mark of a row that grew one by one. -/
def genR : Nat → Nat
  | 0 => 0
  | 1 => 0
  | n + 2 => nextG (genR (n + 1))
def oV (n : Nat) : AV := if n = 0 then .v (.slice none 0 0) else .ex 1 (genR n) 6 0 n
def oB : List E → List Blk
  | [] => []
  | x :: xs => [⟨genR (xs.length + 1), 6, (x :: xs).map enc⟩]
def rH (xs : List E) : Hp := { toks := [], blks := ⟨0, 5, [z5]⟩ :: oB xs }
def zE : E := ([], [.v (.int .i64 0), .v (.int .i64 0), str [], .v (.slice none 0 0), .v (.slice none 0 0)])
theorem zE_ok : okE zE := ⟨rfl, rfl, rfl⟩
theorem rH_blk {xs : List E} (h : 0 < xs.length) : blkAt (rH xs) 1 (genR xs.length) = some ⟨genR xs.length, 6, xs.map enc⟩ := by
  cases xs with
  | nil => cases h
  | cons x xs => simp [blkAt, rH, oB]
theorem rH_set {xs ys : List E} (h : 0 < xs.length) (hl : ys.length = xs.length) : ({ rH xs with blks := (rH xs).blks.set 1 ⟨genR xs.length, 6, ys.map enc⟩ } : Hp) = rH ys := by
  cases xs with
  | nil => cases h
  | cons x xs =>
    cases ys with
    | nil => cases hl
    | cons y ys =>
      simp only [List.length_cons, Nat.add_right_cancel_iff] at hl
      simp [rH, oB, hl]
section
variable {prim : FuncId → Option (List AV → Option AV)}
theorem oV_len {n : Nat} : lenA (cfgP prim) #[37] [oV n] = some (.v (.int .i64 (n : Int))) := by
  unfold oV
  split
  · rename_i h
    subst h
    kernel_rfl
  · exact len_ex (e := 48) (by kernel_rfl)
theorem oV_ix {n k : Nat} (h : k < n) : indexAddrA (cfgP prim) 37 (oV n) (.v (.int .i64 (k : Int))) = some (.ptr 1 (genR n) k 0) := by
  have h0 : (0 : Int) ≤ k := by omega
  have hu : (cfgP prim).und 37 = some (.slice 48) := by kernel_rfl
  have hc : (cfgP prim).csz 48 = some 6 := by kernel_rfl
  unfold oV
  rw [if_neg (by omega)]
  simp only [indexAddrA, idx, h0, if_true, hu, hc, Int.toNat_natCast, h, and_self, Nat.zero_add]
theorem rH_store {xs : List E} {i n : Nat} {p : E} (hn : xs.length = n) (hp : okE p) (hx : okL xs) (hi : i < n) : storeA (cfgP prim) 48 1 (genR n) i 0 (enc p) (rH xs) = some (rH (xs.set i p)) := by
  subst hn
  have hq : okE xs[i] := hx _ (List.getElem_mem hi)
  have h1 : (xs.map enc)[i]? = some (enc xs[i]) := HB_get (List.getElem?_eq_getElem hi)
  have hc : (cfgP prim).csz 48 = some 6 := by kernel_rfl
  have hl : (enc p).cells.length = 6 := by rw [enc_cells, List.length_cons, hp.1]
  have hf : some (enc p).cells.length = (cfgP prim).csz 48 ∧ (enc p).cells.all AV.flat = true := ⟨by rw [hc, hl], enc_flat hp⟩
  have hs : setCells (enc xs[i]) 0 (enc p).cells = some (enc p) := by
    have hql : (str xs[i].1 :: xs[i].2).length = 6 := by rw [List.length_cons, hq.1]
    show (if 0 + (enc p).cells.length ≤ (str xs[i].1 :: xs[i].2).length then some (AV.agg ((str xs[i].1 :: xs[i].2).take 0 ++ (enc p).cells ++ (str xs[i].1 :: xs[i].2).drop (0 + (enc p).cells.length))) else none) = _
    rw [if_pos (by omega), List.take_zero, List.nil_append, List.drop_eq_nil_of_le (by omega), List.append_nil]
    rfl
  simp only [storeA, rH_blk (show 0 < xs.length by omega), h1]
  rw [if_pos hf, hs]
  simp only [Option.map_some]
  rw [← rH_set (xs := xs) (ys := xs.set i p) (by omega) (by simp), List.map_set]
theorem rH_app {xs : List E} {n : Nat} {p : E} (hn : xs.length = n) (hp : okE p) (hl : n < 4294967296) : appXA (cfgP prim) #[37, 37] [oV n, .cl true [enc p]] (rH xs) = some (oV (n + 1), rH (xs ++ [p])) := by
  subst hn
  have h0 : ((#[37, 37] : Array TypeId)[0]?).bind (elemT (cfgP prim)) = some 48 := by kernel_rfl
  have h1 : ((#[37, 37] : Array TypeId)[1]?).bind (cfgP prim).und = some (.slice 48) := by kernel_rfl
  have hz : zeroA (cfgP prim) 48 = some z6 := by kernel_rfl
  have hzl : z6.cells.length = 6 := rfl
  have hc : (cfgP prim).csz 48 = some 6 := by kernel_rfl
  have hby : (cfgP prim).byt 48 = some 96 := by kernel_rfl
  have hel : (enc p).cells.length = 5 + 1 := by rw [enc_cells, List.length_cons, hp.1]
  have hr : ∀ k, k ≤ 4294967296 → roomOk (cfgP prim) 48 k = true := by
    intro k hk
    simp only [roomOk, hby, Bool.and_eq_true, decide_eq_true_eq]
    omega
  have he : elems (.cl true [enc p]) = some [enc p] := rfl
  cases xs with
  | nil =>
    simp only [appXA, h0, h1, hz, hc, hzl, if_true, appendX, he, oV, List.length_nil]
    rw [if_pos ⟨hel, hr _ (by simp)⟩]
    simp [rH, oB, genR]
  | cons x xs =>
    have hb : blkAt (rH (x :: xs)) 1 (genR (xs.length + 1)) = some ⟨genR (xs.length + 1), 6, (x :: xs).map enc⟩ := rH_blk (xs := x :: xs) (by simp)
    have hov : oV (x :: xs).length = .ex 1 (genR (xs.length + 1)) 6 0 (xs.length + 1) := by
      unfold oV
      rw [if_neg (by simp)]
      rfl
    rw [hov]
    simp only [appXA, h0, h1, hz, hc, hzl, if_true, appendX, he]
    rw [if_pos ⟨hel, hr _ (by simp)⟩]
    simp only [hb]
    rw [if_pos ⟨trivial, trivial, by simp, hr _ (by simp only [List.length_cons, List.length_nil] at hl ⊢; omega)⟩]
    have hov' : oV ((x :: xs).length + 1) = .ex 1 (nextG (genR (xs.length + 1))) 6 0 (xs.length + 1 + 1) := by
      unfold oV
      rw [if_neg (by simp)]
      rfl
    rw [hov']
    simp only [List.length_cons, List.length_nil, Nat.zero_add, Option.some.injEq, Prod.mk.injEq, true_and]
    simp [rH, oB, genR]
theorem bz48 : buildA (cfgP prim) 48 [] = some (enc zE) := by kernel_rfl
theorem oV_one (n : Nat) : (oV n).cells = [oV n] ∧ (oV n).flat = true := by
  unfold oV
  split <;> exact ⟨rfl, rfl⟩
theorem bVo {n : Nat} : buildA (cfgP prim) 39 [(0, .v (.int .i64 5)), (4, oV n)] = some (vCells (oV n)) := by
  unfold oV
  split <;> kernel_rfl
theorem rH_store39 {xs : List E} {n : Nat} : storeA (cfgP prim) 39 0 0 0 0 (vCells (oV n)) (rH xs) = some { toks := [], blks := ⟨0, 5, [vCells (oV n)]⟩ :: oB xs } := by
  have hc : (cfgP prim).csz 39 = some 5 := by kernel_rfl
  have hf : [AV.v (.int .i64 5), .v (.int .i64 0), str [], .v (.slice none 0 0), oV n].all AV.flat = true := by
    simp only [List.all_cons, List.all_nil, (oV_one n).2]
    rfl
  have := store_all (C := cfgP prim) (t := 39) (b := 0) (n := 5) (x := [.v (.int .i64 5), .v (.int .i64 0), str [], .v (.slice none 0 0), oV n]) (y := [.v (.int .i64 0), .v (.int .i64 0), str [], .v (.slice none 0 0), .v (.slice none 0 0)]) (H := rH xs) rfl (by rw [hc]; rfl) rfl hf
  exact this
end
/-- What does not turn when it is handed back. -/
def okT (p : E) : Prop := ∀ H n, AV.thaws H (n + 7) p.2 = some p.2
theorem thaw_sl {X : AV} (hX : slK X) (hb : X.bare = some X) (H : Hp) (n : Nat) : AV.thaw H (n + 1) X = some X := by
  rcases hX with rfl | ⟨h1, _⟩
  · rfl
  · cases X with
    | ro xs => rfl
    | cl f xs =>
      cases f with
      | true => cases xs <;> simp [AV.bare, clB] at hb
      | false => rfl
    | _ => first | (simp [someSl] at h1; done) | (simp [AV.bare] at hb; done)
theorem okT_of {k : List UInt8} {v : GV} {cs : List AV} (h : FV v (.agg cs)) : okT (k, cs) := by
  intro H n
  cases v with
  | mk a b s l m =>
    obtain ⟨L, M, xs, ys, e, _, _, k1, k2, b1, b2, _⟩ := h
    injection e with e
    subst e
    have hL := thaw_sl k1 b1 H (n + 2)
    have hM := thaw_sl k2 b2 H (n + 1)
    show AV.thaws H (n + 7) [.v (.int .i64 a), .v (.int .i64 b), str s, L, M] = _
    have e1 : ∀ (x : Value) (j : Nat), AV.thaw H (j + 1) (.v x) = some (.v x) := fun _ _ => rfl
    have e2 : ∀ (x : List UInt8) (j : Nat), AV.thaw H (j + 1) (str x) = some (str x) := fun _ _ => rfl
    rw [AV.thaws, e1, AV.thaws, e1, AV.thaws, e2, AV.thaws, hL, AV.thaws, hM, AV.thaws]
theorem thaw_enc {p : E} (h : okT p) (H : Hp) (n : Nat) : AV.thaw H (n + 9) (enc p) = some (enc p) := by
  have h1 := h H n
  have e2 : AV.thaw H (n + 7) (str p.1) = some (str p.1) := rfl
  show (AV.thaws H (n + 8) (str p.1 :: p.2)).map AV.agg = _
  rw [AV.thaws, e2, h1]
  rfl
theorem thaws_enc {H : Hp} {n : Nat} : ∀ {xs : List E}, (∀ p ∈ xs, okT p) → AV.thaws H (xs.length + n + 10) (xs.map enc) = some (xs.map enc)
  | [], _ => by rw [List.map_nil, AV.thaws]
  | x :: xs, h => by
    have h1 := thaw_enc (h x (by simp)) H (xs.length + n + 1)
    have h2 := thaws_enc (H := H) (n := n) (xs := xs) fun p hp => h p (by simp [hp])
    rw [List.map_cons, List.length_cons, show xs.length + 1 + n + 10 = xs.length + n + 10 + 1 by omega, AV.thaws, h2, show xs.length + n + 10 = xs.length + n + 1 + 9 by omega, h1]
/-- What is handed back. -/
theorem oV_thaw {xs : List E} (h : ∀ p ∈ xs, okT p) : ∃ N, AV.thaw { toks := [], blks := ⟨0, 5, [vCells (oV xs.length)]⟩ :: oB xs } N (vCells (oV xs.length)) = some (mapV xs) := by
  cases xs with
  | nil => exact ⟨20, rfl⟩
  | cons x xs =>
    have hb : blkAt { toks := [], blks := ⟨0, 5, [vCells (oV (x :: xs).length)]⟩ :: oB (x :: xs) } 1 (genR (xs.length + 1)) = some ⟨genR (xs.length + 1), 6, (x :: xs).map enc⟩ := by simp [blkAt, oB]
    obtain ⟨H, hH⟩ : ∃ H : Hp, { toks := [], blks := ⟨0, 5, [vCells (oV (x :: xs).length)]⟩ :: oB (x :: xs) } = H := ⟨_, rfl⟩
    rw [hH] at hb ⊢
    have ht := thaws_enc (H := H) (n := 0) h
    have hov : oV (x :: xs).length = .ex 1 (genR (xs.length + 1)) 6 0 (x :: xs).length := by
      unfold oV
      rw [if_neg (by simp)]
      rfl
    obtain ⟨M, hM⟩ : ∃ M, (x :: xs).length + 0 + 10 = M := ⟨_, rfl⟩
    rw [hM] at ht
    have h1 : AV.thaw H (M + 1) (.ex 1 (genR (xs.length + 1)) 6 0 (x :: xs).length) = some (.ro ((x :: xs).map enc)) := by
      have h2 : 0 + (x :: xs).length ≤ ((x :: xs).map enc).length ∧ True := ⟨by simp, trivial⟩
      rw [AV.thaw]
      simp only [hb]
      rw [if_pos h2, List.drop_zero, List.take_of_length_le (by simp), ht]
      rfl
    refine ⟨M + 7, ?_⟩
    rw [hov]
    show (AV.thaws H (M + 6) [.v (.int .i64 5), .v (.int .i64 0), str [], .v (.slice none 0 0), .ex 1 (genR (xs.length + 1)) 6 0 (x :: xs).length]).map AV.agg = _
    have e1 : ∀ (x : Value) (j : Nat), AV.thaw H (j + 1) (.v x) = some (.v x) := fun _ _ => rfl
    have e2 : ∀ (x : List UInt8) (j : Nat), AV.thaw H (j + 1) (str x) = some (str x) := fun _ _ => rfl
    rw [AV.thaws, e1, AV.thaws, e1, AV.thaws, e2, AV.thaws, e1, AV.thaws, h1, AV.thaws]
    rfl
end Go.Proofs.YtjejeijldllloaaDoor

/- Chapter 2: the document's Map: its walk. -/
namespace Go.Proofs.YtjejeijldllloaaDoor
open Go.AM
theorem insR_len (p : E) : ∀ out : List E, (insR p out).length ≤ out.length + 1
  | [] => by simp [insR]
  | y :: r => by
    have := insR_len p r
    rw [insR]
    split
    · simp only [List.length_cons]; omega
    · split <;> simp
theorem refL_len : ∀ (n : Nat) (xs : List E), xs.length = n → (refL xs).length ≤ n
  | 0, xs, h => by
    obtain rfl := List.eq_nil_of_length_eq_zero h
    exact Nat.le_refl _
  | n + 1, xs, h => by
    obtain ⟨ys, p, rfl⟩ : ∃ ys p, xs = ys ++ [p] := ⟨xs.dropLast, xs.getLast (by intro e; rw [e] at h; cases h), (List.dropLast_concat_getLast _).symm⟩
    have a := refL_len n ys (by rw [List.length_append] at h; simpa using h)
    have b := insR_len p (refL ys)
    rw [refL_snoc]
    omega
theorem refL_mem {xs : List E} {q : E} (h : q ∈ refL xs) : q ∈ xs := by
  rw [refL_eq] at h
  exact mapL_mem h
structure RmI (x : AV) (es : List E) (i : Nat) (e : Env) (h : Hp) : Prop where
  len : e.length = 85
  a0 : aget e 0 = x
  a2 : aget e 2 = .ptr 0 0 0 0
  a3 : aget e 3 = oV (refL (es.take i)).length
  a4 : aget e 4 = .v (.int .i64 (i : Int))
  hp : h = rH (refL (es.take i))
structure RkI (x : AV) (out : List E) (n i k : Nat) (e : Env) (h : Hp) : Prop where
  len : e.length = 85
  a0 : aget e 0 = x
  a2 : aget e 2 = .ptr 0 0 0 0
  a3 : aget e 3 = oV n
  a4 : aget e 4 = .v (.int .i64 (i : Int))
  a5 : aget e 5 = .v (.int .i64 (k : Int))
  hp : h = rH out
structure RsI (x : AV) (n i k j : Nat) (cur : List E) (e : Env) (h : Hp) : Prop where
  len : e.length = 85
  a0 : aget e 0 = x
  a2 : aget e 2 = .ptr 0 0 0 0
  a3 : aget e 3 = oV (n + 1)
  a4 : aget e 4 = .v (.int .i64 (i : Int))
  a5 : aget e 5 = .v (.int .i64 (k : Int))
  a6 : aget e 6 = .v (.int .i64 (j : Int))
  hp : h = rH cur
theorem rH_new : allocA (cfgP fun _ => none) 39 false {} = some (.ptr 0 0 0 0, rH [], 4) := mH_new
set_option maxHeartbeats 8000000 in
set_option maxRecDepth 100000 in
theorem mapR_ok (x : AV) (es : List E) (hx : elems x = some (es.map enc)) (ho : okL es) (hT : ∀ p ∈ es, okT p) (hl : es.length < 1073741824) : PureOk (cfgP fun _ => none) 36 [x] (mapV (refL es)) := by
  have r2 : (cfgP fun _ => none).roBox 36 2 = false := rfl
  have nb : nbD 36 (some 59) = true := rfl
  have hxl : (es.map enc).length = es.length := List.length_map ..
  refine pure_of_wk (call := noCall) (fn := Tryd.f36) (rs := [.cell 2 39]) cokN noCall_ok (fns_cfg Tryd.func36 rfl) rfl rfl ?_
  intro env hl0 hargs
  have hn : env.length = 85 := hl0
  have h0 := hargs 0 _ rfl
  clear hargs hl0
  refine wkT_of ?_
  rw [fe_self hn]
  (try simp -dsimp (disch := omega) only [h0, r2, rH_new, AS, avals, apairs, bareP, AV.bare, AV.bares, Nat.reduceEqDiff, Nat.reduceLT, Nat.reduceAdd, ↓reduceIte, reduceCtorEq, resA, resA1, resVal, Nat.reduceLeDiff, nb_cfg, Nat.reduceBEq, AX, Int.reduceLT, Int.reduceLE, Int.reduceEq, Int.reduceAdd, Int.reduceSub, Int.reduceMul, Int.reduceNeg, Int.reduceNe])
  refine wt_loop (m := es.length) (fun q e h => ∃ i, i + q = es.length ∧ RmI x es i e h) ?_ ?_
  · clear hn h0
    rintro q e h ⟨i, hi, hn, h0, h2, h3, h4, rfl⟩
    rw [fe_self hn]
    obtain ⟨out, hout⟩ : ∃ out, refL (es.take i) = out := ⟨_, rfl⟩
    obtain ⟨n, hlen⟩ : ∃ n, out.length = n := ⟨_, rfl⟩
    rw [hout] at h3 ⊢
    rw [hlen] at h3
    have hni : n ≤ i := by
      have := refL_len i (es.take i) (by rw [List.length_take]; omega)
      rw [hout] at this
      omega
    have hoo : okL out := fun z hz => ho z (List.mem_of_mem_take (refL_mem (by rw [hout]; exact hz)))
    cases q with
    | zero =>
      obtain rfl : i = es.length := by omega
      have hfin : refL es = out := by rw [← hout, List.take_length]
      obtain ⟨N, hth⟩ := oV_thaw (xs := out) fun p hp => hT p (refL_mem (by rw [hfin]; exact hp))
      rw [hlen] at hth
      rw [hfin]
      (try simp -dsimp (disch := omega) only [h0, h2, h3, h4, len37 hx, hxl, bVo, rH_store39, blkAt, List.getElem?_cons_zero, AS, avals, apairs, bareP, AV.bare, AV.bares, Nat.reduceEqDiff, Nat.reduceLT, Nat.reduceAdd, ↓reduceIte, reduceCtorEq, resA, resA1, resVal, Nat.reduceLeDiff, nb_cfg, Nat.reduceBEq, AX, Int.reduceLT, Int.reduceLE, Int.reduceEq, Int.reduceAdd, Int.reduceSub, Int.reduceMul, Int.reduceNeg, Int.reduceNe])
      exact ⟨N, hth⟩
    | succ q =>
      obtain ⟨p, hp⟩ : ∃ p, es[i]? = some p := ⟨es[i]'(by omega), List.getElem?_eq_getElem (by omega)⟩
      have hop : okE p := ho p (List.mem_of_getElem? hp)
      have hpe : (es.map enc)[i]? = some (.agg (str p.1 :: p.2)) := HB_get hp
      have hp6 : (str p.1 :: p.2).length = 6 := by rw [List.length_cons, hop.1]
      have ixm := ix37 (prim := fun _ => none) hx hpe hp6
      have ei : (i : Int) + 1 = ((i + 1 : Nat) : Int) := by omega
      have di : decide ((i : Int) < (es.length : Int)) = true := decide_eq_true (by omega)
      have hnx : refL (es.take (i + 1)) = insR p out := by
        rw [List.take_add_one, hp, ← hout]
        exact refL_snoc _ _
      (try simp -dsimp (disch := omega) only [h0, h2, h3, h4, len37 hx, hxl, di, AS, avals, apairs, bareP, AV.bare, AV.bares, Nat.reduceEqDiff, Nat.reduceLT, Nat.reduceAdd, ↓reduceIte, reduceCtorEq, resA, resA1, resVal, Nat.reduceLeDiff, nb_cfg, Nat.reduceBEq, AX, Int.reduceLT, Int.reduceLE, Int.reduceEq, Int.reduceAdd, Int.reduceSub, Int.reduceMul, Int.reduceNeg, Int.reduceNe])
      refine wt_loop (m := n) (fun q e h => ∃ k, k + q = n ∧ (∀ j y, j < k → out[j]? = some y → bl y.1 p.1 = true) ∧ RkI x out n i k e h) ?_ ?_
      · clear hn h0 h2 h3 h4
        rintro q' e h ⟨k, hk, hlt, hn, h0, h2, h3, h4, h5, rfl⟩
        rw [fe_self hn]
        have hn1 : ((n + 1 : Nat) : Int) - 1 = (n : Int) := by omega
        cases q' with
        | zero =>
          have hkn : k = n := by omega
          have hins : insR p out = out.take k ++ p :: out.drop k := by
            rw [insR_at p out k hlt (by omega) (fun y hy => by rw [List.getElem?_eq_none (by omega)] at hy; cases hy), if_neg (by rw [List.getElem?_eq_none (by omega)]; simp)]
          have hlen' : (insR p out).length = n + 1 := by rw [hins, List.length_append, List.length_take, List.length_cons, List.length_drop]; omega
          have dk : decide ((k : Int) < (n : Int)) = false := decide_eq_false (by omega)
          have ap := rH_app (prim := fun _ => none) hlen zE_ok (by omega)
          (try simp -dsimp (disch := omega) only [h0, h2, h3, h4, h5, oV_len, dk, bz48, bareP, enc_bare zE_ok, bsM zE_ok, nb, BEq.rfl, appB_t, ap, wrap64, hn1, AS, avals, apairs, bareP, AV.bare, AV.bares, Nat.reduceEqDiff, Nat.reduceLT, Nat.reduceAdd, ↓reduceIte, reduceCtorEq, resA, resA1, resVal, Nat.reduceLeDiff, nb_cfg, Nat.reduceBEq, AX, Int.reduceLT, Int.reduceLE, Int.reduceEq, Int.reduceAdd, Int.reduceSub, Int.reduceMul, Int.reduceNeg, Int.reduceNe])
          refine ⟨by kernel_rfl, by kernel_rfl, ?_⟩
          refine wt_loop (m := n - k) (fun q e h => ∃ j g, j = k + q ∧ j ≤ n ∧ okE g ∧ RsI x n i k j (out.take j ++ g :: out.drop j) e h) ?_ ?_
          · clear hn h0 h2 h3 h4 h5
            rintro q e h ⟨j, g, hj, hjn, hg, hn, h0, h2, h3, h4, h5, h6, rfl⟩
            rw [fe_self hn]
            have hgl : (out.take j ++ g :: out.drop j).length = n + 1 := by rw [List.length_append, List.length_take, List.length_cons, List.length_drop]; omega
            have hgo : okL (out.take j ++ g :: out.drop j) := by
              intro z hz
              rcases List.mem_append.1 hz with hz | hz
              · exact hoo z (List.mem_of_mem_take hz)
              · rcases List.mem_cons.1 hz with rfl | hz
                · exact hg
                · exact hoo z (List.mem_of_mem_drop hz)
            cases q with
            | zero =>
              obtain rfl : j = k := by omega
              have s1 := rH_store (prim := fun _ => none) (i := j) (p := p) hgl hop hgo (by omega)
              have hset : (out.take j ++ g :: out.drop j).set j p = insR p out := by
                have htl : (out.take j).length = j := by rw [List.length_take]; omega
                rw [hins, List.set_append_right _ _ (by omega), htl, Nat.sub_self, List.set_cons_zero]
              rw [hset] at s1
              have xj := oV_ix (prim := fun _ => none) (n := n + 1) (k := j) (by omega)
              (try simp -dsimp (disch := omega) only [h0, h2, h3, h4, h5, h6, ixm, mp48c hop, cellsA, xj, s1, wrap64, ei, AS, avals, apairs, bareP, AV.bare, AV.bares, Nat.reduceEqDiff, Nat.reduceLT, Nat.reduceAdd, ↓reduceIte, reduceCtorEq, resA, resA1, resVal, Nat.reduceLeDiff, nb_cfg, Nat.reduceBEq, AX, Int.reduceLT, Int.reduceLE, Int.reduceEq, Int.reduceAdd, Int.reduceSub, Int.reduceMul, Int.reduceNeg, Int.reduceNe])
              refine ⟨es.length - (i + 1), by omega, i + 1, by omega, fe_len, ?_, ?_, ?_, ?_, ?_⟩
              case refine_5 => rw [hnx]
              all_goals (try simp -dsimp (disch := omega) only [h0, h2, h3, h4, hnx, hlen', AS, avals, apairs, bareP, AV.bare, AV.bares, Nat.reduceEqDiff, Nat.reduceLT, Nat.reduceAdd, ↓reduceIte, reduceCtorEq, resA, resA1, resVal, Nat.reduceLeDiff, nb_cfg, Nat.reduceBEq, AX, Int.reduceLT, Int.reduceLE, Int.reduceEq, Int.reduceAdd, Int.reduceSub, Int.reduceMul, Int.reduceNeg, Int.reduceNe])
            | succ q =>
              obtain ⟨z, hz⟩ : ∃ z, out[j - 1]? = some z := ⟨out[j - 1]'(by omega), List.getElem?_eq_getElem (by omega)⟩
              have hoz : okE z := hoo z (List.mem_of_getElem? hz)
              have ej : (j : Int) - 1 = ((j - 1 : Nat) : Int) := by omega
              have xj := oV_ix (prim := fun _ => none) (n := n + 1) (k := j) (by omega)
              have xj1 := oV_ix (prim := fun _ => none) (n := n + 1) (k := j - 1) (by omega)
              have s1 := rH_store (prim := fun _ => none) (i := j) (p := z) hgl hoz hgo (by omega)
              have rb1 := rH_blk (xs := out.take j ++ g :: out.drop j) (by omega)
              rw [hgl] at rb1
              have gz : ((out.take j ++ g :: out.drop j).map enc)[j - 1]? = some (enc z) := by
                refine HB_get ?_
                rw [List.getElem?_append_left (by rw [List.length_take]; omega), List.getElem?_take, if_pos (by omega)]
                exact hz
              have hset : (out.take j ++ g :: out.drop j).set j z = out.take (j - 1) ++ z :: out.drop (j - 1) := by
                have htl : (out.take j).length = j := by rw [List.length_take]; omega
                rw [List.set_append_right _ _ (by omega), htl, Nat.sub_self, List.set_cons_zero]
                obtain ⟨hi', he'⟩ := List.getElem?_eq_some_iff.1 hz
                have e1 : out.take j = out.take (j - 1) ++ [z] := by
                  have := List.take_add_one (l := out) (i := j - 1)
                  rw [hz, show j - 1 + 1 = j by omega] at this
                  exact this
                have e2 : out.drop (j - 1) = z :: out.drop j := by
                  rw [List.drop_eq_getElem_cons hi', he', show j - 1 + 1 = j by omega]
                rw [e1, e2]
                simp
              rw [hset] at s1
              have dk : decide ((k : Int) < (j : Int)) = true := decide_eq_true (by omega)
              (try simp -dsimp (disch := omega) only [h0, h2, h3, h4, h5, h6, dk, wrap64, ej, xj, xj1, rb1, gz, mp48e hoz, s1, AS, avals, apairs, bareP, AV.bare, AV.bares, Nat.reduceEqDiff, Nat.reduceLT, Nat.reduceAdd, ↓reduceIte, reduceCtorEq, resA, resA1, resVal, Nat.reduceLeDiff, nb_cfg, Nat.reduceBEq, AX, Int.reduceLT, Int.reduceLE, Int.reduceEq, Int.reduceAdd, Int.reduceSub, Int.reduceMul, Int.reduceNeg, Int.reduceNe])
              refine ⟨q, by omega, j - 1, z, by omega, by omega, hoz, fe_len, ?_, ?_, ?_, ?_, ?_, ?_, rfl⟩
              all_goals (try simp -dsimp (disch := omega) only [h0, h2, h3, h4, h5, AS, avals, apairs, bareP, AV.bare, AV.bares, Nat.reduceEqDiff, Nat.reduceLT, Nat.reduceAdd, ↓reduceIte, reduceCtorEq, resA, resA1, resVal, Nat.reduceLeDiff, nb_cfg, Nat.reduceBEq, AX, Int.reduceLT, Int.reduceLE, Int.reduceEq, Int.reduceAdd, Int.reduceSub, Int.reduceMul, Int.reduceNeg, Int.reduceNe])
          · refine ⟨n, zE, by omega, by omega, zE_ok, fe_len, ?_, ?_, ?_, ?_, ?_, ?_, by rw [List.take_of_length_le (by omega), List.drop_of_length_le (by omega)]⟩
            all_goals (try simp -dsimp (disch := omega) only [h0, h2, h3, h4, h5, hn1, AS, avals, apairs, bareP, AV.bare, AV.bares, Nat.reduceEqDiff, Nat.reduceLT, Nat.reduceAdd, ↓reduceIte, reduceCtorEq, resA, resA1, resVal, Nat.reduceLeDiff, nb_cfg, Nat.reduceBEq, AX, Int.reduceLT, Int.reduceLE, Int.reduceEq, Int.reduceAdd, Int.reduceSub, Int.reduceMul, Int.reduceNeg, Int.reduceNe])
        | succ q' =>
          obtain ⟨y, hy⟩ : ∃ y, out[k]? = some y := ⟨out[k]'(by omega), List.getElem?_eq_getElem (by omega)⟩
          have hoy : okE y := hoo y (List.mem_of_getElem? hy)
          have gy := HB_get hy
          have rb := rH_blk (xs := out) (by omega)
          rw [hlen] at rb
          have xk := oV_ix (prim := fun _ => none) (n := n) (k := k) (by omega)
          have dk : decide ((k : Int) < (n : Int)) = true := decide_eq_true (by omega)
          have ek : (k : Int) + 1 = ((k + 1 : Nat) : Int) := by omega
          cases hb : Op.bytesLess y.1 p.1 with
          | true =>
            (try simp -dsimp (disch := omega) only [h0, h2, h3, h4, h5, oV_len, dk, xk, rb, gy, mf0p, mf0, mp9, enc_cells, cellsA, ixm, List.getElem?_cons_zero, hb, wrap64, ek, AS, avals, apairs, bareP, AV.bare, AV.bares, Nat.reduceEqDiff, Nat.reduceLT, Nat.reduceAdd, ↓reduceIte, reduceCtorEq, resA, resA1, resVal, Nat.reduceLeDiff, nb_cfg, Nat.reduceBEq, AX, Int.reduceLT, Int.reduceLE, Int.reduceEq, Int.reduceAdd, Int.reduceSub, Int.reduceMul, Int.reduceNeg, Int.reduceNe])
            refine ⟨by kernel_rfl, q', by omega, k + 1, by omega, ?_, fe_len, ?_, ?_, ?_, ?_, ?_, rfl⟩
            case refine_1 =>
              intro j z hj hz
              rcases Nat.lt_or_ge j k with hj' | hj'
              · exact hlt j z hj' hz
              · obtain rfl : j = k := by omega
                rw [hy] at hz
                injection hz with hz
                rw [← hz]
                exact hb
            all_goals (try simp -dsimp (disch := omega) only [h0, h2, h3, h4, h5, AS, avals, apairs, bareP, AV.bare, AV.bares, Nat.reduceEqDiff, Nat.reduceLT, Nat.reduceAdd, ↓reduceIte, reduceCtorEq, resA, resA1, resVal, Nat.reduceLeDiff, nb_cfg, Nat.reduceBEq, AX, Int.reduceLT, Int.reduceLE, Int.reduceEq, Int.reduceAdd, Int.reduceSub, Int.reduceMul, Int.reduceNeg, Int.reduceNe])
          | false =>
            cases heq : decide (y.1 = p.1) with
            | true =>
              have heq' : y.1 = p.1 := of_decide_eq_true heq
              have hins : insR p out = out.set k p := by
                rw [insR_at p out k hlt (by omega) (fun z hz => by rw [hy] at hz; injection hz with hz; rw [← hz]; exact hb), if_pos (by rw [hy]; simp [heq'])]
              have hlen' : (insR p out).length = n := by rw [hins, List.length_set, hlen]
              have s1 := rH_store (prim := fun _ => none) (i := k) (p := p) hlen hop hoo (by omega)
              rw [← hins] at s1
              (try simp -dsimp (disch := omega) only [h0, h2, h3, h4, h5, oV_len, dk, xk, rb, gy, mf0p, mf0, mp9, enc_cells, cellsA, ixm, List.getElem?_cons_zero, hb, heq, mp48c hop, s1, wrap64, ei, AS, avals, apairs, bareP, AV.bare, AV.bares, Nat.reduceEqDiff, Nat.reduceLT, Nat.reduceAdd, ↓reduceIte, reduceCtorEq, resA, resA1, resVal, Nat.reduceLeDiff, nb_cfg, Nat.reduceBEq, AX, Int.reduceLT, Int.reduceLE, Int.reduceEq, Int.reduceAdd, Int.reduceSub, Int.reduceMul, Int.reduceNeg, Int.reduceNe])
              refine ⟨by kernel_rfl, by kernel_rfl, es.length - (i + 1), by omega, i + 1, by omega, fe_len, ?_, ?_, ?_, ?_, ?_⟩
              case refine_5 => rw [hnx]
              all_goals (try simp -dsimp (disch := omega) only [h0, h2, h3, h4, hnx, hlen', AS, avals, apairs, bareP, AV.bare, AV.bares, Nat.reduceEqDiff, Nat.reduceLT, Nat.reduceAdd, ↓reduceIte, reduceCtorEq, resA, resA1, resVal, Nat.reduceLeDiff, nb_cfg, Nat.reduceBEq, AX, Int.reduceLT, Int.reduceLE, Int.reduceEq, Int.reduceAdd, Int.reduceSub, Int.reduceMul, Int.reduceNeg, Int.reduceNe])
            | false =>
              have heq' : ¬ y.1 = p.1 := of_decide_eq_false heq
              have hins : insR p out = out.take k ++ p :: out.drop k := by
                rw [insR_at p out k hlt (by omega) (fun z hz => by rw [hy] at hz; injection hz with hz; rw [← hz]; exact hb), if_neg (by rw [hy]; simpa using heq')]
              have hlen' : (insR p out).length = n + 1 := by rw [hins, List.length_append, List.length_take, List.length_cons, List.length_drop]; omega
              have ap := rH_app (prim := fun _ => none) hlen zE_ok (by omega)
              (try simp -dsimp (disch := omega) only [h0, h2, h3, h4, h5, oV_len, dk, xk, rb, gy, mf0p, mf0, mp9, enc_cells, cellsA, ixm, List.getElem?_cons_zero, hb, heq, bz48, bareP, enc_bare zE_ok, bsM zE_ok, nb, BEq.rfl, appB_t, ap, wrap64, hn1, AS, avals, apairs, bareP, AV.bare, AV.bares, Nat.reduceEqDiff, Nat.reduceLT, Nat.reduceAdd, ↓reduceIte, reduceCtorEq, resA, resA1, resVal, Nat.reduceLeDiff, nb_cfg, Nat.reduceBEq, AX, Int.reduceLT, Int.reduceLE, Int.reduceEq, Int.reduceAdd, Int.reduceSub, Int.reduceMul, Int.reduceNeg, Int.reduceNe])
              refine ⟨by kernel_rfl, by kernel_rfl, ?_⟩
              refine wt_loop (m := n - k) (fun q e h => ∃ j g, j = k + q ∧ j ≤ n ∧ okE g ∧ RsI x n i k j (out.take j ++ g :: out.drop j) e h) ?_ ?_
              · clear hn h0 h2 h3 h4 h5
                rintro q e h ⟨j, g, hj, hjn, hg, hn, h0, h2, h3, h4, h5, h6, rfl⟩
                rw [fe_self hn]
                have hgl : (out.take j ++ g :: out.drop j).length = n + 1 := by rw [List.length_append, List.length_take, List.length_cons, List.length_drop]; omega
                have hgo : okL (out.take j ++ g :: out.drop j) := by
                  intro z hz
                  rcases List.mem_append.1 hz with hz | hz
                  · exact hoo z (List.mem_of_mem_take hz)
                  · rcases List.mem_cons.1 hz with rfl | hz
                    · exact hg
                    · exact hoo z (List.mem_of_mem_drop hz)
                cases q with
                | zero =>
                  obtain rfl : j = k := by omega
                  have s1 := rH_store (prim := fun _ => none) (i := j) (p := p) hgl hop hgo (by omega)
                  have hset : (out.take j ++ g :: out.drop j).set j p = insR p out := by
                    have htl : (out.take j).length = j := by rw [List.length_take]; omega
                    rw [hins, List.set_append_right _ _ (by omega), htl, Nat.sub_self, List.set_cons_zero]
                  rw [hset] at s1
                  have xj := oV_ix (prim := fun _ => none) (n := n + 1) (k := j) (by omega)
                  (try simp -dsimp (disch := omega) only [h0, h2, h3, h4, h5, h6, ixm, mp48c hop, cellsA, xj, s1, wrap64, ei, AS, avals, apairs, bareP, AV.bare, AV.bares, Nat.reduceEqDiff, Nat.reduceLT, Nat.reduceAdd, ↓reduceIte, reduceCtorEq, resA, resA1, resVal, Nat.reduceLeDiff, nb_cfg, Nat.reduceBEq, AX, Int.reduceLT, Int.reduceLE, Int.reduceEq, Int.reduceAdd, Int.reduceSub, Int.reduceMul, Int.reduceNeg, Int.reduceNe])
                  refine ⟨es.length - (i + 1), by omega, i + 1, by omega, fe_len, ?_, ?_, ?_, ?_, ?_⟩
                  case refine_5 => rw [hnx]
                  all_goals (try simp -dsimp (disch := omega) only [h0, h2, h3, h4, hnx, hlen', AS, avals, apairs, bareP, AV.bare, AV.bares, Nat.reduceEqDiff, Nat.reduceLT, Nat.reduceAdd, ↓reduceIte, reduceCtorEq, resA, resA1, resVal, Nat.reduceLeDiff, nb_cfg, Nat.reduceBEq, AX, Int.reduceLT, Int.reduceLE, Int.reduceEq, Int.reduceAdd, Int.reduceSub, Int.reduceMul, Int.reduceNeg, Int.reduceNe])
                | succ q =>
                  obtain ⟨z, hz⟩ : ∃ z, out[j - 1]? = some z := ⟨out[j - 1]'(by omega), List.getElem?_eq_getElem (by omega)⟩
                  have hoz : okE z := hoo z (List.mem_of_getElem? hz)
                  have ej : (j : Int) - 1 = ((j - 1 : Nat) : Int) := by omega
                  have xj := oV_ix (prim := fun _ => none) (n := n + 1) (k := j) (by omega)
                  have xj1 := oV_ix (prim := fun _ => none) (n := n + 1) (k := j - 1) (by omega)
                  have s1 := rH_store (prim := fun _ => none) (i := j) (p := z) hgl hoz hgo (by omega)
                  have rb1 := rH_blk (xs := out.take j ++ g :: out.drop j) (by omega)
                  rw [hgl] at rb1
                  have gz : ((out.take j ++ g :: out.drop j).map enc)[j - 1]? = some (enc z) := by
                    refine HB_get ?_
                    rw [List.getElem?_append_left (by rw [List.length_take]; omega), List.getElem?_take, if_pos (by omega)]
                    exact hz
                  have hset : (out.take j ++ g :: out.drop j).set j z = out.take (j - 1) ++ z :: out.drop (j - 1) := by
                    have htl : (out.take j).length = j := by rw [List.length_take]; omega
                    rw [List.set_append_right _ _ (by omega), htl, Nat.sub_self, List.set_cons_zero]
                    obtain ⟨hi', he'⟩ := List.getElem?_eq_some_iff.1 hz
                    have e1 : out.take j = out.take (j - 1) ++ [z] := by
                      have := List.take_add_one (l := out) (i := j - 1)
                      rw [hz, show j - 1 + 1 = j by omega] at this
                      exact this
                    have e2 : out.drop (j - 1) = z :: out.drop j := by
                      rw [List.drop_eq_getElem_cons hi', he', show j - 1 + 1 = j by omega]
                    rw [e1, e2]
                    simp
                  rw [hset] at s1
                  have dk : decide ((k : Int) < (j : Int)) = true := decide_eq_true (by omega)
                  (try simp -dsimp (disch := omega) only [h0, h2, h3, h4, h5, h6, dk, wrap64, ej, xj, xj1, rb1, gz, mp48e hoz, s1, AS, avals, apairs, bareP, AV.bare, AV.bares, Nat.reduceEqDiff, Nat.reduceLT, Nat.reduceAdd, ↓reduceIte, reduceCtorEq, resA, resA1, resVal, Nat.reduceLeDiff, nb_cfg, Nat.reduceBEq, AX, Int.reduceLT, Int.reduceLE, Int.reduceEq, Int.reduceAdd, Int.reduceSub, Int.reduceMul, Int.reduceNeg, Int.reduceNe])
                  refine ⟨q, by omega, j - 1, z, by omega, by omega, hoz, fe_len, ?_, ?_, ?_, ?_, ?_, ?_, rfl⟩
                  all_goals (try simp -dsimp (disch := omega) only [h0, h2, h3, h4, h5, AS, avals, apairs, bareP, AV.bare, AV.bares, Nat.reduceEqDiff, Nat.reduceLT, Nat.reduceAdd, ↓reduceIte, reduceCtorEq, resA, resA1, resVal, Nat.reduceLeDiff, nb_cfg, Nat.reduceBEq, AX, Int.reduceLT, Int.reduceLE, Int.reduceEq, Int.reduceAdd, Int.reduceSub, Int.reduceMul, Int.reduceNeg, Int.reduceNe])
              · refine ⟨n, zE, by omega, by omega, zE_ok, fe_len, ?_, ?_, ?_, ?_, ?_, ?_, by rw [List.take_of_length_le (by omega), List.drop_of_length_le (by omega)]⟩
                all_goals (try simp -dsimp (disch := omega) only [h0, h2, h3, h4, h5, hn1, AS, avals, apairs, bareP, AV.bare, AV.bares, Nat.reduceEqDiff, Nat.reduceLT, Nat.reduceAdd, ↓reduceIte, reduceCtorEq, resA, resA1, resVal, Nat.reduceLeDiff, nb_cfg, Nat.reduceBEq, AX, Int.reduceLT, Int.reduceLE, Int.reduceEq, Int.reduceAdd, Int.reduceSub, Int.reduceMul, Int.reduceNeg, Int.reduceNe])
      · refine ⟨0, by omega, (fun j y hj => by omega), fe_len, ?_, ?_, ?_, ?_, ?_, rfl⟩
        all_goals (try simp -dsimp (disch := omega) only [h0, h2, h3, h4, AS, avals, apairs, bareP, AV.bare, AV.bares, Nat.reduceEqDiff, Nat.reduceLT, Nat.reduceAdd, ↓reduceIte, reduceCtorEq, resA, resA1, resVal, Nat.reduceLeDiff, nb_cfg, Nat.reduceBEq, AX, Int.reduceLT, Int.reduceLE, Int.reduceEq, Int.reduceAdd, Int.reduceSub, Int.reduceMul, Int.reduceNeg, Int.reduceNe])
        all_goals rfl
  · refine ⟨0, by omega, fe_len, ?_, ?_, ?_, ?_, rfl⟩
    all_goals (try simp -dsimp (disch := omega) only [h0, AS, avals, apairs, bareP, AV.bare, AV.bares, Nat.reduceEqDiff, Nat.reduceLT, Nat.reduceAdd, ↓reduceIte, reduceCtorEq, resA, resA1, resVal, Nat.reduceLeDiff, nb_cfg, Nat.reduceBEq, AX, Int.reduceLT, Int.reduceLE, Int.reduceEq, Int.reduceAdd, Int.reduceSub, Int.reduceMul, Int.reduceNeg, Int.reduceNe])
    all_goals rfl
end Go.Proofs.YtjejeijldllloaaDoor

/- Chapter 2: what a good value is: the program's fine, Good. -/
namespace Go.Proofs.YtjejeijldllloaaDoor
open Go.AM
theorem may_kinds (k n : Int) (s : List UInt8) (l : List GV) (m : List (List UInt8 × GV)) : (GV.mk k n s l m).may = if k = 0 then (GV.mk k n s l m).bareB else if k = 1 then (GV.mk k n s l m).bitB else if k = 2 then (GV.mk k n s l m).numB else if k = 3 then (GV.mk k n s l m).textB else if k = 4 then (GV.mk k n s l m).listB else if k = 5 then (GV.mk k n s l m).tableB else false := by
  rw [GV.may]
  simp only [GV.bareB, GV.bitB, GV.numB, GV.textB, GV.listB, GV.tableB, List.length_nil, Int.natCast_zero, decide_true, Int.ofNat_zero, Int.cast_ofNat_Int]
  generalize decide (s = []) = a
  generalize decide ((l.length : Int) = 0) = b
  generalize decide ((m.length : Int) = 0) = c
  generalize decide (n = 0) = d
  generalize decide (n = 1) = e
  generalize decide (-9007199254740991 ≤ n) = f
  generalize decide (n ≤ 9007199254740991) = g
  generalize utfB s = u
  generalize GV.mays l = v
  generalize GV.maym none m = w
  repeat' split
  · rfl
  · cases a <;> cases b <;> cases c <;> cases d <;> cases e <;> rfl
  · cases a <;> cases b <;> cases c <;> cases f <;> cases g <;> rfl
  · cases b <;> cases c <;> cases d <;> cases u <;> rfl
  · cases a <;> cases c <;> cases d <;> cases v <;> rfl
  · cases a <;> cases b <;> cases d <;> cases w <;> rfl
  · rfl
section
variable {N : Nat} (ih : ∀ v x, FV v x → v.sml → v.sz < N → PureOk (cfgP fun _ => none) 70 [x] (mayA v))
include ih
theorem ok_fnt : (cfgP (fnt N)).Ok := cfg_ok (tab_ok ⟨prim_at Tryd.func70 (by kernel_rfl) rfl (smS_ok (R := fun xs r => PureOk (cfgP fun _ => none) 70 xs r) ih), trivial⟩)
theorem ok_lct : (cfgP (lct N)).Ok := cfg_ok (tab_ok ⟨prim_at Tryd.func125 (by kernel_rfl) rfl (smS_ok (R := fun xs r => PureOk (cfgP fun _ => none) 125 xs r) fun v x h hs hn => pureOk_prim (flc_ok (ok_fnt ih) h hs hn)), trivial⟩)
theorem ok_ixt : (cfgP (ixt N)).Ok := cfg_ok (tab_ok ⟨prim_at Tryd.func129 (by kernel_rfl) rfl (lvT_ok (R := fun xs r => PureOk (cfgP fun _ => none) 129 xs r) fun l L h hs hn hl => pureOk_prim (fidx_ok (ok_lct ih) h hs hn hl)), trivial⟩)
theorem ok_cot : (cfgP (cot N)).Ok := cfg_ok (tab_ok ⟨prim_at Tryd.func124 (by kernel_rfl) rfl (lvT_ok (R := fun xs r => PureOk (cfgP fun _ => none) 124 xs r) fun l L h hs hn hl => pureOk_prim (con_ok (ok_ixt ih) h hs hn hl)), prim_at Tryd.func111 (by kernel_rfl) rfl (vP_ok (R := fun xs y => PureOk (cfgP fun _ => none) 111 xs y) fun v x h _ => bare_ok h), trivial⟩)
theorem ok_tat : (cfgP (tat N)).Ok := cfg_ok (tab_ok ⟨prim_at Tryd.func70 (by kernel_rfl) rfl (smS_ok (R := fun xs r => PureOk (cfgP fun _ => none) 70 xs r) ih), prim_at Tryd.func111 (by kernel_rfl) rfl (vP_ok (R := fun xs y => PureOk (cfgP fun _ => none) 111 xs y) fun v x h _ => bare_ok h), prim_at Tryd.func22 (by kernel_rfl) rfl (s1P_of (X := fun xs y => PureOk (cfgP fun _ => none) 22 xs y) fun l h => pureOk_prim (good_ok l h)), prim_at Tryd.func24 (by kernel_rfl) rfl (s2P_of (X := fun xs y => PureOk (cfgP fun _ => none) 24 xs y) fun a b => less_ok a b), trivial⟩)
end
noncomputable def fin (N : Nat) : FuncId → Option (List AV → Option AV) := tab [(98, askQ), (111, vP bareA), (112, vP bitA), (113, vP numA), (114, vP textA), (115, smS listA (N + 1)), (116, smS tableA (N + 1))]
set_option maxHeartbeats 4000000 in
set_option maxRecDepth 100000 in
theorem fine_step {N : Nat} (ok : (cfgP (fin N)).Ok) {v : GV} {x : AV} (h : FV v x) (hs : v.sml) (hn : v.sz < N + 1) : PureOk (cfgP (fin N)) 70 [x] (mayA v) := by
  have q0 := vP_eq (r := bareA) h hs
  have q1 := vP_eq (r := bitA) h hs
  have q2 := vP_eq (r := numA) h hs
  have q3 := vP_eq (r := textA) h hs
  have q4 := smS_eq (r := listA) (N := N + 1) h hs hn
  have q5 := smS_eq (r := tableA) (N := N + 1) h hs hn
  have hk : ∃ k, (match v with | .mk k _ _ _ _ => k) = k := ⟨_, rfl⟩
  obtain ⟨cs, rfl, h5, hbs, hfl⟩ := h.shape
  have hb := h.bare
  have r1 : (cfgP (fin N)).roBox 70 1 = true := rfl
  have pa : (cfgP (fin N)).prim 98 = some askQ := rfl
  have p0 : (cfgP (fin N)).prim 111 = some (vP bareA) := rfl
  have p1 : (cfgP (fin N)).prim 112 = some (vP bitA) := rfl
  have p2 : (cfgP (fin N)).prim 113 = some (vP numA) := rfl
  have p3 : (cfgP (fin N)).prim 114 = some (vP textA) := rfl
  have p4 : (cfgP (fin N)).prim 115 = some (smS listA (N + 1)) := rfl
  have p5 : (cfgP (fin N)).prim 116 = some (smS tableA (N + 1)) := rfl
  cases v with
  | mk k n s l m =>
    have g0 : cs[0]? = some (.v (.int .i64 k)) := by
      obtain ⟨L, M, xs, ys, e, _⟩ := h
      injection e with e
      rw [e]; rfl
    have hmk := may_kinds k n s l m
    have qa := askQ_eq k
    by_cases k0 : k = 0
    · rw [if_pos k0] at hmk
      have hr : mayA (.mk k n s l m) = bareA (.mk k n s l m) := congrArg (fun b => AV.v (.bool b)) hmk
      rw [hr]
      subst k0
      rw [show askK 0 = .tup [.fn (.func 111) [] [], .v (.bool true)] from rfl] at qa
      refine pure_of_wk (call := noCall) (fn := Tryd.f70) (rs := [.tmp 2]) ok noCall_ok (fns_cfg Tryd.func70 rfl) rfl rfl ?_
      intro env hl0 hargs
      have hn : env.length = 17 := hl0
      have h0 := hargs 0 _ rfl
      clear hargs hl0
      refine wkT_of ?_
      rw [fe_self hn]
      (try simp -dsimp (disch := omega) only [h0, r1, bxt_ro hb hfl, gf0, vp3, cellsA, g0, ct_prim pa, qa, vp39 h5, ct_prim p0, hbs, q0, bareA, AS, avals, apairs, bareP, AV.bare, AV.bares, Nat.reduceEqDiff, Nat.reduceLT, Nat.reduceAdd, ↓reduceIte, reduceCtorEq, resA, resA1, resVal, Nat.reduceLeDiff, nb_cfg, Nat.reduceBEq, AX, Int.reduceLT, Int.reduceLE, Int.reduceEq, Int.reduceAdd, Int.reduceSub, Int.reduceMul, Int.reduceNeg, Int.reduceNe])
      exact ⟨1, rfl⟩
    by_cases k1 : k = 1
    · rw [if_neg k0, if_pos k1] at hmk
      have hr : mayA (.mk k n s l m) = bitA (.mk k n s l m) := congrArg (fun b => AV.v (.bool b)) hmk
      rw [hr]
      subst k1
      rw [show askK 1 = .tup [.fn (.func 112) [] [], .v (.bool true)] from rfl] at qa
      refine pure_of_wk (call := noCall) (fn := Tryd.f70) (rs := [.tmp 2]) ok noCall_ok (fns_cfg Tryd.func70 rfl) rfl rfl ?_
      intro env hl0 hargs
      have hn : env.length = 17 := hl0
      have h0 := hargs 0 _ rfl
      clear hargs hl0
      refine wkT_of ?_
      rw [fe_self hn]
      (try simp -dsimp (disch := omega) only [h0, r1, bxt_ro hb hfl, gf0, vp3, cellsA, g0, ct_prim pa, qa, vp39 h5, ct_prim p1, hbs, q1, bitA, AS, avals, apairs, bareP, AV.bare, AV.bares, Nat.reduceEqDiff, Nat.reduceLT, Nat.reduceAdd, ↓reduceIte, reduceCtorEq, resA, resA1, resVal, Nat.reduceLeDiff, nb_cfg, Nat.reduceBEq, AX, Int.reduceLT, Int.reduceLE, Int.reduceEq, Int.reduceAdd, Int.reduceSub, Int.reduceMul, Int.reduceNeg, Int.reduceNe])
      exact ⟨1, rfl⟩
    by_cases k2 : k = 2
    · rw [if_neg k0, if_neg k1, if_pos k2] at hmk
      have hr : mayA (.mk k n s l m) = numA (.mk k n s l m) := congrArg (fun b => AV.v (.bool b)) hmk
      rw [hr]
      subst k2
      rw [show askK 2 = .tup [.fn (.func 113) [] [], .v (.bool true)] from rfl] at qa
      refine pure_of_wk (call := noCall) (fn := Tryd.f70) (rs := [.tmp 2]) ok noCall_ok (fns_cfg Tryd.func70 rfl) rfl rfl ?_
      intro env hl0 hargs
      have hn : env.length = 17 := hl0
      have h0 := hargs 0 _ rfl
      clear hargs hl0
      refine wkT_of ?_
      rw [fe_self hn]
      (try simp -dsimp (disch := omega) only [h0, r1, bxt_ro hb hfl, gf0, vp3, cellsA, g0, ct_prim pa, qa, vp39 h5, ct_prim p2, hbs, q2, numA, AS, avals, apairs, bareP, AV.bare, AV.bares, Nat.reduceEqDiff, Nat.reduceLT, Nat.reduceAdd, ↓reduceIte, reduceCtorEq, resA, resA1, resVal, Nat.reduceLeDiff, nb_cfg, Nat.reduceBEq, AX, Int.reduceLT, Int.reduceLE, Int.reduceEq, Int.reduceAdd, Int.reduceSub, Int.reduceMul, Int.reduceNeg, Int.reduceNe])
      exact ⟨1, rfl⟩
    by_cases k3 : k = 3
    · rw [if_neg k0, if_neg k1, if_neg k2, if_pos k3] at hmk
      have hr : mayA (.mk k n s l m) = textA (.mk k n s l m) := congrArg (fun b => AV.v (.bool b)) hmk
      rw [hr]
      subst k3
      rw [show askK 3 = .tup [.fn (.func 114) [] [], .v (.bool true)] from rfl] at qa
      refine pure_of_wk (call := noCall) (fn := Tryd.f70) (rs := [.tmp 2]) ok noCall_ok (fns_cfg Tryd.func70 rfl) rfl rfl ?_
      intro env hl0 hargs
      have hn : env.length = 17 := hl0
      have h0 := hargs 0 _ rfl
      clear hargs hl0
      refine wkT_of ?_
      rw [fe_self hn]
      (try simp -dsimp (disch := omega) only [h0, r1, bxt_ro hb hfl, gf0, vp3, cellsA, g0, ct_prim pa, qa, vp39 h5, ct_prim p3, hbs, q3, textA, AS, avals, apairs, bareP, AV.bare, AV.bares, Nat.reduceEqDiff, Nat.reduceLT, Nat.reduceAdd, ↓reduceIte, reduceCtorEq, resA, resA1, resVal, Nat.reduceLeDiff, nb_cfg, Nat.reduceBEq, AX, Int.reduceLT, Int.reduceLE, Int.reduceEq, Int.reduceAdd, Int.reduceSub, Int.reduceMul, Int.reduceNeg, Int.reduceNe])
      exact ⟨1, rfl⟩
    by_cases k4 : k = 4
    · rw [if_neg k0, if_neg k1, if_neg k2, if_neg k3, if_pos k4] at hmk
      have hr : mayA (.mk k n s l m) = listA (.mk k n s l m) := congrArg (fun b => AV.v (.bool b)) hmk
      rw [hr]
      subst k4
      rw [show askK 4 = .tup [.fn (.func 115) [] [], .v (.bool true)] from rfl] at qa
      refine pure_of_wk (call := noCall) (fn := Tryd.f70) (rs := [.tmp 2]) ok noCall_ok (fns_cfg Tryd.func70 rfl) rfl rfl ?_
      intro env hl0 hargs
      have hn : env.length = 17 := hl0
      have h0 := hargs 0 _ rfl
      clear hargs hl0
      refine wkT_of ?_
      rw [fe_self hn]
      (try simp -dsimp (disch := omega) only [h0, r1, bxt_ro hb hfl, gf0, vp3, cellsA, g0, ct_prim pa, qa, vp39 h5, ct_prim p4, hbs, q4, listA, AS, avals, apairs, bareP, AV.bare, AV.bares, Nat.reduceEqDiff, Nat.reduceLT, Nat.reduceAdd, ↓reduceIte, reduceCtorEq, resA, resA1, resVal, Nat.reduceLeDiff, nb_cfg, Nat.reduceBEq, AX, Int.reduceLT, Int.reduceLE, Int.reduceEq, Int.reduceAdd, Int.reduceSub, Int.reduceMul, Int.reduceNeg, Int.reduceNe])
      exact ⟨1, rfl⟩
    by_cases k5 : k = 5
    · rw [if_neg k0, if_neg k1, if_neg k2, if_neg k3, if_neg k4, if_pos k5] at hmk
      have hr : mayA (.mk k n s l m) = tableA (.mk k n s l m) := congrArg (fun b => AV.v (.bool b)) hmk
      rw [hr]
      subst k5
      rw [show askK 5 = .tup [.fn (.func 116) [] [], .v (.bool true)] from rfl] at qa
      refine pure_of_wk (call := noCall) (fn := Tryd.f70) (rs := [.tmp 2]) ok noCall_ok (fns_cfg Tryd.func70 rfl) rfl rfl ?_
      intro env hl0 hargs
      have hn : env.length = 17 := hl0
      have h0 := hargs 0 _ rfl
      clear hargs hl0
      refine wkT_of ?_
      rw [fe_self hn]
      (try simp -dsimp (disch := omega) only [h0, r1, bxt_ro hb hfl, gf0, vp3, cellsA, g0, ct_prim pa, qa, vp39 h5, ct_prim p5, hbs, q5, tableA, AS, avals, apairs, bareP, AV.bare, AV.bares, Nat.reduceEqDiff, Nat.reduceLT, Nat.reduceAdd, ↓reduceIte, reduceCtorEq, resA, resA1, resVal, Nat.reduceLeDiff, nb_cfg, Nat.reduceBEq, AX, Int.reduceLT, Int.reduceLE, Int.reduceEq, Int.reduceAdd, Int.reduceSub, Int.reduceMul, Int.reduceNeg, Int.reduceNe])
      exact ⟨1, rfl⟩
    · rw [if_neg k0, if_neg k1, if_neg k2, if_neg k3, if_neg k4, if_neg k5] at hmk
      have hr : mayA (.mk k n s l m) = .v (.bool false) := congrArg (fun b => AV.v (.bool b)) hmk
      rw [hr]
      rw [show askK k = .tup [.v .nilFunc, .v (.bool false)] by simp only [askK, if_neg k0, if_neg k1, if_neg k2, if_neg k3, if_neg k4, if_neg k5]] at qa
      refine pure_of_wk (call := noCall) (fn := Tryd.f70) (rs := [.tmp 2]) ok noCall_ok (fns_cfg Tryd.func70 rfl) rfl rfl ?_
      intro env hl0 hargs
      have hn : env.length = 17 := hl0
      have h0 := hargs 0 _ rfl
      clear hargs hl0
      refine wkT_of ?_
      rw [fe_self hn]
      (try simp -dsimp (disch := omega) only [h0, r1, bxt_ro hb hfl, gf0, vp3, cellsA, g0, ct_prim pa, qa, AS, avals, apairs, bareP, AV.bare, AV.bares, Nat.reduceEqDiff, Nat.reduceLT, Nat.reduceAdd, ↓reduceIte, reduceCtorEq, resA, resA1, resVal, Nat.reduceLeDiff, nb_cfg, Nat.reduceBEq, AX, Int.reduceLT, Int.reduceLE, Int.reduceEq, Int.reduceAdd, Int.reduceSub, Int.reduceMul, Int.reduceNeg, Int.reduceNe])
      exact ⟨1, rfl⟩
theorem fine_ok : ∀ (N : Nat) (v : GV) (x : AV), FV v x → v.sml → v.sz < N → PureOk (cfgP fun _ => none) 70 [x] (mayA v)
  | 0, _, _, _, _, hs => absurd hs (by omega)
  | N + 1, v, x, h, hsm, hs => by
    have ih := fine_ok N
    have ok : (cfgP (fin N)).Ok := cfg_ok (tab_ok ⟨prim_at Tryd.func98 (by kernel_rfl) rfl askQ_ok,
      prim_at Tryd.func111 (by kernel_rfl) rfl (vP_ok (R := fun xs y => PureOk (cfgP fun _ => none) 111 xs y) fun v x h _ => bare_ok h),
      prim_at Tryd.func112 (by kernel_rfl) rfl (vP_ok (R := fun xs y => PureOk (cfgP fun _ => none) 112 xs y) fun v x h hs => pureOk_prim (bit_ok h hs)),
      prim_at Tryd.func113 (by kernel_rfl) rfl (vP_ok (R := fun xs y => PureOk (cfgP fun _ => none) 113 xs y) fun v x h hs => pureOk_prim (num_ok h hs)),
      prim_at Tryd.func114 (by kernel_rfl) rfl (vP_ok (R := fun xs y => PureOk (cfgP fun _ => none) 114 xs y) fun v x h hs => pureOk_prim (textB_ok h hs)),
      prim_at Tryd.func115 (by kernel_rfl) rfl (smS_ok (R := fun xs y => PureOk (cfgP fun _ => none) 115 xs y) fun v x h hs hn => pureOk_prim (listB_ok (ok_cot ih) h hs hn)),
      prim_at Tryd.func116 (by kernel_rfl) rfl (smS_ok (R := fun xs y => PureOk (cfgP fun _ => none) 116 xs y) fun v x h hs hn => pureOk_prim (tableB_ok (ok_tat ih) h hs hn)), trivial⟩)
    exact pureOk_prim (fine_step ok h hsm hs)
theorem fineV_ok : ∀ xs y, vP mayA xs = some y → PureOk (cfgP fun _ => none) 70 xs y := vP_ok (R := fun xs y => PureOk (cfgP fun _ => none) 70 xs y) fun v x h hs => fine_ok (v.sz + 1) v x h hs (Nat.lt_succ_self _)
noncomputable def gd1 : FuncId → Option (List AV → Option AV) := tab [(70, (vP mayA)), (30, (vP dwA))]
theorem gd1_ok : (cfgP gd1).Ok := cfg_ok (tab_ok ⟨prim_at Tryd.func70 (by kernel_rfl) rfl (fineV_ok), prim_at Tryd.func30 (by kernel_rfl) rfl (dwP_ok), trivial⟩)
theorem gd1_70 : (cfgP gd1).prim 70 = some (vP mayA) := rfl
theorem gd1_30 : (cfgP gd1).prim 30 = some (vP dwA) := rfl
theorem goodP_ok {v : GV} {x : AV} (h : FV v x) (hs : v.sml) : PureOk (cfgP gd1) 32 [x] (gdA v) := by
  obtain ⟨cs, rfl, h5, hbs, hfl⟩ := h.shape
  have hb := h.bare
  have q1 := vP_eq (r := mayA) h hs
  have q2 := vP_eq (r := dwA) h hs
  have r1 : (cfgP gd1).roBox 32 1 = true := rfl
  have pf := gd1_70
  have pg := gd1_30
  have hr : gdA v = .v (.bool (v.may && decide (v.dw ≤ 50))) := by unfold gdA GV.good; rw [Bool.and_comm]
  rw [hr]
  refine pure_of_wk (call := noCall) (fn := Tryd.f32) (rs := [.tmp 2]) gd1_ok noCall_ok (fns_cfg Tryd.func32 rfl) rfl rfl ?_
  intro env hl0 hargs
  have hn : env.length = 10 := hl0
  have h0 := hargs 0 _ rfl
  clear hargs hl0
  refine wkT_of ?_
  rw [fe_self hn]
  (try simp -dsimp (disch := omega) only [h0, r1, bxt_ro hb hfl, cellsA, vp39 h5, ct_prim pf, hbs, q1, mayA, AS, avals, apairs, bareP, AV.bare, AV.bares, Nat.reduceEqDiff, Nat.reduceLT, Nat.reduceAdd, ↓reduceIte, reduceCtorEq, resA, resA1, resVal, Nat.reduceLeDiff, nb_cfg, Nat.reduceBEq, AX, Int.reduceLT, Int.reduceLE, Int.reduceEq, Int.reduceAdd, Int.reduceSub, Int.reduceMul, Int.reduceNeg, Int.reduceNe])
  repeat (apply gm_step; (case h1 => intro hg; (try simp only [Bool.and_eq_true, Bool.not_eq_true', Bool.or_eq_false_iff, Bool.not_or, Bool.not_not] at hg); simp -dsimp only [fe_get, fe_put, fe_len, upd_app, h0, cellsA, vp39 h5, ct_prim pg, hbs, q2, dwA, hg, Bool.and_true, Bool.true_and, Bool.or_false, Bool.not_false, Bool.not_true, pk_or, pk_and, pk_and', pk_or', AS, bin_and, bin_or, bin_xor, avals, apairs, bareP, AV.bare, AV.bares, Nat.reduceEqDiff, Nat.reduceLT, Nat.reduceAdd, ↓reduceIte, reduceCtorEq, resA, resA1, resVal, Nat.reduceLeDiff, nb_cfg, Nat.reduceBEq]; exact ⟨rfl, rfl, rfl⟩); (try simp -dsimp only [fe_get, fe_put, fe_len, upd_app, h0, cellsA, vp39 h5, ct_prim pg, hbs, q2, dwA, pk_and, pk_or, pk_and', pk_or', gt_ite, ite_self, AS, bin_and, bin_or, bin_xor, avals, apairs, bareP, AV.bare, AV.bares, Nat.reduceEqDiff, Nat.reduceLT, Nat.reduceAdd, ↓reduceIte, reduceCtorEq, resA, resA1, resVal, Nat.reduceLeDiff, nb_cfg, Nat.reduceBEq]))
  exact ⟨1, rfl⟩
end Go.Proofs.YtjejeijldllloaaDoor

/- Chapter 2: what is the same: the document's Same. -/
namespace Go.Proofs.YtjejeijldllloaaDoor
open Go.AM
/-- Are they the same? -/
noncomputable def dq {α : Type} (a b : α) : Bool := @decide (a = b) (Classical.propDecidable _)
theorem dq_eq {α : Type} {a b : α} (h : a = b) : dq a b = true := by unfold dq; exact @decide_eq_true _ (Classical.propDecidable _) h
theorem dq_ne {α : Type} {a b : α} (h : a ≠ b) : dq a b = false := by unfold dq; exact @decide_eq_false _ (Classical.propDecidable _) h
theorem dq_iff {α : Type} {a b : α} : dq a b = true ↔ a = b := by
  constructor
  · intro h
    by_cases e : a = b
    · exact e
    · rw [dq_ne e] at h; cases h
  · exact dq_eq
/-- A table of what is said of two values, of which the first is smaller. -/
noncomputable def smE (N : Nat) : List AV → Option AV := relP (fun p : (GV × AV) × (GV × AV) => FV p.1.1 p.1.2 ∧ FV p.2.1 p.2.2 ∧ p.1.1.sz < N) (fun p => [p.1.2, p.2.2]) (fun p => .v (.bool (dq p.1.1 p.2.1)))
theorem smE_eq {N : Nat} {v w : GV} {x y : AV} (h : FV v x) (h' : FV w y) (hn : v.sz < N) : smE N [x, y] = some (.v (.bool (dq v w))) :=
  relP_eq (X := fun p : (GV × AV) × (GV × AV) => FV p.1.1 p.1.2 ∧ FV p.2.1 p.2.2 ∧ p.1.1.sz < N) (a := fun p => [p.1.2, p.2.2]) (r := fun p => .v (.bool (dq p.1.1 p.2.1))) (fun p q hp hq e => by
    injection e with e1 e
    injection e with e2 _
    have h1 := hp.1.rv
    have h2 := hp.2.1.rv
    rw [e1] at h1
    rw [e2] at h2
    rw [RV.uniq h1 hq.1.rv, RV.uniq h2 hq.2.1.rv]) ((v, x), (w, y)) ⟨h, h', hn⟩
theorem smE_ok {N : Nat} {R : List AV → AV → Prop} (h : ∀ v x w y, FV v x → FV w y → v.sz < N → R [x, y] (.v (.bool (dq v w)))) : ∀ xs y, smE N xs = some y → R xs y := relP_ok fun p hp => h p.1.1 p.1.2 p.2.1 p.2.2 hp.1 hp.2.1 hp.2.2
theorem ext_of {α : Type} {l l' : List α} {n : Nat} (h1 : l.length = n) (h2 : l'.length = n) (h : ∀ j, j < n → l[j]? = l'[j]?) : l = l' := by
  refine List.ext_getElem? fun j => ?_
  by_cases hj : j < n
  · exact h j hj
  · rw [List.getElem?_eq_none (by omega), List.getElem?_eq_none (by omega)]
end Go.Proofs.YtjejeijldllloaaDoor

/- Chapter 2: what is the same: the program's Same. -/
namespace Go.Proofs.YtjejeijldllloaaDoor
open Go.AM
def fsm : AV := .fn (.func 37) [] []
def fsm1 : AV := .fn (.func 77) [] []
/-- A slice of members, as it may be handed on. -/
structure MV (m : List (List UInt8 × GV)) (M : AV) : Prop where
  ex : ∃ xs, elems M = some xs ∧ FMs m xs
  k : slK M
  b : M.bare = some M
theorem MV.inj {m m' : List (List UInt8 × GV)} {M : AV} (h : MV m M) (h' : MV m' M) : m = m' := by
  obtain ⟨xs, e, hv⟩ := h.ex
  obtain ⟨xs', e', hv'⟩ := h'.ex
  rw [e] at e'
  injection e' with e'
  subst e'
  exact RMs.uniq hv.rv hv'.rv
noncomputable def smt (N : Nat) : FuncId → Option (List AV → Option AV) := tab [(37, smE N)]
theorem nH_blk' {ext : List Blk} {n : Nat} {x : AV} {c : Blk} : blkAt (nH (ext ++ [⟨0, n, [x]⟩] ++ [c])) ext.length 0 = some ⟨0, n, [x]⟩ := by
  simp [blkAt, nH]
structure EqI (L L' f : AV) (c i : Nat) (e : Env) (h : Hp) : Prop where
  len : e.length = 32
  a0 : aget e 0 = L
  a1 : aget e 1 = L'
  a2 : aget e 2 = f
  a15 : aget e 15 = L
  a16 : aget e 16 = .v (.int .i64 (c : Int))
  a17 : aget e 17 = .v (.int .i64 (i : Int))
  hp : ∃ ext, h = nH ext
set_option maxHeartbeats 8000000 in
set_option maxRecDepth 100000 in
theorem eqL_ok {N : Nat} (ok : (cfgP (smt N)).Ok) {l l' : List GV} {L L' : AV} (h : LV l L) (h' : LV l' L') (hn : GV.szs l < N) (hlen : l.length ≤ 9223372036854775807) : PureOk (cfgP (smt N)) 75 [L, L', fsm] (.v (.bool (dq l l'))) := by
  obtain ⟨⟨xs, hL, hv⟩, _, _⟩ := h
  obtain ⟨⟨xs', hL', hv'⟩, _, _⟩ := h'
  have hxl := hv.len
  have hxl' := hv'.len
  have pf : (cfgP (smt N)).prim 37 = some (smE N) := rfl
  have r8 : (cfgP (smt N)).roBox 75 8 = false := rfl
  have r9 : (cfgP (smt N)).roBox 75 9 = false := rfl
  obtain ⟨W, hW⟩ : ∃ W, dq l l' = W := ⟨_, rfl⟩
  rw [hW]
  have h00 : ({} : Hp) = nH [] := rfl
  by_cases l0 : l.length = l'.length
  case neg =>
    rw [dq_ne (fun e => l0 (congrArg List.length e))] at hW
    subst hW
    have dl : decide ((l.length : Int) = (l'.length : Int)) = false := decide_eq_false (by omega)
    refine pure_of_wk (call := noCall) (fn := Tryd.f75) (rs := [.tmp 6]) ok noCall_ok (fns_cfg Tryd.func75 rfl) rfl rfl ?_
    intro env hl0 hargs
    have hn : env.length = 32 := hl0
    have h0 := hargs 0 _ rfl
    have h1 := hargs 1 _ rfl
    have h2 := hargs 2 _ rfl
    clear hargs hl0
    refine wkT_of ?_
    rw [fe_self hn]
    (try simp -dsimp (disch := omega) only [h0, h1, h2, len36 hL, len36 hL', hxl, hxl', dl, Bool.not_false, AS, avals, apairs, bareP, AV.bare, AV.bares, Nat.reduceEqDiff, Nat.reduceLT, Nat.reduceAdd, ↓reduceIte, reduceCtorEq, resA, resA1, resVal, Nat.reduceLeDiff, nb_cfg, Nat.reduceBEq, AX, Int.reduceLT, Int.reduceLE, Int.reduceEq, Int.reduceAdd, Int.reduceSub, Int.reduceMul, Int.reduceNeg, Int.reduceNe])
    exact ⟨1, rfl⟩
  have dl : decide ((l.length : Int) = (l'.length : Int)) = true := decide_eq_true (by omega)
  have hWl : l ≠ l' → W = false := fun hne => by rw [← hW]; exact dq_ne hne
  have hWe : l = l' → W = true := fun e1 => by rw [← hW]; exact dq_eq e1
  clear hW
  refine pure_of_wk (call := noCall) (fn := Tryd.f75) (rs := [.tmp 6]) ok noCall_ok (fns_cfg Tryd.func75 rfl) rfl rfl ?_
  intro env hl0 hargs
  have hn : env.length = 32 := hl0
  have h0 := hargs 0 _ rfl
  have h1 := hargs 1 _ rfl
  have h2 := hargs 2 _ rfl
  clear hargs hl0
  refine wkT_of ?_
  rw [fe_self hn]
  (try simp -dsimp (disch := omega) only [h0, h1, h2, len36 hL, len36 hL', hxl, hxl', dl, Bool.not_true, AS, avals, apairs, bareP, AV.bare, AV.bares, Nat.reduceEqDiff, Nat.reduceLT, Nat.reduceAdd, ↓reduceIte, reduceCtorEq, resA, resA1, resVal, Nat.reduceLeDiff, nb_cfg, Nat.reduceBEq, AX, Int.reduceLT, Int.reduceLE, Int.reduceEq, Int.reduceAdd, Int.reduceSub, Int.reduceMul, Int.reduceNeg, Int.reduceNe])
  clear dl
  refine wt_loop (m := l.length) (fun q e h => ∃ i, i + q = l.length ∧ (∀ j, j < i → l[j]? = l'[j]?) ∧ EqI L L' fsm l.length i e h) ?_ ?_
  · clear hn h0 h1 h2
    rintro q e h ⟨i, hi, heq, hn, h0, h1, h2, h15, h16, h17, ext, rfl⟩
    rw [fe_self hn]
    cases q with
    | zero =>
      obtain rfl : i = l.length := by omega
      obtain rfl : W = true := hWe (ext_of rfl (by omega) heq)
      (try simp -dsimp (disch := omega) only [h0, h1, h2, h15, h16, h17, AS, avals, apairs, bareP, AV.bare, AV.bares, Nat.reduceEqDiff, Nat.reduceLT, Nat.reduceAdd, ↓reduceIte, reduceCtorEq, resA, resA1, resVal, Nat.reduceLeDiff, nb_cfg, Nat.reduceBEq, AX, Int.reduceLT, Int.reduceLE, Int.reduceEq, Int.reduceAdd, Int.reduceSub, Int.reduceMul, Int.reduceNeg, Int.reduceNe])
      exact ⟨1, rfl⟩
    | succ q =>
      obtain ⟨w, ws, e1, e2, e3, e4⟩ := hv.at (i := i) (by omega)
      obtain ⟨w', ws', e1', e2', e3', e4'⟩ := hv'.at (i := i) (by omega)
      have eb := e4.bs
      have eb' := e4'.bs
      have es := smE_eq (N := N) e4 e4' (Nat.lt_of_le_of_lt (szs_get e1) (by assumption))
      have ew : (i : Int) + 1 = ((i + 1 : Nat) : Int) := by omega
      have di : decide ((i : Int) < (l.length : Int)) = true := decide_eq_true (by omega)
      have al1 := nH_alloc39 (prim := smt N) (ext := ext)
      have st1 := nH_store39 (prim := smt N) (ext := ext) e3 e4.fl
      have al2 := nH_alloc39 (prim := smt N) (ext := ext ++ [⟨0, 5, [.agg ws]⟩])
      have st2 := nH_store39 (prim := smt N) (ext := ext ++ [⟨0, 5, [.agg ws]⟩]) e3' e4'.fl
      have bk1 := nH_blk' (ext := ext) (n := 5) (x := .agg ws) (c := ⟨0, 5, [.agg ws']⟩)
      have bk2 := nH_blk (ext := ext ++ [⟨0, 5, [.agg ws]⟩]) (n := 5) (x := .agg ws')
      obtain ⟨b2, hb2⟩ : ∃ b2, (ext ++ [(⟨0, 5, [AV.agg ws]⟩ : Blk)]).length = b2 := ⟨_, rfl⟩
      rw [hb2] at al2 st2 bk2
      simp only [fsm] at h2
      by_cases hww : w = w'
      · rw [dq_eq hww] at es
        (try simp -dsimp (disch := omega) only [di, h0, h1, h2, h15, h16, h17, ix36 hL e2 e3, ix36 hL' e2' e3', vp39 e3, vp39 e3', cellsA, r8, r9, al1, st1, al2, st2, bk1, bk2, List.getElem?_cons_zero, ct_prim pf, eb, eb', es, Bool.not_true, wrap64, ew, AS, avals, apairs, bareP, AV.bare, AV.bares, Nat.reduceEqDiff, Nat.reduceLT, Nat.reduceAdd, ↓reduceIte, reduceCtorEq, resA, resA1, resVal, Nat.reduceLeDiff, nb_cfg, Nat.reduceBEq, AX, Int.reduceLT, Int.reduceLE, Int.reduceEq, Int.reduceAdd, Int.reduceSub, Int.reduceMul, Int.reduceNeg, Int.reduceNe])
        refine ⟨q, by omega, i + 1, by omega, ?_, fe_len, ?_, ?_, ?_, ?_, ?_, ?_, _, rfl⟩
        case refine_1 =>
          intro j hj
          rcases Nat.lt_or_ge j i with hj' | hj'
          · exact heq j hj'
          · obtain rfl : j = i := by omega
            rw [e1, e1', hww]
        all_goals (try simp -dsimp (disch := omega) only [h0, h1, h2, h15, h16, h17, fsm, AS, avals, apairs, bareP, AV.bare, AV.bares, Nat.reduceEqDiff, Nat.reduceLT, Nat.reduceAdd, ↓reduceIte, reduceCtorEq, resA, resA1, resVal, Nat.reduceLeDiff, nb_cfg, Nat.reduceBEq, AX, Int.reduceLT, Int.reduceLE, Int.reduceEq, Int.reduceAdd, Int.reduceSub, Int.reduceMul, Int.reduceNeg, Int.reduceNe])
      · rw [dq_ne hww] at es
        obtain rfl : W = false := hWl (by intro e; rw [e, e1'] at e1; injection e1 with e1; exact hww e1.symm)
        (try simp -dsimp (disch := omega) only [di, h0, h1, h2, h15, h16, h17, ix36 hL e2 e3, ix36 hL' e2' e3', vp39 e3, vp39 e3', cellsA, r8, r9, al1, st1, al2, st2, bk1, bk2, List.getElem?_cons_zero, ct_prim pf, eb, eb', es, Bool.not_false, AS, avals, apairs, bareP, AV.bare, AV.bares, Nat.reduceEqDiff, Nat.reduceLT, Nat.reduceAdd, ↓reduceIte, reduceCtorEq, resA, resA1, resVal, Nat.reduceLeDiff, nb_cfg, Nat.reduceBEq, AX, Int.reduceLT, Int.reduceLE, Int.reduceEq, Int.reduceAdd, Int.reduceSub, Int.reduceMul, Int.reduceNeg, Int.reduceNe])
        exact ⟨1, rfl⟩
  · refine ⟨0, by omega, (fun j hj => by omega), fe_len, ?_, ?_, ?_, ?_, ?_, ?_, [], rfl⟩
    all_goals (try simp -dsimp (disch := omega) only [h0, h1, h2, hxl, AS, avals, apairs, bareP, AV.bare, AV.bares, Nat.reduceEqDiff, Nat.reduceLT, Nat.reduceAdd, ↓reduceIte, reduceCtorEq, resA, resA1, resVal, Nat.reduceLeDiff, nb_cfg, Nat.reduceBEq, AX, Int.reduceLT, Int.reduceLE, Int.reduceEq, Int.reduceAdd, Int.reduceSub, Int.reduceMul, Int.reduceNeg, Int.reduceNe])
    all_goals rfl
/-- What the closure says of two members. -/
noncomputable def smM (N : Nat) : List AV → Option AV := relP (fun p : ((List UInt8 × GV) × AV) × ((List UInt8 × GV) × AV) => FMp p.1.1 p.1.2 ∧ FMp p.2.1 p.2.2 ∧ GV.szp p.1.1 < N) (fun p => [p.1.2, p.2.2]) (fun p => .v (.bool (dq p.1.1 p.2.1)))
theorem smM_eq {N : Nat} {v w : List UInt8 × GV} {x y : AV} (h : FMp v x) (h' : FMp w y) (hn : GV.szp v < N) : smM N [x, y] = some (.v (.bool (dq v w))) :=
  relP_eq (X := fun p : ((List UInt8 × GV) × AV) × ((List UInt8 × GV) × AV) => FMp p.1.1 p.1.2 ∧ FMp p.2.1 p.2.2 ∧ GV.szp p.1.1 < N) (a := fun p => [p.1.2, p.2.2]) (r := fun p => .v (.bool (dq p.1.1 p.2.1))) (fun p q hp hq e => by
    injection e with e1 e
    injection e with e2 _
    have h1 := hp.1.rv
    have h2 := hp.2.1.rv
    rw [e1] at h1
    rw [e2] at h2
    rw [RMp.uniq h1 hq.1.rv, RMp.uniq h2 hq.2.1.rv]) ((v, x), (w, y)) ⟨h, h', hn⟩
theorem smM_ok {N : Nat} {R : List AV → AV → Prop} (h : ∀ v x w y, FMp v x → FMp w y → GV.szp v < N → R [x, y] (.v (.bool (dq v w)))) : ∀ xs y, smM N xs = some y → R xs y := relP_ok fun p hp => h p.1.1 p.1.2 p.2.1 p.2.2 hp.1 hp.2.1 hp.2.2
set_option maxHeartbeats 4000000 in
set_option maxRecDepth 100000 in
theorem sm1_ok {N : Nat} (ok : (cfgP (smt N)).Ok) : ∀ {p p' : List UInt8 × GV} {x y : AV} (h : FMp p x) (h' : FMp p' y) (hn : GV.szp p < N), PureOk (cfgP (smt N)) 77 [x, y] (.v (.bool (dq p p')))
  | (key, v), (key', v'), x, y, h, h', hn => by
    obtain ⟨cs, rfl, _, hv⟩ := h
    obtain ⟨cs', rfl, _, hv'⟩ := h'
    have es := smE_eq (N := N) hv hv' hn
    have e3 := hv.l5
    have e3' := hv'.l5
    have eb := hv.bs
    have eb' := hv'.bs
    have hb := enc_bare (p := (key, cs)) hv.okE
    have hb' := enc_bare (p := (key', cs')) hv'.okE
    have hf := enc_flat (p := (key, cs)) hv.okE
    have hf' := enc_flat (p := (key', cs')) hv'.okE
    have pf : (cfgP (smt N)).prim 37 = some (smE N) := rfl
    have r2 : (cfgP (smt N)).roBox 77 2 = true := rfl
    have r3 : (cfgP (smt N)).roBox 77 3 = true := rfl
    have hr : dq (key, v) (key', v') = (decide (key = key') && dq v v') := by
      by_cases hk : key = key'
      · rw [decide_eq_true hk, Bool.true_and]
        by_cases hvv : v = v'
        · rw [dq_eq hvv, dq_eq (by rw [hk, hvv])]
        · rw [dq_ne hvv, dq_ne (by intro e; injection e with _ e; exact hvv e)]
      · rw [decide_eq_false hk, Bool.false_and]
        exact dq_ne (by intro e; injection e with e _; exact hk e)
    rw [hr]
    simp only [enc] at hb hb' hf hf'
    refine pure_of_wk (call := noCall) (fn := Tryd.f77) (rs := [.tmp 4]) ok noCall_ok (fns_cfg Tryd.func77 rfl) rfl rfl ?_
    intro env hl0 hargs
    have hn : env.length = 17 := hl0
    have h0 := hargs 0 _ rfl
    have h1 := hargs 1 _ rfl
    clear hargs hl0
    refine wkT_of ?_
    rw [fe_self hn]
    (try simp -dsimp (disch := omega) only [h0, h1, r2, r3, bxt_ro hb hf, bxt_ro hb' hf', mf0, mp9, cellsA, List.getElem?_cons_zero, AS, avals, apairs, bareP, AV.bare, AV.bares, Nat.reduceEqDiff, Nat.reduceLT, Nat.reduceAdd, ↓reduceIte, reduceCtorEq, resA, resA1, resVal, Nat.reduceLeDiff, nb_cfg, Nat.reduceBEq, AX, Int.reduceLT, Int.reduceLE, Int.reduceEq, Int.reduceAdd, Int.reduceSub, Int.reduceMul, Int.reduceNeg, Int.reduceNe])
    repeat (apply gm_step; (case h1 => intro hg; (try simp only [Bool.and_eq_true, Bool.not_eq_true', Bool.or_eq_false_iff, Bool.not_or, Bool.not_not] at hg); simp -dsimp only [fe_get, fe_put, fe_len, upd_app, h0, h1, mf1, cellsA, vp39m e3, vp39m e3', ct_prim pf, eb, eb', es, hg, Bool.and_true, Bool.true_and, Bool.or_false, Bool.not_false, Bool.not_true, pk_or, pk_and, pk_and', pk_or', AS, bin_and, bin_or, bin_xor, avals, apairs, bareP, AV.bare, AV.bares, Nat.reduceEqDiff, Nat.reduceLT, Nat.reduceAdd, ↓reduceIte, reduceCtorEq, resA, resA1, resVal, Nat.reduceLeDiff, nb_cfg, Nat.reduceBEq]; exact ⟨rfl, rfl, rfl⟩); (try simp -dsimp only [fe_get, fe_put, fe_len, upd_app, h0, h1, mf1, cellsA, vp39m e3, vp39m e3', ct_prim pf, eb, eb', es, pk_and, pk_or, pk_and', pk_or', gt_ite, ite_self, AS, bin_and, bin_or, bin_xor, avals, apairs, bareP, AV.bare, AV.bares, Nat.reduceEqDiff, Nat.reduceLT, Nat.reduceAdd, ↓reduceIte, reduceCtorEq, resA, resA1, resVal, Nat.reduceLeDiff, nb_cfg, Nat.reduceBEq]))
    exact ⟨1, rfl⟩
noncomputable def smt1 (N : Nat) : FuncId → Option (List AV → Option AV) := tab [(77, smM N)]
set_option maxHeartbeats 8000000 in
set_option maxRecDepth 100000 in
theorem eqM_ok {N : Nat} (ok : (cfgP (smt1 N)).Ok) {m m' : List (List UInt8 × GV)} {M M' : AV} (h : MV m M) (h' : MV m' M') (hn : GV.szm m < N) (hlen : m.length ≤ 9223372036854775807) : PureOk (cfgP (smt1 N)) 76 [M, M', fsm1] (.v (.bool (dq m m'))) := by
  obtain ⟨⟨xs, hM, hw⟩, _, _⟩ := h
  obtain ⟨⟨xs', hM', hw'⟩, _, _⟩ := h'
  have hyl := hw.len
  have hyl' := hw'.len
  have pf : (cfgP (smt1 N)).prim 77 = some (smM N) := rfl
  have r8 : (cfgP (smt1 N)).roBox 76 8 = false := rfl
  have r9 : (cfgP (smt1 N)).roBox 76 9 = false := rfl
  obtain ⟨W, hW⟩ : ∃ W, dq m m' = W := ⟨_, rfl⟩
  rw [hW]
  have h00 : ({} : Hp) = nH [] := rfl
  by_cases l0 : m.length = m'.length
  case neg =>
    rw [dq_ne (fun e => l0 (congrArg List.length e))] at hW
    subst hW
    have dl : decide ((m.length : Int) = (m'.length : Int)) = false := decide_eq_false (by omega)
    refine pure_of_wk (call := noCall) (fn := Tryd.f76) (rs := [.tmp 6]) ok noCall_ok (fns_cfg Tryd.func76 rfl) rfl rfl ?_
    intro env hl0 hargs
    have hn : env.length = 32 := hl0
    have h0 := hargs 0 _ rfl
    have h1 := hargs 1 _ rfl
    have h2 := hargs 2 _ rfl
    clear hargs hl0
    refine wkT_of ?_
    rw [fe_self hn]
    (try simp -dsimp (disch := omega) only [h0, h1, h2, len37 hM, len37 hM', hyl, hyl', dl, Bool.not_false, AS, avals, apairs, bareP, AV.bare, AV.bares, Nat.reduceEqDiff, Nat.reduceLT, Nat.reduceAdd, ↓reduceIte, reduceCtorEq, resA, resA1, resVal, Nat.reduceLeDiff, nb_cfg, Nat.reduceBEq, AX, Int.reduceLT, Int.reduceLE, Int.reduceEq, Int.reduceAdd, Int.reduceSub, Int.reduceMul, Int.reduceNeg, Int.reduceNe])
    exact ⟨1, rfl⟩
  have dl : decide ((m.length : Int) = (m'.length : Int)) = true := decide_eq_true (by omega)
  have hWl : m ≠ m' → W = false := fun hne => by rw [← hW]; exact dq_ne hne
  have hWe : m = m' → W = true := fun e1 => by rw [← hW]; exact dq_eq e1
  clear hW
  refine pure_of_wk (call := noCall) (fn := Tryd.f76) (rs := [.tmp 6]) ok noCall_ok (fns_cfg Tryd.func76 rfl) rfl rfl ?_
  intro env hl0 hargs
  have hn : env.length = 32 := hl0
  have h0 := hargs 0 _ rfl
  have h1 := hargs 1 _ rfl
  have h2 := hargs 2 _ rfl
  clear hargs hl0
  refine wkT_of ?_
  rw [fe_self hn]
  (try simp -dsimp (disch := omega) only [h0, h1, h2, len37 hM, len37 hM', hyl, hyl', dl, Bool.not_true, AS, avals, apairs, bareP, AV.bare, AV.bares, Nat.reduceEqDiff, Nat.reduceLT, Nat.reduceAdd, ↓reduceIte, reduceCtorEq, resA, resA1, resVal, Nat.reduceLeDiff, nb_cfg, Nat.reduceBEq, AX, Int.reduceLT, Int.reduceLE, Int.reduceEq, Int.reduceAdd, Int.reduceSub, Int.reduceMul, Int.reduceNeg, Int.reduceNe])
  clear dl
  refine wt_loop (m := m.length) (fun q e h => ∃ i, i + q = m.length ∧ (∀ j, j < i → m[j]? = m'[j]?) ∧ EqI M M' fsm1 m.length i e h) ?_ ?_
  · clear hn h0 h1 h2
    rintro q e h ⟨i, hi, heq, hn, h0, h1, h2, h15, h16, h17, ext, rfl⟩
    rw [fe_self hn]
    cases q with
    | zero =>
      obtain rfl : i = m.length := by omega
      obtain rfl : W = true := hWe (ext_of rfl (by omega) heq)
      (try simp -dsimp (disch := omega) only [h0, h1, h2, h15, h16, h17, AS, avals, apairs, bareP, AV.bare, AV.bares, Nat.reduceEqDiff, Nat.reduceLT, Nat.reduceAdd, ↓reduceIte, reduceCtorEq, resA, resA1, resVal, Nat.reduceLeDiff, nb_cfg, Nat.reduceBEq, AX, Int.reduceLT, Int.reduceLE, Int.reduceEq, Int.reduceAdd, Int.reduceSub, Int.reduceMul, Int.reduceNeg, Int.reduceNe])
      exact ⟨1, rfl⟩
    | succ q =>
      obtain ⟨key, w, ws, e1, e2, e3, e4⟩ := hw.at (i := i) (by omega)
      obtain ⟨key', w', ws', e1', e2', e3', e4'⟩ := hw'.at (i := i) (by omega)
      obtain ⟨y, hy, hfm⟩ := hw.get e1
      obtain ⟨y', hy', hfm'⟩ := hw'.get e1'
      rw [e2] at hy
      injection hy with hy
      subst hy
      rw [e2'] at hy'
      injection hy' with hy'
      subst hy'
      have e5 : (str key :: ws).length = 6 := by rw [List.length_cons, e3]
      have e5' : (str key' :: ws').length = 6 := by rw [List.length_cons, e3']
      have hf6 : (str key :: ws).all AV.flat = true := by
        rw [List.all_cons, e4.fl]
        rfl
      have hf6' : (str key' :: ws').all AV.flat = true := by
        rw [List.all_cons, e4'.fl]
        rfl
      have eb : AV.bares (str key :: ws) = some (str key :: ws) := by
        rw [AV.bares, bare_s, e4.bs]
      have eb' : AV.bares (str key' :: ws') = some (str key' :: ws') := by
        rw [AV.bares, bare_s, e4'.bs]
      have p6 : partA (cfgP (smt1 N)) 48 (str key :: ws) 0 = some (.agg (str key :: ws)) := mp48c (p := (key, ws)) e4.okE
      have p6' : partA (cfgP (smt1 N)) 48 (str key' :: ws') 0 = some (.agg (str key' :: ws')) := mp48c (p := (key', ws')) e4'.okE
      have es := smM_eq (N := N) hfm hfm' (Nat.lt_of_le_of_lt (szm_get e1) (by assumption))
      have ew : (i : Int) + 1 = ((i + 1 : Nat) : Int) := by omega
      have di : decide ((i : Int) < (m.length : Int)) = true := decide_eq_true (by omega)
      obtain ⟨cs, hcs⟩ : ∃ cs, str key :: ws = cs := ⟨_, rfl⟩
      obtain ⟨cs', hcs'⟩ : ∃ cs, str key' :: ws' = cs := ⟨_, rfl⟩
      rw [hcs] at e2 e5 hf6 eb p6 es
      rw [hcs'] at e2' e5' hf6' eb' p6' es
      have al1 := nH_alloc48 (prim := smt1 N) (ext := ext)
      have st1 := nH_store48 (prim := smt1 N) (ext := ext) e5 hf6
      have al2 := nH_alloc48 (prim := smt1 N) (ext := ext ++ [⟨0, 6, [.agg cs]⟩])
      have st2 := nH_store48 (prim := smt1 N) (ext := ext ++ [⟨0, 6, [.agg cs]⟩]) e5' hf6'
      have bk1 := nH_blk' (ext := ext) (n := 6) (x := .agg cs) (c := ⟨0, 6, [.agg cs']⟩)
      have bk2 := nH_blk (ext := ext ++ [⟨0, 6, [.agg cs]⟩]) (n := 6) (x := .agg cs')
      obtain ⟨b2, hb2⟩ : ∃ b2, (ext ++ [(⟨0, 6, [AV.agg cs]⟩ : Blk)]).length = b2 := ⟨_, rfl⟩
      rw [hb2] at al2 st2 bk2
      simp only [fsm1] at h2
      by_cases hww : (key, w) = (key', w')
      · rw [dq_eq hww] at es
        (try simp -dsimp (disch := omega) only [di, h0, h1, h2, h15, h16, h17, ix37 hM e2 e5, ix37 hM' e2' e5', p6, p6', cellsA, r8, r9, al1, st1, al2, st2, bk1, bk2, List.getElem?_cons_zero, ct_prim pf, eb, eb', es, Bool.not_true, wrap64, ew, AS, avals, apairs, bareP, AV.bare, AV.bares, Nat.reduceEqDiff, Nat.reduceLT, Nat.reduceAdd, ↓reduceIte, reduceCtorEq, resA, resA1, resVal, Nat.reduceLeDiff, nb_cfg, Nat.reduceBEq, AX, Int.reduceLT, Int.reduceLE, Int.reduceEq, Int.reduceAdd, Int.reduceSub, Int.reduceMul, Int.reduceNeg, Int.reduceNe])
        refine ⟨q, by omega, i + 1, by omega, ?_, fe_len, ?_, ?_, ?_, ?_, ?_, ?_, _, rfl⟩
        case refine_1 =>
          intro j hj
          rcases Nat.lt_or_ge j i with hj' | hj'
          · exact heq j hj'
          · obtain rfl : j = i := by omega
            rw [e1, e1', hww]
        all_goals (try simp -dsimp (disch := omega) only [h0, h1, h2, h15, h16, h17, fsm1, AS, avals, apairs, bareP, AV.bare, AV.bares, Nat.reduceEqDiff, Nat.reduceLT, Nat.reduceAdd, ↓reduceIte, reduceCtorEq, resA, resA1, resVal, Nat.reduceLeDiff, nb_cfg, Nat.reduceBEq, AX, Int.reduceLT, Int.reduceLE, Int.reduceEq, Int.reduceAdd, Int.reduceSub, Int.reduceMul, Int.reduceNeg, Int.reduceNe])
      · rw [dq_ne hww] at es
        obtain rfl : W = false := hWl (by intro e; rw [e, e1'] at e1; injection e1 with e1; exact hww e1.symm)
        (try simp -dsimp (disch := omega) only [di, h0, h1, h2, h15, h16, h17, ix37 hM e2 e5, ix37 hM' e2' e5', p6, p6', cellsA, r8, r9, al1, st1, al2, st2, bk1, bk2, List.getElem?_cons_zero, ct_prim pf, eb, eb', es, Bool.not_false, AS, avals, apairs, bareP, AV.bare, AV.bares, Nat.reduceEqDiff, Nat.reduceLT, Nat.reduceAdd, ↓reduceIte, reduceCtorEq, resA, resA1, resVal, Nat.reduceLeDiff, nb_cfg, Nat.reduceBEq, AX, Int.reduceLT, Int.reduceLE, Int.reduceEq, Int.reduceAdd, Int.reduceSub, Int.reduceMul, Int.reduceNeg, Int.reduceNe])
        exact ⟨1, rfl⟩
  · refine ⟨0, by omega, (fun j hj => by omega), fe_len, ?_, ?_, ?_, ?_, ?_, ?_, [], rfl⟩
    all_goals (try simp -dsimp (disch := omega) only [h0, h1, h2, hyl, AS, avals, apairs, bareP, AV.bare, AV.bares, Nat.reduceEqDiff, Nat.reduceLT, Nat.reduceAdd, ↓reduceIte, reduceCtorEq, resA, resA1, resVal, Nat.reduceLeDiff, nb_cfg, Nat.reduceBEq, AX, Int.reduceLT, Int.reduceLE, Int.reduceEq, Int.reduceAdd, Int.reduceSub, Int.reduceMul, Int.reduceNeg, Int.reduceNe])
    all_goals rfl
/-- Tables of two slices. -/
noncomputable def lvE (N : Nat) : List AV → Option AV := relP (fun p : (List GV × AV) × (List GV × AV) => LV p.1.1 p.1.2 ∧ LV p.2.1 p.2.2 ∧ GV.szs p.1.1 < N ∧ p.1.1.length ≤ 9223372036854775807) (fun p => [p.1.2, p.2.2, fsm]) (fun p => .v (.bool (dq p.1.1 p.2.1)))
theorem lvE_eq {N : Nat} {l l' : List GV} {L L' : AV} (h : LV l L) (h' : LV l' L') (hn : GV.szs l < N) (hl : l.length ≤ 9223372036854775807) : lvE N [L, L', fsm] = some (.v (.bool (dq l l'))) :=
  relP_eq (X := fun p : (List GV × AV) × (List GV × AV) => LV p.1.1 p.1.2 ∧ LV p.2.1 p.2.2 ∧ GV.szs p.1.1 < N ∧ p.1.1.length ≤ 9223372036854775807) (a := fun p => [p.1.2, p.2.2, fsm]) (r := fun p => .v (.bool (dq p.1.1 p.2.1))) (fun p q hp hq e => by
    injection e with e1 e
    injection e with e2 _
    have h1 := hp.1
    have h2 := hp.2.1
    rw [e1] at h1
    rw [e2] at h2
    rw [h1.inj hq.1, h2.inj hq.2.1]) ((l, L), (l', L')) ⟨h, h', hn, hl⟩
theorem lvE_ok {N : Nat} {R : List AV → AV → Prop} (h : ∀ l L l' L', LV l L → LV l' L' → GV.szs l < N → l.length ≤ 9223372036854775807 → R [L, L', fsm] (.v (.bool (dq l l')))) : ∀ xs y, lvE N xs = some y → R xs y := relP_ok fun p hp => h p.1.1 p.1.2 p.2.1 p.2.2 hp.1 hp.2.1 hp.2.2.1 hp.2.2.2
noncomputable def mvE (N : Nat) : List AV → Option AV := relP (fun p : (List (List UInt8 × GV) × AV) × (List (List UInt8 × GV) × AV) => MV p.1.1 p.1.2 ∧ MV p.2.1 p.2.2 ∧ GV.szm p.1.1 < N ∧ p.1.1.length ≤ 9223372036854775807) (fun p => [p.1.2, p.2.2, fsm1]) (fun p => .v (.bool (dq p.1.1 p.2.1)))
theorem mvE_eq {N : Nat} {l l' : List (List UInt8 × GV)} {L L' : AV} (h : MV l L) (h' : MV l' L') (hn : GV.szm l < N) (hl : l.length ≤ 9223372036854775807) : mvE N [L, L', fsm1] = some (.v (.bool (dq l l'))) :=
  relP_eq (X := fun p : (List (List UInt8 × GV) × AV) × (List (List UInt8 × GV) × AV) => MV p.1.1 p.1.2 ∧ MV p.2.1 p.2.2 ∧ GV.szm p.1.1 < N ∧ p.1.1.length ≤ 9223372036854775807) (a := fun p => [p.1.2, p.2.2, fsm1]) (r := fun p => .v (.bool (dq p.1.1 p.2.1))) (fun p q hp hq e => by
    injection e with e1 e
    injection e with e2 _
    have h1 := hp.1
    have h2 := hp.2.1
    rw [e1] at h1
    rw [e2] at h2
    rw [h1.inj hq.1, h2.inj hq.2.1]) ((l, L), (l', L')) ⟨h, h', hn, hl⟩
theorem mvE_ok {N : Nat} {R : List AV → AV → Prop} (h : ∀ l L l' L', MV l L → MV l' L' → GV.szm l < N → l.length ≤ 9223372036854775807 → R [L, L', fsm1] (.v (.bool (dq l l')))) : ∀ xs y, mvE N xs = some y → R xs y := relP_ok fun p hp => h p.1.1 p.1.2 p.2.1 p.2.2 hp.1 hp.2.1 hp.2.2.1 hp.2.2.2
noncomputable def spt (N : Nat) : FuncId → Option (List AV → Option AV) := tab [(75, lvE N), (76, mvE N)]
set_option maxHeartbeats 8000000 in
set_option maxRecDepth 100000 in
theorem sameP_step {N : Nat} (ok : (cfgP (spt N)).Ok) {k n : Int} {s : List UInt8} {l : List GV} {m : List (List UInt8 × GV)} {k' n' : Int} {s' : List UInt8} {l' : List GV} {m' : List (List UInt8 × GV)} {x y : AV} (h : FV (.mk k n s l m) x) (h' : FV (.mk k' n' s' l' m') y) (hs : (GV.mk k n s l m).sz < N + 1) : PureOk (cfgP (spt N)) 37 [x, y] (.v (.bool (dq (GV.mk k n s l m) (GV.mk k' n' s' l' m')))) := by
  have p75 : (cfgP (spt N)).prim 75 = some (lvE N) := rfl
  have p76 : (cfgP (spt N)).prim 76 = some (mvE N) := rfl
  have hb := h.bare
  have hfl : x.cells.all AV.flat = true := by
    obtain ⟨cs, e, _, _, hf⟩ := h.shape
    rw [e]
    exact hf
  have hb' := h'.bare
  have hfl' : y.cells.all AV.flat = true := by
    obtain ⟨cs, e, _, _, hf⟩ := h'.shape
    rw [e]
    exact hf
  obtain ⟨L, M, xs, ys, rfl, hL, hM, k1, k2, b1, b2, _, _, sl, hl, hm, hv, hw⟩ := h
  obtain ⟨L', M', xs', ys', rfl, hL', hM', k1', k2', b1', b2', _, _, sl', hl', hm', hv', hw'⟩ := h'
  have hsz : GV.szs l < N ∧ GV.szm m < N := by simp only [GV.sz] at hs; omega
  have ql := lvE_eq (N := N) (l := l) (l' := l') ⟨⟨xs, hL, hv⟩, k1, b1⟩ ⟨⟨xs', hL', hv'⟩, k1', b1'⟩ hsz.1 hl
  have qm := mvE_eq (N := N) (l := m) (l' := m') ⟨⟨ys, hM, hw⟩, k2, b2⟩ ⟨⟨ys', hM', hw'⟩, k2', b2'⟩ hsz.2 hm
  have r2 : (cfgP (spt N)).roBox 37 2 = true := rfl
  have r3 : (cfgP (spt N)).roBox 37 3 = true := rfl
  have hr : dq (GV.mk k n s l m) (GV.mk k' n' s' l' m') = (decide (k = k') && decide (n = n') && decide (s = s') && dq l l' && dq m m') := by
    by_cases h1 : k = k'
    case neg => rw [decide_eq_false h1, dq_ne (by intro e; injection e with e; exact h1 e)]; rfl
    by_cases h2 : n = n'
    case neg => rw [decide_eq_false h2, dq_ne (by intro e; injection e with _ e; exact h2 e)]; simp
    by_cases h3 : s = s'
    case neg => rw [decide_eq_false h3, dq_ne (by intro e; injection e with _ _ e; exact h3 e)]; simp
    by_cases h4 : l = l'
    case neg => rw [dq_ne h4, dq_ne (by intro e; injection e with _ _ _ e; exact h4 e)]; simp
    by_cases h5 : m = m'
    case neg => rw [dq_ne h5, dq_ne (by intro e; injection e with _ _ _ _ e; exact h5 e)]; simp
    rw [dq_eq h4, dq_eq h5, dq_eq (by rw [h1, h2, h3, h4, h5]), decide_eq_true h1, decide_eq_true h2, decide_eq_true h3]
    rfl
  rw [hr]
  obtain ⟨cs, hcs⟩ : ∃ cs : List AV, cs = [.v (.int .i64 k), .v (.int .i64 n), str s, L, M] := ⟨_, rfl⟩
  rw [← hcs] at hb hfl ⊢
  have g0 : cs[0]? = some (.v (.int .i64 k)) := by rw [hcs]; rfl
  have g1 : cs[1]? = some (.v (.int .i64 n)) := by rw [hcs]; rfl
  have g2 : cs[2]? = some (str s) := by rw [hcs]; rfl
  have g3 : cs[3]? = some L := by rw [hcs]; rfl
  have g4 : cs[4]? = some M := by rw [hcs]; rfl
  obtain ⟨cs', hcs'⟩ : ∃ cs : List AV, cs = [.v (.int .i64 k'), .v (.int .i64 n'), str s', L', M'] := ⟨_, rfl⟩
  rw [← hcs'] at hb' hfl' ⊢
  have g0' : cs'[0]? = some (.v (.int .i64 k')) := by rw [hcs']; rfl
  have g1' : cs'[1]? = some (.v (.int .i64 n')) := by rw [hcs']; rfl
  have g2' : cs'[2]? = some (str s') := by rw [hcs']; rfl
  have g3' : cs'[3]? = some L' := by rw [hcs']; rfl
  have g4' : cs'[4]? = some M' := by rw [hcs']; rfl
  clear hcs hcs' hr
  simp only [fsm] at ql
  simp only [fsm1] at qm
  refine pure_of_wk (call := noCall) (fn := Tryd.f37) (rs := [.tmp 4]) ok noCall_ok (fns_cfg Tryd.func37 rfl) rfl rfl ?_
  intro env hl0 hargs
  have hn : env.length = 38 := hl0
  have h0 := hargs 0 _ rfl
  have h1 := hargs 1 _ rfl
  clear hargs hl0
  refine wkT_of ?_
  rw [fe_self hn]
  (try simp -dsimp (disch := omega) only [h0, h1, r2, r3, bxt_ro hb hfl, bxt_ro hb' hfl', gf0, vp3, cellsA, g0, g0', AS, avals, apairs, bareP, AV.bare, AV.bares, Nat.reduceEqDiff, Nat.reduceLT, Nat.reduceAdd, ↓reduceIte, reduceCtorEq, resA, resA1, resVal, Nat.reduceLeDiff, nb_cfg, Nat.reduceBEq, AX, Int.reduceLT, Int.reduceLE, Int.reduceEq, Int.reduceAdd, Int.reduceSub, Int.reduceMul, Int.reduceNeg, Int.reduceNe])
  repeat (apply gm_step; (case h1 => intro hg; (try simp only [Bool.and_eq_true, Bool.not_eq_true', Bool.or_eq_false_iff, Bool.not_or, Bool.not_not] at hg); simp -dsimp only [fe_get, fe_put, fe_len, upd_app, gf1, gf2, gf3, gf4, vp2, mp9, vp36, vp37, cellsA, g1, g1', g2, g2', g3, g3', g4, g4', ct_prim p75, ct_prim p76, b1, b1', b2, b2', ql, qm, hg, Bool.and_true, Bool.true_and, Bool.or_false, Bool.not_false, Bool.not_true, pk_or, pk_and, pk_and', pk_or', AS, bin_and, bin_or, bin_xor, avals, apairs, bareP, AV.bare, AV.bares, Nat.reduceEqDiff, Nat.reduceLT, Nat.reduceAdd, ↓reduceIte, reduceCtorEq, resA, resA1, resVal, Nat.reduceLeDiff, nb_cfg, Nat.reduceBEq]; exact ⟨rfl, rfl, rfl⟩); (try simp -dsimp only [fe_get, fe_put, fe_len, upd_app, gf1, gf2, gf3, gf4, vp2, mp9, vp36, vp37, cellsA, g1, g1', g2, g2', g3, g3', g4, g4', ct_prim p75, ct_prim p76, b1, b1', b2, b2', ql, qm, pk_and, pk_or, pk_and', pk_or', gt_ite, ite_self, AS, bin_and, bin_or, bin_xor, avals, apairs, bareP, AV.bare, AV.bares, Nat.reduceEqDiff, Nat.reduceLT, Nat.reduceAdd, ↓reduceIte, reduceCtorEq, resA, resA1, resVal, Nat.reduceLeDiff, nb_cfg, Nat.reduceBEq]))
  exact ⟨1, rfl⟩
section
variable {N : Nat} (ih : ∀ v x w y, FV v x → FV w y → v.sz < N → PureOk (cfgP fun _ => none) 37 [x, y] (.v (.bool (dq v w))))
include ih
theorem ok_smt : (cfgP (smt N)).Ok := cfg_ok (tab_ok ⟨prim_at Tryd.func37 (by kernel_rfl) rfl (smE_ok (R := fun xs r => PureOk (cfgP fun _ => none) 37 xs r) ih), trivial⟩)
theorem ok_smt1 : (cfgP (smt1 N)).Ok := cfg_ok (tab_ok ⟨prim_at Tryd.func77 (by kernel_rfl) rfl (smM_ok (R := fun xs r => PureOk (cfgP fun _ => none) 77 xs r) fun v x w y h h' hn => pureOk_prim (sm1_ok (ok_smt ih) h h' hn)), trivial⟩)
theorem ok_spt : (cfgP (spt N)).Ok := cfg_ok (tab_ok ⟨prim_at Tryd.func75 (by kernel_rfl) rfl (lvE_ok (R := fun xs r => PureOk (cfgP fun _ => none) 75 xs r) fun l L l' L' h h' hn hl => pureOk_prim (eqL_ok (ok_smt ih) h h' hn hl)),
  prim_at Tryd.func76 (by kernel_rfl) rfl (mvE_ok (R := fun xs r => PureOk (cfgP fun _ => none) 76 xs r) fun l L l' L' h h' hn hl => pureOk_prim (eqM_ok (ok_smt1 ih) h h' hn hl)), trivial⟩)
end
theorem sameP_ok : ∀ (N : Nat) (v : GV) (x : AV) (w : GV) (y : AV), FV v x → FV w y → v.sz < N → PureOk (cfgP fun _ => none) 37 [x, y] (.v (.bool (dq v w)))
  | 0, _, _, _, _, _, _, hs => absurd hs (by omega)
  | N + 1, .mk k n s l m, x, .mk k' n' s' l' m', y, h, h', hs => pureOk_prim (sameP_step (ok_spt (sameP_ok N)) h h' hs)
end Go.Proofs.YtjejeijldllloaaDoor

/- Chapter 2: awake: by computing. -/
namespace Go.Proofs.YtjejeijldllloaaDoor
open Go.AM
noncomputable def aw0 : FuncId → Option (List AV → Option AV) := tab [(22, validP), (24, lessQ)]
theorem aw0_ok : (cfgP aw0).Ok := cfg_ok (tab_ok ⟨prim_at Tryd.func22 (by kernel_rfl) rfl ((s1P_of (X := fun xs y => PureOk (cfgP fun _ => none) 22 xs y) fun l h => pureOk_prim (good_ok l h))), prim_at Tryd.func24 (by kernel_rfl) rfl ((s2P_of (X := fun xs y => PureOk (cfgP fun _ => none) 24 xs y) fun a b => less_ok a b)), trivial⟩)
def vawakeP : List AV → Option AV
  | [] => some (.v (.bool true))
  | _ => none
end Go.Proofs.YtjejeijldllloaaDoor

/- Chapter 2: ValueSays. -/
namespace Go.Proofs.YtjejeijldllloaaDoor
open Go.AM
/-- What both Maps say. -/
structure MapI (es : List E) (y : AV) : Prop where
  el : elems y = some (es.map enc)
  k : slK y
  o : okL es
  t : ∀ q ∈ es, okT q
  l : es.length < 1073741824
noncomputable def mapT : List AV → Option AV := relP (fun p : List E × AV => MapI p.1 p.2) (fun p => [p.2]) (fun p => mapV (mapL p.1))
theorem mapT_eq {es : List E} {y : AV} (h : MapI es y) : mapT [y] = some (mapV (mapL es)) :=
  relP_eq (X := fun p : List E × AV => MapI p.1 p.2) (a := fun p => [p.2]) (r := fun p => mapV (mapL p.1)) (fun p q hp hq e => by
    injection e with e1 _
    have h1 := hp.el
    rw [e1, hq.el] at h1
    injection h1 with h1
    rw [encs_inj h1]) (es, y) h
theorem mapTr_ok : ∀ xs y, mapT xs = some y → PureOk (cfgP fun _ => none) 36 xs y :=
  relP_ok (R := fun xs y => PureOk (cfgP fun _ => none) 36 xs y) fun p hp => by
    have := mapR_ok p.2 p.1 hp.el hp.o hp.t hp.l
    rw [refL_eq] at this
    exact this
theorem fms_encs : ∀ {m : List (List UInt8 × GV)} {zs : List AV}, FMs m zs → ∃ es : List E, zs = es.map enc ∧ okL es ∧ ∀ q ∈ es, okT q ∧ ∃ p, FMp p (enc q)
  | [], zs, h => by
    have h : zs = [] := h
    subst h
    exact ⟨[], rfl, okL_nil, fun q hq => by cases hq⟩
  | (k, v) :: r, zs, h => by
    obtain ⟨y, ys, rfl, h1, h2⟩ := h
    have hfm := h1
    obtain ⟨cs, rfl, ho, hv⟩ := h1.enc
    obtain ⟨es, rfl, h3, h4⟩ := fms_encs h2
    refine ⟨(k, cs) :: es, rfl, okL_cons.2 ⟨ho, h3⟩, fun q hq => ?_⟩
    rcases List.mem_cons.1 hq with rfl | hq
    · exact ⟨okT_of hv, _, hfm⟩
    · exact h4 q hq
theorem msl_ro (ys : List E) : elems (msl ys) = some (ys.map enc) ∧ slK (msl ys) ∧ (msl ys).bare = some (msl ys) ∧ (msl ys).flat = true := by
  cases ys with
  | nil => exact ⟨rfl, .inl rfl, rfl, rfl⟩
  | cons y ys => exact ⟨rfl, .inr ⟨rfl, rfl⟩, rfl, rfl⟩
/-- What a Map makes is a value. -/
theorem mapV_fv {ys : List E} (h : ∀ q ∈ ys, ∃ p, FMp p (enc q)) (hl : ys.length ≤ 9223372036854775807) : ∃ m, FMs m (ys.map enc) ∧ FV (.mk 5 0 [] [] m) (mapV ys) := by
  obtain ⟨m, hm⟩ := fms_of (ys := ys.map enc) fun y hy => by
    obtain ⟨q, hq, rfl⟩ := List.mem_map.1 hy
    exact h q hq
  have hml : m.length = ys.length := by rw [← hm.len, List.length_map]
  obtain ⟨h1, h2, h3, h4⟩ := msl_ro ys
  exact ⟨m, hm, .v (.slice none 0 0), msl ys, [], ys.map enc, rfl, rfl, h1, .inl rfl, h2, rfl, h3, rfl, h4, by simp, by simp, by omega, rfl, hm⟩
theorem mapL_len (es : List E) : (mapL es).length ≤ es.length := by
  rw [← refL_eq]
  exact refL_len es.length es rfl
end Go.Proofs.YtjejeijldllloaaDoor
