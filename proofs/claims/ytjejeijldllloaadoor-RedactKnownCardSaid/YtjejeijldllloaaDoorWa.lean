/- Contracts of functions, and plain facts about what they compute. -/
import Derived.Test.YtjejeijldllloaaDoorAmD
import Derived.Test.YtjejeijldllloaaDoorAmE
import Derived.Laws.Externs
import Derived.Test.YtjejeijldllloaaDoorProg
import Derived.KernelRfl
set_option linter.unusedSimpArgs false
set_option linter.unusedVariables false
/- A program's tables, and what its small types are. -/
namespace Go.Proofs.YtjejeijldllloaaDoor
open Go.AM
/-- Variables that are written once they are there. -/
def rwL : List (Nat × Nat) := [(19, 8), (21, 9), (40, 3), (80, 2), (112, 1), (113, 1), (114, 1), (115, 1), (116, 1), (10, 6), (11, 7), (11, 8), (11, 10), (11, 11), (12, 9), (12, 11), (13, 3), (13, 5), (13, 6), (13, 7), (15, 3), (15, 5), (15, 8), (16, 9), (16, 13), (17, 4), (17, 5), (17, 6), (17, 7), (17, 9), (17, 11), (17, 13), (17, 14), (17, 15), (28, 1), (30, 5), (30, 7), (35, 2), (35, 5), (36, 2), (38, 2), (39, 4), (40, 6), (41, 4), (42, 4), (43, 4), (44, 6), (45, 6), (46, 6), (47, 6), (48, 6), (49, 6), (50, 2), (51, 2), (52, 2), (52, 3), (53, 2), (54, 2), (54, 3), (54, 4), (55, 2), (55, 3), (55, 4), (59, 6), (59, 7), (59, 8), (67, 6), (75, 8), (75, 9), (76, 8), (76, 9), (80, 4), (88, 2), (89, 2), (98, 4), (103, 7), (106, 2), (107, 2), (107, 3), (116, 5)]
/-- Functions that share the heap of who calls them. -/
def shL : List Nat := [72, 73, 79, 99, 103, 117, 118, 120, 126, 130]
/-- The functions that are looked at. -/
def fnL : List Nat := [9, 10, 11, 12, 13, 14, 15, 16, 17, 22, 23, 24, 26, 27, 28, 29, 30, 31, 32, 33, 34, 35, 36, 37, 38, 39, 40, 41, 42, 43, 44, 45, 46, 47, 48, 49, 50, 51, 52, 53, 54, 55, 56, 57, 58, 59, 62, 67, 68, 69, 70, 71, 72, 73, 74, 75, 76, 77, 78, 79, 80, 81, 82, 83, 84, 85, 86, 87, 88, 89, 97, 98, 99, 100, 101, 102, 103, 104, 105, 106, 107, 111, 112, 113, 114, 115, 116, 117, 118, 120, 124, 125, 126, 129, 130]
def gls : List (Nat × AV) := [(0, .agg firstA), (1, .agg accA)]
/-- Rows of their own that are written: what slices.Clone makes. -/
def nbF (f t : Nat) : Bool := (f == 72 || f == 36 || f == 79) && ((f == 72 && t == 7) || (f == 36 && t == 59) || (f == 79 && (t == 25 || t == 40)))
noncomputable def cfgP (prim : FuncId → Option (List AV → Option AV)) : Cfg := cfgOf Tryd.prog (fun f => fnL.contains f) (glOf gls) (fun f => !(shL.contains f)) (fun f t => !(rwL.contains (f, t))) prim (fun f t => nbF f t) (fun f => f == 110) (fun t => t == 84) (fun e u => e == 84 && u == 82) (fun f => f == 101)
theorem ck9 : chkF Tryd.prog 9 = true := by kernel_rfl
theorem ck10 : chkF Tryd.prog 10 = true := by kernel_rfl
theorem ck11 : chkF Tryd.prog 11 = true := by kernel_rfl
theorem ck12 : chkF Tryd.prog 12 = true := by kernel_rfl
theorem ck13 : chkF Tryd.prog 13 = true := by kernel_rfl
theorem ck14 : chkF Tryd.prog 14 = true := by kernel_rfl
theorem ck15 : chkF Tryd.prog 15 = true := by kernel_rfl
theorem ck16 : chkF Tryd.prog 16 = true := by kernel_rfl
theorem ck17 : chkF Tryd.prog 17 = true := by kernel_rfl
theorem ck22 : chkF Tryd.prog 22 = true := by kernel_rfl
theorem ck23 : chkF Tryd.prog 23 = true := by kernel_rfl
theorem ck24 : chkF Tryd.prog 24 = true := by kernel_rfl
theorem ck26 : chkF Tryd.prog 26 = true := by kernel_rfl
theorem ck27 : chkF Tryd.prog 27 = true := by kernel_rfl
theorem ck28 : chkF Tryd.prog 28 = true := by kernel_rfl
theorem ck29 : chkF Tryd.prog 29 = true := by kernel_rfl
theorem ck30 : chkF Tryd.prog 30 = true := by kernel_rfl
theorem ck31 : chkF Tryd.prog 31 = true := by kernel_rfl
theorem ck32 : chkF Tryd.prog 32 = true := by kernel_rfl
theorem ck33 : chkF Tryd.prog 33 = true := by kernel_rfl
theorem ck34 : chkF Tryd.prog 34 = true := by kernel_rfl
theorem ck35 : chkF Tryd.prog 35 = true := by kernel_rfl
theorem ck36 : chkF Tryd.prog 36 = true := by kernel_rfl
theorem ck37 : chkF Tryd.prog 37 = true := by kernel_rfl
theorem ck38 : chkF Tryd.prog 38 = true := by kernel_rfl
theorem ck39 : chkF Tryd.prog 39 = true := by kernel_rfl
theorem ck40 : chkF Tryd.prog 40 = true := by kernel_rfl
theorem ck41 : chkF Tryd.prog 41 = true := by kernel_rfl
theorem ck42 : chkF Tryd.prog 42 = true := by kernel_rfl
theorem ck43 : chkF Tryd.prog 43 = true := by kernel_rfl
theorem ck44 : chkF Tryd.prog 44 = true := by kernel_rfl
theorem ck45 : chkF Tryd.prog 45 = true := by kernel_rfl
theorem ck46 : chkF Tryd.prog 46 = true := by kernel_rfl
theorem ck47 : chkF Tryd.prog 47 = true := by kernel_rfl
theorem ck48 : chkF Tryd.prog 48 = true := by kernel_rfl
theorem ck49 : chkF Tryd.prog 49 = true := by kernel_rfl
theorem ck50 : chkF Tryd.prog 50 = true := by kernel_rfl
theorem ck51 : chkF Tryd.prog 51 = true := by kernel_rfl
theorem ck52 : chkF Tryd.prog 52 = true := by kernel_rfl
theorem ck53 : chkF Tryd.prog 53 = true := by kernel_rfl
theorem ck54 : chkF Tryd.prog 54 = true := by kernel_rfl
theorem ck55 : chkF Tryd.prog 55 = true := by kernel_rfl
theorem ck56 : chkF Tryd.prog 56 = true := by kernel_rfl
theorem ck57 : chkF Tryd.prog 57 = true := by kernel_rfl
theorem ck58 : chkF Tryd.prog 58 = true := by kernel_rfl
theorem ck59 : chkF Tryd.prog 59 = true := by kernel_rfl
theorem ck62 : chkF Tryd.prog 62 = true := by kernel_rfl
theorem ck67 : chkF Tryd.prog 67 = true := by kernel_rfl
theorem ck68 : chkF Tryd.prog 68 = true := by kernel_rfl
theorem ck69 : chkF Tryd.prog 69 = true := by kernel_rfl
theorem ck70 : chkF Tryd.prog 70 = true := by kernel_rfl
theorem ck71 : chkF Tryd.prog 71 = true := by kernel_rfl
theorem ck72 : chkF Tryd.prog 72 = true := by kernel_rfl
theorem ck73 : chkF Tryd.prog 73 = true := by kernel_rfl
theorem ck74 : chkF Tryd.prog 74 = true := by kernel_rfl
theorem ck75 : chkF Tryd.prog 75 = true := by kernel_rfl
theorem ck76 : chkF Tryd.prog 76 = true := by kernel_rfl
theorem ck77 : chkF Tryd.prog 77 = true := by kernel_rfl
theorem ck78 : chkF Tryd.prog 78 = true := by kernel_rfl
theorem ck79 : chkF Tryd.prog 79 = true := by kernel_rfl
theorem ck80 : chkF Tryd.prog 80 = true := by kernel_rfl
theorem ck81 : chkF Tryd.prog 81 = true := by kernel_rfl
theorem ck82 : chkF Tryd.prog 82 = true := by kernel_rfl
theorem ck83 : chkF Tryd.prog 83 = true := by kernel_rfl
theorem ck84 : chkF Tryd.prog 84 = true := by kernel_rfl
theorem ck85 : chkF Tryd.prog 85 = true := by kernel_rfl
theorem ck86 : chkF Tryd.prog 86 = true := by kernel_rfl
theorem ck87 : chkF Tryd.prog 87 = true := by kernel_rfl
theorem ck88 : chkF Tryd.prog 88 = true := by kernel_rfl
theorem ck89 : chkF Tryd.prog 89 = true := by kernel_rfl
theorem ck97 : chkF Tryd.prog 97 = true := by kernel_rfl
theorem ck98 : chkF Tryd.prog 98 = true := by kernel_rfl
theorem ck99 : chkF Tryd.prog 99 = true := by kernel_rfl
theorem ck100 : chkF Tryd.prog 100 = true := by kernel_rfl
theorem ck101 : chkF Tryd.prog 101 = true := by kernel_rfl
theorem ck102 : chkF Tryd.prog 102 = true := by kernel_rfl
theorem ck103 : chkF Tryd.prog 103 = true := by kernel_rfl
theorem ck104 : chkF Tryd.prog 104 = true := by kernel_rfl
theorem ck105 : chkF Tryd.prog 105 = true := by kernel_rfl
theorem ck106 : chkF Tryd.prog 106 = true := by kernel_rfl
theorem ck107 : chkF Tryd.prog 107 = true := by kernel_rfl
theorem ck111 : chkF Tryd.prog 111 = true := by kernel_rfl
theorem ck112 : chkF Tryd.prog 112 = true := by kernel_rfl
theorem ck113 : chkF Tryd.prog 113 = true := by kernel_rfl
theorem ck114 : chkF Tryd.prog 114 = true := by kernel_rfl
theorem ck115 : chkF Tryd.prog 115 = true := by kernel_rfl
theorem ck116 : chkF Tryd.prog 116 = true := by kernel_rfl
theorem ck117 : chkF Tryd.prog 117 = true := by kernel_rfl
theorem ck118 : chkF Tryd.prog 118 = true := by kernel_rfl
theorem ck120 : chkF Tryd.prog 120 = true := by kernel_rfl
theorem ck124 : chkF Tryd.prog 124 = true := by kernel_rfl
theorem ck125 : chkF Tryd.prog 125 = true := by kernel_rfl
theorem ck126 : chkF Tryd.prog 126 = true := by kernel_rfl
theorem ck129 : chkF Tryd.prog 129 = true := by kernel_rfl
theorem ck130 : chkF Tryd.prog 130 = true := by kernel_rfl
theorem fok : funcsOk Tryd.prog (fun f => fnL.contains f) = true := funcsOk_of (l := fnL) ⟨ck9, ck10, ck11, ck12, ck13, ck14, ck15, ck16, ck17, ck22, ck23, ck24, ck26, ck27, ck28, ck29, ck30, ck31, ck32, ck33, ck34, ck35, ck36, ck37, ck38, ck39, ck40, ck41, ck42, ck43, ck44, ck45, ck46, ck47, ck48, ck49, ck50, ck51, ck52, ck53, ck54, ck55, ck56, ck57, ck58, ck59, ck62, ck67, ck68, ck69, ck70, ck71, ck72, ck73, ck74, ck75, ck76, ck77, ck78, ck79, ck80, ck81, ck82, ck83, ck84, ck85, ck86, ck87, ck88, ck89, ck97, ck98, ck99, ck100, ck101, ck102, ck103, ck104, ck105, ck106, ck107, ck111, ck112, ck113, ck114, ck115, ck116, ck117, ck118, ck120, ck124, ck125, ck126, ck129, ck130, trivial⟩
theorem mixed : Tryd.prog.follows .mixedOrders = true := by kernel_rfl
theorem cfg_ok {prim : FuncId → Option (List AV → Option AV)} (hp : ∀ f p, prim f = some p → PrimOk (cfgP prim) f p) : (cfgP prim).Ok := cfgOf_ok mixed fok hp
  (fun f h x W => by
    rw [beq_iff_eq] at h
    subst h
    rw [run_callFunc_extern Tryd.func110 (by kernel_rfl) (by kernel_rfl) (by kernel_rfl) (e := Extern.AbiNoEscape.same) (by kernel_rfl)]
    rfl)
  (fun e u h => by
    simp only [Bool.and_eq_true, beq_iff_eq] at h
    obtain ⟨rfl, rfl⟩ := h
    kernel_rfl)
  (fun f h => by
    rw [beq_iff_eq] at h
    subst h
    exact ⟨Tryd.f101, 37, 48, 5, Tryd.func101, by kernel_rfl, by kernel_rfl, by kernel_rfl, by kernel_rfl, by kernel_rfl, by kernel_rfl, by kernel_rfl⟩)
theorem cokN : (cfgP fun _ => none).Ok := cfg_ok (fun _ _ h => by cases h)
section
variable {prim : FuncId → Option (List AV → Option AV)}
def nbD (f : Nat) : Option Tmp → Bool
  | some t => (f == 72 && t == 7) || (f == 36 && t == 59) || (f == 79 && (t == 25 || t == 40))
  | none => false
theorem nb_cfg {f : FuncId} {d : Option Tmp} : nbOf (cfgP prim) f d = ((f == 72 || f == 36 || f == 79) && nbD f d) := by
  cases d with
  | none => simp [nbOf, nbD]
  | some t => rfl
theorem fns_cfg {f : FuncId} {fn : Func} (h : Tryd.prog.funcs[f]? = some fn) (hf : fnL.contains f = true) : (cfgP prim).fns f = some fn := by simp only [cfgP, cfgOf, hf, if_true, h]
theorem pureOk_prim {prim' : FuncId → Option (List AV → Option AV)} {f : FuncId} {xs : List AV} {r : AV} (h : PureOk (cfgP prim) f xs r) : PureOk (cfgP prim') f xs r := Go.AM.PureOk.other (C := cfgP prim) (C' := cfgP prim') rfl rfl rfl h
theorem prim_at {prim' : FuncId → Option (List AV → Option AV)} {f : FuncId} {fn : Func} {p : List AV → Option AV} (hf : Tryd.prog.funcs[f]? = some fn) (hn : (fn.name == "runtime.NumGoroutine") = false) (hb : fn.body.isSome = true) (h : ∀ xs r, p xs = some r → PureOk (cfgP prim) f xs r) : PrimOk (cfgP prim') f p :=
  .inl ⟨⟨fn, hf, hn, hb⟩, fun xs r hx => pureOk_prim (h xs r hx)⟩
end
end Go.Proofs.YtjejeijldllloaaDoor

/- Texts: length, bytes, parts. -/
namespace Go.Proofs.YtjejeijldllloaaDoor
open Go.AM
section
variable {prim : FuncId → Option (List AV → Option AV)}
theorem len_s {l : List UInt8} : lenA (cfgP prim) #[9] [str l] = some (.v (.int .i64 l.length)) := len_str (by kernel_rfl)
theorem index_s {l : List UInt8} {k : IntKind} {i : Nat} (h : i < l.length) : indexA (cfgP prim) 9 (str l) (.v (.int k i)) = some (byt l[i]) := index_str (by kernel_rfl) (by omega) (by simpa using h)
theorem sliceD {l : List UInt8} {k : IntKind} {i : Nat} (h : i ≤ l.length) : sliceA (cfgP prim) 9 (str l) (some (.v (.int k i))) none none = some (str (l.drop i)) := by
  have := slice_str (C := cfgP prim) (t := 9) (a := l) (lo := some (.v (.int k i))) (hi := none) (l := i) (h := l.length) (by kernel_rfl) (by simp [optIdx, idx]) rfl ⟨h, Nat.le_refl _⟩
  rw [List.take_of_length_le (by simp)] at this
  exact this
end
theorem bare_s (l : List UInt8) : AV.bare (str l) = some (str l) := rfl
section
variable {prim : FuncId → Option (List AV → Option AV)}
theorem ix_s {l : List UInt8} {k : IntKind} {i : Nat} {c : UInt8} (h : l[i]? = some c) : indexA (cfgP prim) 9 (str l) (.v (.int k i)) = some (.v (.int .u8 c.toNat)) := by
  obtain ⟨hl, rfl⟩ := List.getElem?_eq_some_iff.1 h
  exact index_s hl
end
end Go.Proofs.YtjejeijldllloaaDoor

/- Chapter 1: whether a text is well-formed. -/
namespace Go.Proofs.YtjejeijldllloaaDoor
open Go.AM
section
variable {prim : FuncId → Option (List AV → Option AV)}
theorem cv5w {n : Int} : convA (cfgP prim) 5 137 (.v (.int .u8 n)) = some (.v (.int .u64 (IntKind.u64.wrap n))) := conv_int (j := .u8) (by kernel_rfl) (by kernel_rfl) (by kernel_rfl) (by kernel_rfl)
theorem cv5v {c : UInt8} : convA (cfgP prim) 5 137 (.v (.int .u8 c.toNat)) = some (w64 (bv c)) := by
  rw [cv5w, w_conv]
  rfl
theorem cv53 {n : Int} : convA (cfgP prim) 5 3 (.v (.int .u8 n)) = some (.v (.int .i64 (IntKind.i64.wrap n))) := conv_int (j := .u8) (by kernel_rfl) (by kernel_rfl) (by kernel_rfl) (by kernel_rfl)
theorem ixl {l : List UInt8} {c : UInt8} {k : Nat} {j : Int} (hj : j = (k : Int)) (h : l[k]? = some c) : indexA (cfgP prim) 9 (str l) (.v (.int .i64 j)) = some (.v (.int .u8 c.toNat)) := by rw [hj]; exact ix_s h
end
theorem word_gen (s : AV) (X0 X1 X2 X3 X4 X5 X6 X7 C0 C1 C2 C3 C4 C5 C6 C7 S1 S2 S3 S4 S5 S6 S7 O1 O2 O3 O4 O5 O6 O7 : AV) (x0 : indexA (cfgP fun _ => none) 9 s (.v (.int .i64 0)) = some X0) (v0 : convA (cfgP fun _ => none) 5 137 X0 = some C0) (x1 : indexA (cfgP fun _ => none) 9 s (.v (.int .i64 1)) = some X1) (v1 : convA (cfgP fun _ => none) 5 137 X1 = some C1) (s1 : ∀ x y, binA (cfgP fun _ => none) .shl 137 x y C1 (.v (.int .u64 8)) = some S1) (o1 : ∀ x y, binA (cfgP fun _ => none) .or 137 x y C0 S1 = some O1) (x2 : indexA (cfgP fun _ => none) 9 s (.v (.int .i64 2)) = some X2) (v2 : convA (cfgP fun _ => none) 5 137 X2 = some C2) (s2 : ∀ x y, binA (cfgP fun _ => none) .shl 137 x y C2 (.v (.int .u64 16)) = some S2) (o2 : ∀ x y, binA (cfgP fun _ => none) .or 137 x y O1 S2 = some O2) (x3 : indexA (cfgP fun _ => none) 9 s (.v (.int .i64 3)) = some X3) (v3 : convA (cfgP fun _ => none) 5 137 X3 = some C3) (s3 : ∀ x y, binA (cfgP fun _ => none) .shl 137 x y C3 (.v (.int .u64 24)) = some S3) (o3 : ∀ x y, binA (cfgP fun _ => none) .or 137 x y O2 S3 = some O3) (x4 : indexA (cfgP fun _ => none) 9 s (.v (.int .i64 4)) = some X4) (v4 : convA (cfgP fun _ => none) 5 137 X4 = some C4) (s4 : ∀ x y, binA (cfgP fun _ => none) .shl 137 x y C4 (.v (.int .u64 32)) = some S4) (o4 : ∀ x y, binA (cfgP fun _ => none) .or 137 x y O3 S4 = some O4) (x5 : indexA (cfgP fun _ => none) 9 s (.v (.int .i64 5)) = some X5) (v5 : convA (cfgP fun _ => none) 5 137 X5 = some C5) (s5 : ∀ x y, binA (cfgP fun _ => none) .shl 137 x y C5 (.v (.int .u64 40)) = some S5) (o5 : ∀ x y, binA (cfgP fun _ => none) .or 137 x y O4 S5 = some O5) (x6 : indexA (cfgP fun _ => none) 9 s (.v (.int .i64 6)) = some X6) (v6 : convA (cfgP fun _ => none) 5 137 X6 = some C6) (s6 : ∀ x y, binA (cfgP fun _ => none) .shl 137 x y C6 (.v (.int .u64 48)) = some S6) (o6 : ∀ x y, binA (cfgP fun _ => none) .or 137 x y O5 S6 = some O6) (x7 : indexA (cfgP fun _ => none) 9 s (.v (.int .i64 7)) = some X7) (v7 : convA (cfgP fun _ => none) 5 137 X7 = some C7) (s7 : ∀ x y, binA (cfgP fun _ => none) .shl 137 x y C7 (.v (.int .u64 56)) = some S7) (o7 : ∀ x y, binA (cfgP fun _ => none) .or 137 x y O6 S7 = some O7) (hb : s.bare = some s) (ht : ∀ H n, O7.thaw H (n + 1) = some O7) : PureOk (cfgP fun _ => none) 97 [s] O7 := by
  refine pure_of_wk (call := noCall) (fn := Tryd.f97) (rs := [.tmp 2]) cokN noCall_ok (fns_cfg Tryd.func97 rfl) rfl rfl ?_
  intro env hl0 hargs
  have hn : env.length = 59 := hl0
  have h0 := hargs 0 _ rfl
  clear hargs hl0
  refine wkT_of ?_
  simp -dsimp only [hn, h0, x0, v0, x1, v1, s1, o1, x2, v2, s2, o2, x3, v3, s3, o3, x4, v4, s4, o4, x5, v5, s5, o5, x6, v6, s6, o6, x7, v7, s7, o7, AS, bin_and, bin_or, bin_xor, avals, apairs, bareP, AV.bare, AV.bares, Nat.reduceEqDiff, Nat.reduceLT, Nat.reduceAdd, ↓reduceIte, reduceCtorEq, resA, resA1, resVal, Nat.reduceLeDiff, nb_cfg, Nat.reduceBEq]
  exact ⟨by kernel_rfl, 1, ht _ _⟩
theorem word_ok (l : List UInt8) (h : 8 ≤ l.length) : PureOk (cfgP fun _ => none) 97 [str l] (w64 (wb l)) := by
  match l, h with
  | a :: b :: c :: d :: e :: f :: g :: i :: r, _ =>
    have hw : wb (a :: b :: c :: d :: e :: f :: g :: i :: r) = ((((((bv a ||| bv b <<< 8) ||| bv c <<< 16) ||| bv d <<< 24) ||| bv e <<< 32) ||| bv f <<< 40) ||| bv g <<< 48) ||| bv i <<< 56 := by simp only [wb]
    rw [hw]
    exact word_gen _ _ _ _ _ _ _ _ _ _ _ _ _ _ _ _ _ _ _ _ _ _ _ _ _ _ _ _ _ _ _ (ixl (k := 0) rfl rfl) cv5v (ixl (k := 1) rfl rfl) cv5v (fun _ _ => bin_shl64 8 (j := 8) rfl (by decide)) (fun _ _ => bin_or64) (ixl (k := 2) rfl rfl) cv5v (fun _ _ => bin_shl64 16 (j := 16) rfl (by decide)) (fun _ _ => bin_or64) (ixl (k := 3) rfl rfl) cv5v (fun _ _ => bin_shl64 24 (j := 24) rfl (by decide)) (fun _ _ => bin_or64) (ixl (k := 4) rfl rfl) cv5v (fun _ _ => bin_shl64 32 (j := 32) rfl (by decide)) (fun _ _ => bin_or64) (ixl (k := 5) rfl rfl) cv5v (fun _ _ => bin_shl64 40 (j := 40) rfl (by decide)) (fun _ _ => bin_or64) (ixl (k := 6) rfl rfl) cv5v (fun _ _ => bin_shl64 48 (j := 48) rfl (by decide)) (fun _ _ => bin_or64) (ixl (k := 7) rfl rfl) cv5v (fun _ _ => bin_shl64 56 (j := 56) rfl (by decide)) (fun _ _ => bin_or64) rfl (fun _ _ => rfl)
end Go.Proofs.YtjejeijldllloaaDoor

/- Chapter 1: ValidString. -/
namespace Go.Proofs.YtjejeijldllloaaDoor
open Go.AM
def wordQ : List AV → Option AV
  | [x] => (dS x).bind fun l => if 8 ≤ l.length then some (w64 (wb l)) else none
  | _ => none
theorem wordQ_ok (xs : List AV) (r : AV) (h : wordQ xs = some r) : PureOk (cfgP fun _ => none) 97 xs r := by
  match xs, h with
  | [x], h =>
    obtain ⟨l, hl, h⟩ := Option.bind_eq_some_iff.1 h
    split at h
    · rename_i hn
      injection h with h; subst h
      rw [dS_iff.1 hl]
      exact word_ok l hn
    · cases h
theorem wordQ_eq {l : List UInt8} (h : 8 ≤ l.length) : wordQ [str l] = some (w64 (wb l)) := by
  simp only [wordQ, dS_str, Option.bind_some, h, if_true]
noncomputable def uw1 : FuncId → Option (List AV → Option AV) := tab [(97, wordQ)]
theorem uw1_ok : (cfgP uw1).Ok := cfg_ok (tab_ok ⟨prim_at Tryd.func97 (by kernel_rfl) rfl (wordQ_ok), trivial⟩)
theorem uw1_97 : (cfgP uw1).prim 97 = some wordQ := rfl
structure VI (l0 l : List UInt8) (e : Env) : Prop where
  n : e.length = 169
  t0 : aget e 0 = str l
  len : l.length ≤ l0.length
  eq : utfB l = utfB l0
theorem utf_drop {l0 l l' : List UInt8} {k : Nat} (he : utfB l = utfB l0) (h : l.drop k = l') (hk : k ≤ l.length) (ha : ∀ c ∈ l.take k, c.toNat < 128) : utfB l' = utfB l0 := by
  rw [← h, ← utfB_ascii k l hk ha, he]
theorem sl_at {prim : FuncId → Option (List AV → Option AV)} {l l' : List UInt8} {k : Nat} {j : Int} (h : l.drop k = l') (hj : j = (k : Int)) (hk : k ≤ l.length) : sliceA (cfgP prim) 9 (str l) (some (.v (.int .i64 j))) none none = some (str l') := by
  rw [← h, hj]
  exact sliceD hk
theorem take_ascii {l l' : List UInt8} {a b : Nat} (h : l.drop a = l') (h1 : ∀ c ∈ l.take a, c.toNat < 128) (h2 : ∀ c ∈ l'.take b, c.toNat < 128) : ∀ c ∈ l.take (a + b), c.toNat < 128 := by
  intro c hc
  rw [List.take_add, List.mem_append, h] at hc
  exact hc.elim (h1 c) (h2 c)
section
variable {prim : FuncId → Option (List AV → Option AV)}
theorem vg0 : (cfgP prim).gl 0 = some (.agg firstA) := rfl
theorem vg1 : (cfgP prim).gl 1 = some (.agg accA) := rfl
theorem vi0 {n : Nat} (h : n < 256) : indexAddrA (cfgP prim) 118 (.rp (.agg firstA) 0) (.v (.int .u8 (n : Int))) = some (.rp (.agg firstA) n) := by
  have h1 : (cfgP prim).und 118 = some (.array 256 5) := by kernel_rfl
  have h2 : (cfgP prim).csz 5 = some 1 := by kernel_rfl
  have h3 : idx (.v (.int .u8 (n : Int))) = some n := by simp [idx]
  simp only [indexAddrA, h1, h2, h3, if_pos h, Nat.zero_add, Nat.mul_one]
theorem vi1 {n : Nat} (h : n < 16) : indexAddrA (cfgP prim) 121 (.rp (.agg accA) 0) (.v (.int .u8 (n : Int))) = some (.rp (.agg accA) (n * 2)) := by
  have h1 : (cfgP prim).und 121 = some (.array 16 120) := by kernel_rfl
  have h2 : (cfgP prim).csz 120 = some 2 := by kernel_rfl
  have h3 : idx (.v (.int .u8 (n : Int))) = some n := by simp [idx]
  simp only [indexAddrA, h1, h2, h3, if_pos h, Nat.zero_add]
theorem vp5 {cs : List AV} {j : Nat} : partA (cfgP prim) 5 cs j = cs[j]? := by kernel_rfl
theorem vp120 {n lo hi : Nat} (h : n < 16) (ha : accN.getD n (0, 0) = (lo, hi)) : partA (cfgP prim) 120 accA (n * 2) = some (.agg [.v (.int .u8 (lo : Int)), .v (.int .u8 (hi : Int))]) := by
  have h1 : isAggT (cfgP prim) 120 = some true := by kernel_rfl
  have h2 : (cfgP prim).csz 120 = some 2 := by kernel_rfl
  have h3 := accA_get ⟨n, h⟩
  have h4 : accA.length = 32 := rfl
  simp only [ha] at h3
  simp only [partA, h1, h2, h4, h3, if_pos (show n * 2 + 2 ≤ 32 by omega)]
theorem valloc {H : Hp} : allocA (cfgP prim) 120 false H = some (.ptr H.blks.length 0 0 0, { H with blks := H.blks ++ [⟨0, 2, [.agg [.v (.int .u8 0), .v (.int .u8 0)]]⟩] }, 4) := by
  have hz : zeroA (cfgP prim) 120 = some (.agg [.v (.int .u8 0), .v (.int .u8 0)]) := by kernel_rfl
  have hf : (AV.agg [.v (.int .u8 0), .v (.int .u8 0)]).cells.all AV.flat = true := rfl
  simp only [allocA, hz, Option.bind_some, hf, if_true, Bool.false_eq_true, if_false]
  rfl
theorem vstore {H : Hp} {lo hi : Int} : storeA (cfgP prim) 120 H.blks.length 0 0 0 (.agg [.v (.int .u8 lo), .v (.int .u8 hi)]) { H with blks := H.blks ++ [⟨0, 2, [.agg [.v (.int .u8 0), .v (.int .u8 0)]]⟩] } = some { H with blks := H.blks ++ [⟨0, 2, [.agg [.v (.int .u8 lo), .v (.int .u8 hi)]]⟩] } := by
  have h1 : ({ H with blks := H.blks ++ [⟨0, 2, [.agg [.v (.int .u8 0), .v (.int .u8 0)]]⟩] } : Hp).blks[H.blks.length]? = some ⟨0, 2, [.agg [.v (.int .u8 0), .v (.int .u8 0)]]⟩ := by simp
  rw [store_all (x := [.v (.int .u8 lo), .v (.int .u8 hi)]) h1 (by kernel_rfl) rfl rfl]
  simp
theorem vblk {H : Hp} {lo hi : Int} : blkAt ({ H with blks := H.blks ++ [⟨0, 2, [.agg [.v (.int .u8 lo), .v (.int .u8 hi)]]⟩] } : Hp) H.blks.length 0 = some ⟨0, 2, [.agg [.v (.int .u8 lo), .v (.int .u8 hi)]]⟩ := by
  refine blkAt_of ?_ rfl
  simp
theorem vf0 {b g i j : Nat} : fieldAddrA (cfgP prim) 120 (.ptr b g i j) 0 = some (.ptr b g i (j + 0)) := by kernel_rfl
theorem vf1 {b g i j : Nat} : fieldAddrA (cfgP prim) 120 (.ptr b g i j) 1 = some (.ptr b g i (j + 1)) := by kernel_rfl
theorem vand {n s : Nat} {t : TypeId} {x y : Operand} (h : n < 256) (hs : n % 8 = s) : binA (cfgP prim) .and t x y (.v (.int .u8 (n : Int))) (.v (.int .u8 7)) = some (.v (.int .u8 (s : Int))) := by
  rw [bin_and, sz_and ⟨n, h⟩, hs]
theorem vshr {n : Nat} {t : TypeId} {x y : Operand} (h : n < 256) : binA (cfgP prim) .shr t x y (.v (.int .u8 (n : Int))) (.v (.int .u64 4)) = some (.v (.int .u8 ((n / 16 : Nat) : Int))) := by
  rw [bin_shr (by decide), sz_shr ⟨n, h⟩]
end
theorem bad2 {c b : UInt8} {r : List UInt8} (hs : szN c.toNat = 2) (h : secB c b = false) : stepN (c :: b :: r) = 0 := by simp [stepN, hs, h]
theorem bad3 {c b d : UInt8} {r : List UInt8} (hs : szN c.toNat = 3) (h : (secB c b && contB d) = false) : stepN (c :: b :: d :: r) = 0 := by
  simp only [stepN, hs, h]; rfl
theorem bad4 {c b d e : UInt8} {r : List UInt8} (hs : szN c.toNat = 4) (h : (secB c b && contB d && contB e) = false) : stepN (c :: b :: d :: e :: r) = 0 := by
  simp only [stepN, hs, h]; rfl
theorem good2 {c b : UInt8} {r : List UInt8} (hs : szN c.toNat = 2) (h : secB c b = true) : stepN (c :: b :: r) = 2 := by simp [stepN, hs, h]
theorem good3 {c b d : UInt8} {r : List UInt8} (hs : szN c.toNat = 3) (h : (secB c b && contB d) = true) : stepN (c :: b :: d :: r) = 3 := by
  simp only [stepN, hs, h]; rfl
theorem good4 {c b d e : UInt8} {r : List UInt8} (hs : szN c.toNat = 4) (h : (secB c b && contB d && contB e) = true) : stepN (c :: b :: d :: e :: r) = 4 := by
  simp only [stepN, hs, h]; rfl
theorem short {c : UInt8} {r : List UInt8} {k : Nat} (h1 : 128 ≤ c.toNat) (hs : szN c.toNat = k) (h : (c :: r).length < k) : stepN (c :: r) = 0 := by
  have h4 := szN_lt c.toNat
  simp only [List.length_cons] at h
  match r, h with
  | [], h =>
    simp only [stepN]
    repeat' split
    all_goals first | rfl | omega
  | [_], h =>
    simp only [stepN]
    repeat' split
    all_goals first | rfl | (simp only [List.length_cons, List.length_nil] at h; omega)
  | [_, _], h =>
    simp only [stepN]
    repeat' split
    all_goals first | rfl | (simp only [List.length_cons, List.length_nil] at h; omega)
  | _ :: _ :: _ :: r, h =>
    simp only [List.length_cons] at h
    omega
set_option maxHeartbeats 40000000 in
set_option maxRecDepth 100000 in
theorem valid_ok (l0 : List UInt8) (hl0 : l0.length < 2 ^ 63) : PureOk (cfgP uw1) 67 [str l0] (.v (.bool (utfB l0))) := by
  refine pure_of_wk (call := noCall) (fn := Tryd.f67) (rs := [.tmp 2]) uw1_ok noCall_ok (fns_cfg Tryd.func67 rfl) rfl rfl ?_
  intro env hl0 hargs
  have hn : env.length = 169 := hl0
  have h0 := hargs 0 _ rfl
  clear hargs hl0
  refine wkT_of ?_
  simp -dsimp only [hn, h0, AS, bin_and, bin_or, bin_xor, avals, apairs, bareP, AV.bare, AV.bares, Nat.reduceEqDiff, Nat.reduceLT, Nat.reduceAdd, ↓reduceIte, reduceCtorEq, resA, resA1, resVal, Nat.reduceLeDiff, nb_cfg, Nat.reduceBEq]
  refine wt_loop (m := l0.length) (fun m e h => ∃ l, l.length = m ∧ VI l0 l e) ?_ ?_
  · rintro m e H ⟨l, rfl, hn, h0, hle, he⟩
    by_cases hp : 0 < l.length
    · have d0 : decide ((0 : Int) < (l.length : Int)) = true := decide_eq_true (by omega)
      obtain ⟨c, hc⟩ : ∃ c, l[0]? = some c := ⟨l[0], List.getElem?_eq_getElem hp⟩
      have x0 : indexA (cfgP uw1) 9 (str l) (.v (.int .i64 0)) = some (.v (.int .u8 c.toNat)) := ixl (k := 0) rfl hc
      by_cases ha : c.toNat < 128
      · have da : decide ((c.toNat : Int) < 128) = true := decide_eq_true (by omega)
        obtain ⟨l1, e1⟩ : ∃ l1, l.drop 1 = l1 := ⟨_, rfl⟩
        have s1 := sl_at (prim := uw1) e1 (j := 1) rfl hp
        have n1 : l1.length = l.length - 1 := by rw [← e1, List.length_drop]
        have t1 : ∀ c' ∈ l.take 1, c'.toNat < 128 := by
          intro c' h
          rw [List.mem_take_iff_getElem] at h
          obtain ⟨i, hi, rfl⟩ := h
          obtain rfl : i = 0 := by omega
          rw [List.getElem?_eq_some_iff] at hc
          obtain ⟨_, rfl⟩ := hc
          exact ha
        have u1 : utfB l1 = utfB l0 := utf_drop he e1 hp t1
        by_cases g1 : 8 < l1.length ∧ wb l1 &&& wM = 0
        · obtain ⟨g1, z1⟩ := g1
          have d1 : decide ((8 : Int) < (l1.length : Int)) = true := decide_eq_true (by omega)
          have w1 : decide (wb l1 &&& wM = 0) = true := decide_eq_true z1
          have q1 := wordQ_eq (l := l1) (by omega)
          obtain ⟨l2, e2⟩ : ∃ l2, l1.drop 8 = l2 := ⟨_, rfl⟩
          have s2 := sl_at (prim := uw1) e2 (j := 8) rfl (by omega)
          have n2 : l2.length = l1.length - 8 := by rw [← e2, List.length_drop]
          have u2 : utfB l2 = utfB l0 := utf_drop u1 e2 (by omega) (wb_ascii' (by omega) z1)
          simp -dsimp only [hn, h0, len_s, d0, x0, da, s1, d1, ct_prim uw1_97, bare_s, q1, bin_and64, bin_eq64, w1, s2, AS, bin_and, bin_or, bin_xor, avals, apairs, bareP, AV.bare, AV.bares, Nat.reduceEqDiff, Nat.reduceLT, Nat.reduceAdd, ↓reduceIte, reduceCtorEq, resA, resA1, resVal, Nat.reduceLeDiff, nb_cfg, Nat.reduceBEq]
          by_cases g2 : 16 < l2.length ∧ (wb l2 ||| wb (l2.drop 8)) &&& wM = 0
          · obtain ⟨g2, z2⟩ := g2
            have d2 : decide ((16 : Int) < (l2.length : Int)) = true := decide_eq_true (by omega)
            have w2 : decide ((wb l2 ||| wb (l2.drop 8)) &&& wM = 0) = true := decide_eq_true z2
            obtain ⟨za, zb⟩ := wb_or2' z2
            have q2 := wordQ_eq (l := l2) (by omega)
            obtain ⟨l3, e3⟩ : ∃ l3, l2.drop 8 = l3 := ⟨_, rfl⟩
            rw [e3] at w2 zb
            have n3 : l3.length = l2.length - 8 := by rw [← e3, List.length_drop]
            have q3 := wordQ_eq (l := l3) (by omega)
            have s3 := sl_at (prim := uw1) e3 (j := 8) rfl (by omega)
            obtain ⟨l4, e4⟩ : ∃ l4, l2.drop 16 = l4 := ⟨_, rfl⟩
            have s4 := sl_at (prim := uw1) e4 (j := 16) rfl (by omega)
            have n4 : l4.length = l2.length - 16 := by rw [← e4, List.length_drop]
            have u4 : utfB l4 = utfB l0 := utf_drop u2 e4 (by omega) (take_ascii e3 (wb_ascii' (by omega) za) (wb_ascii' (by omega) zb))
            simp -dsimp only [hn, h0, len_s, d2, ct_prim uw1_97, bare_s, q2, q3, s3, bin_or64, bin_and64, bin_eq64, w2, s4, AS, bin_and, bin_or, bin_xor, avals, apairs, bareP, AV.bare, AV.bares, Nat.reduceEqDiff, Nat.reduceLT, Nat.reduceAdd, ↓reduceIte, reduceCtorEq, resA, resA1, resVal, Nat.reduceLeDiff, nb_cfg, Nat.reduceBEq]
            refine ⟨by kernel_rfl, ?_⟩
            refine wt_loop (m := l4.length) (fun m e h => ∃ l', l'.length = m ∧ VI l0 l' e ∧ l'.length < l.length) ?_ ?_
            · clear hn h0
              rintro m e H ⟨l5, rfl, ⟨hn, h0, hle5, u5⟩, hlt⟩
              by_cases g5 : 32 < l5.length
              · have d5 : decide ((32 : Int) < (l5.length : Int)) = true := decide_eq_true (by omega)
                obtain ⟨l6, e6⟩ : ∃ l6, l5.drop 8 = l6 := ⟨_, rfl⟩
                obtain ⟨l7, e7⟩ : ∃ l7, l5.drop 16 = l7 := ⟨_, rfl⟩
                obtain ⟨l8, e8⟩ : ∃ l8, l5.drop 24 = l8 := ⟨_, rfl⟩
                obtain ⟨l9, e9⟩ : ∃ l9, l5.drop 32 = l9 := ⟨_, rfl⟩
                have n6 : l6.length = l5.length - 8 := by rw [← e6, List.length_drop]
                have n7 : l7.length = l5.length - 16 := by rw [← e7, List.length_drop]
                have n8 : l8.length = l5.length - 24 := by rw [← e8, List.length_drop]
                have n9 : l9.length = l5.length - 32 := by rw [← e9, List.length_drop]
                have s6 := sl_at (prim := uw1) e6 (j := 8) rfl (by omega)
                have s7 := sl_at (prim := uw1) e7 (j := 16) rfl (by omega)
                have s8 := sl_at (prim := uw1) e8 (j := 24) rfl (by omega)
                have s9 := sl_at (prim := uw1) e9 (j := 32) rfl (by omega)
                have q5 := wordQ_eq (l := l5) (by omega)
                have q6 := wordQ_eq (l := l6) (by omega)
                have q7 := wordQ_eq (l := l7) (by omega)
                have q8 := wordQ_eq (l := l8) (by omega)
                by_cases z5 : ((wb l5 ||| wb l6) ||| (wb l7 ||| wb l8)) &&& wM = 0
                · have w5 : decide (((wb l5 ||| wb l6) ||| (wb l7 ||| wb l8)) &&& wM = 0) = true := decide_eq_true z5
                  obtain ⟨za, zb⟩ := wb_or2' z5
                  obtain ⟨zc, zd⟩ := wb_or2' za
                  obtain ⟨ze, zf⟩ := wb_or2' zb
                  have v6 := take_ascii e6 (wb_ascii' (l := l5) (by omega) zc) (wb_ascii' (l := l6) (by omega) zd)
                  have v7 := take_ascii e7 v6 (wb_ascii' (l := l7) (by omega) ze)
                  have v8 := take_ascii e8 v7 (wb_ascii' (l := l8) (by omega) zf)
                  have u9 : utfB l9 = utfB l0 := utf_drop u5 e9 (by omega) v8
                  simp -dsimp only [hn, h0, len_s, d5, ct_prim uw1_97, bare_s, q5, q6, q7, q8, s6, s7, s8, bin_or64, bin_and64, bin_eq64, w5, AS, bin_and, bin_or, bin_xor, avals, apairs, bareP, AV.bare, AV.bares, Nat.reduceEqDiff, Nat.reduceLT, Nat.reduceAdd, ↓reduceIte, reduceCtorEq, resA, resA1, resVal, Nat.reduceLeDiff, nb_cfg, Nat.reduceBEq]
                  refine ⟨by kernel_rfl, ?_⟩
                  simp -dsimp only [hn, h0, s9, AS, bin_and, bin_or, bin_xor, avals, apairs, bareP, AV.bare, AV.bares, Nat.reduceEqDiff, Nat.reduceLT, Nat.reduceAdd, ↓reduceIte, reduceCtorEq, resA, resA1, resVal, Nat.reduceLeDiff, nb_cfg, Nat.reduceBEq]
                  refine ⟨_, ?_, l9, rfl, ⟨?_, ?_, by omega, u9⟩, by omega⟩
                  · omega
                  all_goals simp -dsimp only [hn, h0, AS, bin_and, bin_or, bin_xor, avals, apairs, bareP, AV.bare, AV.bares, Nat.reduceEqDiff, Nat.reduceLT, Nat.reduceAdd, ↓reduceIte, reduceCtorEq, resA, resA1, resVal, Nat.reduceLeDiff, nb_cfg, Nat.reduceBEq]
                · have w5 : decide (((wb l5 ||| wb l6) ||| (wb l7 ||| wb l8)) &&& wM = 0) = false := decide_eq_false z5
                  simp -dsimp only [hn, h0, len_s, d5, ct_prim uw1_97, bare_s, q5, q6, q7, q8, s6, s7, s8, bin_or64, bin_and64, bin_eq64, w5, AS, bin_and, bin_or, bin_xor, avals, apairs, bareP, AV.bare, AV.bares, Nat.reduceEqDiff, Nat.reduceLT, Nat.reduceAdd, ↓reduceIte, reduceCtorEq, resA, resA1, resVal, Nat.reduceLeDiff, nb_cfg, Nat.reduceBEq]
                  refine ⟨by kernel_rfl, ?_⟩
                  refine ⟨_, hlt, l5, rfl, ?_, ?_, by omega, u5⟩
                  all_goals simp -dsimp only [hn, h0, AS, bin_and, bin_or, bin_xor, avals, apairs, bareP, AV.bare, AV.bares, Nat.reduceEqDiff, Nat.reduceLT, Nat.reduceAdd, ↓reduceIte, reduceCtorEq, resA, resA1, resVal, Nat.reduceLeDiff, nb_cfg, Nat.reduceBEq]
              · have d5 : decide ((32 : Int) < (l5.length : Int)) = false := decide_eq_false (by omega)
                simp -dsimp only [hn, h0, len_s, d5, AS, bin_and, bin_or, bin_xor, avals, apairs, bareP, AV.bare, AV.bares, Nat.reduceEqDiff, Nat.reduceLT, Nat.reduceAdd, ↓reduceIte, reduceCtorEq, resA, resA1, resVal, Nat.reduceLeDiff, nb_cfg, Nat.reduceBEq]
                refine ⟨by kernel_rfl, ?_⟩
                refine ⟨_, hlt, l5, rfl, ?_, ?_, by omega, u5⟩
                all_goals simp -dsimp only [hn, h0, AS, bin_and, bin_or, bin_xor, avals, apairs, bareP, AV.bare, AV.bares, Nat.reduceEqDiff, Nat.reduceLT, Nat.reduceAdd, ↓reduceIte, reduceCtorEq, resA, resA1, resVal, Nat.reduceLeDiff, nb_cfg, Nat.reduceBEq]
            · refine ⟨l4, rfl, ⟨?_, ?_, by omega, u4⟩, by omega⟩
              all_goals simp -dsimp only [hn, h0, AS, bin_and, bin_or, bin_xor, avals, apairs, bareP, AV.bare, AV.bares, Nat.reduceEqDiff, Nat.reduceLT, Nat.reduceAdd, ↓reduceIte, reduceCtorEq, resA, resA1, resVal, Nat.reduceLeDiff, nb_cfg, Nat.reduceBEq]
          · by_cases g3 : 16 < l2.length
            · have d2 : decide ((16 : Int) < (l2.length : Int)) = true := decide_eq_true (by omega)
              obtain ⟨l3, e3⟩ : ∃ l3, l2.drop 8 = l3 := ⟨_, rfl⟩
              rw [e3] at g2
              have w2 : decide ((wb l2 ||| wb l3) &&& wM = 0) = false := decide_eq_false fun h => g2 ⟨g3, h⟩
              have q2 := wordQ_eq (l := l2) (by omega)
              have n3 : l3.length = l2.length - 8 := by rw [← e3, List.length_drop]
              have q3 := wordQ_eq (l := l3) (by omega)
              have s3 := sl_at (prim := uw1) e3 (j := 8) rfl (by omega)
              simp -dsimp only [hn, h0, len_s, d2, ct_prim uw1_97, bare_s, q2, q3, s3, bin_or64, bin_and64, bin_eq64, w2, AS, bin_and, bin_or, bin_xor, avals, apairs, bareP, AV.bare, AV.bares, Nat.reduceEqDiff, Nat.reduceLT, Nat.reduceAdd, ↓reduceIte, reduceCtorEq, resA, resA1, resVal, Nat.reduceLeDiff, nb_cfg, Nat.reduceBEq]
              refine ⟨by kernel_rfl, ?_⟩
              refine ⟨_, ?_, l2, rfl, ?_, ?_, by omega, u2⟩
              · omega
              all_goals simp -dsimp only [hn, h0, AS, bin_and, bin_or, bin_xor, avals, apairs, bareP, AV.bare, AV.bares, Nat.reduceEqDiff, Nat.reduceLT, Nat.reduceAdd, ↓reduceIte, reduceCtorEq, resA, resA1, resVal, Nat.reduceLeDiff, nb_cfg, Nat.reduceBEq]
            · have d2 : decide ((16 : Int) < (l2.length : Int)) = false := decide_eq_false (by omega)
              simp -dsimp only [hn, h0, len_s, d2, AS, bin_and, bin_or, bin_xor, avals, apairs, bareP, AV.bare, AV.bares, Nat.reduceEqDiff, Nat.reduceLT, Nat.reduceAdd, ↓reduceIte, reduceCtorEq, resA, resA1, resVal, Nat.reduceLeDiff, nb_cfg, Nat.reduceBEq]
              refine ⟨by kernel_rfl, ?_⟩
              refine ⟨_, ?_, l2, rfl, ?_, ?_, by omega, u2⟩
              · omega
              all_goals simp -dsimp only [hn, h0, AS, bin_and, bin_or, bin_xor, avals, apairs, bareP, AV.bare, AV.bares, Nat.reduceEqDiff, Nat.reduceLT, Nat.reduceAdd, ↓reduceIte, reduceCtorEq, resA, resA1, resVal, Nat.reduceLeDiff, nb_cfg, Nat.reduceBEq]
        · by_cases g3 : 8 < l1.length
          · have d1 : decide ((8 : Int) < (l1.length : Int)) = true := decide_eq_true (by omega)
            have w1 : decide (wb l1 &&& wM = 0) = false := decide_eq_false fun h => g1 ⟨g3, h⟩
            have q1 := wordQ_eq (l := l1) (by omega)
            simp -dsimp only [hn, h0, len_s, d0, x0, da, s1, d1, ct_prim uw1_97, bare_s, q1, bin_and64, bin_eq64, w1, AS, bin_and, bin_or, bin_xor, avals, apairs, bareP, AV.bare, AV.bares, Nat.reduceEqDiff, Nat.reduceLT, Nat.reduceAdd, ↓reduceIte, reduceCtorEq, resA, resA1, resVal, Nat.reduceLeDiff, nb_cfg, Nat.reduceBEq]
            refine ⟨_, ?_, l1, rfl, ?_, ?_, by omega, u1⟩
            · omega
            all_goals simp -dsimp only [hn, h0, AS, bin_and, bin_or, bin_xor, avals, apairs, bareP, AV.bare, AV.bares, Nat.reduceEqDiff, Nat.reduceLT, Nat.reduceAdd, ↓reduceIte, reduceCtorEq, resA, resA1, resVal, Nat.reduceLeDiff, nb_cfg, Nat.reduceBEq]
          · have d1 : decide ((8 : Int) < (l1.length : Int)) = false := decide_eq_false (by omega)
            simp -dsimp only [hn, h0, len_s, d0, x0, da, s1, d1, AS, bin_and, bin_or, bin_xor, avals, apairs, bareP, AV.bare, AV.bares, Nat.reduceEqDiff, Nat.reduceLT, Nat.reduceAdd, ↓reduceIte, reduceCtorEq, resA, resA1, resVal, Nat.reduceLeDiff, nb_cfg, Nat.reduceBEq]
            refine ⟨_, ?_, l1, rfl, ?_, ?_, by omega, u1⟩
            · omega
            all_goals simp -dsimp only [hn, h0, AS, bin_and, bin_or, bin_xor, avals, apairs, bareP, AV.bare, AV.bares, Nat.reduceEqDiff, Nat.reduceLT, Nat.reduceAdd, ↓reduceIte, reduceCtorEq, resA, resA1, resVal, Nat.reduceLeDiff, nb_cfg, Nat.reduceBEq]
      · have da : decide ((c.toNat : Int) < 128) = false := decide_eq_false (by omega)
        have hcl := UInt8.toNat_lt c
        obtain ⟨f1, f2, f3⟩ := first_cls ⟨c.toNat, hcl⟩ (by show 128 ≤ c.toNat; omega)
        simp only at f1 f2 f3
        have fg := firstA_get c
        have fl := firstN_lt c.toNat
        obtain ⟨n, hN⟩ : ∃ n, firstN c.toNat = n := ⟨_, rfl⟩
        rw [hN] at f1 f2 f3 fg fl
        obtain ⟨r, hl⟩ : ∃ r, l = c :: r := by
          cases l with
          | nil => simp at hp
          | cons a r => exact ⟨r, by rw [List.getElem?_cons_zero] at hc; injection hc with hc; rw [hc]⟩
        have hcsz : szN c.toNat ≠ 1 := by
          unfold szN
          repeat' split
          all_goals omega
        have hro : (cfgP uw1).roBox 67 6 = false := rfl
        obtain ⟨lo, hi, hacc⟩ : ∃ lo hi, accN.getD (n / 16) (0, 0) = (lo, hi) := ⟨_, _, rfl⟩
        have fa := vp120 (prim := uw1) f2 hacc
        have fi := vi1 (prim := uw1) f2
        by_cases hk : szN c.toNat = 0
        · have f1 : n % 8 = 1 := by rw [f1, hk]; rfl
          simp -dsimp only [hn, h0, len_s, d0, x0, da, vg0, vg1, Option.map_some, vi0 hcl, AV.cells, vp5, fg, vand fl f1, vshr fl, fi, fa, cv53, ot_alloc, hro, valloc, vstore, vblk, vf0, vf1, Nat.zero_add, List.getElem?_cons_zero, List.getElem?_cons_succ, show IntKind.i64.wrap ((1 : Nat) : Int) = 1 from by decide, show decide ((1 : Int) = 2) = false from by decide, show decide ((1 : Int) = 3) = false from by decide, show decide ((1 : Int) = 4) = false from by decide, AS, bin_and, bin_or, bin_xor, avals, apairs, bareP, AV.bare, AV.bares, Nat.reduceEqDiff, Nat.reduceLT, Nat.reduceAdd, ↓reduceIte, reduceCtorEq, resA, resA1, resVal, Nat.reduceLeDiff, nb_cfg, Nat.reduceBEq]
          have hu : utfB l = false := utfB_bad (by rw [hl]; simp [stepN, hk]) (by rw [hl]; simp)
          exact ⟨1, by rw [← he, hu]; rfl⟩
        obtain ⟨hlo, hhi⟩ : lo = loN c.toNat ∧ hi = hiN c.toNat := by
          have := f3 (by omega)
          rw [List.getD_eq_getElem?_getD, this] at hacc
          injection hacc with a b
          exact ⟨a.symm, b.symm⟩
        clear f3 hacc
        by_cases hk : szN c.toNat = 2
        · have f1 : n % 8 = 2 := by rw [f1, hk]; rfl
          by_cases hsh : l.length < 2
          · have dl : decide ((l.length : Int) < 2) = true := decide_eq_true (by omega)
            simp -dsimp only [hn, h0, len_s, d0, x0, da, vg0, vg1, Option.map_some, vi0 hcl, AV.cells, vp5, fg, vand fl f1, vshr fl, fi, fa, cv53, ot_alloc, hro, valloc, vstore, vblk, vf0, vf1, Nat.zero_add, List.getElem?_cons_zero, List.getElem?_cons_succ, show IntKind.i64.wrap ((2 : Nat) : Int) = 2 from by decide, show decide ((2 : Int) = 2) = true from by decide, dl, AS, bin_and, bin_or, bin_xor, avals, apairs, bareP, AV.bare, AV.bares, Nat.reduceEqDiff, Nat.reduceLT, Nat.reduceAdd, ↓reduceIte, reduceCtorEq, resA, resA1, resVal, Nat.reduceLeDiff, nb_cfg, Nat.reduceBEq]
            refine ⟨by kernel_rfl, ?_⟩
            have hu : utfB l = false := utfB_bad (by rw [hl]; exact short (by omega) hk (by rw [← hl]; exact hsh)) (by rw [hl]; simp)
            exact ⟨1, by rw [← he, hu]; rfl⟩
          have dl : decide ((l.length : Int) < 2) = false := decide_eq_false (by omega)
          obtain ⟨b, r', hr⟩ : ∃ b r', r = b :: r' := by
            rw [hl] at hsh
            match r, hsh with
            | b :: r', _ => exact ⟨b, r', rfl⟩
            | [], h => simp at h
          rw [hr] at hl
          clear hr
          have x1 : indexA (cfgP uw1) 9 (str l) (.v (.int .i64 1)) = some (.v (.int .u8 b.toNat)) := ixl (k := 1) rfl (by rw [hl]; rfl)
          by_cases t0 : b.toNat < lo
          · have g0 : decide ((b.toNat : Int) < (lo : Int)) = true := decide_eq_true (by omega)
            simp -dsimp only [hn, h0, len_s, d0, x0, da, vg0, vg1, Option.map_some, vi0 hcl, AV.cells, vp5, fg, vand fl f1, vshr fl, fi, fa, cv53, ot_alloc, hro, valloc, vstore, vblk, vf0, vf1, Nat.zero_add, List.getElem?_cons_zero, List.getElem?_cons_succ, show IntKind.i64.wrap ((2 : Nat) : Int) = 2 from by decide, show decide ((2 : Int) = 2) = true from by decide, dl, x1, g0, AS, bin_and, bin_or, bin_xor, avals, apairs, bareP, AV.bare, AV.bares, Nat.reduceEqDiff, Nat.reduceLT, Nat.reduceAdd, ↓reduceIte, reduceCtorEq, resA, resA1, resVal, Nat.reduceLeDiff, nb_cfg, Nat.reduceBEq]
            refine ⟨by kernel_rfl, ?_⟩
            have hu : utfB l = false := utfB_bad (by rw [hl]; exact bad2 hk (by simp only [secB, contB, Bool.and_eq_false_iff, decide_eq_false_iff_not]; omega)) (by rw [hl]; simp)
            exact ⟨1, by rw [← he, hu]; rfl⟩
          have g0 : decide ((b.toNat : Int) < (lo : Int)) = false := decide_eq_false (by omega)
          by_cases t1 : hi < b.toNat
          · have g1 : decide ((hi : Int) < (b.toNat : Int)) = true := decide_eq_true (by omega)
            simp -dsimp only [hn, h0, len_s, d0, x0, da, vg0, vg1, Option.map_some, vi0 hcl, AV.cells, vp5, fg, vand fl f1, vshr fl, fi, fa, cv53, ot_alloc, hro, valloc, vstore, vblk, vf0, vf1, Nat.zero_add, List.getElem?_cons_zero, List.getElem?_cons_succ, show IntKind.i64.wrap ((2 : Nat) : Int) = 2 from by decide, show decide ((2 : Int) = 2) = true from by decide, dl, x1, g0, g1, AS, bin_and, bin_or, bin_xor, avals, apairs, bareP, AV.bare, AV.bares, Nat.reduceEqDiff, Nat.reduceLT, Nat.reduceAdd, ↓reduceIte, reduceCtorEq, resA, resA1, resVal, Nat.reduceLeDiff, nb_cfg, Nat.reduceBEq]
            refine ⟨by kernel_rfl, ?_⟩
            have hu : utfB l = false := utfB_bad (by rw [hl]; exact bad2 hk (by simp only [secB, contB, Bool.and_eq_false_iff, decide_eq_false_iff_not]; omega)) (by rw [hl]; simp)
            exact ⟨1, by rw [← he, hu]; rfl⟩
          have g1 : decide ((hi : Int) < (b.toNat : Int)) = false := decide_eq_false (by omega)
          have hst : stepN l = 2 := by rw [hl]; exact good2 hk (by simp only [secB, contB, Bool.and_eq_true, decide_eq_true_eq]; omega)
          have hsp := utfB_step (l := l) (by rw [hst]; decide)
          rw [hst] at hsp
          obtain ⟨l1, e1⟩ : ∃ l1, l.drop 2 = l1 := ⟨_, rfl⟩
          have s1 := sl_at (prim := uw1) e1 (j := 2) rfl (by omega)
          have n1 : l1.length = l.length - 2 := by rw [← e1, List.length_drop]
          rw [e1] at hsp
          simp -dsimp only [hn, h0, len_s, d0, x0, da, vg0, vg1, Option.map_some, vi0 hcl, AV.cells, vp5, fg, vand fl f1, vshr fl, fi, fa, cv53, ot_alloc, hro, valloc, vstore, vblk, vf0, vf1, Nat.zero_add, List.getElem?_cons_zero, List.getElem?_cons_succ, show IntKind.i64.wrap ((2 : Nat) : Int) = 2 from by decide, show decide ((2 : Int) = 2) = true from by decide, dl, x1, g0, g1, s1, AS, bin_and, bin_or, bin_xor, avals, apairs, bareP, AV.bare, AV.bares, Nat.reduceEqDiff, Nat.reduceLT, Nat.reduceAdd, ↓reduceIte, reduceCtorEq, resA, resA1, resVal, Nat.reduceLeDiff, nb_cfg, Nat.reduceBEq]
          refine ⟨by kernel_rfl, ?_⟩
          refine ⟨_, ?_, l1, rfl, ?_, ?_, by omega, by rw [← hsp, he]⟩
          · omega
          all_goals simp -dsimp only [hn, h0, AS, bin_and, bin_or, bin_xor, avals, apairs, bareP, AV.bare, AV.bares, Nat.reduceEqDiff, Nat.reduceLT, Nat.reduceAdd, ↓reduceIte, reduceCtorEq, resA, resA1, resVal, Nat.reduceLeDiff, nb_cfg, Nat.reduceBEq]
        by_cases hk : szN c.toNat = 3
        · have f1 : n % 8 = 3 := by rw [f1, hk]; rfl
          by_cases hsh : l.length < 3
          · have dl : decide ((l.length : Int) < 3) = true := decide_eq_true (by omega)
            simp -dsimp only [hn, h0, len_s, d0, x0, da, vg0, vg1, Option.map_some, vi0 hcl, AV.cells, vp5, fg, vand fl f1, vshr fl, fi, fa, cv53, ot_alloc, hro, valloc, vstore, vblk, vf0, vf1, Nat.zero_add, List.getElem?_cons_zero, List.getElem?_cons_succ, show IntKind.i64.wrap ((3 : Nat) : Int) = 3 from by decide, show decide ((3 : Int) = 2) = false from by decide, show decide ((3 : Int) = 3) = true from by decide, dl, AS, bin_and, bin_or, bin_xor, avals, apairs, bareP, AV.bare, AV.bares, Nat.reduceEqDiff, Nat.reduceLT, Nat.reduceAdd, ↓reduceIte, reduceCtorEq, resA, resA1, resVal, Nat.reduceLeDiff, nb_cfg, Nat.reduceBEq]
            refine ⟨by kernel_rfl, ?_⟩
            have hu : utfB l = false := utfB_bad (by rw [hl]; exact short (by omega) hk (by rw [← hl]; exact hsh)) (by rw [hl]; simp)
            exact ⟨1, by rw [← he, hu]; rfl⟩
          have dl : decide ((l.length : Int) < 3) = false := decide_eq_false (by omega)
          obtain ⟨b, d, r', hr⟩ : ∃ b d r', r = b :: d :: r' := by
            rw [hl] at hsh
            match r, hsh with
            | b :: d :: r', _ => exact ⟨b, d, r', rfl⟩
            | [], h => simp at h
            | [_], h => simp at h
          rw [hr] at hl
          clear hr
          have x1 : indexA (cfgP uw1) 9 (str l) (.v (.int .i64 1)) = some (.v (.int .u8 b.toNat)) := ixl (k := 1) rfl (by rw [hl]; rfl)
          have x2 : indexA (cfgP uw1) 9 (str l) (.v (.int .i64 2)) = some (.v (.int .u8 d.toNat)) := ixl (k := 2) rfl (by rw [hl]; rfl)
          by_cases t0 : b.toNat < lo
          · have g0 : decide ((b.toNat : Int) < (lo : Int)) = true := decide_eq_true (by omega)
            simp -dsimp only [hn, h0, len_s, d0, x0, da, vg0, vg1, Option.map_some, vi0 hcl, AV.cells, vp5, fg, vand fl f1, vshr fl, fi, fa, cv53, ot_alloc, hro, valloc, vstore, vblk, vf0, vf1, Nat.zero_add, List.getElem?_cons_zero, List.getElem?_cons_succ, show IntKind.i64.wrap ((3 : Nat) : Int) = 3 from by decide, show decide ((3 : Int) = 2) = false from by decide, show decide ((3 : Int) = 3) = true from by decide, dl, x1, x2, g0, AS, bin_and, bin_or, bin_xor, avals, apairs, bareP, AV.bare, AV.bares, Nat.reduceEqDiff, Nat.reduceLT, Nat.reduceAdd, ↓reduceIte, reduceCtorEq, resA, resA1, resVal, Nat.reduceLeDiff, nb_cfg, Nat.reduceBEq]
            refine ⟨by kernel_rfl, ?_⟩
            have hu : utfB l = false := utfB_bad (by rw [hl]; exact bad3 hk (by simp only [secB, contB, Bool.and_eq_false_iff, decide_eq_false_iff_not]; omega)) (by rw [hl]; simp)
            exact ⟨1, by rw [← he, hu]; rfl⟩
          have g0 : decide ((b.toNat : Int) < (lo : Int)) = false := decide_eq_false (by omega)
          by_cases t1 : hi < b.toNat
          · have g1 : decide ((hi : Int) < (b.toNat : Int)) = true := decide_eq_true (by omega)
            simp -dsimp only [hn, h0, len_s, d0, x0, da, vg0, vg1, Option.map_some, vi0 hcl, AV.cells, vp5, fg, vand fl f1, vshr fl, fi, fa, cv53, ot_alloc, hro, valloc, vstore, vblk, vf0, vf1, Nat.zero_add, List.getElem?_cons_zero, List.getElem?_cons_succ, show IntKind.i64.wrap ((3 : Nat) : Int) = 3 from by decide, show decide ((3 : Int) = 2) = false from by decide, show decide ((3 : Int) = 3) = true from by decide, dl, x1, x2, g0, g1, AS, bin_and, bin_or, bin_xor, avals, apairs, bareP, AV.bare, AV.bares, Nat.reduceEqDiff, Nat.reduceLT, Nat.reduceAdd, ↓reduceIte, reduceCtorEq, resA, resA1, resVal, Nat.reduceLeDiff, nb_cfg, Nat.reduceBEq]
            refine ⟨by kernel_rfl, ?_⟩
            have hu : utfB l = false := utfB_bad (by rw [hl]; exact bad3 hk (by simp only [secB, contB, Bool.and_eq_false_iff, decide_eq_false_iff_not]; omega)) (by rw [hl]; simp)
            exact ⟨1, by rw [← he, hu]; rfl⟩
          have g1 : decide ((hi : Int) < (b.toNat : Int)) = false := decide_eq_false (by omega)
          by_cases t2 : d.toNat < 128
          · have g2 : decide ((d.toNat : Int) < 128) = true := decide_eq_true (by omega)
            simp -dsimp only [hn, h0, len_s, d0, x0, da, vg0, vg1, Option.map_some, vi0 hcl, AV.cells, vp5, fg, vand fl f1, vshr fl, fi, fa, cv53, ot_alloc, hro, valloc, vstore, vblk, vf0, vf1, Nat.zero_add, List.getElem?_cons_zero, List.getElem?_cons_succ, show IntKind.i64.wrap ((3 : Nat) : Int) = 3 from by decide, show decide ((3 : Int) = 2) = false from by decide, show decide ((3 : Int) = 3) = true from by decide, dl, x1, x2, g0, g1, g2, AS, bin_and, bin_or, bin_xor, avals, apairs, bareP, AV.bare, AV.bares, Nat.reduceEqDiff, Nat.reduceLT, Nat.reduceAdd, ↓reduceIte, reduceCtorEq, resA, resA1, resVal, Nat.reduceLeDiff, nb_cfg, Nat.reduceBEq]
            refine ⟨by kernel_rfl, ?_⟩
            have hu : utfB l = false := utfB_bad (by rw [hl]; exact bad3 hk (by simp only [secB, contB, Bool.and_eq_false_iff, decide_eq_false_iff_not]; omega)) (by rw [hl]; simp)
            exact ⟨1, by rw [← he, hu]; rfl⟩
          have g2 : decide ((d.toNat : Int) < 128) = false := decide_eq_false (by omega)
          by_cases t3 : 191 < d.toNat
          · have g3 : decide ((191 : Int) < (d.toNat : Int)) = true := decide_eq_true (by omega)
            simp -dsimp only [hn, h0, len_s, d0, x0, da, vg0, vg1, Option.map_some, vi0 hcl, AV.cells, vp5, fg, vand fl f1, vshr fl, fi, fa, cv53, ot_alloc, hro, valloc, vstore, vblk, vf0, vf1, Nat.zero_add, List.getElem?_cons_zero, List.getElem?_cons_succ, show IntKind.i64.wrap ((3 : Nat) : Int) = 3 from by decide, show decide ((3 : Int) = 2) = false from by decide, show decide ((3 : Int) = 3) = true from by decide, dl, x1, x2, g0, g1, g2, g3, AS, bin_and, bin_or, bin_xor, avals, apairs, bareP, AV.bare, AV.bares, Nat.reduceEqDiff, Nat.reduceLT, Nat.reduceAdd, ↓reduceIte, reduceCtorEq, resA, resA1, resVal, Nat.reduceLeDiff, nb_cfg, Nat.reduceBEq]
            refine ⟨by kernel_rfl, ?_⟩
            have hu : utfB l = false := utfB_bad (by rw [hl]; exact bad3 hk (by simp only [secB, contB, Bool.and_eq_false_iff, decide_eq_false_iff_not]; omega)) (by rw [hl]; simp)
            exact ⟨1, by rw [← he, hu]; rfl⟩
          have g3 : decide ((191 : Int) < (d.toNat : Int)) = false := decide_eq_false (by omega)
          have hst : stepN l = 3 := by rw [hl]; exact good3 hk (by simp only [secB, contB, Bool.and_eq_true, decide_eq_true_eq]; omega)
          have hsp := utfB_step (l := l) (by rw [hst]; decide)
          rw [hst] at hsp
          obtain ⟨l1, e1⟩ : ∃ l1, l.drop 3 = l1 := ⟨_, rfl⟩
          have s1 := sl_at (prim := uw1) e1 (j := 3) rfl (by omega)
          have n1 : l1.length = l.length - 3 := by rw [← e1, List.length_drop]
          rw [e1] at hsp
          simp -dsimp only [hn, h0, len_s, d0, x0, da, vg0, vg1, Option.map_some, vi0 hcl, AV.cells, vp5, fg, vand fl f1, vshr fl, fi, fa, cv53, ot_alloc, hro, valloc, vstore, vblk, vf0, vf1, Nat.zero_add, List.getElem?_cons_zero, List.getElem?_cons_succ, show IntKind.i64.wrap ((3 : Nat) : Int) = 3 from by decide, show decide ((3 : Int) = 2) = false from by decide, show decide ((3 : Int) = 3) = true from by decide, dl, x1, x2, g0, g1, g2, g3, s1, AS, bin_and, bin_or, bin_xor, avals, apairs, bareP, AV.bare, AV.bares, Nat.reduceEqDiff, Nat.reduceLT, Nat.reduceAdd, ↓reduceIte, reduceCtorEq, resA, resA1, resVal, Nat.reduceLeDiff, nb_cfg, Nat.reduceBEq]
          refine ⟨by kernel_rfl, ?_⟩
          refine ⟨_, ?_, l1, rfl, ?_, ?_, by omega, by rw [← hsp, he]⟩
          · omega
          all_goals simp -dsimp only [hn, h0, AS, bin_and, bin_or, bin_xor, avals, apairs, bareP, AV.bare, AV.bares, Nat.reduceEqDiff, Nat.reduceLT, Nat.reduceAdd, ↓reduceIte, reduceCtorEq, resA, resA1, resVal, Nat.reduceLeDiff, nb_cfg, Nat.reduceBEq]
        by_cases hk : szN c.toNat = 4
        · have f1 : n % 8 = 4 := by rw [f1, hk]; rfl
          by_cases hsh : l.length < 4
          · have dl : decide ((l.length : Int) < 4) = true := decide_eq_true (by omega)
            simp -dsimp only [hn, h0, len_s, d0, x0, da, vg0, vg1, Option.map_some, vi0 hcl, AV.cells, vp5, fg, vand fl f1, vshr fl, fi, fa, cv53, ot_alloc, hro, valloc, vstore, vblk, vf0, vf1, Nat.zero_add, List.getElem?_cons_zero, List.getElem?_cons_succ, show IntKind.i64.wrap ((4 : Nat) : Int) = 4 from by decide, show decide ((4 : Int) = 2) = false from by decide, show decide ((4 : Int) = 3) = false from by decide, show decide ((4 : Int) = 4) = true from by decide, dl, AS, bin_and, bin_or, bin_xor, avals, apairs, bareP, AV.bare, AV.bares, Nat.reduceEqDiff, Nat.reduceLT, Nat.reduceAdd, ↓reduceIte, reduceCtorEq, resA, resA1, resVal, Nat.reduceLeDiff, nb_cfg, Nat.reduceBEq]
            refine ⟨by kernel_rfl, ?_⟩
            have hu : utfB l = false := utfB_bad (by rw [hl]; exact short (by omega) hk (by rw [← hl]; exact hsh)) (by rw [hl]; simp)
            exact ⟨1, by rw [← he, hu]; rfl⟩
          have dl : decide ((l.length : Int) < 4) = false := decide_eq_false (by omega)
          obtain ⟨b, d, e, r', hr⟩ : ∃ b d e r', r = b :: d :: e :: r' := by
            rw [hl] at hsh
            match r, hsh with
            | b :: d :: e :: r', _ => exact ⟨b, d, e, r', rfl⟩
            | [], h => simp at h
            | [_], h => simp at h
            | [_, _], h => simp at h
          rw [hr] at hl
          clear hr
          have x1 : indexA (cfgP uw1) 9 (str l) (.v (.int .i64 1)) = some (.v (.int .u8 b.toNat)) := ixl (k := 1) rfl (by rw [hl]; rfl)
          have x2 : indexA (cfgP uw1) 9 (str l) (.v (.int .i64 2)) = some (.v (.int .u8 d.toNat)) := ixl (k := 2) rfl (by rw [hl]; rfl)
          have x3 : indexA (cfgP uw1) 9 (str l) (.v (.int .i64 3)) = some (.v (.int .u8 e.toNat)) := ixl (k := 3) rfl (by rw [hl]; rfl)
          by_cases t0 : b.toNat < lo
          · have g0 : decide ((b.toNat : Int) < (lo : Int)) = true := decide_eq_true (by omega)
            simp -dsimp only [hn, h0, len_s, d0, x0, da, vg0, vg1, Option.map_some, vi0 hcl, AV.cells, vp5, fg, vand fl f1, vshr fl, fi, fa, cv53, ot_alloc, hro, valloc, vstore, vblk, vf0, vf1, Nat.zero_add, List.getElem?_cons_zero, List.getElem?_cons_succ, show IntKind.i64.wrap ((4 : Nat) : Int) = 4 from by decide, show decide ((4 : Int) = 2) = false from by decide, show decide ((4 : Int) = 3) = false from by decide, show decide ((4 : Int) = 4) = true from by decide, dl, x1, x2, x3, g0, AS, bin_and, bin_or, bin_xor, avals, apairs, bareP, AV.bare, AV.bares, Nat.reduceEqDiff, Nat.reduceLT, Nat.reduceAdd, ↓reduceIte, reduceCtorEq, resA, resA1, resVal, Nat.reduceLeDiff, nb_cfg, Nat.reduceBEq]
            refine ⟨by kernel_rfl, ?_⟩
            have hu : utfB l = false := utfB_bad (by rw [hl]; exact bad4 hk (by simp only [secB, contB, Bool.and_eq_false_iff, decide_eq_false_iff_not]; omega)) (by rw [hl]; simp)
            exact ⟨1, by rw [← he, hu]; rfl⟩
          have g0 : decide ((b.toNat : Int) < (lo : Int)) = false := decide_eq_false (by omega)
          by_cases t1 : hi < b.toNat
          · have g1 : decide ((hi : Int) < (b.toNat : Int)) = true := decide_eq_true (by omega)
            simp -dsimp only [hn, h0, len_s, d0, x0, da, vg0, vg1, Option.map_some, vi0 hcl, AV.cells, vp5, fg, vand fl f1, vshr fl, fi, fa, cv53, ot_alloc, hro, valloc, vstore, vblk, vf0, vf1, Nat.zero_add, List.getElem?_cons_zero, List.getElem?_cons_succ, show IntKind.i64.wrap ((4 : Nat) : Int) = 4 from by decide, show decide ((4 : Int) = 2) = false from by decide, show decide ((4 : Int) = 3) = false from by decide, show decide ((4 : Int) = 4) = true from by decide, dl, x1, x2, x3, g0, g1, AS, bin_and, bin_or, bin_xor, avals, apairs, bareP, AV.bare, AV.bares, Nat.reduceEqDiff, Nat.reduceLT, Nat.reduceAdd, ↓reduceIte, reduceCtorEq, resA, resA1, resVal, Nat.reduceLeDiff, nb_cfg, Nat.reduceBEq]
            refine ⟨by kernel_rfl, ?_⟩
            have hu : utfB l = false := utfB_bad (by rw [hl]; exact bad4 hk (by simp only [secB, contB, Bool.and_eq_false_iff, decide_eq_false_iff_not]; omega)) (by rw [hl]; simp)
            exact ⟨1, by rw [← he, hu]; rfl⟩
          have g1 : decide ((hi : Int) < (b.toNat : Int)) = false := decide_eq_false (by omega)
          by_cases t2 : d.toNat < 128
          · have g2 : decide ((d.toNat : Int) < 128) = true := decide_eq_true (by omega)
            simp -dsimp only [hn, h0, len_s, d0, x0, da, vg0, vg1, Option.map_some, vi0 hcl, AV.cells, vp5, fg, vand fl f1, vshr fl, fi, fa, cv53, ot_alloc, hro, valloc, vstore, vblk, vf0, vf1, Nat.zero_add, List.getElem?_cons_zero, List.getElem?_cons_succ, show IntKind.i64.wrap ((4 : Nat) : Int) = 4 from by decide, show decide ((4 : Int) = 2) = false from by decide, show decide ((4 : Int) = 3) = false from by decide, show decide ((4 : Int) = 4) = true from by decide, dl, x1, x2, x3, g0, g1, g2, AS, bin_and, bin_or, bin_xor, avals, apairs, bareP, AV.bare, AV.bares, Nat.reduceEqDiff, Nat.reduceLT, Nat.reduceAdd, ↓reduceIte, reduceCtorEq, resA, resA1, resVal, Nat.reduceLeDiff, nb_cfg, Nat.reduceBEq]
            refine ⟨by kernel_rfl, ?_⟩
            have hu : utfB l = false := utfB_bad (by rw [hl]; exact bad4 hk (by simp only [secB, contB, Bool.and_eq_false_iff, decide_eq_false_iff_not]; omega)) (by rw [hl]; simp)
            exact ⟨1, by rw [← he, hu]; rfl⟩
          have g2 : decide ((d.toNat : Int) < 128) = false := decide_eq_false (by omega)
          by_cases t3 : 191 < d.toNat
          · have g3 : decide ((191 : Int) < (d.toNat : Int)) = true := decide_eq_true (by omega)
            simp -dsimp only [hn, h0, len_s, d0, x0, da, vg0, vg1, Option.map_some, vi0 hcl, AV.cells, vp5, fg, vand fl f1, vshr fl, fi, fa, cv53, ot_alloc, hro, valloc, vstore, vblk, vf0, vf1, Nat.zero_add, List.getElem?_cons_zero, List.getElem?_cons_succ, show IntKind.i64.wrap ((4 : Nat) : Int) = 4 from by decide, show decide ((4 : Int) = 2) = false from by decide, show decide ((4 : Int) = 3) = false from by decide, show decide ((4 : Int) = 4) = true from by decide, dl, x1, x2, x3, g0, g1, g2, g3, AS, bin_and, bin_or, bin_xor, avals, apairs, bareP, AV.bare, AV.bares, Nat.reduceEqDiff, Nat.reduceLT, Nat.reduceAdd, ↓reduceIte, reduceCtorEq, resA, resA1, resVal, Nat.reduceLeDiff, nb_cfg, Nat.reduceBEq]
            refine ⟨by kernel_rfl, ?_⟩
            have hu : utfB l = false := utfB_bad (by rw [hl]; exact bad4 hk (by simp only [secB, contB, Bool.and_eq_false_iff, decide_eq_false_iff_not]; omega)) (by rw [hl]; simp)
            exact ⟨1, by rw [← he, hu]; rfl⟩
          have g3 : decide ((191 : Int) < (d.toNat : Int)) = false := decide_eq_false (by omega)
          by_cases t4 : e.toNat < 128
          · have g4 : decide ((e.toNat : Int) < 128) = true := decide_eq_true (by omega)
            simp -dsimp only [hn, h0, len_s, d0, x0, da, vg0, vg1, Option.map_some, vi0 hcl, AV.cells, vp5, fg, vand fl f1, vshr fl, fi, fa, cv53, ot_alloc, hro, valloc, vstore, vblk, vf0, vf1, Nat.zero_add, List.getElem?_cons_zero, List.getElem?_cons_succ, show IntKind.i64.wrap ((4 : Nat) : Int) = 4 from by decide, show decide ((4 : Int) = 2) = false from by decide, show decide ((4 : Int) = 3) = false from by decide, show decide ((4 : Int) = 4) = true from by decide, dl, x1, x2, x3, g0, g1, g2, g3, g4, AS, bin_and, bin_or, bin_xor, avals, apairs, bareP, AV.bare, AV.bares, Nat.reduceEqDiff, Nat.reduceLT, Nat.reduceAdd, ↓reduceIte, reduceCtorEq, resA, resA1, resVal, Nat.reduceLeDiff, nb_cfg, Nat.reduceBEq]
            refine ⟨by kernel_rfl, ?_⟩
            have hu : utfB l = false := utfB_bad (by rw [hl]; exact bad4 hk (by simp only [secB, contB, Bool.and_eq_false_iff, decide_eq_false_iff_not]; omega)) (by rw [hl]; simp)
            exact ⟨1, by rw [← he, hu]; rfl⟩
          have g4 : decide ((e.toNat : Int) < 128) = false := decide_eq_false (by omega)
          by_cases t5 : 191 < e.toNat
          · have g5 : decide ((191 : Int) < (e.toNat : Int)) = true := decide_eq_true (by omega)
            simp -dsimp only [hn, h0, len_s, d0, x0, da, vg0, vg1, Option.map_some, vi0 hcl, AV.cells, vp5, fg, vand fl f1, vshr fl, fi, fa, cv53, ot_alloc, hro, valloc, vstore, vblk, vf0, vf1, Nat.zero_add, List.getElem?_cons_zero, List.getElem?_cons_succ, show IntKind.i64.wrap ((4 : Nat) : Int) = 4 from by decide, show decide ((4 : Int) = 2) = false from by decide, show decide ((4 : Int) = 3) = false from by decide, show decide ((4 : Int) = 4) = true from by decide, dl, x1, x2, x3, g0, g1, g2, g3, g4, g5, AS, bin_and, bin_or, bin_xor, avals, apairs, bareP, AV.bare, AV.bares, Nat.reduceEqDiff, Nat.reduceLT, Nat.reduceAdd, ↓reduceIte, reduceCtorEq, resA, resA1, resVal, Nat.reduceLeDiff, nb_cfg, Nat.reduceBEq]
            refine ⟨by kernel_rfl, ?_⟩
            have hu : utfB l = false := utfB_bad (by rw [hl]; exact bad4 hk (by simp only [secB, contB, Bool.and_eq_false_iff, decide_eq_false_iff_not]; omega)) (by rw [hl]; simp)
            exact ⟨1, by rw [← he, hu]; rfl⟩
          have g5 : decide ((191 : Int) < (e.toNat : Int)) = false := decide_eq_false (by omega)
          have hst : stepN l = 4 := by rw [hl]; exact good4 hk (by simp only [secB, contB, Bool.and_eq_true, decide_eq_true_eq]; omega)
          have hsp := utfB_step (l := l) (by rw [hst]; decide)
          rw [hst] at hsp
          obtain ⟨l1, e1⟩ : ∃ l1, l.drop 4 = l1 := ⟨_, rfl⟩
          have s1 := sl_at (prim := uw1) e1 (j := 4) rfl (by omega)
          have n1 : l1.length = l.length - 4 := by rw [← e1, List.length_drop]
          rw [e1] at hsp
          simp -dsimp only [hn, h0, len_s, d0, x0, da, vg0, vg1, Option.map_some, vi0 hcl, AV.cells, vp5, fg, vand fl f1, vshr fl, fi, fa, cv53, ot_alloc, hro, valloc, vstore, vblk, vf0, vf1, Nat.zero_add, List.getElem?_cons_zero, List.getElem?_cons_succ, show IntKind.i64.wrap ((4 : Nat) : Int) = 4 from by decide, show decide ((4 : Int) = 2) = false from by decide, show decide ((4 : Int) = 3) = false from by decide, show decide ((4 : Int) = 4) = true from by decide, dl, x1, x2, x3, g0, g1, g2, g3, g4, g5, s1, AS, bin_and, bin_or, bin_xor, avals, apairs, bareP, AV.bare, AV.bares, Nat.reduceEqDiff, Nat.reduceLT, Nat.reduceAdd, ↓reduceIte, reduceCtorEq, resA, resA1, resVal, Nat.reduceLeDiff, nb_cfg, Nat.reduceBEq]
          refine ⟨by kernel_rfl, ?_⟩
          refine ⟨_, ?_, l1, rfl, ?_, ?_, by omega, by rw [← hsp, he]⟩
          · omega
          all_goals simp -dsimp only [hn, h0, AS, bin_and, bin_or, bin_xor, avals, apairs, bareP, AV.bare, AV.bares, Nat.reduceEqDiff, Nat.reduceLT, Nat.reduceAdd, ↓reduceIte, reduceCtorEq, resA, resA1, resVal, Nat.reduceLeDiff, nb_cfg, Nat.reduceBEq]
        exfalso
        have := szN_lt c.toNat
        omega
    · have d0 : decide ((0 : Int) < (l.length : Int)) = false := decide_eq_false (by omega)
      obtain rfl : l = [] := List.length_eq_zero_iff.1 (by omega)
      simp -dsimp only [hn, h0, len_s, d0, AS, bin_and, bin_or, bin_xor, avals, apairs, bareP, AV.bare, AV.bares, Nat.reduceEqDiff, Nat.reduceLT, Nat.reduceAdd, ↓reduceIte, reduceCtorEq, resA, resA1, resVal, Nat.reduceLeDiff, nb_cfg, Nat.reduceBEq]
      exact ⟨1, by rw [← he]; rfl⟩
  · refine ⟨l0, rfl, ?_, ?_, Nat.le_refl _, rfl⟩
    all_goals simp -dsimp only [hn, h0, AS, bin_and, bin_or, bin_xor, avals, apairs, bareP, AV.bare, AV.bares, Nat.reduceEqDiff, Nat.reduceLT, Nat.reduceAdd, ↓reduceIte, reduceCtorEq, resA, resA1, resVal, Nat.reduceLeDiff, nb_cfg, Nat.reduceBEq]
end Go.Proofs.YtjejeijldllloaaDoor

/- Chapter 1: Good, Runes; what is told awake; UtfJoins. -/
namespace Go.Proofs
open Go.Shelf
shelf_lay Lays.n195 Nm 195 at Tryd as Tryd.lays195
end Go.Proofs
namespace Go.Proofs.YtjejeijldllloaaDoor
open Go.AM
def validP := s1P 9223372036854775807 fun l => .v (.bool (utfB l))
theorem validP_eq {l : List UInt8} (h : l.length < 9223372036854775807) : validP [str l] = some (.v (.bool (utfB l))) := s1P_eq h
noncomputable def uv1 : FuncId → Option (List AV → Option AV) := tab [(67, validP)]
theorem uv1_ok : (cfgP uv1).Ok := cfg_ok (tab_ok ⟨prim_at Tryd.func67 (by kernel_rfl) rfl ((s1P_of fun l h => valid_ok l (by omega))), trivial⟩)
theorem uv1_67 : (cfgP uv1).prim 67 = some validP := rfl
theorem good_ok (l : List UInt8) (h : l.length < 9223372036854775807) : PureOk (cfgP uv1) 22 [str l] (.v (.bool (utfB l))) := by
  refine pure_of_wk (call := noCall) (fn := Tryd.f22) (rs := [.tmp 2]) uv1_ok noCall_ok (fns_cfg Tryd.func22 rfl) rfl rfl ?_
  intro env hl0 hargs
  have hn : env.length = 5 := hl0
  have h0 := hargs 0 _ rfl
  clear hargs hl0
  refine wkT_of ?_
  simp -dsimp only [hn, h0, ct_prim uv1_67, bare_s, validP_eq h, AS, bin_and, bin_or, bin_xor, avals, apairs, bareP, AV.bare, AV.bares, Nat.reduceEqDiff, Nat.reduceLT, Nat.reduceAdd, ↓reduceIte, reduceCtorEq, resA, resA1, resVal, Nat.reduceLeDiff, nb_cfg, Nat.reduceBEq]
  exact ⟨1, rfl⟩
end Go.Proofs.YtjejeijldllloaaDoor

/- Chapter 1, the document's: the code point ahead. -/
namespace Go.Proofs.YtjejeijldllloaaDoor
open Go.AM
section
variable {prim : FuncId → Option (List AV → Option AV)}
end
section
variable {c b d e : UInt8} {r : List UInt8}
end
end Go.Proofs.YtjejeijldllloaaDoor

/- Chapter 1, the document's: Runes, Good. -/
namespace Go.Proofs.YtjejeijldllloaaDoor
open Go.AM
end Go.Proofs.YtjejeijldllloaaDoor
