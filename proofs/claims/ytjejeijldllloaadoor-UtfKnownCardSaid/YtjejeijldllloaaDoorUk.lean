/- Contracts of functions, and plain facts about what they compute. -/
import Derived.Test.YtjejeijldllloaaDoorAmD
import Derived.Test.YtjejeijldllloaaDoorAmE
import Derived.Laws.Externs
import Derived.Test.YtjejeijldllloaaDoorProg
import Derived.KernelRfl
set_option linter.unusedSimpArgs false
set_option linter.unusedVariables false
/- A program's tables, and what its small types are. -/
namespace Go.Proofs.YtjejeijldllloaaDoor
open Go.AM
/-- Variables that are written once they are there. -/
def rwL : List (Nat × Nat) := [(19, 8), (21, 9), (10, 6), (11, 7), (11, 8), (11, 10), (11, 11), (12, 9), (12, 11), (13, 3), (13, 5), (13, 6), (13, 7), (15, 3), (15, 5), (15, 8), (16, 9), (16, 13), (17, 4), (17, 5), (17, 6), (17, 7), (17, 9), (17, 11), (17, 13), (17, 14), (17, 15), (28, 1), (30, 5), (30, 7), (35, 2), (35, 5), (36, 2), (38, 2), (39, 4), (40, 6), (41, 4), (42, 4), (43, 4), (44, 6), (45, 6), (46, 6), (47, 6), (48, 6), (49, 6), (50, 2), (51, 2), (52, 2), (52, 3), (53, 2), (54, 2), (54, 3), (54, 4), (55, 2), (55, 3), (55, 4), (59, 6), (59, 7), (59, 8), (67, 6), (75, 8), (75, 9), (76, 8), (76, 9), (80, 4), (88, 2), (89, 2), (98, 4), (103, 7), (106, 2), (107, 2), (107, 3), (116, 5)]
/-- Functions that share the heap of who calls them. -/
def shL : List Nat := [60, 63, 64, 65, 66, 90, 91, 94, 96, 108, 121, 122, 123, 128]
/-- The functions that are looked at. -/
def fnL : List Nat := [3, 4, 5, 6, 7, 8, 18, 19, 20, 21, 22, 23, 24, 25, 26, 27, 60, 61, 62, 63, 64, 65, 66, 67, 68, 90, 91, 92, 93, 94, 95, 96, 97, 108, 109, 110, 121, 122, 123, 128]
def gls : List (Nat × AV) := [(0, .agg firstA), (1, .agg accA)]
/-- Bytes of a text that are written. -/
def nbL : List (Nat × Nat) := []
noncomputable def cfgP (prim : FuncId → Option (List AV → Option AV)) : Cfg := cfgOf Tryd.prog (fun f => fnL.contains f) (glOf gls) (fun f => !(shL.contains f)) (fun f t => !(rwL.contains (f, t))) prim (fun f t => nbL.contains (f, t)) (fun f => f == 110) (fun t => t == 84) (fun e u => e == 84 && u == 82)
theorem ck3 : chkF Tryd.prog 3 = true := by kernel_rfl
theorem ck4 : chkF Tryd.prog 4 = true := by kernel_rfl
theorem ck5 : chkF Tryd.prog 5 = true := by kernel_rfl
theorem ck6 : chkF Tryd.prog 6 = true := by kernel_rfl
theorem ck7 : chkF Tryd.prog 7 = true := by kernel_rfl
theorem ck8 : chkF Tryd.prog 8 = true := by kernel_rfl
theorem ck18 : chkF Tryd.prog 18 = true := by kernel_rfl
theorem ck19 : chkF Tryd.prog 19 = true := by kernel_rfl
theorem ck20 : chkF Tryd.prog 20 = true := by kernel_rfl
theorem ck21 : chkF Tryd.prog 21 = true := by kernel_rfl
theorem ck22 : chkF Tryd.prog 22 = true := by kernel_rfl
theorem ck23 : chkF Tryd.prog 23 = true := by kernel_rfl
theorem ck24 : chkF Tryd.prog 24 = true := by kernel_rfl
theorem ck25 : chkF Tryd.prog 25 = true := by kernel_rfl
theorem ck26 : chkF Tryd.prog 26 = true := by kernel_rfl
theorem ck27 : chkF Tryd.prog 27 = true := by kernel_rfl
theorem ck60 : chkF Tryd.prog 60 = true := by kernel_rfl
theorem ck61 : chkF Tryd.prog 61 = true := by kernel_rfl
theorem ck62 : chkF Tryd.prog 62 = true := by kernel_rfl
theorem ck63 : chkF Tryd.prog 63 = true := by kernel_rfl
theorem ck64 : chkF Tryd.prog 64 = true := by kernel_rfl
theorem ck65 : chkF Tryd.prog 65 = true := by kernel_rfl
theorem ck66 : chkF Tryd.prog 66 = true := by kernel_rfl
theorem ck67 : chkF Tryd.prog 67 = true := by kernel_rfl
theorem ck68 : chkF Tryd.prog 68 = true := by kernel_rfl
theorem ck90 : chkF Tryd.prog 90 = true := by kernel_rfl
theorem ck91 : chkF Tryd.prog 91 = true := by kernel_rfl
theorem ck92 : chkF Tryd.prog 92 = true := by kernel_rfl
theorem ck93 : chkF Tryd.prog 93 = true := by kernel_rfl
theorem ck94 : chkF Tryd.prog 94 = true := by kernel_rfl
theorem ck95 : chkF Tryd.prog 95 = true := by kernel_rfl
theorem ck96 : chkF Tryd.prog 96 = true := by kernel_rfl
theorem ck97 : chkF Tryd.prog 97 = true := by kernel_rfl
theorem ck108 : chkF Tryd.prog 108 = true := by kernel_rfl
theorem ck109 : chkF Tryd.prog 109 = true := by kernel_rfl
theorem ck110 : chkF Tryd.prog 110 = true := by kernel_rfl
theorem ck121 : chkF Tryd.prog 121 = true := by kernel_rfl
theorem ck122 : chkF Tryd.prog 122 = true := by kernel_rfl
theorem ck123 : chkF Tryd.prog 123 = true := by kernel_rfl
theorem ck128 : chkF Tryd.prog 128 = true := by kernel_rfl
theorem fok : funcsOk Tryd.prog (fun f => fnL.contains f) = true := funcsOk_of (l := fnL) ⟨ck3, ck4, ck5, ck6, ck7, ck8, ck18, ck19, ck20, ck21, ck22, ck23, ck24, ck25, ck26, ck27, ck60, ck61, ck62, ck63, ck64, ck65, ck66, ck67, ck68, ck90, ck91, ck92, ck93, ck94, ck95, ck96, ck97, ck108, ck109, ck110, ck121, ck122, ck123, ck128, trivial⟩
theorem mixed : Tryd.prog.follows .mixedOrders = true := by kernel_rfl
theorem cfg_ok {prim : FuncId → Option (List AV → Option AV)} (hp : ∀ f p, prim f = some p → PrimOk (cfgP prim) f p) : (cfgP prim).Ok := cfgOf_ok mixed fok hp
  (fun f h x W => by
    rw [beq_iff_eq] at h
    subst h
    rw [run_callFunc_extern Tryd.func110 (by kernel_rfl) (by kernel_rfl) (by kernel_rfl) (e := Extern.AbiNoEscape.same) (by kernel_rfl)]
    rfl)
  (fun e u h => by
    simp only [Bool.and_eq_true, beq_iff_eq] at h
    obtain ⟨rfl, rfl⟩ := h
    kernel_rfl)
theorem cokN : (cfgP fun _ => none).Ok := cfg_ok (fun _ _ h => by cases h)
section
variable {prim : FuncId → Option (List AV → Option AV)}
theorem ro_cfg (f : FuncId) (t : Tmp) (h : (!(rwL.contains (f, t))) = true := by rfl) : (cfgP prim).roBox f t = true := h
theorem nb_cfg {f : FuncId} {d : Option Tmp} : nbOf (cfgP prim) f d = false := by cases d <;> rfl
theorem fns_cfg {f : FuncId} {fn : Func} (h : Tryd.prog.funcs[f]? = some fn) (hf : fnL.contains f = true) : (cfgP prim).fns f = some fn := by simp only [cfgP, cfgOf, hf, if_true, h]
theorem pureOk_prim {prim' : FuncId → Option (List AV → Option AV)} {f : FuncId} {xs : List AV} {r : AV} (h : PureOk (cfgP prim) f xs r) : PureOk (cfgP prim') f xs r := Go.AM.PureOk.other (C := cfgP prim) (C' := cfgP prim') rfl rfl rfl h
theorem prim_at {prim' : FuncId → Option (List AV → Option AV)} {f : FuncId} {fn : Func} {p : List AV → Option AV} (hf : Tryd.prog.funcs[f]? = some fn) (hn : (fn.name == "runtime.NumGoroutine") = false) (hb : fn.body.isSome = true) (h : ∀ xs r, p xs = some r → PureOk (cfgP prim) f xs r) : PrimOk (cfgP prim') f p :=
  .inl ⟨⟨fn, hf, hn, hb⟩, fun xs r hx => pureOk_prim (h xs r hx)⟩
end
end Go.Proofs.YtjejeijldllloaaDoor

/- Texts: length, bytes, parts. -/
namespace Go.Proofs.YtjejeijldllloaaDoor
open Go.AM
section
variable {prim : FuncId → Option (List AV → Option AV)}
theorem len_s {l : List UInt8} : lenA (cfgP prim) #[9] [str l] = some (.v (.int .i64 l.length)) := len_str (by kernel_rfl)
theorem index_s {l : List UInt8} {k : IntKind} {i : Nat} (h : i < l.length) : indexA (cfgP prim) 9 (str l) (.v (.int k i)) = some (byt l[i]) := index_str (by kernel_rfl) (by omega) (by simpa using h)
theorem index_s0 {l : List UInt8} {c : UInt8} {k : IntKind} : indexA (cfgP prim) 9 (str (c :: l)) (.v (.int k 0)) = some (.v (.int .u8 c.toNat)) := index_s (i := 0) (l := c :: l) (by simp)
theorem sliceT {l : List UInt8} {k : IntKind} {i : Nat} (h : i ≤ l.length) : sliceA (cfgP prim) 9 (str l) none (some (.v (.int k i))) none = some (str (l.take i)) := by
  have := slice_str (C := cfgP prim) (t := 9) (a := l) (lo := none) (hi := some (.v (.int k i))) (l := 0) (h := i) (by kernel_rfl) rfl (by simp [optIdx, idx]) ⟨Nat.zero_le _, h⟩
  simpa using this
theorem sliceD {l : List UInt8} {k : IntKind} {i : Nat} (h : i ≤ l.length) : sliceA (cfgP prim) 9 (str l) (some (.v (.int k i))) none none = some (str (l.drop i)) := by
  have := slice_str (C := cfgP prim) (t := 9) (a := l) (lo := some (.v (.int k i))) (hi := none) (l := i) (h := l.length) (by kernel_rfl) (by simp [optIdx, idx]) rfl ⟨h, Nat.le_refl _⟩
  rw [List.take_of_length_le (by simp)] at this
  exact this
end
theorem bare_s (l : List UInt8) : AV.bare (str l) = some (str l) := rfl
theorem wr64 {n : Int} (h1 : 0 ≤ n) (h2 : n < 2 ^ 63) : IntKind.i64.wrap n = n := by
  simp [IntKind.wrap, IntKind.bits, IntKind.signed]; omega
section
variable {prim : FuncId → Option (List AV → Option AV)}
theorem ix_s {l : List UInt8} {k : IntKind} {i : Nat} {c : UInt8} (h : l[i]? = some c) : indexA (cfgP prim) 9 (str l) (.v (.int k i)) = some (.v (.int .u8 c.toNat)) := by
  obtain ⟨hl, rfl⟩ := List.getElem?_eq_some_iff.1 h
  exact index_s hl
end
end Go.Proofs.YtjejeijldllloaaDoor

/- UtfKnown: by computing; the count of code points is the shelf's. -/
namespace Go.Proofs
open Go.Shelf
shelf_lay Lays.n195 Nm 195 at Tryd as Tryd.lays195
end Go.Proofs
namespace Go.Proofs.YtjejeijldllloaaDoor
open Go.AM
/-- How many code points. -/
def runesP : List AV → Option AV
  | [x] => (dS x).bind fun l => if l.length < 9223372036854775807 then (cnt l).map fun (m : Nat) => AV.v (.int .i64 (m : Int)) else none
  | _ => none
theorem runes_ok (xs : List AV) (r : AV) (h : runesP xs = some r) : PureOk (cfgP fun _ => none) 68 xs r := by
  match xs, h with
  | [x], h =>
    obtain ⟨l, hl, h⟩ := Option.bind_eq_some_iff.1 h
    split at h
    · rename_i hn
      obtain ⟨m, hm, rfl⟩ := Option.map_eq_some_iff.1 h
      rw [dS_iff.1 hl, ← runeCount_of hm]
      exact runes_pure (fun s w hs => Any.utf8_RuneCountInString Tryd.lays195 s w hs) l hn
    · cases h
def ur1 : FuncId → Option (List AV → Option AV) := tab [(68, runesP)]
theorem ur1_ok : (cfgP ur1).Ok := cfg_ok (tab_ok ⟨prim_at Tryd.func68 (by kernel_rfl) rfl (runes_ok), trivial⟩)
theorem ur1_68 : (cfgP ur1).prim 68 = some runesP := rfl
theorem utfKnown_run : (callA (cfgP ur1) 5000 7 [] {}).map (·.1) = some (.v (.bool true)) := by kernel_rfl
end Go.Proofs.YtjejeijldllloaaDoor
