/- Contracts of functions, and plain facts about what they compute. -/
import Derived.Test.YtcimffpckcbdlaaAmE
import Derived.Test.YtcimffpckcbdlaaAmD
import Derived.Test.YtcimffpckcbdlaaProg
import Derived.KernelRfl
set_option linter.unusedSimpArgs false
set_option linter.unusedVariables false
/- A program's tables, for laws that are computed. -/
namespace Go.Proofs.Ytcimffpckcbdlaa
open Go.AM
/-- Variables that are written once they are there. -/
def rwL : List (Nat × Nat) := [(10, 6), (10, 11), (10, 13), (12, 7), (31, 7), (32, 9)]
/-- Functions that share the heap of who calls them. -/
def shL : List Nat := [16, 17, 18, 19, 20, 21, 25, 26, 27, 29, 30, 31, 32, 33, 34, 36, 37, 40, 43, 44, 46, 64, 65, 66, 67]
/-- The functions that are looked at. -/
def fnL : List Nat := [4, 8, 10, 11, 12, 16, 17, 18, 19, 20, 21, 25, 26, 27, 28, 29, 30, 31, 32, 33, 34, 35, 36, 37, 38, 39, 40, 41, 42, 43, 44, 45, 46, 64, 65, 66, 67]
def gls : List (Nat × AV) := []
/-- Rows that are appended to and may be written. -/
def nbL : List (Nat × Nat) := [(10, 97), (12, 77), (12, 84), (20, 7), (67, 11)]
/-- Methods behind interface values. -/
def methL : List ((Nat × String) × Nat × Option Nat) := [((44, "Len"), 17, some 42), ((44, "Less"), 64, some 42), ((44, "Swap"), 65, some 42), ((44, "Push"), 67, none), ((44, "Pop"), 66, none)]
def methF (t : TypeId) (n : String) : Option (FuncId × Option TypeId) := (methL.find? fun p => p.1.1 == t && p.1.2 == n).map Prod.snd
noncomputable def cfgP (prim : FuncId → Option (List AV → Option AV)) : Cfg := cfgOf Try.prog (fun f => fnL.contains f) (glOf gls) (fun f => !(shL.contains f)) (fun f t => !(rwL.contains (f, t))) prim (fun f t => nbL.contains (f, t)) (meth := methF)
theorem ck4 : chkF Try.prog 4 = true := by kernel_rfl
theorem ck8 : chkF Try.prog 8 = true := by kernel_rfl
theorem ck10 : chkF Try.prog 10 = true := by kernel_rfl
theorem ck11 : chkF Try.prog 11 = true := by kernel_rfl
theorem ck12 : chkF Try.prog 12 = true := by kernel_rfl
theorem ck16 : chkF Try.prog 16 = true := by kernel_rfl
theorem ck17 : chkF Try.prog 17 = true := by kernel_rfl
theorem ck18 : chkF Try.prog 18 = true := by kernel_rfl
theorem ck19 : chkF Try.prog 19 = true := by kernel_rfl
theorem ck20 : chkF Try.prog 20 = true := by kernel_rfl
theorem ck21 : chkF Try.prog 21 = true := by kernel_rfl
theorem ck25 : chkF Try.prog 25 = true := by kernel_rfl
theorem ck26 : chkF Try.prog 26 = true := by kernel_rfl
theorem ck27 : chkF Try.prog 27 = true := by kernel_rfl
theorem ck28 : chkF Try.prog 28 = true := by kernel_rfl
theorem ck29 : chkF Try.prog 29 = true := by kernel_rfl
theorem ck30 : chkF Try.prog 30 = true := by kernel_rfl
theorem ck31 : chkF Try.prog 31 = true := by kernel_rfl
theorem ck32 : chkF Try.prog 32 = true := by kernel_rfl
theorem ck33 : chkF Try.prog 33 = true := by kernel_rfl
theorem ck34 : chkF Try.prog 34 = true := by kernel_rfl
theorem ck35 : chkF Try.prog 35 = true := by kernel_rfl
theorem ck36 : chkF Try.prog 36 = true := by kernel_rfl
theorem ck37 : chkF Try.prog 37 = true := by kernel_rfl
theorem ck38 : chkF Try.prog 38 = true := by kernel_rfl
theorem ck39 : chkF Try.prog 39 = true := by kernel_rfl
theorem ck40 : chkF Try.prog 40 = true := by kernel_rfl
theorem ck41 : chkF Try.prog 41 = true := by kernel_rfl
theorem ck42 : chkF Try.prog 42 = true := by kernel_rfl
theorem ck43 : chkF Try.prog 43 = true := by kernel_rfl
theorem ck44 : chkF Try.prog 44 = true := by kernel_rfl
theorem ck45 : chkF Try.prog 45 = true := by kernel_rfl
theorem ck46 : chkF Try.prog 46 = true := by kernel_rfl
theorem ck64 : chkF Try.prog 64 = true := by kernel_rfl
theorem ck65 : chkF Try.prog 65 = true := by kernel_rfl
theorem ck66 : chkF Try.prog 66 = true := by kernel_rfl
theorem ck67 : chkF Try.prog 67 = true := by kernel_rfl
theorem fok : funcsOk Try.prog (fun f => fnL.contains f) = true := funcsOk_of (l := fnL) ⟨ck4, ck8, ck10, ck11, ck12, ck16, ck17, ck18, ck19, ck20, ck21, ck25, ck26, ck27, ck28, ck29, ck30, ck31, ck32, ck33, ck34, ck35, ck36, ck37, ck38, ck39, ck40, ck41, ck42, ck43, ck44, ck45, ck46, ck64, ck65, ck66, ck67, trivial⟩
theorem mixed : Try.prog.follows .mixedOrders = true := by kernel_rfl
theorem methAll : (methL.all fun p => methChk Try.prog p.1.1 p.1.2 p.2.1 p.2.2) = true := by kernel_rfl
theorem methF_ok : ∀ t n f v, methF t n = some (f, v) → MethOk Try.prog t n f v := by
  intro t n f v h
  unfold methF at h
  obtain ⟨p, hp, he⟩ := Option.map_eq_some_iff.1 h
  have h1 := List.all_eq_true.1 methAll p (List.mem_of_find?_eq_some hp)
  have h2 := List.find?_some hp
  simp only [Bool.and_eq_true, beq_iff_eq] at h2
  rw [he, h2.1, h2.2] at h1
  exact methChk_ok h1
theorem cfg_ok {prim : FuncId → Option (List AV → Option AV)} (hp : ∀ f p, prim f = some p → PrimOk (cfgP prim) f p) : (cfgP prim).Ok := cfgOf_ok mixed fok hp (hme := methF_ok)
theorem cokN : (cfgP fun _ => none).Ok := cfg_ok (fun _ _ h => by cases h)
end Go.Proofs.Ytcimffpckcbdlaa

/- OrderKnown: by computing. -/
namespace Go.Proofs.Ytcimffpckcbdlaa
open Go.AM
noncomputable def noP : FuncId → Option (List AV → Option AV) := fun _ => none
theorem noP_ok : (cfgP noP).Ok := cokN
set_option maxRecDepth 100000 in
theorem orderKnown_run : (callA (cfgP noP) 5000 4 [] {}).map (·.1) = some (.v (.bool true)) := by kernel_rfl
end Go.Proofs.Ytcimffpckcbdlaa
