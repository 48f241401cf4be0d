/- What a program's functions are checked by. -/
import Derived.Test.YtcimffpckcbdlaaAmC
set_option linter.unusedSimpArgs false
set_option linter.unusedVariables false
namespace Go.AM
/-- One function's check. -/
def chkF (P : Program) (f : FuncId) : Bool := match P.funcs[f]? with
  | some fn => !(fn.name == "runtime.NumGoroutine") && (match fn.body with | some c => regionsOk c | none => true)
  | none => true
def allF (P : Program) : List FuncId → Prop
  | [] => True
  | f :: l => chkF P f = true ∧ allF P l
theorem allF_mem {P : Program} : ∀ {l : List FuncId}, allF P l → ∀ f ∈ l, chkF P f = true
  | [], _, f, h => by cases h
  | g :: l, h, f, hf => by
    rcases List.mem_cons.1 hf with rfl | hf
    · exact h.1
    · exact allF_mem h.2 f hf
theorem funcsOk_of {P : Program} {l : List FuncId} (h : allF P l) : funcsOk P (fun f => l.contains f) = true := by
  unfold funcsOk
  rw [List.all_eq_true]
  intro f _
  cases hf : l.contains f with
  | false => simp only [hf, Bool.not_false, Bool.true_or]
  | true =>
    have := allF_mem h f (by simpa using hf)
    unfold chkF at this
    simp only [hf, Bool.not_true, Bool.false_or]
    exact this
end Go.AM
