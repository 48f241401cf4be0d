/- KeysFind, the law of chapter 15 that in a ring that may be at most one key counts and is found, returns true at every call. -/
import Derived.Test.YtonmpbfddiflhaaRows
import Derived.Test.YtonmpbfddiflhaaKz
import Derived.WalkKit
import Derived.ProofKit
import Derived.OpenShut
set_option linter.unusedVariables false
set_option linter.unusedSimpArgs false
namespace Go.Proofs.Ytonmpbfddiflhaa.keysFind
open Go.ChangeShapes Go.WideShapes Go.ChangeAt Go.RowKit Go.AM

theorem own : ownKnob Try.prog.godebug = none := by kernel_rfl
theorem laidOut : laidOutB Try.prog = true := by kernel_rfl
theorem closed : closedT Try.prog [22, 28, 9, 26, 5, 2, 3] = true := by kernel_rfl

theorem contract (H : Type) (enc : TypeId × Value → H) (W : World) (base : Nat) (args : Array Value) (ds gs : List (DataW H)) (before : List MemPlace)
    (hval : ∀ (j : Nat) t v, Try.f3.params[j]? = some t → args[j]? = some v → Value.okWide Try.prog W .any base t v)
    (hW : DataW.Whole enc Try.prog Try.f3.params.toList Rows.keysFindSpec.vars false W args.toList ds gs before) :
    Calls Try.prog 3 args W fun e W' => ∃ v, e = .returned v ∧ Rows.keysFindSpec.post enc Try.prog Try.f3 false true false false W args v W' := by
  refine law_contract (C := cfgP ky5) (P := Try.prog) rfl (S := [22, 28, 9, 26, 5, 2, 3]) closed laidOut (fn := Try.f3) (s := Rows.keysFindSpec) (tb := 4) (fun ds h => ?_) rfl rfl (by kernel_rfl) (by kernel_rfl) ?_ hval hW (fun g x h => by cases h)
  · rw [show Try.f3.params.size = 3 from by rw [Try.params3]; rfl] at h
    match ds, h with
    | [_, _, _], _ => rfl
  · intro xs h
    have h' : Args Try.prog [22, 2, 3] xs := by
      have e : Try.f3.params.toList = [22, 2, 3] := by rw [Try.params3]
      rw [e] at h
      exact h
    obtain ⟨x, ys, rfl, h1, y, zs, rfl, h2, z, ws, rfl, h3, rfl⟩ := h'
    obtain ⟨L, a1, a2, a3⟩ := arg_ring h1
    obtain ⟨ts, rfl, _⟩ := arg_int (k := .i64) (by kernel_rfl) h2
    obtain ⟨turn, rfl, _⟩ := arg_int (k := .i64) (by kernel_rfl) h3
    exact keysFind_core x L ts turn a1 a2 a3

set_option maxRecDepth 100000 in
theorem lifted (os : Os) (started : os.Started) (H : Type) (enc : TypeId × Value → H) :
    ReturnsInHanded {} Try.checked os 3 .any (Rows.keysFindSpec.pre6 enc Try.prog Try.f3 Rows.keysFindRow.domain false) (Rows.keysFindSpec.post enc Try.prog Try.f3 false true false false) := by
  refine returnsInHanded_of_change (C := Try.checked) own started (by kernel_rfl) Try.func3
    (ChangeSpec.witness6 (enc := enc) (C := Try.checked) false ⟨#[], #[.slice none 0 0, .int .i64 0, .int .i64 0], []⟩ 8 (by kernel_rfl) (by kernel_rfl) (by kernel_rfl) (by kernel_rfl)) ?_
  intro W base args ds gs before hval hW hcnd _
  exact contract H enc W base args ds gs before hval hW

end Go.Proofs.Ytonmpbfddiflhaa.keysFind
namespace Go.Proofs.Ytonmpbfddiflhaa
theorem keysFind_holds : Rows.KeysFindSaid :=
  OpenClaim.holds_of_wide 3 Try.f3 rfl rfl rfl rfl rfl rfl rfl ⟨rfl, rfl, rfl, rfl, rfl⟩ rfl rfl rfl rfl rfl (by kernel_rfl) Try.func3 (by kernel_rfl)
    (of_decide_eq_true (by kernel_rfl)) (by unfold Func.isWrapper; first | (rw [if_pos (by decide +kernel)]; kernel_rfl) | (rw [if_neg (by decide +kernel)]; exact ⟨rfl, rfl⟩))
    (fun os started H enc _ => keysFind.lifted os started H enc)
end Go.Proofs.Ytonmpbfddiflhaa
