/- OrderReaches, a law of chapter 22, returns true at every call. -/
import Derived.Test.YtcimffpckcbdlaaRows
import Derived.Test.YtcimffpckcbdlaaOi
import Derived.WalkKit
import Derived.ProofKit
import Derived.OpenShut
set_option linter.unusedVariables false
set_option linter.unusedSimpArgs false
namespace Go.Proofs.Ytcimffpckcbdlaa.orderReaches
open Go.ChangeShapes Go.WideShapes Go.ChangeAt Go.RowKit Go.AM

theorem own : ownKnob Try.prog.godebug = none := by kernel_rfl
theorem laidOut : laidOutB Try.prog = true := by kernel_rfl
theorem closed : closedT Try.prog [22, 34, 25, 9] = true := by kernel_rfl

theorem contract (H : Type) (enc : TypeId × Value → H) (W : World) (base : Nat) (args : Array Value) (ds gs : List (DataW H)) (before : List MemPlace)
    (hval : ∀ (j : Nat) t v, Try.f6.params[j]? = some t → args[j]? = some v → Value.okWide Try.prog W .any base t v)
    (hW : DataW.Whole enc Try.prog Try.f6.params.toList Rows.orderReachesSpec.vars false W args.toList ds gs before) :
    Calls Try.prog 6 args W fun e W' => ∃ v, e = .returned v ∧ Rows.orderReachesSpec.post enc Try.prog Try.f6 false true false false W args v W' := by
  refine law_contract (C := cfgP ow3) (P := Try.prog) rfl (S := [22, 34, 25, 9]) closed laidOut (fn := Try.f6) (s := Rows.orderReachesSpec) (tb := 4) (fun ds h => ?_) rfl rfl (by kernel_rfl) (by kernel_rfl) ?_ hval hW (fun g x h => by cases h)
  · rw [show Try.f6.params.size = 2 from by rw [Try.params6]; rfl] at h
    match ds, h with
    | [_, _], _ => rfl
  · intro xs h
    have h' : Args Try.prog [22, 25] xs := by
      have e : Try.f6.params.toList = [22, 25] := by rw [Try.params6]
      rw [e] at h
      exact h
    obtain ⟨x0, y0, rfl, h0, x1, y1, rfl, h1, rfl⟩ := h'
    obtain ⟨l, ys, a1, a2, a3, a4⟩ := arg_items h0
    obtain ⟨fr, b1, b2, b3⟩ := arg_texts h1
    exact reaches_core l x0 ys fr x1 a1 a2 a3 a4 b1 b2 b3

set_option maxRecDepth 100000 in
theorem lifted (os : Os) (started : os.Started) (H : Type) (enc : TypeId × Value → H) :
    ReturnsInHanded {} Try.checked os 6 .any (Rows.orderReachesSpec.pre6 enc Try.prog Try.f6 Rows.orderReachesRow.domain false) (Rows.orderReachesSpec.post enc Try.prog Try.f6 false true false false) := by
  refine returnsInHanded_of_change (C := Try.checked) own started (by kernel_rfl) Try.func6
    (ChangeSpec.witness6 (enc := enc) (C := Try.checked) false ⟨#[], #[.slice none 0 0, .slice none 0 0], []⟩ 8 (by kernel_rfl) (by kernel_rfl) (by kernel_rfl) (by kernel_rfl)) ?_
  intro W base args ds gs before hval hW hcnd _
  exact contract H enc W base args ds gs before hval hW

end Go.Proofs.Ytcimffpckcbdlaa.orderReaches
namespace Go.Proofs.Ytcimffpckcbdlaa
theorem orderReaches_holds : Rows.OrderReachesSaid :=
  OpenClaim.holds_of_wide 6 Try.f6 rfl rfl rfl rfl rfl rfl rfl ⟨rfl, rfl, rfl, rfl, rfl⟩ rfl rfl rfl rfl rfl (by kernel_rfl) Try.func6 (by kernel_rfl)
    (of_decide_eq_true (by kernel_rfl)) (by unfold Func.isWrapper; first | (rw [if_pos (by decide +kernel)]; kernel_rfl) | (rw [if_neg (by decide +kernel)]; exact ⟨rfl, rfl⟩))
    (fun os started H enc _ => orderReaches.lifted os started H enc)
end Go.Proofs.Ytcimffpckcbdlaa
