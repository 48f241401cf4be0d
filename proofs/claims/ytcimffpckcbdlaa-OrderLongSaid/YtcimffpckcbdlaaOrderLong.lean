/- OrderLong, a law of chapter 22, returns true at every call. -/
import Derived.Test.YtcimffpckcbdlaaRows
import Derived.Test.YtcimffpckcbdlaaOi
import Derived.WalkKit
import Derived.ProofKit
import Derived.OpenShut
set_option linter.unusedVariables false
set_option linter.unusedSimpArgs false
namespace Go.Proofs.Ytcimffpckcbdlaa.orderLong
open Go.ChangeShapes Go.WideShapes Go.ChangeAt Go.RowKit Go.AM

theorem own : ownKnob Try.prog.godebug = none := by kernel_rfl
theorem laidOut : laidOutB Try.prog = true := by kernel_rfl
theorem closed : closedT Try.prog [3] = true := by kernel_rfl

theorem contract (H : Type) (enc : TypeId × Value → H) (W : World) (base : Nat) (args : Array Value) (ds gs : List (DataW H)) (before : List MemPlace)
    (hval : ∀ (j : Nat) t v, Try.f7.params[j]? = some t → args[j]? = some v → Value.okWide Try.prog W .any base t v)
    (hW : DataW.Whole enc Try.prog Try.f7.params.toList Rows.orderLongSpec.vars false W args.toList ds gs before) :
    Calls Try.prog 7 args W fun e W' => ∃ v, e = .returned v ∧ Rows.orderLongSpec.post enc Try.prog Try.f7 false true false false W args v W' := by
  refine law_contract (C := cfgP ow4) (P := Try.prog) rfl (S := [3]) closed laidOut (fn := Try.f7) (s := Rows.orderLongSpec) (tb := 4) (fun ds h => ?_) rfl rfl (by kernel_rfl) (by kernel_rfl) ?_ hval hW (fun g x h => by cases h)
  · rw [show Try.f7.params.size = 2 from by rw [Try.params7]; rfl] at h
    match ds, h with
    | [_, _], _ => rfl
  · intro xs h
    have h' : Args Try.prog [3, 3] xs := by
      have e : Try.f7.params.toList = [3, 3] := by rw [Try.params7]
      rw [e] at h
      exact h
    obtain ⟨x0, y0, rfl, h0, x1, y1, rfl, h1, rfl⟩ := h'
    obtain ⟨S, rfl, _⟩ := arg_int (k := .i64) (by kernel_rfl) h0
    obtain ⟨T, rfl, _⟩ := arg_int (k := .i64) (by kernel_rfl) h1
    exact long_core S T

set_option maxRecDepth 100000 in
theorem lifted (os : Os) (started : os.Started) (H : Type) (enc : TypeId × Value → H) :
    ReturnsInHanded {} Try.checked os 7 .any (Rows.orderLongSpec.pre6 enc Try.prog Try.f7 Rows.orderLongRow.domain false) (Rows.orderLongSpec.post enc Try.prog Try.f7 false true false false) := by
  refine returnsInHanded_of_change (C := Try.checked) own started (by kernel_rfl) Try.func7
    (ChangeSpec.witness6 (enc := enc) (C := Try.checked) false ⟨#[], #[.int .i64 0, .int .i64 0], []⟩ 8 (by kernel_rfl) (by kernel_rfl) (by kernel_rfl) (by kernel_rfl)) ?_
  intro W base args ds gs before hval hW hcnd _
  exact contract H enc W base args ds gs before hval hW

end Go.Proofs.Ytcimffpckcbdlaa.orderLong
namespace Go.Proofs.Ytcimffpckcbdlaa
theorem orderLong_holds : Rows.OrderLongSaid :=
  OpenClaim.holds_of_wide 7 Try.f7 rfl rfl rfl rfl rfl rfl rfl ⟨rfl, rfl, rfl, rfl, rfl⟩ rfl rfl rfl rfl rfl (by kernel_rfl) Try.func7 (by kernel_rfl)
    (of_decide_eq_true (by kernel_rfl)) (by unfold Func.isWrapper; first | (rw [if_pos (by decide +kernel)]; kernel_rfl) | (rw [if_neg (by decide +kernel)]; exact ⟨rfl, rfl⟩))
    (fun os started H enc _ => orderLong.lifted os started H enc)
end Go.Proofs.Ytcimffpckcbdlaa
