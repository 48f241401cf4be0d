/- OrderKnown, the law of chapter 22 of what is twice, of what lacks, of a ring, of itself, of nothing, returns true at every call. -/
import Derived.Test.YtcimffpckcbdlaaRows
import Derived.Test.YtcimffpckcbdlaaOk
import Derived.WalkKit
import Derived.ProofKit
import Derived.OpenShut
set_option linter.unusedVariables false
set_option linter.unusedSimpArgs false
namespace Go.Proofs.Ytcimffpckcbdlaa.orderKnown
open Go.ChangeShapes Go.WideShapes Go.ChangeAt Go.RowKit Go.AM

theorem own : ownKnob Try.prog.godebug = none := by kernel_rfl
theorem laidOut : laidOutB Try.prog = true := by kernel_rfl
theorem closed : closedT Try.prog [] = true := by kernel_rfl

theorem contract (H : Type) (enc : TypeId × Value → H) (W : World) (base : Nat) (args : Array Value) (ds gs : List (DataW H)) (before : List MemPlace)
    (hval : ∀ (j : Nat) t v, Try.f4.params[j]? = some t → args[j]? = some v → Value.okWide Try.prog W .any base t v)
    (hW : DataW.Whole enc Try.prog Try.f4.params.toList Rows.orderKnownSpec.vars false W args.toList ds gs before) :
    Calls Try.prog 4 args W fun e W' => ∃ v, e = .returned v ∧ Rows.orderKnownSpec.post enc Try.prog Try.f4 false true false false W args v W' := by
  refine law_contract (C := cfgP noP) (P := Try.prog) rfl (S := []) closed laidOut (fn := Try.f4) (s := Rows.orderKnownSpec) (tb := 4) (fun ds h => ?_) rfl rfl (by kernel_rfl) (by kernel_rfl) ?_ hval hW (fun g x h => by cases h)
  · rw [show Try.f4.params.size = 0 from by rw [Try.params4]; rfl] at h
    match ds, h with
    | [], _ => rfl
  · intro xs h
    have h' : Args Try.prog [] xs := by
      have e : Try.f4.params.toList = [] := by rw [Try.params4]
      rw [e] at h
      exact h
    obtain rfl : xs = [] := h'
    obtain ⟨⟨x, Hx⟩, hr, hx⟩ := Option.map_eq_some_iff.1 orderKnown_run
    cases hx
    exact pureOk_of (n := 1) (((callA_ok noP_ok 5000).ok _ _ _ _ _ hr).2) rfl

set_option maxRecDepth 100000 in
theorem lifted (os : Os) (started : os.Started) (H : Type) (enc : TypeId × Value → H) :
    ReturnsInHanded {} Try.checked os 4 .any (Rows.orderKnownSpec.pre6 enc Try.prog Try.f4 Rows.orderKnownRow.domain false) (Rows.orderKnownSpec.post enc Try.prog Try.f4 false true false false) := by
  refine returnsInHanded_of_change (C := Try.checked) own started (by kernel_rfl) Try.func4
    (ChangeSpec.witness6 (enc := enc) (C := Try.checked) false ⟨#[], #[], []⟩ 8 (by kernel_rfl) (by kernel_rfl) (by kernel_rfl) (by kernel_rfl)) ?_
  intro W base args ds gs before hval hW hcnd _
  exact contract H enc W base args ds gs before hval hW

end Go.Proofs.Ytcimffpckcbdlaa.orderKnown
namespace Go.Proofs.Ytcimffpckcbdlaa
theorem orderKnown_holds : Rows.OrderKnownSaid :=
  OpenClaim.holds_of_wide 4 Try.f4 rfl rfl rfl rfl rfl rfl rfl ⟨rfl, rfl, rfl, rfl, rfl⟩ rfl rfl rfl rfl rfl (by kernel_rfl) Try.func4 (by kernel_rfl)
    (of_decide_eq_true (by kernel_rfl)) (by unfold Func.isWrapper; first | (rw [if_pos (by decide +kernel)]; kernel_rfl) | (rw [if_neg (by decide +kernel)]; exact ⟨rfl, rfl⟩))
    (fun os started H enc _ => orderKnown.lifted os started H enc)
end Go.Proofs.Ytcimffpckcbdlaa
