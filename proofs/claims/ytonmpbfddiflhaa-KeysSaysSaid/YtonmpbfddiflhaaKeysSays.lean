/- KeysSays, the law of chapter 15 that what may be, what is found and what is put is as the document says, returns true at every call. -/
import Derived.Test.YtonmpbfddiflhaaRows
import Derived.Test.YtonmpbfddiflhaaKs
import Derived.WalkKit
import Derived.ProofKit
import Derived.OpenShut
set_option linter.unusedVariables false
set_option linter.unusedSimpArgs false
namespace Go.Proofs.Ytonmpbfddiflhaa.keysSays
open Go.ChangeShapes Go.WideShapes Go.ChangeAt Go.RowKit Go.AM

theorem own : ownKnob Try.prog.godebug = none := by kernel_rfl
theorem laidOut : laidOutB Try.prog = true := by kernel_rfl
theorem closed : closedT Try.prog [22, 28, 9, 26, 5, 2, 3] = true := by kernel_rfl

theorem contract (H : Type) (enc : TypeId × Value → H) (W : World) (base : Nat) (args : Array Value) (ds gs : List (DataW H)) (before : List MemPlace)
    (hval : ∀ (j : Nat) t v, Try.f5.params[j]? = some t → args[j]? = some v → Value.okWide Try.prog W .any base t v)
    (hW : DataW.Whole enc Try.prog Try.f5.params.toList Rows.keysSaysSpec.vars false W args.toList ds gs before) :
    Calls Try.prog 5 args W fun e W' => ∃ v, e = .returned v ∧ Rows.keysSaysSpec.post enc Try.prog Try.f5 false true false false W args v W' := by
  refine law_contract (C := cfgP kq0) (P := Try.prog) rfl (S := [22, 28, 9, 26, 5, 2, 3]) closed laidOut (fn := Try.f5) (s := Rows.keysSaysSpec) (tb := 4) (fun ds h => ?_) rfl rfl (by kernel_rfl) (by kernel_rfl) ?_ hval hW (fun g x h => by cases h)
  · rw [show Try.f5.params.size = 5 from by rw [Try.params5]; rfl] at h
    match ds, h with
    | [_, _, _, _, _], _ => rfl
  · intro xs h
    have h' : Args Try.prog [22, 28, 9, 9, 2] xs := by
      have e : Try.f5.params.toList = [22, 28, 9, 9, 2] := by rw [Try.params5]
      rw [e] at h
      exact h
    obtain ⟨x, ys, rfl, h1, y, zs, rfl, h2, z, ws, rfl, h3, u, us, rfl, h4, v, vs, rfl, h5, rfl⟩ := h'
    obtain ⟨L, a1, a2⟩ := arg_raw h1
    obtain ⟨c, rfl⟩ := arg_key h2
    obtain ⟨sv, rfl, _⟩ := arg_str (by kernel_rfl) h3
    obtain ⟨id, rfl, _⟩ := arg_str (by kernel_rfl) h4
    obtain ⟨ts, rfl, _⟩ := arg_int (k := .i64) (by kernel_rfl) h5
    exact keysSays_core x L (c.k, c.l) sv id ts a1 a2 ⟨c.h, c.a, c.b⟩

set_option maxRecDepth 100000 in
theorem lifted (os : Os) (started : os.Started) (H : Type) (enc : TypeId × Value → H) :
    ReturnsInHanded {} Try.checked os 5 .any (Rows.keysSaysSpec.pre6 enc Try.prog Try.f5 Rows.keysSaysRow.domain false) (Rows.keysSaysSpec.post enc Try.prog Try.f5 false true false false) := by
  refine returnsInHanded_of_change (C := Try.checked) own started (by kernel_rfl) Try.func5
    (ChangeSpec.witness6 (enc := enc) (C := Try.checked) false ⟨#[], #[.slice none 0 0, .agg #[.string ⟨#[]⟩, .string ⟨#[]⟩, .slice none 0 0, .int .i64 0, .int .i64 0], .string ⟨#[]⟩, .string ⟨#[]⟩, .int .i64 0], []⟩ 8 (by kernel_rfl) (by kernel_rfl) (by kernel_rfl) (by kernel_rfl)) ?_
  intro W base args ds gs before hval hW hcnd _
  exact contract H enc W base args ds gs before hval hW

end Go.Proofs.Ytonmpbfddiflhaa.keysSays
namespace Go.Proofs.Ytonmpbfddiflhaa
theorem keysSays_holds : Rows.KeysSaysSaid :=
  OpenClaim.holds_of_wide 5 Try.f5 rfl rfl rfl rfl rfl rfl rfl ⟨rfl, rfl, rfl, rfl, rfl⟩ rfl rfl rfl rfl rfl (by kernel_rfl) Try.func5 (by kernel_rfl)
    (of_decide_eq_true (by kernel_rfl)) (by unfold Func.isWrapper; first | (rw [if_pos (by decide +kernel)]; kernel_rfl) | (rw [if_neg (by decide +kernel)]; exact ⟨rfl, rfl⟩))
    (fun os started H enc _ => keysSays.lifted os started H enc)
end Go.Proofs.Ytonmpbfddiflhaa
