/- RedactMore, a law of chapter 13, returns true at every call, with the two tables of unicode/utf8 laid as its text lays them. -/
import Derived.Test.YtjejeijldllloaaDoorCards
import Derived.Test.YtjejeijldllloaaDoorTie
import Derived.Test.YtjejeijldllloaaDoorWh
import Derived.WalkKit
import Derived.ProofKit
import Derived.OpenShut
import Derived.Deep.DeepHandedRow
set_option linter.unusedVariables false
set_option linter.unusedSimpArgs false
namespace Go.Proofs.YtjejeijldllloaaDoor.redactMore
open Go.ChangeShapes Go.WideShapes Go.ChangeAt Go.RowKit Go.AM

theorem own : ownKnob Tryd.prog.godebug = none := by kernel_rfl
theorem laidOut : laidOutB Tryd.prog = true := by kernel_rfl
theorem closed : closedT Tryd.prog [48, 39, 37, 36, 9, 3, 2] = true := by kernel_rfl
theorem gl_ok : LaidOks Tryd.prog Rows.redactMoreRow.laid gls := ⟨laidOk 1 4 (xs := firstA) (by kernel_rfl) (by kernel_rfl) (.inl rfl), laidOk 0 4 (xs := accA) (by kernel_rfl) (by kernel_rfl) (.inl rfl), trivial⟩

set_option maxRecDepth 100000 in
theorem contract (H : Type) (enc : TypeId × Value → H) (W : World) (base : Nat) (args : Array Value) (ds gs : List (DataW H)) (before : List MemPlace)
    (hval : ∀ (j : Nat) t v, Tryd.f16.params[j]? = some t → args[j]? = some v → Value.okWide Tryd.prog W .any base t v)
    (hW : DataW.Whole enc Tryd.prog Tryd.f16.params.toList Rows.redactMoreSpec.vars false W args.toList ds gs before) (hL : laidMetH Tryd.prog Rows.redactMoreRow.laid W) (hreach : (DataW.weightsEach Tryd.prog (Tryd.f16.params.toList ++ Rows.redactMoreSpec.plain.varTypes Tryd.prog) (ds ++ gs)).all (· ≤ reachBytes) = true) :
    Calls Tryd.prog 16 args W fun e W' => ∃ v, e = .returned v ∧ Rows.redactMoreSpec.post enc Tryd.prog Tryd.f16 false true false false W args v W' := by
  refine law_contractS (C := cfgP rm1) (P := Tryd.prog) rfl (S := [48, 39, 37, 36, 9, 3, 2]) closed (by kernel_rfl) laidOut (fn := Tryd.f16) (s := Rows.redactMoreSpec) (tb := 4) (fun ds h => ?_) rfl rfl (by kernel_rfl) (by kernel_rfl) ?_ hval hW hreach (hgl_of hL (by kernel_rfl) gls gl_ok)
  · rw [show Tryd.f16.params.size = 3 from by rw [Tryd.params16]; rfl] at h
    match ds, h with
    | [_, _, _], _ => rfl
  · intro xs h hsm
    have h' : Args Tryd.prog [39, 9, 39] xs := by
      have e : Tryd.f16.params.toList = [39, 9, 39] := by rw [Tryd.params16]
      rw [e] at h
      exact h
    obtain ⟨x0, y0, rfl, h0, x1, y1, rfl, h1, x2, y2, rfl, h2, rfl⟩ := h'
    (obtain ⟨a1, rfl, _⟩ := arg_str (by kernel_rfl) h1); exact redactMore_core x0 x2 a1 h0 h2 (hsm x0 (by simp)) (hsm x2 (by simp)) (small_str (hsm (str a1) (by simp)))

noncomputable def laidWorld (os : Os) : World :=
  { World.holding Tryd.prog os ⟨#[], #[], []⟩ with heap := layAt (layAt ((World.holding Tryd.prog os ⟨#[], #[], []⟩).heap) 0 (Go.Pinned.utf8FirstZ.map fun (n : Nat) => Value.int .u8 (n : Int)).toArray) 1 #[.int .u8 128, .int .u8 191, .int .u8 160, .int .u8 191, .int .u8 128, .int .u8 159, .int .u8 144, .int .u8 191, .int .u8 128, .int .u8 143, .int .u8 0, .int .u8 0, .int .u8 0, .int .u8 0, .int .u8 0, .int .u8 0, .int .u8 0, .int .u8 0, .int .u8 0, .int .u8 0, .int .u8 0, .int .u8 0, .int .u8 0, .int .u8 0, .int .u8 0, .int .u8 0, .int .u8 0, .int .u8 0, .int .u8 0, .int .u8 0, .int .u8 0, .int .u8 0] }
theorem laid_met (os : Os) : laidMet Tryd.prog Rows.redactMoreRow.laid ((laidWorld os).forCall (fun _ _ => 0) ⟨#[], #[.agg #[.int .i64 0, .int .i64 0, .string ⟨#[]⟩, .slice none 0 0, .slice none 0 0], .string ⟨#[]⟩, .agg #[.int .i64 0, .int .i64 0, .string ⟨#[]⟩, .slice none 0 0, .slice none 0 0]], []⟩).memory :=
  laidMet_of_run' 8 (by kernel_rfl) (by kernel_rfl)
theorem reads (os : Os) {H : Type} (enc : TypeId × Value → H) : ∃ places, DataW.whole enc Tryd.prog ((laidWorld os).forCall (fun _ _ => 0) ⟨#[], #[.agg #[.int .i64 0, .int .i64 0, .string ⟨#[]⟩, .slice none 0 0, .slice none 0 0], .string ⟨#[]⟩, .agg #[.int .i64 0, .int .i64 0, .string ⟨#[]⟩, .slice none 0 0, .slice none 0 0]], []⟩).memory Tryd.f16.params.toList Rows.redactMoreSpec.vars false (#[.agg #[.int .i64 0, .int .i64 0, .string ⟨#[]⟩, .slice none 0 0, .slice none 0 0], .string ⟨#[]⟩, .agg #[.int .i64 0, .int .i64 0, .string ⟨#[]⟩, .slice none 0 0, .slice none 0 0]] : Array Value).toList 8 = some ([.agg [.lit (.int .i64 0), .lit (.int .i64 0), .lit (.string []), .nil, .nil], .lit (.string []), .agg [.lit (.int .i64 0), .lit (.int .i64 0), .lit (.string []), .nil, .nil]], [], places) :=
  ⟨[], by kernel_rfl⟩

set_option maxRecDepth 100000 in
theorem lifted (os : Os) (started : os.Started) (H : Type) (enc : TypeId × Value → H) (F : Stop.Interp) :
    ReturnsInHanded {} Tryd.checked os 16 .any ((OpenSpec.ofChange Rows.redactMoreSpec).preRow enc Tryd.prog Tryd.f16 Rows.redactMoreRow.domain false Rows.redactMoreRow.laid) (((OpenSpec.ofChange Rows.redactMoreSpec).at F).post enc Tryd.prog Tryd.f16 false true false false) := by
  obtain ⟨places, hx⟩ := reads os enc
  refine returnsInHanded_of_row (C := Tryd.checked) (s := OpenSpec.ofChange Rows.redactMoreSpec) own started (by kernel_rfl) Tryd.func16
    (witness_row_at (enc := enc) (C := Tryd.checked) false (laidWorld os) #[.agg #[.int .i64 0, .int .i64 0, .string ⟨#[]⟩, .slice none 0 0, .slice none 0 0], .string ⟨#[]⟩, .agg #[.int .i64 0, .int .i64 0, .string ⟨#[]⟩, .slice none 0 0, .slice none 0 0]] rfl (by kernel_rfl) (by kernel_rfl) (by kernel_rfl)
      (OpenSpec.preRow_of_cond 8 hx (by kernel_rfl) (fun k hk => by cases hk) (by kernel_rfl) (laid_met os))) ?_
  intro W base args ds gs before hval hW _ _ hre hL _ _
  exact contract H enc W base args ds gs before hval hW hL hre

theorem said : Rows.RedactMoreSaid :=
  OpenClaim.holds_of_cond 16 Tryd.f16 rfl rfl rfl rfl rfl rfl rfl ⟨rfl, rfl, rfl, rfl, rfl⟩ rfl rfl rfl rfl rfl (by kernel_rfl) Tryd.func16 (by kernel_rfl)
    (of_decide_eq_true (by kernel_rfl)) (by unfold Func.isWrapper; first | (rw [if_pos (by decide +kernel)]; kernel_rfl) | (rw [if_neg (by decide +kernel)]; exact ⟨rfl, rfl⟩))
    (fun os started H enc _ F => by rw [OpenClaim.pre_eq_preRow]; exact lifted os started H enc F)

theorem plain (f : FuncId) (fn : Func) (hf : Tryd.pinned.checked.prog.funcNamed "introit/introitlaw13.RedactMore" = some f) (hfn : Tryd.pinned.checked.prog.funcs[f]? = some fn) :
    false = Tryd.pinned.checked.prog.looks [] ∧ ∀ (j : Nat) t, fn.params[j]? = some t → Tryd.pinned.checked.prog.wantsStandIn t = false := by
  obtain rfl : f = 16 := Option.some.inj ((show Tryd.prog.funcNamed "introit/introitlaw13.RedactMore" = some 16 by kernel_rfl).symm.trans hf) |>.symm
  obtain rfl : fn = Tryd.f16 := (Option.some.inj (Tryd.func16.symm.trans hfn)).symm
  refine ⟨by kernel_rfl, fun j t ht => ?_⟩
  have hall : Tryd.f16.params.toList.all (fun t => !(Tryd.pinned.checked.prog.wantsStandIn t)) = true := by kernel_rfl
  have := List.all_eq_true.1 hall t (Array.mem_toList_iff.2 (Array.mem_of_getElem? ht))
  simpa using this

end Go.Proofs.YtjejeijldllloaaDoor.redactMore
namespace Go.Proofs.YtjejeijldllloaaDoor
theorem redactMore_holds : Rows.RedactMoreCardSaid :=
  Claim7.holds_tied_plain_at .later [] _ _ _ _ redactMore.said (fun _ h => by cases h) (by kernel_rfl) (fun _ h => by cases h) redactMore_row_tie rfl ⟨rfl, rfl⟩ (by kernel_rfl) rfl redactMore.plain (by kernel_rfl)
end Go.Proofs.YtjejeijldllloaaDoor
