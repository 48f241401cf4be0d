/- RedactKnown, the law of chapter 13 of each type, of a content that is none, of a value that is no map, returns true at every call, with the two tables of unicode/utf8 laid as its text lays them. -/
import Derived.Test.YtjejeijldllloaaDoorCards
import Derived.Test.YtjejeijldllloaaDoorTie
import Derived.Test.YtjejeijldllloaaDoorWh
import Derived.WalkKit
import Derived.ProofKit
import Derived.OpenShut
import Derived.Deep.DeepHandedRow
set_option linter.unusedVariables false
set_option linter.unusedSimpArgs false
namespace Go.Proofs.YtjejeijldllloaaDoor.redactKnown
open Go.ChangeShapes Go.WideShapes Go.ChangeAt Go.RowKit Go.AM

theorem own : ownKnob Tryd.prog.godebug = none := by kernel_rfl
theorem laidOut : laidOutB Tryd.prog = true := by kernel_rfl
theorem closed : closedT Tryd.prog [] = true := by kernel_rfl
theorem gl_ok : LaidOks Tryd.prog Rows.redactKnownRow.laid gls := ⟨laidOk 1 4 (xs := firstA) (by kernel_rfl) (by kernel_rfl) (.inl rfl), laidOk 0 4 (xs := accA) (by kernel_rfl) (by kernel_rfl) (.inl rfl), trivial⟩

set_option maxRecDepth 100000 in
theorem contract (H : Type) (enc : TypeId × Value → H) (W : World) (base : Nat) (args : Array Value) (ds gs : List (DataW H)) (before : List MemPlace)
    (hval : ∀ (j : Nat) t v, Tryd.f17.params[j]? = some t → args[j]? = some v → Value.okWide Tryd.prog W .any base t v)
    (hW : DataW.Whole enc Tryd.prog Tryd.f17.params.toList Rows.redactKnownSpec.vars false W args.toList ds gs before) (hL : laidMetH Tryd.prog Rows.redactKnownRow.laid W) :
    Calls Tryd.prog 17 args W fun e W' => ∃ v, e = .returned v ∧ Rows.redactKnownSpec.post enc Tryd.prog Tryd.f17 false true false false W args v W' := by
  refine law_contract (C := cfgP kn1) (P := Tryd.prog) rfl (S := []) closed laidOut (fn := Tryd.f17) (s := Rows.redactKnownSpec) (tb := 4) (fun ds h => ?_) rfl rfl (by kernel_rfl) (by kernel_rfl) ?_ hval hW (hgl_of hL (by kernel_rfl) gls gl_ok)
  · rw [show Tryd.f17.params.size = 0 from by rw [Tryd.params17]; rfl] at h
    match ds, h with
    | [], _ => rfl
  · intro xs h
    have h' : Args Tryd.prog [] xs := by
      have e : Tryd.f17.params.toList = [] := by rw [Tryd.params17]
      rw [e] at h
      exact h
    obtain rfl : xs = [] := h'
    obtain ⟨⟨x, Hx⟩, hr, hx⟩ := Option.map_eq_some_iff.1 redactKnown_run
    cases hx
    exact pureOk_of (n := 1) (((callA_ok kn1_ok 5000).ok _ _ _ _ _ hr).2) rfl

noncomputable def laidWorld (os : Os) : World :=
  { World.holding Tryd.prog os ⟨#[], #[], []⟩ with heap := layAt (layAt ((World.holding Tryd.prog os ⟨#[], #[], []⟩).heap) 0 (Go.Pinned.utf8FirstZ.map fun (n : Nat) => Value.int .u8 (n : Int)).toArray) 1 #[.int .u8 128, .int .u8 191, .int .u8 160, .int .u8 191, .int .u8 128, .int .u8 159, .int .u8 144, .int .u8 191, .int .u8 128, .int .u8 143, .int .u8 0, .int .u8 0, .int .u8 0, .int .u8 0, .int .u8 0, .int .u8 0, .int .u8 0, .int .u8 0, .int .u8 0, .int .u8 0, .int .u8 0, .int .u8 0, .int .u8 0, .int .u8 0, .int .u8 0, .int .u8 0, .int .u8 0, .int .u8 0, .int .u8 0, .int .u8 0, .int .u8 0, .int .u8 0] }
theorem laid_met (os : Os) : laidMet Tryd.prog Rows.redactKnownRow.laid ((laidWorld os).forCall (fun _ _ => 0) ⟨#[], #[], []⟩).memory :=
  laidMet_of_run' 8 (by kernel_rfl) (by kernel_rfl)
theorem reads (os : Os) {H : Type} (enc : TypeId × Value → H) : ∃ places, DataW.whole enc Tryd.prog ((laidWorld os).forCall (fun _ _ => 0) ⟨#[], #[], []⟩).memory Tryd.f17.params.toList Rows.redactKnownSpec.vars false (#[] : Array Value).toList 8 = some ([], [], places) :=
  ⟨[], by kernel_rfl⟩

set_option maxRecDepth 100000 in
theorem lifted (os : Os) (started : os.Started) (H : Type) (enc : TypeId × Value → H) (F : Stop.Interp) :
    ReturnsInHanded {} Tryd.checked os 17 .any ((OpenSpec.ofChange Rows.redactKnownSpec).preRow enc Tryd.prog Tryd.f17 Rows.redactKnownRow.domain false Rows.redactKnownRow.laid) (((OpenSpec.ofChange Rows.redactKnownSpec).at F).post enc Tryd.prog Tryd.f17 false true false false) := by
  obtain ⟨places, hx⟩ := reads os enc
  refine returnsInHanded_of_row (C := Tryd.checked) (s := OpenSpec.ofChange Rows.redactKnownSpec) own started (by kernel_rfl) Tryd.func17
    (witness_row_at (enc := enc) (C := Tryd.checked) false (laidWorld os) #[] rfl (by kernel_rfl) (by kernel_rfl) (by kernel_rfl)
      (OpenSpec.preRow_of_cond 8 hx (by kernel_rfl) (fun k hk => by cases hk) (by kernel_rfl) (laid_met os))) ?_
  intro W base args ds gs before hval hW _ _ hre hL _ _
  exact contract H enc W base args ds gs before hval hW hL

theorem said : Rows.RedactKnownSaid :=
  OpenClaim.holds_of_cond 17 Tryd.f17 rfl rfl rfl rfl rfl rfl rfl ⟨rfl, rfl, rfl, rfl, rfl⟩ rfl rfl rfl rfl rfl (by kernel_rfl) Tryd.func17 (by kernel_rfl)
    (of_decide_eq_true (by kernel_rfl)) (by unfold Func.isWrapper; first | (rw [if_pos (by decide +kernel)]; kernel_rfl) | (rw [if_neg (by decide +kernel)]; exact ⟨rfl, rfl⟩))
    (fun os started H enc _ F => by rw [OpenClaim.pre_eq_preRow]; exact lifted os started H enc F)

theorem plain (f : FuncId) (fn : Func) (hf : Tryd.pinned.checked.prog.funcNamed "introit/introitlaw13.RedactKnown" = some f) (hfn : Tryd.pinned.checked.prog.funcs[f]? = some fn) :
    false = Tryd.pinned.checked.prog.looks [] ∧ ∀ (j : Nat) t, fn.params[j]? = some t → Tryd.pinned.checked.prog.wantsStandIn t = false := by
  obtain rfl : f = 17 := Option.some.inj ((show Tryd.prog.funcNamed "introit/introitlaw13.RedactKnown" = some 17 by kernel_rfl).symm.trans hf) |>.symm
  obtain rfl : fn = Tryd.f17 := (Option.some.inj (Tryd.func17.symm.trans hfn)).symm
  refine ⟨by kernel_rfl, fun j t ht => ?_⟩
  have hall : Tryd.f17.params.toList.all (fun t => !(Tryd.pinned.checked.prog.wantsStandIn t)) = true := by kernel_rfl
  have := List.all_eq_true.1 hall t (Array.mem_toList_iff.2 (Array.mem_of_getElem? ht))
  simpa using this

end Go.Proofs.YtjejeijldllloaaDoor.redactKnown
namespace Go.Proofs.YtjejeijldllloaaDoor
theorem redactKnown_holds : Rows.RedactKnownCardSaid :=
  Claim7.holds_tied_plain_at .later [] _ _ _ _ redactKnown.said (fun _ h => by cases h) (by kernel_rfl) (fun _ h => by cases h) redactKnown_row_tie rfl ⟨rfl, rfl⟩ (by kernel_rfl) rfl redactKnown.plain (by kernel_rfl)
end Go.Proofs.YtjejeijldllloaaDoor
