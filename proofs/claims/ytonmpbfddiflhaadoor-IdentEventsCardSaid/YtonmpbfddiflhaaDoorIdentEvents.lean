/- IdentEvents, the law of chapter 11 that each 32 bytes make an event's name and no others do, returns true at every call, with the alphabet for URLs laid as the program's text lays it. -/
import Derived.Test.YtonmpbfddiflhaaDoorCards
import Derived.Test.YtonmpbfddiflhaaDoorTie
import Derived.Test.YtonmpbfddiflhaaDoorIde
import Derived.WalkKit
import Derived.ProofKit
import Derived.OpenShut
import Derived.Deep.DeepHandedRow
set_option linter.unusedVariables false
set_option linter.unusedSimpArgs false
namespace Go.Proofs.YtonmpbfddiflhaaDoor.identEvents
open Go.ChangeShapes Go.WideShapes Go.ChangeAt Go.RowKit Go.AM

theorem own : ownKnob Tryd.prog.godebug = none := by kernel_rfl
theorem laidOut : laidOutB Tryd.prog = true := by kernel_rfl
theorem closed : closedT Tryd.prog [38, 5, 3] = true := by kernel_rfl
theorem gl_ok : LaidOks Tryd.prog Rows.identEventsRow.laid gls := ⟨laidOk 0 3 (xs := [.v (.int .u8 45), .v (.int .u8 95)]) (by kernel_rfl) rfl (.inl rfl), trivial⟩

theorem contract (H : Type) (enc : TypeId × Value → H) (W : World) (base : Nat) (args : Array Value) (ds gs : List (DataW H)) (before : List MemPlace)
    (hval : ∀ (j : Nat) t v, Tryd.f9.params[j]? = some t → args[j]? = some v → Value.okWide Tryd.prog W .any base t v)
    (hW : DataW.Whole enc Tryd.prog Tryd.f9.params.toList Rows.identEventsSpec.vars false W args.toList ds gs before) (hL : laidMetH Tryd.prog Rows.identEventsRow.laid W) :
    Calls Tryd.prog 9 args W fun e W' => ∃ v, e = .returned v ∧ Rows.identEventsSpec.post enc Tryd.prog Tryd.f9 false true false false W args v W' := by
  refine law_contract (C := cfgP id9) (P := Tryd.prog) rfl (S := [38, 5, 3]) closed laidOut (fn := Tryd.f9) (s := Rows.identEventsSpec) (tb := 4) (fun ds h => ?_) rfl rfl (by kernel_rfl) (by kernel_rfl) ?_ hval hW (hgl_of hL rfl gls gl_ok)
  · rw [show Tryd.f9.params.size = 3 from by rw [Tryd.params9]; rfl] at h
    match ds, h with
    | [_, _, _], _ => rfl
  · intro xs h
    have h' : Args Tryd.prog [38, 3, 5] xs := by
      have e : Tryd.f9.params.toList = [38, 3, 5] := by rw [Tryd.params9]
      rw [e] at h
      exact h
    obtain ⟨x, ys, rfl, h1, y, zs, rfl, h2, z, ws, rfl, h3, rfl⟩ := h'
    obtain ⟨b, rfl, hb⟩ := arg_arr (k := 32) (e := 5) (by kernel_rfl) (by kernel_rfl) h1
    obtain ⟨a, rfl, _⟩ := arg_int (k := .i64) (by kernel_rfl) h2
    obtain ⟨c, rfl⟩ := arg_byte (by kernel_rfl) h3
    exact identEvents_core b a c hb

noncomputable def laidWorld (os : Os) : World :=
  { World.holding Tryd.prog os ⟨#[], #[], []⟩ with heap := layAt ((World.holding Tryd.prog os ⟨#[], #[], []⟩).heap) 1 #[.int .u8 45, .int .u8 95] }
theorem laid_met (os : Os) : laidMet Tryd.prog Rows.identEventsRow.laid ((laidWorld os).forCall (fun _ _ => 0) ⟨#[], #[.agg (Array.replicate 32 (.int .u8 0)), .int .i64 0, .int .u8 0], []⟩).memory :=
  laidMet_of_run' 8 (by kernel_rfl) (by kernel_rfl)
theorem reads (os : Os) {H : Type} (enc : TypeId × Value → H) : ∃ places, DataW.whole enc Tryd.prog ((laidWorld os).forCall (fun _ _ => 0) ⟨#[], #[.agg (Array.replicate 32 (.int .u8 0)), .int .i64 0, .int .u8 0], []⟩).memory Tryd.f9.params.toList Rows.identEventsSpec.vars false (#[.agg (Array.replicate 32 (.int .u8 0)), .int .i64 0, .int .u8 0] : Array Value).toList 8 = some ([.agg (List.replicate 32 (.lit (.int .u8 0))), .lit (.int .i64 0), .lit (.int .u8 0)], [], places) :=
  ⟨[], by kernel_rfl⟩

set_option maxRecDepth 100000 in
theorem lifted (os : Os) (started : os.Started) (H : Type) (enc : TypeId × Value → H) (F : Stop.Interp) :
    ReturnsInHanded {} Tryd.checked os 9 .any ((OpenSpec.ofChange Rows.identEventsSpec).preRow enc Tryd.prog Tryd.f9 Rows.identEventsRow.domain false Rows.identEventsRow.laid) (((OpenSpec.ofChange Rows.identEventsSpec).at F).post enc Tryd.prog Tryd.f9 false true false false) := by
  obtain ⟨places, hx⟩ := reads os enc
  refine returnsInHanded_of_row (C := Tryd.checked) (s := OpenSpec.ofChange Rows.identEventsSpec) own started (by kernel_rfl) Tryd.func9
    (witness_row_at (enc := enc) (C := Tryd.checked) false (laidWorld os) #[.agg (Array.replicate 32 (.int .u8 0)), .int .i64 0, .int .u8 0] rfl (by kernel_rfl) (by kernel_rfl) (by kernel_rfl)
      (OpenSpec.preRow_of_cond 8 hx (by kernel_rfl) (fun k hk => by cases hk) (by kernel_rfl) (laid_met os))) ?_
  intro W base args ds gs before hval hW _ _ _ hL _ _
  exact contract H enc W base args ds gs before hval hW hL

theorem said : Rows.IdentEventsSaid :=
  OpenClaim.holds_of_cond 9 Tryd.f9 rfl rfl rfl rfl rfl rfl rfl ⟨rfl, rfl, rfl, rfl, rfl⟩ rfl rfl rfl rfl rfl (by kernel_rfl) Tryd.func9 (by kernel_rfl)
    (of_decide_eq_true (by kernel_rfl)) (by unfold Func.isWrapper; first | (rw [if_pos (by decide +kernel)]; kernel_rfl) | (rw [if_neg (by decide +kernel)]; exact ⟨rfl, rfl⟩))
    (fun os started H enc _ F => by rw [OpenClaim.pre_eq_preRow]; exact lifted os started H enc F)

theorem plain (f : FuncId) (fn : Func) (hf : Tryd.pinned.checked.prog.funcNamed "introit/introitlaw11.IdentEvents" = some f) (hfn : Tryd.pinned.checked.prog.funcs[f]? = some fn) :
    false = Tryd.pinned.checked.prog.looks [] ∧ ∀ (j : Nat) t, fn.params[j]? = some t → Tryd.pinned.checked.prog.wantsStandIn t = false := by
  obtain rfl : f = 9 := Option.some.inj ((show Tryd.prog.funcNamed "introit/introitlaw11.IdentEvents" = some 9 by kernel_rfl).symm.trans hf) |>.symm
  obtain rfl : fn = Tryd.f9 := (Option.some.inj (Tryd.func9.symm.trans hfn)).symm
  refine ⟨by kernel_rfl, fun j t ht => ?_⟩
  have hall : Tryd.f9.params.toList.all (fun t => !(Tryd.pinned.checked.prog.wantsStandIn t)) = true := by kernel_rfl
  have := List.all_eq_true.1 hall t (List.mem_of_getElem? (by simpa using ht))
  simpa using this

end Go.Proofs.YtonmpbfddiflhaaDoor.identEvents
namespace Go.Proofs.YtonmpbfddiflhaaDoor
theorem identEvents_holds : Rows.IdentEventsCardSaid :=
  Claim7.holds_tied_plain_at .later [] _ _ _ _ identEvents.said (fun _ h => by cases h) (by kernel_rfl) (fun _ h => by cases h) identEvents_row_tie rfl ⟨rfl, rfl⟩ (by kernel_rfl) rfl identEvents.plain (by kernel_rfl)
end Go.Proofs.YtonmpbfddiflhaaDoor
