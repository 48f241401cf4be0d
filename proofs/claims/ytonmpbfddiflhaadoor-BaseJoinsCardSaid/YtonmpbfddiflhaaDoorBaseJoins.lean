/- BaseJoins, the law of chapter 5 of bytes behind bytes whose number is a multiple of three, returns true at every call, with the two alphabets laid as the program's text lays them. -/
import Derived.Test.YtonmpbfddiflhaaDoorCards
import Derived.Test.YtonmpbfddiflhaaDoorTie
import Derived.Test.YtonmpbfddiflhaaDoorB64
import Derived.WalkKit
import Derived.ProofKit
import Derived.OpenShut
import Derived.Deep.DeepHandedRow
set_option linter.unusedVariables false
set_option linter.unusedSimpArgs false
namespace Go.Proofs.YtonmpbfddiflhaaDoor.baseJoins
open Go.ChangeShapes Go.WideShapes Go.ChangeAt Go.RowKit Go.AM

theorem own : ownKnob Tryd.prog.godebug = none := by kernel_rfl
theorem laidOut : laidOutB Tryd.prog = true := by kernel_rfl
theorem closed : closedT Tryd.prog [22, 5] = true := by kernel_rfl
theorem gl_ok : LaidOks Tryd.prog Rows.baseJoinsRow.laid gls := ⟨laidOk 0 3 (xs := [.v (.int .u8 43), .v (.int .u8 47)]) (by kernel_rfl) rfl (.inl rfl), laidOk 1 3 (xs := [.v (.int .u8 45), .v (.int .u8 95)]) (by kernel_rfl) rfl (.inl rfl), trivial⟩

theorem contract (H : Type) (enc : TypeId × Value → H) (W : World) (base : Nat) (args : Array Value) (ds gs : List (DataW H)) (before : List MemPlace)
    (hval : ∀ (j : Nat) t v, Tryd.f3.params[j]? = some t → args[j]? = some v → Value.okWide Tryd.prog W .any base t v)
    (hW : DataW.Whole enc Tryd.prog Tryd.f3.params.toList Rows.baseJoinsSpec.vars false W args.toList ds gs before) (hL : laidMetH Tryd.prog Rows.baseJoinsRow.laid W) :
    Calls Tryd.prog 3 args W fun e W' => ∃ v, e = .returned v ∧ Rows.baseJoinsSpec.post enc Tryd.prog Tryd.f3 false true false false W args v W' := by
  refine law_contract (C := cfgP prim4) (P := Tryd.prog) rfl (S := [22, 5]) closed laidOut (fn := Tryd.f3) (s := Rows.baseJoinsSpec) (tb := 4) (fun ds h => ?_) rfl rfl (by kernel_rfl) (by kernel_rfl) ?_ hval hW (hgl_of hL rfl gls gl_ok)
  · rw [show Tryd.f3.params.size = 2 from by rw [Tryd.params3]; rfl] at h
    match ds, h with
    | [_, _], _ => rfl
  · intro xs h
    have h' : Args Tryd.prog [22, 22] xs := by
      have e : Tryd.f3.params.toList = [22, 22] := by rw [Tryd.params3]
      rw [e] at h
      exact h
    obtain ⟨x, ys, rfl, h1, y, zs, rfl, h2, rfl⟩ := h'
    obtain ⟨a, a1, a2, _⟩ := arg_bytes (e := 5) (by kernel_rfl) (by kernel_rfl) h1
    obtain ⟨b, b1, b2, _⟩ := arg_bytes (e := 5) (by kernel_rfl) (by kernel_rfl) h2
    exact joins_core x y a b a1 a2 b1 b2

noncomputable def laidWorld (os : Os) : World :=
  { World.holding Tryd.prog os ⟨#[], #[], []⟩ with heap := layAt (layAt ((World.holding Tryd.prog os ⟨#[], #[], []⟩).heap) 0 #[.int .u8 43, .int .u8 47]) 1 #[.int .u8 45, .int .u8 95] }
theorem laid_met (os : Os) : laidMet Tryd.prog Rows.baseJoinsRow.laid ((laidWorld os).forCall (fun _ _ => 0) ⟨#[], #[.slice none 0 0, .slice none 0 0], []⟩).memory :=
  laidMet_of_run' 8 (by kernel_rfl) (by kernel_rfl)
theorem reads (os : Os) {H : Type} (enc : TypeId × Value → H) : ∃ places, DataW.whole enc Tryd.prog ((laidWorld os).forCall (fun _ _ => 0) ⟨#[], #[.slice none 0 0, .slice none 0 0], []⟩).memory Tryd.f3.params.toList Rows.baseJoinsSpec.vars false (#[.slice none 0 0, .slice none 0 0] : Array Value).toList 8 = some ([.nil, .nil], [], places) :=
  ⟨[], by kernel_rfl⟩

set_option maxRecDepth 100000 in
theorem lifted (os : Os) (started : os.Started) (H : Type) (enc : TypeId × Value → H) (F : Stop.Interp) :
    ReturnsInHanded {} Tryd.checked os 3 .any ((OpenSpec.ofChange Rows.baseJoinsSpec).preRow enc Tryd.prog Tryd.f3 Rows.baseJoinsRow.domain false Rows.baseJoinsRow.laid) (((OpenSpec.ofChange Rows.baseJoinsSpec).at F).post enc Tryd.prog Tryd.f3 false true false false) := by
  obtain ⟨places, hx⟩ := reads os enc
  refine returnsInHanded_of_row (C := Tryd.checked) (s := OpenSpec.ofChange Rows.baseJoinsSpec) own started (by kernel_rfl) Tryd.func3
    (witness_row_at (enc := enc) (C := Tryd.checked) false (laidWorld os) #[.slice none 0 0, .slice none 0 0] rfl (by kernel_rfl) (by kernel_rfl) (by kernel_rfl)
      (OpenSpec.preRow_of_cond 8 hx (by kernel_rfl) (fun k hk => by cases hk) (by kernel_rfl) (laid_met os))) ?_
  intro W base args ds gs before hval hW _ _ _ hL _ _
  exact contract H enc W base args ds gs before hval hW hL

theorem said : Rows.BaseJoinsSaid :=
  OpenClaim.holds_of_cond 3 Tryd.f3 rfl rfl rfl rfl rfl rfl rfl ⟨rfl, rfl, rfl, rfl, rfl⟩ rfl rfl rfl rfl rfl (by kernel_rfl) Tryd.func3 (by kernel_rfl)
    (of_decide_eq_true (by kernel_rfl)) (by unfold Func.isWrapper; first | (rw [if_pos (by decide +kernel)]; kernel_rfl) | (rw [if_neg (by decide +kernel)]; exact ⟨rfl, rfl⟩))
    (fun os started H enc _ F => by rw [OpenClaim.pre_eq_preRow]; exact lifted os started H enc F)

theorem plain (f : FuncId) (fn : Func) (hf : Tryd.pinned.checked.prog.funcNamed "introit/introitlaw5.BaseJoins" = some f) (hfn : Tryd.pinned.checked.prog.funcs[f]? = some fn) :
    false = Tryd.pinned.checked.prog.looks [] ∧ ∀ (j : Nat) t, fn.params[j]? = some t → Tryd.pinned.checked.prog.wantsStandIn t = false := by
  obtain rfl : f = 3 := Option.some.inj ((show Tryd.prog.funcNamed "introit/introitlaw5.BaseJoins" = some 3 by kernel_rfl).symm.trans hf) |>.symm
  obtain rfl : fn = Tryd.f3 := (Option.some.inj (Tryd.func3.symm.trans hfn)).symm
  refine ⟨by kernel_rfl, fun j t ht => ?_⟩
  have hall : Tryd.f3.params.toList.all (fun t => !(Tryd.pinned.checked.prog.wantsStandIn t)) = true := by kernel_rfl
  have := List.all_eq_true.1 hall t (List.mem_of_getElem? (by simpa using ht))
  simpa using this

end Go.Proofs.YtonmpbfddiflhaaDoor.baseJoins
namespace Go.Proofs.YtonmpbfddiflhaaDoor
theorem baseJoins_holds : Rows.BaseJoinsCardSaid :=
  Claim7.holds_tied_plain_at .later [] _ _ _ _ baseJoins.said (fun _ h => by cases h) (by kernel_rfl) (fun _ h => by cases h) baseJoins_row_tie rfl ⟨rfl, rfl⟩ (by kernel_rfl) rfl baseJoins.plain (by kernel_rfl)
end Go.Proofs.YtonmpbfddiflhaaDoor
