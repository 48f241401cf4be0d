/- Contracts of functions, and plain facts about what they compute. -/
import Derived.Test.YtonmpbfddiflhaaDoorIdc
set_option linter.unusedSimpArgs false
set_option linter.unusedVariables false
/- IdentKnown: by computing. -/
namespace Go.Proofs.YtonmpbfddiflhaaDoor
open Go.AM
def id9 : FuncId → Option (List AV → Option AV) := tab [(18, awakeP), (19, (avP userV)), (20, (avP roomV)), (21, (boolP serverB)), (22, (avP serverOfV)), (23, (boolQ 1099511627776 eventB)), (28, (boolP keyIDB)), (13, (putW 45 95)), (15, (getW 45 95))]
theorem id9_ok : (cfgP id9).Ok := cfgOf_ok mixed fok (tab_ok ⟨prim_at Tryd.func18 (by kernel_rfl) rfl (iawake_ok), prim_at Tryd.func19 (by kernel_rfl) rfl (avP_of user_ok), prim_at Tryd.func20 (by kernel_rfl) rfl (avP_of room_ok), prim_at Tryd.func21 (by kernel_rfl) rfl (boolP_of server_ok), prim_at Tryd.func22 (by kernel_rfl) rfl (avP_of serverOf_ok), prim_at Tryd.func23 (by kernel_rfl) rfl (boolQ_of event_ok), prim_at Tryd.func28 (by kernel_rfl) rfl (boolP_of keyID_ok), prim_at Tryd.func13 (by kernel_rfl) rfl ((fun _ _ h => putW_ok PutURL_ok h)), prim_at Tryd.func15 (by kernel_rfl) rfl ((fun _ _ h => getW_ok GetURL_ok h)), trivial⟩)
theorem id9_18 : (cfgP id9).prim 18 = some awakeP := rfl
theorem id9_19 : (cfgP id9).prim 19 = some (avP userV) := rfl
theorem id9_20 : (cfgP id9).prim 20 = some (avP roomV) := rfl
theorem id9_21 : (cfgP id9).prim 21 = some (boolP serverB) := rfl
theorem id9_22 : (cfgP id9).prim 22 = some (avP serverOfV) := rfl
theorem id9_23 : (cfgP id9).prim 23 = some (boolQ 1099511627776 eventB) := rfl
theorem id9_28 : (cfgP id9).prim 28 = some (boolP keyIDB) := rfl
theorem id9_13 : (cfgP id9).prim 13 = some (putW 45 95) := rfl
theorem id9_15 : (cfgP id9).prim 15 = some (getW 45 95) := rfl
theorem identKnown_run : (callA (cfgP id9) 5000 10 [] {}).map (·.1) = some (.v (.bool true)) := by kernel_rfl
end Go.Proofs.YtonmpbfddiflhaaDoor
