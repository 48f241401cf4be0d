/- Contracts of functions, and plain facts about what they compute. -/
import Derived.Test.YtonmpbfddiflhaaTx
set_option linter.unusedSimpArgs false
set_option linter.unusedVariables false
/- KeysKnown: by computing. -/
namespace Go.Proofs.Ytonmpbfddiflhaa
open Go.AM
def ky0 : FuncId → Option (List AV → Option AV) := tab [(26, (boolP serverB)), (27, (boolP keyIDB))]
theorem ky0_ok : (cfgP ky0).Ok := cfgOf_ok mixed fok (tab_ok ⟨prim_at Try.func26 (by kernel_rfl) rfl (boolP_of server_ok), prim_at Try.func27 (by kernel_rfl) rfl (boolP_of keyID_ok), trivial⟩)
theorem ky0_26 : (cfgP ky0).prim 26 = some (boolP serverB) := rfl
theorem ky0_27 : (cfgP ky0).prim 27 = some (boolP keyIDB) := rfl
theorem keysKnown_run : (callA (cfgP ky0) 5000 4 [] {}).map (·.1) = some (.v (.bool true)) := by kernel_rfl
end Go.Proofs.Ytonmpbfddiflhaa
