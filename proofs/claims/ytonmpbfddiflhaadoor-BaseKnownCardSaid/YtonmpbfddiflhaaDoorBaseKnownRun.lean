import Derived.Test.YtonmpbfddiflhaaDoorAmC
import Derived.Test.YtonmpbfddiflhaaDoorProg
import Derived.KernelRfl
namespace Go.Proofs.YtonmpbfddiflhaaDoor.baseKnown
open Go.AM
def gls : List (Nat × AV) := [(0, .agg [.v (.int .u8 43), .v (.int .u8 47)]), (1, .agg [.v (.int .u8 45), .v (.int .u8 95)])]
noncomputable def cfg : Cfg := cfgOf Tryd.prog (fun f => f < 57) (glOf gls) (fun _ => true) (fun _ _ => true) (fun _ => none)
theorem fok : funcsOk Tryd.prog (fun f => f < 57) = true := by kernel_rfl
theorem mixed : Tryd.prog.follows .mixedOrders = true := by kernel_rfl
theorem cok : cfg.Ok := cfgOf_ok mixed fok (fun _ _ h => by cases h)
theorem run : (callA cfg 5000 4 [] {}).map (·.1) = some (.v (.bool true)) := by kernel_rfl

end Go.Proofs.YtonmpbfddiflhaaDoor.baseKnown
