/- Contracts of functions, and plain facts about what they compute. -/
import Derived.Test.YtjejeijldllloaaDoorWd
import Derived.Test.YtjejeijldllloaaDoorAmD
set_option linter.unusedSimpArgs false
set_option linter.unusedVariables false
/- Chapter 2: ValueKnown: by computing. -/
namespace Go.Proofs.YtjejeijldllloaaDoor
open Go.AM
theorem valueKnown_run : (callA (cfgP aw0) 5000 13 [] {}).map (·.1) = some (.v (.bool true)) := by kernel_rfl
end Go.Proofs.YtjejeijldllloaaDoor
