/- The program is alive: two bridges side by side. -/
import Derived.Test.YtljecfgfbebjiaaKd
import Derived.KernelRfl
set_option linter.unusedVariables false
open Go Go.RX
namespace Go.RX
theorem alive16 : law16_alive = some true := by kernel_rfl
end Go.RX
