/- PART OF THE PROOF OF KindBudget's CARD. The law's look at fixed systems answers true. -/
import Derived.Test.YtkbdclogklaeaaaGreatDoorProg
import Derived.Test.YtkbdclogklaeaaaGreatDoorEvE
set_option linter.unusedSimpArgs false
set_option linter.unusedVariables false

namespace Go.Ev
open Go
theorem alive_run : isTrue (evFn Proofs.Tryz.prog 100000 100 (.fn 4) [] .lf 0) = true := by decide +kernel
theorem mixed : Proofs.Tryz.prog.follows .mixedOrders = true := by decide +kernel
end Go.Ev
