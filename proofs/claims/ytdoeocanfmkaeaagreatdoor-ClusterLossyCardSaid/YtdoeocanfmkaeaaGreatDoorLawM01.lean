/- ClusterLossy: the rest of the body. -/
import Derived.Test.YtdoeocanfmkaeaaGreatDoorLawL0
set_option linter.unusedVariables false
set_option linter.unusedSimpArgs false
set_option linter.unusedSectionVars false
set_option linter.unnecessarySimpa false
namespace Go.Ax
open Go.Proofs Go.RowKit W
set_option maxRecDepth 100000
set_option maxHeartbeats 16000000
section
theorem okL0 : okL 0 = true := by decide +kernel
theorem okL1 : okL 1 = true := by decide +kernel
end
end Go.Ax

namespace Go.Ax
open Go.Proofs Go.RowKit W
set_option maxRecDepth 100000
set_option maxHeartbeats 16000000
section
theorem okL2 : okL 2 = true := by decide +kernel
theorem okL3 : okL 3 = true := by decide +kernel
end
end Go.Ax
