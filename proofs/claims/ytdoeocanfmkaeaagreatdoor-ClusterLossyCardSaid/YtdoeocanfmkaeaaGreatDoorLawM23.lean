/- ClusterLossy: the rest of the body. -/
import Derived.Test.YtdoeocanfmkaeaaGreatDoorLawL0
set_option linter.unusedVariables false
set_option linter.unusedSimpArgs false
set_option linter.unusedSectionVars false
set_option linter.unnecessarySimpa false
namespace Go.Ax
open Go.Proofs Go.RowKit W
set_option maxRecDepth 100000
set_option maxHeartbeats 16000000
section
theorem okL4 : okL 4 = true := by decide +kernel
theorem okL5 : okL 5 = true := by decide +kernel
end
end Go.Ax

namespace Go.Ax
open Go.Proofs Go.RowKit W
set_option maxRecDepth 100000
set_option maxHeartbeats 16000000
section
theorem okL6 : okL 6 = true := by decide +kernel
theorem okL7 : okL 7 = true := by decide +kernel
end
end Go.Ax
