/- ClusterNew: the rest of the body, for each two numbers. -/
import Derived.Test.YtdoeocanfmkaeaaGreatDoorLawC0
set_option linter.unusedVariables false
set_option linter.unusedSimpArgs false
set_option linter.unusedSectionVars false
set_option linter.unnecessarySimpa false
namespace Go.Ax
open Go.Proofs W
set_option maxRecDepth 100000
set_option maxHeartbeats 16000000
section
theorem run0a : ([0, 1, 2, 3].all fun r => (List.range 32).all fun c => okC noHook r c) = true := by decide +kernel
theorem run0b : ([4, 6, 8, 10].all fun r => (List.range 32).all fun c => okC noHook r c) = true := by decide +kernel
theorem run0c : ([11, 12, 13, 14, 15].all fun r => (List.range 32).all fun c => okC noHook r c) = true := by decide +kernel
end
end Go.Ax

namespace Go.Ax
open Go.Proofs W
set_option maxRecDepth 100000
set_option maxHeartbeats 16000000
section
theorem run3o : ([0, 1, 2, 3, 21, 22, 23, 24, 25, 26, 27, 28, 29, 30, 31].all fun c => okC hk3 5 c) = true := by decide +kernel
theorem run3a : ([4, 5, 6, 7, 8, 9].all fun c => okC hk3 5 c) = true := by decide +kernel
theorem run3b : ([10, 11, 12, 13, 14, 15].all fun c => okC hk3 5 c) = true := by decide +kernel
theorem run3c : ([16, 17, 18, 19, 20].all fun c => okC hk3 5 c) = true := by decide +kernel
end
end Go.Ax

namespace Go.Ax
open Go.Proofs W
set_option maxRecDepth 100000
set_option maxHeartbeats 16000000
section
theorem run5o : ([0, 1, 2, 3, 21, 22, 23, 24, 25, 26, 27, 28, 29, 30, 31].all fun c => okC hk5 7 c) = true := by decide +kernel
theorem run5a : ([4, 5, 6, 7, 8, 9].all fun c => okC hk5 7 c) = true := by decide +kernel
theorem run5b : ([10, 11, 12, 13, 14, 15].all fun c => okC hk5 7 c) = true := by decide +kernel
theorem run5c : ([16, 17, 18, 19, 20].all fun c => okC hk5 7 c) = true := by decide +kernel
end
end Go.Ax

namespace Go.Ax
open Go.Proofs W
set_option maxRecDepth 100000
set_option maxHeartbeats 16000000
section
theorem run7o : ([0, 1, 2, 3, 21, 22, 23, 24, 25, 26, 27, 28, 29, 30, 31].all fun c => okC hk7 9 c) = true := by decide +kernel
theorem run7a : ([4, 5, 6, 7, 8, 9].all fun c => okC hk7 9 c) = true := by decide +kernel
theorem run7b : ([10, 11, 12, 13, 14, 15].all fun c => okC hk7 9 c) = true := by decide +kernel
theorem run7c : ([16, 17, 18, 19, 20].all fun c => okC hk7 9 c) = true := by decide +kernel
end
end Go.Ax
