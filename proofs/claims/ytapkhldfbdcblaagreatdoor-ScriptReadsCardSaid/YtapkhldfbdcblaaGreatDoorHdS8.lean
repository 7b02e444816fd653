/- What functions come to, between heaps that are written out, by program. -/
import Derived.Test.YtapkhldfbdcblaaGreatDoorHdS1
import Derived.Test.YtapkhldfbdcblaaGreatDoorHdS2
import Derived.Test.YtapkhldfbdcblaaGreatDoorHdS3
import Derived.Test.YtapkhldfbdcblaaGreatDoorHdS4
import Derived.Test.YtapkhldfbdcblaaGreatDoorHdS5
import Derived.Test.YtapkhldfbdcblaaGreatDoorHdS6
import Derived.Test.YtapkhldfbdcblaaGreatDoorHdS7
set_option linter.unusedVariables false
set_option linter.unusedSimpArgs false
set_option linter.unusedSectionVars false
set_option linter.unnecessarySimpa false
namespace Go.Ax
open Go.Proofs W
set_option maxRecDepth 100000
set_option maxHeartbeats 16000000
noncomputable section
-- (*orchard/cluster.Cluster).Round: 5193 operations of its own
def HdSk25 : Chunk := { f := 244, args := [(p 4 0)], nx := 18449, pre := HdSl33, v := (.tuple []), nx' := 20545, post := HdSl38 }
theorem HdSk25_run : runK Tryz.prog (orK (useK HdSk23) (orK (useK HdSk24) noHook)) 60 HdSk25 = true := by decide +kernel
theorem HdSk25_ok : HdSk25.ok Tryz.prog := runK_ok follows (orK_ok (useK_ok HdSk23_ok) (orK_ok (useK_ok HdSk24_ok) noHook_ok)) HdSk25_run
end
end Go.Ax
