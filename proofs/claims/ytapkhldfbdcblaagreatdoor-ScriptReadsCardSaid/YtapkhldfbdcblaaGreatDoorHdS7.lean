/- What functions come to, between heaps that are written out, by program. -/
import Derived.Test.YtapkhldfbdcblaaGreatDoorHdS1
import Derived.Test.YtapkhldfbdcblaaGreatDoorHdS2
import Derived.Test.YtapkhldfbdcblaaGreatDoorHdS3
import Derived.Test.YtapkhldfbdcblaaGreatDoorHdS4
import Derived.Test.YtapkhldfbdcblaaGreatDoorHdS5
import Derived.Test.YtapkhldfbdcblaaGreatDoorHdS6
set_option linter.unusedVariables false
set_option linter.unusedSimpArgs false
set_option linter.unusedSectionVars false
set_option linter.unnecessarySimpa false
namespace Go.Ax
open Go.Proofs W
set_option maxRecDepth 100000
set_option maxHeartbeats 16000000
noncomputable section
-- (*orchard/cluster.Cluster).Round: 5265 operations of its own
def HdSk21 : Chunk := { f := 244, args := [(p 4 0)], nx := 12862, pre := HdSl17, v := (.tuple []), nx' := 18079, post := HdSl32 }
theorem HdSk21_run : runK Tryz.prog (orK (useK HdSk14) (orK (useK HdSk15) (orK (useK HdSk16) (orK (useK HdSk17) (orK (useK HdSk18) (orK (useK HdSk19) (orK (useK HdSk20) noHook))))))) 60 HdSk21 = true := by decide +kernel
theorem HdSk21_ok : HdSk21.ok Tryz.prog := runK_ok follows (orK_ok (useK_ok HdSk14_ok) (orK_ok (useK_ok HdSk15_ok) (orK_ok (useK_ok HdSk16_ok) (orK_ok (useK_ok HdSk17_ok) (orK_ok (useK_ok HdSk18_ok) (orK_ok (useK_ok HdSk19_ok) (orK_ok (useK_ok HdSk20_ok) noHook_ok))))))) HdSk21_run
end
end Go.Ax
