/- What functions come to, between heaps that are written out, by program. -/
import Derived.Test.YtapkhldfbdcblaaGreatDoorHdS1
import Derived.Test.YtapkhldfbdcblaaGreatDoorHdS2
import Derived.Test.YtapkhldfbdcblaaGreatDoorHdS3
import Derived.Test.YtapkhldfbdcblaaGreatDoorHdS4
import Derived.Test.YtapkhldfbdcblaaGreatDoorHdS5
import Derived.Test.YtapkhldfbdcblaaGreatDoorHdS6
import Derived.Test.YtapkhldfbdcblaaGreatDoorHdS7
import Derived.Test.YtapkhldfbdcblaaGreatDoorHdS8
set_option linter.unusedVariables false
set_option linter.unusedSimpArgs false
set_option linter.unusedSectionVars false
set_option linter.unnecessarySimpa false
namespace Go.Ax
open Go.Proofs W
set_option maxRecDepth 100000
set_option maxHeartbeats 16000000
noncomputable section
-- orchard/orchardlaw21.head: 4353 operations of its own
def HdSk73 : Chunk := { f := 6, args := [], nx := 3, pre := [], v := t, nx' := 72381, post := [] }
theorem HdSk73_run : runK Tryz.prog (orK (useK HdSk0) (orK (useK HdSk1) (orK (useK HdSk2) (orK (useK HdSk3) (orK (useK HdSk4) (orK (useK HdSk5) (orK (useK HdSk6) (orK (useK HdSk7) (orK (useK HdSk8) (orK (useK HdSk9) (orK (useK HdSk10) (orK (useK HdSk11) (orK (useK HdSk12) (orK (useK HdSk13) (orK (useK HdSk21) (orK (useK HdSk22) (orK (useK HdSk25) (orK (useK HdSk26) (orK (useK HdSk27) (orK (useK HdSk28) (orK (useK HdSk29) (orK (useK HdSk30) (orK (useK HdSk31) (orK (useK HdSk32) (orK (useK HdSk33) (orK (useK HdSk34) (orK (useK HdSk35) (orK (useK HdSk36) (orK (useK HdSk37) (orK (useK HdSk38) (orK (useK HdSk39) (orK (useK HdSk40) (orK (useK HdSk41) (orK (useK HdSk42) (orK (useK HdSk43) (orK (useK HdSk44) (orK (useK HdSk45) (orK (useK HdSk46) (orK (useK HdSk47) (orK (useK HdSk48) (orK (useK HdSk49) (orK (useK HdSk50) (orK (useK HdSk51) (orK (useK HdSk52) (orK (useK HdSk53) (orK (useK HdSk54) (orK (useK HdSk55) (orK (useK HdSk56) (orK (useK HdSk57) (orK (useK HdSk58) (orK (useK HdSk59) (orK (useK HdSk60) (orK (useK HdSk61) (orK (useK HdSk62) (orK (useK HdSk63) (orK (useK HdSk64) (orK (useK HdSk65) (orK (useK HdSk66) (orK (useK HdSk67) (orK (useK HdSk68) (orK (useK HdSk69) (orK (useK HdSk70) (orK (useK HdSk71) (orK (useK HdSk72) noHook)))))))))))))))))))))))))))))))))))))))))))))))))))))))))))))))) 60 HdSk73 = true := by decide +kernel
theorem HdSk73_ok : HdSk73.ok Tryz.prog := runK_ok follows (orK_ok (useK_ok HdSk0_ok) (orK_ok (useK_ok HdSk1_ok) (orK_ok (useK_ok HdSk2_ok) (orK_ok (useK_ok HdSk3_ok) (orK_ok (useK_ok HdSk4_ok) (orK_ok (useK_ok HdSk5_ok) (orK_ok (useK_ok HdSk6_ok) (orK_ok (useK_ok HdSk7_ok) (orK_ok (useK_ok HdSk8_ok) (orK_ok (useK_ok HdSk9_ok) (orK_ok (useK_ok HdSk10_ok) (orK_ok (useK_ok HdSk11_ok) (orK_ok (useK_ok HdSk12_ok) (orK_ok (useK_ok HdSk13_ok) (orK_ok (useK_ok HdSk21_ok) (orK_ok (useK_ok HdSk22_ok) (orK_ok (useK_ok HdSk25_ok) (orK_ok (useK_ok HdSk26_ok) (orK_ok (useK_ok HdSk27_ok) (orK_ok (useK_ok HdSk28_ok) (orK_ok (useK_ok HdSk29_ok) (orK_ok (useK_ok HdSk30_ok) (orK_ok (useK_ok HdSk31_ok) (orK_ok (useK_ok HdSk32_ok) (orK_ok (useK_ok HdSk33_ok) (orK_ok (useK_ok HdSk34_ok) (orK_ok (useK_ok HdSk35_ok) (orK_ok (useK_ok HdSk36_ok) (orK_ok (useK_ok HdSk37_ok) (orK_ok (useK_ok HdSk38_ok) (orK_ok (useK_ok HdSk39_ok) (orK_ok (useK_ok HdSk40_ok) (orK_ok (useK_ok HdSk41_ok) (orK_ok (useK_ok HdSk42_ok) (orK_ok (useK_ok HdSk43_ok) (orK_ok (useK_ok HdSk44_ok) (orK_ok (useK_ok HdSk45_ok) (orK_ok (useK_ok HdSk46_ok) (orK_ok (useK_ok HdSk47_ok) (orK_ok (useK_ok HdSk48_ok) (orK_ok (useK_ok HdSk49_ok) (orK_ok (useK_ok HdSk50_ok) (orK_ok (useK_ok HdSk51_ok) (orK_ok (useK_ok HdSk52_ok) (orK_ok (useK_ok HdSk53_ok) (orK_ok (useK_ok HdSk54_ok) (orK_ok (useK_ok HdSk55_ok) (orK_ok (useK_ok HdSk56_ok) (orK_ok (useK_ok HdSk57_ok) (orK_ok (useK_ok HdSk58_ok) (orK_ok (useK_ok HdSk59_ok) (orK_ok (useK_ok HdSk60_ok) (orK_ok (useK_ok HdSk61_ok) (orK_ok (useK_ok HdSk62_ok) (orK_ok (useK_ok HdSk63_ok) (orK_ok (useK_ok HdSk64_ok) (orK_ok (useK_ok HdSk65_ok) (orK_ok (useK_ok HdSk66_ok) (orK_ok (useK_ok HdSk67_ok) (orK_ok (useK_ok HdSk68_ok) (orK_ok (useK_ok HdSk69_ok) (orK_ok (useK_ok HdSk70_ok) (orK_ok (useK_ok HdSk71_ok) (orK_ok (useK_ok HdSk72_ok) noHook_ok)))))))))))))))))))))))))))))))))))))))))))))))))))))))))))))))) HdSk73_run
end
end Go.Ax
