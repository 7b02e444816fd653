/- What functions come to, between heaps that are written out, by program. -/
import Derived.Test.YtdoeocanfmkaeaaGreatDoorHdB1
import Derived.Test.YtdoeocanfmkaeaaGreatDoorHdB2
import Derived.Test.YtdoeocanfmkaeaaGreatDoorHdB3
import Derived.Test.YtdoeocanfmkaeaaGreatDoorHdB4
import Derived.Test.YtdoeocanfmkaeaaGreatDoorHdB5
import Derived.Test.YtdoeocanfmkaeaaGreatDoorHdB6
set_option linter.unusedVariables false
set_option linter.unusedSimpArgs false
set_option linter.unusedSectionVars false
set_option linter.unnecessarySimpa false
namespace Go.Ax
open Go.Proofs W
set_option maxRecDepth 100000
set_option maxHeartbeats 16000000
noncomputable section
-- (*orchard/cluster.Cluster).Round: 5265 operations of its own
def HdBk21 : Chunk := { f := 40, args := [(p 1 0)], nx := 12843, pre := HdBl17, v := (.tuple []), nx' := 18060, post := HdBl32 }
theorem HdBk21_run : runK Tryz.prog (orK (useK HdBk14) (orK (useK HdBk15) (orK (useK HdBk16) (orK (useK HdBk17) (orK (useK HdBk18) (orK (useK HdBk19) (orK (useK HdBk20) noHook))))))) 60 HdBk21 = true := by decide +kernel
theorem HdBk21_ok : HdBk21.ok Tryz.prog := runK_ok follows (orK_ok (useK_ok HdBk14_ok) (orK_ok (useK_ok HdBk15_ok) (orK_ok (useK_ok HdBk16_ok) (orK_ok (useK_ok HdBk17_ok) (orK_ok (useK_ok HdBk18_ok) (orK_ok (useK_ok HdBk19_ok) (orK_ok (useK_ok HdBk20_ok) noHook_ok))))))) HdBk21_run
end
end Go.Ax

namespace Go.Ax
open Go.Proofs W
set_option maxRecDepth 100000
set_option maxHeartbeats 16000000
noncomputable section
-- (*orchard/cluster.Cluster).Round: 5193 operations of its own
def HdBk25 : Chunk := { f := 40, args := [(p 1 0)], nx := 18430, pre := HdBl33, v := (.tuple []), nx' := 20526, post := HdBl38 }
theorem HdBk25_run : runK Tryz.prog (orK (useK HdBk23) (orK (useK HdBk24) noHook)) 60 HdBk25 = true := by decide +kernel
theorem HdBk25_ok : HdBk25.ok Tryz.prog := runK_ok follows (orK_ok (useK_ok HdBk23_ok) (orK_ok (useK_ok HdBk24_ok) noHook_ok)) HdBk25_run
end
end Go.Ax

namespace Go.Ax
open Go.Proofs W
set_option maxRecDepth 100000
set_option maxHeartbeats 16000000
noncomputable section
-- orchard/orchardlaw19.head: 4076 operations of its own
def HdBk73 : Chunk := { f := 5, args := [], nx := 1, pre := [], v := t, nx' := 72055, post := [] }
theorem HdBk73_run : runK Tryz.prog (orK (useK HdBk0) (orK (useK HdBk1) (orK (useK HdBk2) (orK (useK HdBk3) (orK (useK HdBk4) (orK (useK HdBk5) (orK (useK HdBk6) (orK (useK HdBk7) (orK (useK HdBk8) (orK (useK HdBk9) (orK (useK HdBk10) (orK (useK HdBk11) (orK (useK HdBk12) (orK (useK HdBk13) (orK (useK HdBk21) (orK (useK HdBk22) (orK (useK HdBk25) (orK (useK HdBk26) (orK (useK HdBk27) (orK (useK HdBk28) (orK (useK HdBk29) (orK (useK HdBk30) (orK (useK HdBk31) (orK (useK HdBk32) (orK (useK HdBk33) (orK (useK HdBk34) (orK (useK HdBk35) (orK (useK HdBk36) (orK (useK HdBk37) (orK (useK HdBk38) (orK (useK HdBk39) (orK (useK HdBk40) (orK (useK HdBk41) (orK (useK HdBk42) (orK (useK HdBk43) (orK (useK HdBk44) (orK (useK HdBk45) (orK (useK HdBk46) (orK (useK HdBk47) (orK (useK HdBk48) (orK (useK HdBk49) (orK (useK HdBk50) (orK (useK HdBk51) (orK (useK HdBk52) (orK (useK HdBk53) (orK (useK HdBk54) (orK (useK HdBk55) (orK (useK HdBk56) (orK (useK HdBk57) (orK (useK HdBk58) (orK (useK HdBk59) (orK (useK HdBk60) (orK (useK HdBk61) (orK (useK HdBk62) (orK (useK HdBk63) (orK (useK HdBk64) (orK (useK HdBk65) (orK (useK HdBk66) (orK (useK HdBk67) (orK (useK HdBk68) (orK (useK HdBk69) (orK (useK HdBk70) (orK (useK HdBk71) (orK (useK HdBk72) noHook)))))))))))))))))))))))))))))))))))))))))))))))))))))))))))))))) 60 HdBk73 = true := by decide +kernel
theorem HdBk73_ok : HdBk73.ok Tryz.prog := runK_ok follows (orK_ok (useK_ok HdBk0_ok) (orK_ok (useK_ok HdBk1_ok) (orK_ok (useK_ok HdBk2_ok) (orK_ok (useK_ok HdBk3_ok) (orK_ok (useK_ok HdBk4_ok) (orK_ok (useK_ok HdBk5_ok) (orK_ok (useK_ok HdBk6_ok) (orK_ok (useK_ok HdBk7_ok) (orK_ok (useK_ok HdBk8_ok) (orK_ok (useK_ok HdBk9_ok) (orK_ok (useK_ok HdBk10_ok) (orK_ok (useK_ok HdBk11_ok) (orK_ok (useK_ok HdBk12_ok) (orK_ok (useK_ok HdBk13_ok) (orK_ok (useK_ok HdBk21_ok) (orK_ok (useK_ok HdBk22_ok) (orK_ok (useK_ok HdBk25_ok) (orK_ok (useK_ok HdBk26_ok) (orK_ok (useK_ok HdBk27_ok) (orK_ok (useK_ok HdBk28_ok) (orK_ok (useK_ok HdBk29_ok) (orK_ok (useK_ok HdBk30_ok) (orK_ok (useK_ok HdBk31_ok) (orK_ok (useK_ok HdBk32_ok) (orK_ok (useK_ok HdBk33_ok) (orK_ok (useK_ok HdBk34_ok) (orK_ok (useK_ok HdBk35_ok) (orK_ok (useK_ok HdBk36_ok) (orK_ok (useK_ok HdBk37_ok) (orK_ok (useK_ok HdBk38_ok) (orK_ok (useK_ok HdBk39_ok) (orK_ok (useK_ok HdBk40_ok) (orK_ok (useK_ok HdBk41_ok) (orK_ok (useK_ok HdBk42_ok) (orK_ok (useK_ok HdBk43_ok) (orK_ok (useK_ok HdBk44_ok) (orK_ok (useK_ok HdBk45_ok) (orK_ok (useK_ok HdBk46_ok) (orK_ok (useK_ok HdBk47_ok) (orK_ok (useK_ok HdBk48_ok) (orK_ok (useK_ok HdBk49_ok) (orK_ok (useK_ok HdBk50_ok) (orK_ok (useK_ok HdBk51_ok) (orK_ok (useK_ok HdBk52_ok) (orK_ok (useK_ok HdBk53_ok) (orK_ok (useK_ok HdBk54_ok) (orK_ok (useK_ok HdBk55_ok) (orK_ok (useK_ok HdBk56_ok) (orK_ok (useK_ok HdBk57_ok) (orK_ok (useK_ok HdBk58_ok) (orK_ok (useK_ok HdBk59_ok) (orK_ok (useK_ok HdBk60_ok) (orK_ok (useK_ok HdBk61_ok) (orK_ok (useK_ok HdBk62_ok) (orK_ok (useK_ok HdBk63_ok) (orK_ok (useK_ok HdBk64_ok) (orK_ok (useK_ok HdBk65_ok) (orK_ok (useK_ok HdBk66_ok) (orK_ok (useK_ok HdBk67_ok) (orK_ok (useK_ok HdBk68_ok) (orK_ok (useK_ok HdBk69_ok) (orK_ok (useK_ok HdBk70_ok) (orK_ok (useK_ok HdBk71_ok) (orK_ok (useK_ok HdBk72_ok) noHook_ok)))))))))))))))))))))))))))))))))))))))))))))))))))))))))))))))) HdBk73_run
end
end Go.Ax
