/- What functions come to, from what they are handed, by program. -/
import Derived.Test.YtdoeocanfmkaeaaGreatDoorCnO0
set_option linter.unusedVariables false
set_option linter.unusedSimpArgs false
set_option linter.unusedSectionVars false
set_option linter.unnecessarySimpa false
namespace Go.Ax
open Go.Proofs W
set_option maxRecDepth 100000
set_option maxHeartbeats 16000000
noncomputable section
theorem CnOm0_run : runK Tryz.prog noHook 60 CnOm0 = true := by decide +kernel
theorem CnOm0_ok : CnOm0.ok Tryz.prog := runK_ok follows noHook_ok CnOm0_run
theorem CnOm0_fit : CnOm0.fit = true := by decide +kernel
theorem CnOm1_run : runK Tryz.prog noHook 60 CnOm1 = true := by decide +kernel
theorem CnOm1_ok : CnOm1.ok Tryz.prog := runK_ok follows noHook_ok CnOm1_run
theorem CnOm1_fit : CnOm1.fit = true := by decide +kernel
theorem CnOm2_run : runK Tryz.prog noHook 60 CnOm2 = true := by decide +kernel
theorem CnOm2_ok : CnOm2.ok Tryz.prog := runK_ok follows noHook_ok CnOm2_run
theorem CnOm2_fit : CnOm2.fit = true := by decide +kernel
theorem CnOm3_run : runK Tryz.prog noHook 60 CnOm3 = true := by decide +kernel
theorem CnOm3_ok : CnOm3.ok Tryz.prog := runK_ok follows noHook_ok CnOm3_run
theorem CnOm3_fit : CnOm3.fit = true := by decide +kernel
theorem CnOm4_run : runK Tryz.prog noHook 60 CnOm4 = true := by decide +kernel
theorem CnOm4_ok : CnOm4.ok Tryz.prog := runK_ok follows noHook_ok CnOm4_run
theorem CnOm4_fit : CnOm4.fit = true := by decide +kernel
theorem CnOm5_run : runK Tryz.prog noHook 60 CnOm5 = true := by decide +kernel
theorem CnOm5_ok : CnOm5.ok Tryz.prog := runK_ok follows noHook_ok CnOm5_run
theorem CnOm5_fit : CnOm5.fit = true := by decide +kernel
theorem CnOm6_run : runK Tryz.prog noHook 60 CnOm6 = true := by decide +kernel
theorem CnOm6_ok : CnOm6.ok Tryz.prog := runK_ok follows noHook_ok CnOm6_run
theorem CnOm6_fit : CnOm6.fit = true := by decide +kernel
end
end Go.Ax
