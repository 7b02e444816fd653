/- What functions come to, from what they are handed, by program. -/
import Derived.Test.YtdoeocanfmkaeaaGreatDoorCnO0
set_option linter.unusedVariables false
set_option linter.unusedSimpArgs false
set_option linter.unusedSectionVars false
set_option linter.unnecessarySimpa false
namespace Go.Ax
open Go.Proofs W
set_option maxRecDepth 100000
set_option maxHeartbeats 16000000
noncomputable section
theorem CnOm14_run : runK Tryz.prog noHook 60 CnOm14 = true := by decide +kernel
theorem CnOm14_ok : CnOm14.ok Tryz.prog := runK_ok follows noHook_ok CnOm14_run
theorem CnOm14_fit : CnOm14.fit = true := by decide +kernel
theorem CnOm15_run : runK Tryz.prog noHook 60 CnOm15 = true := by decide +kernel
theorem CnOm15_ok : CnOm15.ok Tryz.prog := runK_ok follows noHook_ok CnOm15_run
theorem CnOm15_fit : CnOm15.fit = true := by decide +kernel
theorem CnOm16_run : runK Tryz.prog noHook 60 CnOm16 = true := by decide +kernel
theorem CnOm16_ok : CnOm16.ok Tryz.prog := runK_ok follows noHook_ok CnOm16_run
theorem CnOm16_fit : CnOm16.fit = true := by decide +kernel
theorem CnOm17_run : runK Tryz.prog noHook 60 CnOm17 = true := by decide +kernel
theorem CnOm17_ok : CnOm17.ok Tryz.prog := runK_ok follows noHook_ok CnOm17_run
theorem CnOm17_fit : CnOm17.fit = true := by decide +kernel
theorem CnOm18_run : runK Tryz.prog noHook 60 CnOm18 = true := by decide +kernel
theorem CnOm18_ok : CnOm18.ok Tryz.prog := runK_ok follows noHook_ok CnOm18_run
theorem CnOm18_fit : CnOm18.fit = true := by decide +kernel
theorem CnOm19_run : runK Tryz.prog noHook 60 CnOm19 = true := by decide +kernel
theorem CnOm19_ok : CnOm19.ok Tryz.prog := runK_ok follows noHook_ok CnOm19_run
theorem CnOm19_fit : CnOm19.fit = true := by decide +kernel
theorem CnOm20_run : runK Tryz.prog noHook 60 CnOm20 = true := by decide +kernel
theorem CnOm20_ok : CnOm20.ok Tryz.prog := runK_ok follows noHook_ok CnOm20_run
theorem CnOm20_fit : CnOm20.fit = true := by decide +kernel
end
end Go.Ax
