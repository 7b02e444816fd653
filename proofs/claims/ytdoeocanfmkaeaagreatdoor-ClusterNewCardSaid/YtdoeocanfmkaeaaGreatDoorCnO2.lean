/- What functions come to, from what they are handed, by program. -/
import Derived.Test.YtdoeocanfmkaeaaGreatDoorCnO0
set_option linter.unusedVariables false
set_option linter.unusedSimpArgs false
set_option linter.unusedSectionVars false
set_option linter.unnecessarySimpa false
namespace Go.Ax
open Go.Proofs W
set_option maxRecDepth 100000
set_option maxHeartbeats 16000000
noncomputable section
theorem CnOm7_run : runK Tryz.prog noHook 60 CnOm7 = true := by decide +kernel
theorem CnOm7_ok : CnOm7.ok Tryz.prog := runK_ok follows noHook_ok CnOm7_run
theorem CnOm7_fit : CnOm7.fit = true := by decide +kernel
theorem CnOm8_run : runK Tryz.prog noHook 60 CnOm8 = true := by decide +kernel
theorem CnOm8_ok : CnOm8.ok Tryz.prog := runK_ok follows noHook_ok CnOm8_run
theorem CnOm8_fit : CnOm8.fit = true := by decide +kernel
theorem CnOm9_run : runK Tryz.prog noHook 60 CnOm9 = true := by decide +kernel
theorem CnOm9_ok : CnOm9.ok Tryz.prog := runK_ok follows noHook_ok CnOm9_run
theorem CnOm9_fit : CnOm9.fit = true := by decide +kernel
theorem CnOm10_run : runK Tryz.prog noHook 60 CnOm10 = true := by decide +kernel
theorem CnOm10_ok : CnOm10.ok Tryz.prog := runK_ok follows noHook_ok CnOm10_run
theorem CnOm10_fit : CnOm10.fit = true := by decide +kernel
theorem CnOm11_run : runK Tryz.prog noHook 60 CnOm11 = true := by decide +kernel
theorem CnOm11_ok : CnOm11.ok Tryz.prog := runK_ok follows noHook_ok CnOm11_run
theorem CnOm11_fit : CnOm11.fit = true := by decide +kernel
theorem CnOm12_run : runK Tryz.prog noHook 60 CnOm12 = true := by decide +kernel
theorem CnOm12_ok : CnOm12.ok Tryz.prog := runK_ok follows noHook_ok CnOm12_run
theorem CnOm12_fit : CnOm12.fit = true := by decide +kernel
theorem CnOm13_run : runK Tryz.prog noHook 60 CnOm13 = true := by decide +kernel
theorem CnOm13_ok : CnOm13.ok Tryz.prog := runK_ok follows noHook_ok CnOm13_run
theorem CnOm13_fit : CnOm13.fit = true := by decide +kernel
end
end Go.Ax
