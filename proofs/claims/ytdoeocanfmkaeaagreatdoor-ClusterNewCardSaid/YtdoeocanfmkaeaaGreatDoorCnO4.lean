/- What functions come to, from what they are handed, by program. -/
import Derived.Test.YtdoeocanfmkaeaaGreatDoorCnO0
set_option linter.unusedVariables false
set_option linter.unusedSimpArgs false
set_option linter.unusedSectionVars false
set_option linter.unnecessarySimpa false
namespace Go.Ax
open Go.Proofs W
set_option maxRecDepth 100000
set_option maxHeartbeats 16000000
noncomputable section
theorem CnOm21_run : runK Tryz.prog noHook 60 CnOm21 = true := by decide +kernel
theorem CnOm21_ok : CnOm21.ok Tryz.prog := runK_ok follows noHook_ok CnOm21_run
theorem CnOm21_fit : CnOm21.fit = true := by decide +kernel
theorem CnOm22_run : runK Tryz.prog noHook 60 CnOm22 = true := by decide +kernel
theorem CnOm22_ok : CnOm22.ok Tryz.prog := runK_ok follows noHook_ok CnOm22_run
theorem CnOm22_fit : CnOm22.fit = true := by decide +kernel
theorem CnOm23_run : runK Tryz.prog noHook 60 CnOm23 = true := by decide +kernel
theorem CnOm23_ok : CnOm23.ok Tryz.prog := runK_ok follows noHook_ok CnOm23_run
theorem CnOm23_fit : CnOm23.fit = true := by decide +kernel
theorem CnOm24_run : runK Tryz.prog noHook 60 CnOm24 = true := by decide +kernel
theorem CnOm24_ok : CnOm24.ok Tryz.prog := runK_ok follows noHook_ok CnOm24_run
theorem CnOm24_fit : CnOm24.fit = true := by decide +kernel
theorem CnOm25_run : runK Tryz.prog noHook 60 CnOm25 = true := by decide +kernel
theorem CnOm25_ok : CnOm25.ok Tryz.prog := runK_ok follows noHook_ok CnOm25_run
theorem CnOm25_fit : CnOm25.fit = true := by decide +kernel
theorem CnOm26_run : runK Tryz.prog noHook 60 CnOm26 = true := by decide +kernel
theorem CnOm26_ok : CnOm26.ok Tryz.prog := runK_ok follows noHook_ok CnOm26_run
theorem CnOm26_fit : CnOm26.fit = true := by decide +kernel
theorem CnOm27_run : runK Tryz.prog noHook 60 CnOm27 = true := by decide +kernel
theorem CnOm27_ok : CnOm27.ok Tryz.prog := runK_ok follows noHook_ok CnOm27_run
theorem CnOm27_fit : CnOm27.fit = true := by decide +kernel
theorem CnOm28_run : runK Tryz.prog noHook 60 CnOm28 = true := by decide +kernel
theorem CnOm28_ok : CnOm28.ok Tryz.prog := runK_ok follows noHook_ok CnOm28_run
theorem CnOm28_fit : CnOm28.fit = true := by decide +kernel
theorem CnOm29_run : runK Tryz.prog noHook 60 CnOm29 = true := by decide +kernel
theorem CnOm29_ok : CnOm29.ok Tryz.prog := runK_ok follows noHook_ok CnOm29_run
theorem CnOm29_fit : CnOm29.fit = true := by decide +kernel
end
end Go.Ax
