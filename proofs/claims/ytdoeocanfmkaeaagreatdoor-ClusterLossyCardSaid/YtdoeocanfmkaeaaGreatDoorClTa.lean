/- What functions come to, from what they are handed, by program. -/
import Derived.Test.YtdoeocanfmkaeaaGreatDoorClT0
set_option linter.unusedVariables false
set_option linter.unusedSimpArgs false
set_option linter.unusedSectionVars false
set_option linter.unnecessarySimpa false
namespace Go.Ax
open Go.Proofs W
set_option maxRecDepth 100000
set_option maxHeartbeats 16000000
noncomputable section
theorem ClTm0_run : runK Tryz.prog noHook 60 ClTm0 = true := by decide +kernel
theorem ClTm0_ok : ClTm0.ok Tryz.prog := runK_ok follows noHook_ok ClTm0_run
theorem ClTm0_fit : ClTm0.fit = true := by decide +kernel
theorem ClTm1_run : runK Tryz.prog noHook 60 ClTm1 = true := by decide +kernel
theorem ClTm1_ok : ClTm1.ok Tryz.prog := runK_ok follows noHook_ok ClTm1_run
theorem ClTm1_fit : ClTm1.fit = true := by decide +kernel
theorem ClTm2_run : runK Tryz.prog noHook 60 ClTm2 = true := by decide +kernel
theorem ClTm2_ok : ClTm2.ok Tryz.prog := runK_ok follows noHook_ok ClTm2_run
theorem ClTm2_fit : ClTm2.fit = true := by decide +kernel
end
end Go.Ax

namespace Go.Ax
open Go.Proofs W
set_option maxRecDepth 100000
set_option maxHeartbeats 16000000
noncomputable section
theorem ClTm3_run : runK Tryz.prog noHook 60 ClTm3 = true := by decide +kernel
theorem ClTm3_ok : ClTm3.ok Tryz.prog := runK_ok follows noHook_ok ClTm3_run
theorem ClTm3_fit : ClTm3.fit = true := by decide +kernel
theorem ClTm4_run : runK Tryz.prog noHook 60 ClTm4 = true := by decide +kernel
theorem ClTm4_ok : ClTm4.ok Tryz.prog := runK_ok follows noHook_ok ClTm4_run
theorem ClTm4_fit : ClTm4.fit = true := by decide +kernel
theorem ClTm5_run : runK Tryz.prog noHook 60 ClTm5 = true := by decide +kernel
theorem ClTm5_ok : ClTm5.ok Tryz.prog := runK_ok follows noHook_ok ClTm5_run
theorem ClTm5_fit : ClTm5.fit = true := by decide +kernel
end
end Go.Ax

namespace Go.Ax
open Go.Proofs W
set_option maxRecDepth 100000
set_option maxHeartbeats 16000000
noncomputable section
theorem ClTm175_run : runK Tryz.prog noHook 60 ClTm175 = true := by decide +kernel
theorem ClTm175_ok : ClTm175.ok Tryz.prog := runK_ok follows noHook_ok ClTm175_run
theorem ClTm175_fit : ClTm175.fit = true := by decide +kernel
theorem ClTm176_run : runK Tryz.prog noHook 60 ClTm176 = true := by decide +kernel
theorem ClTm176_ok : ClTm176.ok Tryz.prog := runK_ok follows noHook_ok ClTm176_run
theorem ClTm176_fit : ClTm176.fit = true := by decide +kernel
theorem ClTm177_run : runK Tryz.prog noHook 60 ClTm177 = true := by decide +kernel
theorem ClTm177_ok : ClTm177.ok Tryz.prog := runK_ok follows noHook_ok ClTm177_run
theorem ClTm177_fit : ClTm177.fit = true := by decide +kernel
theorem ClTm178_run : runK Tryz.prog noHook 60 ClTm178 = true := by decide +kernel
theorem ClTm178_ok : ClTm178.ok Tryz.prog := runK_ok follows noHook_ok ClTm178_run
theorem ClTm178_fit : ClTm178.fit = true := by decide +kernel
theorem ClTm179_run : runK Tryz.prog noHook 60 ClTm179 = true := by decide +kernel
theorem ClTm179_ok : ClTm179.ok Tryz.prog := runK_ok follows noHook_ok ClTm179_run
theorem ClTm179_fit : ClTm179.fit = true := by decide +kernel
theorem ClTm180_run : runK Tryz.prog noHook 60 ClTm180 = true := by decide +kernel
theorem ClTm180_ok : ClTm180.ok Tryz.prog := runK_ok follows noHook_ok ClTm180_run
theorem ClTm180_fit : ClTm180.fit = true := by decide +kernel
theorem ClTm181_run : runK Tryz.prog noHook 60 ClTm181 = true := by decide +kernel
theorem ClTm181_ok : ClTm181.ok Tryz.prog := runK_ok follows noHook_ok ClTm181_run
theorem ClTm181_fit : ClTm181.fit = true := by decide +kernel
theorem ClTm182_run : runK Tryz.prog noHook 60 ClTm182 = true := by decide +kernel
theorem ClTm182_ok : ClTm182.ok Tryz.prog := runK_ok follows noHook_ok ClTm182_run
theorem ClTm182_fit : ClTm182.fit = true := by decide +kernel
theorem ClTm183_run : runK Tryz.prog noHook 60 ClTm183 = true := by decide +kernel
theorem ClTm183_ok : ClTm183.ok Tryz.prog := runK_ok follows noHook_ok ClTm183_run
theorem ClTm183_fit : ClTm183.fit = true := by decide +kernel
theorem ClTm184_run : runK Tryz.prog noHook 60 ClTm184 = true := by decide +kernel
theorem ClTm184_ok : ClTm184.ok Tryz.prog := runK_ok follows noHook_ok ClTm184_run
theorem ClTm184_fit : ClTm184.fit = true := by decide +kernel
theorem ClTm185_run : runK Tryz.prog noHook 60 ClTm185 = true := by decide +kernel
theorem ClTm185_ok : ClTm185.ok Tryz.prog := runK_ok follows noHook_ok ClTm185_run
theorem ClTm185_fit : ClTm185.fit = true := by decide +kernel
theorem ClTm186_run : runK Tryz.prog noHook 60 ClTm186 = true := by decide +kernel
theorem ClTm186_ok : ClTm186.ok Tryz.prog := runK_ok follows noHook_ok ClTm186_run
theorem ClTm186_fit : ClTm186.fit = true := by decide +kernel
theorem ClTm187_run : runK Tryz.prog noHook 60 ClTm187 = true := by decide +kernel
theorem ClTm187_ok : ClTm187.ok Tryz.prog := runK_ok follows noHook_ok ClTm187_run
theorem ClTm187_fit : ClTm187.fit = true := by decide +kernel
theorem ClTm188_run : runK Tryz.prog noHook 60 ClTm188 = true := by decide +kernel
theorem ClTm188_ok : ClTm188.ok Tryz.prog := runK_ok follows noHook_ok ClTm188_run
theorem ClTm188_fit : ClTm188.fit = true := by decide +kernel
theorem ClTm189_run : runK Tryz.prog noHook 60 ClTm189 = true := by decide +kernel
theorem ClTm189_ok : ClTm189.ok Tryz.prog := runK_ok follows noHook_ok ClTm189_run
theorem ClTm189_fit : ClTm189.fit = true := by decide +kernel
theorem ClTm190_run : runK Tryz.prog noHook 60 ClTm190 = true := by decide +kernel
theorem ClTm190_ok : ClTm190.ok Tryz.prog := runK_ok follows noHook_ok ClTm190_run
theorem ClTm190_fit : ClTm190.fit = true := by decide +kernel
theorem ClTm191_run : runK Tryz.prog noHook 60 ClTm191 = true := by decide +kernel
theorem ClTm191_ok : ClTm191.ok Tryz.prog := runK_ok follows noHook_ok ClTm191_run
theorem ClTm191_fit : ClTm191.fit = true := by decide +kernel
end
end Go.Ax
