/- What functions come to, from what they are handed, by program. -/
import Derived.Test.YtdoeocanfmkaeaaGreatDoorClT0
set_option linter.unusedVariables false
set_option linter.unusedSimpArgs false
set_option linter.unusedSectionVars false
set_option linter.unnecessarySimpa false
namespace Go.Ax
open Go.Proofs W
set_option maxRecDepth 100000
set_option maxHeartbeats 16000000
noncomputable section
theorem ClTm146_run : runK Tryz.prog noHook 60 ClTm146 = true := by decide +kernel
theorem ClTm146_ok : ClTm146.ok Tryz.prog := runK_ok follows noHook_ok ClTm146_run
theorem ClTm146_fit : ClTm146.fit = true := by decide +kernel
theorem ClTm147_run : runK Tryz.prog noHook 60 ClTm147 = true := by decide +kernel
theorem ClTm147_ok : ClTm147.ok Tryz.prog := runK_ok follows noHook_ok ClTm147_run
theorem ClTm147_fit : ClTm147.fit = true := by decide +kernel
theorem ClTm148_run : runK Tryz.prog noHook 60 ClTm148 = true := by decide +kernel
theorem ClTm148_ok : ClTm148.ok Tryz.prog := runK_ok follows noHook_ok ClTm148_run
theorem ClTm148_fit : ClTm148.fit = true := by decide +kernel
theorem ClTm149_run : runK Tryz.prog noHook 60 ClTm149 = true := by decide +kernel
theorem ClTm149_ok : ClTm149.ok Tryz.prog := runK_ok follows noHook_ok ClTm149_run
theorem ClTm149_fit : ClTm149.fit = true := by decide +kernel
theorem ClTm150_run : runK Tryz.prog noHook 60 ClTm150 = true := by decide +kernel
theorem ClTm150_ok : ClTm150.ok Tryz.prog := runK_ok follows noHook_ok ClTm150_run
theorem ClTm150_fit : ClTm150.fit = true := by decide +kernel
theorem ClTm151_run : runK Tryz.prog noHook 60 ClTm151 = true := by decide +kernel
theorem ClTm151_ok : ClTm151.ok Tryz.prog := runK_ok follows noHook_ok ClTm151_run
theorem ClTm151_fit : ClTm151.fit = true := by decide +kernel
theorem ClTm152_run : runK Tryz.prog noHook 60 ClTm152 = true := by decide +kernel
theorem ClTm152_ok : ClTm152.ok Tryz.prog := runK_ok follows noHook_ok ClTm152_run
theorem ClTm152_fit : ClTm152.fit = true := by decide +kernel
theorem ClTm153_run : runK Tryz.prog noHook 60 ClTm153 = true := by decide +kernel
theorem ClTm153_ok : ClTm153.ok Tryz.prog := runK_ok follows noHook_ok ClTm153_run
theorem ClTm153_fit : ClTm153.fit = true := by decide +kernel
theorem ClTm154_run : runK Tryz.prog noHook 60 ClTm154 = true := by decide +kernel
theorem ClTm154_ok : ClTm154.ok Tryz.prog := runK_ok follows noHook_ok ClTm154_run
theorem ClTm154_fit : ClTm154.fit = true := by decide +kernel
theorem ClTm155_run : runK Tryz.prog noHook 60 ClTm155 = true := by decide +kernel
theorem ClTm155_ok : ClTm155.ok Tryz.prog := runK_ok follows noHook_ok ClTm155_run
theorem ClTm155_fit : ClTm155.fit = true := by decide +kernel
theorem ClTm156_run : runK Tryz.prog noHook 60 ClTm156 = true := by decide +kernel
theorem ClTm156_ok : ClTm156.ok Tryz.prog := runK_ok follows noHook_ok ClTm156_run
theorem ClTm156_fit : ClTm156.fit = true := by decide +kernel
theorem ClTm157_run : runK Tryz.prog noHook 60 ClTm157 = true := by decide +kernel
theorem ClTm157_ok : ClTm157.ok Tryz.prog := runK_ok follows noHook_ok ClTm157_run
theorem ClTm157_fit : ClTm157.fit = true := by decide +kernel
theorem ClTm158_run : runK Tryz.prog noHook 60 ClTm158 = true := by decide +kernel
theorem ClTm158_ok : ClTm158.ok Tryz.prog := runK_ok follows noHook_ok ClTm158_run
theorem ClTm158_fit : ClTm158.fit = true := by decide +kernel
theorem ClTm159_run : runK Tryz.prog noHook 60 ClTm159 = true := by decide +kernel
theorem ClTm159_ok : ClTm159.ok Tryz.prog := runK_ok follows noHook_ok ClTm159_run
theorem ClTm159_fit : ClTm159.fit = true := by decide +kernel
theorem ClTm160_run : runK Tryz.prog noHook 60 ClTm160 = true := by decide +kernel
theorem ClTm160_ok : ClTm160.ok Tryz.prog := runK_ok follows noHook_ok ClTm160_run
theorem ClTm160_fit : ClTm160.fit = true := by decide +kernel
theorem ClTm161_run : runK Tryz.prog noHook 60 ClTm161 = true := by decide +kernel
theorem ClTm161_ok : ClTm161.ok Tryz.prog := runK_ok follows noHook_ok ClTm161_run
theorem ClTm161_fit : ClTm161.fit = true := by decide +kernel
theorem ClTm162_run : runK Tryz.prog noHook 60 ClTm162 = true := by decide +kernel
theorem ClTm162_ok : ClTm162.ok Tryz.prog := runK_ok follows noHook_ok ClTm162_run
theorem ClTm162_fit : ClTm162.fit = true := by decide +kernel
theorem ClTm163_run : runK Tryz.prog noHook 60 ClTm163 = true := by decide +kernel
theorem ClTm163_ok : ClTm163.ok Tryz.prog := runK_ok follows noHook_ok ClTm163_run
theorem ClTm163_fit : ClTm163.fit = true := by decide +kernel
theorem ClTm164_run : runK Tryz.prog noHook 60 ClTm164 = true := by decide +kernel
theorem ClTm164_ok : ClTm164.ok Tryz.prog := runK_ok follows noHook_ok ClTm164_run
theorem ClTm164_fit : ClTm164.fit = true := by decide +kernel
theorem ClTm165_run : runK Tryz.prog noHook 60 ClTm165 = true := by decide +kernel
theorem ClTm165_ok : ClTm165.ok Tryz.prog := runK_ok follows noHook_ok ClTm165_run
theorem ClTm165_fit : ClTm165.fit = true := by decide +kernel
theorem ClTm166_run : runK Tryz.prog noHook 60 ClTm166 = true := by decide +kernel
theorem ClTm166_ok : ClTm166.ok Tryz.prog := runK_ok follows noHook_ok ClTm166_run
theorem ClTm166_fit : ClTm166.fit = true := by decide +kernel
theorem ClTm167_run : runK Tryz.prog noHook 60 ClTm167 = true := by decide +kernel
theorem ClTm167_ok : ClTm167.ok Tryz.prog := runK_ok follows noHook_ok ClTm167_run
theorem ClTm167_fit : ClTm167.fit = true := by decide +kernel
theorem ClTm168_run : runK Tryz.prog noHook 60 ClTm168 = true := by decide +kernel
theorem ClTm168_ok : ClTm168.ok Tryz.prog := runK_ok follows noHook_ok ClTm168_run
theorem ClTm168_fit : ClTm168.fit = true := by decide +kernel
theorem ClTm169_run : runK Tryz.prog noHook 60 ClTm169 = true := by decide +kernel
theorem ClTm169_ok : ClTm169.ok Tryz.prog := runK_ok follows noHook_ok ClTm169_run
theorem ClTm169_fit : ClTm169.fit = true := by decide +kernel
theorem ClTm170_run : runK Tryz.prog noHook 60 ClTm170 = true := by decide +kernel
theorem ClTm170_ok : ClTm170.ok Tryz.prog := runK_ok follows noHook_ok ClTm170_run
theorem ClTm170_fit : ClTm170.fit = true := by decide +kernel
theorem ClTm171_run : runK Tryz.prog noHook 60 ClTm171 = true := by decide +kernel
theorem ClTm171_ok : ClTm171.ok Tryz.prog := runK_ok follows noHook_ok ClTm171_run
theorem ClTm171_fit : ClTm171.fit = true := by decide +kernel
theorem ClTm172_run : runK Tryz.prog noHook 60 ClTm172 = true := by decide +kernel
theorem ClTm172_ok : ClTm172.ok Tryz.prog := runK_ok follows noHook_ok ClTm172_run
theorem ClTm172_fit : ClTm172.fit = true := by decide +kernel
theorem ClTm173_run : runK Tryz.prog noHook 60 ClTm173 = true := by decide +kernel
theorem ClTm173_ok : ClTm173.ok Tryz.prog := runK_ok follows noHook_ok ClTm173_run
theorem ClTm173_fit : ClTm173.fit = true := by decide +kernel
theorem ClTm174_run : runK Tryz.prog noHook 60 ClTm174 = true := by decide +kernel
theorem ClTm174_ok : ClTm174.ok Tryz.prog := runK_ok follows noHook_ok ClTm174_run
theorem ClTm174_fit : ClTm174.fit = true := by decide +kernel
end
end Go.Ax
