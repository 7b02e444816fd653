/- What functions come to, between heaps that are written out, by program. -/
import Derived.Test.YtdoeocanfmkaeaaGreatDoorHdB0
set_option linter.unusedVariables false
set_option linter.unusedSimpArgs false
set_option linter.unusedSectionVars false
set_option linter.unnecessarySimpa false
namespace Go.Ax
open Go.Proofs W
set_option maxRecDepth 100000
set_option maxHeartbeats 16000000
noncomputable section
-- (*orchard/cluster.Cluster).Round: 1531 operations of its own
def HdBk22 : Chunk := { f := 40, args := [(p 1 0)], nx := 18060, pre := HdBl32, v := (.tuple []), nx' := 18430, post := HdBl33 }
theorem HdBk22_run : runK Tryz.prog noHook 60 HdBk22 = true := by decide +kernel
theorem HdBk22_ok : HdBk22.ok Tryz.prog := runK_ok follows noHook_ok HdBk22_run
-- (*orchard/replica.Replica).Hear: 7081 operations of its own
def HdBk23 : Chunk := { f := 117, args := [(p 2788 0),(g [(i 3),(i 3),(i 1),(i 1),(i 1),(i 1),(i 1),(i 1),ns,f,(i 0),(i 0),(i 0),(i 0),ns,(i 0),(s 0 0)])], nx := 18971, pre := HdBl34, v := (.tuple []), nx' := 19429, post := HdBl35 }
theorem HdBk23_run : runK Tryz.prog noHook 60 HdBk23 = true := by decide +kernel
theorem HdBk23_ok : HdBk23.ok Tryz.prog := runK_ok follows noHook_ok HdBk23_run
-- (*orchard/replica.Replica).Hear: 7081 operations of its own
def HdBk24 : Chunk := { f := 117, args := [(p 5700 0),(g [(i 3),(i 3),(i 2),(i 1),(i 1),(i 1),(i 1),(i 1),ns,f,(i 0),(i 0),(i 0),(i 0),ns,(i 0),(s 0 0)])], nx := 19505, pre := HdBl36, v := (.tuple []), nx' := 19963, post := HdBl37 }
theorem HdBk24_run : runK Tryz.prog noHook 60 HdBk24 = true := by decide +kernel
theorem HdBk24_ok : HdBk24.ok Tryz.prog := runK_ok follows noHook_ok HdBk24_run
-- (*orchard/cluster.Cluster).Round: 1643 operations of its own
def HdBk26 : Chunk := { f := 40, args := [(p 1 0)], nx := 20526, pre := HdBl38, v := (.tuple []), nx' := 20896, post := HdBl39 }
theorem HdBk26_run : runK Tryz.prog noHook 60 HdBk26 = true := by decide +kernel
theorem HdBk26_ok : HdBk26.ok Tryz.prog := runK_ok follows noHook_ok HdBk26_run
-- (*orchard/cluster.Cluster).Round: 7421 operations of its own
def HdBk27 : Chunk := { f := 40, args := [(p 1 0)], nx := 20896, pre := HdBl39, v := (.tuple []), nx' := 22688, post := HdBl40 }
theorem HdBk27_run : runK Tryz.prog noHook 60 HdBk27 = true := by decide +kernel
theorem HdBk27_ok : HdBk27.ok Tryz.prog := runK_ok follows noHook_ok HdBk27_run
-- (*orchard/cluster.Cluster).Round: 1643 operations of its own
def HdBk28 : Chunk := { f := 40, args := [(p 1 0)], nx := 22688, pre := HdBl40, v := (.tuple []), nx' := 23058, post := HdBl41 }
theorem HdBk28_run : runK Tryz.prog noHook 60 HdBk28 = true := by decide +kernel
theorem HdBk28_ok : HdBk28.ok Tryz.prog := runK_ok follows noHook_ok HdBk28_run
-- (*orchard/cluster.Cluster).Round: 7421 operations of its own
def HdBk29 : Chunk := { f := 40, args := [(p 1 0)], nx := 23058, pre := HdBl41, v := (.tuple []), nx' := 24850, post := HdBl42 }
theorem HdBk29_run : runK Tryz.prog noHook 60 HdBk29 = true := by decide +kernel
theorem HdBk29_ok : HdBk29.ok Tryz.prog := runK_ok follows noHook_ok HdBk29_run
-- (*orchard/cluster.Cluster).Round: 1643 operations of its own
def HdBk30 : Chunk := { f := 40, args := [(p 1 0)], nx := 24850, pre := HdBl42, v := (.tuple []), nx' := 25220, post := HdBl43 }
theorem HdBk30_run : runK Tryz.prog noHook 60 HdBk30 = true := by decide +kernel
theorem HdBk30_ok : HdBk30.ok Tryz.prog := runK_ok follows noHook_ok HdBk30_run
-- (*orchard/cluster.Cluster).Round: 7421 operations of its own
def HdBk31 : Chunk := { f := 40, args := [(p 1 0)], nx := 25220, pre := HdBl43, v := (.tuple []), nx' := 27012, post := HdBl44 }
theorem HdBk31_run : runK Tryz.prog noHook 60 HdBk31 = true := by decide +kernel
theorem HdBk31_ok : HdBk31.ok Tryz.prog := runK_ok follows noHook_ok HdBk31_run
-- (*orchard/cluster.Cluster).Round: 1643 operations of its own
def HdBk32 : Chunk := { f := 40, args := [(p 1 0)], nx := 27012, pre := HdBl44, v := (.tuple []), nx' := 27382, post := HdBl45 }
theorem HdBk32_run : runK Tryz.prog noHook 60 HdBk32 = true := by decide +kernel
theorem HdBk32_ok : HdBk32.ok Tryz.prog := runK_ok follows noHook_ok HdBk32_run
-- (*orchard/cluster.Cluster).Round: 7421 operations of its own
def HdBk33 : Chunk := { f := 40, args := [(p 1 0)], nx := 27382, pre := HdBl45, v := (.tuple []), nx' := 29174, post := HdBl46 }
theorem HdBk33_run : runK Tryz.prog noHook 60 HdBk33 = true := by decide +kernel
theorem HdBk33_ok : HdBk33.ok Tryz.prog := runK_ok follows noHook_ok HdBk33_run
-- (*orchard/cluster.Cluster).Round: 1643 operations of its own
def HdBk34 : Chunk := { f := 40, args := [(p 1 0)], nx := 29174, pre := HdBl46, v := (.tuple []), nx' := 29544, post := HdBl47 }
theorem HdBk34_run : runK Tryz.prog noHook 60 HdBk34 = true := by decide +kernel
theorem HdBk34_ok : HdBk34.ok Tryz.prog := runK_ok follows noHook_ok HdBk34_run
-- (*orchard/cluster.Cluster).Round: 7421 operations of its own
def HdBk35 : Chunk := { f := 40, args := [(p 1 0)], nx := 29544, pre := HdBl47, v := (.tuple []), nx' := 31336, post := HdBl48 }
theorem HdBk35_run : runK Tryz.prog noHook 60 HdBk35 = true := by decide +kernel
theorem HdBk35_ok : HdBk35.ok Tryz.prog := runK_ok follows noHook_ok HdBk35_run
-- (*orchard/cluster.Cluster).Round: 1643 operations of its own
def HdBk36 : Chunk := { f := 40, args := [(p 1 0)], nx := 31336, pre := HdBl48, v := (.tuple []), nx' := 31706, post := HdBl49 }
theorem HdBk36_run : runK Tryz.prog noHook 60 HdBk36 = true := by decide +kernel
theorem HdBk36_ok : HdBk36.ok Tryz.prog := runK_ok follows noHook_ok HdBk36_run
-- (*orchard/cluster.Cluster).Round: 7421 operations of its own
def HdBk37 : Chunk := { f := 40, args := [(p 1 0)], nx := 31706, pre := HdBl49, v := (.tuple []), nx' := 33498, post := HdBl50 }
theorem HdBk37_run : runK Tryz.prog noHook 60 HdBk37 = true := by decide +kernel
theorem HdBk37_ok : HdBk37.ok Tryz.prog := runK_ok follows noHook_ok HdBk37_run
end
end Go.Ax
