/- What functions come to, between heaps that are written out, by program. -/
import Derived.Test.YtapkhldfbdcblaaGreatDoorHdS0
set_option linter.unusedVariables false
set_option linter.unusedSimpArgs false
set_option linter.unusedSectionVars false
set_option linter.unnecessarySimpa false
namespace Go.Ax
open Go.Proofs W
set_option maxRecDepth 100000
set_option maxHeartbeats 16000000
noncomputable section
-- (*orchard/cluster.Cluster).Round: 1531 operations of its own
def HdSk22 : Chunk := { f := 244, args := [(p 4 0)], nx := 18079, pre := HdSl32, v := (.tuple []), nx' := 18449, post := HdSl33 }
theorem HdSk22_run : runK Tryz.prog noHook 60 HdSk22 = true := by decide +kernel
theorem HdSk22_ok : HdSk22.ok Tryz.prog := runK_ok follows noHook_ok HdSk22_run
-- (*orchard/replica.Replica).Hear: 7081 operations of its own
def HdSk23 : Chunk := { f := 79, args := [(p 2791 0),(g [(i 3),(i 3),(i 1),(i 1),(i 1),(i 1),(i 1),(i 1),ns,f,(i 0),(i 0),(i 0),(i 0),ns,(i 0),(s 0 0)])], nx := 18990, pre := HdSl34, v := (.tuple []), nx' := 19448, post := HdSl35 }
theorem HdSk23_run : runK Tryz.prog noHook 60 HdSk23 = true := by decide +kernel
theorem HdSk23_ok : HdSk23.ok Tryz.prog := runK_ok follows noHook_ok HdSk23_run
-- (*orchard/replica.Replica).Hear: 7081 operations of its own
def HdSk24 : Chunk := { f := 79, args := [(p 5703 0),(g [(i 3),(i 3),(i 2),(i 1),(i 1),(i 1),(i 1),(i 1),ns,f,(i 0),(i 0),(i 0),(i 0),ns,(i 0),(s 0 0)])], nx := 19524, pre := HdSl36, v := (.tuple []), nx' := 19982, post := HdSl37 }
theorem HdSk24_run : runK Tryz.prog noHook 60 HdSk24 = true := by decide +kernel
theorem HdSk24_ok : HdSk24.ok Tryz.prog := runK_ok follows noHook_ok HdSk24_run
-- (*orchard/cluster.Cluster).Round: 1643 operations of its own
def HdSk26 : Chunk := { f := 244, args := [(p 4 0)], nx := 20545, pre := HdSl38, v := (.tuple []), nx' := 20915, post := HdSl39 }
theorem HdSk26_run : runK Tryz.prog noHook 60 HdSk26 = true := by decide +kernel
theorem HdSk26_ok : HdSk26.ok Tryz.prog := runK_ok follows noHook_ok HdSk26_run
-- (*orchard/cluster.Cluster).Round: 7421 operations of its own
def HdSk27 : Chunk := { f := 244, args := [(p 4 0)], nx := 20915, pre := HdSl39, v := (.tuple []), nx' := 22707, post := HdSl40 }
theorem HdSk27_run : runK Tryz.prog noHook 60 HdSk27 = true := by decide +kernel
theorem HdSk27_ok : HdSk27.ok Tryz.prog := runK_ok follows noHook_ok HdSk27_run
-- (*orchard/cluster.Cluster).Round: 1643 operations of its own
def HdSk28 : Chunk := { f := 244, args := [(p 4 0)], nx := 22707, pre := HdSl40, v := (.tuple []), nx' := 23077, post := HdSl41 }
theorem HdSk28_run : runK Tryz.prog noHook 60 HdSk28 = true := by decide +kernel
theorem HdSk28_ok : HdSk28.ok Tryz.prog := runK_ok follows noHook_ok HdSk28_run
-- (*orchard/cluster.Cluster).Round: 7421 operations of its own
def HdSk29 : Chunk := { f := 244, args := [(p 4 0)], nx := 23077, pre := HdSl41, v := (.tuple []), nx' := 24869, post := HdSl42 }
theorem HdSk29_run : runK Tryz.prog noHook 60 HdSk29 = true := by decide +kernel
theorem HdSk29_ok : HdSk29.ok Tryz.prog := runK_ok follows noHook_ok HdSk29_run
-- (*orchard/cluster.Cluster).Round: 1643 operations of its own
def HdSk30 : Chunk := { f := 244, args := [(p 4 0)], nx := 24869, pre := HdSl42, v := (.tuple []), nx' := 25239, post := HdSl43 }
theorem HdSk30_run : runK Tryz.prog noHook 60 HdSk30 = true := by decide +kernel
theorem HdSk30_ok : HdSk30.ok Tryz.prog := runK_ok follows noHook_ok HdSk30_run
-- (*orchard/cluster.Cluster).Round: 7421 operations of its own
def HdSk31 : Chunk := { f := 244, args := [(p 4 0)], nx := 25239, pre := HdSl43, v := (.tuple []), nx' := 27031, post := HdSl44 }
theorem HdSk31_run : runK Tryz.prog noHook 60 HdSk31 = true := by decide +kernel
theorem HdSk31_ok : HdSk31.ok Tryz.prog := runK_ok follows noHook_ok HdSk31_run
-- (*orchard/cluster.Cluster).Round: 1643 operations of its own
def HdSk32 : Chunk := { f := 244, args := [(p 4 0)], nx := 27031, pre := HdSl44, v := (.tuple []), nx' := 27401, post := HdSl45 }
theorem HdSk32_run : runK Tryz.prog noHook 60 HdSk32 = true := by decide +kernel
theorem HdSk32_ok : HdSk32.ok Tryz.prog := runK_ok follows noHook_ok HdSk32_run
-- (*orchard/cluster.Cluster).Round: 7421 operations of its own
def HdSk33 : Chunk := { f := 244, args := [(p 4 0)], nx := 27401, pre := HdSl45, v := (.tuple []), nx' := 29193, post := HdSl46 }
theorem HdSk33_run : runK Tryz.prog noHook 60 HdSk33 = true := by decide +kernel
theorem HdSk33_ok : HdSk33.ok Tryz.prog := runK_ok follows noHook_ok HdSk33_run
-- (*orchard/cluster.Cluster).Round: 1643 operations of its own
def HdSk34 : Chunk := { f := 244, args := [(p 4 0)], nx := 29193, pre := HdSl46, v := (.tuple []), nx' := 29563, post := HdSl47 }
theorem HdSk34_run : runK Tryz.prog noHook 60 HdSk34 = true := by decide +kernel
theorem HdSk34_ok : HdSk34.ok Tryz.prog := runK_ok follows noHook_ok HdSk34_run
-- (*orchard/cluster.Cluster).Round: 7421 operations of its own
def HdSk35 : Chunk := { f := 244, args := [(p 4 0)], nx := 29563, pre := HdSl47, v := (.tuple []), nx' := 31355, post := HdSl48 }
theorem HdSk35_run : runK Tryz.prog noHook 60 HdSk35 = true := by decide +kernel
theorem HdSk35_ok : HdSk35.ok Tryz.prog := runK_ok follows noHook_ok HdSk35_run
-- (*orchard/cluster.Cluster).Round: 1643 operations of its own
def HdSk36 : Chunk := { f := 244, args := [(p 4 0)], nx := 31355, pre := HdSl48, v := (.tuple []), nx' := 31725, post := HdSl49 }
theorem HdSk36_run : runK Tryz.prog noHook 60 HdSk36 = true := by decide +kernel
theorem HdSk36_ok : HdSk36.ok Tryz.prog := runK_ok follows noHook_ok HdSk36_run
-- (*orchard/cluster.Cluster).Round: 7421 operations of its own
def HdSk37 : Chunk := { f := 244, args := [(p 4 0)], nx := 31725, pre := HdSl49, v := (.tuple []), nx' := 33517, post := HdSl50 }
theorem HdSk37_run : runK Tryz.prog noHook 60 HdSk37 = true := by decide +kernel
theorem HdSk37_ok : HdSk37.ok Tryz.prog := runK_ok follows noHook_ok HdSk37_run
end
end Go.Ax
