/- What functions come to, between heaps that are written out, by program. -/
import Derived.Test.YtapkhldfbdcblaaGreatDoorHdS0
set_option linter.unusedVariables false
set_option linter.unusedSimpArgs false
set_option linter.unusedSectionVars false
set_option linter.unnecessarySimpa false
namespace Go.Ax
open Go.Proofs W
set_option maxRecDepth 100000
set_option maxHeartbeats 16000000
noncomputable section
-- (*orchard/cluster.Cluster).Round: 1643 operations of its own
def HdSk54 : Chunk := { f := 244, args := [(p 4 0)], nx := 50813, pre := HdSl66, v := (.tuple []), nx' := 51183, post := HdSl67 }
theorem HdSk54_run : runK Tryz.prog noHook 60 HdSk54 = true := by decide +kernel
theorem HdSk54_ok : HdSk54.ok Tryz.prog := runK_ok follows noHook_ok HdSk54_run
-- (*orchard/cluster.Cluster).Round: 7421 operations of its own
def HdSk55 : Chunk := { f := 244, args := [(p 4 0)], nx := 51183, pre := HdSl67, v := (.tuple []), nx' := 52975, post := HdSl68 }
theorem HdSk55_run : runK Tryz.prog noHook 60 HdSk55 = true := by decide +kernel
theorem HdSk55_ok : HdSk55.ok Tryz.prog := runK_ok follows noHook_ok HdSk55_run
-- (*orchard/cluster.Cluster).Round: 1643 operations of its own
def HdSk56 : Chunk := { f := 244, args := [(p 4 0)], nx := 52975, pre := HdSl68, v := (.tuple []), nx' := 53345, post := HdSl69 }
theorem HdSk56_run : runK Tryz.prog noHook 60 HdSk56 = true := by decide +kernel
theorem HdSk56_ok : HdSk56.ok Tryz.prog := runK_ok follows noHook_ok HdSk56_run
-- (*orchard/cluster.Cluster).Round: 7421 operations of its own
def HdSk57 : Chunk := { f := 244, args := [(p 4 0)], nx := 53345, pre := HdSl69, v := (.tuple []), nx' := 55137, post := HdSl70 }
theorem HdSk57_run : runK Tryz.prog noHook 60 HdSk57 = true := by decide +kernel
theorem HdSk57_ok : HdSk57.ok Tryz.prog := runK_ok follows noHook_ok HdSk57_run
-- (*orchard/cluster.Cluster).Round: 1643 operations of its own
def HdSk58 : Chunk := { f := 244, args := [(p 4 0)], nx := 55137, pre := HdSl70, v := (.tuple []), nx' := 55507, post := HdSl71 }
theorem HdSk58_run : runK Tryz.prog noHook 60 HdSk58 = true := by decide +kernel
theorem HdSk58_ok : HdSk58.ok Tryz.prog := runK_ok follows noHook_ok HdSk58_run
-- (*orchard/cluster.Cluster).Round: 7421 operations of its own
def HdSk59 : Chunk := { f := 244, args := [(p 4 0)], nx := 55507, pre := HdSl71, v := (.tuple []), nx' := 57299, post := HdSl72 }
theorem HdSk59_run : runK Tryz.prog noHook 60 HdSk59 = true := by decide +kernel
theorem HdSk59_ok : HdSk59.ok Tryz.prog := runK_ok follows noHook_ok HdSk59_run
-- (*orchard/cluster.Cluster).Round: 1643 operations of its own
def HdSk60 : Chunk := { f := 244, args := [(p 4 0)], nx := 57299, pre := HdSl72, v := (.tuple []), nx' := 57669, post := HdSl73 }
theorem HdSk60_run : runK Tryz.prog noHook 60 HdSk60 = true := by decide +kernel
theorem HdSk60_ok : HdSk60.ok Tryz.prog := runK_ok follows noHook_ok HdSk60_run
-- (*orchard/cluster.Cluster).Round: 7421 operations of its own
def HdSk61 : Chunk := { f := 244, args := [(p 4 0)], nx := 57669, pre := HdSl73, v := (.tuple []), nx' := 59461, post := HdSl74 }
theorem HdSk61_run : runK Tryz.prog noHook 60 HdSk61 = true := by decide +kernel
theorem HdSk61_ok : HdSk61.ok Tryz.prog := runK_ok follows noHook_ok HdSk61_run
-- (*orchard/cluster.Cluster).Round: 1643 operations of its own
def HdSk62 : Chunk := { f := 244, args := [(p 4 0)], nx := 59461, pre := HdSl74, v := (.tuple []), nx' := 59831, post := HdSl75 }
theorem HdSk62_run : runK Tryz.prog noHook 60 HdSk62 = true := by decide +kernel
theorem HdSk62_ok : HdSk62.ok Tryz.prog := runK_ok follows noHook_ok HdSk62_run
-- (*orchard/cluster.Cluster).Round: 7421 operations of its own
def HdSk63 : Chunk := { f := 244, args := [(p 4 0)], nx := 59831, pre := HdSl75, v := (.tuple []), nx' := 61623, post := HdSl76 }
theorem HdSk63_run : runK Tryz.prog noHook 60 HdSk63 = true := by decide +kernel
theorem HdSk63_ok : HdSk63.ok Tryz.prog := runK_ok follows noHook_ok HdSk63_run
-- (*orchard/cluster.Cluster).Round: 1643 operations of its own
def HdSk64 : Chunk := { f := 244, args := [(p 4 0)], nx := 61623, pre := HdSl76, v := (.tuple []), nx' := 61993, post := HdSl77 }
theorem HdSk64_run : runK Tryz.prog noHook 60 HdSk64 = true := by decide +kernel
theorem HdSk64_ok : HdSk64.ok Tryz.prog := runK_ok follows noHook_ok HdSk64_run
-- (*orchard/cluster.Cluster).Round: 7421 operations of its own
def HdSk65 : Chunk := { f := 244, args := [(p 4 0)], nx := 61993, pre := HdSl77, v := (.tuple []), nx' := 63785, post := HdSl78 }
theorem HdSk65_run : runK Tryz.prog noHook 60 HdSk65 = true := by decide +kernel
theorem HdSk65_ok : HdSk65.ok Tryz.prog := runK_ok follows noHook_ok HdSk65_run
-- (*orchard/cluster.Cluster).Round: 1643 operations of its own
def HdSk66 : Chunk := { f := 244, args := [(p 4 0)], nx := 63785, pre := HdSl78, v := (.tuple []), nx' := 64155, post := HdSl79 }
theorem HdSk66_run : runK Tryz.prog noHook 60 HdSk66 = true := by decide +kernel
theorem HdSk66_ok : HdSk66.ok Tryz.prog := runK_ok follows noHook_ok HdSk66_run
-- (*orchard/cluster.Cluster).Round: 7421 operations of its own
def HdSk67 : Chunk := { f := 244, args := [(p 4 0)], nx := 64155, pre := HdSl79, v := (.tuple []), nx' := 65947, post := HdSl80 }
theorem HdSk67_run : runK Tryz.prog noHook 60 HdSk67 = true := by decide +kernel
theorem HdSk67_ok : HdSk67.ok Tryz.prog := runK_ok follows noHook_ok HdSk67_run
-- (*orchard/cluster.Cluster).Round: 1643 operations of its own
def HdSk68 : Chunk := { f := 244, args := [(p 4 0)], nx := 65947, pre := HdSl80, v := (.tuple []), nx' := 66317, post := HdSl81 }
theorem HdSk68_run : runK Tryz.prog noHook 60 HdSk68 = true := by decide +kernel
theorem HdSk68_ok : HdSk68.ok Tryz.prog := runK_ok follows noHook_ok HdSk68_run
-- (*orchard/cluster.Cluster).Round: 7421 operations of its own
def HdSk69 : Chunk := { f := 244, args := [(p 4 0)], nx := 66317, pre := HdSl81, v := (.tuple []), nx' := 68109, post := HdSl82 }
theorem HdSk69_run : runK Tryz.prog noHook 60 HdSk69 = true := by decide +kernel
theorem HdSk69_ok : HdSk69.ok Tryz.prog := runK_ok follows noHook_ok HdSk69_run
end
end Go.Ax
