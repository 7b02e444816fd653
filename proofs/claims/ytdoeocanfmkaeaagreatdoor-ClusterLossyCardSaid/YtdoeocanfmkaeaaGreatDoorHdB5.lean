/- What functions come to, between heaps that are written out, by program. -/
import Derived.Test.YtdoeocanfmkaeaaGreatDoorHdB0
set_option linter.unusedVariables false
set_option linter.unusedSimpArgs false
set_option linter.unusedSectionVars false
set_option linter.unnecessarySimpa false
namespace Go.Ax
open Go.Proofs W
set_option maxRecDepth 100000
set_option maxHeartbeats 16000000
noncomputable section
-- (*orchard/cluster.Cluster).Round: 1643 operations of its own
def HdBk54 : Chunk := { f := 40, args := [(p 1 0)], nx := 50794, pre := HdBl66, v := (.tuple []), nx' := 51164, post := HdBl67 }
theorem HdBk54_run : runK Tryz.prog noHook 60 HdBk54 = true := by decide +kernel
theorem HdBk54_ok : HdBk54.ok Tryz.prog := runK_ok follows noHook_ok HdBk54_run
-- (*orchard/cluster.Cluster).Round: 7421 operations of its own
def HdBk55 : Chunk := { f := 40, args := [(p 1 0)], nx := 51164, pre := HdBl67, v := (.tuple []), nx' := 52956, post := HdBl68 }
theorem HdBk55_run : runK Tryz.prog noHook 60 HdBk55 = true := by decide +kernel
theorem HdBk55_ok : HdBk55.ok Tryz.prog := runK_ok follows noHook_ok HdBk55_run
-- (*orchard/cluster.Cluster).Round: 1643 operations of its own
def HdBk56 : Chunk := { f := 40, args := [(p 1 0)], nx := 52956, pre := HdBl68, v := (.tuple []), nx' := 53326, post := HdBl69 }
theorem HdBk56_run : runK Tryz.prog noHook 60 HdBk56 = true := by decide +kernel
theorem HdBk56_ok : HdBk56.ok Tryz.prog := runK_ok follows noHook_ok HdBk56_run
-- (*orchard/cluster.Cluster).Round: 7421 operations of its own
def HdBk57 : Chunk := { f := 40, args := [(p 1 0)], nx := 53326, pre := HdBl69, v := (.tuple []), nx' := 55118, post := HdBl70 }
theorem HdBk57_run : runK Tryz.prog noHook 60 HdBk57 = true := by decide +kernel
theorem HdBk57_ok : HdBk57.ok Tryz.prog := runK_ok follows noHook_ok HdBk57_run
-- (*orchard/cluster.Cluster).Round: 1643 operations of its own
def HdBk58 : Chunk := { f := 40, args := [(p 1 0)], nx := 55118, pre := HdBl70, v := (.tuple []), nx' := 55488, post := HdBl71 }
theorem HdBk58_run : runK Tryz.prog noHook 60 HdBk58 = true := by decide +kernel
theorem HdBk58_ok : HdBk58.ok Tryz.prog := runK_ok follows noHook_ok HdBk58_run
-- (*orchard/cluster.Cluster).Round: 7421 operations of its own
def HdBk59 : Chunk := { f := 40, args := [(p 1 0)], nx := 55488, pre := HdBl71, v := (.tuple []), nx' := 57280, post := HdBl72 }
theorem HdBk59_run : runK Tryz.prog noHook 60 HdBk59 = true := by decide +kernel
theorem HdBk59_ok : HdBk59.ok Tryz.prog := runK_ok follows noHook_ok HdBk59_run
-- (*orchard/cluster.Cluster).Round: 1643 operations of its own
def HdBk60 : Chunk := { f := 40, args := [(p 1 0)], nx := 57280, pre := HdBl72, v := (.tuple []), nx' := 57650, post := HdBl73 }
theorem HdBk60_run : runK Tryz.prog noHook 60 HdBk60 = true := by decide +kernel
theorem HdBk60_ok : HdBk60.ok Tryz.prog := runK_ok follows noHook_ok HdBk60_run
-- (*orchard/cluster.Cluster).Round: 7421 operations of its own
def HdBk61 : Chunk := { f := 40, args := [(p 1 0)], nx := 57650, pre := HdBl73, v := (.tuple []), nx' := 59442, post := HdBl74 }
theorem HdBk61_run : runK Tryz.prog noHook 60 HdBk61 = true := by decide +kernel
theorem HdBk61_ok : HdBk61.ok Tryz.prog := runK_ok follows noHook_ok HdBk61_run
-- (*orchard/cluster.Cluster).Round: 1643 operations of its own
def HdBk62 : Chunk := { f := 40, args := [(p 1 0)], nx := 59442, pre := HdBl74, v := (.tuple []), nx' := 59812, post := HdBl75 }
theorem HdBk62_run : runK Tryz.prog noHook 60 HdBk62 = true := by decide +kernel
theorem HdBk62_ok : HdBk62.ok Tryz.prog := runK_ok follows noHook_ok HdBk62_run
-- (*orchard/cluster.Cluster).Round: 7421 operations of its own
def HdBk63 : Chunk := { f := 40, args := [(p 1 0)], nx := 59812, pre := HdBl75, v := (.tuple []), nx' := 61604, post := HdBl76 }
theorem HdBk63_run : runK Tryz.prog noHook 60 HdBk63 = true := by decide +kernel
theorem HdBk63_ok : HdBk63.ok Tryz.prog := runK_ok follows noHook_ok HdBk63_run
-- (*orchard/cluster.Cluster).Round: 1643 operations of its own
def HdBk64 : Chunk := { f := 40, args := [(p 1 0)], nx := 61604, pre := HdBl76, v := (.tuple []), nx' := 61974, post := HdBl77 }
theorem HdBk64_run : runK Tryz.prog noHook 60 HdBk64 = true := by decide +kernel
theorem HdBk64_ok : HdBk64.ok Tryz.prog := runK_ok follows noHook_ok HdBk64_run
-- (*orchard/cluster.Cluster).Round: 7421 operations of its own
def HdBk65 : Chunk := { f := 40, args := [(p 1 0)], nx := 61974, pre := HdBl77, v := (.tuple []), nx' := 63766, post := HdBl78 }
theorem HdBk65_run : runK Tryz.prog noHook 60 HdBk65 = true := by decide +kernel
theorem HdBk65_ok : HdBk65.ok Tryz.prog := runK_ok follows noHook_ok HdBk65_run
-- (*orchard/cluster.Cluster).Round: 1643 operations of its own
def HdBk66 : Chunk := { f := 40, args := [(p 1 0)], nx := 63766, pre := HdBl78, v := (.tuple []), nx' := 64136, post := HdBl79 }
theorem HdBk66_run : runK Tryz.prog noHook 60 HdBk66 = true := by decide +kernel
theorem HdBk66_ok : HdBk66.ok Tryz.prog := runK_ok follows noHook_ok HdBk66_run
-- (*orchard/cluster.Cluster).Round: 7421 operations of its own
def HdBk67 : Chunk := { f := 40, args := [(p 1 0)], nx := 64136, pre := HdBl79, v := (.tuple []), nx' := 65928, post := HdBl80 }
theorem HdBk67_run : runK Tryz.prog noHook 60 HdBk67 = true := by decide +kernel
theorem HdBk67_ok : HdBk67.ok Tryz.prog := runK_ok follows noHook_ok HdBk67_run
-- (*orchard/cluster.Cluster).Round: 1643 operations of its own
def HdBk68 : Chunk := { f := 40, args := [(p 1 0)], nx := 65928, pre := HdBl80, v := (.tuple []), nx' := 66298, post := HdBl81 }
theorem HdBk68_run : runK Tryz.prog noHook 60 HdBk68 = true := by decide +kernel
theorem HdBk68_ok : HdBk68.ok Tryz.prog := runK_ok follows noHook_ok HdBk68_run
-- (*orchard/cluster.Cluster).Round: 7421 operations of its own
def HdBk69 : Chunk := { f := 40, args := [(p 1 0)], nx := 66298, pre := HdBl81, v := (.tuple []), nx' := 68090, post := HdBl82 }
theorem HdBk69_run : runK Tryz.prog noHook 60 HdBk69 = true := by decide +kernel
theorem HdBk69_ok : HdBk69.ok Tryz.prog := runK_ok follows noHook_ok HdBk69_run
end
end Go.Ax
