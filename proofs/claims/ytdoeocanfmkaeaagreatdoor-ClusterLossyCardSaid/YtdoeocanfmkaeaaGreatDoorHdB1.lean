/- What functions come to, between heaps that are written out, by program. -/
import Derived.Test.YtdoeocanfmkaeaaGreatDoorHdB0
set_option linter.unusedVariables false
set_option linter.unusedSimpArgs false
set_option linter.unusedSectionVars false
set_option linter.unnecessarySimpa false
namespace Go.Ax
open Go.Proofs W
set_option maxRecDepth 100000
set_option maxHeartbeats 16000000
noncomputable section
-- orchard/replica.Open: 17423 operations of its own
def HdBk0 : Chunk := { f := 23, args := [(p 5 0),(i 1),(i 3)], nx := 6, pre := HdBl0, v := (.tuple [(p 2788 0),(i 0)]), nx' := 2890, post := HdBl1 }
theorem HdBk0_run : runK Tryz.prog noHook 60 HdBk0 = true := by decide +kernel
theorem HdBk0_ok : HdBk0.ok Tryz.prog := runK_ok follows noHook_ok HdBk0_run
-- orchard/replica.Open: 17423 operations of its own
def HdBk1 : Chunk := { f := 23, args := [(p 2917 0),(i 2),(i 3)], nx := 2918, pre := HdBl2, v := (.tuple [(p 5700 0),(i 0)]), nx' := 5802, post := HdBl3 }
theorem HdBk1_run : runK Tryz.prog noHook 60 HdBk1 = true := by decide +kernel
theorem HdBk1_ok : HdBk1.ok Tryz.prog := runK_ok follows noHook_ok HdBk1_run
-- orchard/replica.Open: 17423 operations of its own
def HdBk2 : Chunk := { f := 23, args := [(p 5829 0),(i 3),(i 3)], nx := 5830, pre := HdBl4, v := (.tuple [(p 8612 0),(i 0)]), nx' := 8714, post := HdBl5 }
theorem HdBk2_run : runK Tryz.prog noHook 60 HdBk2 = true := by decide +kernel
theorem HdBk2_ok : HdBk2.ok Tryz.prog := runK_ok follows noHook_ok HdBk2_run
-- (*orchard/cluster.Cluster).Round: 1325 operations of its own
def HdBk3 : Chunk := { f := 40, args := [(p 1 0)], nx := 8872, pre := HdBl6, v := (.tuple []), nx' := 9233, post := HdBl7 }
theorem HdBk3_run : runK Tryz.prog noHook 60 HdBk3 = true := by decide +kernel
theorem HdBk3_ok : HdBk3.ok Tryz.prog := runK_ok follows noHook_ok HdBk3_run
-- (*orchard/cluster.Cluster).Round: 1325 operations of its own
def HdBk4 : Chunk := { f := 40, args := [(p 1 0)], nx := 9233, pre := HdBl7, v := (.tuple []), nx' := 9594, post := HdBl8 }
theorem HdBk4_run : runK Tryz.prog noHook 60 HdBk4 = true := by decide +kernel
theorem HdBk4_ok : HdBk4.ok Tryz.prog := runK_ok follows noHook_ok HdBk4_run
-- (*orchard/cluster.Cluster).Round: 1325 operations of its own
def HdBk5 : Chunk := { f := 40, args := [(p 1 0)], nx := 9594, pre := HdBl8, v := (.tuple []), nx' := 9955, post := HdBl9 }
theorem HdBk5_run : runK Tryz.prog noHook 60 HdBk5 = true := by decide +kernel
theorem HdBk5_ok : HdBk5.ok Tryz.prog := runK_ok follows noHook_ok HdBk5_run
-- (*orchard/cluster.Cluster).Round: 1325 operations of its own
def HdBk6 : Chunk := { f := 40, args := [(p 1 0)], nx := 9955, pre := HdBl9, v := (.tuple []), nx' := 10316, post := HdBl10 }
theorem HdBk6_run : runK Tryz.prog noHook 60 HdBk6 = true := by decide +kernel
theorem HdBk6_ok : HdBk6.ok Tryz.prog := runK_ok follows noHook_ok HdBk6_run
-- (*orchard/cluster.Cluster).Round: 1325 operations of its own
def HdBk7 : Chunk := { f := 40, args := [(p 1 0)], nx := 10316, pre := HdBl10, v := (.tuple []), nx' := 10677, post := HdBl11 }
theorem HdBk7_run : runK Tryz.prog noHook 60 HdBk7 = true := by decide +kernel
theorem HdBk7_ok : HdBk7.ok Tryz.prog := runK_ok follows noHook_ok HdBk7_run
-- (*orchard/cluster.Cluster).Round: 1325 operations of its own
def HdBk8 : Chunk := { f := 40, args := [(p 1 0)], nx := 10677, pre := HdBl11, v := (.tuple []), nx' := 11038, post := HdBl12 }
theorem HdBk8_run : runK Tryz.prog noHook 60 HdBk8 = true := by decide +kernel
theorem HdBk8_ok : HdBk8.ok Tryz.prog := runK_ok follows noHook_ok HdBk8_run
-- (*orchard/cluster.Cluster).Round: 1325 operations of its own
def HdBk9 : Chunk := { f := 40, args := [(p 1 0)], nx := 11038, pre := HdBl12, v := (.tuple []), nx' := 11399, post := HdBl13 }
theorem HdBk9_run : runK Tryz.prog noHook 60 HdBk9 = true := by decide +kernel
theorem HdBk9_ok : HdBk9.ok Tryz.prog := runK_ok follows noHook_ok HdBk9_run
-- (*orchard/cluster.Cluster).Round: 1325 operations of its own
def HdBk10 : Chunk := { f := 40, args := [(p 1 0)], nx := 11399, pre := HdBl13, v := (.tuple []), nx' := 11760, post := HdBl14 }
theorem HdBk10_run : runK Tryz.prog noHook 60 HdBk10 = true := by decide +kernel
theorem HdBk10_ok : HdBk10.ok Tryz.prog := runK_ok follows noHook_ok HdBk10_run
-- (*orchard/cluster.Cluster).Round: 1325 operations of its own
def HdBk11 : Chunk := { f := 40, args := [(p 1 0)], nx := 11760, pre := HdBl14, v := (.tuple []), nx' := 12121, post := HdBl15 }
theorem HdBk11_run : runK Tryz.prog noHook 60 HdBk11 = true := by decide +kernel
theorem HdBk11_ok : HdBk11.ok Tryz.prog := runK_ok follows noHook_ok HdBk11_run
-- (*orchard/cluster.Cluster).Round: 1325 operations of its own
def HdBk12 : Chunk := { f := 40, args := [(p 1 0)], nx := 12121, pre := HdBl15, v := (.tuple []), nx' := 12482, post := HdBl16 }
theorem HdBk12_run : runK Tryz.prog noHook 60 HdBk12 = true := by decide +kernel
theorem HdBk12_ok : HdBk12.ok Tryz.prog := runK_ok follows noHook_ok HdBk12_run
-- (*orchard/cluster.Cluster).Round: 1325 operations of its own
def HdBk13 : Chunk := { f := 40, args := [(p 1 0)], nx := 12482, pre := HdBl16, v := (.tuple []), nx' := 12843, post := HdBl17 }
theorem HdBk13_run : runK Tryz.prog noHook 60 HdBk13 = true := by decide +kernel
theorem HdBk13_ok : HdBk13.ok Tryz.prog := runK_ok follows noHook_ok HdBk13_run
-- (*orchard/replica.Replica).Tick: 9405 operations of its own
def HdBk14 : Chunk := { f := 25, args := [(p 8612 0)], nx := 13071, pre := HdBl18, v := (.tuple []), nx' := 13559, post := HdBl19 }
theorem HdBk14_run : runK Tryz.prog noHook 60 HdBk14 = true := by decide +kernel
theorem HdBk14_ok : HdBk14.ok Tryz.prog := runK_ok follows noHook_ok HdBk14_run
end
end Go.Ax
