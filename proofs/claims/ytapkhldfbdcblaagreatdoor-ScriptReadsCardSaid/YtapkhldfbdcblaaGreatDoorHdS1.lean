/- What functions come to, between heaps that are written out, by program. -/
import Derived.Test.YtapkhldfbdcblaaGreatDoorHdS0
set_option linter.unusedVariables false
set_option linter.unusedSimpArgs false
set_option linter.unusedSectionVars false
set_option linter.unnecessarySimpa false
namespace Go.Ax
open Go.Proofs W
set_option maxRecDepth 100000
set_option maxHeartbeats 16000000
noncomputable section
-- orchard/replica.Open: 17423 operations of its own
def HdSk0 : Chunk := { f := 50, args := [(p 8 0),(i 1),(i 3)], nx := 9, pre := HdSl0, v := (.tuple [(p 2791 0),(i 0)]), nx' := 2893, post := HdSl1 }
theorem HdSk0_run : runK Tryz.prog noHook 60 HdSk0 = true := by decide +kernel
theorem HdSk0_ok : HdSk0.ok Tryz.prog := runK_ok follows noHook_ok HdSk0_run
-- orchard/replica.Open: 17423 operations of its own
def HdSk1 : Chunk := { f := 50, args := [(p 2920 0),(i 2),(i 3)], nx := 2921, pre := HdSl2, v := (.tuple [(p 5703 0),(i 0)]), nx' := 5805, post := HdSl3 }
theorem HdSk1_run : runK Tryz.prog noHook 60 HdSk1 = true := by decide +kernel
theorem HdSk1_ok : HdSk1.ok Tryz.prog := runK_ok follows noHook_ok HdSk1_run
-- orchard/replica.Open: 17423 operations of its own
def HdSk2 : Chunk := { f := 50, args := [(p 5832 0),(i 3),(i 3)], nx := 5833, pre := HdSl4, v := (.tuple [(p 8615 0),(i 0)]), nx' := 8717, post := HdSl5 }
theorem HdSk2_run : runK Tryz.prog noHook 60 HdSk2 = true := by decide +kernel
theorem HdSk2_ok : HdSk2.ok Tryz.prog := runK_ok follows noHook_ok HdSk2_run
-- (*orchard/cluster.Cluster).Round: 1325 operations of its own
def HdSk3 : Chunk := { f := 244, args := [(p 4 0)], nx := 8891, pre := HdSl6, v := (.tuple []), nx' := 9252, post := HdSl7 }
theorem HdSk3_run : runK Tryz.prog noHook 60 HdSk3 = true := by decide +kernel
theorem HdSk3_ok : HdSk3.ok Tryz.prog := runK_ok follows noHook_ok HdSk3_run
-- (*orchard/cluster.Cluster).Round: 1325 operations of its own
def HdSk4 : Chunk := { f := 244, args := [(p 4 0)], nx := 9252, pre := HdSl7, v := (.tuple []), nx' := 9613, post := HdSl8 }
theorem HdSk4_run : runK Tryz.prog noHook 60 HdSk4 = true := by decide +kernel
theorem HdSk4_ok : HdSk4.ok Tryz.prog := runK_ok follows noHook_ok HdSk4_run
-- (*orchard/cluster.Cluster).Round: 1325 operations of its own
def HdSk5 : Chunk := { f := 244, args := [(p 4 0)], nx := 9613, pre := HdSl8, v := (.tuple []), nx' := 9974, post := HdSl9 }
theorem HdSk5_run : runK Tryz.prog noHook 60 HdSk5 = true := by decide +kernel
theorem HdSk5_ok : HdSk5.ok Tryz.prog := runK_ok follows noHook_ok HdSk5_run
-- (*orchard/cluster.Cluster).Round: 1325 operations of its own
def HdSk6 : Chunk := { f := 244, args := [(p 4 0)], nx := 9974, pre := HdSl9, v := (.tuple []), nx' := 10335, post := HdSl10 }
theorem HdSk6_run : runK Tryz.prog noHook 60 HdSk6 = true := by decide +kernel
theorem HdSk6_ok : HdSk6.ok Tryz.prog := runK_ok follows noHook_ok HdSk6_run
-- (*orchard/cluster.Cluster).Round: 1325 operations of its own
def HdSk7 : Chunk := { f := 244, args := [(p 4 0)], nx := 10335, pre := HdSl10, v := (.tuple []), nx' := 10696, post := HdSl11 }
theorem HdSk7_run : runK Tryz.prog noHook 60 HdSk7 = true := by decide +kernel
theorem HdSk7_ok : HdSk7.ok Tryz.prog := runK_ok follows noHook_ok HdSk7_run
-- (*orchard/cluster.Cluster).Round: 1325 operations of its own
def HdSk8 : Chunk := { f := 244, args := [(p 4 0)], nx := 10696, pre := HdSl11, v := (.tuple []), nx' := 11057, post := HdSl12 }
theorem HdSk8_run : runK Tryz.prog noHook 60 HdSk8 = true := by decide +kernel
theorem HdSk8_ok : HdSk8.ok Tryz.prog := runK_ok follows noHook_ok HdSk8_run
-- (*orchard/cluster.Cluster).Round: 1325 operations of its own
def HdSk9 : Chunk := { f := 244, args := [(p 4 0)], nx := 11057, pre := HdSl12, v := (.tuple []), nx' := 11418, post := HdSl13 }
theorem HdSk9_run : runK Tryz.prog noHook 60 HdSk9 = true := by decide +kernel
theorem HdSk9_ok : HdSk9.ok Tryz.prog := runK_ok follows noHook_ok HdSk9_run
-- (*orchard/cluster.Cluster).Round: 1325 operations of its own
def HdSk10 : Chunk := { f := 244, args := [(p 4 0)], nx := 11418, pre := HdSl13, v := (.tuple []), nx' := 11779, post := HdSl14 }
theorem HdSk10_run : runK Tryz.prog noHook 60 HdSk10 = true := by decide +kernel
theorem HdSk10_ok : HdSk10.ok Tryz.prog := runK_ok follows noHook_ok HdSk10_run
-- (*orchard/cluster.Cluster).Round: 1325 operations of its own
def HdSk11 : Chunk := { f := 244, args := [(p 4 0)], nx := 11779, pre := HdSl14, v := (.tuple []), nx' := 12140, post := HdSl15 }
theorem HdSk11_run : runK Tryz.prog noHook 60 HdSk11 = true := by decide +kernel
theorem HdSk11_ok : HdSk11.ok Tryz.prog := runK_ok follows noHook_ok HdSk11_run
-- (*orchard/cluster.Cluster).Round: 1325 operations of its own
def HdSk12 : Chunk := { f := 244, args := [(p 4 0)], nx := 12140, pre := HdSl15, v := (.tuple []), nx' := 12501, post := HdSl16 }
theorem HdSk12_run : runK Tryz.prog noHook 60 HdSk12 = true := by decide +kernel
theorem HdSk12_ok : HdSk12.ok Tryz.prog := runK_ok follows noHook_ok HdSk12_run
-- (*orchard/cluster.Cluster).Round: 1325 operations of its own
def HdSk13 : Chunk := { f := 244, args := [(p 4 0)], nx := 12501, pre := HdSl16, v := (.tuple []), nx' := 12862, post := HdSl17 }
theorem HdSk13_run : runK Tryz.prog noHook 60 HdSk13 = true := by decide +kernel
theorem HdSk13_ok : HdSk13.ok Tryz.prog := runK_ok follows noHook_ok HdSk13_run
-- (*orchard/replica.Replica).Tick: 9405 operations of its own
def HdSk14 : Chunk := { f := 77, args := [(p 8615 0)], nx := 13090, pre := HdSl18, v := (.tuple []), nx' := 13578, post := HdSl19 }
theorem HdSk14_run : runK Tryz.prog noHook 60 HdSk14 = true := by decide +kernel
theorem HdSk14_ok : HdSk14.ok Tryz.prog := runK_ok follows noHook_ok HdSk14_run
end
end Go.Ax
