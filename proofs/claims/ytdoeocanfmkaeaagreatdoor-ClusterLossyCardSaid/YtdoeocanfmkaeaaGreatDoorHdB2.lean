/- What functions come to, between heaps that are written out, by program. -/
import Derived.Test.YtdoeocanfmkaeaaGreatDoorHdB0
set_option linter.unusedVariables false
set_option linter.unusedSimpArgs false
set_option linter.unusedSectionVars false
set_option linter.unnecessarySimpa false
namespace Go.Ax
open Go.Proofs W
set_option maxRecDepth 100000
set_option maxHeartbeats 16000000
noncomputable section
-- (*orchard/replica.Replica).Hear: 18295 operations of its own
def HdBk15 : Chunk := { f := 117, args := [(p 2788 0),(g [(i 1),(i 3),(i 1),(i 1),(i 0),(i 0),(i 0),(i 0),ns,f,(i 0),(i 0),(i 0),(i 0),ns,(i 0),(s 0 0)])], nx := 13675, pre := HdBl20, v := (.tuple []), nx' := 14406, post := HdBl21 }
theorem HdBk15_run : runK Tryz.prog noHook 60 HdBk15 = true := by decide +kernel
theorem HdBk15_ok : HdBk15.ok Tryz.prog := runK_ok follows noHook_ok HdBk15_run
-- (*orchard/replica.Replica).Hear: 18295 operations of its own
def HdBk16 : Chunk := { f := 117, args := [(p 5700 0),(g [(i 1),(i 3),(i 2),(i 1),(i 0),(i 0),(i 0),(i 0),ns,f,(i 0),(i 0),(i 0),(i 0),ns,(i 0),(s 0 0)])], nx := 14482, pre := HdBl22, v := (.tuple []), nx' := 15213, post := HdBl23 }
theorem HdBk16_run : runK Tryz.prog noHook 60 HdBk16 = true := by decide +kernel
theorem HdBk16_ok : HdBk16.ok Tryz.prog := runK_ok follows noHook_ok HdBk16_run
-- (*orchard/replica.Replica).Hear: 16471 operations of its own
def HdBk17 : Chunk := { f := 117, args := [(p 8612 0),(g [(i 2),(i 1),(i 3),(i 1),(i 0),(i 0),(i 0),(i 0),ns,t,(i 0),(i 0),(i 0),(i 0),ns,(i 0),(s 0 0)])], nx := 15289, pre := HdBl24, v := (.tuple []), nx' := 15959, post := HdBl25 }
theorem HdBk17_run : runK Tryz.prog noHook 60 HdBk17 = true := by decide +kernel
theorem HdBk17_ok : HdBk17.ok Tryz.prog := runK_ok follows noHook_ok HdBk17_run
-- (*orchard/replica.Replica).Hear: 6080 operations of its own
def HdBk18 : Chunk := { f := 117, args := [(p 2788 0),(g [(i 3),(i 3),(i 1),(i 1),(i 0),(i 0),(i 1),(i 0),(a 15735 0 1 3),f,(i 0),(i 0),(i 0),(i 0),ns,(i 0),(s 0 0)])], nx := 16281, pre := HdBl26, v := (.tuple []), nx' := 16758, post := HdBl27 }
theorem HdBk18_run : runK Tryz.prog noHook 60 HdBk18 = true := by decide +kernel
theorem HdBk18_ok : HdBk18.ok Tryz.prog := runK_ok follows noHook_ok HdBk18_run
-- (*orchard/replica.Replica).Hear: 6080 operations of its own
def HdBk19 : Chunk := { f := 117, args := [(p 5700 0),(g [(i 3),(i 3),(i 2),(i 1),(i 0),(i 0),(i 1),(i 0),(a 15865 0 1 3),f,(i 0),(i 0),(i 0),(i 0),ns,(i 0),(s 0 0)])], nx := 16834, pre := HdBl28, v := (.tuple []), nx' := 17311, post := HdBl29 }
theorem HdBk19_run : runK Tryz.prog noHook 60 HdBk19 = true := by decide +kernel
theorem HdBk19_ok : HdBk19.ok Tryz.prog := runK_ok follows noHook_ok HdBk19_run
-- (*orchard/replica.Replica).Hear: 7131 operations of its own
def HdBk20 : Chunk := { f := 117, args := [(p 8612 0),(g [(i 4),(i 1),(i 3),(i 1),(i 1),(i 0),(i 0),(i 0),ns,t,(i 0),(i 0),(i 0),(i 0),ns,(i 0),(s 0 0)])], nx := 17387, pre := HdBl30, v := (.tuple []), nx' := 17789, post := HdBl31 }
theorem HdBk20_run : runK Tryz.prog noHook 60 HdBk20 = true := by decide +kernel
theorem HdBk20_ok : HdBk20.ok Tryz.prog := runK_ok follows noHook_ok HdBk20_run
end
end Go.Ax
