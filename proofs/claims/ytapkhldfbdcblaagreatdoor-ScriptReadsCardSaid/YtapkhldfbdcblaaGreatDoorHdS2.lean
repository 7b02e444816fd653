/- What functions come to, between heaps that are written out, by program. -/
import Derived.Test.YtapkhldfbdcblaaGreatDoorHdS0
set_option linter.unusedVariables false
set_option linter.unusedSimpArgs false
set_option linter.unusedSectionVars false
set_option linter.unnecessarySimpa false
namespace Go.Ax
open Go.Proofs W
set_option maxRecDepth 100000
set_option maxHeartbeats 16000000
noncomputable section
-- (*orchard/replica.Replica).Hear: 18295 operations of its own
def HdSk15 : Chunk := { f := 79, args := [(p 2791 0),(g [(i 1),(i 3),(i 1),(i 1),(i 0),(i 0),(i 0),(i 0),ns,f,(i 0),(i 0),(i 0),(i 0),ns,(i 0),(s 0 0)])], nx := 13694, pre := HdSl20, v := (.tuple []), nx' := 14425, post := HdSl21 }
theorem HdSk15_run : runK Tryz.prog noHook 60 HdSk15 = true := by decide +kernel
theorem HdSk15_ok : HdSk15.ok Tryz.prog := runK_ok follows noHook_ok HdSk15_run
-- (*orchard/replica.Replica).Hear: 18295 operations of its own
def HdSk16 : Chunk := { f := 79, args := [(p 5703 0),(g [(i 1),(i 3),(i 2),(i 1),(i 0),(i 0),(i 0),(i 0),ns,f,(i 0),(i 0),(i 0),(i 0),ns,(i 0),(s 0 0)])], nx := 14501, pre := HdSl22, v := (.tuple []), nx' := 15232, post := HdSl23 }
theorem HdSk16_run : runK Tryz.prog noHook 60 HdSk16 = true := by decide +kernel
theorem HdSk16_ok : HdSk16.ok Tryz.prog := runK_ok follows noHook_ok HdSk16_run
-- (*orchard/replica.Replica).Hear: 16471 operations of its own
def HdSk17 : Chunk := { f := 79, args := [(p 8615 0),(g [(i 2),(i 1),(i 3),(i 1),(i 0),(i 0),(i 0),(i 0),ns,t,(i 0),(i 0),(i 0),(i 0),ns,(i 0),(s 0 0)])], nx := 15308, pre := HdSl24, v := (.tuple []), nx' := 15978, post := HdSl25 }
theorem HdSk17_run : runK Tryz.prog noHook 60 HdSk17 = true := by decide +kernel
theorem HdSk17_ok : HdSk17.ok Tryz.prog := runK_ok follows noHook_ok HdSk17_run
-- (*orchard/replica.Replica).Hear: 6080 operations of its own
def HdSk18 : Chunk := { f := 79, args := [(p 2791 0),(g [(i 3),(i 3),(i 1),(i 1),(i 0),(i 0),(i 1),(i 0),(a 15754 0 1 3),f,(i 0),(i 0),(i 0),(i 0),ns,(i 0),(s 0 0)])], nx := 16300, pre := HdSl26, v := (.tuple []), nx' := 16777, post := HdSl27 }
theorem HdSk18_run : runK Tryz.prog noHook 60 HdSk18 = true := by decide +kernel
theorem HdSk18_ok : HdSk18.ok Tryz.prog := runK_ok follows noHook_ok HdSk18_run
-- (*orchard/replica.Replica).Hear: 6080 operations of its own
def HdSk19 : Chunk := { f := 79, args := [(p 5703 0),(g [(i 3),(i 3),(i 2),(i 1),(i 0),(i 0),(i 1),(i 0),(a 15884 0 1 3),f,(i 0),(i 0),(i 0),(i 0),ns,(i 0),(s 0 0)])], nx := 16853, pre := HdSl28, v := (.tuple []), nx' := 17330, post := HdSl29 }
theorem HdSk19_run : runK Tryz.prog noHook 60 HdSk19 = true := by decide +kernel
theorem HdSk19_ok : HdSk19.ok Tryz.prog := runK_ok follows noHook_ok HdSk19_run
-- (*orchard/replica.Replica).Hear: 7131 operations of its own
def HdSk20 : Chunk := { f := 79, args := [(p 8615 0),(g [(i 4),(i 1),(i 3),(i 1),(i 1),(i 0),(i 0),(i 0),ns,t,(i 0),(i 0),(i 0),(i 0),ns,(i 0),(s 0 0)])], nx := 17406, pre := HdSl30, v := (.tuple []), nx' := 17808, post := HdSl31 }
theorem HdSk20_run : runK Tryz.prog noHook 60 HdSk20 = true := by decide +kernel
theorem HdSk20_ok : HdSk20.ok Tryz.prog := runK_ok follows noHook_ok HdSk20_run
end
end Go.Ax
