/- What functions come to, between heaps that are written out, by program. -/
import Derived.Test.YtapkhldfbdcblaaGreatDoorHdS0
set_option linter.unusedVariables false
set_option linter.unusedSimpArgs false
set_option linter.unusedSectionVars false
set_option linter.unnecessarySimpa false
namespace Go.Ax
open Go.Proofs W
set_option maxRecDepth 100000
set_option maxHeartbeats 16000000
noncomputable section
-- (*orchard/cluster.Cluster).Round: 1643 operations of its own
def HdSk70 : Chunk := { f := 244, args := [(p 4 0)], nx := 68109, pre := HdSl82, v := (.tuple []), nx' := 68479, post := HdSl83 }
theorem HdSk70_run : runK Tryz.prog noHook 60 HdSk70 = true := by decide +kernel
theorem HdSk70_ok : HdSk70.ok Tryz.prog := runK_ok follows noHook_ok HdSk70_run
-- (*orchard/cluster.Cluster).Round: 7421 operations of its own
def HdSk71 : Chunk := { f := 244, args := [(p 4 0)], nx := 68479, pre := HdSl83, v := (.tuple []), nx' := 70271, post := HdSl84 }
theorem HdSk71_run : runK Tryz.prog noHook 60 HdSk71 = true := by decide +kernel
theorem HdSk71_ok : HdSk71.ok Tryz.prog := runK_ok follows noHook_ok HdSk71_run
-- (*orchard/judge.Judge).Watch: 27271 operations of its own
def HdSk72 : Chunk := { f := 67, args := [(p 8765 0),(p 4 0)], nx := 70281, pre := HdSl85, v := t, nx' := 72371, post := HdSl86 }
theorem HdSk72_run : runK Tryz.prog noHook 60 HdSk72 = true := by decide +kernel
theorem HdSk72_ok : HdSk72.ok Tryz.prog := runK_ok follows noHook_ok HdSk72_run
end
end Go.Ax
