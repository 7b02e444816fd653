/- What functions come to, between heaps that are written out, by program. -/
import Derived.Test.YtdoeocanfmkaeaaGreatDoorHdB0
set_option linter.unusedVariables false
set_option linter.unusedSimpArgs false
set_option linter.unusedSectionVars false
set_option linter.unnecessarySimpa false
namespace Go.Ax
open Go.Proofs W
set_option maxRecDepth 100000
set_option maxHeartbeats 16000000
noncomputable section
-- (*orchard/cluster.Cluster).Round: 1643 operations of its own
def HdBk70 : Chunk := { f := 40, args := [(p 1 0)], nx := 68090, pre := HdBl82, v := (.tuple []), nx' := 68460, post := HdBl83 }
theorem HdBk70_run : runK Tryz.prog noHook 60 HdBk70 = true := by decide +kernel
theorem HdBk70_ok : HdBk70.ok Tryz.prog := runK_ok follows noHook_ok HdBk70_run
-- (*orchard/cluster.Cluster).Round: 7421 operations of its own
def HdBk71 : Chunk := { f := 40, args := [(p 1 0)], nx := 68460, pre := HdBl83, v := (.tuple []), nx' := 70252, post := HdBl84 }
theorem HdBk71_run : runK Tryz.prog noHook 60 HdBk71 = true := by decide +kernel
theorem HdBk71_ok : HdBk71.ok Tryz.prog := runK_ok follows noHook_ok HdBk71_run
-- (*orchard/cluster.Cluster).Level: 11001 operations of its own
def HdBk72 : Chunk := { f := 13, args := [(p 1 0)], nx := 70252, pre := HdBl85, v := t, nx' := 72055, post := [] }
theorem HdBk72_run : runK Tryz.prog noHook 60 HdBk72 = true := by decide +kernel
theorem HdBk72_ok : HdBk72.ok Tryz.prog := runK_ok follows noHook_ok HdBk72_run
end
end Go.Ax
