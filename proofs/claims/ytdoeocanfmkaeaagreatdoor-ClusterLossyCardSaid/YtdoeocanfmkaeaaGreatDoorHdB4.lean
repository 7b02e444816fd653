/- What functions come to, between heaps that are written out, by program. -/
import Derived.Test.YtdoeocanfmkaeaaGreatDoorHdB0
set_option linter.unusedVariables false
set_option linter.unusedSimpArgs false
set_option linter.unusedSectionVars false
set_option linter.unnecessarySimpa false
namespace Go.Ax
open Go.Proofs W
set_option maxRecDepth 100000
set_option maxHeartbeats 16000000
noncomputable section
-- (*orchard/cluster.Cluster).Round: 1643 operations of its own
def HdBk38 : Chunk := { f := 40, args := [(p 1 0)], nx := 33498, pre := HdBl50, v := (.tuple []), nx' := 33868, post := HdBl51 }
theorem HdBk38_run : runK Tryz.prog noHook 60 HdBk38 = true := by decide +kernel
theorem HdBk38_ok : HdBk38.ok Tryz.prog := runK_ok follows noHook_ok HdBk38_run
-- (*orchard/cluster.Cluster).Round: 7421 operations of its own
def HdBk39 : Chunk := { f := 40, args := [(p 1 0)], nx := 33868, pre := HdBl51, v := (.tuple []), nx' := 35660, post := HdBl52 }
theorem HdBk39_run : runK Tryz.prog noHook 60 HdBk39 = true := by decide +kernel
theorem HdBk39_ok : HdBk39.ok Tryz.prog := runK_ok follows noHook_ok HdBk39_run
-- (*orchard/cluster.Cluster).Round: 1643 operations of its own
def HdBk40 : Chunk := { f := 40, args := [(p 1 0)], nx := 35660, pre := HdBl52, v := (.tuple []), nx' := 36030, post := HdBl53 }
theorem HdBk40_run : runK Tryz.prog noHook 60 HdBk40 = true := by decide +kernel
theorem HdBk40_ok : HdBk40.ok Tryz.prog := runK_ok follows noHook_ok HdBk40_run
-- (*orchard/cluster.Cluster).Round: 7421 operations of its own
def HdBk41 : Chunk := { f := 40, args := [(p 1 0)], nx := 36030, pre := HdBl53, v := (.tuple []), nx' := 37822, post := HdBl54 }
theorem HdBk41_run : runK Tryz.prog noHook 60 HdBk41 = true := by decide +kernel
theorem HdBk41_ok : HdBk41.ok Tryz.prog := runK_ok follows noHook_ok HdBk41_run
-- (*orchard/cluster.Cluster).Round: 1643 operations of its own
def HdBk42 : Chunk := { f := 40, args := [(p 1 0)], nx := 37822, pre := HdBl54, v := (.tuple []), nx' := 38192, post := HdBl55 }
theorem HdBk42_run : runK Tryz.prog noHook 60 HdBk42 = true := by decide +kernel
theorem HdBk42_ok : HdBk42.ok Tryz.prog := runK_ok follows noHook_ok HdBk42_run
-- (*orchard/cluster.Cluster).Round: 7421 operations of its own
def HdBk43 : Chunk := { f := 40, args := [(p 1 0)], nx := 38192, pre := HdBl55, v := (.tuple []), nx' := 39984, post := HdBl56 }
theorem HdBk43_run : runK Tryz.prog noHook 60 HdBk43 = true := by decide +kernel
theorem HdBk43_ok : HdBk43.ok Tryz.prog := runK_ok follows noHook_ok HdBk43_run
-- (*orchard/cluster.Cluster).Round: 1643 operations of its own
def HdBk44 : Chunk := { f := 40, args := [(p 1 0)], nx := 39984, pre := HdBl56, v := (.tuple []), nx' := 40354, post := HdBl57 }
theorem HdBk44_run : runK Tryz.prog noHook 60 HdBk44 = true := by decide +kernel
theorem HdBk44_ok : HdBk44.ok Tryz.prog := runK_ok follows noHook_ok HdBk44_run
-- (*orchard/cluster.Cluster).Round: 7421 operations of its own
def HdBk45 : Chunk := { f := 40, args := [(p 1 0)], nx := 40354, pre := HdBl57, v := (.tuple []), nx' := 42146, post := HdBl58 }
theorem HdBk45_run : runK Tryz.prog noHook 60 HdBk45 = true := by decide +kernel
theorem HdBk45_ok : HdBk45.ok Tryz.prog := runK_ok follows noHook_ok HdBk45_run
-- (*orchard/cluster.Cluster).Round: 1643 operations of its own
def HdBk46 : Chunk := { f := 40, args := [(p 1 0)], nx := 42146, pre := HdBl58, v := (.tuple []), nx' := 42516, post := HdBl59 }
theorem HdBk46_run : runK Tryz.prog noHook 60 HdBk46 = true := by decide +kernel
theorem HdBk46_ok : HdBk46.ok Tryz.prog := runK_ok follows noHook_ok HdBk46_run
-- (*orchard/cluster.Cluster).Round: 7421 operations of its own
def HdBk47 : Chunk := { f := 40, args := [(p 1 0)], nx := 42516, pre := HdBl59, v := (.tuple []), nx' := 44308, post := HdBl60 }
theorem HdBk47_run : runK Tryz.prog noHook 60 HdBk47 = true := by decide +kernel
theorem HdBk47_ok : HdBk47.ok Tryz.prog := runK_ok follows noHook_ok HdBk47_run
-- (*orchard/cluster.Cluster).Round: 1643 operations of its own
def HdBk48 : Chunk := { f := 40, args := [(p 1 0)], nx := 44308, pre := HdBl60, v := (.tuple []), nx' := 44678, post := HdBl61 }
theorem HdBk48_run : runK Tryz.prog noHook 60 HdBk48 = true := by decide +kernel
theorem HdBk48_ok : HdBk48.ok Tryz.prog := runK_ok follows noHook_ok HdBk48_run
-- (*orchard/cluster.Cluster).Round: 7421 operations of its own
def HdBk49 : Chunk := { f := 40, args := [(p 1 0)], nx := 44678, pre := HdBl61, v := (.tuple []), nx' := 46470, post := HdBl62 }
theorem HdBk49_run : runK Tryz.prog noHook 60 HdBk49 = true := by decide +kernel
theorem HdBk49_ok : HdBk49.ok Tryz.prog := runK_ok follows noHook_ok HdBk49_run
-- (*orchard/cluster.Cluster).Round: 1643 operations of its own
def HdBk50 : Chunk := { f := 40, args := [(p 1 0)], nx := 46470, pre := HdBl62, v := (.tuple []), nx' := 46840, post := HdBl63 }
theorem HdBk50_run : runK Tryz.prog noHook 60 HdBk50 = true := by decide +kernel
theorem HdBk50_ok : HdBk50.ok Tryz.prog := runK_ok follows noHook_ok HdBk50_run
-- (*orchard/cluster.Cluster).Round: 7421 operations of its own
def HdBk51 : Chunk := { f := 40, args := [(p 1 0)], nx := 46840, pre := HdBl63, v := (.tuple []), nx' := 48632, post := HdBl64 }
theorem HdBk51_run : runK Tryz.prog noHook 60 HdBk51 = true := by decide +kernel
theorem HdBk51_ok : HdBk51.ok Tryz.prog := runK_ok follows noHook_ok HdBk51_run
-- (*orchard/cluster.Cluster).Round: 1643 operations of its own
def HdBk52 : Chunk := { f := 40, args := [(p 1 0)], nx := 48632, pre := HdBl64, v := (.tuple []), nx' := 49002, post := HdBl65 }
theorem HdBk52_run : runK Tryz.prog noHook 60 HdBk52 = true := by decide +kernel
theorem HdBk52_ok : HdBk52.ok Tryz.prog := runK_ok follows noHook_ok HdBk52_run
-- (*orchard/cluster.Cluster).Round: 7421 operations of its own
def HdBk53 : Chunk := { f := 40, args := [(p 1 0)], nx := 49002, pre := HdBl65, v := (.tuple []), nx' := 50794, post := HdBl66 }
theorem HdBk53_run : runK Tryz.prog noHook 60 HdBk53 = true := by decide +kernel
theorem HdBk53_ok : HdBk53.ok Tryz.prog := runK_ok follows noHook_ok HdBk53_run
end
end Go.Ax
