/- What functions come to, between heaps that are written out, by program. -/
import Derived.Test.YtapkhldfbdcblaaGreatDoorHdS0
set_option linter.unusedVariables false
set_option linter.unusedSimpArgs false
set_option linter.unusedSectionVars false
set_option linter.unnecessarySimpa false
namespace Go.Ax
open Go.Proofs W
set_option maxRecDepth 100000
set_option maxHeartbeats 16000000
noncomputable section
-- (*orchard/cluster.Cluster).Round: 1643 operations of its own
def HdSk38 : Chunk := { f := 244, args := [(p 4 0)], nx := 33517, pre := HdSl50, v := (.tuple []), nx' := 33887, post := HdSl51 }
theorem HdSk38_run : runK Tryz.prog noHook 60 HdSk38 = true := by decide +kernel
theorem HdSk38_ok : HdSk38.ok Tryz.prog := runK_ok follows noHook_ok HdSk38_run
-- (*orchard/cluster.Cluster).Round: 7421 operations of its own
def HdSk39 : Chunk := { f := 244, args := [(p 4 0)], nx := 33887, pre := HdSl51, v := (.tuple []), nx' := 35679, post := HdSl52 }
theorem HdSk39_run : runK Tryz.prog noHook 60 HdSk39 = true := by decide +kernel
theorem HdSk39_ok : HdSk39.ok Tryz.prog := runK_ok follows noHook_ok HdSk39_run
-- (*orchard/cluster.Cluster).Round: 1643 operations of its own
def HdSk40 : Chunk := { f := 244, args := [(p 4 0)], nx := 35679, pre := HdSl52, v := (.tuple []), nx' := 36049, post := HdSl53 }
theorem HdSk40_run : runK Tryz.prog noHook 60 HdSk40 = true := by decide +kernel
theorem HdSk40_ok : HdSk40.ok Tryz.prog := runK_ok follows noHook_ok HdSk40_run
-- (*orchard/cluster.Cluster).Round: 7421 operations of its own
def HdSk41 : Chunk := { f := 244, args := [(p 4 0)], nx := 36049, pre := HdSl53, v := (.tuple []), nx' := 37841, post := HdSl54 }
theorem HdSk41_run : runK Tryz.prog noHook 60 HdSk41 = true := by decide +kernel
theorem HdSk41_ok : HdSk41.ok Tryz.prog := runK_ok follows noHook_ok HdSk41_run
-- (*orchard/cluster.Cluster).Round: 1643 operations of its own
def HdSk42 : Chunk := { f := 244, args := [(p 4 0)], nx := 37841, pre := HdSl54, v := (.tuple []), nx' := 38211, post := HdSl55 }
theorem HdSk42_run : runK Tryz.prog noHook 60 HdSk42 = true := by decide +kernel
theorem HdSk42_ok : HdSk42.ok Tryz.prog := runK_ok follows noHook_ok HdSk42_run
-- (*orchard/cluster.Cluster).Round: 7421 operations of its own
def HdSk43 : Chunk := { f := 244, args := [(p 4 0)], nx := 38211, pre := HdSl55, v := (.tuple []), nx' := 40003, post := HdSl56 }
theorem HdSk43_run : runK Tryz.prog noHook 60 HdSk43 = true := by decide +kernel
theorem HdSk43_ok : HdSk43.ok Tryz.prog := runK_ok follows noHook_ok HdSk43_run
-- (*orchard/cluster.Cluster).Round: 1643 operations of its own
def HdSk44 : Chunk := { f := 244, args := [(p 4 0)], nx := 40003, pre := HdSl56, v := (.tuple []), nx' := 40373, post := HdSl57 }
theorem HdSk44_run : runK Tryz.prog noHook 60 HdSk44 = true := by decide +kernel
theorem HdSk44_ok : HdSk44.ok Tryz.prog := runK_ok follows noHook_ok HdSk44_run
-- (*orchard/cluster.Cluster).Round: 7421 operations of its own
def HdSk45 : Chunk := { f := 244, args := [(p 4 0)], nx := 40373, pre := HdSl57, v := (.tuple []), nx' := 42165, post := HdSl58 }
theorem HdSk45_run : runK Tryz.prog noHook 60 HdSk45 = true := by decide +kernel
theorem HdSk45_ok : HdSk45.ok Tryz.prog := runK_ok follows noHook_ok HdSk45_run
-- (*orchard/cluster.Cluster).Round: 1643 operations of its own
def HdSk46 : Chunk := { f := 244, args := [(p 4 0)], nx := 42165, pre := HdSl58, v := (.tuple []), nx' := 42535, post := HdSl59 }
theorem HdSk46_run : runK Tryz.prog noHook 60 HdSk46 = true := by decide +kernel
theorem HdSk46_ok : HdSk46.ok Tryz.prog := runK_ok follows noHook_ok HdSk46_run
-- (*orchard/cluster.Cluster).Round: 7421 operations of its own
def HdSk47 : Chunk := { f := 244, args := [(p 4 0)], nx := 42535, pre := HdSl59, v := (.tuple []), nx' := 44327, post := HdSl60 }
theorem HdSk47_run : runK Tryz.prog noHook 60 HdSk47 = true := by decide +kernel
theorem HdSk47_ok : HdSk47.ok Tryz.prog := runK_ok follows noHook_ok HdSk47_run
-- (*orchard/cluster.Cluster).Round: 1643 operations of its own
def HdSk48 : Chunk := { f := 244, args := [(p 4 0)], nx := 44327, pre := HdSl60, v := (.tuple []), nx' := 44697, post := HdSl61 }
theorem HdSk48_run : runK Tryz.prog noHook 60 HdSk48 = true := by decide +kernel
theorem HdSk48_ok : HdSk48.ok Tryz.prog := runK_ok follows noHook_ok HdSk48_run
-- (*orchard/cluster.Cluster).Round: 7421 operations of its own
def HdSk49 : Chunk := { f := 244, args := [(p 4 0)], nx := 44697, pre := HdSl61, v := (.tuple []), nx' := 46489, post := HdSl62 }
theorem HdSk49_run : runK Tryz.prog noHook 60 HdSk49 = true := by decide +kernel
theorem HdSk49_ok : HdSk49.ok Tryz.prog := runK_ok follows noHook_ok HdSk49_run
-- (*orchard/cluster.Cluster).Round: 1643 operations of its own
def HdSk50 : Chunk := { f := 244, args := [(p 4 0)], nx := 46489, pre := HdSl62, v := (.tuple []), nx' := 46859, post := HdSl63 }
theorem HdSk50_run : runK Tryz.prog noHook 60 HdSk50 = true := by decide +kernel
theorem HdSk50_ok : HdSk50.ok Tryz.prog := runK_ok follows noHook_ok HdSk50_run
-- (*orchard/cluster.Cluster).Round: 7421 operations of its own
def HdSk51 : Chunk := { f := 244, args := [(p 4 0)], nx := 46859, pre := HdSl63, v := (.tuple []), nx' := 48651, post := HdSl64 }
theorem HdSk51_run : runK Tryz.prog noHook 60 HdSk51 = true := by decide +kernel
theorem HdSk51_ok : HdSk51.ok Tryz.prog := runK_ok follows noHook_ok HdSk51_run
-- (*orchard/cluster.Cluster).Round: 1643 operations of its own
def HdSk52 : Chunk := { f := 244, args := [(p 4 0)], nx := 48651, pre := HdSl64, v := (.tuple []), nx' := 49021, post := HdSl65 }
theorem HdSk52_run : runK Tryz.prog noHook 60 HdSk52 = true := by decide +kernel
theorem HdSk52_ok : HdSk52.ok Tryz.prog := runK_ok follows noHook_ok HdSk52_run
-- (*orchard/cluster.Cluster).Round: 7421 operations of its own
def HdSk53 : Chunk := { f := 244, args := [(p 4 0)], nx := 49021, pre := HdSl65, v := (.tuple []), nx' := 50813, post := HdSl66 }
theorem HdSk53_run : runK Tryz.prog noHook 60 HdSk53 = true := by decide +kernel
theorem HdSk53_ok : HdSk53.ok Tryz.prog := runK_ok follows noHook_ok HdSk53_run
end
end Go.Ax
