/- The row's closed facts, one by one. -/
import Derived.Test.YtapkhldfbdcblaaGreatDoorTie
import Derived.Test.YtapkhldfbdcblaaGreatDoorCards
import Derived.ProofKit
import Derived.KernelRfl
set_option linter.unusedVariables false
set_option linter.unusedSimpArgs false
set_option linter.unusedSectionVars false
set_option linter.unnecessarySimpa false
namespace Go.Proofs.YtapkhldfbdcblaaGreatDoor
open Go
set_option maxRecDepth 100000
set_option maxHeartbeats 16000000
theorem joined3 : joinedFacts Tryz.pinned.checked.prog 3 Tryz.f3 Rows.scriptReadsSpec Rows.scriptReadsRow = true := by
  unfold joinedFacts
  simp only [Bool.and_eq_true]
  repeat' with_reducible apply And.intro
  all_goals as_aux_lemma => kernel_rfl
theorem named3 : Tryz.pinned.checked.prog.funcNamed Rows.scriptReadsRow.func = some 3 := by kernel_rfl
theorem inst3 : Tryz.f3.isInstance Tryz.pinned.checked.prog Rows.scriptReadsRow.origin Rows.scriptReadsRow.targs := of_decide_eq_true (by kernel_rfl)
theorem wrap3 : Tryz.f3.isWrapper Tryz.pinned.checked.prog Rows.scriptReadsRow.wrapper Rows.scriptReadsRow.mainSum := by unfold Func.isWrapper; first | (rw [if_pos (by decide +kernel)]; kernel_rfl) | (rw [if_neg (by decide +kernel)]; exact ⟨rfl, rfl⟩)
end Go.Proofs.YtapkhldfbdcblaaGreatDoor
