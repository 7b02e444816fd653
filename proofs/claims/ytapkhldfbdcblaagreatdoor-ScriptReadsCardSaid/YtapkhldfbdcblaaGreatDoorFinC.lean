/- ScriptReads: whatever bytes: steps whose bytes they are, or none: true for every input; the arguments read as they did. No condition beside the card's own. -/
import Derived.Test.YtapkhldfbdcblaaGreatDoorFinH
import Derived.ProofKit
import Derived.OpenShut
import Derived.LaidMore
import Derived.Lay
import Derived.SevenTiedAt
import Derived.Stop.Joined
import Derived.ChangeSame
import Derived.KernelRfl
set_option linter.unusedVariables false
set_option linter.unusedSimpArgs false
set_option linter.unusedSectionVars false
set_option linter.unnecessarySimpa false
namespace Go.Proofs.YtapkhldfbdcblaaGreatDoor
set_option maxHeartbeats 16000000
set_option maxRecDepth 100000
open Go Go.ChangeShapes Go.WideShapes Go.ChangeAt Go.RowKit
theorem goes_no (P : Program) (h : (P.funcs.toList.all fun g => !g.goes) = true) (f : FuncId) : P.goes f = false := by
  have h0 : ∀ fn ∈ P.funcs.toList, Func.goes fn = false := fun fn hm => by simpa using List.all_eq_true.1 h fn hm
  have h1 : ∀ g : FuncId, (P.funcs[g]?).any Func.goes = false := fun g => by
    cases e : P.funcs[g]? with
    | none => rfl
    | some fn => exact h0 fn (Array.mem_toList_iff.2 (Array.mem_of_getElem? e))
  have h2 : P.funcs.any Func.goes = false := by
    rw [← Array.any_toList]
    exact List.any_eq_false.2 fun x hx => by rw [h0 x hx]; exact Bool.false_ne_true
  unfold Program.goes
  rw [h2, Bool.and_false, Bool.or_false]
  exact List.any_eq_false.2 fun g _ => by rw [h1 g]; exact Bool.false_ne_true
theorem noGo : (Tryz.pinned.checked.prog.funcs.toList.all fun g => !g.goes) = true := by kernel_rfl
theorem goesBy_no : false = Rows.scriptReadsRow.goesBy Tryz.pinned.checked.prog := by
  have hs : Rows.scriptReadsRow.start = .entering := rfl
  unfold OpenClaim.goesBy Program.goesAt Program.goesFrom
  rw [hs, Bool.or_false]
  cases Tryz.pinned.checked.prog.funcNamed Rows.scriptReadsRow.func with
  | none => rfl
  | some f => exact (goes_no _ noGo f).symm
theorem scriptReads_card_holds : Rows.ScriptReadsCardSaid :=
  Claim7.holds_tied_plain_at .later [] [.data, .data, .data, .data, .pinned] true (true, "0b5beb02e0e3138d3d955b77041916b501da922017b8a8e0d73b7093bd021964") true scriptReads_holds (fun _ h => by cases h) (by as_aux_lemma => kernel_rfl) (fun _ h => by cases h) scriptReads_row_tie rfl ⟨rfl, rfl⟩ (by as_aux_lemma => kernel_rfl) rfl
    (fun f fn hf hfn => by
      obtain rfl : f = 3 := Option.some.inj ((show Tryz.prog.funcNamed "orchard/orchardlaw21.ScriptReads" = some 3 by as_aux_lemma => kernel_rfl).symm.trans hf) |>.symm
      obtain rfl : fn = Tryz.f3 := (Option.some.inj (Tryz.func3.symm.trans hfn)).symm
      exact ⟨by as_aux_lemma => kernel_rfl, fun j t ht => by
        rw [Tryz.params3] at ht
        have hm : t ∈ [9] := by simpa using Array.mem_of_getElem? ht
        have hall : ([9].all fun u => !Tryz.prog.wantsStandIn u) = true := by as_aux_lemma => kernel_rfl
        exact (show Tryz.prog.wantsStandIn t = false by simpa using List.all_eq_true.1 hall t hm)⟩)
    goesBy_no
#print axioms scriptReads_card_holds
end Go.Proofs.YtapkhldfbdcblaaGreatDoor
