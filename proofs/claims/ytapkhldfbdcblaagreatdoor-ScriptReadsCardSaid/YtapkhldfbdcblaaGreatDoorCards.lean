/-
  DERIVED. GIVEN WITH THE SEED: THE CARDS: each row of YtapkhldfbdcblaaGreatDoorRows.lean that lists a variable, with what it lists TIED to the program's text (the seventh form; the later family's looks); each row that meets fmt, with fmt's text TOLD by the authors' own Lean function (tested against real Go, not proved from fmt's source: count such statements apart). THE CARD IS WHAT COUNTS. Prove the row's statement (the work); the ties are given (YtapkhldfbdcblaaGreatDoorTie.lean); close each card by the builder's one call (the guide's Derived/Test/ToyasCard.lean, 'card_holds'). Laid BY PROGRAM, IN A SANDBOX (cutbox-door.mjs). By AI agents, Wed Nov 11 2026. No macro, syntax, notation, axiom, sorry.
-/
import Derived.Test.YtapkhldfbdcblaaGreatDoorRows
import GoSem.ClaimSeven
namespace Go.Proofs.YtapkhldfbdcblaaGreatDoor
namespace Rows

/-- THE TIED CARD OF 'orchardlaw21.ScriptReads'. -/
def scriptReadsCard : Claim7 := { stood := { row := scriptReadsRow, standIns := [], harness := (true, "0b5beb02e0e3138d3d955b77041916b501da922017b8a8e0d73b7093bd021964"), looks := true }, kinds := [], alts := [], laidByText := true, laidKinds := [.data, .data, .data, .data, .pinned], laidTests := true, laidLooks := .later }
def ScriptReadsCardSaid : Prop := Claim7.holds Tryz.pinned (.plain (OpenSpec.ofChange scriptReadsSpec)) scriptReadsCard

/-- THE TIED CARD OF 'orchardlaw21.ScriptMany'. -/
def scriptManyCard : Claim7 := { stood := { row := scriptManyRow, standIns := [], harness := (true, "0b5beb02e0e3138d3d955b77041916b501da922017b8a8e0d73b7093bd021964"), looks := true }, kinds := [], alts := [], laidByText := true, laidKinds := [.data, .data, .data, .data, .pinned], laidTests := true, laidLooks := .later }
def ScriptManyCardSaid : Prop := Claim7.holds Tryz.pinned (.plain (OpenSpec.ofChange scriptManySpec)) scriptManyCard

/-- THE TIED CARD OF 'orchardlaw18.ClientCalls'. -/
def clientCallsCard : Claim7 := { stood := { row := clientCallsRow, standIns := [], harness := (true, "0b5beb02e0e3138d3d955b77041916b501da922017b8a8e0d73b7093bd021964"), looks := true }, kinds := [], alts := [], laidByText := true, laidKinds := [.data, .data, .data, .data, .pinned], laidTests := true, laidLooks := .later }
def ClientCallsCardSaid : Prop := Claim7.holds Tryz.pinned (.plain (OpenSpec.ofChange clientCallsSpec)) clientCallsCard

/-- THE SECOND FORM's CARD OF 'orchardlaw21.ScriptReads'. -/
def scriptReadsUptoCard : Claim7 := { stood := { row := scriptReadsUptoRow, standIns := [], harness := (true, "0b5beb02e0e3138d3d955b77041916b501da922017b8a8e0d73b7093bd021964"), looks := true }, kinds := [], alts := [], laidByText := true, laidKinds := [.data, .data, .data, .data, .pinned], laidTests := true, laidLooks := .later }
def ScriptReadsUptoCardSaid : Prop := Claim7.holds Tryz.pinned (.plain (OpenSpec.upto scriptReadsSpec)) scriptReadsUptoCard

/-- THE SECOND FORM's CARD OF 'orchardlaw21.ScriptMany'. -/
def scriptManyUptoCard : Claim7 := { stood := { row := scriptManyUptoRow, standIns := [], harness := (true, "0b5beb02e0e3138d3d955b77041916b501da922017b8a8e0d73b7093bd021964"), looks := true }, kinds := [], alts := [], laidByText := true, laidKinds := [.data, .data, .data, .data, .pinned], laidTests := true, laidLooks := .later }
def ScriptManyUptoCardSaid : Prop := Claim7.holds Tryz.pinned (.plain (OpenSpec.upto scriptManySpec)) scriptManyUptoCard

/-- THE SECOND FORM's CARD OF 'orchardlaw18.ClientCalls'. -/
def clientCallsUptoCard : Claim7 := { stood := { row := clientCallsUptoRow, standIns := [], harness := (true, "0b5beb02e0e3138d3d955b77041916b501da922017b8a8e0d73b7093bd021964"), looks := true }, kinds := [], alts := [], laidByText := true, laidKinds := [.data, .data, .data, .data, .pinned], laidTests := true, laidLooks := .later }
def ClientCallsUptoCardSaid : Prop := Claim7.holds Tryz.pinned (.plain (OpenSpec.upto clientCallsSpec)) clientCallsUptoCard
end Rows
end Go.Proofs.YtapkhldfbdcblaaGreatDoor
