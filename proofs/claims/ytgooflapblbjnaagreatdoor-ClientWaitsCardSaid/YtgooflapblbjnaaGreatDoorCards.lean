/-
  DERIVED. GIVEN WITH THE SEED: THE CARDS: each row of YtgooflapblbjnaaGreatDoorRows.lean that lists a variable, with what it lists TIED to the program's text (the seventh form; the later family's looks); each row that meets fmt, with fmt's text TOLD by the authors' own Lean function (tested against real Go, not proved from fmt's source: count such statements apart). THE CARD IS WHAT COUNTS. Prove the row's statement (the work); the ties are given (YtgooflapblbjnaaGreatDoorTie.lean); close each card by the builder's one call (the guide's Derived/Test/ToyasCard.lean, 'card_holds'). Laid BY PROGRAM, IN A SANDBOX (cutbox-door.mjs). By AI agents, Wed Nov 11 2026. No macro, syntax, notation, axiom, sorry.
-/
import Derived.Test.YtgooflapblbjnaaGreatDoorRows
import GoSem.ClaimSeven
namespace Go.Proofs.YtgooflapblbjnaaGreatDoor
namespace Rows

/-- THE TIED CARD OF 'orchardlaw18.ClientWaits'. -/
def clientWaitsCard : Claim7 := { stood := { row := clientWaitsRow, standIns := [], harness := (true, "c6b065f8db283882932f93481fbcb88079ed92406ba4892aaab8a0a8f79d5b08"), looks := true }, kinds := [], alts := [], laidByText := true, laidKinds := [.data, .data, .data, .data, .pinned], laidTests := true, laidLooks := .later }
def ClientWaitsCardSaid : Prop := Claim7.holds Tryz.pinned (.plain (OpenSpec.ofChange clientWaitsSpec)) clientWaitsCard

/-- THE SECOND FORM's CARD OF 'orchardlaw18.ClientWaits'. -/
def clientWaitsUptoCard : Claim7 := { stood := { row := clientWaitsUptoRow, standIns := [], harness := (true, "c6b065f8db283882932f93481fbcb88079ed92406ba4892aaab8a0a8f79d5b08"), looks := true }, kinds := [], alts := [], laidByText := true, laidKinds := [.data, .data, .data, .data, .pinned], laidTests := true, laidLooks := .later }
def ClientWaitsUptoCardSaid : Prop := Claim7.holds Tryz.pinned (.plain (OpenSpec.upto clientWaitsSpec)) clientWaitsUptoCard
end Rows
end Go.Proofs.YtgooflapblbjnaaGreatDoor
