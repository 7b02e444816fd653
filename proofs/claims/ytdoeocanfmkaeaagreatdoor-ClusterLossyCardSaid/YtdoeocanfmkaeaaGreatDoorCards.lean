/-
  DERIVED. GIVEN WITH THE SEED: THE CARDS: each row of YtdoeocanfmkaeaaGreatDoorRows.lean that lists a variable, with what it lists TIED to the program's text (the seventh form; the later family's looks); each row that meets fmt, with fmt's text TOLD by the authors' own Lean function (tested against real Go, not proved from fmt's source: count such statements apart). THE CARD IS WHAT COUNTS. Prove the row's statement (the work); the ties are given (YtdoeocanfmkaeaaGreatDoorTie.lean); close each card by the builder's one call (the guide's Derived/Test/ToyasCard.lean, 'card_holds'). Laid BY PROGRAM, IN A SANDBOX (cutbox-door.mjs). By AI agents, Wed Nov 11 2026. No macro, syntax, notation, axiom, sorry.
-/
import Derived.Test.YtdoeocanfmkaeaaGreatDoorRows
import GoSem.ClaimSeven
namespace Go.Proofs.YtdoeocanfmkaeaaGreatDoor
namespace Rows

/-- THE TIED CARD OF 'orchardlaw19.ClusterLossy'. -/
def clusterLossyCard : Claim7 := { stood := { row := clusterLossyRow, standIns := [], harness := (true, "86ad908f3ed27fece22b33677fb88aa5b6b458c83752a5658178b1a66c6c3eed"), looks := true }, kinds := [], alts := [], laidByText := true, laidKinds := [.data, .data, .data, .data, .pinned], laidTests := true, laidLooks := .later }
def ClusterLossyCardSaid : Prop := Claim7.holds Tryz.pinned (.plain (OpenSpec.ofChange clusterLossySpec)) clusterLossyCard

/-- THE TIED CARD OF 'orchardlaw19.ClusterNew'. -/
def clusterNewCard : Claim7 := { stood := { row := clusterNewRow, standIns := [], harness := (true, "86ad908f3ed27fece22b33677fb88aa5b6b458c83752a5658178b1a66c6c3eed"), looks := true }, kinds := [], alts := [], laidByText := true, laidKinds := [.data, .data, .data, .data, .pinned], laidTests := true, laidLooks := .later }
def ClusterNewCardSaid : Prop := Claim7.holds Tryz.pinned (.plain (OpenSpec.ofChange clusterNewSpec)) clusterNewCard

/-- THE SECOND FORM's CARD OF 'orchardlaw19.ClusterLossy'. -/
def clusterLossyUptoCard : Claim7 := { stood := { row := clusterLossyUptoRow, standIns := [], harness := (true, "86ad908f3ed27fece22b33677fb88aa5b6b458c83752a5658178b1a66c6c3eed"), looks := true }, kinds := [], alts := [], laidByText := true, laidKinds := [.data, .data, .data, .data, .pinned], laidTests := true, laidLooks := .later }
def ClusterLossyUptoCardSaid : Prop := Claim7.holds Tryz.pinned (.plain (OpenSpec.upto clusterLossySpec)) clusterLossyUptoCard

/-- THE SECOND FORM's CARD OF 'orchardlaw19.ClusterNew'. -/
def clusterNewUptoCard : Claim7 := { stood := { row := clusterNewUptoRow, standIns := [], harness := (true, "86ad908f3ed27fece22b33677fb88aa5b6b458c83752a5658178b1a66c6c3eed"), looks := true }, kinds := [], alts := [], laidByText := true, laidKinds := [.data, .data, .data, .data, .pinned], laidTests := true, laidLooks := .later }
def ClusterNewUptoCardSaid : Prop := Claim7.holds Tryz.pinned (.plain (OpenSpec.upto clusterNewSpec)) clusterNewUptoCard
end Rows
end Go.Proofs.YtdoeocanfmkaeaaGreatDoor
