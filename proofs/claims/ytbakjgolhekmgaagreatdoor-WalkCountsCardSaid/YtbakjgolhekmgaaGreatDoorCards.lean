/-
  DERIVED. GIVEN WITH THE SEED: THE CARDS: each row of YtbakjgolhekmgaaGreatDoorRows.lean that lists a variable, with what it lists TIED to the program's text (the seventh form; the later family's looks); each row that meets fmt, with fmt's text TOLD by the authors' own Lean function (tested against real Go, not proved from fmt's source: count such statements apart). THE CARD IS WHAT COUNTS. Prove the row's statement (the work); the ties are given (YtbakjgolhekmgaaGreatDoorTie.lean); close each card by the builder's one call (the guide's Derived/Test/ToyasCard.lean, 'card_holds'). Laid BY PROGRAM, IN A SANDBOX (cutbox-door.mjs). By AI agents, Wed Nov 11 2026. No macro, syntax, notation, axiom, sorry.
-/
import Derived.Test.YtbakjgolhekmgaaGreatDoorRows
import GoSem.ClaimSeven
namespace Go.Proofs.YtbakjgolhekmgaaGreatDoor
namespace Rows

/-- THE TIED CARD OF 'hindcastlaw12.WalkCounts'. -/
def walkCountsCard : Claim7 := { stood := { row := walkCountsRow, standIns := [], harness := (true, "74abe7cdb6876cdf304b90c8c92395ee1c8bbdc6055d657a3ed3d09d34ed6fc6"), looks := true }, kinds := [], alts := [], laidByText := true, laidKinds := [.data, .data, .data, .sentinel, .sentinel, .listed, .data], laidTests := true, laidLooks := .later }
def WalkCountsCardSaid : Prop := Claim7.holds Tryz.pinned (.plain (OpenSpec.ofChange walkCountsSpec)) walkCountsCard

/-- THE SECOND FORM's CARD OF 'hindcastlaw12.WalkCounts'. -/
def walkCountsUptoCard : Claim7 := { stood := { row := walkCountsUptoRow, standIns := [], harness := (true, "74abe7cdb6876cdf304b90c8c92395ee1c8bbdc6055d657a3ed3d09d34ed6fc6"), looks := true }, kinds := [], alts := [], laidByText := true, laidKinds := [.data, .data, .data, .sentinel, .sentinel, .listed, .data], laidTests := true, laidLooks := .later }
def WalkCountsUptoCardSaid : Prop := Claim7.holds Tryz.pinned (.plain (OpenSpec.upto walkCountsSpec)) walkCountsUptoCard
end Rows
end Go.Proofs.YtbakjgolhekmgaaGreatDoor
