/-
  DERIVED. GIVEN WITH THE SEED: THE CARDS: each row of YtlldcoldnojbjaaGreatDoorRows.lean that lists a variable, with what it lists TIED to the program's text (the seventh form; the later family's looks); each row that meets fmt, with fmt's text TOLD by the authors' own Lean function (tested against real Go, not proved from fmt's source: count such statements apart). THE CARD IS WHAT COUNTS. Prove the row's statement (the work); the ties are given (YtlldcoldnojbjaaGreatDoorTie.lean); close each card by the builder's one call (the guide's Derived/Test/ToyasCard.lean, 'card_holds'). Laid BY PROGRAM, IN A SANDBOX (cutbox-door.mjs). By AI agents, Wed Nov 11 2026. No macro, syntax, notation, axiom, sorry.
-/
import Derived.Test.YtlldcoldnojbjaaGreatDoorRows
import GoSem.ClaimSeven
namespace Go.Proofs.YtlldcoldnojbjaaGreatDoor
namespace Rows

/-- THE TIED CARD OF 'horologetop.TopDue'. -/
def topDueCard : Claim7 := { stood := { row := topDueRow, standIns := [], harness := (true, "0dfa25207677842437c03683b75fcfae6a3f71c55999b276ee9e04d83ac4029e"), looks := true }, kinds := [], alts := [], laidByText := true, laidKinds := [.data, .data, .pinned], laidTests := true, laidLooks := .later }
def TopDueCardSaid : Prop := Claim7.holds Tryz.pinned (.plain (OpenSpec.ofChange topDueSpec)) topDueCard

/-- THE SECOND FORM's CARD OF 'horologetop.TopDue'. -/
def topDueUptoCard : Claim7 := { stood := { row := topDueUptoRow, standIns := [], harness := (true, "0dfa25207677842437c03683b75fcfae6a3f71c55999b276ee9e04d83ac4029e"), looks := true }, kinds := [], alts := [], laidByText := true, laidKinds := [.data, .data, .pinned], laidTests := true, laidLooks := .later }
def TopDueUptoCardSaid : Prop := Claim7.holds Tryz.pinned (.plain (OpenSpec.upto topDueSpec)) topDueUptoCard
end Rows
end Go.Proofs.YtlldcoldnojbjaaGreatDoor
