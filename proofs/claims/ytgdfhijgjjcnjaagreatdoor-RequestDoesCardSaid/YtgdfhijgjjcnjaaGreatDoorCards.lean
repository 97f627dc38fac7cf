/-
  DERIVED. GIVEN WITH THE SEED: THE CARDS: each row of YtgdfhijgjjcnjaaGreatDoorRows.lean that lists a variable, with what it lists TIED to the program's text (the seventh form; the later family's looks); each row that meets fmt, with fmt's text TOLD by the authors' own Lean function (tested against real Go, not proved from fmt's source: count such statements apart). THE CARD IS WHAT COUNTS. Prove the row's statement (the work); the ties are given (YtgdfhijgjjcnjaaGreatDoorTie.lean); close each card by the builder's one call (the guide's Derived/Test/ToyasCard.lean, 'card_holds'). Laid BY PROGRAM, IN A SANDBOX (cutbox-door.mjs). By AI agents, Wed Nov 11 2026. No macro, syntax, notation, axiom, sorry.
-/
import Derived.Test.YtgdfhijgjjcnjaaGreatDoorRows
import GoSem.ClaimSeven
namespace Go.Proofs.YtgdfhijgjjcnjaaGreatDoor
namespace Rows

/-- THE TIED CARD OF 'damsonlaw19.RequestDoes'. -/
def requestDoesCard : Claim7 := { stood := { row := requestDoesRow, standIns := [], harness := (true, "10ccd4b2b5665f2e5e42794a8535167f5fde8bd10f695b6de9cbfd4cc7136bae"), looks := false }, kinds := [], alts := [], laidByText := true, laidKinds := [.data], laidTests := true, laidLooks := .later }
def RequestDoesCardSaid : Prop := Claim7.holds Tryz.pinned (.plain (OpenSpec.ofChange requestDoesSpec)) requestDoesCard

/-- THE SECOND FORM's CARD OF 'damsonlaw19.RequestDoes'. -/
def requestDoesUptoCard : Claim7 := { stood := { row := requestDoesUptoRow, standIns := [], harness := (true, "10ccd4b2b5665f2e5e42794a8535167f5fde8bd10f695b6de9cbfd4cc7136bae"), looks := false }, kinds := [], alts := [], laidByText := true, laidKinds := [.data], laidTests := true, laidLooks := .later }
def RequestDoesUptoCardSaid : Prop := Claim7.holds Tryz.pinned (.plain (OpenSpec.upto requestDoesSpec)) requestDoesUptoCard
end Rows
end Go.Proofs.YtgdfhijgjjcnjaaGreatDoor
