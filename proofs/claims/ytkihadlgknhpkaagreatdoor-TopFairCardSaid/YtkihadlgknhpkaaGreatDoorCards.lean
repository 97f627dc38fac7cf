/-
  DERIVED. GIVEN WITH THE SEED: THE CARDS: each row of YtkihadlgknhpkaaGreatDoorRows.lean that lists a variable, with what it lists TIED to the program's text (the seventh form; the later family's looks); each row that meets fmt, with fmt's text TOLD by the authors' own Lean function (tested against real Go, not proved from fmt's source: count such statements apart). THE CARD IS WHAT COUNTS. Prove the row's statement (the work); the ties are given (YtkihadlgknhpkaaGreatDoorTie.lean); close each card by the builder's one call (the guide's Derived/Test/ToyasCard.lean, 'card_holds'). Laid BY PROGRAM, IN A SANDBOX (cutbox-door.mjs). By AI agents, Wed Nov 11 2026. No macro, syntax, notation, axiom, sorry.
-/
import Derived.Test.YtkihadlgknhpkaaGreatDoorRows
import GoSem.ClaimSeven
namespace Go.Proofs.YtkihadlgknhpkaaGreatDoor
namespace Rows

/-- THE TIED CARD OF 'damsontop.TopMoney'. -/
def topMoneyCard : Claim7 := { stood := { row := topMoneyRow, standIns := [], harness := (true, "0a44846eb00b7601d679e7cdd3b6ec4b2ddec05c7ee2f82c41627242121a9e72"), looks := false }, kinds := [], alts := [], laidByText := true, laidKinds := [.data], laidTests := true, laidLooks := .later }
def TopMoneyCardSaid : Prop := Claim7.holds Tryz.pinned (.plain (OpenSpec.ofChange topMoneySpec)) topMoneyCard

/-- THE TIED CARD OF 'damsontop.TopFair'. -/
def topFairCard : Claim7 := { stood := { row := topFairRow, standIns := [], harness := (true, "0a44846eb00b7601d679e7cdd3b6ec4b2ddec05c7ee2f82c41627242121a9e72"), looks := false }, kinds := [], alts := [], laidByText := true, laidKinds := [.data], laidTests := true, laidLooks := .later }
def TopFairCardSaid : Prop := Claim7.holds Tryz.pinned (.plain (OpenSpec.ofChange topFairSpec)) topFairCard

/-- THE TIED CARD OF 'damsontop.TopForged'. -/
def topForgedCard : Claim7 := { stood := { row := topForgedRow, standIns := [], harness := (true, "0a44846eb00b7601d679e7cdd3b6ec4b2ddec05c7ee2f82c41627242121a9e72"), looks := false }, kinds := [], alts := [], laidByText := true, laidKinds := [.data], laidTests := true, laidLooks := .later }
def TopForgedCardSaid : Prop := Claim7.holds Tryz.pinned (.plain (OpenSpec.ofChange topForgedSpec)) topForgedCard

/-- THE SECOND FORM's CARD OF 'damsontop.TopMoney'. -/
def topMoneyUptoCard : Claim7 := { stood := { row := topMoneyUptoRow, standIns := [], harness := (true, "0a44846eb00b7601d679e7cdd3b6ec4b2ddec05c7ee2f82c41627242121a9e72"), looks := false }, kinds := [], alts := [], laidByText := true, laidKinds := [.data], laidTests := true, laidLooks := .later }
def TopMoneyUptoCardSaid : Prop := Claim7.holds Tryz.pinned (.plain (OpenSpec.upto topMoneySpec)) topMoneyUptoCard

/-- THE SECOND FORM's CARD OF 'damsontop.TopFair'. -/
def topFairUptoCard : Claim7 := { stood := { row := topFairUptoRow, standIns := [], harness := (true, "0a44846eb00b7601d679e7cdd3b6ec4b2ddec05c7ee2f82c41627242121a9e72"), looks := false }, kinds := [], alts := [], laidByText := true, laidKinds := [.data], laidTests := true, laidLooks := .later }
def TopFairUptoCardSaid : Prop := Claim7.holds Tryz.pinned (.plain (OpenSpec.upto topFairSpec)) topFairUptoCard

/-- THE SECOND FORM's CARD OF 'damsontop.TopForged'. -/
def topForgedUptoCard : Claim7 := { stood := { row := topForgedUptoRow, standIns := [], harness := (true, "0a44846eb00b7601d679e7cdd3b6ec4b2ddec05c7ee2f82c41627242121a9e72"), looks := false }, kinds := [], alts := [], laidByText := true, laidKinds := [.data], laidTests := true, laidLooks := .later }
def TopForgedUptoCardSaid : Prop := Claim7.holds Tryz.pinned (.plain (OpenSpec.upto topForgedSpec)) topForgedUptoCard
end Rows
end Go.Proofs.YtkihadlgknhpkaaGreatDoor
