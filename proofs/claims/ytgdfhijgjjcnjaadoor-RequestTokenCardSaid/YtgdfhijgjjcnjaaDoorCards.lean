/-
  DERIVED. GIVEN WITH THE SEED: THE CARDS: each row of YtgdfhijgjjcnjaaDoorRows.lean that lists a variable, with what it lists TIED to the program's text (the seventh form; the later family's looks); each row that meets fmt, with fmt's text TOLD by the authors' own Lean function (tested against real Go, not proved from fmt's source: count such statements apart). THE CARD IS WHAT COUNTS. Prove the row's statement (the work); the ties are given (YtgdfhijgjjcnjaaDoorTie.lean); close each card by the builder's one call (the guide's Derived/Test/ToyasCard.lean, 'card_holds'). Laid BY PROGRAM, IN A SANDBOX (cutbox-door.mjs). By AI agents, Wed Nov 11 2026. No macro, syntax, notation, axiom, sorry.
-/
import Derived.Test.YtgdfhijgjjcnjaaDoorRows
import GoSem.ClaimSeven
namespace Go.Proofs.YtgdfhijgjjcnjaaDoor
namespace Rows

/-- THE TIED CARD OF 'damsonlaw19.RequestAmount'. -/
def requestAmountCard : Claim7 := { stood := { row := requestAmountRow, standIns := [], harness := (true, "67ee613dbc91f77a6d38692b2191f833e80f74706a3fc8b3b47502a5a406d326"), looks := false }, kinds := [], alts := [], laidByText := true, laidKinds := [.data], laidTests := true, laidLooks := .later }
def RequestAmountCardSaid : Prop := Claim7.holds Tryd.pinned (.plain (OpenSpec.ofChange requestAmountSpec)) requestAmountCard

/-- THE TIED CARD OF 'damsonlaw19.RequestPrint'. -/
def requestPrintCard : Claim7 := { stood := { row := requestPrintRow, standIns := [], harness := (true, "67ee613dbc91f77a6d38692b2191f833e80f74706a3fc8b3b47502a5a406d326"), looks := false }, kinds := [], alts := [], laidByText := true, laidKinds := [.data], laidTests := true, laidLooks := .later }
def RequestPrintCardSaid : Prop := Claim7.holds Tryd.pinned (.plain (OpenSpec.ofChange requestPrintSpec)) requestPrintCard

/-- THE TIED CARD OF 'damsonlaw19.RequestBack'. -/
def requestBackCard : Claim7 := { stood := { row := requestBackRow, standIns := [], harness := (true, "67ee613dbc91f77a6d38692b2191f833e80f74706a3fc8b3b47502a5a406d326"), looks := false }, kinds := [], alts := [], laidByText := true, laidKinds := [.data], laidTests := true, laidLooks := .later }
def RequestBackCardSaid : Prop := Claim7.holds Tryd.pinned (.plain (OpenSpec.ofChange requestBackSpec)) requestBackCard

/-- THE TIED CARD OF 'damsonlaw19.RequestToken'. -/
def requestTokenCard : Claim7 := { stood := { row := requestTokenRow, standIns := [], harness := (true, "67ee613dbc91f77a6d38692b2191f833e80f74706a3fc8b3b47502a5a406d326"), looks := false }, kinds := [], alts := [], laidByText := true, laidKinds := [.data], laidTests := true, laidLooks := .later }
def RequestTokenCardSaid : Prop := Claim7.holds Tryd.pinned (.plain (OpenSpec.ofChange requestTokenSpec)) requestTokenCard

/-- THE SECOND FORM's CARD OF 'damsonlaw19.RequestAmount'. -/
def requestAmountUptoCard : Claim7 := { stood := { row := requestAmountUptoRow, standIns := [], harness := (true, "67ee613dbc91f77a6d38692b2191f833e80f74706a3fc8b3b47502a5a406d326"), looks := false }, kinds := [], alts := [], laidByText := true, laidKinds := [.data], laidTests := true, laidLooks := .later }
def RequestAmountUptoCardSaid : Prop := Claim7.holds Tryd.pinned (.plain (OpenSpec.upto requestAmountSpec)) requestAmountUptoCard

/-- THE SECOND FORM's CARD OF 'damsonlaw19.RequestPrint'. -/
def requestPrintUptoCard : Claim7 := { stood := { row := requestPrintUptoRow, standIns := [], harness := (true, "67ee613dbc91f77a6d38692b2191f833e80f74706a3fc8b3b47502a5a406d326"), looks := false }, kinds := [], alts := [], laidByText := true, laidKinds := [.data], laidTests := true, laidLooks := .later }
def RequestPrintUptoCardSaid : Prop := Claim7.holds Tryd.pinned (.plain (OpenSpec.upto requestPrintSpec)) requestPrintUptoCard

/-- THE SECOND FORM's CARD OF 'damsonlaw19.RequestBack'. -/
def requestBackUptoCard : Claim7 := { stood := { row := requestBackUptoRow, standIns := [], harness := (true, "67ee613dbc91f77a6d38692b2191f833e80f74706a3fc8b3b47502a5a406d326"), looks := false }, kinds := [], alts := [], laidByText := true, laidKinds := [.data], laidTests := true, laidLooks := .later }
def RequestBackUptoCardSaid : Prop := Claim7.holds Tryd.pinned (.plain (OpenSpec.upto requestBackSpec)) requestBackUptoCard

/-- THE SECOND FORM's CARD OF 'damsonlaw19.RequestToken'. -/
def requestTokenUptoCard : Claim7 := { stood := { row := requestTokenUptoRow, standIns := [], harness := (true, "67ee613dbc91f77a6d38692b2191f833e80f74706a3fc8b3b47502a5a406d326"), looks := false }, kinds := [], alts := [], laidByText := true, laidKinds := [.data], laidTests := true, laidLooks := .later }
def RequestTokenUptoCardSaid : Prop := Claim7.holds Tryd.pinned (.plain (OpenSpec.upto requestTokenSpec)) requestTokenUptoCard
end Rows
end Go.Proofs.YtgdfhijgjjcnjaaDoor
