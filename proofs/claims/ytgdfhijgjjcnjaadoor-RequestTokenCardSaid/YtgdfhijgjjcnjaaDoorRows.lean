/-
  NARROWER THAN 'FOR EVERY INPUT', by the rows' own cells (each row's printed sentence says how): RequestAmount: laid · RequestPrint: laid · RequestBack: laid · RequestToken: laid.
  DERIVED. THE GIVEN ROWS OF THIS SEAT. 4 by the template 'for every input the law returns true; each argument reads behind the call as it read before'; 0 by the template 'total and deterministic' (their statements: YtgdfhijgjjcnjaaDoorTotals.lean).
  GIVEN WITH THE SEED: the statements are not yours to turn. If you find one false, say at which input.
  Laid BY PROGRAM, IN A SANDBOX (cutbox-rows.mjs): the forced cells as the released guide's own fill.sh prints them over the translation ea01e1ba6a97195c… (all of the seat's roots in one cut). By AI agents, Wed Nov 11 2026. No macro, syntax, notation, axiom, sorry.
-/
import Derived.Test.YtgdfhijgjjcnjaaDoorChecked
import GoSem.Claim
import GoSem.ClaimJoined
import GoSem.ClaimMapViews
import Derived.JoinedTies
import Derived.KernelRfl
namespace Go.Proofs.YtgdfhijgjjcnjaaDoor
/- THE CELL 'sum', in the pinned program and in every row, IS THE sha256 OF THE DUMP (.gsa) THAT YtgdfhijgjjcnjaaDoorProg.lean LOADS. Nothing in Lean hashes anything: it is a label: what it is worth is what the hold of that sum in a sandbox is worth. -/
noncomputable def Tryd.pinned : Pinned := { name := "ytgdfhijgjjcnjaadoor", sum := "ea01e1ba6a97195cbf9a4ed8fceb82bb04d72d67490d90c8f8784a14445d619b", checked := Tryd.checked }
namespace Rows
def none {H : Type} : Left H := { results := [], args := [] }

/- WHAT THE LISTED PACKAGE-LEVEL VARIABLES READ AS WHEN THE CALL BEGINS. Each datum BY PROGRAM (the guide's laid-datum.mjs) off the statement by which the dump's own 'gosem.cut.vars' lays the variable. In a bare row this is a premise. The card (YtgdfhijgjjcnjaaDoorCards.lean) ties it to the program's text. -/
def laid_damson_request_methods {H : Type} : DataW H := .agg [.lit (.int .i64 0), .lit (.int .i64 71), .lit (.int .i64 17), .lit (.int .i64 79), .lit (.int .i64 3), .lit (.int .i64 2), .lit (.int .i64 2), .lit (.int .i64 0), .lit (.int .i64 6), .lit (.int .i64 4), .lit (.int .i64 32)]

/-- 'damsonlaw19.RequestAmount': WHATEVER THE INPUT: true; the input reads as it did. -/
def requestAmountSpec : ChangeSpec := { name := "requestAmount", fn := fun _ => fun
  | [d] => { results := [.lit (.bool true)], args := [d] }
  | _ => none }
def requestAmountRow : OpenClaim := { program := "ytgdfhijgjjcnjaadoor", sum := "ea01e1ba6a97195cbf9a4ed8fceb82bb04d72d67490d90c8f8784a14445d619b", func := "damson/damsonlaw19.RequestAmount", spec := "requestAmount", unfollowed := true, recurses := true, named := ["damson/request.methods"], apart := false, laid := [("damson/request.methods", laid_damson_request_methods)] }
def RequestAmountSaid : Prop := requestAmountRow.holds Tryd.pinned (OpenSpec.ofChange requestAmountSpec)

/-- ITS FALSE NEIGHBOUR: 'it returns false'. Refute it at one input. -/
def requestAmountWrong : ChangeSpec := { name := "requestAmount", fn := fun _ => fun
  | [d] => { results := [.lit (.bool false)], args := [d] }
  | _ => none }
def RequestAmountWrongFalsely : Prop := requestAmountRow.holds Tryd.pinned (OpenSpec.ofChange requestAmountWrong)

/-- 'damsonlaw19.RequestPrint': WHATEVER THE INPUT: true; the input reads as it did. -/
def requestPrintSpec : ChangeSpec := { name := "requestPrint", fn := fun _ => fun
  | [d1, d2] => { results := [.lit (.bool true)], args := [d1, d2] }
  | _ => none }
def requestPrintRow : OpenClaim := { program := "ytgdfhijgjjcnjaadoor", sum := "ea01e1ba6a97195cbf9a4ed8fceb82bb04d72d67490d90c8f8784a14445d619b", func := "damson/damsonlaw19.RequestPrint", spec := "requestPrint", unfollowed := true, recurses := true, named := ["damson/request.methods"], apart := false, laid := [("damson/request.methods", laid_damson_request_methods)] }
def RequestPrintSaid : Prop := requestPrintRow.holds Tryd.pinned (OpenSpec.ofChange requestPrintSpec)

/-- ITS FALSE NEIGHBOUR: 'it returns false'. Refute it at one input. -/
def requestPrintWrong : ChangeSpec := { name := "requestPrint", fn := fun _ => fun
  | [d1, d2] => { results := [.lit (.bool false)], args := [d1, d2] }
  | _ => none }
def RequestPrintWrongFalsely : Prop := requestPrintRow.holds Tryd.pinned (OpenSpec.ofChange requestPrintWrong)

/-- 'damsonlaw19.RequestBack': WHATEVER THE INPUT: true; the input reads as it did. -/
def requestBackSpec : ChangeSpec := { name := "requestBack", fn := fun _ => fun
  | [d1, d2] => { results := [.lit (.bool true)], args := [d1, d2] }
  | _ => none }
def requestBackRow : OpenClaim := { program := "ytgdfhijgjjcnjaadoor", sum := "ea01e1ba6a97195cbf9a4ed8fceb82bb04d72d67490d90c8f8784a14445d619b", func := "damson/damsonlaw19.RequestBack", spec := "requestBack", unfollowed := true, recurses := true, named := ["damson/request.methods"], apart := false, laid := [("damson/request.methods", laid_damson_request_methods)] }
def RequestBackSaid : Prop := requestBackRow.holds Tryd.pinned (OpenSpec.ofChange requestBackSpec)

/-- ITS FALSE NEIGHBOUR: 'it returns false'. Refute it at one input. -/
def requestBackWrong : ChangeSpec := { name := "requestBack", fn := fun _ => fun
  | [d1, d2] => { results := [.lit (.bool false)], args := [d1, d2] }
  | _ => none }
def RequestBackWrongFalsely : Prop := requestBackRow.holds Tryd.pinned (OpenSpec.ofChange requestBackWrong)

/-- 'damsonlaw19.RequestToken': WHATEVER THE INPUT: true; the input reads as it did. -/
def requestTokenSpec : ChangeSpec := { name := "requestToken", fn := fun _ => fun
  | [d1, d2, d3] => { results := [.lit (.bool true)], args := [d1, d2, d3] }
  | _ => none }
def requestTokenRow : OpenClaim := { program := "ytgdfhijgjjcnjaadoor", sum := "ea01e1ba6a97195cbf9a4ed8fceb82bb04d72d67490d90c8f8784a14445d619b", func := "damson/damsonlaw19.RequestToken", spec := "requestToken", unfollowed := true, recurses := true, named := ["damson/request.methods"], apart := false, laid := [("damson/request.methods", laid_damson_request_methods)] }
def RequestTokenSaid : Prop := requestTokenRow.holds Tryd.pinned (OpenSpec.ofChange requestTokenSpec)

/-- ITS FALSE NEIGHBOUR: 'it returns false'. Refute it at one input. -/
def requestTokenWrong : ChangeSpec := { name := "requestToken", fn := fun _ => fun
  | [d1, d2, d3] => { results := [.lit (.bool false)], args := [d1, d2, d3] }
  | _ => none }
def RequestTokenWrongFalsely : Prop := requestTokenRow.holds Tryd.pinned (OpenSpec.ofChange requestTokenWrong)

/- THE SECOND FORM. 'bulk': how many values and letters a reading holds, each counted each time it is reached (what is shared counts as often as it is met; a slice's spare places count too). A statement '..UptoSaid' is the law's where the arguments, and the package variables that the reading takes, are together of bulk at most 1048576: NARROWER than '..Said'. Prove '..Said' where nothing that the law and all that it calls make is longer than what came in: it says more and counts as full. Else prove '..UptoSaid'. A law counts once. -/
mutual
def uptoBulk {H : Type} : DataW H → Nat
  | .lit (.string bytes) => bytes.length + 1
  | .lit _ => 1
  | .nil => 1
  | .ptr d => uptoBulk d + 1
  | .slice elems spare => uptoBulkAll elems + uptoBulkAll spare + 1
  | .agg parts => uptoBulkAll parts + 1
  | .iface _ d => uptoBulk d + 1
  | .map entries => uptoBulkEntries entries + 1
  | .held _ => 1
def uptoBulkAll {H : Type} : List (DataW H) → Nat
  | [] => 0
  | d :: r => uptoBulk d + uptoBulkAll r
def uptoBulkEntries {H : Type} : List (Lit × DataW H) → Nat
  | [] => 0
  | x :: r => uptoBulkEntry x + uptoBulkEntries r
def uptoBulkEntry {H : Type} : Lit × DataW H → Nat
  | (.string bytes, d) => bytes.length + uptoBulk d + 1
  | (_, d) => uptoBulk d + 1
 end
def uptoSmall : (H : Type) → List (DataW H) → Bool := fun _ ds => decide (uptoBulkAll ds ≤ 1048576)
def OpenSpec.upto (s : _root_.Go.ChangeSpec) : _root_.Go.OpenSpec := { _root_.Go.OpenSpec.ofChange s with cond := some uptoSmall }

/-- 'damsonlaw19.RequestAmount', WHERE WHAT IT READS IS OF BULK AT MOST 1048576: true; the input reads as it did. -/
def requestAmountUptoRow : OpenClaim := { program := "ytgdfhijgjjcnjaadoor", sum := "ea01e1ba6a97195cbf9a4ed8fceb82bb04d72d67490d90c8f8784a14445d619b", func := "damson/damsonlaw19.RequestAmount", spec := "requestAmount", unfollowed := true, recurses := true, named := ["damson/request.methods"], apart := false, laid := [("damson/request.methods", laid_damson_request_methods)], narrowed := true }
def RequestAmountUptoSaid : Prop := requestAmountUptoRow.holds Tryd.pinned (OpenSpec.upto requestAmountSpec)

/-- 'damsonlaw19.RequestPrint', WHERE WHAT IT READS IS OF BULK AT MOST 1048576: true; the input reads as it did. -/
def requestPrintUptoRow : OpenClaim := { program := "ytgdfhijgjjcnjaadoor", sum := "ea01e1ba6a97195cbf9a4ed8fceb82bb04d72d67490d90c8f8784a14445d619b", func := "damson/damsonlaw19.RequestPrint", spec := "requestPrint", unfollowed := true, recurses := true, named := ["damson/request.methods"], apart := false, laid := [("damson/request.methods", laid_damson_request_methods)], narrowed := true }
def RequestPrintUptoSaid : Prop := requestPrintUptoRow.holds Tryd.pinned (OpenSpec.upto requestPrintSpec)

/-- 'damsonlaw19.RequestBack', WHERE WHAT IT READS IS OF BULK AT MOST 1048576: true; the input reads as it did. -/
def requestBackUptoRow : OpenClaim := { program := "ytgdfhijgjjcnjaadoor", sum := "ea01e1ba6a97195cbf9a4ed8fceb82bb04d72d67490d90c8f8784a14445d619b", func := "damson/damsonlaw19.RequestBack", spec := "requestBack", unfollowed := true, recurses := true, named := ["damson/request.methods"], apart := false, laid := [("damson/request.methods", laid_damson_request_methods)], narrowed := true }
def RequestBackUptoSaid : Prop := requestBackUptoRow.holds Tryd.pinned (OpenSpec.upto requestBackSpec)

/-- 'damsonlaw19.RequestToken', WHERE WHAT IT READS IS OF BULK AT MOST 1048576: true; the input reads as it did. -/
def requestTokenUptoRow : OpenClaim := { program := "ytgdfhijgjjcnjaadoor", sum := "ea01e1ba6a97195cbf9a4ed8fceb82bb04d72d67490d90c8f8784a14445d619b", func := "damson/damsonlaw19.RequestToken", spec := "requestToken", unfollowed := true, recurses := true, named := ["damson/request.methods"], apart := false, laid := [("damson/request.methods", laid_damson_request_methods)], narrowed := true }
def RequestTokenUptoSaid : Prop := requestTokenUptoRow.holds Tryd.pinned (OpenSpec.upto requestTokenSpec)

end Rows
end Go.Proofs.YtgdfhijgjjcnjaaDoor
