/-
  NARROWER THAN 'FOR EVERY INPUT', by the rows' own cells (each row's printed sentence says how): TopMoney: laid · TopFair: laid · TopForged: laid.
  DERIVED. THE GIVEN ROWS OF THIS SEAT. 3 by the template 'for every input the law returns true; each argument reads behind the call as it read before'; 0 by the template 'total and deterministic' (their statements: YtkihadlgknhpkaaGreatDoorTotals.lean).
  GIVEN WITH THE SEED: the statements are not yours to turn. If you find one false, say at which input.
  Laid BY PROGRAM, IN A SANDBOX (cutbox-rows.mjs): the forced cells as the released guide's own fill.sh prints them over the translation 75a81fb2df6468c3… (all of the seat's roots in one cut). By AI agents, Wed Nov 11 2026. No macro, syntax, notation, axiom, sorry.
-/
import Derived.Test.YtkihadlgknhpkaaGreatDoorChecked
import GoSem.Claim
import GoSem.ClaimJoined
import GoSem.ClaimMapViews
import Derived.JoinedTies
import Derived.KernelRfl
namespace Go.Proofs.YtkihadlgknhpkaaGreatDoor
/- THE CELL 'sum', in the pinned program and in every row, IS THE sha256 OF THE DUMP (.gsa) THAT YtkihadlgknhpkaaGreatDoorProg.lean LOADS. Nothing in Lean hashes anything: it is a label: what it is worth is what the hold of that sum in a sandbox is worth. -/
noncomputable def Tryz.pinned : Pinned := { name := "ytkihadlgknhpkaagreatdoor", sum := "75a81fb2df6468c3d46f76b48bd75d284d83f77a7a4db5dc315535a3754b9ae7", checked := Tryz.checked }
namespace Rows
def none {H : Type} : Left H := { results := [], args := [] }

/- WHAT THE LISTED PACKAGE-LEVEL VARIABLES READ AS WHEN THE CALL BEGINS. Each datum BY PROGRAM (the guide's laid-datum.mjs) off the statement by which the dump's own 'gosem.cut.vars' lays the variable. In a bare row this is a premise. The card (YtkihadlgknhpkaaGreatDoorCards.lean) ties it to the program's text. -/
def laid_damson_request_methods {H : Type} : DataW H := .agg [.lit (.int .i64 0), .lit (.int .i64 71), .lit (.int .i64 17), .lit (.int .i64 79), .lit (.int .i64 3), .lit (.int .i64 2), .lit (.int .i64 2), .lit (.int .i64 0), .lit (.int .i64 6), .lit (.int .i64 4), .lit (.int .i64 32)]

/-- 'damsontop.TopMoney': WHATEVER THE INPUT: true; the input reads as it did. -/
def topMoneySpec : ChangeSpec := { name := "topMoney", fn := fun _ => fun
  | [d1, d2] => { results := [.lit (.bool true)], args := [d1, d2] }
  | _ => none }
def topMoneyRow : OpenClaim := { program := "ytkihadlgknhpkaagreatdoor", sum := "75a81fb2df6468c3d46f76b48bd75d284d83f77a7a4db5dc315535a3754b9ae7", func := "damson/damsontop.TopMoney", spec := "topMoney", inPlace := ["slices.overlaps[damson/api.RootKey]", "math/bits.Sub64", "slices.overlaps[damson/api.Channel]", "slices.overlaps[damson/api.Count]", "math.Float64frombits", "slices.overlaps[damson/api.Payment]", "slices.overlaps[damson/api.Hold]", "slices.overlaps[damson/api.Invoice]", "slices.overlaps[damson/api.Key]"], unfollowed := true, recurses := true, named := ["damson/request.methods"], plainKeys := false, apart := false, laid := [("damson/request.methods", laid_damson_request_methods)] }
def TopMoneySaid : Prop := topMoneyRow.holds Tryz.pinned (OpenSpec.ofChange topMoneySpec)

/-- ITS FALSE NEIGHBOUR: 'it returns false'. Refute it at one input. -/
def topMoneyWrong : ChangeSpec := { name := "topMoney", fn := fun _ => fun
  | [d1, d2] => { results := [.lit (.bool false)], args := [d1, d2] }
  | _ => none }
def TopMoneyWrongFalsely : Prop := topMoneyRow.holds Tryz.pinned (OpenSpec.ofChange topMoneyWrong)

/-- 'damsontop.TopFair': WHATEVER THE INPUT: true; the input reads as it did. -/
def topFairSpec : ChangeSpec := { name := "topFair", fn := fun _ => fun
  | [d1, d2] => { results := [.lit (.bool true)], args := [d1, d2] }
  | _ => none }
def topFairRow : OpenClaim := { program := "ytkihadlgknhpkaagreatdoor", sum := "75a81fb2df6468c3d46f76b48bd75d284d83f77a7a4db5dc315535a3754b9ae7", func := "damson/damsontop.TopFair", spec := "topFair", inPlace := ["slices.overlaps[damson/api.RootKey]", "math/bits.Sub64", "slices.overlaps[damson/api.Channel]", "slices.overlaps[damson/api.Count]", "math.Float64frombits", "slices.overlaps[damson/api.Payment]", "slices.overlaps[damson/api.Hold]", "slices.overlaps[damson/api.Invoice]", "slices.overlaps[damson/api.Key]"], unfollowed := true, recurses := true, named := ["damson/request.methods"], plainKeys := false, apart := false, laid := [("damson/request.methods", laid_damson_request_methods)] }
def TopFairSaid : Prop := topFairRow.holds Tryz.pinned (OpenSpec.ofChange topFairSpec)

/-- ITS FALSE NEIGHBOUR: 'it returns false'. Refute it at one input. -/
def topFairWrong : ChangeSpec := { name := "topFair", fn := fun _ => fun
  | [d1, d2] => { results := [.lit (.bool false)], args := [d1, d2] }
  | _ => none }
def TopFairWrongFalsely : Prop := topFairRow.holds Tryz.pinned (OpenSpec.ofChange topFairWrong)

/-- 'damsontop.TopForged': WHATEVER THE INPUT: true; the input reads as it did. -/
def topForgedSpec : ChangeSpec := { name := "topForged", fn := fun _ => fun
  | [d1, d2, d3, d4] => { results := [.lit (.bool true)], args := [d1, d2, d3, d4] }
  | _ => none }
def topForgedRow : OpenClaim := { program := "ytkihadlgknhpkaagreatdoor", sum := "75a81fb2df6468c3d46f76b48bd75d284d83f77a7a4db5dc315535a3754b9ae7", func := "damson/damsontop.TopForged", spec := "topForged", inPlace := ["slices.overlaps[damson/api.RootKey]", "math/bits.Sub64", "slices.overlaps[damson/api.Channel]", "slices.overlaps[damson/api.Count]", "math.Float64frombits", "slices.overlaps[damson/api.Payment]", "slices.overlaps[damson/api.Hold]", "slices.overlaps[damson/api.Invoice]", "slices.overlaps[damson/api.Key]"], unfollowed := true, recurses := true, named := ["damson/request.methods"], plainKeys := false, apart := false, laid := [("damson/request.methods", laid_damson_request_methods)] }
def TopForgedSaid : Prop := topForgedRow.holds Tryz.pinned (OpenSpec.ofChange topForgedSpec)

/-- ITS FALSE NEIGHBOUR: 'it returns false'. Refute it at one input. -/
def topForgedWrong : ChangeSpec := { name := "topForged", fn := fun _ => fun
  | [d1, d2, d3, d4] => { results := [.lit (.bool false)], args := [d1, d2, d3, d4] }
  | _ => none }
def TopForgedWrongFalsely : Prop := topForgedRow.holds Tryz.pinned (OpenSpec.ofChange topForgedWrong)

/- THE SECOND FORM. 'bulk': how many values and letters a reading holds, each counted each time it is reached (what is shared counts as often as it is met; a slice's spare places count too). A statement '..UptoSaid' is the law's where the arguments, and the package variables that the reading takes, are together of bulk at most 1048576: NARROWER than '..Said'. Prove '..Said' where nothing that the law and all that it calls make is longer than what came in: it says more and counts as full. Else prove '..UptoSaid'. A law counts once. -/
mutual
def uptoBulk {H : Type} : DataW H → Nat
  | .lit (.string bytes) => bytes.length + 1
  | .lit _ => 1
  | .nil => 1
  | .ptr d => uptoBulk d + 1
  | .slice elems spare => uptoBulkAll elems + uptoBulkAll spare + 1
  | .agg parts => uptoBulkAll parts + 1
  | .iface _ d => uptoBulk d + 1
  | .map entries => uptoBulkEntries entries + 1
  | .held _ => 1
def uptoBulkAll {H : Type} : List (DataW H) → Nat
  | [] => 0
  | d :: r => uptoBulk d + uptoBulkAll r
def uptoBulkEntries {H : Type} : List (Lit × DataW H) → Nat
  | [] => 0
  | x :: r => uptoBulkEntry x + uptoBulkEntries r
def uptoBulkEntry {H : Type} : Lit × DataW H → Nat
  | (.string bytes, d) => bytes.length + uptoBulk d + 1
  | (_, d) => uptoBulk d + 1
 end
def uptoSmall : (H : Type) → List (DataW H) → Bool := fun _ ds => decide (uptoBulkAll ds ≤ 1048576)
def OpenSpec.upto (s : _root_.Go.ChangeSpec) : _root_.Go.OpenSpec := { _root_.Go.OpenSpec.ofChange s with cond := some uptoSmall }

/-- 'damsontop.TopMoney', WHERE WHAT IT READS IS OF BULK AT MOST 1048576: true; the input reads as it did. -/
def topMoneyUptoRow : OpenClaim := { program := "ytkihadlgknhpkaagreatdoor", sum := "75a81fb2df6468c3d46f76b48bd75d284d83f77a7a4db5dc315535a3754b9ae7", func := "damson/damsontop.TopMoney", spec := "topMoney", inPlace := ["slices.overlaps[damson/api.RootKey]", "math/bits.Sub64", "slices.overlaps[damson/api.Channel]", "slices.overlaps[damson/api.Count]", "math.Float64frombits", "slices.overlaps[damson/api.Payment]", "slices.overlaps[damson/api.Hold]", "slices.overlaps[damson/api.Invoice]", "slices.overlaps[damson/api.Key]"], unfollowed := true, recurses := true, named := ["damson/request.methods"], plainKeys := false, apart := false, laid := [("damson/request.methods", laid_damson_request_methods)], narrowed := true }
def TopMoneyUptoSaid : Prop := topMoneyUptoRow.holds Tryz.pinned (OpenSpec.upto topMoneySpec)

/-- 'damsontop.TopFair', WHERE WHAT IT READS IS OF BULK AT MOST 1048576: true; the input reads as it did. -/
def topFairUptoRow : OpenClaim := { program := "ytkihadlgknhpkaagreatdoor", sum := "75a81fb2df6468c3d46f76b48bd75d284d83f77a7a4db5dc315535a3754b9ae7", func := "damson/damsontop.TopFair", spec := "topFair", inPlace := ["slices.overlaps[damson/api.RootKey]", "math/bits.Sub64", "slices.overlaps[damson/api.Channel]", "slices.overlaps[damson/api.Count]", "math.Float64frombits", "slices.overlaps[damson/api.Payment]", "slices.overlaps[damson/api.Hold]", "slices.overlaps[damson/api.Invoice]", "slices.overlaps[damson/api.Key]"], unfollowed := true, recurses := true, named := ["damson/request.methods"], plainKeys := false, apart := false, laid := [("damson/request.methods", laid_damson_request_methods)], narrowed := true }
def TopFairUptoSaid : Prop := topFairUptoRow.holds Tryz.pinned (OpenSpec.upto topFairSpec)

/-- 'damsontop.TopForged', WHERE WHAT IT READS IS OF BULK AT MOST 1048576: true; the input reads as it did. -/
def topForgedUptoRow : OpenClaim := { program := "ytkihadlgknhpkaagreatdoor", sum := "75a81fb2df6468c3d46f76b48bd75d284d83f77a7a4db5dc315535a3754b9ae7", func := "damson/damsontop.TopForged", spec := "topForged", inPlace := ["slices.overlaps[damson/api.RootKey]", "math/bits.Sub64", "slices.overlaps[damson/api.Channel]", "slices.overlaps[damson/api.Count]", "math.Float64frombits", "slices.overlaps[damson/api.Payment]", "slices.overlaps[damson/api.Hold]", "slices.overlaps[damson/api.Invoice]", "slices.overlaps[damson/api.Key]"], unfollowed := true, recurses := true, named := ["damson/request.methods"], plainKeys := false, apart := false, laid := [("damson/request.methods", laid_damson_request_methods)], narrowed := true }
def TopForgedUptoSaid : Prop := topForgedUptoRow.holds Tryz.pinned (OpenSpec.upto topForgedSpec)

end Rows
end Go.Proofs.YtkihadlgknhpkaaGreatDoor
