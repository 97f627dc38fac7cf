/-
  No cell of these rows narrows 'for every input' (looked for: loops, veiled, ifaces, maps, wideKeys, modest, calm, conditions, laid).
  DERIVED. THE GIVEN ROWS OF THIS SEAT. 10 by the template 'for every input the law returns true; each argument reads behind the call as it read before'; 0 by the template 'total and deterministic' (their statements: YtacebemdonoliaaTotals.lean).
  GIVEN WITH THE SEED: the statements are not yours to turn. If you find one false, say at which input.
  Laid BY PROGRAM, IN A SANDBOX (cutbox-rows.mjs): the forced cells as the released guide's own fill.sh prints them over the translation df7aac93ae48b569… (all of the seat's roots in one cut). By AI agents, Wed Nov 11 2026. No macro, syntax, notation, axiom, sorry.
-/
import Derived.Test.YtacebemdonoliaaChecked
import GoSem.Claim
import GoSem.ClaimJoined
import GoSem.ClaimMapViews
import Derived.JoinedTies
import Derived.KernelRfl
namespace Go.Proofs.Ytacebemdonoliaa
/- THE CELL 'sum', in the pinned program and in every row, IS THE sha256 OF THE DUMP (.gsa) THAT YtacebemdonoliaaProg.lean LOADS. Nothing in Lean hashes anything: it is a label: what it is worth is what the hold of that sum in a sandbox is worth. -/
noncomputable def Try.pinned : Pinned := { name := "ytacebemdonoliaa", sum := "df7aac93ae48b569fbe2b8dfb009469f143fefa661ff6fa2ae7a8120b8c27753", checked := Try.checked }
namespace Rows
def none {H : Type} : Left H := { results := [], args := [] }

/-- 'damsonlaw02.TlvOrder': WHATEVER THE INPUT: true; the input reads as it did. -/
def tlvOrderSpec : ChangeSpec := { name := "tlvOrder", fn := fun _ => fun
  | [d1, d2, d3] => { results := [.lit (.bool true)], args := [d1, d2, d3] }
  | _ => none }
def tlvOrderRow : OpenClaim := { program := "ytacebemdonoliaa", sum := "df7aac93ae48b569fbe2b8dfb009469f143fefa661ff6fa2ae7a8120b8c27753", func := "damson/damsonlaw02.TlvOrder", spec := "tlvOrder", unfollowed := true, recurses := true, apart := false }
def TlvOrderSaid : Prop := tlvOrderRow.holds Try.pinned (OpenSpec.ofChange tlvOrderSpec)

/-- ITS FALSE NEIGHBOUR: 'it returns false'. Refute it at one input. -/
def tlvOrderWrong : ChangeSpec := { name := "tlvOrder", fn := fun _ => fun
  | [d1, d2, d3] => { results := [.lit (.bool false)], args := [d1, d2, d3] }
  | _ => none }
def TlvOrderWrongFalsely : Prop := tlvOrderRow.holds Try.pinned (OpenSpec.ofChange tlvOrderWrong)

/-- 'damsonlaw02.TlvWith': WHATEVER THE INPUT: true; the input reads as it did. -/
def tlvWithSpec : ChangeSpec := { name := "tlvWith", fn := fun _ => fun
  | [d1, d2, d3] => { results := [.lit (.bool true)], args := [d1, d2, d3] }
  | _ => none }
def tlvWithRow : OpenClaim := { program := "ytacebemdonoliaa", sum := "df7aac93ae48b569fbe2b8dfb009469f143fefa661ff6fa2ae7a8120b8c27753", func := "damson/damsonlaw02.TlvWith", spec := "tlvWith", unfollowed := true, recurses := true, apart := false }
def TlvWithSaid : Prop := tlvWithRow.holds Try.pinned (OpenSpec.ofChange tlvWithSpec)

/-- ITS FALSE NEIGHBOUR: 'it returns false'. Refute it at one input. -/
def tlvWithWrong : ChangeSpec := { name := "tlvWith", fn := fun _ => fun
  | [d1, d2, d3] => { results := [.lit (.bool false)], args := [d1, d2, d3] }
  | _ => none }
def TlvWithWrongFalsely : Prop := tlvWithRow.holds Try.pinned (OpenSpec.ofChange tlvWithWrong)

/-- 'damsonlaw02.TlvDoes': WHATEVER THE INPUT: true; the input reads as it did. -/
def tlvDoesSpec : ChangeSpec := { name := "tlvDoes", fn := fun _ => fun
  | [d1, d2, d3] => { results := [.lit (.bool true)], args := [d1, d2, d3] }
  | _ => none }
def tlvDoesRow : OpenClaim := { program := "ytacebemdonoliaa", sum := "df7aac93ae48b569fbe2b8dfb009469f143fefa661ff6fa2ae7a8120b8c27753", func := "damson/damsonlaw02.TlvDoes", spec := "tlvDoes", unfollowed := true, recurses := true, apart := false }
def TlvDoesSaid : Prop := tlvDoesRow.holds Try.pinned (OpenSpec.ofChange tlvDoesSpec)

/-- ITS FALSE NEIGHBOUR: 'it returns false'. Refute it at one input. -/
def tlvDoesWrong : ChangeSpec := { name := "tlvDoes", fn := fun _ => fun
  | [d1, d2, d3] => { results := [.lit (.bool false)], args := [d1, d2, d3] }
  | _ => none }
def TlvDoesWrongFalsely : Prop := tlvDoesRow.holds Try.pinned (OpenSpec.ofChange tlvDoesWrong)

/-- 'damsonlaw02.TlvBack': WHATEVER THE INPUT: true; the input reads as it did. -/
def tlvBackSpec : ChangeSpec := { name := "tlvBack", fn := fun _ => fun
  | [d1, d2] => { results := [.lit (.bool true)], args := [d1, d2] }
  | _ => none }
def tlvBackRow : OpenClaim := { program := "ytacebemdonoliaa", sum := "df7aac93ae48b569fbe2b8dfb009469f143fefa661ff6fa2ae7a8120b8c27753", func := "damson/damsonlaw02.TlvBack", spec := "tlvBack", unfollowed := true, recurses := true, apart := false }
def TlvBackSaid : Prop := tlvBackRow.holds Try.pinned (OpenSpec.ofChange tlvBackSpec)

/-- ITS FALSE NEIGHBOUR: 'it returns false'. Refute it at one input. -/
def tlvBackWrong : ChangeSpec := { name := "tlvBack", fn := fun _ => fun
  | [d1, d2] => { results := [.lit (.bool false)], args := [d1, d2] }
  | _ => none }
def TlvBackWrongFalsely : Prop := tlvBackRow.holds Try.pinned (OpenSpec.ofChange tlvBackWrong)

/-- 'damsonlaw02.TlvCut': WHATEVER THE INPUT: true; the input reads as it did. -/
def tlvCutSpec : ChangeSpec := { name := "tlvCut", fn := fun _ => fun
  | [d1, d2, d3] => { results := [.lit (.bool true)], args := [d1, d2, d3] }
  | _ => none }
def tlvCutRow : OpenClaim := { program := "ytacebemdonoliaa", sum := "df7aac93ae48b569fbe2b8dfb009469f143fefa661ff6fa2ae7a8120b8c27753", func := "damson/damsonlaw02.TlvCut", spec := "tlvCut", unfollowed := true, recurses := true, apart := false }
def TlvCutSaid : Prop := tlvCutRow.holds Try.pinned (OpenSpec.ofChange tlvCutSpec)

/-- ITS FALSE NEIGHBOUR: 'it returns false'. Refute it at one input. -/
def tlvCutWrong : ChangeSpec := { name := "tlvCut", fn := fun _ => fun
  | [d1, d2, d3] => { results := [.lit (.bool false)], args := [d1, d2, d3] }
  | _ => none }
def TlvCutWrongFalsely : Prop := tlvCutRow.holds Try.pinned (OpenSpec.ofChange tlvCutWrong)

/-- 'damsonlaw02.TlvFinds': WHATEVER THE INPUT: true; the input reads as it did. -/
def tlvFindsSpec : ChangeSpec := { name := "tlvFinds", fn := fun _ => fun
  | [d1, d2, d3] => { results := [.lit (.bool true)], args := [d1, d2, d3] }
  | _ => none }
def tlvFindsRow : OpenClaim := { program := "ytacebemdonoliaa", sum := "df7aac93ae48b569fbe2b8dfb009469f143fefa661ff6fa2ae7a8120b8c27753", func := "damson/damsonlaw02.TlvFinds", spec := "tlvFinds", unfollowed := true, recurses := true, apart := false }
def TlvFindsSaid : Prop := tlvFindsRow.holds Try.pinned (OpenSpec.ofChange tlvFindsSpec)

/-- ITS FALSE NEIGHBOUR: 'it returns false'. Refute it at one input. -/
def tlvFindsWrong : ChangeSpec := { name := "tlvFinds", fn := fun _ => fun
  | [d1, d2, d3] => { results := [.lit (.bool false)], args := [d1, d2, d3] }
  | _ => none }
def TlvFindsWrongFalsely : Prop := tlvFindsRow.holds Try.pinned (OpenSpec.ofChange tlvFindsWrong)

/-- 'damsonlaw20.ReplyParts': WHATEVER THE INPUT: true; the input reads as it did. -/
def replyPartsSpec : ChangeSpec := { name := "replyParts", fn := fun _ => fun
  | [d] => { results := [.lit (.bool true)], args := [d] }
  | _ => none }
def replyPartsRow : OpenClaim := { program := "ytacebemdonoliaa", sum := "df7aac93ae48b569fbe2b8dfb009469f143fefa661ff6fa2ae7a8120b8c27753", func := "damson/damsonlaw20.ReplyParts", spec := "replyParts", unfollowed := true, recurses := true, apart := false }
def ReplyPartsSaid : Prop := replyPartsRow.holds Try.pinned (OpenSpec.ofChange replyPartsSpec)

/-- ITS FALSE NEIGHBOUR: 'it returns false'. Refute it at one input. -/
def replyPartsWrong : ChangeSpec := { name := "replyParts", fn := fun _ => fun
  | [d] => { results := [.lit (.bool false)], args := [d] }
  | _ => none }
def ReplyPartsWrongFalsely : Prop := replyPartsRow.holds Try.pinned (OpenSpec.ofChange replyPartsWrong)

/-- 'damsonlaw20.ReplyApart': WHATEVER THE INPUT: true; the input reads as it did. -/
def replyApartSpec : ChangeSpec := { name := "replyApart", fn := fun _ => fun
  | [d1, d2] => { results := [.lit (.bool true)], args := [d1, d2] }
  | _ => none }
def replyApartRow : OpenClaim := { program := "ytacebemdonoliaa", sum := "df7aac93ae48b569fbe2b8dfb009469f143fefa661ff6fa2ae7a8120b8c27753", func := "damson/damsonlaw20.ReplyApart", spec := "replyApart", unfollowed := true, recurses := true, apart := false }
def ReplyApartSaid : Prop := replyApartRow.holds Try.pinned (OpenSpec.ofChange replyApartSpec)

/-- ITS FALSE NEIGHBOUR: 'it returns false'. Refute it at one input. -/
def replyApartWrong : ChangeSpec := { name := "replyApart", fn := fun _ => fun
  | [d1, d2] => { results := [.lit (.bool false)], args := [d1, d2] }
  | _ => none }
def ReplyApartWrongFalsely : Prop := replyApartRow.holds Try.pinned (OpenSpec.ofChange replyApartWrong)

/-- 'damsonlaw20.ReplyDoes': WHATEVER THE INPUT: true; the input reads as it did. -/
def replyDoesSpec : ChangeSpec := { name := "replyDoes", fn := fun _ => fun
  | [d1, d2, d3] => { results := [.lit (.bool true)], args := [d1, d2, d3] }
  | _ => none }
def replyDoesRow : OpenClaim := { program := "ytacebemdonoliaa", sum := "df7aac93ae48b569fbe2b8dfb009469f143fefa661ff6fa2ae7a8120b8c27753", func := "damson/damsonlaw20.ReplyDoes", spec := "replyDoes", unfollowed := true, recurses := true, apart := false }
def ReplyDoesSaid : Prop := replyDoesRow.holds Try.pinned (OpenSpec.ofChange replyDoesSpec)

/-- ITS FALSE NEIGHBOUR: 'it returns false'. Refute it at one input. -/
def replyDoesWrong : ChangeSpec := { name := "replyDoes", fn := fun _ => fun
  | [d1, d2, d3] => { results := [.lit (.bool false)], args := [d1, d2, d3] }
  | _ => none }
def ReplyDoesWrongFalsely : Prop := replyDoesRow.holds Try.pinned (OpenSpec.ofChange replyDoesWrong)

/-- 'damsonlaw20.ReplyBack': WHATEVER THE INPUT: true; the input reads as it did. -/
def replyBackSpec : ChangeSpec := { name := "replyBack", fn := fun _ => fun
  | [d1, d2] => { results := [.lit (.bool true)], args := [d1, d2] }
  | _ => none }
def replyBackRow : OpenClaim := { program := "ytacebemdonoliaa", sum := "df7aac93ae48b569fbe2b8dfb009469f143fefa661ff6fa2ae7a8120b8c27753", func := "damson/damsonlaw20.ReplyBack", spec := "replyBack", unfollowed := true, recurses := true, apart := false }
def ReplyBackSaid : Prop := replyBackRow.holds Try.pinned (OpenSpec.ofChange replyBackSpec)

/-- ITS FALSE NEIGHBOUR: 'it returns false'. Refute it at one input. -/
def replyBackWrong : ChangeSpec := { name := "replyBack", fn := fun _ => fun
  | [d1, d2] => { results := [.lit (.bool false)], args := [d1, d2] }
  | _ => none }
def ReplyBackWrongFalsely : Prop := replyBackRow.holds Try.pinned (OpenSpec.ofChange replyBackWrong)

/- THE SECOND FORM. 'bulk': how many values and letters a reading holds, each counted each time it is reached (what is shared counts as often as it is met; a slice's spare places count too). A statement '..UptoSaid' is the law's where the arguments, and the package variables that the reading takes, are together of bulk at most 1048576: NARROWER than '..Said'. Prove '..Said' where nothing that the law and all that it calls make is longer than what came in: it says more and counts as full. Else prove '..UptoSaid'. A law counts once. -/
mutual
def uptoBulk {H : Type} : DataW H → Nat
  | .lit (.string bytes) => bytes.length + 1
  | .lit _ => 1
  | .nil => 1
  | .ptr d => uptoBulk d + 1
  | .slice elems spare => uptoBulkAll elems + uptoBulkAll spare + 1
  | .agg parts => uptoBulkAll parts + 1
  | .iface _ d => uptoBulk d + 1
  | .map entries => uptoBulkEntries entries + 1
  | .held _ => 1
def uptoBulkAll {H : Type} : List (DataW H) → Nat
  | [] => 0
  | d :: r => uptoBulk d + uptoBulkAll r
def uptoBulkEntries {H : Type} : List (Lit × DataW H) → Nat
  | [] => 0
  | x :: r => uptoBulkEntry x + uptoBulkEntries r
def uptoBulkEntry {H : Type} : Lit × DataW H → Nat
  | (.string bytes, d) => bytes.length + uptoBulk d + 1
  | (_, d) => uptoBulk d + 1
 end
def uptoSmall : (H : Type) → List (DataW H) → Bool := fun _ ds => decide (uptoBulkAll ds ≤ 1048576)
def OpenSpec.upto (s : _root_.Go.ChangeSpec) : _root_.Go.OpenSpec := { _root_.Go.OpenSpec.ofChange s with cond := some uptoSmall }

/-- 'damsonlaw02.TlvOrder', WHERE WHAT IT READS IS OF BULK AT MOST 1048576: true; the input reads as it did. -/
def tlvOrderUptoRow : OpenClaim := { program := "ytacebemdonoliaa", sum := "df7aac93ae48b569fbe2b8dfb009469f143fefa661ff6fa2ae7a8120b8c27753", func := "damson/damsonlaw02.TlvOrder", spec := "tlvOrder", unfollowed := true, recurses := true, apart := false, narrowed := true }
def TlvOrderUptoSaid : Prop := tlvOrderUptoRow.holds Try.pinned (OpenSpec.upto tlvOrderSpec)

/-- 'damsonlaw02.TlvWith', WHERE WHAT IT READS IS OF BULK AT MOST 1048576: true; the input reads as it did. -/
def tlvWithUptoRow : OpenClaim := { program := "ytacebemdonoliaa", sum := "df7aac93ae48b569fbe2b8dfb009469f143fefa661ff6fa2ae7a8120b8c27753", func := "damson/damsonlaw02.TlvWith", spec := "tlvWith", unfollowed := true, recurses := true, apart := false, narrowed := true }
def TlvWithUptoSaid : Prop := tlvWithUptoRow.holds Try.pinned (OpenSpec.upto tlvWithSpec)

/-- 'damsonlaw02.TlvDoes', WHERE WHAT IT READS IS OF BULK AT MOST 1048576: true; the input reads as it did. -/
def tlvDoesUptoRow : OpenClaim := { program := "ytacebemdonoliaa", sum := "df7aac93ae48b569fbe2b8dfb009469f143fefa661ff6fa2ae7a8120b8c27753", func := "damson/damsonlaw02.TlvDoes", spec := "tlvDoes", unfollowed := true, recurses := true, apart := false, narrowed := true }
def TlvDoesUptoSaid : Prop := tlvDoesUptoRow.holds Try.pinned (OpenSpec.upto tlvDoesSpec)

/-- 'damsonlaw02.TlvBack', WHERE WHAT IT READS IS OF BULK AT MOST 1048576: true; the input reads as it did. -/
def tlvBackUptoRow : OpenClaim := { program := "ytacebemdonoliaa", sum := "df7aac93ae48b569fbe2b8dfb009469f143fefa661ff6fa2ae7a8120b8c27753", func := "damson/damsonlaw02.TlvBack", spec := "tlvBack", unfollowed := true, recurses := true, apart := false, narrowed := true }
def TlvBackUptoSaid : Prop := tlvBackUptoRow.holds Try.pinned (OpenSpec.upto tlvBackSpec)

/-- 'damsonlaw02.TlvCut', WHERE WHAT IT READS IS OF BULK AT MOST 1048576: true; the input reads as it did. -/
def tlvCutUptoRow : OpenClaim := { program := "ytacebemdonoliaa", sum := "df7aac93ae48b569fbe2b8dfb009469f143fefa661ff6fa2ae7a8120b8c27753", func := "damson/damsonlaw02.TlvCut", spec := "tlvCut", unfollowed := true, recurses := true, apart := false, narrowed := true }
def TlvCutUptoSaid : Prop := tlvCutUptoRow.holds Try.pinned (OpenSpec.upto tlvCutSpec)

/-- 'damsonlaw02.TlvFinds', WHERE WHAT IT READS IS OF BULK AT MOST 1048576: true; the input reads as it did. -/
def tlvFindsUptoRow : OpenClaim := { program := "ytacebemdonoliaa", sum := "df7aac93ae48b569fbe2b8dfb009469f143fefa661ff6fa2ae7a8120b8c27753", func := "damson/damsonlaw02.TlvFinds", spec := "tlvFinds", unfollowed := true, recurses := true, apart := false, narrowed := true }
def TlvFindsUptoSaid : Prop := tlvFindsUptoRow.holds Try.pinned (OpenSpec.upto tlvFindsSpec)

/-- 'damsonlaw20.ReplyParts', WHERE WHAT IT READS IS OF BULK AT MOST 1048576: true; the input reads as it did. -/
def replyPartsUptoRow : OpenClaim := { program := "ytacebemdonoliaa", sum := "df7aac93ae48b569fbe2b8dfb009469f143fefa661ff6fa2ae7a8120b8c27753", func := "damson/damsonlaw20.ReplyParts", spec := "replyParts", unfollowed := true, recurses := true, apart := false, narrowed := true }
def ReplyPartsUptoSaid : Prop := replyPartsUptoRow.holds Try.pinned (OpenSpec.upto replyPartsSpec)

/-- 'damsonlaw20.ReplyApart', WHERE WHAT IT READS IS OF BULK AT MOST 1048576: true; the input reads as it did. -/
def replyApartUptoRow : OpenClaim := { program := "ytacebemdonoliaa", sum := "df7aac93ae48b569fbe2b8dfb009469f143fefa661ff6fa2ae7a8120b8c27753", func := "damson/damsonlaw20.ReplyApart", spec := "replyApart", unfollowed := true, recurses := true, apart := false, narrowed := true }
def ReplyApartUptoSaid : Prop := replyApartUptoRow.holds Try.pinned (OpenSpec.upto replyApartSpec)

/-- 'damsonlaw20.ReplyDoes', WHERE WHAT IT READS IS OF BULK AT MOST 1048576: true; the input reads as it did. -/
def replyDoesUptoRow : OpenClaim := { program := "ytacebemdonoliaa", sum := "df7aac93ae48b569fbe2b8dfb009469f143fefa661ff6fa2ae7a8120b8c27753", func := "damson/damsonlaw20.ReplyDoes", spec := "replyDoes", unfollowed := true, recurses := true, apart := false, narrowed := true }
def ReplyDoesUptoSaid : Prop := replyDoesUptoRow.holds Try.pinned (OpenSpec.upto replyDoesSpec)

/-- 'damsonlaw20.ReplyBack', WHERE WHAT IT READS IS OF BULK AT MOST 1048576: true; the input reads as it did. -/
def replyBackUptoRow : OpenClaim := { program := "ytacebemdonoliaa", sum := "df7aac93ae48b569fbe2b8dfb009469f143fefa661ff6fa2ae7a8120b8c27753", func := "damson/damsonlaw20.ReplyBack", spec := "replyBack", unfollowed := true, recurses := true, apart := false, narrowed := true }
def ReplyBackUptoSaid : Prop := replyBackUptoRow.holds Try.pinned (OpenSpec.upto replyBackSpec)

end Rows
end Go.Proofs.Ytacebemdonoliaa
