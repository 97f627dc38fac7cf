/-
  No cell of these rows narrows 'for every input' (looked for: loops, veiled, ifaces, maps, wideKeys, modest, calm, conditions, laid).
  DERIVED. THE GIVEN ROWS OF THIS SEAT. 9 by the template 'for every input the law returns true; each argument reads behind the call as it read before'; 0 by the template 'total and deterministic' (their statements: YtdidfddgoheomaaTotals.lean).
  GIVEN WITH THE SEED: the statements are not yours to turn. If you find one false, say at which input.
  Laid BY PROGRAM, IN A SANDBOX (cutbox-rows.mjs): the forced cells as the released guide's own fill.sh prints them over the translation c99d86e7f7397d83… (all of the seat's roots in one cut). By AI agents, Wed Nov 11 2026. No macro, syntax, notation, axiom, sorry.
-/
import Derived.Test.YtdidfddgoheomaaChecked
import GoSem.Claim
import GoSem.ClaimJoined
import GoSem.ClaimMapViews
import Derived.JoinedTies
import Derived.KernelRfl
namespace Go.Proofs.Ytdidfddgoheomaa
/- THE CELL 'sum', in the pinned program and in every row, IS THE sha256 OF THE DUMP (.gsa) THAT YtdidfddgoheomaaProg.lean LOADS. Nothing in Lean hashes anything: it is a label: what it is worth is what the hold of that sum in a sandbox is worth. -/
noncomputable def Try.pinned : Pinned := { name := "ytdidfddgoheomaa", sum := "c99d86e7f7397d83c52fc6755834c611e343609078cf0fb54dc691f1b522b84e", checked := Try.checked }
namespace Rows
def none {H : Type} : Left H := { results := [], args := [] }

/-- 'damsonlaw03.FrameCut': WHATEVER THE INPUT: true; the input reads as it did. -/
def frameCutSpec : ChangeSpec := { name := "frameCut", fn := fun _ => fun
  | [d1, d2, d3] => { results := [.lit (.bool true)], args := [d1, d2, d3] }
  | _ => none }
def frameCutRow : OpenClaim := { program := "ytdidfddgoheomaa", sum := "c99d86e7f7397d83c52fc6755834c611e343609078cf0fb54dc691f1b522b84e", func := "damson/damsonlaw03.FrameCut", spec := "frameCut", apart := false }
def FrameCutSaid : Prop := frameCutRow.holds Try.pinned (OpenSpec.ofChange frameCutSpec)

/-- ITS FALSE NEIGHBOUR: 'it returns false'. Refute it at one input. -/
def frameCutWrong : ChangeSpec := { name := "frameCut", fn := fun _ => fun
  | [d1, d2, d3] => { results := [.lit (.bool false)], args := [d1, d2, d3] }
  | _ => none }
def FrameCutWrongFalsely : Prop := frameCutRow.holds Try.pinned (OpenSpec.ofChange frameCutWrong)

/-- 'damsonlaw03.FrameWants': WHATEVER THE INPUT: true; the input reads as it did. -/
def frameWantsSpec : ChangeSpec := { name := "frameWants", fn := fun _ => fun
  | [d1, d2] => { results := [.lit (.bool true)], args := [d1, d2] }
  | _ => none }
def frameWantsRow : OpenClaim := { program := "ytdidfddgoheomaa", sum := "c99d86e7f7397d83c52fc6755834c611e343609078cf0fb54dc691f1b522b84e", func := "damson/damsonlaw03.FrameWants", spec := "frameWants", apart := false }
def FrameWantsSaid : Prop := frameWantsRow.holds Try.pinned (OpenSpec.ofChange frameWantsSpec)

/-- ITS FALSE NEIGHBOUR: 'it returns false'. Refute it at one input. -/
def frameWantsWrong : ChangeSpec := { name := "frameWants", fn := fun _ => fun
  | [d1, d2] => { results := [.lit (.bool false)], args := [d1, d2] }
  | _ => none }
def FrameWantsWrongFalsely : Prop := frameWantsRow.holds Try.pinned (OpenSpec.ofChange frameWantsWrong)

/-- 'damsonlaw03.FrameDoes': WHATEVER THE INPUT: true; the input reads as it did. -/
def frameDoesSpec : ChangeSpec := { name := "frameDoes", fn := fun _ => fun
  | [d1, d2, d3] => { results := [.lit (.bool true)], args := [d1, d2, d3] }
  | _ => none }
def frameDoesRow : OpenClaim := { program := "ytdidfddgoheomaa", sum := "c99d86e7f7397d83c52fc6755834c611e343609078cf0fb54dc691f1b522b84e", func := "damson/damsonlaw03.FrameDoes", spec := "frameDoes", apart := false }
def FrameDoesSaid : Prop := frameDoesRow.holds Try.pinned (OpenSpec.ofChange frameDoesSpec)

/-- ITS FALSE NEIGHBOUR: 'it returns false'. Refute it at one input. -/
def frameDoesWrong : ChangeSpec := { name := "frameDoes", fn := fun _ => fun
  | [d1, d2, d3] => { results := [.lit (.bool false)], args := [d1, d2, d3] }
  | _ => none }
def FrameDoesWrongFalsely : Prop := frameDoesRow.holds Try.pinned (OpenSpec.ofChange frameDoesWrong)

/-- 'damsonlaw03.FrameBad': WHATEVER THE INPUT: true; the input reads as it did. -/
def frameBadSpec : ChangeSpec := { name := "frameBad", fn := fun _ => fun
  | [d1, d2, d3] => { results := [.lit (.bool true)], args := [d1, d2, d3] }
  | _ => none }
def frameBadRow : OpenClaim := { program := "ytdidfddgoheomaa", sum := "c99d86e7f7397d83c52fc6755834c611e343609078cf0fb54dc691f1b522b84e", func := "damson/damsonlaw03.FrameBad", spec := "frameBad", apart := false }
def FrameBadSaid : Prop := frameBadRow.holds Try.pinned (OpenSpec.ofChange frameBadSpec)

/-- ITS FALSE NEIGHBOUR: 'it returns false'. Refute it at one input. -/
def frameBadWrong : ChangeSpec := { name := "frameBad", fn := fun _ => fun
  | [d1, d2, d3] => { results := [.lit (.bool false)], args := [d1, d2, d3] }
  | _ => none }
def FrameBadWrongFalsely : Prop := frameBadRow.holds Try.pinned (OpenSpec.ofChange frameBadWrong)

/-- 'damsonlaw22.SessionHears': WHATEVER THE INPUT: true; the input reads as it did. -/
def sessionHearsSpec : ChangeSpec := { name := "sessionHears", fn := fun _ => fun
  | [d1, d2] => { results := [.lit (.bool true)], args := [d1, d2] }
  | _ => none }
def sessionHearsRow : OpenClaim := { program := "ytdidfddgoheomaa", sum := "c99d86e7f7397d83c52fc6755834c611e343609078cf0fb54dc691f1b522b84e", func := "damson/damsonlaw22.SessionHears", spec := "sessionHears", unfollowed := true, recurses := true, apart := false }
def SessionHearsSaid : Prop := sessionHearsRow.holds Try.pinned (OpenSpec.ofChange sessionHearsSpec)

/-- ITS FALSE NEIGHBOUR: 'it returns false'. Refute it at one input. -/
def sessionHearsWrong : ChangeSpec := { name := "sessionHears", fn := fun _ => fun
  | [d1, d2] => { results := [.lit (.bool false)], args := [d1, d2] }
  | _ => none }
def SessionHearsWrongFalsely : Prop := sessionHearsRow.holds Try.pinned (OpenSpec.ofChange sessionHearsWrong)

/-- 'damsonlaw22.SessionOrder': WHATEVER THE INPUT: true; the input reads as it did. -/
def sessionOrderSpec : ChangeSpec := { name := "sessionOrder", fn := fun _ => fun
  | [d1, d2] => { results := [.lit (.bool true)], args := [d1, d2] }
  | _ => none }
def sessionOrderRow : OpenClaim := { program := "ytdidfddgoheomaa", sum := "c99d86e7f7397d83c52fc6755834c611e343609078cf0fb54dc691f1b522b84e", func := "damson/damsonlaw22.SessionOrder", spec := "sessionOrder", unfollowed := true, recurses := true, apart := false }
def SessionOrderSaid : Prop := sessionOrderRow.holds Try.pinned (OpenSpec.ofChange sessionOrderSpec)

/-- ITS FALSE NEIGHBOUR: 'it returns false'. Refute it at one input. -/
def sessionOrderWrong : ChangeSpec := { name := "sessionOrder", fn := fun _ => fun
  | [d1, d2] => { results := [.lit (.bool false)], args := [d1, d2] }
  | _ => none }
def SessionOrderWrongFalsely : Prop := sessionOrderRow.holds Try.pinned (OpenSpec.ofChange sessionOrderWrong)

/-- 'damsonlaw22.SessionTakes': WHATEVER THE INPUT: true; the input reads as it did. -/
def sessionTakesSpec : ChangeSpec := { name := "sessionTakes", fn := fun _ => fun
  | [d1, d2] => { results := [.lit (.bool true)], args := [d1, d2] }
  | _ => none }
def sessionTakesRow : OpenClaim := { program := "ytdidfddgoheomaa", sum := "c99d86e7f7397d83c52fc6755834c611e343609078cf0fb54dc691f1b522b84e", func := "damson/damsonlaw22.SessionTakes", spec := "sessionTakes", unfollowed := true, recurses := true, apart := false }
def SessionTakesSaid : Prop := sessionTakesRow.holds Try.pinned (OpenSpec.ofChange sessionTakesSpec)

/-- ITS FALSE NEIGHBOUR: 'it returns false'. Refute it at one input. -/
def sessionTakesWrong : ChangeSpec := { name := "sessionTakes", fn := fun _ => fun
  | [d1, d2] => { results := [.lit (.bool false)], args := [d1, d2] }
  | _ => none }
def SessionTakesWrongFalsely : Prop := sessionTakesRow.holds Try.pinned (OpenSpec.ofChange sessionTakesWrong)

/-- 'damsonlaw22.SessionFull': WHATEVER THE INPUT: true; the input reads as it did. -/
def sessionFullSpec : ChangeSpec := { name := "sessionFull", fn := fun _ => fun
  | [d1, d2] => { results := [.lit (.bool true)], args := [d1, d2] }
  | _ => none }
def sessionFullRow : OpenClaim := { program := "ytdidfddgoheomaa", sum := "c99d86e7f7397d83c52fc6755834c611e343609078cf0fb54dc691f1b522b84e", func := "damson/damsonlaw22.SessionFull", spec := "sessionFull", unfollowed := true, recurses := true, apart := false }
def SessionFullSaid : Prop := sessionFullRow.holds Try.pinned (OpenSpec.ofChange sessionFullSpec)

/-- ITS FALSE NEIGHBOUR: 'it returns false'. Refute it at one input. -/
def sessionFullWrong : ChangeSpec := { name := "sessionFull", fn := fun _ => fun
  | [d1, d2] => { results := [.lit (.bool false)], args := [d1, d2] }
  | _ => none }
def SessionFullWrongFalsely : Prop := sessionFullRow.holds Try.pinned (OpenSpec.ofChange sessionFullWrong)

/-- 'damsonlaw22.SessionDown': WHATEVER THE INPUT: true; the input reads as it did. -/
def sessionDownSpec : ChangeSpec := { name := "sessionDown", fn := fun _ => fun
  | [d1, d2] => { results := [.lit (.bool true)], args := [d1, d2] }
  | _ => none }
def sessionDownRow : OpenClaim := { program := "ytdidfddgoheomaa", sum := "c99d86e7f7397d83c52fc6755834c611e343609078cf0fb54dc691f1b522b84e", func := "damson/damsonlaw22.SessionDown", spec := "sessionDown", unfollowed := true, recurses := true, apart := false }
def SessionDownSaid : Prop := sessionDownRow.holds Try.pinned (OpenSpec.ofChange sessionDownSpec)

/-- ITS FALSE NEIGHBOUR: 'it returns false'. Refute it at one input. -/
def sessionDownWrong : ChangeSpec := { name := "sessionDown", fn := fun _ => fun
  | [d1, d2] => { results := [.lit (.bool false)], args := [d1, d2] }
  | _ => none }
def SessionDownWrongFalsely : Prop := sessionDownRow.holds Try.pinned (OpenSpec.ofChange sessionDownWrong)

/- THE SECOND FORM. 'bulk': how many values and letters a reading holds, each counted each time it is reached (what is shared counts as often as it is met; a slice's spare places count too). A statement '..UptoSaid' is the law's where the arguments, and the package variables that the reading takes, are together of bulk at most 1048576: NARROWER than '..Said'. Prove '..Said' where nothing that the law and all that it calls make is longer than what came in: it says more and counts as full. Else prove '..UptoSaid'. A law counts once. -/
mutual
def uptoBulk {H : Type} : DataW H → Nat
  | .lit (.string bytes) => bytes.length + 1
  | .lit _ => 1
  | .nil => 1
  | .ptr d => uptoBulk d + 1
  | .slice elems spare => uptoBulkAll elems + uptoBulkAll spare + 1
  | .agg parts => uptoBulkAll parts + 1
  | .iface _ d => uptoBulk d + 1
  | .map entries => uptoBulkEntries entries + 1
  | .held _ => 1
def uptoBulkAll {H : Type} : List (DataW H) → Nat
  | [] => 0
  | d :: r => uptoBulk d + uptoBulkAll r
def uptoBulkEntries {H : Type} : List (Lit × DataW H) → Nat
  | [] => 0
  | x :: r => uptoBulkEntry x + uptoBulkEntries r
def uptoBulkEntry {H : Type} : Lit × DataW H → Nat
  | (.string bytes, d) => bytes.length + uptoBulk d + 1
  | (_, d) => uptoBulk d + 1
 end
def uptoSmall : (H : Type) → List (DataW H) → Bool := fun _ ds => decide (uptoBulkAll ds ≤ 1048576)
def OpenSpec.upto (s : _root_.Go.ChangeSpec) : _root_.Go.OpenSpec := { _root_.Go.OpenSpec.ofChange s with cond := some uptoSmall }

/-- 'damsonlaw03.FrameCut', WHERE WHAT IT READS IS OF BULK AT MOST 1048576: true; the input reads as it did. -/
def frameCutUptoRow : OpenClaim := { program := "ytdidfddgoheomaa", sum := "c99d86e7f7397d83c52fc6755834c611e343609078cf0fb54dc691f1b522b84e", func := "damson/damsonlaw03.FrameCut", spec := "frameCut", apart := false, narrowed := true }
def FrameCutUptoSaid : Prop := frameCutUptoRow.holds Try.pinned (OpenSpec.upto frameCutSpec)

/-- 'damsonlaw03.FrameWants', WHERE WHAT IT READS IS OF BULK AT MOST 1048576: true; the input reads as it did. -/
def frameWantsUptoRow : OpenClaim := { program := "ytdidfddgoheomaa", sum := "c99d86e7f7397d83c52fc6755834c611e343609078cf0fb54dc691f1b522b84e", func := "damson/damsonlaw03.FrameWants", spec := "frameWants", apart := false, narrowed := true }
def FrameWantsUptoSaid : Prop := frameWantsUptoRow.holds Try.pinned (OpenSpec.upto frameWantsSpec)

/-- 'damsonlaw03.FrameDoes', WHERE WHAT IT READS IS OF BULK AT MOST 1048576: true; the input reads as it did. -/
def frameDoesUptoRow : OpenClaim := { program := "ytdidfddgoheomaa", sum := "c99d86e7f7397d83c52fc6755834c611e343609078cf0fb54dc691f1b522b84e", func := "damson/damsonlaw03.FrameDoes", spec := "frameDoes", apart := false, narrowed := true }
def FrameDoesUptoSaid : Prop := frameDoesUptoRow.holds Try.pinned (OpenSpec.upto frameDoesSpec)

/-- 'damsonlaw03.FrameBad', WHERE WHAT IT READS IS OF BULK AT MOST 1048576: true; the input reads as it did. -/
def frameBadUptoRow : OpenClaim := { program := "ytdidfddgoheomaa", sum := "c99d86e7f7397d83c52fc6755834c611e343609078cf0fb54dc691f1b522b84e", func := "damson/damsonlaw03.FrameBad", spec := "frameBad", apart := false, narrowed := true }
def FrameBadUptoSaid : Prop := frameBadUptoRow.holds Try.pinned (OpenSpec.upto frameBadSpec)

/-- 'damsonlaw22.SessionHears', WHERE WHAT IT READS IS OF BULK AT MOST 1048576: true; the input reads as it did. -/
def sessionHearsUptoRow : OpenClaim := { program := "ytdidfddgoheomaa", sum := "c99d86e7f7397d83c52fc6755834c611e343609078cf0fb54dc691f1b522b84e", func := "damson/damsonlaw22.SessionHears", spec := "sessionHears", unfollowed := true, recurses := true, apart := false, narrowed := true }
def SessionHearsUptoSaid : Prop := sessionHearsUptoRow.holds Try.pinned (OpenSpec.upto sessionHearsSpec)

/-- 'damsonlaw22.SessionOrder', WHERE WHAT IT READS IS OF BULK AT MOST 1048576: true; the input reads as it did. -/
def sessionOrderUptoRow : OpenClaim := { program := "ytdidfddgoheomaa", sum := "c99d86e7f7397d83c52fc6755834c611e343609078cf0fb54dc691f1b522b84e", func := "damson/damsonlaw22.SessionOrder", spec := "sessionOrder", unfollowed := true, recurses := true, apart := false, narrowed := true }
def SessionOrderUptoSaid : Prop := sessionOrderUptoRow.holds Try.pinned (OpenSpec.upto sessionOrderSpec)

/-- 'damsonlaw22.SessionTakes', WHERE WHAT IT READS IS OF BULK AT MOST 1048576: true; the input reads as it did. -/
def sessionTakesUptoRow : OpenClaim := { program := "ytdidfddgoheomaa", sum := "c99d86e7f7397d83c52fc6755834c611e343609078cf0fb54dc691f1b522b84e", func := "damson/damsonlaw22.SessionTakes", spec := "sessionTakes", unfollowed := true, recurses := true, apart := false, narrowed := true }
def SessionTakesUptoSaid : Prop := sessionTakesUptoRow.holds Try.pinned (OpenSpec.upto sessionTakesSpec)

/-- 'damsonlaw22.SessionFull', WHERE WHAT IT READS IS OF BULK AT MOST 1048576: true; the input reads as it did. -/
def sessionFullUptoRow : OpenClaim := { program := "ytdidfddgoheomaa", sum := "c99d86e7f7397d83c52fc6755834c611e343609078cf0fb54dc691f1b522b84e", func := "damson/damsonlaw22.SessionFull", spec := "sessionFull", unfollowed := true, recurses := true, apart := false, narrowed := true }
def SessionFullUptoSaid : Prop := sessionFullUptoRow.holds Try.pinned (OpenSpec.upto sessionFullSpec)

/-- 'damsonlaw22.SessionDown', WHERE WHAT IT READS IS OF BULK AT MOST 1048576: true; the input reads as it did. -/
def sessionDownUptoRow : OpenClaim := { program := "ytdidfddgoheomaa", sum := "c99d86e7f7397d83c52fc6755834c611e343609078cf0fb54dc691f1b522b84e", func := "damson/damsonlaw22.SessionDown", spec := "sessionDown", unfollowed := true, recurses := true, apart := false, narrowed := true }
def SessionDownUptoSaid : Prop := sessionDownUptoRow.holds Try.pinned (OpenSpec.upto sessionDownSpec)

end Rows
end Go.Proofs.Ytdidfddgoheomaa
