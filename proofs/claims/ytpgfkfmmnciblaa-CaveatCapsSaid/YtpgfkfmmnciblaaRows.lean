/-
  No cell of these rows narrows 'for every input' (looked for: loops, veiled, ifaces, maps, wideKeys, modest, calm, conditions, laid).
  DERIVED. THE GIVEN ROWS OF THIS SEAT. 9 by the template 'for every input the law returns true; each argument reads behind the call as it read before'; 0 by the template 'total and deterministic' (their statements: YtpgfkfmmnciblaaTotals.lean).
  GIVEN WITH THE SEED: the statements are not yours to turn. If you find one false, say at which input.
  Laid BY PROGRAM, IN A SANDBOX (cutbox-rows.mjs): the forced cells as the released guide's own fill.sh prints them over the translation 870e5dea1a685ebb… (all of the seat's roots in one cut). By AI agents, Wed Nov 11 2026. No macro, syntax, notation, axiom, sorry.
-/
import Derived.Test.YtpgfkfmmnciblaaChecked
import GoSem.Claim
import GoSem.ClaimJoined
import GoSem.ClaimMapViews
import Derived.JoinedTies
import Derived.KernelRfl
namespace Go.Proofs.Ytpgfkfmmnciblaa
/- THE CELL 'sum', in the pinned program and in every row, IS THE sha256 OF THE DUMP (.gsa) THAT YtpgfkfmmnciblaaProg.lean LOADS. Nothing in Lean hashes anything: it is a label: what it is worth is what the hold of that sum in a sandbox is worth. -/
noncomputable def Try.pinned : Pinned := { name := "ytpgfkfmmnciblaa", sum := "870e5dea1a685ebbb111fd6a173c518b0b4bb45b01ec591f223ea5740d321ef4", checked := Try.checked }
namespace Rows
def none {H : Type} : Left H := { results := [], args := [] }

/-- 'damsonlaw01.BigsizeApart': WHATEVER THE INPUT: true; the input reads as it did. -/
def bigsizeApartSpec : ChangeSpec := { name := "bigsizeApart", fn := fun _ => fun
  | [d1, d2] => { results := [.lit (.bool true)], args := [d1, d2] }
  | _ => none }
def bigsizeApartRow : OpenClaim := { program := "ytpgfkfmmnciblaa", sum := "870e5dea1a685ebbb111fd6a173c518b0b4bb45b01ec591f223ea5740d321ef4", func := "damson/damsonlaw01.BigsizeApart", spec := "bigsizeApart", apart := false }
def BigsizeApartSaid : Prop := bigsizeApartRow.holds Try.pinned (OpenSpec.ofChange bigsizeApartSpec)

/-- ITS FALSE NEIGHBOUR: 'it returns false'. Refute it at one input. -/
def bigsizeApartWrong : ChangeSpec := { name := "bigsizeApart", fn := fun _ => fun
  | [d1, d2] => { results := [.lit (.bool false)], args := [d1, d2] }
  | _ => none }
def BigsizeApartWrongFalsely : Prop := bigsizeApartRow.holds Try.pinned (OpenSpec.ofChange bigsizeApartWrong)

/-- 'damsonlaw01.BigsizeSum': WHATEVER THE INPUT: true; the input reads as it did. -/
def bigsizeSumSpec : ChangeSpec := { name := "bigsizeSum", fn := fun _ => fun
  | [d1, d2] => { results := [.lit (.bool true)], args := [d1, d2] }
  | _ => none }
def bigsizeSumRow : OpenClaim := { program := "ytpgfkfmmnciblaa", sum := "870e5dea1a685ebbb111fd6a173c518b0b4bb45b01ec591f223ea5740d321ef4", func := "damson/damsonlaw01.BigsizeSum", spec := "bigsizeSum", apart := false }
def BigsizeSumSaid : Prop := bigsizeSumRow.holds Try.pinned (OpenSpec.ofChange bigsizeSumSpec)

/-- ITS FALSE NEIGHBOUR: 'it returns false'. Refute it at one input. -/
def bigsizeSumWrong : ChangeSpec := { name := "bigsizeSum", fn := fun _ => fun
  | [d1, d2] => { results := [.lit (.bool false)], args := [d1, d2] }
  | _ => none }
def BigsizeSumWrongFalsely : Prop := bigsizeSumRow.holds Try.pinned (OpenSpec.ofChange bigsizeSumWrong)

/-- 'damsonlaw01.BigsizeDoes': WHATEVER THE INPUT: true; the input reads as it did. -/
def bigsizeDoesSpec : ChangeSpec := { name := "bigsizeDoes", fn := fun _ => fun
  | [d1, d2, d3] => { results := [.lit (.bool true)], args := [d1, d2, d3] }
  | _ => none }
def bigsizeDoesRow : OpenClaim := { program := "ytpgfkfmmnciblaa", sum := "870e5dea1a685ebbb111fd6a173c518b0b4bb45b01ec591f223ea5740d321ef4", func := "damson/damsonlaw01.BigsizeDoes", spec := "bigsizeDoes", recurses := true, apart := false }
def BigsizeDoesSaid : Prop := bigsizeDoesRow.holds Try.pinned (OpenSpec.ofChange bigsizeDoesSpec)

/-- ITS FALSE NEIGHBOUR: 'it returns false'. Refute it at one input. -/
def bigsizeDoesWrong : ChangeSpec := { name := "bigsizeDoes", fn := fun _ => fun
  | [d1, d2, d3] => { results := [.lit (.bool false)], args := [d1, d2, d3] }
  | _ => none }
def BigsizeDoesWrongFalsely : Prop := bigsizeDoesRow.holds Try.pinned (OpenSpec.ofChange bigsizeDoesWrong)

/-- 'damsonlaw01.BigsizeBack': WHATEVER THE INPUT: true; the input reads as it did. -/
def bigsizeBackSpec : ChangeSpec := { name := "bigsizeBack", fn := fun _ => fun
  | [d1, d2, d3] => { results := [.lit (.bool true)], args := [d1, d2, d3] }
  | _ => none }
def bigsizeBackRow : OpenClaim := { program := "ytpgfkfmmnciblaa", sum := "870e5dea1a685ebbb111fd6a173c518b0b4bb45b01ec591f223ea5740d321ef4", func := "damson/damsonlaw01.BigsizeBack", spec := "bigsizeBack", apart := false }
def BigsizeBackSaid : Prop := bigsizeBackRow.holds Try.pinned (OpenSpec.ofChange bigsizeBackSpec)

/-- ITS FALSE NEIGHBOUR: 'it returns false'. Refute it at one input. -/
def bigsizeBackWrong : ChangeSpec := { name := "bigsizeBack", fn := fun _ => fun
  | [d1, d2, d3] => { results := [.lit (.bool false)], args := [d1, d2, d3] }
  | _ => none }
def BigsizeBackWrongFalsely : Prop := bigsizeBackRow.holds Try.pinned (OpenSpec.ofChange bigsizeBackWrong)

/-- 'damsonlaw06.CaveatMore': WHATEVER THE INPUT: true; the input reads as it did. -/
def caveatMoreSpec : ChangeSpec := { name := "caveatMore", fn := fun _ => fun
  | [d1, d2, d3] => { results := [.lit (.bool true)], args := [d1, d2, d3] }
  | _ => none }
def caveatMoreRow : OpenClaim := { program := "ytpgfkfmmnciblaa", sum := "870e5dea1a685ebbb111fd6a173c518b0b4bb45b01ec591f223ea5740d321ef4", func := "damson/damsonlaw06.CaveatMore", spec := "caveatMore", apart := false }
def CaveatMoreSaid : Prop := caveatMoreRow.holds Try.pinned (OpenSpec.ofChange caveatMoreSpec)

/-- ITS FALSE NEIGHBOUR: 'it returns false'. Refute it at one input. -/
def caveatMoreWrong : ChangeSpec := { name := "caveatMore", fn := fun _ => fun
  | [d1, d2, d3] => { results := [.lit (.bool false)], args := [d1, d2, d3] }
  | _ => none }
def CaveatMoreWrongFalsely : Prop := caveatMoreRow.holds Try.pinned (OpenSpec.ofChange caveatMoreWrong)

/-- 'damsonlaw06.CaveatTighter': WHATEVER THE INPUT: true; the input reads as it did. -/
def caveatTighterSpec : ChangeSpec := { name := "caveatTighter", fn := fun _ => fun
  | [d1, d2, d3] => { results := [.lit (.bool true)], args := [d1, d2, d3] }
  | _ => none }
def caveatTighterRow : OpenClaim := { program := "ytpgfkfmmnciblaa", sum := "870e5dea1a685ebbb111fd6a173c518b0b4bb45b01ec591f223ea5740d321ef4", func := "damson/damsonlaw06.CaveatTighter", spec := "caveatTighter", apart := false }
def CaveatTighterSaid : Prop := caveatTighterRow.holds Try.pinned (OpenSpec.ofChange caveatTighterSpec)

/-- ITS FALSE NEIGHBOUR: 'it returns false'. Refute it at one input. -/
def caveatTighterWrong : ChangeSpec := { name := "caveatTighter", fn := fun _ => fun
  | [d1, d2, d3] => { results := [.lit (.bool false)], args := [d1, d2, d3] }
  | _ => none }
def CaveatTighterWrongFalsely : Prop := caveatTighterRow.holds Try.pinned (OpenSpec.ofChange caveatTighterWrong)

/-- 'damsonlaw06.CaveatCaps': WHATEVER THE INPUT: true; the input reads as it did. -/
def caveatCapsSpec : ChangeSpec := { name := "caveatCaps", fn := fun _ => fun
  | [d1, d2, d3] => { results := [.lit (.bool true)], args := [d1, d2, d3] }
  | _ => none }
def caveatCapsRow : OpenClaim := { program := "ytpgfkfmmnciblaa", sum := "870e5dea1a685ebbb111fd6a173c518b0b4bb45b01ec591f223ea5740d321ef4", func := "damson/damsonlaw06.CaveatCaps", spec := "caveatCaps", apart := false }
def CaveatCapsSaid : Prop := caveatCapsRow.holds Try.pinned (OpenSpec.ofChange caveatCapsSpec)

/-- ITS FALSE NEIGHBOUR: 'it returns false'. Refute it at one input. -/
def caveatCapsWrong : ChangeSpec := { name := "caveatCaps", fn := fun _ => fun
  | [d1, d2, d3] => { results := [.lit (.bool false)], args := [d1, d2, d3] }
  | _ => none }
def CaveatCapsWrongFalsely : Prop := caveatCapsRow.holds Try.pinned (OpenSpec.ofChange caveatCapsWrong)

/-- 'damsonlaw06.CaveatBack': WHATEVER THE INPUT: true; the input reads as it did. -/
def caveatBackSpec : ChangeSpec := { name := "caveatBack", fn := fun _ => fun
  | [d1, d2] => { results := [.lit (.bool true)], args := [d1, d2] }
  | _ => none }
def caveatBackRow : OpenClaim := { program := "ytpgfkfmmnciblaa", sum := "870e5dea1a685ebbb111fd6a173c518b0b4bb45b01ec591f223ea5740d321ef4", func := "damson/damsonlaw06.CaveatBack", spec := "caveatBack", apart := false }
def CaveatBackSaid : Prop := caveatBackRow.holds Try.pinned (OpenSpec.ofChange caveatBackSpec)

/-- ITS FALSE NEIGHBOUR: 'it returns false'. Refute it at one input. -/
def caveatBackWrong : ChangeSpec := { name := "caveatBack", fn := fun _ => fun
  | [d1, d2] => { results := [.lit (.bool false)], args := [d1, d2] }
  | _ => none }
def CaveatBackWrongFalsely : Prop := caveatBackRow.holds Try.pinned (OpenSpec.ofChange caveatBackWrong)

/-- 'damsonlaw06.CaveatDoes': WHATEVER THE INPUT: true; the input reads as it did. -/
def caveatDoesSpec : ChangeSpec := { name := "caveatDoes", fn := fun _ => fun
  | [d1, d2, d3, d4] => { results := [.lit (.bool true)], args := [d1, d2, d3, d4] }
  | _ => none }
def caveatDoesRow : OpenClaim := { program := "ytpgfkfmmnciblaa", sum := "870e5dea1a685ebbb111fd6a173c518b0b4bb45b01ec591f223ea5740d321ef4", func := "damson/damsonlaw06.CaveatDoes", spec := "caveatDoes", recurses := true, apart := false }
def CaveatDoesSaid : Prop := caveatDoesRow.holds Try.pinned (OpenSpec.ofChange caveatDoesSpec)

/-- ITS FALSE NEIGHBOUR: 'it returns false'. Refute it at one input. -/
def caveatDoesWrong : ChangeSpec := { name := "caveatDoes", fn := fun _ => fun
  | [d1, d2, d3, d4] => { results := [.lit (.bool false)], args := [d1, d2, d3, d4] }
  | _ => none }
def CaveatDoesWrongFalsely : Prop := caveatDoesRow.holds Try.pinned (OpenSpec.ofChange caveatDoesWrong)

/- THE SECOND FORM. 'bulk': how many values and letters a reading holds, each counted each time it is reached (what is shared counts as often as it is met; a slice's spare places count too). A statement '..UptoSaid' is the law's where the arguments, and the package variables that the reading takes, are together of bulk at most 1048576: NARROWER than '..Said'. Prove '..Said' where nothing that the law and all that it calls make is longer than what came in: it says more and counts as full. Else prove '..UptoSaid'. A law counts once. -/
mutual
def uptoBulk {H : Type} : DataW H → Nat
  | .lit (.string bytes) => bytes.length + 1
  | .lit _ => 1
  | .nil => 1
  | .ptr d => uptoBulk d + 1
  | .slice elems spare => uptoBulkAll elems + uptoBulkAll spare + 1
  | .agg parts => uptoBulkAll parts + 1
  | .iface _ d => uptoBulk d + 1
  | .map entries => uptoBulkEntries entries + 1
  | .held _ => 1
def uptoBulkAll {H : Type} : List (DataW H) → Nat
  | [] => 0
  | d :: r => uptoBulk d + uptoBulkAll r
def uptoBulkEntries {H : Type} : List (Lit × DataW H) → Nat
  | [] => 0
  | x :: r => uptoBulkEntry x + uptoBulkEntries r
def uptoBulkEntry {H : Type} : Lit × DataW H → Nat
  | (.string bytes, d) => bytes.length + uptoBulk d + 1
  | (_, d) => uptoBulk d + 1
 end
def uptoSmall : (H : Type) → List (DataW H) → Bool := fun _ ds => decide (uptoBulkAll ds ≤ 1048576)
def OpenSpec.upto (s : _root_.Go.ChangeSpec) : _root_.Go.OpenSpec := { _root_.Go.OpenSpec.ofChange s with cond := some uptoSmall }

/-- 'damsonlaw01.BigsizeApart', WHERE WHAT IT READS IS OF BULK AT MOST 1048576: true; the input reads as it did. -/
def bigsizeApartUptoRow : OpenClaim := { program := "ytpgfkfmmnciblaa", sum := "870e5dea1a685ebbb111fd6a173c518b0b4bb45b01ec591f223ea5740d321ef4", func := "damson/damsonlaw01.BigsizeApart", spec := "bigsizeApart", apart := false, narrowed := true }
def BigsizeApartUptoSaid : Prop := bigsizeApartUptoRow.holds Try.pinned (OpenSpec.upto bigsizeApartSpec)

/-- 'damsonlaw01.BigsizeSum', WHERE WHAT IT READS IS OF BULK AT MOST 1048576: true; the input reads as it did. -/
def bigsizeSumUptoRow : OpenClaim := { program := "ytpgfkfmmnciblaa", sum := "870e5dea1a685ebbb111fd6a173c518b0b4bb45b01ec591f223ea5740d321ef4", func := "damson/damsonlaw01.BigsizeSum", spec := "bigsizeSum", apart := false, narrowed := true }
def BigsizeSumUptoSaid : Prop := bigsizeSumUptoRow.holds Try.pinned (OpenSpec.upto bigsizeSumSpec)

/-- 'damsonlaw01.BigsizeDoes', WHERE WHAT IT READS IS OF BULK AT MOST 1048576: true; the input reads as it did. -/
def bigsizeDoesUptoRow : OpenClaim := { program := "ytpgfkfmmnciblaa", sum := "870e5dea1a685ebbb111fd6a173c518b0b4bb45b01ec591f223ea5740d321ef4", func := "damson/damsonlaw01.BigsizeDoes", spec := "bigsizeDoes", recurses := true, apart := false, narrowed := true }
def BigsizeDoesUptoSaid : Prop := bigsizeDoesUptoRow.holds Try.pinned (OpenSpec.upto bigsizeDoesSpec)

/-- 'damsonlaw01.BigsizeBack', WHERE WHAT IT READS IS OF BULK AT MOST 1048576: true; the input reads as it did. -/
def bigsizeBackUptoRow : OpenClaim := { program := "ytpgfkfmmnciblaa", sum := "870e5dea1a685ebbb111fd6a173c518b0b4bb45b01ec591f223ea5740d321ef4", func := "damson/damsonlaw01.BigsizeBack", spec := "bigsizeBack", apart := false, narrowed := true }
def BigsizeBackUptoSaid : Prop := bigsizeBackUptoRow.holds Try.pinned (OpenSpec.upto bigsizeBackSpec)

/-- 'damsonlaw06.CaveatMore', WHERE WHAT IT READS IS OF BULK AT MOST 1048576: true; the input reads as it did. -/
def caveatMoreUptoRow : OpenClaim := { program := "ytpgfkfmmnciblaa", sum := "870e5dea1a685ebbb111fd6a173c518b0b4bb45b01ec591f223ea5740d321ef4", func := "damson/damsonlaw06.CaveatMore", spec := "caveatMore", apart := false, narrowed := true }
def CaveatMoreUptoSaid : Prop := caveatMoreUptoRow.holds Try.pinned (OpenSpec.upto caveatMoreSpec)

/-- 'damsonlaw06.CaveatTighter', WHERE WHAT IT READS IS OF BULK AT MOST 1048576: true; the input reads as it did. -/
def caveatTighterUptoRow : OpenClaim := { program := "ytpgfkfmmnciblaa", sum := "870e5dea1a685ebbb111fd6a173c518b0b4bb45b01ec591f223ea5740d321ef4", func := "damson/damsonlaw06.CaveatTighter", spec := "caveatTighter", apart := false, narrowed := true }
def CaveatTighterUptoSaid : Prop := caveatTighterUptoRow.holds Try.pinned (OpenSpec.upto caveatTighterSpec)

/-- 'damsonlaw06.CaveatCaps', WHERE WHAT IT READS IS OF BULK AT MOST 1048576: true; the input reads as it did. -/
def caveatCapsUptoRow : OpenClaim := { program := "ytpgfkfmmnciblaa", sum := "870e5dea1a685ebbb111fd6a173c518b0b4bb45b01ec591f223ea5740d321ef4", func := "damson/damsonlaw06.CaveatCaps", spec := "caveatCaps", apart := false, narrowed := true }
def CaveatCapsUptoSaid : Prop := caveatCapsUptoRow.holds Try.pinned (OpenSpec.upto caveatCapsSpec)

/-- 'damsonlaw06.CaveatBack', WHERE WHAT IT READS IS OF BULK AT MOST 1048576: true; the input reads as it did. -/
def caveatBackUptoRow : OpenClaim := { program := "ytpgfkfmmnciblaa", sum := "870e5dea1a685ebbb111fd6a173c518b0b4bb45b01ec591f223ea5740d321ef4", func := "damson/damsonlaw06.CaveatBack", spec := "caveatBack", apart := false, narrowed := true }
def CaveatBackUptoSaid : Prop := caveatBackUptoRow.holds Try.pinned (OpenSpec.upto caveatBackSpec)

/-- 'damsonlaw06.CaveatDoes', WHERE WHAT IT READS IS OF BULK AT MOST 1048576: true; the input reads as it did. -/
def caveatDoesUptoRow : OpenClaim := { program := "ytpgfkfmmnciblaa", sum := "870e5dea1a685ebbb111fd6a173c518b0b4bb45b01ec591f223ea5740d321ef4", func := "damson/damsonlaw06.CaveatDoes", spec := "caveatDoes", recurses := true, apart := false, narrowed := true }
def CaveatDoesUptoSaid : Prop := caveatDoesUptoRow.holds Try.pinned (OpenSpec.upto caveatDoesSpec)

end Rows
end Go.Proofs.Ytpgfkfmmnciblaa
