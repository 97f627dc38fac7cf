/-
  No cell of these rows narrows 'for every input' (looked for: loops, veiled, ifaces, maps, wideKeys, modest, calm, conditions, laid).
  DERIVED. THE GIVEN ROWS OF THIS SEAT. 11 by the template 'for every input the law returns true; each argument reads behind the call as it read before'; 0 by the template 'total and deterministic' (their statements: YtcpcbeeghjigkaaTotals.lean).
  GIVEN WITH THE SEED: the statements are not yours to turn. If you find one false, say at which input.
  Laid BY PROGRAM, IN A SANDBOX (cutbox-rows.mjs): the forced cells as the released guide's own fill.sh prints them over the translation 75101a13e2958b7a… (all of the seat's roots in one cut). By AI agents, Wed Nov 11 2026. No macro, syntax, notation, axiom, sorry.
-/
import Derived.Test.YtcpcbeeghjigkaaChecked
import GoSem.Claim
import GoSem.ClaimJoined
import GoSem.ClaimMapViews
import Derived.JoinedTies
import Derived.KernelRfl
namespace Go.Proofs.Ytcpcbeeghjigkaa
/- THE CELL 'sum', in the pinned program and in every row, IS THE sha256 OF THE DUMP (.gsa) THAT YtcpcbeeghjigkaaProg.lean LOADS. Nothing in Lean hashes anything: it is a label: what it is worth is what the hold of that sum in a sandbox is worth. -/
noncomputable def Try.pinned : Pinned := { name := "ytcpcbeeghjigkaa", sum := "75101a13e2958b7ae94473976f599bd2fe674a773da55f7d056373e7ccd98176", checked := Try.checked }
namespace Rows
def none {H : Type} : Left H := { results := [], args := [] }

/-- 'damsonlaw05.ArenaDoes': WHATEVER THE INPUT: true; the input reads as it did. -/
def arenaDoesSpec : ChangeSpec := { name := "arenaDoes", fn := fun _ => fun
  | [d1, d2, d3, d4, d5] => { results := [.lit (.bool true)], args := [d1, d2, d3, d4, d5] }
  | _ => none }
def arenaDoesRow : OpenClaim := { program := "ytcpcbeeghjigkaa", sum := "75101a13e2958b7ae94473976f599bd2fe674a773da55f7d056373e7ccd98176", func := "damson/damsonlaw05.ArenaDoes", spec := "arenaDoes", unfollowed := true, recurses := true, plainKeys := false, apart := false }
def ArenaDoesSaid : Prop := arenaDoesRow.holds Try.pinned (OpenSpec.ofChange arenaDoesSpec)

/-- ITS FALSE NEIGHBOUR: 'it returns false'. Refute it at one input. -/
def arenaDoesWrong : ChangeSpec := { name := "arenaDoes", fn := fun _ => fun
  | [d1, d2, d3, d4, d5] => { results := [.lit (.bool false)], args := [d1, d2, d3, d4, d5] }
  | _ => none }
def ArenaDoesWrongFalsely : Prop := arenaDoesRow.holds Try.pinned (OpenSpec.ofChange arenaDoesWrong)

/-- 'damsonlaw05.ArenaFree': WHATEVER THE INPUT: true; the input reads as it did. -/
def arenaFreeSpec : ChangeSpec := { name := "arenaFree", fn := fun _ => fun
  | [d1, d2, d3, d4, d5, d6, d7] => { results := [.lit (.bool true)], args := [d1, d2, d3, d4, d5, d6, d7] }
  | _ => none }
def arenaFreeRow : OpenClaim := { program := "ytcpcbeeghjigkaa", sum := "75101a13e2958b7ae94473976f599bd2fe674a773da55f7d056373e7ccd98176", func := "damson/damsonlaw05.ArenaFree", spec := "arenaFree", unfollowed := true, recurses := true, plainKeys := false, apart := false }
def ArenaFreeSaid : Prop := arenaFreeRow.holds Try.pinned (OpenSpec.ofChange arenaFreeSpec)

/-- ITS FALSE NEIGHBOUR: 'it returns false'. Refute it at one input. -/
def arenaFreeWrong : ChangeSpec := { name := "arenaFree", fn := fun _ => fun
  | [d1, d2, d3, d4, d5, d6, d7] => { results := [.lit (.bool false)], args := [d1, d2, d3, d4, d5, d6, d7] }
  | _ => none }
def ArenaFreeWrongFalsely : Prop := arenaFreeRow.holds Try.pinned (OpenSpec.ofChange arenaFreeWrong)

/-- 'damsonlaw05.ArenaTells': WHATEVER THE INPUT: true; the input reads as it did. -/
def arenaTellsSpec : ChangeSpec := { name := "arenaTells", fn := fun _ => fun
  | [d1, d2, d3, d4, d5] => { results := [.lit (.bool true)], args := [d1, d2, d3, d4, d5] }
  | _ => none }
def arenaTellsRow : OpenClaim := { program := "ytcpcbeeghjigkaa", sum := "75101a13e2958b7ae94473976f599bd2fe674a773da55f7d056373e7ccd98176", func := "damson/damsonlaw05.ArenaTells", spec := "arenaTells", unfollowed := true, recurses := true, plainKeys := false, apart := false }
def ArenaTellsSaid : Prop := arenaTellsRow.holds Try.pinned (OpenSpec.ofChange arenaTellsSpec)

/-- ITS FALSE NEIGHBOUR: 'it returns false'. Refute it at one input. -/
def arenaTellsWrong : ChangeSpec := { name := "arenaTells", fn := fun _ => fun
  | [d1, d2, d3, d4, d5] => { results := [.lit (.bool false)], args := [d1, d2, d3, d4, d5] }
  | _ => none }
def ArenaTellsWrongFalsely : Prop := arenaTellsRow.holds Try.pinned (OpenSpec.ofChange arenaTellsWrong)

/-- 'damsonlaw05.ArenaBack': WHATEVER THE INPUT: true; the input reads as it did. -/
def arenaBackSpec : ChangeSpec := { name := "arenaBack", fn := fun _ => fun
  | [d1, d2, d3] => { results := [.lit (.bool true)], args := [d1, d2, d3] }
  | _ => none }
def arenaBackRow : OpenClaim := { program := "ytcpcbeeghjigkaa", sum := "75101a13e2958b7ae94473976f599bd2fe674a773da55f7d056373e7ccd98176", func := "damson/damsonlaw05.ArenaBack", spec := "arenaBack", unfollowed := true, recurses := true, plainKeys := false, apart := false }
def ArenaBackSaid : Prop := arenaBackRow.holds Try.pinned (OpenSpec.ofChange arenaBackSpec)

/-- ITS FALSE NEIGHBOUR: 'it returns false'. Refute it at one input. -/
def arenaBackWrong : ChangeSpec := { name := "arenaBack", fn := fun _ => fun
  | [d1, d2, d3] => { results := [.lit (.bool false)], args := [d1, d2, d3] }
  | _ => none }
def ArenaBackWrongFalsely : Prop := arenaBackRow.holds Try.pinned (OpenSpec.ofChange arenaBackWrong)

/-- 'damsonlaw05.ArenaGrows': WHATEVER THE INPUT: true; the input reads as it did. -/
def arenaGrowsSpec : ChangeSpec := { name := "arenaGrows", fn := fun _ => fun
  | [d1, d2, d3] => { results := [.lit (.bool true)], args := [d1, d2, d3] }
  | _ => none }
def arenaGrowsRow : OpenClaim := { program := "ytcpcbeeghjigkaa", sum := "75101a13e2958b7ae94473976f599bd2fe674a773da55f7d056373e7ccd98176", func := "damson/damsonlaw05.ArenaGrows", spec := "arenaGrows", unfollowed := true, recurses := true, plainKeys := false, apart := false }
def ArenaGrowsSaid : Prop := arenaGrowsRow.holds Try.pinned (OpenSpec.ofChange arenaGrowsSpec)

/-- ITS FALSE NEIGHBOUR: 'it returns false'. Refute it at one input. -/
def arenaGrowsWrong : ChangeSpec := { name := "arenaGrows", fn := fun _ => fun
  | [d1, d2, d3] => { results := [.lit (.bool false)], args := [d1, d2, d3] }
  | _ => none }
def ArenaGrowsWrongFalsely : Prop := arenaGrowsRow.holds Try.pinned (OpenSpec.ofChange arenaGrowsWrong)

/-- 'damsonlaw07.TokenRight': WHATEVER THE INPUT: true; the input reads as it did. -/
def tokenRightSpec : ChangeSpec := { name := "tokenRight", fn := fun _ => fun
  | [d1, d2, d3, d4, d5, d6] => { results := [.lit (.bool true)], args := [d1, d2, d3, d4, d5, d6] }
  | _ => none }
def tokenRightRow : OpenClaim := { program := "ytcpcbeeghjigkaa", sum := "75101a13e2958b7ae94473976f599bd2fe674a773da55f7d056373e7ccd98176", func := "damson/damsonlaw07.TokenRight", spec := "tokenRight", unfollowed := true, recurses := true, plainKeys := false, apart := false }
def TokenRightSaid : Prop := tokenRightRow.holds Try.pinned (OpenSpec.ofChange tokenRightSpec)

/-- ITS FALSE NEIGHBOUR: 'it returns false'. Refute it at one input. -/
def tokenRightWrong : ChangeSpec := { name := "tokenRight", fn := fun _ => fun
  | [d1, d2, d3, d4, d5, d6] => { results := [.lit (.bool false)], args := [d1, d2, d3, d4, d5, d6] }
  | _ => none }
def TokenRightWrongFalsely : Prop := tokenRightRow.holds Try.pinned (OpenSpec.ofChange tokenRightWrong)

/-- 'damsonlaw07.TokenDoes': WHATEVER THE INPUT: true; the input reads as it did. -/
def tokenDoesSpec : ChangeSpec := { name := "tokenDoes", fn := fun _ => fun
  | [d1, d2, d3, d4, d5, d6] => { results := [.lit (.bool true)], args := [d1, d2, d3, d4, d5, d6] }
  | _ => none }
def tokenDoesRow : OpenClaim := { program := "ytcpcbeeghjigkaa", sum := "75101a13e2958b7ae94473976f599bd2fe674a773da55f7d056373e7ccd98176", func := "damson/damsonlaw07.TokenDoes", spec := "tokenDoes", unfollowed := true, recurses := true, plainKeys := false, apart := false }
def TokenDoesSaid : Prop := tokenDoesRow.holds Try.pinned (OpenSpec.ofChange tokenDoesSpec)

/-- ITS FALSE NEIGHBOUR: 'it returns false'. Refute it at one input. -/
def tokenDoesWrong : ChangeSpec := { name := "tokenDoes", fn := fun _ => fun
  | [d1, d2, d3, d4, d5, d6] => { results := [.lit (.bool false)], args := [d1, d2, d3, d4, d5, d6] }
  | _ => none }
def TokenDoesWrongFalsely : Prop := tokenDoesRow.holds Try.pinned (OpenSpec.ofChange tokenDoesWrong)

/-- 'damsonlaw07.TokenFewer': WHATEVER THE INPUT: true; the input reads as it did. -/
def tokenFewerSpec : ChangeSpec := { name := "tokenFewer", fn := fun _ => fun
  | [d1, d2, d3, d4] => { results := [.lit (.bool true)], args := [d1, d2, d3, d4] }
  | _ => none }
def tokenFewerRow : OpenClaim := { program := "ytcpcbeeghjigkaa", sum := "75101a13e2958b7ae94473976f599bd2fe674a773da55f7d056373e7ccd98176", func := "damson/damsonlaw07.TokenFewer", spec := "tokenFewer", unfollowed := true, recurses := true, plainKeys := false, apart := false }
def TokenFewerSaid : Prop := tokenFewerRow.holds Try.pinned (OpenSpec.ofChange tokenFewerSpec)

/-- ITS FALSE NEIGHBOUR: 'it returns false'. Refute it at one input. -/
def tokenFewerWrong : ChangeSpec := { name := "tokenFewer", fn := fun _ => fun
  | [d1, d2, d3, d4] => { results := [.lit (.bool false)], args := [d1, d2, d3, d4] }
  | _ => none }
def TokenFewerWrongFalsely : Prop := tokenFewerRow.holds Try.pinned (OpenSpec.ofChange tokenFewerWrong)

/-- 'damsonlaw07.TokenOrder': WHATEVER THE INPUT: true; the input reads as it did. -/
def tokenOrderSpec : ChangeSpec := { name := "tokenOrder", fn := fun _ => fun
  | [d1, d2, d3, d4, d5] => { results := [.lit (.bool true)], args := [d1, d2, d3, d4, d5] }
  | _ => none }
def tokenOrderRow : OpenClaim := { program := "ytcpcbeeghjigkaa", sum := "75101a13e2958b7ae94473976f599bd2fe674a773da55f7d056373e7ccd98176", func := "damson/damsonlaw07.TokenOrder", spec := "tokenOrder", unfollowed := true, recurses := true, plainKeys := false, apart := false }
def TokenOrderSaid : Prop := tokenOrderRow.holds Try.pinned (OpenSpec.ofChange tokenOrderSpec)

/-- ITS FALSE NEIGHBOUR: 'it returns false'. Refute it at one input. -/
def tokenOrderWrong : ChangeSpec := { name := "tokenOrder", fn := fun _ => fun
  | [d1, d2, d3, d4, d5] => { results := [.lit (.bool false)], args := [d1, d2, d3, d4, d5] }
  | _ => none }
def TokenOrderWrongFalsely : Prop := tokenOrderRow.holds Try.pinned (OpenSpec.ofChange tokenOrderWrong)

/-- 'damsonlaw07.TokenWrites': WHATEVER THE INPUT: true; the input reads as it did. -/
def tokenWritesSpec : ChangeSpec := { name := "tokenWrites", fn := fun _ => fun
  | [d1, d2] => { results := [.lit (.bool true)], args := [d1, d2] }
  | _ => none }
def tokenWritesRow : OpenClaim := { program := "ytcpcbeeghjigkaa", sum := "75101a13e2958b7ae94473976f599bd2fe674a773da55f7d056373e7ccd98176", func := "damson/damsonlaw07.TokenWrites", spec := "tokenWrites", unfollowed := true, recurses := true, plainKeys := false, apart := false }
def TokenWritesSaid : Prop := tokenWritesRow.holds Try.pinned (OpenSpec.ofChange tokenWritesSpec)

/-- ITS FALSE NEIGHBOUR: 'it returns false'. Refute it at one input. -/
def tokenWritesWrong : ChangeSpec := { name := "tokenWrites", fn := fun _ => fun
  | [d1, d2] => { results := [.lit (.bool false)], args := [d1, d2] }
  | _ => none }
def TokenWritesWrongFalsely : Prop := tokenWritesRow.holds Try.pinned (OpenSpec.ofChange tokenWritesWrong)

/-- 'damsonlaw07.TokenBack': WHATEVER THE INPUT: true; the input reads as it did. -/
def tokenBackSpec : ChangeSpec := { name := "tokenBack", fn := fun _ => fun
  | [d1, d2] => { results := [.lit (.bool true)], args := [d1, d2] }
  | _ => none }
def tokenBackRow : OpenClaim := { program := "ytcpcbeeghjigkaa", sum := "75101a13e2958b7ae94473976f599bd2fe674a773da55f7d056373e7ccd98176", func := "damson/damsonlaw07.TokenBack", spec := "tokenBack", unfollowed := true, recurses := true, plainKeys := false, apart := false }
def TokenBackSaid : Prop := tokenBackRow.holds Try.pinned (OpenSpec.ofChange tokenBackSpec)

/-- ITS FALSE NEIGHBOUR: 'it returns false'. Refute it at one input. -/
def tokenBackWrong : ChangeSpec := { name := "tokenBack", fn := fun _ => fun
  | [d1, d2] => { results := [.lit (.bool false)], args := [d1, d2] }
  | _ => none }
def TokenBackWrongFalsely : Prop := tokenBackRow.holds Try.pinned (OpenSpec.ofChange tokenBackWrong)

/- THE SECOND FORM. 'bulk': how many values and letters a reading holds, each counted each time it is reached (what is shared counts as often as it is met; a slice's spare places count too). A statement '..UptoSaid' is the law's where the arguments, and the package variables that the reading takes, are together of bulk at most 1048576: NARROWER than '..Said'. Prove '..Said' where nothing that the law and all that it calls make is longer than what came in: it says more and counts as full. Else prove '..UptoSaid'. A law counts once. -/
mutual
def uptoBulk {H : Type} : DataW H → Nat
  | .lit (.string bytes) => bytes.length + 1
  | .lit _ => 1
  | .nil => 1
  | .ptr d => uptoBulk d + 1
  | .slice elems spare => uptoBulkAll elems + uptoBulkAll spare + 1
  | .agg parts => uptoBulkAll parts + 1
  | .iface _ d => uptoBulk d + 1
  | .map entries => uptoBulkEntries entries + 1
  | .held _ => 1
def uptoBulkAll {H : Type} : List (DataW H) → Nat
  | [] => 0
  | d :: r => uptoBulk d + uptoBulkAll r
def uptoBulkEntries {H : Type} : List (Lit × DataW H) → Nat
  | [] => 0
  | x :: r => uptoBulkEntry x + uptoBulkEntries r
def uptoBulkEntry {H : Type} : Lit × DataW H → Nat
  | (.string bytes, d) => bytes.length + uptoBulk d + 1
  | (_, d) => uptoBulk d + 1
 end
def uptoSmall : (H : Type) → List (DataW H) → Bool := fun _ ds => decide (uptoBulkAll ds ≤ 1048576)
def OpenSpec.upto (s : _root_.Go.ChangeSpec) : _root_.Go.OpenSpec := { _root_.Go.OpenSpec.ofChange s with cond := some uptoSmall }

/-- 'damsonlaw05.ArenaDoes', WHERE WHAT IT READS IS OF BULK AT MOST 1048576: true; the input reads as it did. -/
def arenaDoesUptoRow : OpenClaim := { program := "ytcpcbeeghjigkaa", sum := "75101a13e2958b7ae94473976f599bd2fe674a773da55f7d056373e7ccd98176", func := "damson/damsonlaw05.ArenaDoes", spec := "arenaDoes", unfollowed := true, recurses := true, plainKeys := false, apart := false, narrowed := true }
def ArenaDoesUptoSaid : Prop := arenaDoesUptoRow.holds Try.pinned (OpenSpec.upto arenaDoesSpec)

/-- 'damsonlaw05.ArenaFree', WHERE WHAT IT READS IS OF BULK AT MOST 1048576: true; the input reads as it did. -/
def arenaFreeUptoRow : OpenClaim := { program := "ytcpcbeeghjigkaa", sum := "75101a13e2958b7ae94473976f599bd2fe674a773da55f7d056373e7ccd98176", func := "damson/damsonlaw05.ArenaFree", spec := "arenaFree", unfollowed := true, recurses := true, plainKeys := false, apart := false, narrowed := true }
def ArenaFreeUptoSaid : Prop := arenaFreeUptoRow.holds Try.pinned (OpenSpec.upto arenaFreeSpec)

/-- 'damsonlaw05.ArenaTells', WHERE WHAT IT READS IS OF BULK AT MOST 1048576: true; the input reads as it did. -/
def arenaTellsUptoRow : OpenClaim := { program := "ytcpcbeeghjigkaa", sum := "75101a13e2958b7ae94473976f599bd2fe674a773da55f7d056373e7ccd98176", func := "damson/damsonlaw05.ArenaTells", spec := "arenaTells", unfollowed := true, recurses := true, plainKeys := false, apart := false, narrowed := true }
def ArenaTellsUptoSaid : Prop := arenaTellsUptoRow.holds Try.pinned (OpenSpec.upto arenaTellsSpec)

/-- 'damsonlaw05.ArenaBack', WHERE WHAT IT READS IS OF BULK AT MOST 1048576: true; the input reads as it did. -/
def arenaBackUptoRow : OpenClaim := { program := "ytcpcbeeghjigkaa", sum := "75101a13e2958b7ae94473976f599bd2fe674a773da55f7d056373e7ccd98176", func := "damson/damsonlaw05.ArenaBack", spec := "arenaBack", unfollowed := true, recurses := true, plainKeys := false, apart := false, narrowed := true }
def ArenaBackUptoSaid : Prop := arenaBackUptoRow.holds Try.pinned (OpenSpec.upto arenaBackSpec)

/-- 'damsonlaw05.ArenaGrows', WHERE WHAT IT READS IS OF BULK AT MOST 1048576: true; the input reads as it did. -/
def arenaGrowsUptoRow : OpenClaim := { program := "ytcpcbeeghjigkaa", sum := "75101a13e2958b7ae94473976f599bd2fe674a773da55f7d056373e7ccd98176", func := "damson/damsonlaw05.ArenaGrows", spec := "arenaGrows", unfollowed := true, recurses := true, plainKeys := false, apart := false, narrowed := true }
def ArenaGrowsUptoSaid : Prop := arenaGrowsUptoRow.holds Try.pinned (OpenSpec.upto arenaGrowsSpec)

/-- 'damsonlaw07.TokenRight', WHERE WHAT IT READS IS OF BULK AT MOST 1048576: true; the input reads as it did. -/
def tokenRightUptoRow : OpenClaim := { program := "ytcpcbeeghjigkaa", sum := "75101a13e2958b7ae94473976f599bd2fe674a773da55f7d056373e7ccd98176", func := "damson/damsonlaw07.TokenRight", spec := "tokenRight", unfollowed := true, recurses := true, plainKeys := false, apart := false, narrowed := true }
def TokenRightUptoSaid : Prop := tokenRightUptoRow.holds Try.pinned (OpenSpec.upto tokenRightSpec)

/-- 'damsonlaw07.TokenDoes', WHERE WHAT IT READS IS OF BULK AT MOST 1048576: true; the input reads as it did. -/
def tokenDoesUptoRow : OpenClaim := { program := "ytcpcbeeghjigkaa", sum := "75101a13e2958b7ae94473976f599bd2fe674a773da55f7d056373e7ccd98176", func := "damson/damsonlaw07.TokenDoes", spec := "tokenDoes", unfollowed := true, recurses := true, plainKeys := false, apart := false, narrowed := true }
def TokenDoesUptoSaid : Prop := tokenDoesUptoRow.holds Try.pinned (OpenSpec.upto tokenDoesSpec)

/-- 'damsonlaw07.TokenFewer', WHERE WHAT IT READS IS OF BULK AT MOST 1048576: true; the input reads as it did. -/
def tokenFewerUptoRow : OpenClaim := { program := "ytcpcbeeghjigkaa", sum := "75101a13e2958b7ae94473976f599bd2fe674a773da55f7d056373e7ccd98176", func := "damson/damsonlaw07.TokenFewer", spec := "tokenFewer", unfollowed := true, recurses := true, plainKeys := false, apart := false, narrowed := true }
def TokenFewerUptoSaid : Prop := tokenFewerUptoRow.holds Try.pinned (OpenSpec.upto tokenFewerSpec)

/-- 'damsonlaw07.TokenOrder', WHERE WHAT IT READS IS OF BULK AT MOST 1048576: true; the input reads as it did. -/
def tokenOrderUptoRow : OpenClaim := { program := "ytcpcbeeghjigkaa", sum := "75101a13e2958b7ae94473976f599bd2fe674a773da55f7d056373e7ccd98176", func := "damson/damsonlaw07.TokenOrder", spec := "tokenOrder", unfollowed := true, recurses := true, plainKeys := false, apart := false, narrowed := true }
def TokenOrderUptoSaid : Prop := tokenOrderUptoRow.holds Try.pinned (OpenSpec.upto tokenOrderSpec)

/-- 'damsonlaw07.TokenWrites', WHERE WHAT IT READS IS OF BULK AT MOST 1048576: true; the input reads as it did. -/
def tokenWritesUptoRow : OpenClaim := { program := "ytcpcbeeghjigkaa", sum := "75101a13e2958b7ae94473976f599bd2fe674a773da55f7d056373e7ccd98176", func := "damson/damsonlaw07.TokenWrites", spec := "tokenWrites", unfollowed := true, recurses := true, plainKeys := false, apart := false, narrowed := true }
def TokenWritesUptoSaid : Prop := tokenWritesUptoRow.holds Try.pinned (OpenSpec.upto tokenWritesSpec)

/-- 'damsonlaw07.TokenBack', WHERE WHAT IT READS IS OF BULK AT MOST 1048576: true; the input reads as it did. -/
def tokenBackUptoRow : OpenClaim := { program := "ytcpcbeeghjigkaa", sum := "75101a13e2958b7ae94473976f599bd2fe674a773da55f7d056373e7ccd98176", func := "damson/damsonlaw07.TokenBack", spec := "tokenBack", unfollowed := true, recurses := true, plainKeys := false, apart := false, narrowed := true }
def TokenBackUptoSaid : Prop := tokenBackUptoRow.holds Try.pinned (OpenSpec.upto tokenBackSpec)

end Rows
end Go.Proofs.Ytcpcbeeghjigkaa
