/- Part of a proof: what the program's functions come to. -/
import Derived.Test.YtdidfddgoheomaaCD7
set_option linter.unusedVariables false
set_option linter.unusedSimpArgs false
namespace Go.Proofs.Ytdidfddgoheomaa.R2
open Go Go.Fw Go.Proofs RB
theorem pure9 (b : dens [.one (.slice 22 (.slice 5 (.int .u8))), .one (.slice 5 (.int .u8))]) (h : Goods [.one (.slice 22 (.slice 5 (.int .u8))), .one (.slice 5 (.int .u8))] b) (hl : List.length b.1 ≤ 1048576) : F9 b = some true :=
  F9_true (bs_of h.2) hl
theorem pure8 (b : dens [.one (.slice 22 (.slice 5 (.int .u8))), .one (.slice 5 (.int .u8))]) (h : Goods [.one (.slice 22 (.slice 5 (.int .u8))), .one (.slice 5 (.int .u8))] b) (hl : List.length b.1 ≤ 1048576) : F8 b = some true :=
  F8_true (bs_of h.2) (fun f hf => bs_of (h.1.2 f hf)) hl
end Go.Proofs.Ytdidfddgoheomaa.R2
