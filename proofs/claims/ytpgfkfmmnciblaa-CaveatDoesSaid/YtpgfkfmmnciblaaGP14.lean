/- Part of a proof: what the program's functions come to. -/
import Derived.Test.YtpgfkfmmnciblaaGP13
import Derived.Test.YtpgfkfmmnciblaaFwRow
set_option linter.unusedVariables false
set_option linter.unusedSimpArgs false
namespace Go.Proofs.Ytpgfkfmmnciblaa.R1
open Go Go.Fw Go.Proofs
theorem u64_of {n : Int} (h : Fw.Good (.int .u64) n) : U64 n := by
  have := wf_iff.1 (show (Lit.int .u64 n).wf = true from h)
  simp [IntKind.min, IntKind.max, IntKind.signed, IntKind.bits] at this
  exact ⟨this.1, by omega⟩
theorem byte_of {n : Int} (h : Fw.Good (.int .u8) n) : Byte n := by
  have := wf_iff.1 (show (Lit.int .u8 n).wf = true from h)
  simp [IntKind.min, IntKind.max, IntKind.signed, IntKind.bits] at this
  exact ⟨this.1, by omega⟩
theorem i64_of {n : Int} (h : Fw.Good (.int .i64) n) : -9223372036854775808 ≤ n ∧ n ≤ 9223372036854775807 := by
  have := wf_iff.1 (show (Lit.int .i64 n).wf = true from h)
  simp [IntKind.min, IntKind.max, IntKind.signed, IntKind.bits] at this
  exact ⟨this.1, by omega⟩
theorem pure5 (b : dens [.one (.slice 22 (.int .u64)), .one (.int .u64), .one (.slice 5 (.int .u8))]) (h : Goods [.one (.slice 22 (.int .u64)), .one (.int .u64), .one (.slice 5 (.int .u8))] b) : F5 b = some true :=
  F5_true (fun m hm => u64_of (h.1.2 m hm)) (u64_of h.2.1) (fun m hm => byte_of (h.2.2.2 m hm))
theorem pure6 (b : dens [.one (.int .u64), .one (.slice 22 (.int .u64)), .one (.slice 5 (.int .u8))]) (h : Goods [.one (.int .u64), .one (.slice 22 (.int .u64)), .one (.slice 5 (.int .u8))] b) : F6 b = some true :=
  F6_true (u64_of h.1) (fun m hm => u64_of (h.2.1.2 m hm)) (fun m hm => byte_of (h.2.2.2 m hm))
end Go.Proofs.Ytpgfkfmmnciblaa.R1
