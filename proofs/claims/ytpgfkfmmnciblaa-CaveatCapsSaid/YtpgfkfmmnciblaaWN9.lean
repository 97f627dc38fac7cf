/- With one caveat more a cap is no greater, and no other one changes; what holds is within all caps. No conditions. -/
import Derived.Test.YtpgfkfmmnciblaaFwRow
import Derived.Test.YtpgfkfmmnciblaaNCB
import Derived.Test.YtpgfkfmmnciblaaRows
import Derived.WalkKit
import Derived.ProofKit
import Derived.OpenShut
import Derived.ChangeOld
import Derived.Below
import Derived.SizedLaws
set_option linter.unusedVariables false
set_option linter.unusedSimpArgs false
namespace Go.Proofs.Ytpgfkfmmnciblaa.caveatCaps
open Go Go.Fw Go.Proofs Go.Proofs.Ytpgfkfmmnciblaa Go.Proofs.Ytpgfkfmmnciblaa.R1
open Go.ChangeShapes Go.WideShapes Go.ChangeAt Go.RowKit
theorem laidOut : laidOutB Try.prog = true := by kernel_rfl
theorem own : ownKnob Try.prog.godebug = none := by kernel_rfl
theorem tys : atysOf Try.prog Try.f9.params.toList = some [.one (.slice 40 (.pair (.int .i64) (.pair (.int .u64) (.int .u64)))), .agg (.pair (.int .i64) (.pair (.int .u64) (.int .u64))), .agg (.pair (.int .u64) (.pair (.int .i64) (.pair (.int .u64) (.int .u64))))] := by kernel_rfl
theorem reads : (Try.f9.params.toList.all fun t => Try.prog.readableRec t && decide (t < Try.prog.types.size)) = true := by kernel_rfl
set_option maxRecDepth 100000 in
theorem lifted (os : Os) (started : os.Started) (H : Type) (enc : TypeId × Value → H) :
    ReturnsInHanded {} Try.checked os 9 .any (Rows.caveatCapsSpec.pre6 enc Try.prog Try.f9 Rows.caveatCapsRow.domain false) (Rows.caveatCapsSpec.post enc Try.prog Try.f9 false true false false) := by
  refine returnsInHanded_of_change_sized (C := Try.checked) own started (by kernel_rfl) Try.func9
    (ChangeSpec.witness6 (enc := enc) (C := Try.checked) false ⟨#[], #[.slice none 0 0, .agg #[.int .i64 0, .int .u64 0, .int .u64 0], .agg #[.int .u64 0, .int .i64 0, .int .u64 0, .int .u64 0]], []⟩ 8 (by kernel_rfl) (by kernel_rfl) (by kernel_rfl) (by kernel_rfl)) ?_
  intro W base args ds gs before hval0 hW hcnd hsz0 _
  have hval : ∀ (j : Nat) t v, Try.f9.params[j]? = some t → args[j]? = some v → Value.okWide Try.prog W .any base t v := hval0
  have hW' := hW
  obtain ⟨p, q, hA0, hV, rfl, hfz, hnd⟩ := hW
  have hA : DataW.TrodAll enc Try.prog W 0 (fun _ => true) true Try.f9.params.toList args.toList ds p := hA0
  obtain ⟨rfl, rfl⟩ := trodVars_none hV
  obtain ⟨b, hgood, hrep⟩ := open_all tys (fun j t v h1 h2 => hval j t v (by simpa using h1) (by simpa using h2)) hA
  have hlen := all_len hA
  rw [Try.params9] at hlen
  obtain ⟨d0, d1, d2, rfl⟩ : ∃ d0 d1 d2, ds = [d0, d1, d2] := by
    match ds, hlen with
    | [d0, d1, d2], _ => exact ⟨d0, d1, d2, rfl⟩
  clear hA0 hval0 hsz0
  refine (law_of (C := C27) (H := H9) (ts := [.one (.slice 40 (.pair (.int .i64) (.pair (.int .u64) (.int .u64)))), .agg (.pair (.int .i64) (.pair (.int .u64) (.int .u64))), .agg (.pair (.int .u64) (.pair (.int .i64) (.pair (.int .u64) (.int .u64))))]) (F := F9) (b := b) (vs := args) (ok := fun b => b < W.heap.size) mixed s27 Try.func9 ev9
    (pure9 b hgood) (fun _ h => h) hrep).mono fun e W' ⟨he, bel⟩ => ?_
  subst he
  exact ⟨_, rfl, _, _, _, [], _, [], hW', trodAll_mk1 (shut_bool Try.underlying4 _), below_all laidOut bel reads hA, rfl, bel.frame _, fun h => by cases h⟩
theorem over : Rows.caveatCapsRow.holds Try.pinned (OpenSpec.ofChange Rows.caveatCapsSpec) :=
  OpenClaim.holds_of_wide 9 Try.f9 rfl rfl rfl rfl rfl rfl rfl ⟨rfl, rfl, rfl, rfl, rfl⟩ rfl rfl rfl rfl rfl (by kernel_rfl) Try.func9 (by kernel_rfl)
    (of_decide_eq_true (by kernel_rfl)) (by unfold Func.isWrapper; first | (rw [if_pos (by decide +kernel)]; kernel_rfl) | (rw [if_neg (by decide +kernel)]; exact ⟨rfl, rfl⟩))
    (fun os started H enc _ => lifted os started H enc)
theorem proved : Rows.CaveatCapsSaid := over
#print axioms proved
end Go.Proofs.Ytpgfkfmmnciblaa.caveatCaps
