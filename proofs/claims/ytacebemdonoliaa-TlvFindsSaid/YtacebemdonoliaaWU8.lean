/- Any type's octets, and number, and any record put among any, or why not, are as the document says; they stay as they were: the law TlvFinds answers true for every input. -/
import Derived.Test.YtacebemdonoliaaFwRow
import Derived.Test.YtacebemdonoliaaUPD
import Derived.Test.YtacebemdonoliaaRows
import Derived.WalkKit
import Derived.ProofKit
import Derived.OpenShut
import Derived.ChangeOld
import Derived.Below
import Derived.SizedLaws
set_option linter.unusedVariables false
set_option linter.unusedSimpArgs false
namespace Go.Proofs.Ytacebemdonoliaa.tlvFinds
open Go Go.Fw Go.Proofs Go.Proofs.Ytacebemdonoliaa Go.Proofs.Ytacebemdonoliaa.R4
open Go.ChangeShapes Go.WideShapes Go.ChangeAt Go.RowKit
theorem laidOut : laidOutB Try.prog = true := by kernel_rfl
theorem own : ownKnob Try.prog.godebug = none := by kernel_rfl
theorem tys : atysOf Try.prog Try.f8.params.toList = some [.one (.slice 26 (.pair (.int .u64) (.slice 5 (.int .u8)))), .agg (.pair (.int .u64) (.slice 5 (.int .u8))), .one (.int .u64)] := by kernel_rfl
theorem reads : (Try.f8.params.toList.all fun t => Try.prog.readableRec t && decide (t < Try.prog.types.size)) = true := by kernel_rfl
set_option maxRecDepth 100000 in
theorem lifted (os : Os) (started : os.Started) (H : Type) (enc : TypeId × Value → H) :
    ReturnsInHanded {} Try.checked os 8 .any (Rows.tlvFindsSpec.pre6 enc Try.prog Try.f8 Rows.tlvFindsRow.domain false) (Rows.tlvFindsSpec.post enc Try.prog Try.f8 false true false false) := by
  refine returnsInHanded_of_change_sized (C := Try.checked) own started (by kernel_rfl) Try.func8
    (ChangeSpec.witness6 (enc := enc) (C := Try.checked) false ⟨#[], #[.slice none 0 0, .agg #[.int .u64 0, .slice none 0 0], .int .u64 0], []⟩ 8 (by kernel_rfl) (by kernel_rfl) (by kernel_rfl) (by kernel_rfl)) ?_
  intro W base args ds gs before hval0 hW hcnd hsz0 _
  have hval : ∀ (j : Nat) t v, Try.f8.params[j]? = some t → args[j]? = some v → Value.okWide Try.prog W .any base t v := hval0
  have hW' := hW
  obtain ⟨p, q, hA0, hV, rfl, hfz, hnd⟩ := hW
  have hA : DataW.TrodAll enc Try.prog W 0 (fun _ => true) true Try.f8.params.toList args.toList ds p := hA0
  obtain ⟨rfl, rfl⟩ := trodVars_none hV
  obtain ⟨b, hgood, hrep⟩ := open_all tys (fun j t v h1 h2 => hval j t v (by simpa using h1) (by simpa using h2)) hA
  have hlen := all_len hA
  rw [Try.params8] at hlen
  obtain ⟨d0, d1, d2, rfl⟩ : ∃ d0 d1 d2, ds = [d0, d1, d2] := by
    match ds, hlen with
    | [d0, d1, d2], _ => exact ⟨d0, d1, d2, rfl⟩
  clear hA0 hval0 hsz0
  refine (law_of (C := C30) (H := H8) (ts := [.one (.slice 26 (.pair (.int .u64) (.slice 5 (.int .u8)))), .agg (.pair (.int .u64) (.slice 5 (.int .u8))), .one (.int .u64)]) (F := F8) (b := b) (vs := args) (ok := fun b => b < W.heap.size) mixed s30 Try.func8 ev8
    (pure8 b hgood) (fun _ h => h) hrep).mono fun e W' ⟨he, bel⟩ => ?_
  subst he
  exact ⟨_, rfl, _, _, _, [], _, [], hW', trodAll_mk1 (shut_bool Try.underlying4 _), below_all laidOut bel reads hA, rfl, bel.frame _, fun h => by cases h⟩
theorem over : Rows.tlvFindsRow.holds Try.pinned (OpenSpec.ofChange Rows.tlvFindsSpec) :=
  OpenClaim.holds_of_wide 8 Try.f8 rfl rfl rfl rfl rfl rfl rfl ⟨rfl, rfl, rfl, rfl, rfl⟩ rfl rfl rfl rfl rfl (by kernel_rfl) Try.func8 (by kernel_rfl)
    (of_decide_eq_true (by kernel_rfl)) (by unfold Func.isWrapper; first | (rw [if_pos (by decide +kernel)]; kernel_rfl) | (rw [if_neg (by decide +kernel)]; exact ⟨rfl, rfl⟩))
    (fun os started H enc _ => lifted os started H enc)
theorem proved : Rows.TlvFindsSaid := over
#print axioms proved
end Go.Proofs.Ytacebemdonoliaa.tlvFinds
