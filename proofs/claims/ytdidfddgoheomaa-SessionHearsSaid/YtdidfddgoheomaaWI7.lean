/- Any session up, and down, whatever it hears, and what is to be done next, are as the document says; it stays as it was: the law SessionHears answers true for every input. -/
import Derived.Test.YtdidfddgoheomaaFwRow
import Derived.Test.YtdidfddgoheomaaISC
import Derived.Test.YtdidfddgoheomaaRows
import Derived.WalkKit
import Derived.ProofKit
import Derived.OpenShut
import Derived.ChangeOld
import Derived.Below
import Derived.SizedLaws
set_option linter.unusedVariables false
set_option linter.unusedSimpArgs false
namespace Go.Proofs.Ytdidfddgoheomaa.sessionHears
open Go Go.Fw Go.Proofs Go.Proofs.Ytdidfddgoheomaa Go.Proofs.Ytdidfddgoheomaa.R2
open Go.ChangeShapes Go.WideShapes Go.ChangeAt Go.RowKit
theorem laidOut : laidOutB Try.prog = true := by kernel_rfl
theorem own : ownKnob Try.prog.godebug = none := by kernel_rfl
theorem tys : atysOf Try.prog Try.f7.params.toList = some [.agg (.pair .bool (.pair (.slice 5 (.int .u8)) (.pair .bool (.pair (.slice 22 (.slice 5 (.int .u8))) (.slice 5 (.int .u8)))))), .one (.slice 5 (.int .u8))] := by kernel_rfl
theorem reads : (Try.f7.params.toList.all fun t => Try.prog.readableRec t && decide (t < Try.prog.types.size)) = true := by kernel_rfl
set_option maxRecDepth 100000 in
theorem lifted (os : Os) (started : os.Started) (H : Type) (enc : TypeId × Value → H) :
    ReturnsInHanded {} Try.checked os 7 .any (Rows.sessionHearsSpec.pre6 enc Try.prog Try.f7 Rows.sessionHearsRow.domain false) (Rows.sessionHearsSpec.post enc Try.prog Try.f7 false true false false) := by
  refine returnsInHanded_of_change_sized (C := Try.checked) own started (by kernel_rfl) Try.func7
    (ChangeSpec.witness6 (enc := enc) (C := Try.checked) false ⟨#[], #[.agg #[.bool false, .slice none 0 0, .bool false, .slice none 0 0, .slice none 0 0], .slice none 0 0], []⟩ 8 (by kernel_rfl) (by kernel_rfl) (by kernel_rfl) (by kernel_rfl)) ?_
  intro W base args ds gs before hval0 hW hcnd hsz0 _
  have hval : ∀ (j : Nat) t v, Try.f7.params[j]? = some t → args[j]? = some v → Value.okWide Try.prog W .any base t v := hval0
  have hW' := hW
  obtain ⟨p, q, hA0, hV, rfl, hfz, hnd⟩ := hW
  have hA : DataW.TrodAll enc Try.prog W 0 (fun _ => true) true Try.f7.params.toList args.toList ds p := hA0
  obtain ⟨rfl, rfl⟩ := trodVars_none hV
  obtain ⟨b, hgood, hrep⟩ := open_all tys (fun j t v h1 h2 => hval j t v (by simpa using h1) (by simpa using h2)) hA
  have hlen := all_len hA
  rw [Try.params7] at hlen
  obtain ⟨d0, d1, rfl⟩ : ∃ d0 d1, ds = [d0, d1] := by
    match ds, hlen with
    | [d0, d1], _ => exact ⟨d0, d1, rfl⟩
  clear hA0 hval0 hsz0
  refine (law_of (C := C36) (H := H7) (ts := [.agg (.pair .bool (.pair (.slice 5 (.int .u8)) (.pair .bool (.pair (.slice 22 (.slice 5 (.int .u8))) (.slice 5 (.int .u8)))))), .one (.slice 5 (.int .u8))]) (F := F7) (b := b) (vs := args) (ok := fun b => b < W.heap.size) mixed s36 Try.func7 ev7
    (pure7 b hgood) (fun _ h => h) hrep).mono fun e W' ⟨he, bel⟩ => ?_
  subst he
  exact ⟨_, rfl, _, _, _, [], _, [], hW', trodAll_mk1 (shut_bool Try.underlying4 _), below_all laidOut bel reads hA, rfl, bel.frame _, fun h => by cases h⟩
theorem over : Rows.sessionHearsRow.holds Try.pinned (OpenSpec.ofChange Rows.sessionHearsSpec) :=
  OpenClaim.holds_of_wide 7 Try.f7 rfl rfl rfl rfl rfl rfl rfl ⟨rfl, rfl, rfl, rfl, rfl⟩ rfl rfl rfl rfl rfl (by kernel_rfl) Try.func7 (by kernel_rfl)
    (of_decide_eq_true (by kernel_rfl)) (by unfold Func.isWrapper; first | (rw [if_pos (by decide +kernel)]; kernel_rfl) | (rw [if_neg (by decide +kernel)]; exact ⟨rfl, rfl⟩))
    (fun os started H enc _ => lifted os started H enc)
theorem proved : Rows.SessionHearsSaid := over
#print axioms proved
end Go.Proofs.Ytdidfddgoheomaa.sessionHears
