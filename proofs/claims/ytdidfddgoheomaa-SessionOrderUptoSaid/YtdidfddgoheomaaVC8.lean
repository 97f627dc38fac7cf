/- frames are done in the order in which they were heard, each once -/
import Derived.Test.YtdidfddgoheomaaFwRow
import Derived.Test.YtdidfddgoheomaaCD8
import Derived.Test.YtdidfddgoheomaaRows
import Derived.WalkKit
import Derived.ProofKit
import Derived.OpenShut
import Derived.ChangeOld
import Derived.Below
import Derived.SizedLaws
import Derived.JoinedCond
set_option linter.unusedVariables false
set_option linter.unusedSimpArgs false
namespace Go.Proofs.Ytdidfddgoheomaa.sessionOrderUpto
open Go Go.Fw Go.Proofs Go.Proofs.Ytdidfddgoheomaa Go.Proofs.Ytdidfddgoheomaa.R2
open Go.ChangeShapes Go.WideShapes Go.ChangeAt Go.RowKit
theorem bulk_pos {H : Type} (d : DataW H) : 1 ≤ Rows.uptoBulk d := by
  cases d with
  | lit l => cases l <;> simp [Rows.uptoBulk]
  | _ => simp [Rows.uptoBulk]
theorem bulk_len {H : Type} : ∀ l : List (DataW H), l.length ≤ Rows.uptoBulkAll l
  | [] => by simp
  | d :: r => by
    have := bulk_pos d
    have := bulk_len r
    simp only [List.length_cons, Rows.uptoBulkAll]; omega
theorem len_bulk {H : Type} {enc : TypeId × Value → H} {P : Program} {W : World} {c : Cx} {tid e n : TypeId} (hu : P.underlying tid = some (.slice e)) {t : Ty} {x : (Ty.slice n t).den} {v : Value} {d : DataW H} {p : List MemPlace}
    (hr : RepV c (ATy.enc (.one (.slice n t)) x) v) (hd : DataW.Trod enc P W 0 (fun _ => true) true tid v d p) : List.length x ≤ Rows.uptoBulk d := by
  obtain ⟨k, hn⟩ := hd
  have hr' : ∃ A m, v = .slice A (List.length x) m ∧ List.length x ≤ m ∧ m ≤ 9223372036854775807 ∧ RowI c.w c.ok t A x := hr
  obtain ⟨A, m, rfl, _⟩ := hr'
  have hv : (Value.slice A (List.length x) m).cells.toList = [Value.slice A (List.length x) m] := rfl
  rw [hv] at hn
  rcases DataW.trod_slice hu hn with ⟨h1, _⟩ | ⟨a, len, cap, elems, rest, n', _, h1, h2, _, _, _, hlen, _⟩
  · simp only [List.cons.injEq, Value.slice.injEq] at h1
    omega
  · simp only [List.cons.injEq, Value.slice.injEq] at h1
    simp only [Prod.mk.injEq] at h2
    have := bulk_len (elems.map (·.1))
    rw [List.length_map] at this
    rw [h2.1]
    simp only [Rows.uptoBulk]
    omega
theorem laidOut : laidOutB Try.prog = true := by kernel_rfl
theorem own : ownKnob Try.prog.godebug = none := by kernel_rfl
theorem tys : atysOf Try.prog Try.f8.params.toList = some [.one (.slice 22 (.slice 5 (.int .u8))), .one (.slice 5 (.int .u8))] := by kernel_rfl
theorem reads : (Try.f8.params.toList.all fun t => Try.prog.readableRec t && decide (t < Try.prog.types.size)) = true := by kernel_rfl
set_option maxRecDepth 100000 in
theorem lifted (os : Os) (started : os.Started) (H : Type) (enc : TypeId × Value → H) (Fo : Stop.Interp) :
    ReturnsInHanded {} Try.checked os 8 .any ((Rows.OpenSpec.upto Rows.sessionOrderSpec).pre6 enc Try.prog Try.f8 Rows.sessionOrderUptoRow.domain false) (((Rows.OpenSpec.upto Rows.sessionOrderSpec).at Fo).post enc Try.prog Try.f8 false true false false) := by
  refine returnsInHanded_of_cond (C := Try.checked) (s := Rows.OpenSpec.upto Rows.sessionOrderSpec) (k := Rows.uptoSmall) rfl own started (by kernel_rfl) Try.func8
    (OpenSpec.witness (enc := enc) (C := Try.checked) (s := Rows.OpenSpec.upto Rows.sessionOrderSpec) (k := Rows.uptoSmall) rfl false ⟨#[], #[.slice none 0 0, .slice none 0 0], []⟩ 8 (by kernel_rfl) (by kernel_rfl) (by kernel_rfl)
      (x := ([.nil, .nil], [], [])) (by kernel_rfl) rfl rfl) ?_
  intro W base args ds gs before hval0 hW hcnd hk _
  have hval : ∀ (j : Nat) t v, Try.f8.params[j]? = some t → args[j]? = some v → Value.okWide Try.prog W .any base t v := hval0
  have hW' := hW
  obtain ⟨p, q, hA0, hV, rfl, hfz, hnd⟩ := hW
  have hA : DataW.TrodAll enc Try.prog W 0 (fun _ => true) true Try.f8.params.toList args.toList ds p := hA0
  obtain ⟨rfl, rfl⟩ := trodVars_none hV
  obtain ⟨b, hgood, hrep⟩ := open_all tys (fun j t v h1 h2 => hval j t v (by simpa using h1) (by simpa using h2)) hA
  have hsmall : List.length b.1 ≤ 1048576 := by
    have hA2 := hA
    rw [Try.params8] at hA2
    obtain ⟨v0, vs0, d0, ds0, p0, q0, e1, e2, _, h0, _⟩ := trodAll_cons hA2
    obtain ⟨v1, r1, e3, h1, _⟩ : ∃ v r, args.toList = v :: r ∧ RepV (shut W fun b => b < W.heap.size) (ATy.enc _ b.1) v ∧ True := by
      obtain ⟨v, r, a1, a2, _⟩ := hrep
      exact ⟨v, r, a1, a2, trivial⟩
    rw [e1] at e3
    simp only [List.cons.injEq] at e3
    obtain ⟨rfl, _⟩ := e3
    have hb := len_bulk Try.underlying26 h1 h0
    have hk2 : Rows.uptoBulkAll (ds ++ []) ≤ 1048576 := of_decide_eq_true hk
    rw [e2] at hk2
    simp only [List.append_nil, Rows.uptoBulkAll] at hk2
    omega
  have hlen := all_len hA
  rw [Try.params8] at hlen
  obtain ⟨d0, d1, rfl⟩ : ∃ d0 d1, ds = [d0, d1] := by
    match ds, hlen with
    | [d0, d1], _ => exact ⟨d0, d1, rfl⟩
  clear hA0 hval0 hk
  refine (law_of (C := C38) (H := H8) (ts := [.one (.slice 22 (.slice 5 (.int .u8))), .one (.slice 5 (.int .u8))]) (F := F8) (b := b) (vs := args) (ok := fun b => b < W.heap.size) mixed s38 Try.func8 ev8
    (pure8 b hgood hsmall) (fun _ h => h) hrep).mono fun e W' ⟨he, bel⟩ => ?_
  subst he
  exact ⟨_, rfl, _, _, _, [], _, [], hW', trodAll_mk1 (shut_bool Try.underlying4 _), below_all laidOut bel reads hA, rfl, bel.frame _, fun h => by cases h⟩
theorem over : Rows.sessionOrderUptoRow.holds Try.pinned (Rows.OpenSpec.upto Rows.sessionOrderSpec) :=
  OpenClaim.holds_of_cond 8 Try.f8 rfl rfl rfl rfl rfl rfl rfl ⟨rfl, rfl, rfl, rfl, rfl⟩ rfl rfl rfl rfl rfl (by kernel_rfl) Try.func8 (by kernel_rfl)
    (of_decide_eq_true (by kernel_rfl)) (by unfold Func.isWrapper; first | (rw [if_pos (by decide +kernel)]; kernel_rfl) | (rw [if_neg (by decide +kernel)]; exact ⟨rfl, rfl⟩))
    (fun os started H enc _ F => lifted os started H enc F)
theorem proved : Rows.SessionOrderUptoSaid := over
#print axioms proved
end Go.Proofs.Ytdidfddgoheomaa.sessionOrderUpto
