/- With another token, or number, a request asks for the same; its octets tell which token it is, and which number. -/
import Derived.Test.YtgdfhijgjjcnjaaDoorFwSort
import Derived.Test.YtgdfhijgjjcnjaaDoorDGI
import Derived.Test.YtgdfhijgjjcnjaaDoorRows
import Derived.Test.YtgdfhijgjjcnjaaDoorCards
import Derived.Test.YtgdfhijgjjcnjaaDoorTie
import Derived.WalkKit
import Derived.ProofKit
import Derived.OpenShut
import Derived.ChangeOld
import Derived.Below
import Derived.SizedLaws
import Derived.Deep.DeepHandedRow
import Derived.Lib.LaidTab
set_option linter.unusedVariables false
set_option linter.unusedSimpArgs false
namespace Go.Proofs.YtgdfhijgjjcnjaaDoor.requestToken
open Go Go.Fw Go.Proofs Go.Proofs.YtgdfhijgjjcnjaaDoor Go.Proofs.YtgdfhijgjjcnjaaDoor.R5
open Go.ChangeShapes Go.WideShapes Go.ChangeAt Go.RowKit
theorem laidOut : laidOutB Tryd.prog = true := by kernel_rfl
theorem own : ownKnob Tryd.prog.godebug = none := by kernel_rfl
theorem tys : atysOf Tryd.prog Tryd.f6.params.toList = some [.agg (.pair (.int .u64) (.pair (.int .i64) (.pair (.int .u64) (.pair (.int .u64) (.pair (.slice 48 (.pair (.int .i64) (.pair (.int .u64) (.int .u64)))) (.pair (.int .i64) (.pair (.int .u64) (.pair (.int .u64) (.pair (.int .u64) (.pair (.slice 57 (.pair (.int .u64) (.int .u64))) (.slice 48 (.pair (.int .i64) (.pair (.int .u64) (.int .u64)))))))))))))), .agg (.pair (.int .u64) (.pair (.slice 48 (.pair (.int .i64) (.pair (.int .u64) (.int .u64)))) (.int .i64))), .one (.int .u64)] := by kernel_rfl
theorem reads : (Tryd.f6.params.toList.all fun t => Tryd.prog.readableRec t && decide (t < Tryd.prog.types.size)) = true := by kernel_rfl
theorem gTab : Tryd.prog.globalNamed "damson/request.methods" = some 0 := by kernel_rfl
theorem gTabType : (Tryd.prog.globals[0]?).map (·.type) = some 75 := by kernel_rfl
theorem cellsA : Tryd.prog.cellsOf 75 = 11 := by kernel_rfl
theorem cellsE : Tryd.prog.cellsOf 3 = 1 := by kernel_rfl
theorem table {W : World} (h : laidMetH Tryd.prog Rows.requestTokenRow.laid W) : Lib.TabIs Tryd.prog W "damson/request.methods" .i64 [0, 71, 17, 79, 3, 2, 2, 0, 6, 4, 32] :=
  Lib.tabIs_of_head (rest := []) gTab gTabType Tryd.underlying75 Tryd.underlying3 cellsE cellsA h
theorem globsAt {W : World} (h : laidMetH Tryd.prog Rows.requestTokenRow.laid W) : (C_).GlobW W := by
  intro g t l hg
  have hg' : globs g = some ⟨t, l⟩ := hg
  unfold globs at hg'
  split at hg'
  · simp only [Option.some.injEq, Sigma.mk.injEq] at hg'
    obtain ⟨rfl, hl⟩ := hg'
    have hl := eq_of_heq hl
    subst hl
    have hc := fun i hi => (table h).cell gTab i hi
    refine ⟨(cell_spot (hc 0 (by decide))).2, fun j x hx => ?_⟩
    have hj : j < 11 := (List.getElem?_eq_some_iff.1 hx).1
    have hcj := hc j hj
    have hx2 : ([0, 71, 17, 79, 3, 2, 2, 0, 6, 4, 32] : List Int).getD j 0 = x := by rw [List.getD_eq_getElem?_getD]; rw [show ([0, 71, 17, 79, 3, 2, 2, 0, 6, 4, 32] : List Int)[j]? = some x from hx]; rfl
    rw [hx2] at hcj
    refine ⟨[.int .i64 x], ⟨rfl, ?_⟩, fun i u hu => ?_⟩
    · have hm : x ∈ ([0, 71, 17, 79, 3, 2, 2, 0, 6, 4, 32] : List Int) := List.mem_of_getElem? hx
      simp only [List.mem_cons, List.not_mem_nil, or_false] at hm
      rcases hm with rfl | rfl | rfl | rfl | rfl | rfl | rfl | rfl | rfl | rfl | rfl <;> decide
    · cases i with
      | zero =>
        simp at hu
        subst hu
        simpa [Ty.size] using hcj
      | succ i => simp at hu
  · simp at hg'
set_option maxRecDepth 100000 in
/-- What the evaluation gives, for every argument and every world that holds the table. -/
theorem contract (H : Type) (enc : TypeId × Value → H) (W : World) (base : Nat) (args : Array Value) (ds gs : List (DataW H)) (before : List MemPlace)
    (hval0 : ∀ (j : Nat) t v, Tryd.f6.params[j]? = some t → args[j]? = some v → Value.okWide Tryd.prog W .any base t v)
    (hW : DataW.Whole enc Tryd.prog Tryd.f6.params.toList Rows.requestTokenSpec.vars false W args.toList ds gs before) (hL : laidMetH Tryd.prog Rows.requestTokenRow.laid W) :
    Calls Tryd.prog 6 args W fun e W' => ∃ v, e = .returned v ∧ Rows.requestTokenSpec.post enc Tryd.prog Tryd.f6 false true false false W args v W' := by
  have hval : ∀ (j : Nat) t v, Tryd.f6.params[j]? = some t → args[j]? = some v → Value.okWide Tryd.prog W .any base t v := hval0
  have hW' := hW
  obtain ⟨p, q, hA0, hV, rfl, hfz, hnd⟩ := hW
  have hA : DataW.TrodAll enc Tryd.prog W 0 (fun _ => true) true Tryd.f6.params.toList args.toList ds p := hA0
  obtain ⟨rfl, rfl⟩ := trodVars_none hV
  obtain ⟨b, hgood, hrep⟩ := open_all tys (fun j t v h1 h2 => hval j t v (by simpa using h1) (by simpa using h2)) hA
  have hlen := all_len hA
  rw [Tryd.params6] at hlen
  obtain ⟨d0, d1, d2, rfl⟩ : ∃ d0 d1 d2, ds = [d0, d1, d2] := by
    match ds, hlen with
    | [d0, d1, d2], _ => exact ⟨d0, d1, d2, rfl⟩
  clear hA0 hval0
  refine (law_of (C := C5) (H := H6) (ts := [.agg (.pair (.int .u64) (.pair (.int .i64) (.pair (.int .u64) (.pair (.int .u64) (.pair (.slice 48 (.pair (.int .i64) (.pair (.int .u64) (.int .u64)))) (.pair (.int .i64) (.pair (.int .u64) (.pair (.int .u64) (.pair (.int .u64) (.pair (.slice 57 (.pair (.int .u64) (.int .u64))) (.slice 48 (.pair (.int .i64) (.pair (.int .u64) (.int .u64)))))))))))))), .agg (.pair (.int .u64) (.pair (.slice 48 (.pair (.int .i64) (.pair (.int .u64) (.int .u64)))) (.int .i64))), .one (.int .u64)]) (F := F6) (b := b) (vs := args) (ok := fun b => b < W.heap.size) mixed s5 Tryd.func6 ev6
    (pure6 b hgood) (globsAt hL) (fun _ h => h) hrep).mono fun e W' ⟨he, bel⟩ => ?_
  subst he
  exact ⟨_, rfl, _, _, _, [], _, [], hW', trodAll_mk1 (shut_bool Tryd.underlying4 _), below_all laidOut bel reads hA, rfl, bel.frame _, fun h => by cases h⟩
/-- A world for the witness: the settled one, the table (block 0) as its initialiser lays it. -/
noncomputable def laidWorld (os : Os) : World :=
  { World.holding Tryd.prog os ⟨#[], #[], []⟩ with heap := (World.holding Tryd.prog os ⟨#[], #[], []⟩).heap.modify 0 fun
      | .cells _ t frozen => .cells #[.int .i64 0, .int .i64 71, .int .i64 17, .int .i64 79, .int .i64 3, .int .i64 2, .int .i64 2, .int .i64 0, .int .i64 6, .int .i64 4, .int .i64 32] t frozen
      | o => o }
theorem laid_met (os : Os) : laidMet Tryd.prog Rows.requestTokenRow.laid ((laidWorld os).forCall (fun _ _ => 0) ⟨#[], #[.agg #[.int .u64 0, .int .i64 0, .int .u64 0, .int .u64 0, .slice none 0 0, .int .i64 0, .int .u64 0, .int .u64 0, .int .u64 0, .slice none 0 0, .slice none 0 0], .agg #[.int .u64 0, .slice none 0 0, .int .i64 0], .int .u64 0], []⟩).memory :=
  laidMet_of_run' 8 (by kernel_rfl) (by kernel_rfl)
theorem readsOf (os : Os) {H : Type} (enc : TypeId × Value → H) : ∃ places, DataW.whole enc Tryd.prog ((laidWorld os).forCall (fun _ _ => 0) ⟨#[], #[.agg #[.int .u64 0, .int .i64 0, .int .u64 0, .int .u64 0, .slice none 0 0, .int .i64 0, .int .u64 0, .int .u64 0, .int .u64 0, .slice none 0 0, .slice none 0 0], .agg #[.int .u64 0, .slice none 0 0, .int .i64 0], .int .u64 0], []⟩).memory Tryd.f6.params.toList Rows.requestTokenSpec.vars false (#[.agg #[.int .u64 0, .int .i64 0, .int .u64 0, .int .u64 0, .slice none 0 0, .int .i64 0, .int .u64 0, .int .u64 0, .int .u64 0, .slice none 0 0, .slice none 0 0], .agg #[.int .u64 0, .slice none 0 0, .int .i64 0], .int .u64 0] : Array Value).toList 8 = some ([.agg [.lit (.int .u64 0), .lit (.int .i64 0), .lit (.int .u64 0), .agg [.lit (.int .u64 0), .nil, .lit (.int .i64 0)], .lit (.int .u64 0), .lit (.int .u64 0), .lit (.int .u64 0), .nil, .nil], .agg [.lit (.int .u64 0), .nil, .lit (.int .i64 0)], .lit (.int .u64 0)], [], places) :=
  ⟨[], by kernel_rfl⟩
set_option maxRecDepth 100000 in
theorem lifted (os : Os) (started : os.Started) (H : Type) (enc : TypeId × Value → H) (F : Stop.Interp) :
    ReturnsInHanded {} Tryd.checked os 6 .any ((OpenSpec.ofChange Rows.requestTokenSpec).preRow enc Tryd.prog Tryd.f6 Rows.requestTokenRow.domain false Rows.requestTokenRow.laid) (((OpenSpec.ofChange Rows.requestTokenSpec).at F).post enc Tryd.prog Tryd.f6 false true false false) := by
  obtain ⟨places, hx⟩ := readsOf os enc
  refine returnsInHanded_of_row (C := Tryd.checked) (s := OpenSpec.ofChange Rows.requestTokenSpec) own started (by kernel_rfl) Tryd.func6
    (witness_row_at (enc := enc) (C := Tryd.checked) false (laidWorld os) #[.agg #[.int .u64 0, .int .i64 0, .int .u64 0, .int .u64 0, .slice none 0 0, .int .i64 0, .int .u64 0, .int .u64 0, .int .u64 0, .slice none 0 0, .slice none 0 0], .agg #[.int .u64 0, .slice none 0 0, .int .i64 0], .int .u64 0] rfl (by kernel_rfl) (by kernel_rfl) (by kernel_rfl)
      (OpenSpec.preRow_of_cond 8 hx (by kernel_rfl) (fun k hk => by cases hk) (by kernel_rfl) (laid_met os))) ?_
  intro W base args ds gs before hval hW _ _ _ hL _ _
  exact contract H enc W base args ds gs before hval hW hL
theorem said : Rows.RequestTokenSaid :=
  OpenClaim.holds_of_cond 6 Tryd.f6 rfl rfl rfl rfl rfl rfl rfl ⟨rfl, rfl, rfl, rfl, rfl⟩ rfl rfl rfl rfl rfl (by kernel_rfl) Tryd.func6 (by kernel_rfl)
    (of_decide_eq_true (by kernel_rfl)) (by unfold Func.isWrapper; first | (rw [if_pos (by decide +kernel)]; kernel_rfl) | (rw [if_neg (by decide +kernel)]; exact ⟨rfl, rfl⟩))
    (fun os started H enc _ F => by rw [OpenClaim.pre_eq_preRow]; exact lifted os started H enc F)
theorem plain (f : FuncId) (fn : Func) (hf : Tryd.pinned.checked.prog.funcNamed "damson/damsonlaw19.RequestToken" = some f) (hfn : Tryd.pinned.checked.prog.funcs[f]? = some fn) :
    false = Tryd.pinned.checked.prog.looks [] ∧ ∀ (j : Nat) t, fn.params[j]? = some t → Tryd.pinned.checked.prog.wantsStandIn t = false := by
  obtain rfl : f = 6 := Option.some.inj ((show Tryd.prog.funcNamed "damson/damsonlaw19.RequestToken" = some 6 by kernel_rfl).symm.trans hf) |>.symm
  obtain rfl : fn = Tryd.f6 := (Option.some.inj (Tryd.func6.symm.trans hfn)).symm
  refine ⟨by kernel_rfl, fun j t ht => ?_⟩
  rw [Tryd.params6] at ht
  have hm := Array.mem_of_getElem? ht
  simp only [List.mem_toArray, List.mem_cons, List.not_mem_nil, or_false] at hm
  rcases hm with rfl | rfl | rfl
  · exact (show Tryd.prog.wantsStandIn 28 = false by kernel_rfl)
  · exact (show Tryd.prog.wantsStandIn 25 = false by kernel_rfl)
  · exact (show Tryd.prog.wantsStandIn 22 = false by kernel_rfl)
theorem proved : Rows.RequestTokenCardSaid :=
  Claim7.holds_tied_plain_at .later [] _ _ _ _ said (fun _ h => by cases h) (by kernel_rfl) (fun _ h => by cases h) requestToken_row_tie rfl ⟨rfl, rfl⟩ (by kernel_rfl) rfl plain (by kernel_rfl)
#print axioms proved
end Go.Proofs.YtgdfhijgjjcnjaaDoor.requestToken
