/- Any request put,its print,how much it is about,any octets read as one,whether any may be,and whether two are the same: as the reference says. -/
import Derived.Test.YtgdfhijgjjcnjaaGreatDoorFwSort
import Derived.Test.YtgdfhijgjjcnjaaGreatDoorEHFz
import Derived.Test.YtgdfhijgjjcnjaaGreatDoorRows
import Derived.Test.YtgdfhijgjjcnjaaGreatDoorCards
import Derived.Test.YtgdfhijgjjcnjaaGreatDoorTie
import Derived.WalkKit
import Derived.ProofKit
import Derived.OpenShut
import Derived.ChangeOld
import Derived.Below
import Derived.SizedLaws
import Derived.Deep.DeepHandedRow
import Derived.Lib.LaidTab
set_option linter.unusedVariables false
set_option linter.unusedSimpArgs false
namespace Go.Proofs.YtgdfhijgjjcnjaaGreatDoor.requestDoes
open Go Go.Fw Go.Proofs Go.Proofs.YtgdfhijgjjcnjaaGreatDoor Go.Proofs.YtgdfhijgjjcnjaaGreatDoor.RZ
open Go.ChangeShapes Go.WideShapes Go.ChangeAt Go.RowKit
theorem laidOut : laidOutB Tryz.prog = true := by kernel_rfl
theorem own : ownKnob Tryz.prog.godebug = none := by kernel_rfl
theorem tys : atysOf Tryz.prog Tryz.f3.params.toList = some [.agg (.pair (.int .u64) (.pair (.int .i64) (.pair (.int .u64) (.pair (.int .u64) (.pair (.slice 63 (.pair (.int .i64) (.pair (.int .u64) (.int .u64)))) (.pair (.int .i64) (.pair (.int .u64) (.pair (.int .u64) (.pair (.int .u64) (.pair (.slice 74 (.pair (.int .u64) (.int .u64))) (.slice 63 (.pair (.int .i64) (.pair (.int .u64) (.int .u64)))))))))))))),.agg (.pair (.int .u64) (.pair (.int .i64) (.pair (.int .u64) (.pair (.int .u64) (.pair (.slice 63 (.pair (.int .i64) (.pair (.int .u64) (.int .u64)))) (.pair (.int .i64) (.pair (.int .u64) (.pair (.int .u64) (.pair (.int .u64) (.pair (.slice 74 (.pair (.int .u64) (.int .u64))) (.slice 63 (.pair (.int .i64) (.pair (.int .u64) (.int .u64)))))))))))))),.one (.slice 5 (.int .u8))] := by kernel_rfl
theorem reads : (Tryz.f3.params.toList.all fun t => Tryz.prog.readableRec t && decide (t < Tryz.prog.types.size)) = true := by kernel_rfl
theorem gTab : Tryz.prog.globalNamed "damson/request.methods" = some 0 := by kernel_rfl
theorem gTabType : (Tryz.prog.globals[0]?).map (·.type) = some 107 := by kernel_rfl
theorem cellsA : Tryz.prog.cellsOf 107 = 11 := by kernel_rfl
theorem cellsE : Tryz.prog.cellsOf 3 = 1 := by kernel_rfl
theorem table {W : World} (h : laidMetH Tryz.prog Rows.requestDoesRow.laid W) : Lib.TabIs Tryz.prog W "damson/request.methods" .i64 [0,71,17,79,3,2,2,0,6,4,32] :=
  Lib.tabIs_of_head (rest := []) gTab gTabType Tryz.underlying107 Tryz.underlying3 cellsE cellsA h
theorem globsAt {W : World} (h : laidMetH Tryz.prog Rows.requestDoesRow.laid W) : (C_).GlobW W := by
  intro g t l hg
  have hg' : globs g = some ⟨t,l⟩ := hg
  unfold globs at hg'
  split at hg'
  · simp only [Option.some.injEq,Sigma.mk.injEq] at hg'
    obtain ⟨rfl,hl⟩ := hg'
    have hl := eq_of_heq hl
    subst hl
    have hc := fun i hi => (table h).cell gTab i hi
    refine ⟨(cell_spot (hc 0 (by decide))).2,fun j x hx => ?_⟩
    have hj : j < 11 := (List.getElem?_eq_some_iff.1 hx).1
    have hcj := hc j hj
    have hx2 : ([0,71,17,79,3,2,2,0,6,4,32] : List Int).getD j 0 = x := by rw [List.getD_eq_getElem?_getD]; rw [show ([0,71,17,79,3,2,2,0,6,4,32] : List Int)[j]? = some x from hx]; rfl
    rw [hx2] at hcj
    refine ⟨[.int .i64 x],⟨rfl,?_⟩,fun i u hu => ?_⟩
    · have hm : x ∈ ([0,71,17,79,3,2,2,0,6,4,32] : List Int) := List.mem_of_getElem? hx
      simp only [List.mem_cons,List.not_mem_nil,or_false] at hm
      rcases hm with rfl | rfl | rfl | rfl | rfl | rfl | rfl | rfl | rfl | rfl | rfl <;> decide
    · cases i with
      | zero =>
        simp at hu
        subst hu
        simpa [Ty.size] using hcj
      | succ i => simp at hu
  · simp at hg'
set_option maxRecDepth 100000 in
theorem contract (H : Type) (enc : TypeId×Value → H) (W : World) (base : Nat) (args : Array Value) (ds gs : List (DataW H)) (before : List MemPlace)
    (hval0 : ∀ (j : Nat) t v,Tryz.f3.params[j]? = some t → args[j]? = some v → Value.okWide Tryz.prog W .any base t v)
    (hW : DataW.Whole enc Tryz.prog Tryz.f3.params.toList Rows.requestDoesSpec.vars false W args.toList ds gs before) (hL : laidMetH Tryz.prog Rows.requestDoesRow.laid W) :
    Calls Tryz.prog 3 args W fun e W' => ∃ v,e = .returned v ∧ Rows.requestDoesSpec.post enc Tryz.prog Tryz.f3 false true false false W args v W' := by
  have hval : ∀ (j : Nat) t v,Tryz.f3.params[j]? = some t → args[j]? = some v → Value.okWide Tryz.prog W .any base t v := hval0
  have hW' := hW
  obtain ⟨p,q,hA0,hV,rfl,hfz,hnd⟩ := hW
  have hA : DataW.TrodAll enc Tryz.prog W 0 (fun _ => true) true Tryz.f3.params.toList args.toList ds p := hA0
  obtain ⟨rfl,rfl⟩ := trodVars_none hV
  obtain ⟨b,hgood,hrep⟩ := open_all tys (fun j t v h1 h2 => hval j t v (by simpa using h1) (by simpa using h2)) hA
  have hlen := all_len hA
  rw [Tryz.params3] at hlen
  obtain ⟨d0,d1,d2,rfl⟩ : ∃ d0 d1 d2,ds = [d0,d1,d2] := by
    match ds,hlen with
    | [d0,d1,d2],_ => exact ⟨d0,d1,d2,rfl⟩
  clear hA0 hval0
  refine (law_of (C := C18) (H := H3) (ts := [.agg (.pair (.int .u64) (.pair (.int .i64) (.pair (.int .u64) (.pair (.int .u64) (.pair (.slice 63 (.pair (.int .i64) (.pair (.int .u64) (.int .u64)))) (.pair (.int .i64) (.pair (.int .u64) (.pair (.int .u64) (.pair (.int .u64) (.pair (.slice 74 (.pair (.int .u64) (.int .u64))) (.slice 63 (.pair (.int .i64) (.pair (.int .u64) (.int .u64)))))))))))))),.agg (.pair (.int .u64) (.pair (.int .i64) (.pair (.int .u64) (.pair (.int .u64) (.pair (.slice 63 (.pair (.int .i64) (.pair (.int .u64) (.int .u64)))) (.pair (.int .i64) (.pair (.int .u64) (.pair (.int .u64) (.pair (.int .u64) (.pair (.slice 74 (.pair (.int .u64) (.int .u64))) (.slice 63 (.pair (.int .i64) (.pair (.int .u64) (.int .u64)))))))))))))),.one (.slice 5 (.int .u8))]) (F := F3) (b := b) (vs := args) (ok := fun b => b < W.heap.size) mixed s18 Tryz.func3 ev3
    (pure3 b hgood) (globsAt hL) (fun _ h => h) hrep).mono fun e W' ⟨he,bel⟩ => ?_
  subst he
  exact ⟨_,rfl,_,_,_,[],_,[],hW',trodAll_mk1 (shut_bool Tryz.underlying4 _),below_all laidOut bel reads hA,rfl,bel.frame _,fun h => by cases h⟩
noncomputable def laidWorld (os : Os) : World :=
  { World.holding Tryz.prog os ⟨#[],#[],[]⟩ with heap := (World.holding Tryz.prog os ⟨#[],#[],[]⟩).heap.modify 0 fun
      | .cells _ t frozen => .cells #[.int .i64 0,.int .i64 71,.int .i64 17,.int .i64 79,.int .i64 3,.int .i64 2,.int .i64 2,.int .i64 0,.int .i64 6,.int .i64 4,.int .i64 32] t frozen
      | o => o }
theorem laid_met (os : Os) : laidMet Tryz.prog Rows.requestDoesRow.laid ((laidWorld os).forCall (fun _ _ => 0) ⟨#[],#[.agg #[.int .u64 0,.int .i64 0,.int .u64 0,.int .u64 0,.slice none 0 0,.int .i64 0,.int .u64 0,.int .u64 0,.int .u64 0,.slice none 0 0,.slice none 0 0],.agg #[.int .u64 0,.int .i64 0,.int .u64 0,.int .u64 0,.slice none 0 0,.int .i64 0,.int .u64 0,.int .u64 0,.int .u64 0,.slice none 0 0,.slice none 0 0],.slice none 0 0],[]⟩).memory :=
  laidMet_of_run' 8 (by kernel_rfl) (by kernel_rfl)
theorem readsOf (os : Os) {H : Type} (enc : TypeId×Value → H) : ∃ places,DataW.whole enc Tryz.prog ((laidWorld os).forCall (fun _ _ => 0) ⟨#[],#[.agg #[.int .u64 0,.int .i64 0,.int .u64 0,.int .u64 0,.slice none 0 0,.int .i64 0,.int .u64 0,.int .u64 0,.int .u64 0,.slice none 0 0,.slice none 0 0],.agg #[.int .u64 0,.int .i64 0,.int .u64 0,.int .u64 0,.slice none 0 0,.int .i64 0,.int .u64 0,.int .u64 0,.int .u64 0,.slice none 0 0,.slice none 0 0],.slice none 0 0],[]⟩).memory Tryz.f3.params.toList Rows.requestDoesSpec.vars false (#[.agg #[.int .u64 0,.int .i64 0,.int .u64 0,.int .u64 0,.slice none 0 0,.int .i64 0,.int .u64 0,.int .u64 0,.int .u64 0,.slice none 0 0,.slice none 0 0],.agg #[.int .u64 0,.int .i64 0,.int .u64 0,.int .u64 0,.slice none 0 0,.int .i64 0,.int .u64 0,.int .u64 0,.int .u64 0,.slice none 0 0,.slice none 0 0],.slice none 0 0] : Array Value).toList 8 = some ([.agg [.lit (.int .u64 0),.lit (.int .i64 0),.lit (.int .u64 0),.agg [.lit (.int .u64 0),.nil,.lit (.int .i64 0)],.lit (.int .u64 0),.lit (.int .u64 0),.lit (.int .u64 0),.nil,.nil],.agg [.lit (.int .u64 0),.lit (.int .i64 0),.lit (.int .u64 0),.agg [.lit (.int .u64 0),.nil,.lit (.int .i64 0)],.lit (.int .u64 0),.lit (.int .u64 0),.lit (.int .u64 0),.nil,.nil],.nil],[],places) :=
  ⟨[],by kernel_rfl⟩
set_option maxRecDepth 100000 in
theorem lifted (os : Os) (started : os.Started) (H : Type) (enc : TypeId×Value → H) (F : Stop.Interp) :
    ReturnsInHanded {} Tryz.checked os 3 .any ((OpenSpec.ofChange Rows.requestDoesSpec).preRow enc Tryz.prog Tryz.f3 Rows.requestDoesRow.domain false Rows.requestDoesRow.laid) (((OpenSpec.ofChange Rows.requestDoesSpec).at F).post enc Tryz.prog Tryz.f3 false true false false) := by
  obtain ⟨places,hx⟩ := readsOf os enc
  refine returnsInHanded_of_row (C := Tryz.checked) (s := OpenSpec.ofChange Rows.requestDoesSpec) own started (by kernel_rfl) Tryz.func3
    (witness_row_at (enc := enc) (C := Tryz.checked) false (laidWorld os) #[.agg #[.int .u64 0,.int .i64 0,.int .u64 0,.int .u64 0,.slice none 0 0,.int .i64 0,.int .u64 0,.int .u64 0,.int .u64 0,.slice none 0 0,.slice none 0 0],.agg #[.int .u64 0,.int .i64 0,.int .u64 0,.int .u64 0,.slice none 0 0,.int .i64 0,.int .u64 0,.int .u64 0,.int .u64 0,.slice none 0 0,.slice none 0 0],.slice none 0 0] rfl (by kernel_rfl) (by kernel_rfl) (by kernel_rfl)
      (OpenSpec.preRow_of_cond 8 hx (by kernel_rfl) (fun k hk => by cases hk) (by kernel_rfl) (laid_met os))) ?_
  intro W base args ds gs before hval hW _ _ _ hL _ _
  exact contract H enc W base args ds gs before hval hW hL
theorem said : Rows.RequestDoesSaid :=
  OpenClaim.holds_of_cond 3 Tryz.f3 rfl rfl rfl rfl rfl rfl rfl ⟨rfl,rfl,rfl,rfl,rfl⟩ rfl rfl rfl rfl rfl (by kernel_rfl) Tryz.func3 (by kernel_rfl)
    (of_decide_eq_true (by kernel_rfl)) (by unfold Func.isWrapper; first | (rw [if_pos (by decide +kernel)]; kernel_rfl) | (rw [if_neg (by decide +kernel)]; exact ⟨rfl,rfl⟩))
    (fun os started H enc _ F => by rw [OpenClaim.pre_eq_preRow]; exact lifted os started H enc F)
theorem plain (f : FuncId) (fn : Func) (hf : Tryz.pinned.checked.prog.funcNamed "damson/damsonlaw19.RequestDoes" = some f) (hfn : Tryz.pinned.checked.prog.funcs[f]? = some fn) :
    false = Tryz.pinned.checked.prog.looks [] ∧ ∀ (j : Nat) t,fn.params[j]? = some t → Tryz.pinned.checked.prog.wantsStandIn t = false := by
  obtain rfl : f = 3 := Option.some.inj ((show Tryz.prog.funcNamed "damson/damsonlaw19.RequestDoes" = some 3 by kernel_rfl).symm.trans hf) |>.symm
  obtain rfl : fn = Tryz.f3 := (Option.some.inj (Tryz.func3.symm.trans hfn)).symm
  refine ⟨by kernel_rfl,fun j t ht => ?_⟩
  rw [Tryz.params3] at ht
  have hm := Array.mem_of_getElem? ht
  simp only [List.mem_toArray,List.mem_cons,List.not_mem_nil,or_false] at hm
  rcases hm with rfl | rfl | rfl
  · exact (show Tryz.prog.wantsStandIn 28 = false by kernel_rfl)
  · exact (show Tryz.prog.wantsStandIn 28 = false by kernel_rfl)
  · exact (show Tryz.prog.wantsStandIn 29 = false by kernel_rfl)
theorem proved : Rows.RequestDoesCardSaid :=
  Claim7.holds_tied_plain_at .later [] _ _ _ _ said (fun _ h => by cases h) (by kernel_rfl) (fun _ h => by cases h) requestDoes_row_tie rfl ⟨rfl,rfl⟩ (by kernel_rfl) rfl plain (by kernel_rfl)
#print axioms proved
end Go.Proofs.YtgdfhijgjjcnjaaGreatDoor.requestDoes
