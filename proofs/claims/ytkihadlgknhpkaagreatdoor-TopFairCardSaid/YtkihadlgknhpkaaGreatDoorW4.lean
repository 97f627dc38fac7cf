/- Where each session with frames that wait is stepped once each round, and all is taken, eight rounds leave none. -/
import Derived.Test.YtkihadlgknhpkaaGreatDoorX50
import Derived.Test.YtkihadlgknhpkaaGreatDoorQ4
import Derived.Test.YtkihadlgknhpkaaGreatDoorRows
import Derived.Test.YtkihadlgknhpkaaGreatDoorCards
import Derived.Test.YtkihadlgknhpkaaGreatDoorTie
import Derived.WalkKit
import Derived.ProofKit
import Derived.OpenShut
import Derived.ChangeOld
import Derived.Below
import Derived.SizedLaws
import Derived.Deep.DeepHandedRow
import Derived.Lib.LaidTab
set_option linter.all false
namespace Go.Proofs.YtkihadlgknhpkaaGreatDoor.topFair
open Go Go.Fw Go.Proofs Go.Proofs.YtkihadlgknhpkaaGreatDoor T
open Go.ChangeShapes Go.WideShapes Go.ChangeAt Go.RowKit
theorem own : ownKnob Tryz.prog.godebug = none := by kernel_rfl
theorem tys : vk Tryz.prog Tryz.f4.params.toList = some [.one gC,.one (.slice 68 eL)] := by kernel_rfl
theorem aii : (Tryz.f4.params.toList.all fun t => Tryz.prog.readableRec t && decide (t < Tryz.prog.types.size)) = true := by kernel_rfl
theorem Ua : Tryz.prog.globalNamed "damson/request.methods" = some 0 := by kernel_rfl
theorem aim : (Tryz.prog.globals[0]?).map (·.type) = some 330 := by kernel_rfl
theorem aiq : Tryz.prog.cellsOf 330 = 11 := by kernel_rfl
theorem aip : Tryz.prog.cellsOf 3 = 1 := by kernel_rfl
theorem aie {W : World} (h : laidMetH Tryz.prog Rows.topFairRow.laid W) : Lib.TabIs Tryz.prog W "damson/request.methods" .i64 [0,71,17,79,3,2,2,0,6,4,32] :=
 Lib.tabIs_of_head (rest := []) Ua aim Tryz.underlying330 Tryz.underlying3 aip aiq h
theorem ail {W : World} (h : laidMetH Tryz.prog Rows.topFairRow.laid W) : xI.Globs W := by
 intro g t l c
 have o := (congrFun (show globs = xI.glob by kernel_rfl) g).trans c
 have a : globs g = some ⟨t, l⟩ := o
 unfold globs at a
 split at a
 · simp only [aB, Sigma.mk.injEq] at a
   obtain ⟨rfl, d⟩ := a
   have d := eq_of_heq d
   subst d
   have m := fun i p => (aie h).cell Ua i p
   refine ⟨(Jd (m 0 (by decide))).2, fun j x e => ?_⟩
   have q : j < 11 := (oS.1 e).1
   have b := m j q
   have f : ([0,71,17,79,3,2,2,0,6,4,32] : List Int).getD j 0 = x := by rw [DJ]; rw [show ([0,71,17,79,3,2,2,0,6,4,32] : List Int)[j]? = some x from e]; rfl
   rw [f] at b
   refine ⟨[.int .i64 x], ⟨rfl, ?_⟩, fun i u k => ?_⟩
   · have n : x ∈ ([0,71,17,79,3,2,2,0,6,4,32] : List Int) := kG e
     simp only [a8, eu, ep] at n
     rcases n with rfl | rfl | rfl | rfl | rfl | rfl | rfl | rfl | rfl | rfl | rfl <;> decide
   · cases i with
     | zero =>
       simp at k
       subst k
       simpa [Ty.size] using b
     | succ i => simp at k
 · simp at a
set_option maxRecDepth 100000 in
theorem ain (H : Type) (enc : TypeId × Value → H) (W : World) (base : Nat) (args : Array Value) (l u : List (DataW H)) (c : List MemPlace)
  (a : ∀ (j : Nat) t v, Tryz.f4.params[j]? = some t → args[j]? = some v → Value.okWide Tryz.prog W .any base t v)
  (s : DataW.Whole enc Tryz.prog Tryz.f4.params.toList Rows.topFairSpec.vars false W args.toList l u c) (w : laidMetH Tryz.prog Rows.topFairRow.laid W) :
  Calls Tryz.prog 4 args W fun e I => ∃ v, e = .returned v ∧ Rows.topFairSpec.post enc Tryz.prog Tryz.f4 false true false false W args v I := by
 have f : ∀ (j : Nat) t v, Tryz.f4.params[j]? = some t → args[j]? = some v → Value.okWide Tryz.prog W .any base t v := a
 have o := s
 obtain ⟨p, q, g, x, rfl, y, z⟩ := s
 have r : DataW.TrodAll enc Tryz.prog W 0 (fun _ => true) true Tryz.f4.params.toList args.toList l p := g
 obtain ⟨rfl, rfl⟩ := trodVars_none x
 obtain ⟨b, d, i⟩ := Ii tys (fun j t v A B => f j t v (by simpa using A) (by simpa using B)) r
 have hlen := Jn r
 rw [Tryz.params4] at hlen
 obtain ⟨m, n, rfl⟩ : ∃ m n, l = [m, n] := by
  match l, hlen with
  | [m, n], _ => exact ⟨m, n, rfl⟩
 clear g a
 refine (Vj (C := xI) (H := hd [(9,[.data 38 (.int .i64),.box 20480 (.pair cH ed)],[122944]),(16,[.data 4 .bool,.data 53 (.int .i64),.box 20480 (.pair cH ed)],[122944]),(18,[.data 4 .bool,.data 57 (.int .i64),.box 20480 (.pair cH ed)],[122944]),(1000010,[],[9]),(1000011,[],[10,11]),(1000019,[],[14]),(1000021,[],[15]),(1000022,[],[17,18]),(4000000,[],[4398046511164])]) (ts := [.one gC,.one (.slice 68 eL)]) (F := F4) (b := b) (vs := args) (ok := fun b => b < W.heap.size) mixed s13 Tryz.func4 (fun b => by kernel_rfl)
  (pure4 b d) (ail w) (fun _ h => h) i).mono fun e I ⟨D, k⟩ => ?_
 subst D
 exact ⟨_, rfl, _, _, _, [], _, [], o, trodAll_mk1 (shut_bool Tryz.underlying4 _), Ji laidOut k aii r, rfl, k.frame _, fun h => by cases h⟩
noncomputable def Ht (os : Os) : World :=
 { World.holding Tryz.prog os ⟨#[], #[], []⟩ with heap := (World.holding Tryz.prog os ⟨#[], #[], []⟩).heap.modify 0 fun
   | .cells _ t frozen => .cells #[.int .i64 0, .int .i64 71, .int .i64 17, .int .i64 79, .int .i64 3, .int .i64 2, .int .i64 2, .int .i64 0, .int .i64 6, .int .i64 4, .int .i64 32] t frozen
   | o => o }
theorem aik (os : Os) : laidMet Tryz.prog Rows.topFairRow.laid ((Ht os).forCall (fun _ _ => 0) ⟨#[], #[.slice none 0 0, .slice none 0 0], []⟩).memory :=
 laidMet_of_run' 8 (by kernel_rfl) (by kernel_rfl)
theorem aih (os : Os) {H : Type} (enc : TypeId × Value → H) : ∃ j, DataW.whole enc Tryz.prog ((Ht os).forCall (fun _ _ => 0) ⟨#[], #[.slice none 0 0, .slice none 0 0], []⟩).memory Tryz.f4.params.toList Rows.topFairSpec.vars false (#[.slice none 0 0, .slice none 0 0] : Array Value).toList 8 = some ([.nil, .nil], [], j) :=
 ⟨[], by kernel_rfl⟩
set_option maxRecDepth 100000 in
theorem aij (os : Os) (a : os.Started) (H : Type) (enc : TypeId × Value → H) (F : Stop.Interp) :
  ReturnsInHanded {} Tryz.checked os 4 .any ((OpenSpec.ofChange Rows.topFairSpec).preRow enc Tryz.prog Tryz.f4 Rows.topFairRow.domain false Rows.topFairRow.laid) (((OpenSpec.ofChange Rows.topFairSpec).at F).post enc Tryz.prog Tryz.f4 false true false false) := by
 obtain ⟨d, e⟩ := aih os enc
 refine returnsInHanded_of_row (C := Tryz.checked) (s := OpenSpec.ofChange Rows.topFairSpec) own a (by kernel_rfl) Tryz.func4
  (witness_row_at (enc := enc) (C := Tryz.checked) false (Ht os) #[.slice none 0 0, .slice none 0 0] rfl (by kernel_rfl) (by kernel_rfl) (by kernel_rfl)
   (OpenSpec.preRow_of_cond 8 e (by kernel_rfl) (fun k f => by cases f) (by kernel_rfl) (aik os))) ?_
 intro W base args g h b c i _ _ _ j _ _
 exact ain H enc W base args g h b c i j
theorem aif : Rows.TopFairSaid :=
 OpenClaim.holds_of_cond 4 Tryz.f4 rfl rfl rfl rfl rfl rfl rfl ⟨rfl, rfl, rfl, rfl, rfl⟩ rfl rfl rfl rfl rfl fnm Tryz.func4 closed
  (nD (by kernel_rfl)) (by unfold Func.isWrapper; first | (rw [aw (by decide +kernel)]; kernel_rfl) | (rw [ak (by decide +kernel)]; exact ⟨rfl, rfl⟩))
  (fun os a H enc _ F => by rw [OpenClaim.pre_eq_preRow]; exact aij os a H enc F)
theorem plain (f : FuncId) (fn : Func) (d : Tryz.prog.funcNamed Rows.topFairRow.func = some f) (a : Tryz.prog.funcs[f]? = some fn) :
  false = Tryz.prog.looks [] ∧ ∀ (j : Nat) t, fn.params[j]? = some t → Tryz.prog.wantsStandIn t = false := by
 obtain rfl : f = 4 := mA (fnm.symm.trans d) |>.symm
 obtain rfl : fn = Tryz.f4 := (mA (Tryz.func4.symm.trans a)).symm
 refine ⟨lks.symm, fun j t b => ?_⟩
 rw [Tryz.params4] at b
 have c := Array.mem_of_getElem? b
 simp only [List.mem_toArray, a8, eu, ep] at c
 rcases c with rfl | rfl
 · exact (show Tryz.prog.wantsStandIn 22 = false by kernel_rfl)
 · exact (show Tryz.prog.wantsStandIn 23 = false by kernel_rfl)
theorem proved : Rows.TopFairCardSaid :=
 Claim7.holds_tied_plain_at .later [] _ _ _ _ aif (fun _ h => by cases h) (by kernel_rfl) (fun _ h => by cases h) topFair_row_tie rfl ⟨rfl, rfl⟩ (by kernel_rfl) rfl plain gby
#print axioms proved
end Go.Proofs.YtkihadlgknhpkaaGreatDoor.topFair
