/- Whatever octets come to whichever session, all money together is what channels were opened with. -/
import Derived.Test.YtkihadlgknhpkaaGreatDoorX50
import Derived.Test.YtkihadlgknhpkaaGreatDoorQ3
import Derived.Test.YtkihadlgknhpkaaGreatDoorRows
import Derived.Test.YtkihadlgknhpkaaGreatDoorCards
import Derived.Test.YtkihadlgknhpkaaGreatDoorTie
import Derived.WalkKit
import Derived.ProofKit
import Derived.OpenShut
import Derived.ChangeOld
import Derived.Below
import Derived.SizedLaws
import Derived.Deep.DeepHandedRow
import Derived.Lib.LaidTab
set_option linter.all false
namespace Go.Proofs.YtkihadlgknhpkaaGreatDoor.topMoney
open Go Go.Fw Go.Proofs Go.Proofs.YtkihadlgknhpkaaGreatDoor T
open Go.ChangeShapes Go.WideShapes Go.ChangeAt Go.RowKit
theorem own : ownKnob Tryz.prog.godebug = none := by kernel_rfl
theorem tys : vk Tryz.prog Tryz.f3.params.toList = some [.one gC,.one (.slice 68 eL)] := by kernel_rfl
theorem ah5 : (Tryz.f3.params.toList.all fun t => Tryz.prog.readableRec t && decide (t < Tryz.prog.types.size)) = true := by kernel_rfl
theorem TZ : Tryz.prog.globalNamed "damson/request.methods" = some 0 := by kernel_rfl
theorem ah9 : (Tryz.prog.globals[0]?).map (·.type) = some 330 := by kernel_rfl
theorem aid : Tryz.prog.cellsOf 330 = 11 := by kernel_rfl
theorem aic : Tryz.prog.cellsOf 3 = 1 := by kernel_rfl
theorem ah2 {W : World} (h : laidMetH Tryz.prog Rows.topMoneyRow.laid W) : Lib.TabIs Tryz.prog W "damson/request.methods" .i64 [0,71,17,79,3,2,2,0,6,4,32] :=
 Lib.tabIs_of_head (rest := []) TZ ah9 Tryz.underlying330 Tryz.underlying3 aic aid h
theorem ah8 {W : World} (h : laidMetH Tryz.prog Rows.topMoneyRow.laid W) : C7.Globs W := by
 intro g t l c
 have o := (congrFun (show globs = C7.glob by kernel_rfl) g).trans c
 have a : globs g = some ⟨t, l⟩ := o
 unfold globs at a
 split at a
 · simp only [aB, Sigma.mk.injEq] at a
   obtain ⟨rfl, d⟩ := a
   have d := eq_of_heq d
   subst d
   have m := fun i p => (ah2 h).cell TZ i p
   refine ⟨(Jd (m 0 (by decide))).2, fun j x e => ?_⟩
   have q : j < 11 := (oS.1 e).1
   have b := m j q
   have f : ([0,71,17,79,3,2,2,0,6,4,32] : List Int).getD j 0 = x := by rw [DJ]; rw [show ([0,71,17,79,3,2,2,0,6,4,32] : List Int)[j]? = some x from e]; rfl
   rw [f] at b
   refine ⟨[.int .i64 x], ⟨rfl, ?_⟩, fun i u k => ?_⟩
   · have n : x ∈ ([0,71,17,79,3,2,2,0,6,4,32] : List Int) := kG e
     simp only [a8, eu, ep] at n
     rcases n with rfl | rfl | rfl | rfl | rfl | rfl | rfl | rfl | rfl | rfl | rfl <;> decide
   · cases i with
     | zero =>
       simp at k
       subst k
       simpa [Ty.size] using b
     | succ i => simp at k
 · simp at a
set_option maxRecDepth 100000 in
theorem aia (H : Type) (enc : TypeId × Value → H) (W : World) (base : Nat) (args : Array Value) (l u : List (DataW H)) (c : List MemPlace)
  (a : ∀ (j : Nat) t v, Tryz.f3.params[j]? = some t → args[j]? = some v → Value.okWide Tryz.prog W .any base t v)
  (s : DataW.Whole enc Tryz.prog Tryz.f3.params.toList Rows.topMoneySpec.vars false W args.toList l u c) (w : laidMetH Tryz.prog Rows.topMoneyRow.laid W) :
  Calls Tryz.prog 3 args W fun e I => ∃ v, e = .returned v ∧ Rows.topMoneySpec.post enc Tryz.prog Tryz.f3 false true false false W args v I := by
 have f : ∀ (j : Nat) t v, Tryz.f3.params[j]? = some t → args[j]? = some v → Value.okWide Tryz.prog W .any base t v := a
 have o := s
 obtain ⟨p, q, g, x, rfl, y, z⟩ := s
 have r : DataW.TrodAll enc Tryz.prog W 0 (fun _ => true) true Tryz.f3.params.toList args.toList l p := g
 obtain ⟨rfl, rfl⟩ := trodVars_none x
 obtain ⟨b, d, i⟩ := Ii tys (fun j t v A B => f j t v (by simpa using A) (by simpa using B)) r
 have hlen := Jn r
 rw [Tryz.params3] at hlen
 obtain ⟨m, n, rfl⟩ : ∃ m n, l = [m, n] := by
  match l, hlen with
  | [m, n], _ => exact ⟨m, n, rfl⟩
 clear g a
 refine (Vj (C := C7) (H := hd [(10,[.data 4 .bool,.data 8 (.int .u64),.data 37 (.int .i64),.box 20480 (.pair cH ed)],[118848]),(21,[.data 4 .bool,.data 16 (.int .u64),.data 82 (.int .i64)],[20480,118848]),(1000011,[],[10]),(1000012,[],[11,12]),(1000022,[],[18])]) (ts := [.one gC,.one (.slice 68 eL)]) (F := F3) (b := b) (vs := args) (ok := fun b => b < W.heap.size) mixed s7 Tryz.func3 (fun b => by kernel_rfl)
  (pure3 b d) (ah8 w) (fun _ h => h) i).mono fun e I ⟨D, k⟩ => ?_
 subst D
 exact ⟨_, rfl, _, _, _, [], _, [], o, trodAll_mk1 (shut_bool Tryz.underlying4 _), Ji laidOut k ah5 r, rfl, k.frame _, fun h => by cases h⟩
noncomputable def Hr (os : Os) : World :=
 { World.holding Tryz.prog os ⟨#[], #[], []⟩ with heap := (World.holding Tryz.prog os ⟨#[], #[], []⟩).heap.modify 0 fun
   | .cells _ t frozen => .cells #[.int .i64 0, .int .i64 71, .int .i64 17, .int .i64 79, .int .i64 3, .int .i64 2, .int .i64 2, .int .i64 0, .int .i64 6, .int .i64 4, .int .i64 32] t frozen
   | o => o }
theorem ah7 (os : Os) : laidMet Tryz.prog Rows.topMoneyRow.laid ((Hr os).forCall (fun _ _ => 0) ⟨#[], #[.slice none 0 0, .slice none 0 0], []⟩).memory :=
 laidMet_of_run' 8 (by kernel_rfl) (by kernel_rfl)
theorem ah4 (os : Os) {H : Type} (enc : TypeId × Value → H) : ∃ j, DataW.whole enc Tryz.prog ((Hr os).forCall (fun _ _ => 0) ⟨#[], #[.slice none 0 0, .slice none 0 0], []⟩).memory Tryz.f3.params.toList Rows.topMoneySpec.vars false (#[.slice none 0 0, .slice none 0 0] : Array Value).toList 8 = some ([.nil, .nil], [], j) :=
 ⟨[], by kernel_rfl⟩
set_option maxRecDepth 100000 in
theorem ah6 (os : Os) (a : os.Started) (H : Type) (enc : TypeId × Value → H) (F : Stop.Interp) :
  ReturnsInHanded {} Tryz.checked os 3 .any ((OpenSpec.ofChange Rows.topMoneySpec).preRow enc Tryz.prog Tryz.f3 Rows.topMoneyRow.domain false Rows.topMoneyRow.laid) (((OpenSpec.ofChange Rows.topMoneySpec).at F).post enc Tryz.prog Tryz.f3 false true false false) := by
 obtain ⟨d, e⟩ := ah4 os enc
 refine returnsInHanded_of_row (C := Tryz.checked) (s := OpenSpec.ofChange Rows.topMoneySpec) own a (by kernel_rfl) Tryz.func3
  (witness_row_at (enc := enc) (C := Tryz.checked) false (Hr os) #[.slice none 0 0, .slice none 0 0] rfl (by kernel_rfl) (by kernel_rfl) (by kernel_rfl)
   (OpenSpec.preRow_of_cond 8 e (by kernel_rfl) (fun k f => by cases f) (by kernel_rfl) (ah7 os))) ?_
 intro W base args g h b c i _ _ _ j _ _
 exact aia H enc W base args g h b c i j
theorem ah3 : Rows.TopMoneySaid :=
 OpenClaim.holds_of_cond 3 Tryz.f3 rfl rfl rfl rfl rfl rfl rfl ⟨rfl, rfl, rfl, rfl, rfl⟩ rfl rfl rfl rfl rfl fnm Tryz.func3 closed
  (nD (by kernel_rfl)) (by unfold Func.isWrapper; first | (rw [aw (by decide +kernel)]; kernel_rfl) | (rw [ak (by decide +kernel)]; exact ⟨rfl, rfl⟩))
  (fun os a H enc _ F => by rw [OpenClaim.pre_eq_preRow]; exact ah6 os a H enc F)
theorem plain (f : FuncId) (fn : Func) (d : Tryz.prog.funcNamed Rows.topMoneyRow.func = some f) (a : Tryz.prog.funcs[f]? = some fn) :
  false = Tryz.prog.looks [] ∧ ∀ (j : Nat) t, fn.params[j]? = some t → Tryz.prog.wantsStandIn t = false := by
 obtain rfl : f = 3 := mA (fnm.symm.trans d) |>.symm
 obtain rfl : fn = Tryz.f3 := (mA (Tryz.func3.symm.trans a)).symm
 refine ⟨lks.symm, fun j t b => ?_⟩
 rw [Tryz.params3] at b
 have c := Array.mem_of_getElem? b
 simp only [List.mem_toArray, a8, eu, ep] at c
 rcases c with rfl | rfl
 · exact (show Tryz.prog.wantsStandIn 22 = false by kernel_rfl)
 · exact (show Tryz.prog.wantsStandIn 23 = false by kernel_rfl)
theorem proved : Rows.TopMoneyCardSaid :=
 Claim7.holds_tied_plain_at .later [] _ _ _ _ ah3 (fun _ h => by cases h) (by kernel_rfl) (fun _ h => by cases h) topMoney_row_tie rfl ⟨rfl, rfl⟩ (by kernel_rfl) rfl plain gby
#print axioms proved
end Go.Proofs.YtkihadlgknhpkaaGreatDoor.topMoney
