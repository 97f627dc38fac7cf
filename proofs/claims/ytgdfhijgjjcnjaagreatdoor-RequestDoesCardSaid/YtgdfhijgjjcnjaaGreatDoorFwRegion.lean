/- Regions: one operation behind the other; in whatever order. -/
import Derived.Test.YtgdfhijgjjcnjaaGreatDoorFwCall3
import Derived.OrdersHeld
set_option linter.unusedVariables false
set_option linter.unusedSimpArgs false
namespace Go.Fw
open Go.RowKit (Below)

section
variable {P : Program} {m : MM} {w0 : World} {st : St} {a : Act} {c : Cx} {R : Type} {K : St → Option R} {r : R} {o : Oper} {next : Act → World → Prop} {Q : Exit → Act → World → Prop}

theorem ungd_rep (h : Rep m w0 st a c) : Rep m w0 st.ungd a c := by
  refine ⟨h.size.ungd,fun d => ?_,h.defers,h.ob,h.objs,h.apart,h.mine,h.ok,h.kept,h.old,h.new,h.pin,h.a,h.low,h.q⟩
  have : (St.get st.ungd d) = Fw.ungd (st.get d) := go_ungd _ _
  rw [this]
  have hd := h.slots d
  cases hp : st.get d <;> rw [hp] at hd <;> simp only [Fw.ungd] <;> try exact hd
  simp [SlotOK,RepV]

theorem inlOp_sound {C : Ctx} (hS : C.OwedAt m w0) {ops : Array Oper} {o : Oper} {next : Act → World → Prop} {g : FuncId} {as : List PV} (hi : inlOf C st o = some (g,as)) (h : Rep m w0 st a c)
    (hr : C.inl g as st (fun v st => bif gdOn st.s o.dst then none else K (st.put o.dst (unw.san v))) = some r)
    (hK : ∀ st' a' c',K st' = some r → Rep m w0 st' a' c' → next a' c'.w) :
    if Region.wanted o (yielded ops a.tmps) = true then o.wp C.P a c.w next Q else next (a.put o.dst undef) c.w := by
  unfold inlOf at hi
  split at hi
  · rename_i f args argTypes hop
    have hf := operand_rep h f
    split at hi
    · rename_i g' caps hfe
      rw [hfe] at hf
      simp only [RepV] at hf
      obtain ⟨cv,hfv,hcaps⟩ := hf
      cases hc : (C.inlined g' && enters C.P g' && decide (args.size = argTypes.size) && o.guard.isNone && !gdOn st.s o.dst) with
      | false => rw [hc] at hi; simp at hi
      | true =>
        rw [hc] at hi
        simp only [cond_true,Option.some.injEq,Prod.mk.injEq] at hi
        obtain ⟨rfl,rfl⟩ := hi
        simp only [Bool.and_eq_true,decide_eq_true_eq,Option.isNone_iff_eq_none] at hc
        obtain ⟨⟨⟨⟨_,hent⟩,hsz⟩,hgu⟩,_⟩ := hc
        have hw : Region.wanted o (yielded ops a.tmps) = true := by simp [Region.wanted,hgu]
        rw [if_pos hw]
        unfold Oper.wp
        unfold enters at hent
        split at hent
        · rename_i fn hfn
          simp only [Bool.and_eq_true,bne_iff_ne] at hent
          have hbody : fn.body.isNone = false := by cases hb : fn.body <;> simp_all
          have hname : (fn.name == "runtime.NumGoroutine") = false := by simpa using hent.2
          have hrun : (execOp a.eval o).run C.P c.w = .ok (.enter g' ((args.map a.eval) ++ cv)) c.w := by
            simp only [execOp,hop,Sem.run_bind,resolve,hfv,Deferred.ofValue,Sem.run_pure,Result.andThen_ok,invoke,Array.empty_append,callFunc,run_program,hfn,hname,hbody,Bool.false_eq_true,if_false]
          rw [hrun,Oper.upon_enter]
          refine (hS.owed.2 _ _ _ _ _ _ hr m w0 a c ((args.map a.eval) ++ cv) hS.glob h ?_).mono ?_
          · rw [Array.toList_append,Array.toList_map]
            exact (zip_rep h args.toList argTypes.toList (by simpa using hsz)).append hcaps
          · rintro e w' ⟨u,v,st',c',rfl,rfl,hk,h',hv⟩
            cases hgd : gdOn st'.s o.dst with
            | true => rw [hgd] at hk; simp at hk
            | false =>
              rw [hgd] at hk
              simp only [cond_false] at hk
              exact hK _ _ c' hk (h'.put o.dst (SlotOK.of (san_rep hv) (ne_gd (san_isGd _))) (fun x hx => ⟨by
                rw [hx] at hgd
                exact gdOn_no h'.size hgd,fun s w q he => absurd he (ne_gd (san_isGd _) s w q)⟩))
        · simp at hent
    · simp at hi
  · simp at hi
theorem evOps_sound {C : Ctx} (hS : C.OwedAt m w0) {ops : Array Oper} : ∀ (l : List Oper) (is : List Nat) (st : St) (a : Act) (c : Cx),is.map (ops[·]?) = l.map some → Rep m w0 st a c → evOps C ops l st K = some r →
    (∀ st' a' c',K st' = some r → Rep m w0 st' a' c' → Q .normal a' c'.w) → wpOps C.P ops Q is a c.w
  | [],[],st,a,c,_,h,hr,hK => by simpa [wpOps] using hK st a c hr h
  | [],_ :: _,_,_,_,hl,_,_,_ => by simp at hl
  | _ :: _,[],_,_,_,hl,_,_,_ => by simp at hl
  | o :: l,i :: is,st,a,c,hl,h,hr,hK => by
    simp only [List.map_cons,List.cons.injEq] at hl
    rw [wpOps_cons]
    unfold wpOp
    simp only [hl.1]
    have : if Region.wanted o (yielded ops a.tmps) = true then o.wp C.P a c.w (wpOps C.P ops Q is) Q else wpOps C.P ops Q is (a.put o.dst undef) c.w := by
      simp only [evOps] at hr
      split at hr
      · rename_i g as hi
        exact inlOp_sound (K := fun st => evOps C ops l st K) hS hi h hr (fun st' a' c' hk h' => evOps_sound hS l is st' a' c' hl.2 h' hk hK)
      · exact evOp_sound (Q := Q) (next := wpOps C.P ops Q is) hS (ops := ops) h hr (fun st' a' c' hk h' => evOps_sound hS l is st' a' c' hl.2 h' hk hK)
    split
    · rename_i hw; rw [if_pos hw] at this; exact .inl this
    · rename_i hw; rw [if_neg hw] at this; exact this

theorem region_sound {C : Ctx} (hS : C.OwedAt m w0) {ops : Array Oper} {id : Nat} (h : Rep m w0 st a c) (hr : evOps C ops ops.toList st K = some r)
    (hK : ∀ st' a' c',K st' = some r → Rep m w0 st' a' c' → Q .normal a' c'.w) : (Code.region id ops false).wp C.P Q a c.w := by
  refine wp_region (evOps_sound hS ops.toList _ st a c ?_ h hr hK)
  apply List.ext_getElem?
  intro i
  simp only [List.getElem?_map,List.getElem?_range',List.getElem?_range]
  by_cases hi : i < ops.size
  · simp [hi]
  · simp [hi]

def Still (P : Program) {α : Type} (s : Sem α) : Prop := ∀ w v w1,s.run P w = .ok v w1 → w1 = w ∧ ∀ w',s.run P w' = .ok v w'
theorem Still.pure {α : Type} (v : α) : Still P (Pure.pure v : Sem α) := by
  intro w u w1 h
  simp only [Sem.run_pure,Result.ok.injEq] at h
  obtain ⟨rfl,rfl⟩ := h
  exact ⟨rfl,fun _ => by simp only [Sem.run_pure]⟩
theorem Still.bind {α β : Type} {s : Sem α} {f : α → Sem β} (h : Still P s) (hf : ∀ v,Still P (f v)) : Still P (s >>= f) := by
  intro w u w1 hr
  rw [Sem.run_bind] at hr
  cases hs : s.run P w with
  | halt x w2 => rw [hs] at hr; simp at hr
  | ok v w2 =>
    rw [hs] at hr
    simp only [Result.andThen_ok] at hr
    obtain ⟨rfl,h2⟩ := h _ _ _ hs
    obtain ⟨rfl,h3⟩ := hf v _ _ _ hr
    exact ⟨rfl,fun w' => by rw [Sem.run_bind,h2 w',Result.andThen_ok,h3 w']⟩
theorem Still.never {α : Type} {s : Sem α} (h : ∀ w v w1,s.run P w ≠ .ok v w1) : Still P s := fun w v w1 hr => absurd hr (h w v w1)
theorem Still.halt {α : Type} (x : Halt) : Still P (Sem.halt x : Sem α) := Still.never (by intro w v w1; simp [Sem.run])
theorem Still.stuck {α : Type} (x : String) : Still P (Go.stuck x : Sem α) := Still.halt _
theorem Still.unsupported {α : Type} (x : Unsupported) : Still P (Go.unsupported x : Sem α) := Still.halt _
theorem Still.program : Still P Go.program := by
  intro w u w1 h
  simp only [run_program,Result.ok.injEq] at h
  obtain ⟨rfl,rfl⟩ := h
  exact ⟨rfl,fun _ => by simp only [run_program]⟩
theorem Still.underlying (t : TypeId) : Still P (Go.underlying t) := by
  unfold Go.underlying
  refine Still.program.bind fun p => ?_
  split
  · exact Still.pure _
  · exact Still.stuck _
theorem Still.ite {α : Type} {b : Prop} [Decidable b] {s t : Sem α} (h1 : b → Still P s) (h2 : ¬ b → Still P t) : Still P (if b then s else t) := by
  split
  · exact h1 ‹_›
  · exact h2 ‹_›
theorem Still.asIntOf (v : Value) : Still P (Go.asIntOf v) := by
  unfold Go.asIntOf
  split
  · exact Still.pure _
  · exact Still.unsupported _
  · exact Still.stuck _
theorem Still.asBool (v : Value) : Still P (Go.asBool v) := by
  unfold Go.asBool
  split
  · exact Still.pure _
  · exact Still.stuck _
theorem Still.asAgg (v : Value) : Still P (Go.asAgg v) := by
  unfold Go.asAgg
  split
  · exact Still.pure _
  · exact Still.stuck _
theorem Still.sureAddr (v : Value) : Still P (Instr.sureAddr v) := by
  unfold Instr.sureAddr
  split
  · exact Still.pure _
  · exact Still.stuck _
theorem Still.typeInfo (t : TypeId) : Still P (Go.typeInfo t) := by
  unfold Go.typeInfo
  refine Still.program.bind fun p => ?_
  split
  · exact Still.pure _
  · exact Still.stuck _
theorem Still.sizeOf (t : TypeId) : Still P (Go.sizeOf t) := (Still.typeInfo t).bind fun _ => Still.pure _
theorem Still.isAgg (t : TypeId) : Still P (Go.isAgg t) := by
  unfold Go.isAgg
  refine (Still.underlying t).bind fun d => ?_
  split <;> exact Still.pure _
theorem Still.part (t : TypeId) (cs : Array Value) (off : Nat) : Still P (Go.part t cs off) := by
  unfold Go.part
  refine (Still.isAgg t).bind fun b => ?_
  refine Still.ite (fun _ => (Still.sizeOf t).bind fun _ => Still.pure _) (fun _ => ?_)
  split
  · exact Still.pure _
  · exact Still.stuck _
def Never (P : Program) {α : Type} (s : Sem α) : Prop := ∀ w v w1,s.run P w ≠ .ok v w1
theorem Never.still {α : Type} {s : Sem α} (h : Never P s) : Still P s := Still.never h
theorem Never.bind {α β : Type} {s : Sem α} {f : α → Sem β} (hf : ∀ a,Never P (f a)) : Never P (s >>= f) := by
  intro w v w1 hr
  rw [Sem.run_bind] at hr
  cases hs : s.run P w with
  | halt x w2 => rw [hs] at hr; simp at hr
  | ok u w2 => rw [hs] at hr; simp only [Result.andThen_ok] at hr; exact hf u _ _ _ hr
theorem Never.goPanic {α : Type} (v : Value) : Never P (Go.goPanic v : Sem α) := by intro w v w1; simp [Go.goPanic,Sem.run]
theorem Never.runtimePanic {α : Type} (e : RuntimeError) : Never P (Go.runtimePanic e : Sem α) := by
  unfold Go.runtimePanic
  refine Never.bind fun p => ?_
  dsimp only
  split
  · exact Never.goPanic _
  · exact Never.goPanic _
  · exact Never.goPanic _
  · exact Never.goPanic _
  · exact Never.bind fun _ => Never.bind fun _ => Never.goPanic _
  · exact Never.bind fun _ => Never.bind fun _ => Never.goPanic _
  · exact Never.goPanic _
theorem Still.boundsPanic {α : Type} (k : IntKind) (x y : Int) (code : BoundsCode) : Still P (Go.boundsPanic k x y code : Sem α) := by
  unfold Go.boundsPanic
  dsimp only
  refine Never.still ?_
  split
  · exact Never.bind fun _ => Never.runtimePanic _
  · exact Never.bind fun _ => Never.runtimePanic _
theorem Still.indexAt (t : TypeId) (x i : Value) : Still P (Instr.indexAt t x i) := by
  unfold Instr.indexAt
  refine (Still.asIntOf _).bind fun p => ?_
  obtain ⟨k,i⟩ := p
  dsimp only
  refine (Still.underlying _).bind fun d => ?_
  have key : ∀ (b : Option Addr) (l : Nat) (e : TypeId),Still P (do
      let __do_lift ← Go.underlying t
      have tiny := decide (l ≤ 1) && match __do_lift with
          | TypeDesc.array len elem => true
          | x => false
      match b with
        | some a =>
          if 0 ≤ i ∧ i < ↑l then do
            let __do_lift ← Go.sizeOf e
            Pure.pure (Value.pointer (some (a.add (i.toNat * __do_lift))))
          else if tiny = true then Go.unsupported (.noEntry "op/indexAddr.an index out of range at an array of length 0 or 1 (ledger 616)") else Go.boundsPanic k i l BoundsCode.index
        | none => Go.boundsPanic k i 0 BoundsCode.index) := by
    intro b l e
    refine (Still.underlying _).bind fun d => ?_
    dsimp only
    split
    · refine Still.ite (fun _ => (Still.sizeOf _).bind fun _ => Still.pure _) (fun _ => Still.ite (fun _ => Still.unsupported _) (fun _ => Still.boundsPanic _ _ _ _))
    · exact Still.boundsPanic _ _ _ _
  split
  · exact (Still.sureAddr _).bind fun _ => (Still.pure _).bind fun q => key _ _ _
  · exact (Still.pure _).bind fun q => key _ _ _
  · exact (Still.stuck _).bind fun q => key _ _ _
theorem Still.asAddr (v : Value) : Still P (Go.asAddr v) := by
  unfold Go.asAddr
  split
  · exact Still.pure _
  · exact Never.still (Never.runtimePanic _)
  · exact Still.stuck _
theorem Still.sliceBound (x : Value) (y : Nat) (code : BoundsCode) : Still P (Instr.sliceBound x y code) := by
  unfold Instr.sliceBound
  refine (Still.asIntOf _).bind fun p => ?_
  obtain ⟨k,i⟩ := p
  exact Still.ite (fun _ => Still.pure _) (fun _ => Still.boundsPanic _ _ _ _)
theorem Still.sliceBounds (b : Bool) (l c : Nat) (lo hi mx : Option Value) : Still P (Instr.sliceBounds b l c lo hi mx) := by
  unfold Instr.sliceBounds
  dsimp only
  repeat' first
    | with_reducible exact Still.pure _
    | with_reducible exact Still.stuck _
    | with_reducible exact Still.sliceBound _ _ _
    | with_reducible refine Still.bind (Still.sliceBound _ _ _) fun _ => ?_
    | with_reducible refine Still.bind (Still.pure _) fun _ => ?_
    | with_reducible refine Still.bind (Still.stuck _) fun _ => ?_
    | split
theorem Still.slice (t : TypeId) (x : Value) (lo hi mx : Option Value) : Still P (Instr.slice t x lo hi mx) := by
  unfold Instr.slice
  refine (Still.underlying _).bind fun d => ?_
  dsimp only
  repeat' first
    | with_reducible exact Still.pure _
    | with_reducible exact Still.stuck _
    | with_reducible refine Still.bind (Still.sliceBounds _ _ _ _ _ _) fun _ => ?_
    | with_reducible refine Still.bind (Still.sizeOf _) fun _ => ?_
    | with_reducible refine Still.bind (Still.asAddr _) fun _ => ?_
    | with_reducible refine Still.bind (Still.underlying _) fun _ => ?_
    | with_reducible refine Still.bind (Still.pure _) fun _ => ?_
    | with_reducible refine Still.bind (Still.stuck _) fun _ => ?_
    | split
theorem Still.sliceAt (t : TypeId) (x : Value) (lo hi mx : Option Value) : Still P (Instr.sliceAt t x lo hi mx) := by
  unfold Instr.sliceAt
  refine (Still.underlying _).bind fun d => ?_
  dsimp only
  split
  · refine (Still.sureAddr _).bind fun a => ?_
    refine (Still.sliceBounds _ _ _ _ _ _).bind fun q => ?_
    obtain ⟨l,h,m⟩ := q
    exact (Still.sizeOf _).bind fun _ => Still.pure _
  · exact Still.slice _ _ _ _ _
theorem Still.value {s : Sem Value} (h : Still P s) : Still P (do Pure.pure (Next.value (← s)) : Sem Next) := h.bind fun _ => Still.pure _
def ValueOnly (P : Program) (s : Sem Next) : Prop := ∀ w n w1,s.run P w = .ok n w1 → ∃ v,n = .value v
theorem ValueOnly.mk {s : Sem Value} : ValueOnly P (do Pure.pure (Next.value (← s)) : Sem Next) := by
  intro w n w1 h
  simp only [Sem.run_bind] at h
  cases hs : s.run P w with
  | halt x w2 => rw [hs] at h; simp at h
  | ok v w2 => rw [hs] at h; simp at h; exact ⟨v,h.1.symm⟩
theorem ValueOnly.pure (v : Value) : ValueOnly P (Pure.pure (Next.value v) : Sem Next) := by
  intro w n w1 h
  simp only [Sem.run_pure,Result.ok.injEq] at h
  exact ⟨v,h.1.symm⟩

theorem Still.zeroValue (t : TypeId) : Still P (Go.zeroValue t) := by
  unfold Go.zeroValue
  refine (Still.typeInfo t).bind fun i => ?_
  split
  · exact Still.pure _
  · exact Still.unsupported _
theorem Still.mapL {α β : Type} {f : α → Sem β} (hf : ∀ x,Still P (f x)) : ∀ l : List α,Still P (l.mapM f)
  | [] => by rw [List.mapM_nil]; exact Still.pure _
  | x :: r => by
    rw [List.mapM_cons]
    exact (hf x).bind fun _ => (Still.mapL hf r).bind fun _ => Still.pure _
theorem Still.mapA {α β : Type} {f : α → Sem β} (hf : ∀ x,Still P (f x)) (l : Array α) : Still P (l.mapM f) := by
  rw [Array.mapM_eq_mapM_toList,map_eq_pure_bind]
  exact (Still.mapL hf _).bind fun _ => Still.pure _
theorem Still.build (t : TypeId) (parts : Array (Nat×Value)) : Still P (Instr.build t parts) := by
  unfold Instr.build
  refine (Still.zeroValue t).bind fun z => ?_
  refine (Still.underlying t).bind fun d => ?_
  split
  · refine (Still.mapA (fun f => (Still.sizeOf _).bind fun _ => Still.pure _) _).bind fun places => ?_
    split
    · exact Still.pure _
    · exact Still.stuck _
  · refine (Still.sizeOf _).bind fun size => ?_
    split
    · exact Still.pure _
    · exact Still.stuck _
  · exact Still.stuck _
theorem memFree_still {o : Oper} (h : memFree o = true) (ρ : Operand → Value) : Still P (execOp ρ o) ∧ ValueOnly P (execOp ρ o) := by
  obtain ⟨dst,op,type,pos,after,guard⟩ := o
  unfold execOp
  cases op <;> simp only [memFree] at h ⊢ <;> try (simp at h; done)
  case move => exact ⟨Still.pure _,ValueOnly.pure _⟩
  case assign => exact ⟨Still.pure _,ValueOnly.pure _⟩
  case pick =>
    refine ⟨(Still.asBool _).bind fun _ => Still.pure _,?_⟩
    intro w n w1 h
    simp only [Sem.run_bind] at h
    cases hs : (Go.asBool _).run P w with
    | halt x w2 => rw [hs] at h; simp at h
    | ok v w2 => rw [hs] at h; simp at h; exact ⟨_,h.1.symm⟩
  case field t x i =>
    refine ⟨Still.value ?_,ValueOnly.mk⟩
    unfold Instr.field
    refine (Still.underlying _).bind fun d => ?_
    split
    · split
      · exact (Still.asAgg _).bind fun _ => Still.part _ _ _
      · exact Still.stuck _
    · exact Still.stuck _
  case indexAddr => exact ⟨Still.value (Still.indexAt _ _ _),ValueOnly.mk⟩
  case slice => exact ⟨Still.value (Still.sliceAt _ _ _ _ _),ValueOnly.mk⟩
  case extract =>
    refine ⟨Still.value ?_,ValueOnly.mk⟩
    unfold Instr.extract
    split
    · split
      · exact Still.pure _
      · exact Still.stuck _
    · exact Still.stuck _
  case makeFunc => exact ⟨Still.value (Still.pure _),ValueOnly.mk⟩
  case build => exact ⟨Still.value (Still.build _ _),ValueOnly.mk⟩

mutual
theorem RepV.still {c c1 : Cx} (hra : ∀ b,c.ra b → c1.w.heap[b]? = c.w.heap[b]?) (hok : c1.ok = c.ok) (ha : c1.a = c.a) (hρ : c1.ρ = c.ρ) (hσ : c1.σ = c.σ) (hob : ∀ k t l,¬ RowAt (c1.ob k) t l) : ∀ (p : PV) (v : Value),(p.hasq = true → ∀ b,¬ c.q b) → RepV c p v → RepV c1 p v
  | .undef,_,_,_ | .fresh ..,_,_,_ | .bx _,_,_,_ | .gd ..,_,_,_ => by simp [RepV]
  | .int k n,v,_,h => by simpa [RepV] using h
  | .bool b,v,_,h => by simpa [RepV] using h
  | .str s,v,_,h => by simpa [RepV] using h
  | .sl e t l,v,_,h => by
    simp only [RepV] at h ⊢
    obtain ⟨A,n,h1,h2,h3,h4⟩ := h
    exact ⟨A,n,h1,h2,h3,h4.move (fun b hb => hra b (.inl hb)) (fun b hb => by rw [hok]; exact hb)⟩
  | .full e t l,v,_,h => by
    simp only [RepV] at h ⊢
    obtain ⟨A,h1,h3,h4⟩ := h
    exact ⟨A,h1,h3,h4.move (fun b hb => hra b (.inl hb)) (fun b hb => by rw [hok]; exact hb)⟩
  | .own k,v,_,h => by simp only [RepV] at h ⊢; rw [hσ]; exact h
  | .agg l,v,hq,h => by
    simp only [RepV] at h ⊢
    obtain ⟨a,h1,h2⟩ := h
    exact ⟨a,h1,RepL.still hra hok ha hρ hσ hob l _ (by simpa [PV.hasq] using hq) h2⟩
  | .tup l,v,hq,h => by
    simp only [RepV] at h ⊢
    obtain ⟨a,h1,h2⟩ := h
    exact ⟨a,h1,RepL.still hra hok ha hρ hσ hob l _ (by simpa [PV.hasq] using hq) h2⟩
  | .ptr k off,v,_,h => by simp only [RepV] at h ⊢; rw [hρ]; exact h
  | .cptr l,v,hq,h => by
    simp only [RepV] at h ⊢
    obtain ⟨b,off,cs,h1,h2,h3,h4⟩ := h
    exact ⟨b,off,cs,h1,by unfold Cx.ra; rw [hok,ha]; exact h2,RepL.still hra hok ha hρ hσ hob l _ (by simpa [PV.hasq] using hq) h3,fun i u hu => by rw [cell_of (hra b h2)]; exact h4 i u hu⟩
  | .optr k i sz off,v,_,h => by
    simp only [RepV] at h ⊢
    rw [hρ]
    exact ⟨h.1,fun t l hl => absurd hl (hob k t l)⟩
  | .fn f l,v,hq,h => by
    simp only [RepV] at h ⊢
    obtain ⟨a,h1,h2⟩ := h
    exact ⟨a,h1,RepL.still hra hok ha hρ hσ hob l _ (by simpa [PV.hasq] using hq) h2⟩
  | .view k lo n sz,v,_,h => by simp only [RepV] at h ⊢; rw [hρ,hσ]; exact h
  | .nilptr,v,_,h => by simpa [RepV] using h
  | .nilfn,v,_,h => by simpa [RepV] using h
  | .nilerr,v,_,h => by simpa [RepV] using h
  | .none_,v,_,h => by simpa [RepV] using h
  | .mnone,v,_,h => by simpa [RepV] using h
  | .mown k,v,_,h => by simp only [RepV] at h ⊢; rw [hρ]; exact h
  | .mp m l,v,_,h => by
    simp only [RepV] at h ⊢
    obtain ⟨A,h1,h2⟩ := h
    exact ⟨A,h1,h2.move (fun b hb => hra b (.inl hb)) (fun b hb => by rw [hok]; exact hb)⟩
  | .asl f e t l,v,_,h => by
    simp only [RepV] at h ⊢
    obtain ⟨A,n,h1,h2,h3,hf,h4⟩ := h
    exact ⟨A,n,h1,h2,h3,hf,h4.move hra (fun b hb => by unfold Cx.ra; rw [hok,ha]; exact hb)⟩
  | .qsl e t l,v,hq,h => by
    have hq := hq (by simp [PV.hasq])
    simp only [RepV] at h ⊢
    obtain ⟨A,n,h1,h2,h3,h4,h5⟩ := h
    refine ⟨A,n,h1,h2,h3,fun h0 => ?_,fun _ h0 => ?_⟩
    · obtain ⟨b,off,_,hb,_⟩ := h4 h0
      exact absurd hb (hq b)
    · obtain ⟨b,off,_,hb,_⟩ := h4 h0
      exact absurd hb (hq b)
  | .rptr t x off,v,hq,h => by
    have hq := hq (by simp [PV.hasq])
    simp only [RepV] at h ⊢
    obtain ⟨b,o,cs,h1,h2,_⟩ := h
    exact absurd h2 (hq b)
  | .any k,v,_,h => by simpa [RepV] using h
theorem RepL.still {c c1 : Cx} (hra : ∀ b,c.ra b → c1.w.heap[b]? = c.w.heap[b]?) (hok : c1.ok = c.ok) (ha : c1.a = c.a) (hρ : c1.ρ = c.ρ) (hσ : c1.σ = c.σ) (hob : ∀ k t l,¬ RowAt (c1.ob k) t l) : ∀ (l : List PV) (vs : List Value),(PV.hasqL l = true → ∀ b,¬ c.q b) → RepL c l vs → RepL c1 l vs
  | [],vs,_,h => by simpa [RepL] using h
  | p :: r,vs,hq,h => by
    simp only [RepL] at h ⊢
    obtain ⟨v,r',h1,h2,h3⟩ := h
    exact ⟨v,r',h1,RepV.still hra hok ha hρ hσ hob p v (fun hp => hq (by simp [PV.hasqL,hp])) h2,RepL.still hra hok ha hρ hσ hob r r' (fun hp => hq (by simp [PV.hasqL,hp])) h3⟩
end
theorem noQ_gd {p : PV} {s' : Nat} {w' : Bool} {v : PV} (h : noQ p = .gd s' w' v) : p = .gd s' w' v := by
  unfold noQ at h
  cases hq : p.hasq with
  | true => rw [hq] at h; simp at h
  | false => rw [hq] at h; exact h
theorem Rep.elsewhere (h : Rep m w0 st a c) {w' : World} (hm : ∀ b,c.ra b → w'.heap[b]? = c.w.heap[b]?) (hs : c.w.heap.size ≤ w'.heap.size) :
    Rep ⟨fun _ => False,c.ok,c.pin,c.a⟩ w' ⟨st.still,[]⟩ a { c with w := w',ob := fun _ => none,q := fun _ => False } := by
  have key : ∀ (p : PV) (u : Value),(p.hasq = true → ∀ b,¬ c.q b) → SlotOK c a p u → SlotOK { c with w := w',ob := fun _ => none,q := fun _ => False } a p u := by
    intro p u hq hs
    cases p <;> simp only [SlotOK] at hs ⊢ <;> first
      | exact ⟨fun hg => RepV.still (c := c) (c1 := { c with w := w',ob := fun _ => none,q := fun _ => False }) hm rfl rfl rfl rfl (fun _ _ _ => by simp [RowAt]) _ _ (by simpa [PV.hasq] using hq) (hs.1 hg),hs.2⟩
      | exact RepV.still (c := c) (c1 := { c with w := w',ob := fun _ => none,q := fun _ => False }) hm rfl rfl rfl rfl (fun _ _ _ => by simp [RowAt]) _ _ hq hs
  refine ⟨?_,fun d => ?_,h.defers,fun k => rfl,fun k o ho => by simp at ho,fun k k' hk => ?_,fun k hk => ?_,fun b hb => Nat.lt_of_lt_of_le (h.ok b hb) hs,Kept.refl _ _,fun _ hb => hb,fun _ hb => .inl hb,rfl,rfl,fun b hb => ⟨Nat.lt_of_lt_of_le (h.zlt (.inl (.inr hb))) hs,id⟩,fun b hb => hb.elim⟩
  · exact h.size.map _ rfl fun _ _ _ _ => noQ_gd
  · show SlotOK _ a (st.still.go d) _
    have hd := h.slots d
    unfold St.still
    rw [go_map _ rfl]
    unfold noQ
    cases hq : (st.s.go d).hasq with
    | true => simp [SlotOK,RepV]
    | false => exact key _ _ (fun hh => by rw [cond_false,hq] at hh; simp at hh) hd
  · obtain ⟨o,ho,_⟩ := hk; simp at ho
  · obtain ⟨o,ho,_⟩ := hk; simp at ho

theorem loadVar_all {t : TypeId} {l : List PV} {cs : List Value} {b off : Nat} {p : PV} (hl : RepL c l cs) (hp : partPV P t l 0 = some p) :
    ∃ v,∀ w' : World,(∀ (i : Nat) (u : Value),cs[i]? = some u → w'.cell? ⟨b,off + i,none⟩ = some u) → (loadVar t ⟨b,off,none⟩).run P w' = .ok v w' := by
  unfold partPV at hp
  have agg : ∀ d,P.underlying t = some d → (aggD d) = true → (if 0 + P.cellsOf t ≤ l.length then some (PV.agg ((l.drop 0).take (P.cellsOf t))) else none) = some p →
      ∃ v,∀ w' : World,(∀ (i : Nat) (u : Value),cs[i]? = some u → w'.cell? ⟨b,off + i,none⟩ = some u) → (loadVar t ⟨b,off,none⟩).run P w' = .ok v w' := by
    intro d hd hagg hp
    split at hp
    · rename_i hle
      have hlen := hl.length
      refine ⟨.agg (cs.take (P.cellsOf t)).toArray,fun w' hc => ?_⟩
      unfold loadVar
      simp only [Sem.run_bind,run_isAgg hd,Result.andThen_ok,hagg,if_true,run_sizeOf' hd,loadCells]
      rw [run_loadCells (P.cellsOf t) 0 #[] (cs.take (P.cellsOf t)) (by rw [List.length_take]; omega) (fun j u hu => by
        rw [List.getElem?_take] at hu
        split at hu
        · rw [Nat.zero_add]; exact hc j u hu
        · simp at hu)]
      simp
    · simp at hp
  split at hp
  · rename_i d hd; exact agg _ hd rfl hp
  · rename_i d hd; exact agg _ hd rfl hp
  · rename_i d h1 h2 hd
    obtain ⟨v,hv,_⟩ := hl.get 0 hp
    refine ⟨v,fun w' hc => ?_⟩
    have ha : aggD d = false := by
      cases d <;> simp only [aggD] <;> first | rfl | (exfalso; first | exact h1 _ rfl | exact h2 _ _ rfl)
    unfold loadVar
    simp only [Sem.run_bind,run_isAgg hd,Result.andThen_ok,ha,Bool.false_eq_true,if_false,run_load]
    have := hc 0 v hv
    rw [Nat.add_zero] at this
    rw [this]
  · simp at hp

theorem operand_slots (l : Sl) (o1 o2 : List (Nat×Nat×Ob)) (x : Operand) : operand ⟨l,o1⟩ x = operand ⟨l,o2⟩ x := by
  cases x <;> rfl
theorem slotFree_det {o : Oper} (h : Rep m w0 st a c) (hs : slotFree P st.still st.s o = true) :
    ∃ v,∀ w' : World,(∀ b,c.ra b → w'.heap[b]? = c.w.heap[b]?) → c.w.heap.size ≤ w'.heap.size → (execOp a.eval o).run P w' = .ok (.value v) w' := by
  simp only [slotFree,Bool.or_eq_true,Bool.and_eq_true] at hs
  rcases hs with hs | ⟨hs,hps⟩
  · split at hs
    · rename_i p hp
      obtain ⟨v,hv,hr⟩ := pureOp_sound (h.elsewhere (fun _ _ => rfl) (Nat.le_refl _)) hp
      refine ⟨v,fun w' hm hsz => ?_⟩
      obtain ⟨v',hv',hr'⟩ := pureOp_sound (h.elsewhere hm hsz) hp
      have : v' = v := by
        cases p <;> simp only [PV.det] at hs <;> try (simp at hs; done)
        all_goals simp only [RepV] at hr hr'
        · rw [hr.1,hr'.1]
        · rw [hr,hr']
        · rw [hr,hr']
        · rw [hr.1,hr'.1]
      rw [hv',this]
    · simp at hs
  · obtain ⟨p,hp⟩ := Option.isSome_iff_exists.1 hps
    · unfold cptrOp at hs
      have key : ∀ x : Operand,(match operand ⟨st.s,[]⟩ x with | .cptr _ => true | _ => false) = true → ∃ cl b off cs,operand ⟨st.s,[]⟩ x = .cptr cl ∧ a.eval x = .pointer (some ⟨b,off,none⟩) ∧ c.ra b ∧ RepL c cl cs ∧
          ∀ (i : Nat) (u : Value),cs[i]? = some u → c.w.cell? ⟨b,off + i,none⟩ = some u := by
        intro x hx
        have hr := operand_rep h x
        rw [operand_slots st.s st.o [] x] at hr
        split at hx
        · rename_i cl hcl
          rw [hcl] at hr
          simp only [RepV] at hr
          obtain ⟨b,off,cs,h1,h2,h3,h4⟩ := hr
          exact ⟨cl,b,off,cs,hcl,h1,h2,h3,h4⟩
        · simp at hx
      obtain ⟨dst,op,type,pos,after,guard⟩ := o
      cases op <;> simp only at hs <;> try (simp at hs; done)
      case load t x =>
        obtain ⟨cl,b,off,cs,h1,h2,h3,h4,h5⟩ := key x hs
        simp only [pureOp,h1,St.cellsAt] at hp
        obtain ⟨v,hv⟩ := loadVar_all (b := b) (off := off) h4 hp
        refine ⟨v,fun w' hm hsz => ?_⟩
        have := hv w' (fun i u hu => by rw [cell_of (hm b h3)]; exact h5 i u hu)
        simp only [execOp,Sem.run_bind,h2,Instr.loadAt,Instr.sureAddr,Sem.run_pure,Result.andThen_ok,this]
      case fieldAddr t x i =>
        obtain ⟨cl,b,off,cs,h1,h2,h3,h4,h5⟩ := key x hs
        simp only [pureOp] at hp
        split at hp
        · rename_i f hf
          obtain ⟨fs,hfs,hf⟩ := fieldOf_run hf
          split at hp
          · simp at hp
          · rename_i hne
            exact ⟨.pointer (some ⟨b,off + f.offset,none⟩),fun w' _ _ => by
              simp only [execOp,Sem.run_bind,h2,Instr.fieldAt,run_underlying_some hfs,Result.andThen_ok,hf,Instr.sureAddr,Sem.run_pure,fieldPlace,run_sizeOf hne,hne,if_false,add_eq]⟩
        · simp at hp
      case nilCheck x =>
        obtain ⟨cl,b,off,cs,h1,h2,h3,h4,h5⟩ := key x hs
        exact ⟨.pointer (some ⟨b,off,none⟩),fun w' _ _ => by simp only [execOp,h2]; rfl⟩

theorem wpAnyH_mono {md : Region.Mode} {ops : Array Oper} {S S' : World → Prop} (hS : ∀ w,S' w → S w) : ∀ (fuel : Nat) (listed : Array Bool) (a : Act) (w : World),wpAnyH P md ops Q S' fuel listed a w → wpAnyH P md ops Q S fuel listed a w
  | 0,_,_,_,h => h
  | fuel + 1,_,_,_,h => ⟨h.1,fun i hi => wpOp_mono (fun a' w' h' => ⟨hS _ h'.1,wpAnyH_mono hS fuel _ a' w' h'.2⟩) (h.2 i hi)⟩

def Mine (c : Cx) (b : Nat) : Prop := (∃ k,Owns c k ∧ c.ρ k = b) ∨ c.q b
theorem Rep.here (h : Rep m w0 st a c) : Rep ⟨Mine c,c.ok,c.pin,c.a⟩ c.w st a c :=
  ⟨h.size,h.slots,h.defers,h.ob,h.objs,h.apart,fun k hk => ⟨(h.mine k hk).1,.inr (.inl ⟨k,hk,rfl⟩),(h.mine k hk).2.2⟩,h.ok,Kept.refl _ _,fun _ hb => hb,fun _ hb => .inl hb,rfl,rfl,
    fun b hb => ⟨h.zlt (.inl (.inr hb)),fun hh => hh.elim (fun ⟨k,hk,e⟩ => h.mineZ hk (e ▸ .inl (.inr hb))) (fun hq => (h.q b hq).2.2.2.1 (.inr hb))⟩,
    fun b hb => ⟨.inr (.inr hb),(h.q b hb).2⟩⟩
theorem Mine.to (h : Rep m w0 st a c) {b : Nat} (hb : Mine c b) : w0.heap.size ≤ b ∨ m.w b := by
  rcases hb with ⟨k,hk,rfl⟩ | hb
  · exact (h.mine k hk).2.1
  · exact (h.q b hb).1
theorem Kept.from (h : Rep m w0 st a c) {w : World} (k : Kept (Mine c) c.w w) : Kept m.w w0 w :=
  ⟨k.os.trans h.kept.os,k.tape.trans h.kept.tape,k.output.trans h.kept.output,Nat.le_trans h.kept.size k.size,fun b hb hm => by
    rw [k.block b (Nat.lt_of_lt_of_le hb h.kept.size),h.kept.block b hb hm]
    intro hh
    rcases Mine.to h hh with this | this
    · omega
    · exact hm this⟩
theorem Rep.there (h : Rep m w0 st a c) {st' : St} {a' : Act} {c' : Cx} (h' : Rep ⟨Mine c,c.ok,c.pin,c.a⟩ c.w st' a' c') : Rep m w0 st' a' c' := by
  have tr : ∀ b,c.w.heap.size ≤ b ∨ Mine c b → w0.heap.size ≤ b ∨ m.w b := fun b hb => hb.elim (fun hb => .inl (Nat.le_trans h.kept.size hb)) (Mine.to h)
  exact ⟨h'.size,h'.slots,h'.defers,h'.ob,h'.objs,h'.apart,fun k hk => ⟨(h'.mine k hk).1,tr _ (h'.mine k hk).2.1,(h'.mine k hk).2.2⟩,h'.ok,Kept.from h h'.kept,fun b hb => h'.old b (h.old b hb),fun b hb => by
    rcases h'.new b hb with h1 | ⟨h1,h2⟩
    · rcases h.new b h1 with h3 | ⟨h3,h4⟩
      · exact .inl h3
      · refine .inr ⟨h3,h4.of_eq (h'.kept.block b (h.ok b h1) ?_)⟩
        rintro (⟨k,hk,e⟩ | hq)
        · exact (h.mine k hk).1 (e ▸ h1)
        · exact (h.q b hq).2.2.2.1 (.inl h1)
    · exact .inr ⟨tr b h1,h2⟩,h'.pin.trans h.pin,h'.a.trans h.a,h.low,fun b hb => ⟨tr b (h'.q b hb).1,(h'.q b hb).2⟩⟩

theorem allOf_some {R : Type} {f : Nat → Option R} {r : R} : ∀ {l : List Nat},allOf f l = some r → ∀ i ∈ l,f i = some r
  | [],h,_,_ => by simp [allOf] at h
  | [i],h,j,hj => by simp at hj; subst hj; exact h
  | i :: j :: l,h,k,hk => by
    obtain ⟨h1,h2⟩ := both_some (show both (f i) (allOf f (j :: l)) = some r from h)
    rcases List.mem_cons.1 hk with rfl | hk
    · exact h1
    · exact allOf_some h2 k hk

theorem inlOf_call {C : Ctx} {o : Oper} {x : FuncId×List PV} (h : inlOf C st o = some x) : ∃ f args ts,o.op = .call { callee := .value f,args := args,argTypes := ts } := by
  unfold inlOf at h
  split at h
  · rename_i f args ts hop
    exact ⟨f,args,ts,hop⟩
  · simp at h
theorem evOpI_take (C : Ctx) (ops : Array Oper) {o : Oper} (h : memFree o = true ∨ loadFree C.P ops st o = true) : evOpI C ops o st K = evOp C ops o st K := by
  unfold evOpI
  cases hi : inlOf C st o with
  | none => rfl
  | some x =>
    exfalso
    obtain ⟨f,args,ts,hop⟩ := inlOf_call hi
    rcases h with h | h
    · simp [memFree,hop] at h
    · have hs : ∀ s s0 : Sl,slotFree C.P s s0 o = false := fun s s0 => by simp [slotFree,cptrOp,pureOp,hop]
      unfold loadFree at h
      split at h
      · rw [hs] at h; simp at h
      · split at h
        · rw [hs] at h; simp at h
        · simp at h
theorem evOpI_sound {C : Ctx} (hS : C.OwedAt m w0) {ops : Array Oper} (h : Rep m w0 st a c) (hr : evOpI C ops o st K = some r)
    (hK : ∀ st' a' c',K st' = some r → Rep m w0 st' a' c' → next a' c'.w) :
    if Region.wanted o (yielded ops a.tmps) = true then o.wp C.P a c.w next Q else next (a.put o.dst undef) c.w := by
  unfold evOpI at hr
  split at hr
  · rename_i g as hi
    exact inlOp_sound hS hi h hr hK
  · exact evOp_sound hS h hr hK
theorem evAny_sound {C : Ctx} (hS : C.Owed) {ops : Array Oper} (hns : Region.noSelect ops = true) (hQ : ∀ ch a w,¬ Q (.panic ch) a w) :
    ∀ (n : Nat) (listed : List Bool) (st : St) (m : MM) (w0 : World) (a : Act) (c : Cx),C.GlobM m w0 → Rep m w0 st a c → evAny C ops n listed st K = some r →
      (∀ st' a' c',K st' = some r → Rep m w0 st' a' c' → Q .normal a' c'.w) → wpAnyH C.P .any ops Q (Kept m.w w0) n listed.toArray a c.w
  | 0,listed,st,m,w0,a,c,hG,h,hr,hK => by
    unfold evAny at hr
    split at hr
    · rename_i hrd; exact ⟨hrd,hK _ _ _ hr h⟩
    · simp at hr
  | n + 1,listed,st,m,w0,a,c,hG,h,hr,hK => by
    unfold evAny at hr
    split at hr
    · rename_i hrd
      exact wpAnyH_done hrd (hK _ _ _ hr h) _
    · rename_i rs hne
      cases hf : (readyL ops listed).find? (takes C.P ops listed st) with
      | some i =>
        rw [hf] at hr
        simp only at hr
        have hmem := List.mem_of_find?_eq_some hf
        have htk := List.find?_some hf
        unfold takes at htk
        cases hi : ops[i]? with
        | none => rw [hi] at hr; simp at hr
        | some o =>
          rw [hi] at hr htk
          simp only [Bool.and_eq_true,Bool.or_eq_true] at htk hr
          rw [evOpI_take C ops htk.1] at hr
          have hh := h.here
          have hGh : C.GlobM ⟨Mine c,c.ok,c.pin,c.a⟩ c.w := fun g t l hg => hG.at h hg
          have key := evOp_sound (Q := Q) (next := fun a' w' => wpAnyH C.P .any ops Q (Kept (Mine c) c.w) n (listed.set i true).toArray a' w') ⟨hS,hGh⟩ (ops := ops) hh hr (fun st' a' c' hk h' =>
            evAny_sound hS hns hQ n _ st' _ _ a' c' hGh h' hk (fun st2 a2 c2 hk2 h2 => hK _ _ _ hk2 (h.there h2)))
          have hok : ∀ w',Kept (Mine c) c.w w' → ∀ b,c.ra b → w'.heap[b]? = c.w.heap[b]? := fun w' hk b hb => hk.block b (h.zlt (.inl hb)) (by
            rintro (⟨k,hk,rfl⟩ | hq)
            · exact h.mineZ hk (.inl hb)
            · exact (h.q b hq).2.2.2.1 hb)
          have hy : ∃ v,YieldsIf C.P ops (Kept (Mine c) c.w) o v a ∧ wpAnyH C.P .any ops Q (Kept (Mine c) c.w) n (listed.set i true).toArray (a.put o.dst v) c.w := by
            by_cases hw : Region.wanted o (yielded ops a.tmps) = true
            · rw [if_pos hw] at key
              unfold Oper.wp at key
              have fin : ∀ v,(∀ w',Kept (Mine c) c.w w' → (execOp a.eval o).run C.P w' = .ok (.value v) w') → ∃ v,YieldsIf C.P ops (Kept (Mine c) c.w) o v a ∧ wpAnyH C.P .any ops Q (Kept (Mine c) c.w) n (listed.set i true).toArray (a.put o.dst v) c.w := by
                intro v hv
                rw [hv c.w (Kept.refl _ _),Oper.upon_value] at key
                exact ⟨v,.inl ⟨hw,hv⟩,key⟩
              rcases htk.1 with hmf | hlf
              · obtain ⟨s1,s2⟩ := memFree_still (P := C.P) hmf a.eval
                cases hrun : (execOp a.eval o).run C.P c.w with
                | halt x w1 =>
                  rw [hrun] at key
                  cases x <;> simp only [Oper.upon] at key
                  exact absurd key (hQ _ _ _)
                | ok nx w1 =>
                  obtain ⟨v,rfl⟩ := s2 _ _ _ hrun
                  exact fin v (fun w' _ => (s1 _ _ _ hrun).2 w')
              · unfold loadFree at hlf
                cases hg : o.guard with
                | none =>
                  rw [hg] at hlf
                  obtain ⟨v,hv⟩ := slotFree_det h hlf
                  exact fin v (fun w' hk => hv w' (hok w' hk) hk.size)
                | some jw =>
                  obtain ⟨j,wb⟩ := jw
                  rw [hg] at hlf
                  simp only at hlf
                  cases hs : (ops[j]?).bind (·.dst) with
                  | none => rw [hs] at hlf; simp at hlf
                  | some s =>
                    rw [hs] at hlf
                    simp only at hlf
                    have hwant : a.tmps.getD s undef = .bool wb := by
                      simp only [Region.wanted,hg,yielded,hs,Option.bind_some] at hw
                      rw [Array.getD_eq_getD_getElem?]
                      cases ht : a.tmps[s]? with
                      | none => rw [ht] at hw; simp at hw
                      | some x => rw [ht] at hw; cases x <;> simp at hw ⊢; exact hw
                    obtain ⟨v,hv⟩ := slotFree_det (ungd1_rep h hwant) hlf
                    exact fin v (fun w' hk => hv w' (hok w' hk) hk.size)
            · rw [if_neg hw] at key
              exact ⟨undef,.inr ⟨by simpa using hw,rfl⟩,key⟩
          obtain ⟨v,hy,hnx⟩ := hy
          refine wpAnyH_mono (S' := Kept (Mine c) c.w) (fun w hk => Kept.from h hk) _ _ _ _ ?_
          refine wpAnyH_take hi hns htk.2 (by simpa [readyL] using hmem) (fun ch a w hp => absurd hp (hQ _ _ _)) hy (Kept.refl _ _) ?_
          simpa using hnx
      | none =>
        rw [hf] at hr
        simp only at hr
        refine wpAnyH_all rfl (fun he => hne he) (fun i hi => ?_)
        have hri := allOf_some hr i hi
        unfold wpOp
        cases ho : ops[i]? with
        | none => rw [ho] at hri; simp at hri
        | some o =>
          rw [ho] at hri
          simp only at hri ⊢
          have key := evOpI_sound (Q := Q) (next := fun a' w' => Kept m.w w0 w' ∧ wpAnyH C.P .any ops Q (Kept m.w w0) n (listed.set i true).toArray a' w') ⟨hS,hG⟩ (ops := ops) h hri (fun st' a' c' hk h' =>
            ⟨h'.kept,evAny_sound hS hns hQ n _ st' _ _ a' c' hG h' hk hK⟩)
          split
          · rename_i hw; rw [if_pos hw] at key; exact .inl (by simpa using key)
          · rename_i hw; rw [if_neg hw] at key; simpa using key

theorem region_any {C : Ctx} (hm : C.P.follows .mixedOrders = true) (hS : C.Owed) {ops : Array Oper} {id : Nat} (hns : Region.noSelect ops = true) (hQ : ∀ ch a w,¬ Q (.panic ch) a w) (hG : C.GlobM m w0) (h : Rep m w0 st a c)
    (hr : evAny C ops ops.size (List.replicate ops.size false) st K = some r)
    (hK : ∀ st' a' c',K st' = some r → Rep m w0 st' a' c' → Q .normal a' c'.w) : (Code.region id ops true).wp C.P Q a c.w := by
  refine wp_region_held (S := Kept m.w w0) hm ?_
  have h1 := h.world (w1 := { c.w with drawn := c.w.drawn + 1 }) (h.kept.drawn _) (Nat.le_refl _) (fun _ _ => rfl)
  have := evAny_sound hS hns hQ _ _ st m w0 a _ hG h1 hr hK
  simpa using this
end
end Go.Fw
