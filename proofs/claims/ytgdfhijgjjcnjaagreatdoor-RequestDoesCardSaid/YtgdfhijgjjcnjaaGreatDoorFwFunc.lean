/- A function's contract: what the evaluator says of its text. -/
import Derived.Test.YtgdfhijgjjcnjaaGreatDoorFwCode
set_option linter.unusedVariables false
set_option linter.unusedSimpArgs false
namespace Go.Fw

section
variable {P : Program} {m : MM} {w0 : World} {st : St} {a : Act} {c : Cx}

structure Out (m : MM) (w0 : World) (st st' : St) (a : Act) (c c' : Cx) (bs : List Nat) : Prop where
  w : c'.w = c.w
  ok : c'.ok = c.ok
  mv : Mv (fun _ => True) c c'
  ρ : c'.ρ = c.ρ
  rep : Rep m w0 st' a c'
  own : ∀ k,Owns c' k → Owns c k
  nodup : bs.Nodup
  src : ∀ b ∈ bs,∃ k,Owns c k ∧ ¬ Owns c' k ∧ c.ρ k = b
theorem Out.refl (h : Rep m w0 st a c) : Out m w0 st st a c c [] :=
  ⟨rfl,rfl,(.of (fun _ _ => rfl) (fun _ h => h) (fun _ _ => rfl) (fun _ _ => rfl) (fun k t l _ hl => ⟨l,hl,rfl⟩) (fun _ ha => ha) (fun _ hb => hb) (fun hl => hl)),rfl,h,fun _ h => h,List.nodup_nil,by simp⟩
theorem Out.trans {st st1 st2 : St} {c c1 c2 : Cx} {b1 b2 : List Nat} (h0 : Rep m w0 st a c) (h : Out m w0 st st1 a c c1 b1) (k : Out m w0 st1 st2 a c1 c2 b2) : Out m w0 st st2 a c c2 (b1 ++ b2) := by
  refine ⟨k.w.trans h.w,k.ok.trans h.ok,h.mv.trans' k.mv (fun _ h => h),k.ρ.trans h.ρ,k.rep,fun i hi => h.own i (k.own i hi),?_,?_⟩
  · refine List.nodup_append.2 ⟨h.nodup,k.nodup,fun b hb b' hb' he => ?_⟩
    subst he
    obtain ⟨i,i1,i2,i3⟩ := h.src b hb
    obtain ⟨j,j1,j2,j3⟩ := k.src b hb'
    have : i = j := h0.apart i j i1 (h.own j j1) (by rw [i3,← j3,h.ρ])
    subst this
    exact i2 j1
  · intro b hb
    rcases List.mem_append.1 hb with hb | hb
    · obtain ⟨i,i1,i2,i3⟩ := h.src b hb
      exact ⟨i,i1,fun hh => i2 (k.own i hh),i3⟩
    · obtain ⟨i,i1,i2,i3⟩ := k.src b hb
      exact ⟨i,h.own i i1,i2,by rw [← h.ρ]; exact i3⟩

def PV.outy : PV → Bool
  | .int .. | .bool _ | .str _ | .sl .. | .full .. | .nilptr | .nilfn | .nilerr | .mp .. => true
  | _ => false
theorem to_shut {p : PV} {v : Value} (h : RepV c p v) (hp : p.outy = true) : RepV (shut c.w c.ok) p v := by
  cases p <;> simp only [PV.outy] at hp <;> (try (simp at hp; done)) <;> (simp only [RepV,shut] at h ⊢; exact h)

theorem outLeaf_sound (h : Rep m w0 st a c) {p p' : PV} {v : Value} {st' : St} (hv : RepV c p v) (ho : outLeaf st p = some (p',st')) : ∃ c' bs,Out m w0 st st' a c c' bs ∧ ResLeaf c.w c.ok p' v bs := by
  have plain : p.outy = true → (∀ e t l,p ≠ .fresh e t l) → p = p' → st = st' → ∃ c' bs,Out m w0 st st' a c c' bs ∧ ResLeaf c.w c.ok p' v bs := by
    rintro hp hf rfl rfl
    refine ⟨c,[],Out.refl h,?_⟩
    have := to_shut hv hp
    cases p <;> first
      | exact absurd rfl (hf _ _ _)
      | exact ⟨rfl,this⟩
  cases p <;> simp only [outLeaf] at ho <;> try (simp at ho; done)
  all_goals try (simp only [Option.some.injEq,Prod.mk.injEq] at ho; exact plain rfl (by simp) ho.1 ho.2)
  case own k =>
    simp only [RepV] at hv
    cases hob : st.obj k with
    | none => rw [hob] at ho; simp at ho
    | some o =>
      rw [hob] at ho
      cases o <;> simp only at ho <;> try (simp at ho; done)
      case row e t l =>
        simp only [Option.some.injEq,Prod.mk.injEq] at ho
        obtain ⟨rfl,rfl⟩ := ho
        have hob' : c.ob k = some (.row e t l) := by rw [h.ob]; exact hob
        obtain ⟨A,n,q1,q2,q3,q4⟩ := h.objs k _ hob'
        have rep := h.del hob
        have hd : ∀ i,(st.del k).obj i = if i = k then some .gone else st.obj i := by
          intro i
          unfold St.del
          rw [obj_setO]
          by_cases hi : i = k
          · rw [if_pos hi,if_pos hi,hob]; rfl
          · rw [if_neg hi,if_neg hi]
        have base : ∀ bs : List Nat,bs.Nodup → (∀ b ∈ bs,Owns c k ∧ c.ρ k = b) → Out m w0 st (st.del k) a c { c with ob := (st.del k).obj } bs := by
          intro bs hn hb
          have hno : ¬ Owns { c with ob := (st.del k).obj } k := by
            rintro ⟨o,ho,hw⟩
            simp only [hd,if_true,Option.some.injEq] at ho
            subst ho
            exact hw
          refine ⟨rfl,rfl,h.setMv hob c.ok (fun _ _ => rfl) (fun _ hb => hb) (by simp [RowAt]) (by simp),rfl,rep,?_,hn,fun b hb' => ⟨k,(hb b hb').1,hno,(hb b hb').2⟩⟩
          · rintro i ⟨o,ho,hw⟩
            simp only [hd] at ho
            by_cases hi : i = k
            · rw [if_pos hi] at ho
              simp only [Option.some.injEq] at ho
              subst ho
              exact hw.elim
            · rw [if_neg hi] at ho
              exact ⟨o,by rw [h.ob]; exact ho,hw.congr rfl⟩
        by_cases hn : n = 0
        · exact ⟨_,[],base [] List.nodup_nil (by simp),A,n,by rw [hv.1]; exact q1,q2,q3,.inl ⟨hn,rfl⟩⟩
        · rcases q4 with q4 | ⟨q4,cs,q5⟩
          · exact absurd q4 hn
          · refine ⟨_,[c.ρ k],base [c.ρ k] (by simp) (fun b hb => ?_),A,n,by rw [hv.1]; exact q1,q2,q3,.inr ⟨c.ρ k,rfl,q4,cs,q5⟩⟩
            simp only [List.mem_singleton] at hb
            exact ⟨⟨_,hob',A,_,n,q1,hn⟩,hb.symm⟩
      case frow e t l =>
        simp only [Option.some.injEq,Prod.mk.injEq] at ho
        obtain ⟨rfl,rfl⟩ := ho
        obtain ⟨A,n,q1,q2,q3,q4⟩ := h.objs k _ (by rw [h.ob]; exact hob)
        refine ⟨c,[],Out.refl h,rfl,?_⟩
        simp only [RepV]
        exact ⟨A,n,by rw [hv.1]; exact q1,q2,q3,q4⟩
  case full e t l =>
    simp only [RepV] at hv
    obtain ⟨A,q1,q2,q3⟩ := hv
    cases l with
    | nil =>
      simp only [Option.some.injEq,Prod.mk.injEq] at ho
      obtain ⟨rfl,rfl⟩ := ho
      exact ⟨c,[],Out.refl h,A,0,q1,Nat.le_refl _,by omega,.inl ⟨rfl,rfl⟩⟩
    | cons x r =>
      simp only [Option.some.injEq,Prod.mk.injEq] at ho
      obtain ⟨rfl,rfl⟩ := ho
      refine ⟨c,[],Out.refl h,rfl,?_⟩
      simp only [RepV]
      exact ⟨A,_,q1,Nat.le_refl _,q2,q3⟩
theorem Out.move {st' : St} {c' : Cx} {bs : List Nat} (o : Out m w0 st st' a c c' bs) {l : List PV} {vs : List Value} (h : RepL c l vs) : RepL c' l vs := RepL.move o.mv l vs (fun _ _ => trivial) h
theorem outLeaves_sound : ∀ {l l' : List PV} {vs : List Value} {st st' : St} {c : Cx},Rep m w0 st a c → RepL c l vs → outLeaves st l = some (l',st') → ∃ c' bs,Out m w0 st st' a c c' bs ∧ ResL c.w c.ok l' vs bs
  | [],_,vs,st,st',c,h,hl,ho => by
    simp only [outLeaves,Option.some.injEq,Prod.mk.injEq] at ho
    obtain ⟨rfl,rfl⟩ := ho
    exact ⟨c,[],Out.refl h,hl,rfl⟩
  | p :: r,_,vs,st,st',c,h,hl,ho => by
    simp only [RepL] at hl
    obtain ⟨v,r',rfl,hv,hl⟩ := hl
    simp only [outLeaves] at ho
    split at ho
    · rename_i p' st1 h1
      split at ho
      · rename_i r2 st2 h2
        simp only [Option.some.injEq,Prod.mk.injEq] at ho
        obtain ⟨rfl,rfl⟩ := ho
        obtain ⟨c1,b1,o1,e1⟩ := outLeaf_sound h hv h1
        obtain ⟨c2,b2,o2,e2⟩ := outLeaves_sound o1.rep (o1.move hl) h2
        rw [o1.w,o1.ok] at e2
        exact ⟨c2,b1 ++ b2,o1.trans h o2,v,r',b1,b2,rfl,rfl,e1,e2⟩
      · simp at ho
    · simp at ho
theorem outOne_sound (h : Rep m w0 st a c) {p p' : PV} {v : Value} {st' : St} (hv : RepV c p v) (ho : outOne st p = some (p',st')) : ∃ c' bs,Out m w0 st st' a c c' bs ∧ ResOne c.w c.ok p' v bs := by
  unfold outOne at ho
  split at ho
  · rename_i cl
    split at ho
    · rename_i c2 st2 h2
      simp only [Option.some.injEq,Prod.mk.injEq] at ho
      obtain ⟨rfl,rfl⟩ := ho
      simp only [RepV] at hv
      obtain ⟨av,rfl,hl⟩ := hv
      obtain ⟨c',bs,o,e⟩ := outLeaves_sound h hl h2
      exact ⟨c',bs,o,av,rfl,e⟩
    · simp at ho
  · obtain ⟨c',bs,o,e⟩ := outLeaf_sound h hv ho
    refine ⟨c',bs,o,?_⟩
    cases p <;> simp only [outLeaf] at ho <;> try (simp at ho; done)
    all_goals try (simp only [Option.some.injEq,Prod.mk.injEq] at ho; rw [← ho.1] at e ⊢; exact e)
    all_goals split at ho
    all_goals first
      | (simp only [Option.some.injEq,Prod.mk.injEq] at ho; rw [← ho.1] at e ⊢; exact e)
      | simp at ho
theorem outAll_sound : ∀ {l l' : List PV} {vs : List Value} {st st' : St} {c : Cx},Rep m w0 st a c → RepL c l vs → outAll st l = some (l',st') → ∃ c' bs,Out m w0 st st' a c c' bs ∧ ResAll c.w c.ok l' vs bs
  | [],_,vs,st,st',c,h,hl,ho => by
    simp only [outAll,Option.some.injEq,Prod.mk.injEq] at ho
    obtain ⟨rfl,rfl⟩ := ho
    exact ⟨c,[],Out.refl h,hl,rfl⟩
  | p :: r,_,vs,st,st',c,h,hl,ho => by
    simp only [RepL] at hl
    obtain ⟨v,r',rfl,hv,hl⟩ := hl
    simp only [outAll] at ho
    split at ho
    · rename_i p' st1 h1
      split at ho
      · rename_i r2 st2 h2
        simp only [Option.some.injEq,Prod.mk.injEq] at ho
        obtain ⟨rfl,rfl⟩ := ho
        obtain ⟨c1,b1,o1,e1⟩ := outOne_sound h hv h1
        obtain ⟨c2,b2,o2,e2⟩ := outAll_sound o1.rep (o1.move hl) h2
        rw [o1.w,o1.ok] at e2
        exact ⟨c2,b1 ++ b2,o1.trans h o2,v,r',b1,b2,rfl,rfl,e1,e2⟩
      · simp at ho
    · simp at ho

def resRun (tmps : Array Value) : ResultVar → Sem Value
  | .tmp t => pure (tmps.getD t undef)
  | .cell b t => do loadVar t (← asAddr (tmps.getD b undef))
theorem resultPV_sound (h : Rep m w0 st a c) {x : ResultVar} {t : TypeId} {p : PV} (hp : resultPV P st x t = some p) :
    ∃ v,(resRun a.tmps x).run P c.w = .ok v c.w ∧ RepV c p v := by
  cases x with
  | tmp d =>
    simp only [resultPV,Option.some.injEq] at hp
    subst hp
    exact ⟨_,by simp only [resRun,Sem.run_pure],typed_rep (h.slots d).rep t⟩
  | cell b ty =>
    simp only [resultPV] at hp
    split at hp
    · rename_i cl hcl
      obtain ⟨b',off,cs,e1,e2,e3⟩ := cellsAt_rep h (h.slots b).rep hcl
      obtain ⟨v,v1,v2⟩ := loadVar_rep (P := P) e2 e3 hp
      exact ⟨v,by simp only [resRun,e1,asAddr,Sem.run_bind,Sem.run_pure,Result.andThen_ok,v1],v2⟩
    · simp at hp
theorem resultsPV_sound (h : Rep m w0 st a c) : ∀ {rs : List ResultVar} {ts : List TypeId} {ps : List PV},resultsPV P st rs ts = some ps →
    ∃ vs,(rs.mapM (resRun a.tmps)).run P c.w = .ok vs c.w ∧ RepL c ps vs
  | [],_,ps,hr => by
    simp only [resultsPV,Option.some.injEq] at hr
    subst hr
    exact ⟨[],by simp only [List.mapM_nil,Sem.run_pure],rfl⟩
  | x :: rs,ts,ps,hr => by
    simp only [resultsPV] at hr
    split at hr
    · rename_i p q hp hq
      simp only [Option.some.injEq] at hr
      subst hr
      obtain ⟨v,v1,v2⟩ := resultPV_sound (P := P) h hp
      obtain ⟨vs,u1,u2⟩ := resultsPV_sound h hq
      refine ⟨v :: vs,?_,by simp only [RepL]; exact ⟨v,vs,rfl,v2,u2⟩⟩
      simp only [List.mapM_cons,Sem.run_bind,v1,Result.andThen_ok,u1,Sem.run_pure]
    · simp at hr

theorem results_run {fn : Func} {tmps : Array Value} {w : World} {vs : List Value} (h : (fn.results.toList.mapM (resRun tmps)).run P w = .ok vs w) :
    (results fn tmps).run P w = .ok (match vs with | [v] => v | vs => .tuple vs.toArray) w := by
  have h1 : results fn tmps = (do
      let vs ← fn.results.mapM (resRun tmps)
      pure (if h : vs.size = 1 then vs[0] else .tuple vs)) := by
    unfold results
    congr 1
  rw [h1,Array.mapM_eq_mapM_toList]
  simp only [Sem.run_bind,map_eq_pure_bind,h,Result.andThen_ok,Sem.run_pure]
  congr 1
  match vs with
  | [] => rfl
  | [v] => rfl
  | v :: u :: r => simp

theorem outAll_notup {l : List PV} {q : PV} {st st' : St} (h : outAll st l = some ([q],st')) (c : List PV) : q ≠ .tup c := by
  rintro rfl
  cases l with
  | nil => simp [outAll] at h
  | cons p r =>
    simp only [outAll] at h
    split at h
    · rename_i p' st1 h1
      split at h
      · simp only [Option.some.injEq,Prod.mk.injEq,List.cons.injEq] at h
        obtain ⟨⟨rfl,_⟩,_⟩ := h
        unfold outOne at h1
        split at h1
        · split at h1
          · simp at h1
          · simp at h1
        · cases p <;> simp only [outLeaf] at h1 <;> try (simp at h1; done)
          all_goals (split at h1 <;> simp at h1)
      · simp at h
    · simp at h
theorem ResAll.length {w : World} {ok : Nat → Prop} : ∀ {l : List PV} {vs : List Value} {bs : List Nat},ResAll w ok l vs bs → vs.length = l.length
  | [],_,_,⟨h,_⟩ => by rw [h]; rfl
  | _ :: _,_,_,⟨_,_,_,_,h,_,_,h2⟩ => by rw [h,List.length_cons,List.length_cons,ResAll.length h2]
def Weak (p q : PV) : Prop := ∀ (w : World) (ok : Nat → Prop) (v : Value) (bs : List Nat),ResV w ok p v bs → ∃ ad bs2,(ad ++ bs2).Perm bs ∧ ResV w (fun b => ok b ∨ b ∈ ad) q v bs2
theorem empty_rep {c : Cx} {f : Bool} {e : TypeId} {t : Ty} {l : List t.den} {v : Value} (h : RepV c (.asl f e t l) v) (hl : l.isEmpty = true) : RepV c (.sl e t []) v := by
  simp only [RepV] at h ⊢
  obtain ⟨A,n,h1,h2,h3,_⟩ := h
  have : l = [] := List.isEmpty_iff.1 hl
  subst this
  exact ⟨A,n,h1,h2,h3,fun h0 => by simp at h0⟩
theorem emptyC_sound {R : Type} {c : Cx} : ∀ {vs : List PV} {us : List Value} {K : List PV → Option R} {x : R},RepL c vs us → emptyC vs K = some x → ∃ vs',RepL c vs' us ∧ K vs' = some x
  | [],us,K,x,h,hr => ⟨[],h,hr⟩
  | v :: r,us,K,x,h,hr => by
    simp only [RepL] at h
    obtain ⟨u,r',rfl,hv,ht⟩ := h
    have key : ∀ w : PV,RepV c w u → emptyC r (fun r => K (w :: r)) = some x → ∃ vs',RepL c vs' (u :: r') ∧ K vs' = some x := by
      intro w hw hk
      obtain ⟨r2,h1,h2⟩ := emptyC_sound ht hk
      exact ⟨w :: r2,by simp only [RepL]; exact ⟨u,r',rfl,hw,h1⟩,h2⟩
    unfold emptyC at hr
    split at hr
    · obtain ⟨hl,hr⟩ := cond_some hr
      exact key _ (empty_rep hv hl) hr
    · exact key _ hv hr
theorem emptyL_sound {R : Type} {c : Cx} : ∀ {vs : List PV} {us : List Value} {K : List PV → Option R} {x : R},RepL c vs us → emptyL vs K = some x → ∃ vs',RepL c vs' us ∧ K vs' = some x
  | [],us,K,x,h,hr => ⟨[],h,hr⟩
  | v :: r,us,K,x,h,hr => by
    simp only [RepL] at h
    obtain ⟨u,r',rfl,hv,ht⟩ := h
    have key : ∀ w : PV,RepV c w u → emptyL r (fun r => K (w :: r)) = some x → ∃ vs',RepL c vs' (u :: r') ∧ K vs' = some x := by
      intro w hw hk
      obtain ⟨r2,h1,h2⟩ := emptyL_sound ht hk
      exact ⟨w :: r2,by simp only [RepL]; exact ⟨u,r',rfl,hw,h1⟩,h2⟩
    unfold emptyL at hr
    split at hr
    · obtain ⟨hl,hr⟩ := cond_some hr
      exact key _ (empty_rep hv hl) hr
    · simp only [RepV] at hv
      obtain ⟨a,rfl,hl⟩ := hv
      obtain ⟨c2,h1,h2⟩ := emptyC_sound hl hr
      exact key (.agg c2) (by simp only [RepV]; exact ⟨a,rfl,h1⟩) h2
    · exact key _ hv hr
theorem evF_contract {C : Ctx} {R : Type} {dec : PV → Option R} {enc : R → PV} (hdec : ∀ v r,dec v = some r → Weak v (enc r)) (hm : C.P.follows .mixedOrders = true) (hS : C.Sound) {H : Nat → Head} {f : FuncId} {fn : Func} (hf : C.P.funcs[f]? = some fn) {args : List PV} {res : R}
    (hgd : ∀ p ∈ args,p.isGd = false) (hr : evF C H fn args dec = some res) : Contract C.P C.GlobW f args (enc res) := by
  intro w ok oa0 vs hgw hok0 hargs0
  -- what the caller has,and the package variables
  let oa : Nat → Prop := fun b => oa0 b ∨ C.isGlob b
  have hok : ∀ b,ok b ∨ oa b → b < w.heap.size := by
    rintro b (hb | hb | ⟨t,l,hb⟩)
    · exact hok0 b (.inl hb)
    · exact hok0 b (.inr hb)
    · exact (hgw b t l hb).1
  have hargs : RepL (shutA w ok oa) args vs.toList := RepL.move (c := shutA w ok oa0) (c1 := shutA w ok oa) (S := fun _ => True) (.of (fun _ _ => rfl) (fun _ h => h) (fun _ _ => rfl) (fun _ _ => rfl) (fun k t l _ hl => ⟨l,hl,rfl⟩) (fun _ ha => Or.inl ha) (fun _ hb => hb) (fun hl => hl)) _ _ (fun _ _ => trivial) hargs0
  have hG : C.GlobM ⟨fun _ => False,ok,fun _ => [],oa⟩ w := fun g t l hg => ⟨.inr ⟨t,l,hg⟩,hgw g t l hg⟩
  clear hargs0
  unfold evF at hr
  split at hr
  · rename_i code hb
    have hlen := hargs.length
    have R0 : Rep ⟨fun _ => False,ok,fun _ => [],oa⟩ w ⟨Sl.init (args.length + (fn.ntmps - args.length)) args,initO (H 9000000).stay⟩ { tmps := vs ++ Array.replicate (fn.ntmps - vs.size) undef,defers := [] } { shutA w ok oa with ob := St.obj ⟨Sl.init (args.length + (fn.ntmps - args.length)) args,initO (H 9000000).stay⟩ } := by
      have hobj : ∀ k o,St.obj ⟨Sl.init (args.length + (fn.ntmps - args.length)) args,initO (H 9000000).stay⟩ k = some o → o = .live := by
        intro k o ho
        unfold St.obj initO at ho
        cases hl : (H 9000000).stay with
        | nil => rw [hl] at ho; simp [St.findO] at ho
        | cons x y =>
          rw [hl] at ho
          simp only [St.findO] at ho
          cases hb : Nat.beq QK k with
          | true => rw [hb] at ho; simpa using ho.symm
          | false => rw [hb] at ho; simp at ho
      have hrow : ∀ k t l,¬ RowAt (St.obj ⟨Sl.init (args.length + (fn.ntmps - args.length)) args,initO (H 9000000).stay⟩ k) t l := by
        rintro k t l (⟨_,h⟩ | ⟨_,_,h⟩ | ⟨_,_,h⟩) <;> (have := hobj _ _ h; cases this)
      have hsz : vs.size = args.length := by simpa using hlen
      refine ⟨by rw [show (vs ++ Array.replicate (fn.ntmps - vs.size) undef).size = args.length + (fn.ntmps - args.length) by simp [hsz]]; exact Sized.init _ _,fun d => ?_,rfl,fun _ => rfl,fun k o ho => by rw [hobj k o ho]; trivial,fun k k' hk => ?_,fun k hk => ?_,fun b hb => hok b (.inl hb),Kept.refl _ _,fun _ hb => hb,fun _ hb => .inl hb,rfl,rfl,fun b hb => ⟨hok b (.inr hb),id⟩,fun b hb => hb.elim⟩
      · have hg : St.get ⟨Sl.init (args.length + (fn.ntmps - args.length)) args,initO (H 9000000).stay⟩ d = (args[d]?).getD .undef := by
          exact go_init args (by omega) d
        rw [hg]
        cases hd : args[d]? with
        | none => simp [SlotOK,RepV]
        | some p =>
          obtain ⟨v,hv1,hv2⟩ := hargs.get d hd
          simp only [Option.getD_some]
          have : (vs ++ Array.replicate (fn.ntmps - vs.size) undef).getD d undef = v := by
            rw [Array.getD_eq_getD_getElem?,Array.getElem?_append]
            have : d < vs.size := by
              have := (List.getElem?_eq_some_iff.1 hv1).1
              simpa using this
            rw [if_pos this,← Array.getElem?_toList,hv1]
            rfl
          rw [this]
          exact SlotOK.of (RepV.still (c := shutA w ok oa) (c1 := { shutA w ok oa with ob := St.obj ⟨Sl.init (args.length + (fn.ntmps - args.length)) args,initO (H 9000000).stay⟩ }) (fun _ _ => rfl) rfl rfl rfl rfl hrow p v (fun _ b hb => hb) hv2) (ne_gd (hgd p (List.mem_of_getElem? hd)))
      · obtain ⟨o,ho,hw⟩ := hk; rw [hobj k o ho] at hw; exact hw.elim
      · obtain ⟨o,ho,hw⟩ := hk; rw [hobj k o ho] at hw; exact hw.elim
    refine calls_of_wp hf hb (evC_sound (C := { C with marks := (H 4000000).stay }) hm hS H code _ _ res _ _ _ _ _ hG R0 hr ?_ ?_)
    · rintro ch a w' ⟨_,v,ok',bs,he,_⟩
      simp at he
    · intro e st' a' c' hk h'
      have fin : ∀ (e : Ex),(match e with | .exit _ => none | _ => match resultsPV C.P st' fn.results.toList fn.resultTypes.toList with
          | some vs => emptyL vs fun vs => match outAll st' vs with
            | some ([v],_) => dec v
            | some (vs,_) => dec (.tup vs)
            | none => none
          | none => none) = some res → (∀ i,e ≠ .exit i) → ∃ v,(results fn a'.tmps).run C.P c'.w = .ok v c'.w ∧ ∃ v' ok' bs,Ending.returned v = .returned v' ∧ Kept (fun _ => False) w c'.w ∧ (∀ b,ok b → ok' b) ∧ (∀ b,ok' b → b < c'.w.heap.size ∧ (ok b ∨ (w.heap.size ≤ b ∧ Unm c'.w b))) ∧
            ResV c'.w ok' (enc res) v' bs ∧ bs.Nodup ∧ ∀ b ∈ bs,w.heap.size ≤ b ∧ b < c'.w.heap.size ∧ ¬ ok' b := by
        intro e he hne
        have he2 : (match resultsPV C.P st' fn.results.toList fn.resultTypes.toList with
          | some vs => emptyL vs fun vs => match outAll st' vs with
            | some ([v],_) => dec v
            | some (vs,_) => dec (.tup vs)
            | none => none
          | none => none) = some res := by
          cases e with
          | exit i => exact absurd rfl (hne i)
          | normal => exact he
          | ret => exact he
        split at he2
        · rename_i ps hps
          obtain ⟨us,hrun,hus⟩ := resultsPV_sound h' hps
          have hres := results_run hrun
          obtain ⟨ps2,hus,he2⟩ := emptyL_sound hus he2
          have rest : ∀ (c2 : Cx) (st2 : St) (bs : List Nat),Out ⟨fun _ => False,ok,fun _ => [],oa⟩ w st' st2 a' c' c2 bs → Kept (fun _ => False) w c'.w ∧ (∀ b,ok b → c'.ok b) ∧ (∀ b,c'.ok b → b < c'.w.heap.size ∧ (ok b ∨ (w.heap.size ≤ b ∧ Unm c'.w b))) ∧ bs.Nodup ∧ ∀ b ∈ bs,w.heap.size ≤ b ∧ b < c'.w.heap.size ∧ ¬ c'.ok b := by
            intro c2 st2 bs o
            refine ⟨h'.kept,h'.old,fun b hb => ⟨h'.ok b hb,?_⟩,o.nodup,fun b hb => ?_⟩
            · rcases h'.new b hb with h1 | ⟨h1 | h1,h2⟩
              · exact .inl h1
              · exact .inr ⟨h1,h2⟩
              · exact h1.elim
            · obtain ⟨k,k1,_,rfl⟩ := o.src b hb
              obtain ⟨m1,m2,m3⟩ := h'.mine k k1
              refine ⟨?_,m3,m1⟩
              rcases m2 with m2 | m2
              · exact m2
              · exact m2.elim
          have close : ∀ (p : PV) (v : Value) (bs : List Nat),dec p = some res → (∀ b,ok b → c'.ok b) → (∀ b,c'.ok b → b < c'.w.heap.size ∧ (ok b ∨ (w.heap.size ≤ b ∧ Unm c'.w b))) → bs.Nodup → (∀ b ∈ bs,w.heap.size ≤ b ∧ b < c'.w.heap.size ∧ ¬ c'.ok b) → ResV c'.w c'.ok p v bs →
              ∃ ok' bs',(∀ b,ok b → ok' b) ∧ (∀ b,ok' b → b < c'.w.heap.size ∧ (ok b ∨ (w.heap.size ≤ b ∧ Unm c'.w b))) ∧ ResV c'.w ok' (enc res) v bs' ∧ bs'.Nodup ∧ ∀ b ∈ bs',w.heap.size ≤ b ∧ b < c'.w.heap.size ∧ ¬ ok' b := by
            intro p v bs hd r2 r3 r4 r5 hR
            obtain ⟨ad,bs2,hp,hR2⟩ := hdec _ _ hd _ _ _ _ hR
            have hnd := hp.nodup_iff.2 r4
            obtain ⟨n1,n2,n3⟩ := List.nodup_append.1 hnd
            refine ⟨fun b => c'.ok b ∨ b ∈ ad,bs2,fun b hb => .inl (r2 b hb),fun b hb => ?_,hR2,n2,fun b hb => ?_⟩
            · rcases hb with hb | hb
              · exact r3 b hb
              · have := r5 b (hp.mem_iff.1 (List.mem_append_left _ hb))
                exact ⟨this.2.1,.inr ⟨this.1,hR.unm b (hp.mem_iff.1 (List.mem_append_left _ hb))⟩⟩
            · have := r5 b (hp.mem_iff.1 (List.mem_append_right _ hb))
              exact ⟨this.1,this.2.1,fun hh => hh.elim this.2.2 (fun ha => n3 _ ha _ hb rfl)⟩
          split at he2
          · rename_i q st2 ho
            obtain ⟨c2,bs,o,ra⟩ := outAll_sound h' hus ho
            obtain ⟨r1,r2,r3,r4,r5⟩ := rest c2 st2 bs o
            obtain ⟨v,r',b1,b2,rfl,rfl,e1,e2,e3⟩ := ra
            subst e2
            subst e3
            rw [List.append_nil] at r4 r5
            have hnt := outAll_notup ho
            have hR : ResV c'.w c'.ok q v b1 := by
              cases q <;> first
                | exact e1
                | exact absurd rfl (hnt _)
            obtain ⟨ok',bs',z1,z2,z3,z4,z5⟩ := close q v b1 he2 r2 r3 r4 r5 hR
            exact ⟨v,hres,v,ok',bs',rfl,r1,z1,z2,z3,z4,z5⟩
          · rename_i qs st2 hq ho
            obtain ⟨c2,bs,o,ra⟩ := outAll_sound h' hus ho
            obtain ⟨r1,r2,r3,r4,r5⟩ := rest c2 st2 bs o
            have hl := ra.length
            have hres' : (results fn a'.tmps).run C.P c'.w = .ok (.tuple us.toArray) c'.w := by
              rw [hres]
              congr 1
              split
              · simp only [List.length_singleton] at hl
                obtain ⟨q,hq'⟩ := List.length_eq_one_iff.1 hl.symm
                exact absurd hq' (hq q)
              · rfl
            obtain ⟨ok',bs',z1,z2,z3,z4,z5⟩ := close (.tup qs) (.tuple us.toArray) bs he2 r2 r3 r4 r5 ⟨us.toArray,rfl,by simpa using ra⟩
            exact ⟨_,hres',_,ok',bs',rfl,r1,z1,z2,z3,z4,z5⟩
          · simp at he2
        · simp at he2
      cases e with
      | normal => exact ⟨h'.defers,fin .normal hk (by simp)⟩
      | exit i => simp at hk
      | ret => exact ⟨h'.defers,fin .ret hk (by simp)⟩
  · simp at hr
end
end Go.Fw
