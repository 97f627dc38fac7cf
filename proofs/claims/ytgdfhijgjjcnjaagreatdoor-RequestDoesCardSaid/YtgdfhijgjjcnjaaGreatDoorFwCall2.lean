/- A call,carried out. -/
import Derived.Test.YtgdfhijgjjcnjaaGreatDoorFwCall
set_option linter.unusedVariables false
set_option linter.unusedSimpArgs false
namespace Go.Fw
open Go.RowKit (Below)

section
variable {P : Program} {m : MM} {w0 : World} {st : St} {a : Act} {c : Cx} {R : Type} {K : St → Option R} {r : R} {o : Oper} {next : Act → World → Prop} {Q : Exit → Act → World → Prop}

def fz : Ob → Ob
  | .row e t l => .frow e t l
  | .mrow .. => .gone
  | o => o
theorem fz_fz (o : Ob) : fz (fz o) = fz o := by cases o <;> rfl
theorem obj_freeze (st : St) (k i : Nat) : (st.freeze k).obj i = if i = k then (st.obj i).map fz else st.obj i := by
  unfold St.freeze
  by_cases hi : i = k
  · subst hi
    rw [if_pos rfl]
    cases ho : st.obj i with
    | none => simp [ho]
    | some o =>
      cases o <;> simp only [ho,Option.map_some,fz]
      all_goals (rw [obj_setO,if_pos rfl,ho]; rfl)
  · rw [if_neg hi]
    split
    · rw [obj_setO,if_neg hi]
    · rw [obj_setO,if_neg hi]
    · rfl
def InArg (p : PV) (k : Nat) : Prop := (p = .own k ∨ ∃ lo n sz,p = .view k lo n sz) ∨ ∃ l,p = .agg l ∧ .own k ∈ l
def FrozeOk (st : St) (c c1 : Cx) (i : Nat) : Prop := ∀ e t l n,st.obj i = some (.mrow e t l n) → Owns c i → c1.ok (c.ρ i)
theorem FrozeOk.mono {st : St} {c c1 c2 : Cx} {i : Nat} (h : FrozeOk st c c1 i) (hc : ∀ b,c1.ok b → c2.ok b) : FrozeOk st c c2 i := fun e t l n ho hw => hc _ (h e t l n ho hw)
structure Froze (m : MM) (w0 : World) (st st1 : St) (a : Act) (c c1 : Cx) (S : Nat → Prop) : Prop where
  w : c1.w = c.w
  ρ : c1.ρ = c.ρ
  σ : c1.σ = c.σ
  ok : ∀ b,c.ok b → c1.ok b
  rep : Rep m w0 st1 a c1
  s : st1.s = st.s
  ob0 : ∀ i,c.ob i = st.obj i
  obj : ∀ i,st1.obj i = st.obj i ∨ (st1.obj i = (st.obj i).map fz ∧ FrozeOk st c c1 i)
  done : ∀ i,S i → st1.obj i = (st.obj i).map fz
  okm : ∀ i,S i → FrozeOk st c c1 i
theorem Froze.refl (h : Rep m w0 st a c) : Froze m w0 st st a c c (fun _ => False) := ⟨rfl,rfl,rfl,fun _ h => h,h,rfl,h.ob,fun _ => .inl rfl,fun _ h => h.elim,fun _ h => h.elim⟩
theorem map_fz_fz (x : Option Ob) : (x.map fz).map fz = x.map fz := by cases x <;> simp [fz_fz]
theorem Froze.more {st1 : St} {c1 : Cx} {S : Nat → Prop} (h : Froze m w0 st st1 a c c1 S) (k : Nat) : ∃ c2,Froze m w0 st (st1.freeze k) a c c2 (fun i => S i ∨ i = k) := by
  obtain ⟨c2,e1,e2,e3,e4,rep,hmv,hmo⟩ := h.rep.freeze k
  have hk : FrozeOk st c c2 k := by
    rcases h.obj k with h1 | ⟨_,h2⟩
    · intro e t l n ho hw
      have ho1 : st1.obj k = some (.mrow e t l n) := by rw [h1]; exact ho
      have hw1 : Owns c1 k := by
        refine ⟨_,by rw [h.rep.ob]; exact ho1,?_⟩
        obtain ⟨o',ho',hw'⟩ := hw
        have ho2 : c.ob k = some (.mrow e t l n) := by
          have := h.obj k
          rw [h.ob0]; exact ho
        rw [ho2] at ho'
        cases ho'
        obtain ⟨A,x,y,q1,q2⟩ := hw'
        exact ⟨A,x,y,by rw [h.σ]; exact q1,q2⟩
      have := hmo e t l n ho1 hw1
      rw [h.ρ] at this; exact this
    · exact h2.mono e4
  refine ⟨c2,e1.trans h.w,e2.trans h.ρ,e3.trans h.σ,fun b hb => e4 b (h.ok b hb),rep,?_,h.ob0,fun i => ?_,fun i hi => ?_,fun i hi => ?_⟩
  · rw [← h.s]; unfold St.freeze; split <;> rfl
  · rw [obj_freeze]
    by_cases hi : i = k
    · rw [if_pos hi]
      subst hi
      rcases h.obj i with h1 | ⟨h1,h2⟩ <;> rw [h1]
      · exact .inr ⟨rfl,hk⟩
      · exact .inr ⟨map_fz_fz _,hk⟩
    · rw [if_neg hi]; exact (h.obj i).imp_right fun ⟨h1,h2⟩ => ⟨h1,h2.mono e4⟩
  · rw [obj_freeze]
    by_cases hik : i = k
    · rw [if_pos hik]
      rcases h.obj i with h1 | ⟨h1,_⟩ <;> rw [h1]
      exact map_fz_fz _
    · rw [if_neg hik]
      rcases hi with hi | hi
      · exact h.done i hi
      · exact absurd hi hik
  · rcases hi with hi | hi
    · exact (h.okm i hi).mono e4
    · subst hi; exact hk
theorem Froze.weaken {st1 : St} {c1 : Cx} {S S' : Nat → Prop} (h : Froze m w0 st st1 a c c1 S) (hs : ∀ i,S' i → S i) : Froze m w0 st st1 a c c1 S' :=
  ⟨h.w,h.ρ,h.σ,h.ok,h.rep,h.s,h.ob0,h.obj,fun i hi => h.done i (hs i hi),fun i hi => h.okm i (hs i hi)⟩
theorem froze1 {st1 : St} {c1 : Cx} {S : Nat → Prop} (h : Froze m w0 st st1 a c c1 S) (p : PV) : ∃ c2,Froze m w0 st (freeze1 st1 p) a c c2 (fun i => S i ∨ InArg p i) := by
  have leaf : ∀ (l : List PV) (st1 : St) (c1 : Cx) (S : Nat → Prop),Froze m w0 st st1 a c c1 S → ∃ c2,Froze m w0 st (l.foldl (fun st v => match v with | .own k => st.freeze k | _ => st) st1) a c c2 (fun i => S i ∨ .own i ∈ l) := by
    intro l
    induction l with
    | nil => intro st1 c1 S h; exact ⟨c1,h.weaken (by simp)⟩
    | cons v q ih =>
      intro st1 c1 S h
      rw [List.foldl_cons]
      cases v <;> try (obtain ⟨c2,h2⟩ := ih _ _ _ h; exact ⟨c2,h2.weaken (by simp)⟩)
      rename_i k
      obtain ⟨c2,h2⟩ := h.more k
      obtain ⟨c3,h3⟩ := ih _ _ _ h2
      refine ⟨c3,h3.weaken (fun i hi => ?_)⟩
      rcases hi with hi | hi
      · exact .inl (.inl hi)
      · rcases List.mem_cons.1 hi with hi | hi
        · cases hi; exact .inl (.inr rfl)
        · exact .inr hi
  cases p <;> simp only [freeze1] <;> try exact ⟨c1,h.weaken (fun i hi => by rcases hi with hi | (hi | ⟨_,_,_,hi⟩) | ⟨l,hi,_⟩ <;> first | exact hi | (cases hi))⟩
  case own k =>
    obtain ⟨c2,h2⟩ := h.more k
    exact ⟨c2,h2.weaken (fun i hi => by rcases hi with hi | (hi | ⟨_,_,_,hi⟩) | ⟨l,hi,_⟩ <;> first | exact .inl hi | (cases hi; exact .inr rfl) | cases hi)⟩
  case view k lo n sz =>
    obtain ⟨c2,h2⟩ := h.more k
    exact ⟨c2,h2.weaken (fun i hi => by rcases hi with hi | (hi | ⟨_,_,_,hi⟩) | ⟨l,hi,_⟩ <;> first | exact .inl hi | (cases hi; exact .inr rfl) | cases hi)⟩
  case agg l =>
    obtain ⟨c2,h2⟩ := leaf l st1 c1 S h
    exact ⟨c2,h2.weaken (fun i hi => by rcases hi with hi | (hi | ⟨_,_,_,hi⟩) | ⟨l',hi,hm⟩ <;> first | exact .inl hi | (cases hi; exact .inr hm) | cases hi)⟩
theorem frozeL : ∀ (args : List PV) {st1 : St} {c1 : Cx} {S : Nat → Prop},Froze m w0 st st1 a c c1 S → ∃ c2,Froze m w0 st (args.foldl freeze1 st1) a c c2 (fun i => S i ∨ ∃ p ∈ args,InArg p i)
  | [],st1,c1,S,h => ⟨c1,h.weaken (by simp)⟩
  | p :: q,st1,c1,S,h => by
    obtain ⟨c2,h2⟩ := froze1 h p
    obtain ⟨c3,h3⟩ := frozeL q h2
    rw [List.foldl_cons]
    refine ⟨c3,h3.weaken (fun i hi => ?_)⟩
    rcases hi with hi | ⟨p',hp',hi⟩
    · exact .inl (.inl hi)
    · rcases List.mem_cons.1 hp' with rfl | hp'
      · exact .inl (.inr hi)
      · exact .inr ⟨p',hp',hi⟩

def RowOk (st : St) (c : Cx) (ok2 : Nat → Prop) (k : Nat) : Prop :=
  ∀ e t l,(st.obj k = some (.row e t l) ∨ st.obj k = some (.frow e t l) ∨ ∃ n,st.obj k = some (.mrow e t l n)) → ∃ A n,c.σ k = .slice A l.length n ∧ l.length ≤ n ∧ n ≤ 9223372036854775807 ∧ RowI c.w ok2 t A l
def PV.leafy : PV → Bool
  | .int .. | .bool _ | .str _ | .sl .. | .full .. | .nilptr | .nilfn | .nilerr => true
  | _ => false
theorem RepV.shutA_ {ok2 a2 : Nat → Prop} (hok : ∀ b,c.ok b → ok2 b) {p : PV} {v : Value} (hp : p.leafy = true) (h : RepV c p v) : RepV (shutA c.w ok2 a2) p v := by
  cases p <;> simp only [PV.leafy] at hp <;> try (simp at hp; done)
  case sl e t l =>
    simp only [RepV] at h ⊢
    obtain ⟨A,n,h1,h2,h3,h4⟩ := h
    exact ⟨A,n,h1,h2,h3,h4.move (fun _ _ => rfl) hok⟩
  case full e t l =>
    simp only [RepV] at h ⊢
    obtain ⟨A,h1,h3,h4⟩ := h
    exact ⟨A,h1,h3,h4.move (fun _ _ => rfl) hok⟩
  all_goals
    simp only [RepV] at h ⊢
    exact h
theorem live_ob (h : st.live = true) : st.obj QK = some .live := by
  unfold St.live at h
  split at h
  · assumption
  · simp at h
structure ArgZ (st : St) (c : Cx) (ok2 : Nat → Prop) (isT isM : Bool) : Prop where
  t : isT = true → ∀ b,c.ra b → ok2 b
  q : isM = true → (∀ b,c.q b → ok2 b) ∧ c.ob = st.obj
theorem argRow_rep {ok2 a2 : Nat → Prop} {k : Nat} {v : Value} (hp : RepV c (.own k) v) (hr : RowOk st c ok2 k) {e : TypeId} {t : Ty} {l : List t.den} (ho : st.obj k = some (.row e t l) ∨ st.obj k = some (.frow e t l) ∨ ∃ n,st.obj k = some (.mrow e t l n)) : RepV (shutA c.w ok2 a2) (.sl e t l) v := by
  simp only [RepV] at hp ⊢
  obtain ⟨A,n,h1,h2,h3,h4⟩ := hr e t l ho
  exact ⟨A,n,by rw [hp.1]; exact h1,h2,h3,h4⟩
theorem argA_rep {ok2 a2 : Nat → Prop} {v : Value} {f : Bool} {e : TypeId} {t : Ty} {l : List t.den} (hp : RepV c (.asl f e t l) v) (hz : ∀ b,c.ra b → ok2 b) : RepV (shutA c.w ok2 a2) (.sl e t l) v := by
  simp only [RepV] at hp ⊢
  obtain ⟨A,n,h1,h2,h3,_,h4⟩ := hp
  exact ⟨A,n,h1,h2,h3,h4.move (fun _ _ => rfl) hz⟩
theorem argQ_rep {ok2 a2 : Nat → Prop} {v : Value} {e : TypeId} {t : Ty} {l : List t.den} (hp : RepV c (.qsl e t l) v) (hz : ∀ b,c.q b → ok2 b) (hl : c.ob QK = some .live) : RepV (shutA c.w ok2 a2) (.sl e t l) v := by
  simp only [RepV] at hp ⊢
  obtain ⟨A,n,h1,h2,h3,_,h4⟩ := hp
  exact ⟨A,n,h1,h2,h3,(h4 hl).move (fun _ _ => rfl) hz⟩
theorem argView_rep {ok2 a2 : Nat → Prop} {v : Value} {k lo n sz : Nat} {e : TypeId} {t : Ty} {l : List t.den} (hp : RepV c (.view k lo n sz) v) (hr : RowOk st c ok2 k) (ho : st.obj k = some (.row e t l)) (hs : t.size = sz) : RepV (shutA c.w ok2 a2) (.sl e t (l.drop lo)) v := by
  simp only [RepV] at hp ⊢
  obtain ⟨B,D,h1,h2,A,m',g1,g2,g3,g4,g5⟩ := hp
  obtain ⟨A',n',r1,r2,r3,r4⟩ := hr e t l (.inl ho)
  rw [g1] at r1
  simp only [Value.slice.injEq] at r1
  obtain ⟨r1a,r1b,r1c⟩ := r1
  have hlen : (l.drop lo).length = n := by rw [List.length_drop]; omega
  refine ⟨B,D,by rw [hlen]; exact h1,by omega,by omega,fun h0 => ?_⟩
  have hn : 0 < n := by omega
  obtain ⟨b,off,hA,hb,hc⟩ := r4 (by omega)
  rw [← r1a,g5 hn] at hA
  simp only [Option.some.injEq,Addr.mk.injEq] at hA
  obtain ⟨rfl,rfl,_⟩ := hA
  refine ⟨c.ρ k,lo * sz,h2 hn,hb,fun j x hx => ?_⟩
  rw [List.getElem?_drop] at hx
  obtain ⟨cs,hd,hcell⟩ := hc (lo + j) x hx
  refine ⟨cs,hd,fun i u hu => ?_⟩
  have := hcell i u hu
  have e1 : 0 + (lo + j) * t.size + i = lo * sz + j * t.size + i := by rw [← hs,Nat.add_mul]; omega
  rw [e1] at this; exact this
theorem argLeaf_rep {ok2 a2 : Nat → Prop} (hok : ∀ b,c.ok b → ok2 b) {p p' : PV} {v : Value} (hp : RepV c p v)
    (hrow : ∀ k,(p = .own k ∨ ∃ lo n sz,p = .view k lo n sz) → RowOk st c ok2 k) (h : argPV st p = some p') (hna : ∀ l,p ≠ .agg l) (hz : ArgZ st c ok2 p.hasA p.hasQ) : RepV (shutA c.w ok2 a2) p' v := by
  cases p <;> simp only [argPV] at h <;> try (simp at h; done)
  case view k lo n sz =>
    have hr := hrow k (.inr ⟨lo,n,sz,rfl⟩)
    split at h
    · rename_i e t l ho
      split at h
      · rename_i hs
        simp only [Option.some.injEq] at h
        subst h
        exact argView_rep hp hr ho hs
      · simp at h
    · simp at h
  case own k =>
    have hr := hrow k (.inl rfl)
    split at h
    · rename_i ho
      simp only [Option.some.injEq] at h
      subst h
      exact argRow_rep hp hr (.inl ho)
    · rename_i ho
      simp only [Option.some.injEq] at h
      subst h
      exact argRow_rep hp hr (.inr (.inl ho))
    · rename_i n ho
      simp only [Option.some.injEq] at h
      subst h
      exact argRow_rep hp hr (.inr (.inr ⟨n,ho⟩))
    · simp at h
  case agg l => exact absurd rfl (hna l)
  case asl f e t l =>
    simp only [Option.some.injEq] at h
    subst h
    exact argA_rep hp (hz.t rfl)
  case qsl e t l =>
    obtain ⟨hl,h⟩ := cond_some h
    simp only [Option.some.injEq] at h
    subst h
    obtain ⟨z1,z2⟩ := hz.q rfl
    exact argQ_rep hp z1 (by rw [z2]; exact live_ob hl)
  case ptr k off =>
    cases off with
    | zero =>
      simp only at h
      split at h
      · simp only [Option.some.injEq] at h; subst h; simp [RepV]
      · simp at h
    | succ n => simp at h
  case fn f caps =>
    cases caps with
    | nil =>
      simp only [Option.some.injEq] at h
      subst h
      simp only [RepV,RepL] at hp ⊢
      exact hp
    | cons x y => simp at h
  all_goals
    simp only [Option.some.injEq] at h
    subst h
    exact RepV.shutA_ hok rfl hp
theorem argGo_rep {ok2 a2 : Nat → Prop} (hok : ∀ b,c.ok b → ok2 b) : ∀ {l l' : List PV} {vs : List Value},RepL c l vs → (∀ k,.own k ∈ l → RowOk st c ok2 k) → ArgZ st c ok2 (l.any PV.isT) (l.any PV.isQ) → argPV.go st l = some l' → RepL (shutA c.w ok2 a2) l' vs
  | [],l',vs,hl,_,_,h => by
    simp only [argPV.go,Option.some.injEq] at h
    subst h
    simpa [RepL] using hl
  | p :: q,l',vs,hl,hrow,hz,h => by
    simp only [RepL] at hl
    obtain ⟨v,r',rfl,hv,hr⟩ := hl
    have ih : ∀ l2,argPV.go st q = some l2 → RepL (shutA c.w ok2 a2) l2 r' := fun l2 h2 => argGo_rep hok hr (fun k hk => hrow k (by simp [hk])) ⟨fun ha => hz.t (by rw [List.any_cons,ha,Bool.or_true]),fun ha => hz.q (by rw [List.any_cons,ha,Bool.or_true])⟩ h2
    have fin : ∀ (p' : PV) (l2 : List PV),argPV.go st q = some l2 → p' :: l2 = l' → RepV (shutA c.w ok2 a2) p' v → RepL (shutA c.w ok2 a2) l' (v :: r') := by
      rintro p' l2 h2 rfl h3
      simp only [RepL]
      exact ⟨v,r',rfl,h3,ih l2 h2⟩
    cases p <;> simp only [argPV.go] at h <;> try (simp at h; done)
    case own k =>
      have hrk := hrow k (by simp)
      split at h
      · rename_i ho h1
        simp only [Option.some.injEq] at h
        exact fin _ _ h1 h (argRow_rep hv hrk (.inl ho))
      · rename_i ho h1
        simp only [Option.some.injEq] at h
        exact fin _ _ h1 h (argRow_rep hv hrk (.inr (.inl ho)))
      · rename_i n ho h1
        simp only [Option.some.injEq] at h
        exact fin _ _ h1 h (argRow_rep hv hrk (.inr (.inr ⟨_,ho⟩)))
      · simp at h
    case full e t l =>
      obtain ⟨l2,h2,h3⟩ := Option.map_eq_some_iff.1 h
      refine fin _ _ h2 h3 ?_
      simp only [RepV] at hv ⊢
      obtain ⟨A,g1,g3,g4⟩ := hv
      exact ⟨A,_,g1,Nat.le_refl _,g3,g4.move (fun _ _ => rfl) hok⟩
    case asl f e t l =>
      obtain ⟨l2,h2,h3⟩ := Option.map_eq_some_iff.1 h
      exact fin _ _ h2 h3 (argA_rep hv (hz.t (by simp [PV.isT])))
    case qsl e t l =>
      obtain ⟨hl,h⟩ := cond_some h
      obtain ⟨l2,h2,h3⟩ := Option.map_eq_some_iff.1 h
      obtain ⟨z1,z2⟩ := hz.q (by simp [PV.isQ])
      exact fin _ _ h2 h3 (argQ_rep hv z1 (by rw [z2]; exact live_ob hl))
    all_goals
      obtain ⟨l2,h2,h3⟩ := Option.map_eq_some_iff.1 h
      exact fin _ _ h2 h3 (RepV.shutA_ hok rfl hv)
theorem argPV_rep {ok2 a2 : Nat → Prop} (hok : ∀ b,c.ok b → ok2 b) {p p' : PV} {v : Value} (hp : RepV c p v) (hrow : ∀ k,InArg p k → RowOk st c ok2 k) (hz : ArgZ st c ok2 p.hasA p.hasQ) (h : argPV st p = some p') : RepV (shutA c.w ok2 a2) p' v := by
  by_cases ha : ∃ l,p = .agg l
  · obtain ⟨l,rfl⟩ := ha
    simp only [argPV] at h
    obtain ⟨l2,h2,rfl⟩ := Option.map_eq_some_iff.1 h
    simp only [RepV] at hp ⊢
    obtain ⟨x,rfl,hl⟩ := hp
    exact ⟨x,rfl,argGo_rep hok hl (fun k hk => hrow k (.inr ⟨l,rfl,hk⟩)) hz h2⟩
  · exact argLeaf_rep hok hp (fun k hk => hrow k (.inl hk)) h (fun l hl => ha ⟨l,hl⟩) hz
theorem argsPV_rep {ok2 a2 : Nat → Prop} (hok : ∀ b,c.ok b → ok2 b) : ∀ {l l' : List PV} {vs : List Value},RepL c l vs → (∀ p ∈ l,∀ k,InArg p k → RowOk st c ok2 k) → ArgZ st c ok2 (l.any PV.hasA) (l.any PV.hasQ) → argsPV st l = some l' → RepL (shutA c.w ok2 a2) l' vs
  | [],l',vs,hl,_,_,h => by
    simp only [argsPV,Option.some.injEq] at h
    subst h
    simpa [RepL] using hl
  | p :: q,l',vs,hl,hrow,hz,h => by
    simp only [RepL] at hl
    obtain ⟨v,r',rfl,hv,hr⟩ := hl
    simp only [argsPV] at h
    split at h
    · rename_i p1 r1 h1 h2
      simp only [Option.some.injEq] at h
      subst h
      simp only [RepL]
      exact ⟨v,r',rfl,argPV_rep hok hv (hrow p (by simp)) ⟨fun ha => hz.t (by rw [List.any_cons,ha,Bool.true_or]),fun ha => hz.q (by rw [List.any_cons,ha,Bool.true_or])⟩ h1,argsPV_rep hok hr (fun p hp => hrow p (by simp [hp])) ⟨fun ha => hz.t (by rw [List.any_cons,ha,Bool.or_true]),fun ha => hz.q (by rw [List.any_cons,ha,Bool.or_true])⟩ h2⟩
    · simp at h

theorem tag_rep {w : World} {ok2 a2 : Nat → Prop} {p : PV} {v : Value} (h : RepV (shutA w ok2 a2) p v) (hp : p.leafy = true) : RepV (shutA w (fun _ => False) ok2) p.tag v := by
  cases p <;> simp only [PV.leafy] at hp <;> try (simp at hp; done)
  case sl e t l =>
    simp only [RepV,PV.tag] at h ⊢
    obtain ⟨A,n,h1,h2,h3,h4⟩ := h
    exact ⟨A,n,h1,h2,h3,fun hf => by simp at hf,h4.move (fun _ _ => rfl) (fun b hb => .inr hb)⟩
  case full e t l =>
    simp only [RepV,PV.tag] at h ⊢
    obtain ⟨A,h1,h3,h4⟩ := h
    exact ⟨A,_,h1,Nat.le_refl _,h3,fun hf => by simp at hf,h4.move (fun _ _ => rfl) (fun b hb => .inr hb)⟩
  all_goals
    simp only [RepV,PV.tag] at h ⊢
    exact h
theorem tagGo_rep {w : World} {ok2 a2 : Nat → Prop} : ∀ {l l' : List PV} {vs : List Value},argPV.go st l = some l' → RepL (shutA w ok2 a2) l' vs → RepL (shutA w (fun _ => False) ok2) (l'.map PV.tag) vs
  | [],l',vs,h,hl => by
    simp only [argPV.go,Option.some.injEq] at h
    subst h
    simpa [RepL] using hl
  | p :: q,l',vs,h,hl => by
    have key : ∀ (p' : PV) (l2 : List PV),argPV.go st q = some l2 → p' :: l2 = l' → p'.leafy = true → RepL (shutA w (fun _ => False) ok2) (l'.map PV.tag) vs := by
      rintro p' l2 h2 rfl hk
      simp only [RepL,List.map_cons] at hl ⊢
      obtain ⟨v,r',h3,h4,h5⟩ := hl
      exact ⟨v,r',h3,tag_rep h4 hk,tagGo_rep h2 h5⟩
    cases p <;> simp only [argPV.go] at h <;> try (simp at h; done)
    case own k =>
      split at h
      · rename_i h1
        simp only [Option.some.injEq] at h
        exact key _ _ h1 h rfl
      · rename_i h1
        simp only [Option.some.injEq] at h
        exact key _ _ h1 h rfl
      · rename_i h1
        simp only [Option.some.injEq] at h
        exact key _ _ h1 h rfl
      · simp at h
    case qsl e t l =>
      obtain ⟨hl,h⟩ := cond_some h
      obtain ⟨l2,h2,h3⟩ := Option.map_eq_some_iff.1 h
      exact key _ _ h2 h3 rfl
    all_goals
      obtain ⟨l2,h2,h3⟩ := Option.map_eq_some_iff.1 h
      exact key _ _ h2 h3 rfl
theorem toA_rep {w : World} {ok2 a2 : Nat → Prop} {p p' : PV} {v : Value} (h : argPV st p = some p') (hp : RepV (shutA w ok2 a2) p' v) : RepV (shutA w (fun _ => False) ok2) p'.toA v := by
  have leaf : ∀ e t l,p' = .sl e t l → RepV (shutA w (fun _ => False) ok2) p'.toA v := by
    rintro e t l rfl
    exact tag_rep hp rfl
  cases p <;> simp only [argPV] at h <;> try (simp at h; done)
  case view k lo n sz =>
    split at h
    · split at h
      · simp only [Option.some.injEq] at h
        exact leaf _ _ _ h.symm
      · simp at h
    · simp at h
  case own k =>
    split at h
    · simp only [Option.some.injEq] at h
      exact leaf _ _ _ h.symm
    · simp only [Option.some.injEq] at h
      exact leaf _ _ _ h.symm
    · simp only [Option.some.injEq] at h
      exact leaf _ _ _ h.symm
    · simp at h
  case asl f e t l =>
    simp only [Option.some.injEq] at h
    exact leaf _ _ _ h.symm
  case qsl e t l =>
    obtain ⟨_,h⟩ := cond_some h
    simp only [Option.some.injEq] at h
    exact leaf _ _ _ h.symm
  case sl e t l =>
    simp only [Option.some.injEq] at h
    exact leaf _ _ _ h.symm
  case full e t l =>
    simp only [Option.some.injEq] at h
    subst h
    cases l with
    | nil =>
      simp only [PV.toA,RepV] at hp ⊢
      obtain ⟨A,h1,h3,h4⟩ := hp
      exact ⟨A,h1,h3,fun h0 => by simp at h0⟩
    | cons x r => exact tag_rep (p := .full e t (x :: r)) hp rfl
  case agg l =>
    obtain ⟨l2,h2,rfl⟩ := Option.map_eq_some_iff.1 h
    simp only [RepV,PV.toA] at hp ⊢
    obtain ⟨x,rfl,hl⟩ := hp
    exact ⟨x,rfl,tagGo_rep h2 hl⟩
  case ptr k off =>
    cases off with
    | zero =>
      simp only at h
      split at h
      · simp only [Option.some.injEq] at h; subst h; simp [RepV,PV.toA]
      · simp at h
    | succ n => simp at h
  case fn f caps =>
    cases caps with
    | nil =>
      simp only [Option.some.injEq] at h
      subst h
      simp only [PV.toA,RepV,RepL] at hp ⊢
      exact hp
    | cons x y => simp at h
  all_goals
    simp only [Option.some.injEq] at h
    subst h
    simp only [PV.toA,RepV] at hp ⊢
    exact hp
theorem toAs_rep {w : World} {ok2 a2 : Nat → Prop} : ∀ {l l' : List PV} {vs : List Value},argsPV st l = some l' → RepL (shutA w ok2 a2) l' vs → RepL (shutA w (fun _ => False) ok2) (l'.map PV.toA) vs
  | [],l',vs,h,hl => by
    simp only [argsPV,Option.some.injEq] at h
    subst h
    simpa [RepL] using hl
  | p :: q,l',vs,h,hl => by
    simp only [argsPV] at h
    split at h
    · rename_i p1 r1 h1 h2
      simp only [Option.some.injEq] at h
      subst h
      simp only [RepL,List.map_cons] at hl ⊢
      obtain ⟨v,r',h3,h4,h5⟩ := hl
      exact ⟨v,r',h3,toA_rep h1 h4,toAs_rep h2 h5⟩
    · simp at h

theorem flat1_leaf {w w' : World} {ok ok' : Nat → Prop} {p : PV} {v : Value} {bs : List Nat} (hf : flat1 p = true) (h : ResLeaf w ok p v bs) : ResLeaf w' ok' p v bs ∧ bs = [] := by
  cases p <;> simp only [flat1] at hf <;> try (simp at hf; done)
  all_goals
    obtain ⟨h1,h2⟩ := h
    refine ⟨⟨h1,?_⟩,h1⟩
    simpa [RepV] using h2
theorem flat_list {w w' : World} {ok ok' : Nat → Prop} : ∀ {l : List PV} {vs : List Value} {bs : List Nat},l.all flat1 = true → ResL w ok l vs bs → ResL w' ok' l vs bs ∧ bs = []
  | [],vs,bs,_,h => ⟨h,h.2⟩
  | p :: q,vs,bs,hf,h => by
    simp only [List.all_cons,Bool.and_eq_true] at hf
    obtain ⟨v,r',b1,b2,rfl,rfl,h1,h2⟩ := h
    obtain ⟨g1,rfl⟩ := flat1_leaf (w' := w') (ok' := ok') hf.1 h1
    obtain ⟨g2,rfl⟩ := flat_list (w' := w') (ok' := ok') hf.2 h2
    exact ⟨⟨v,r',[],[],rfl,rfl,g1,g2⟩,rfl⟩
theorem flat_one {w w' : World} {ok ok' : Nat → Prop} {p : PV} {v : Value} {bs : List Nat} (hf : flatO p = true) (h : ResOne w ok p v bs) : ResOne w' ok' p v bs ∧ bs = [] := by
  cases p <;> simp only [ResOne] at h ⊢ <;> simp only [flatO] at hf <;> try exact flat1_leaf hf h
  obtain ⟨x,rfl,hl⟩ := h
  obtain ⟨g1,g2⟩ := flat_list (w' := w') (ok' := ok') hf hl
  exact ⟨⟨x,rfl,g1⟩,g2⟩
theorem flat_all {w w' : World} {ok ok' : Nat → Prop} : ∀ {l : List PV} {vs : List Value} {bs : List Nat},flatL l = true → ResAll w ok l vs bs → ResAll w' ok' l vs bs ∧ bs = []
  | [],vs,bs,_,h => ⟨h,h.2⟩
  | p :: q,vs,bs,hf,h => by
    obtain ⟨v,r',b1,b2,rfl,rfl,h1,h2⟩ := h
    have hfp : flatO p = true ∧ flatL q = true := by simpa [flatL] using hf
    obtain ⟨g1,rfl⟩ := flat_one (w' := w') (ok' := ok') hfp.1 h1
    obtain ⟨g2,rfl⟩ := flat_all (w' := w') (ok' := ok') hfp.2 h2
    exact ⟨⟨v,r',[],[],rfl,rfl,g1,g2⟩,rfl⟩
theorem flat_res {w w' : World} {ok ok' : Nat → Prop} {p : PV} {v : Value} {bs : List Nat} (hf : flat p = true) (h : ResV w ok p v bs) : ResV w' ok' p v bs ∧ bs = [] := by
  cases p <;> simp only [ResV] at h ⊢ <;> simp only [flat] at hf <;> try exact flat_one hf h
  obtain ⟨x,rfl,hl⟩ := h
  obtain ⟨g1,g2⟩ := flat_all (w' := w') (ok' := ok') hf hl
  exact ⟨⟨x,rfl,g1⟩,g2⟩
end
end Go.Fw
