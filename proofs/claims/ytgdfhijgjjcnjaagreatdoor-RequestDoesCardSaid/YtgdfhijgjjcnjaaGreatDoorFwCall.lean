/- Calls: what a function owes,and what its caller has of it. -/
import Derived.Test.YtgdfhijgjjcnjaaGreatDoorFwAct8
set_option linter.unusedVariables false
set_option linter.unusedSimpArgs false
namespace Go.Fw
open Go.RowKit (Below)

def FreshRow (w : World) (ok : Nat → Prop) (e : TypeId) (t : Ty) (l : List t.den) (v : Value) (bs : List Nat) : Prop :=
  ∃ A n,v = .slice A l.length n ∧ l.length ≤ n ∧ n ≤ 9223372036854775807 ∧
    ((n = 0 ∧ bs = []) ∨ ∃ g,bs = [g] ∧ A = some ⟨g,0,none⟩ ∧ ∃ cs : Array Value,Cells w g (some e) cs ∧ cs.size = n * t.size ∧ DatL w ok t l (cs.toList.take (l.length * t.size)) ∧ 0 < t.size)
def shut (w : World) (ok : Nat → Prop) : Cx := { w := w,ok := ok,ρ := fun _ => 0,σ := fun _ => undef,pin := fun _ => [],ob := fun _ => none,a := fun _ => False,q := fun _ => False }
def shutA (w : World) (ok a : Nat → Prop) : Cx := { w := w,ok := ok,ρ := fun _ => 0,σ := fun _ => undef,pin := fun _ => [],ob := fun _ => none,a := a,q := fun _ => False }
def ResLeaf (w : World) (ok : Nat → Prop) : PV → Value → List Nat → Prop
  | .fresh e t l,v,bs => FreshRow w ok e t l v bs
  | p,v,bs => bs = [] ∧ RepV (shut w ok) p v
def ResL (w : World) (ok : Nat → Prop) : List PV → List Value → List Nat → Prop
  | [],vs,bs => vs = [] ∧ bs = []
  | p :: r,vs,bs => ∃ v r' b1 b2,vs = v :: r' ∧ bs = b1 ++ b2 ∧ ResLeaf w ok p v b1 ∧ ResL w ok r r' b2
def ResOne (w : World) (ok : Nat → Prop) : PV → Value → List Nat → Prop
  | .agg c,v,bs => ∃ a,v = .agg a ∧ ResL w ok c a.toList bs
  | p,v,bs => ResLeaf w ok p v bs
def ResAll (w : World) (ok : Nat → Prop) : List PV → List Value → List Nat → Prop
  | [],vs,bs => vs = [] ∧ bs = []
  | p :: r,vs,bs => ∃ v r' b1 b2,vs = v :: r' ∧ bs = b1 ++ b2 ∧ ResOne w ok p v b1 ∧ ResAll w ok r r' b2
def ResV (w : World) (ok : Nat → Prop) : PV → Value → List Nat → Prop
  | .tup c,v,bs => ∃ a,v = .tuple a ∧ ResAll w ok c a.toList bs
  | p,v,bs => ResOne w ok p v bs

theorem ResLeaf.mono {w : World} {ok ok' : Nat → Prop} (ho : ∀ b,ok b → ok' b) {p : PV} {v : Value} {bs : List Nat} (h : ResLeaf w ok p v bs) : ResLeaf w ok' p v bs := by
  have mv : Mv (fun _ => True) (shut w ok) (shut w ok') := (.of (fun _ _ => rfl) (ho) (fun _ _ => rfl) (fun _ _ => rfl) (fun k t l _ hl => ⟨l,hl,rfl⟩) (fun _ ha => ha) (fun _ hb => hb) (fun hl => hl))
  cases p
  case fresh e t l =>
    obtain ⟨A,n,h1,h2,h3,h4⟩ := h
    refine ⟨A,n,h1,h2,h3,?_⟩
    rcases h4 with h4 | ⟨g,g1,g2,cs,g3,g4,g5,g6⟩
    · exact .inl h4
    · exact .inr ⟨g,g1,g2,cs,g3,g4,g5.move (fun _ _ => rfl) ho,g6⟩
  all_goals exact ⟨h.1,RepV.move mv _ _ (fun _ _ => trivial) h.2⟩
theorem ResL.mono {w : World} {ok ok' : Nat → Prop} (ho : ∀ b,ok b → ok' b) : ∀ {l : List PV} {vs : List Value} {bs : List Nat},ResL w ok l vs bs → ResL w ok' l vs bs
  | [],_,_,h => h
  | _ :: _,_,_,⟨v,r',b1,b2,h1,h2,h3,h4⟩ => ⟨v,r',b1,b2,h1,h2,h3.mono ho,ResL.mono ho h4⟩
theorem ResOne.mono {w : World} {ok ok' : Nat → Prop} (ho : ∀ b,ok b → ok' b) {p : PV} {v : Value} {bs : List Nat} (h : ResOne w ok p v bs) : ResOne w ok' p v bs := by
  cases p
  case agg c => obtain ⟨a,h1,h2⟩ := h; exact ⟨a,h1,h2.mono ho⟩
  all_goals (simp only [ResOne] at h ⊢; exact h.mono ho)
theorem ResAll.mono {w : World} {ok ok' : Nat → Prop} (ho : ∀ b,ok b → ok' b) : ∀ {l : List PV} {vs : List Value} {bs : List Nat},ResAll w ok l vs bs → ResAll w ok' l vs bs
  | [],_,_,h => h
  | _ :: _,_,_,⟨v,r',b1,b2,h1,h2,h3,h4⟩ => ⟨v,r',b1,b2,h1,h2,h3.mono ho,ResAll.mono ho h4⟩
theorem ResV.mono {w : World} {ok ok' : Nat → Prop} (ho : ∀ b,ok b → ok' b) {p : PV} {v : Value} {bs : List Nat} (h : ResV w ok p v bs) : ResV w ok' p v bs := by
  cases p
  case tup c => obtain ⟨a,h1,h2⟩ := h; exact ⟨a,h1,h2.mono ho⟩
  all_goals (simp only [ResV] at h ⊢; exact h.mono ho)
def GlobAt (w : World) (g : Nat) (t : Ty) (l : List t.den) : Prop := g < w.heap.size ∧ ∀ (j : Nat) (x : t.den),l[j]? = some x → ∃ c,Dat w (fun _ => False) t x c ∧ ∀ (i : Nat) (u : Value),c[i]? = some u → w.cell? ⟨g,j * t.size + i,none⟩ = some u
theorem GlobAt.move {w w1 : World} {g : Nat} {t : Ty} {l : List t.den} (h : GlobAt w g t l) (hs : w.heap.size ≤ w1.heap.size) (hb : w1.heap[g]? = w.heap[g]?) : GlobAt w1 g t l :=
  ⟨Nat.lt_of_lt_of_le h.1 hs,fun j x hx => by
    obtain ⟨c,h1,h2⟩ := h.2 j x hx
    exact ⟨c,h1.move (fun _ hb => hb.elim) (fun _ hb => hb),fun i u hu => by rw [cell_of hb]; exact h2 i u hu⟩⟩
def Ctx.GlobW (C : Ctx) (w : World) : Prop := ∀ g t l,C.glob g = some ⟨t,l⟩ → GlobAt w g t l
def Ctx.isGlob (C : Ctx) (b : Nat) : Prop := ∃ t l,C.glob b = some ⟨t,l⟩
def Ctx.GlobM (C : Ctx) (m : MM) (w0 : World) : Prop := ∀ g t l,C.glob g = some ⟨t,l⟩ → m.a g ∧ GlobAt w0 g t l
theorem Ctx.GlobM.at {C : Ctx} {m : MM} {w0 : World} {st : St} {a : Act} {c : Cx} (hG : C.GlobM m w0) (h : Rep m w0 st a c) {g : Nat} {t : Ty} {l : List t.den} (hg : C.glob g = some ⟨t,l⟩) : c.a g ∧ GlobAt c.w g t l := by
  obtain ⟨h1,h2⟩ := hG g t l hg
  obtain ⟨h3,h4⟩ := h.low g h1
  exact ⟨by rw [h.a]; exact h1,h2.move h.kept.size (h.kept.block g h3 h4)⟩
theorem Ctx.GlobM.w {C : Ctx} {m : MM} {w0 : World} {st : St} {a : Act} {c : Cx} (hG : C.GlobM m w0) (h : Rep m w0 st a c) : C.GlobW c.w := fun _ _ _ hg => (hG.at h hg).2
def Contract (P : Program) (G : World → Prop) (f : FuncId) (args : List PV) (res : PV) : Prop :=
  ∀ (w : World) (ok a : Nat → Prop) (vs : Array Value),G w → (∀ b,ok b ∨ a b → b < w.heap.size) → RepL (shutA w ok a) args vs.toList →
    Calls P f vs w fun e w' => ∃ v ok' bs,e = .returned v ∧ Kept (fun _ => False) w w' ∧ (∀ b,ok b → ok' b) ∧ (∀ b,ok' b → b < w'.heap.size ∧ (ok b ∨ (w.heap.size ≤ b ∧ Unm w' b))) ∧
      ResV w' ok' res v bs ∧ bs.Nodup ∧ ∀ b ∈ bs,w.heap.size ≤ b ∧ b < w'.heap.size ∧ ¬ ok' b
def Ctx.Owed (C : Ctx) : Prop :=
  (∀ (f : FuncId) (args : List PV) (R : Type) (K : PV → List (List PV) → Option R) (r : R),C.call f args K = some r → ∃ res,Contract C.P C.GlobW f args res ∧ K res [] = some r) ∧
  (∀ (g : FuncId) (as : List PV) (st : St) (R : Type) (K : PV → St → Option R) (r : R),C.inl g as st K = some r → ∀ (m : MM) (w0 : World) (a : Act) (c : Cx) (vs : Array Value),C.GlobM m w0 → Rep m w0 st a c → RepL c as vs.toList →
    Calls C.P g vs c.w fun e w' => ∃ u v st' c',e = .returned u ∧ c'.w = w' ∧ K v st' = some r ∧ Rep m w0 st' a c' ∧ RepV c' v u)

structure Ctx.OwedAt (C : Ctx) (m : MM) (w0 : World) : Prop where
  owed : C.Owed
  glob : C.GlobM m w0
def HasRow (st : St) (i : Nat) : Prop := (∃ e t l,st.obj i = some (.row e t l)) ∨ ∃ e t l n,st.obj i = some (.mrow e t l n)
def Cx.zn (c : Cx) (ta : Bool) : Nat → Prop := bif ta then c.ra else c.ok
section
variable {P : Program} {m : MM} {w0 : World} {st : St} {a : Act} {c : Cx}
structure Free (w0 : World) (c : Cx) (bs : List Nat) : Prop where
  nodup : bs.Nodup
  free : ∀ g ∈ bs,¬ c.za g ∧ w0.heap.size ≤ g ∧ g < c.w.heap.size ∧ ∀ k',Owns c k' → c.ρ k' ≠ g
structure Bound (m : MM) (w0 : World) (st st' : St) (a : Act) (c c' : Cx) (bs : List Nat) : Prop where
  w : c'.w = c.w
  ok : c'.ok = c.ok
  ca : c'.a = c.a
  cq : c'.q = c.q
  rep : Rep m w0 st' a c'
  s : st'.s = st.s
  mv : Mv (HasRow st) c c'
  rows : ∀ i,HasRow st i → HasRow st' i
  own : ∀ k',Owns c' k' → c'.ρ k' ∈ bs ∨ ∃ k'',Owns c k'' ∧ c.ρ k'' = c'.ρ k'
theorem Bound.za {st st' : St} {c c' : Cx} {bs : List Nat} (h : Bound m w0 st st' a c c' bs) : c'.za = c.za := by unfold Cx.za Cx.ra; rw [h.ok,h.ca,h.cq]
theorem Bound.zn {st st' : St} {c c' : Cx} {bs : List Nat} (h : Bound m w0 st st' a c c' bs) (ta : Bool) : c'.zn ta = c.zn ta := by unfold Cx.zn Cx.ra; rw [h.ok,h.ca]
theorem Bound.refl (h : Rep m w0 st a c) : Bound m w0 st st a c c [] :=
  ⟨rfl,rfl,rfl,rfl,h,rfl,(.of (fun _ _ => rfl) (fun _ h => h) (fun _ _ => rfl) (fun _ _ => rfl) (fun k t l _ hl => ⟨l,hl,rfl⟩) (fun _ ha => ha) (fun _ hb => hb) (fun hl => hl)),fun _ h => h,fun k' hk => .inr ⟨k',hk,rfl⟩⟩
theorem Bound.trans {st st1 st2 : St} {c c1 c2 : Cx} {b1 b2 : List Nat} (h : Bound m w0 st st1 a c c1 b1) (k : Bound m w0 st1 st2 a c1 c2 b2) : Bound m w0 st st2 a c c2 (b1 ++ b2) := by
  refine ⟨k.w.trans h.w,k.ok.trans h.ok,k.ca.trans h.ca,k.cq.trans h.cq,k.rep,k.s.trans h.s,?_,fun i hi => k.rows i (h.rows i hi),fun k' hk => ?_⟩
  · exact h.mv.trans' k.mv h.rows
  · rcases k.own k' hk with h1 | ⟨k2,h1,h2⟩
    · exact .inl (List.mem_append_right _ h1)
    · rcases h.own k2 h1 with h3 | ⟨k3,h3,h4⟩
      · exact .inl (List.mem_append_left _ (h2 ▸ h3))
      · exact .inr ⟨k3,h3,h4.trans h2⟩
theorem Free.next {c c1 : Cx} {st st1 : St} {b1 b2 : List Nat} (h : Free w0 c (b1 ++ b2)) (k : Bound m w0 st st1 a c c1 b1) : Free w0 c1 b2 := by
  obtain ⟨n1,n2,n3⟩ := List.nodup_append.1 h.nodup
  refine ⟨n2,fun g hg => ?_⟩
  obtain ⟨f1,f2,f3,f4⟩ := h.free g (List.mem_append_right _ hg)
  refine ⟨by rw [k.za]; exact f1,f2,by rw [k.w]; exact f3,fun k' hk => ?_⟩
  rcases k.own k' hk with h1 | ⟨k2,h1,h2⟩
  · exact n3 _ h1 _ hg
  · rw [← h2]; exact f4 k2 h1
theorem Free.left {c : Cx} {b1 b2 : List Nat} (h : Free w0 c (b1 ++ b2)) : Free w0 c b1 :=
  ⟨(List.nodup_append.1 h.nodup).1,fun g hg => h.free g (List.mem_append_left _ hg)⟩
def BdV (st : St) (p : PV) : Prop := ∀ i,p.refs i = true → HasRow st i
def BdL (st : St) (l : List PV) : Prop := ∀ i,PV.refsL l i = true → HasRow st i

theorem bindLeaf_sound {ta : Bool} (h : Rep m w0 st a c) {k : Nat} {p p' : PV} {v : Value} {bs : List Nat} {st' : St} (hr : ResLeaf c.w (c.zn ta) p v bs) (hf : Free w0 c bs) (hb : bindLeaf ta st k p = some (p',st')) :
    ∃ c',Bound m w0 st st' a c c' bs ∧ RepV c' p' v ∧ BdV st' p' := by
  have plain : (∀ i,p'.refs i = false) → st = st' → bs = [] → RepV c p' v → ∃ c',Bound m w0 st st' a c c' bs ∧ RepV c' p' v ∧ BdV st' p' := by
    rintro hn rfl rfl hv
    exact ⟨c,Bound.refl h,hv,fun i hi => by rw [hn i] at hi; simp at hi⟩
  cases p <;> simp only [bindLeaf] at hb <;> try (simp at hb; done)
  case fresh e t l =>
    split at hb
    · rename_i st1 hn
      simp only [Option.some.injEq,Prod.mk.injEq] at hb
      obtain ⟨rfl,rfl⟩ := hb
      obtain ⟨A,n,q1,q2,q3,q4⟩ := hr
      have fin : ∀ (o : Ob) (g : Nat),st.new k o = some st1 → o ≠ .live → (o = .row e t l ∨ o = .mrow e t l 0) → RepO { w := c.w,ok := c.ok,ρ := fun i => if i = k then g else c.ρ i,σ := fun i => if i = k then v else c.σ i,pin := c.pin,a := c.a,q := c.q,ob := st1.obj } k o →
          (OwnsO { w := c.w,ok := c.ok,ρ := fun i => if i = k then g else c.ρ i,σ := fun i => if i = k then v else c.σ i,pin := c.pin,a := c.a,q := c.q,ob := st1.obj } k o → g ∈ bs) →
          ∃ c',Bound m w0 st st1 a c c' bs ∧ RepV c' (.own k) v ∧ BdV st1 (.own k) := by
        intro o g hn hol hoo hO hw
        obtain ⟨g1,g2,g3,g4,g5,g6⟩ := new_spec hn
        have nok : ∀ i,HasRow st i → i ≠ k := by
          rintro i (⟨e',t',l',hi⟩ | ⟨e',t',l',n',hi⟩) rfl
          · rcases g4 with g4 | g4 <;> rw [g4] at hi <;> simp at hi
          · rcases g4 with g4 | g4 <;> rw [g4] at hi <;> simp at hi
        have rep := h.newObj hn (w1 := c.w) g v h.kept (Nat.le_refl _) (fun _ _ => rfl) hO (fun hh => by
          obtain ⟨f1,f2,f3,f4⟩ := hf.free g (hw hh)
          exact ⟨f1,.inl f2,f3,f4⟩) hol
        have mv := h.newMv hn (w1 := c.w) g v (fun _ _ => rfl) hol
        refine ⟨{ w := c.w,ok := c.ok,ρ := fun i => if i = k then g else c.ρ i,σ := fun i => if i = k then v else c.σ i,pin := c.pin,a := c.a,q := c.q,ob := st1.obj },⟨rfl,rfl,rfl,rfl,rep,g1,mv.sub nok,?_,?_⟩,?_,?_⟩
        · intro i hi
          have hne := nok i hi
          rcases hi with ⟨e',t',l',hi⟩ | ⟨e',t',l',n',hi⟩
          · exact .inl ⟨e',t',l',by rw [g5,if_neg hne]; exact hi⟩
          · exact .inr ⟨e',t',l',n',by rw [g5,if_neg hne]; exact hi⟩
        · rintro k' ⟨o',ho,hw'⟩
          by_cases hk : k' = k
          · subst hk
            simp only [g5,if_true,Option.some.injEq] at ho
            subst ho
            exact .inl (by simpa using hw hw')
          · simp only [g5,if_neg hk] at ho
            exact .inr ⟨k',⟨o',by rw [h.ob]; exact ho,hw'.congr (by simp [hk])⟩,by simp [hk]⟩
        · simp only [RepV]; simp; exact ⟨A,l.length,n,q1⟩
        · intro i hi
          simp only [PV.refs] at hi
          have := beq_true.1 hi
          subst this
          rcases hoo with rfl | rfl
          · exact .inl ⟨e,t,l,by rw [g5,if_pos rfl]⟩
          · exact .inr ⟨e,t,l,0,by rw [g5,if_pos rfl]⟩
      have noown : n = 0 → ∀ (o : Ob),(o = .row e t l ∨ o = .mrow e t l 0) → ¬ OwnsO { w := c.w,ok := c.ok,ρ := fun i => if i = k then 0 else c.ρ i,σ := fun i => if i = k then v else c.σ i,pin := c.pin,a := c.a,q := c.q,ob := st1.obj } k o := by
        rintro hn0 o (rfl | rfl) ⟨_,_,_,hh,hm⟩
        all_goals
          simp only [if_true] at hh
          rw [q1] at hh
          simp only [Value.slice.injEq] at hh
          omega
      cases hta : (ta && !t.flat) with
      | true =>
        rw [hta] at hn
        simp only [cond_true] at hn
        simp only [Bool.and_eq_true] at hta
        rw [hta.1] at q4
        rcases q4 with ⟨hn0,rfl⟩ | ⟨g,rfl,rfl,cs,q5,q6,q7,q8⟩
        · exact fin _ 0 hn (by simp) (.inr rfl) ⟨A,n,by simpa using q1,q2,q3,.inl hn0⟩ (fun hw => absurd hw (noown hn0 _ (.inr rfl)))
        · exact fin _ g hn (by simp) (.inr rfl) ⟨some ⟨g,0,none⟩,n,by simpa using q1,q2,q3,.inr ⟨by simp,cs,by simpa using q5,q6,DatM.zero q7,q8⟩⟩ (fun _ => by simp)
      | false =>
        rw [hta] at hn
        simp only [cond_false] at hn
        rcases q4 with ⟨hn0,rfl⟩ | ⟨g,rfl,rfl,cs,q5,q6,q7,q8⟩
        · exact fin _ 0 hn (by simp) (.inl rfl) ⟨A,n,by simpa using q1,q2,q3,.inl hn0⟩ (fun hw => absurd hw (noown hn0 _ (.inl rfl)))
        · refine fin _ g hn (by simp) (.inl rfl) ⟨some ⟨g,0,none⟩,n,by simpa using q1,q2,q3,.inr ⟨by simp,cs,by simpa using q5,q6,?_,q8⟩⟩ (fun _ => by simp)
          cases ta with
          | false => exact q7
          | true => exact q7.flat (by simpa using hta)
    · simp at hb
  case sl e t l =>
    simp only [Option.some.injEq,Prod.mk.injEq] at hb
    obtain ⟨hb,hb2⟩ := hb
    obtain ⟨hbs,hv⟩ := hr
    cases ta with
    | false =>
      subst hb
      exact plain (fun i => by simp [PV.refs]) hb2 hbs (by simp only [RepV,shut,cond_false] at hv ⊢; exact hv)
    | true =>
      subst hb
      refine plain (fun i => by simp [PV.refs]) hb2 hbs ?_
      simp only [RepV,shut,cond_true] at hv ⊢
      obtain ⟨A,n,k1,k2,k3,k4⟩ := hv
      exact ⟨A,n,k1,k2,k3,fun hf => by simp at hf,k4⟩
  case full e t l =>
    cases ta with
    | true => simp at hb
    | false =>
      simp only [cond_false,Option.some.injEq,Prod.mk.injEq] at hb
      obtain ⟨rfl,hb2⟩ := hb
      obtain ⟨hbs,hv⟩ := hr
      exact plain (fun i => by simp [PV.refs]) hb2 hbs (by simp only [RepV,shut] at hv ⊢; exact hv)
  case mp mt l =>
    cases ta with
    | true => simp at hb
    | false =>
      simp only [cond_false,Option.some.injEq,Prod.mk.injEq] at hb
      obtain ⟨rfl,hb2⟩ := hb
      obtain ⟨hbs,hv⟩ := hr
      exact plain (fun i => by simp [PV.refs]) hb2 hbs (by simp only [RepV,shut] at hv ⊢; exact hv)
  all_goals
    simp only [Option.some.injEq,Prod.mk.injEq] at hb
    obtain ⟨rfl,hb2⟩ := hb
    obtain ⟨hbs,hv⟩ := hr
    exact plain (fun i => by simp [PV.refs]) hb2 hbs (by simp only [RepV] at hv ⊢; exact hv)
theorem bindLeaves_sound {ta : Bool} : ∀ {l l' : List PV} {vs : List Value} {bs : List Nat} {st st' : St} {c : Cx} {k : Nat},Rep m w0 st a c → ResL c.w (c.zn ta) l vs bs → Free w0 c bs → bindLeaves ta st k l = some (l',st') →
    ∃ c',Bound m w0 st st' a c c' bs ∧ RepL c' l' vs ∧ BdL st' l'
  | [],l',vs,bs,st,st',c,k,h,hr,hf,hb => by
    simp only [bindLeaves,Option.some.injEq,Prod.mk.injEq] at hb
    obtain ⟨rfl,rfl⟩ := hb
    obtain ⟨rfl,rfl⟩ := hr
    exact ⟨c,Bound.refl h,by simp [RepL],fun i hi => by simp [PV.refsL] at hi⟩
  | p :: q,l',vs,bs,st,st',c,k,h,hr,hf,hb => by
    obtain ⟨v,r',b1,b2,rfl,rfl,hv,hr⟩ := hr
    simp only [bindLeaves] at hb
    split at hb
    · rename_i v1 st1 h1
      split at hb
      · rename_i r1 st2 h2
        simp only [Option.some.injEq,Prod.mk.injEq] at hb
        obtain ⟨rfl,rfl⟩ := hb
        obtain ⟨c1,B1,hv1,bd1⟩ := bindLeaf_sound h hv hf.left h1
        obtain ⟨c2,B2,hr2,bd2⟩ := bindLeaves_sound B1.rep (by rw [B1.w,B1.zn]; exact hr) (hf.next B1) h2
        refine ⟨c2,B1.trans B2,?_,fun i hi => ?_⟩
        · simp only [RepL]
          exact ⟨v,r',rfl,RepV.move B2.mv _ _ bd1 hv1,hr2⟩
        · simp only [PV.refsL,Bool.or_eq_true] at hi
          rcases hi with hi | hi
          · exact B2.rows i (bd1 i hi)
          · exact bd2 i hi
      · simp at hb
    · simp at hb
theorem bindOne_sound {ta : Bool} (h : Rep m w0 st a c) {k : Nat} {p p' : PV} {v : Value} {bs : List Nat} {st' : St} (hr : ResOne c.w (c.zn ta) p v bs) (hf : Free w0 c bs) (hb : bindOne ta st k p = some (p',st')) :
    ∃ c',Bound m w0 st st' a c c' bs ∧ RepV c' p' v ∧ BdV st' p' := by
  cases p <;> simp only [bindOne] at hb <;> try (simp only [ResOne] at hr; exact bindLeaf_sound h hr hf hb)
  split at hb
  · rename_i l1 st1 h1
    simp only [Option.some.injEq,Prod.mk.injEq] at hb
    obtain ⟨rfl,rfl⟩ := hb
    obtain ⟨x,rfl,hl⟩ := hr
    obtain ⟨c1,B1,hr1,bd1⟩ := bindLeaves_sound h hl hf h1
    exact ⟨c1,B1,by simp only [RepV]; exact ⟨x,rfl,hr1⟩,fun i hi => bd1 i (by simpa [PV.refs] using hi)⟩
  · simp at hb
theorem bindAll_sound {ta : Bool} : ∀ {l l' : List PV} {vs : List Value} {bs : List Nat} {st st' : St} {c : Cx} {k : Nat},Rep m w0 st a c → ResAll c.w (c.zn ta) l vs bs → Free w0 c bs → bindAll ta st k l = some (l',st') →
    ∃ c',Bound m w0 st st' a c c' bs ∧ RepL c' l' vs ∧ BdL st' l'
  | [],l',vs,bs,st,st',c,k,h,hr,hf,hb => by
    simp only [bindAll,Option.some.injEq,Prod.mk.injEq] at hb
    obtain ⟨rfl,rfl⟩ := hb
    obtain ⟨rfl,rfl⟩ := hr
    exact ⟨c,Bound.refl h,by simp [RepL],fun i hi => by simp [PV.refsL] at hi⟩
  | p :: q,l',vs,bs,st,st',c,k,h,hr,hf,hb => by
    obtain ⟨v,r',b1,b2,rfl,rfl,hv,hr⟩ := hr
    simp only [bindAll] at hb
    split at hb
    · rename_i v1 st1 h1
      split at hb
      · rename_i r1 st2 h2
        simp only [Option.some.injEq,Prod.mk.injEq] at hb
        obtain ⟨rfl,rfl⟩ := hb
        obtain ⟨c1,B1,hv1,bd1⟩ := bindOne_sound h hv hf.left h1
        obtain ⟨c2,B2,hr2,bd2⟩ := bindAll_sound B1.rep (by rw [B1.w,B1.zn]; exact hr) (hf.next B1) h2
        refine ⟨c2,B1.trans B2,?_,fun i hi => ?_⟩
        · simp only [RepL]
          exact ⟨v,r',rfl,RepV.move B2.mv _ _ bd1 hv1,hr2⟩
        · simp only [PV.refsL,Bool.or_eq_true] at hi
          rcases hi with hi | hi
          · exact B2.rows i (bd1 i hi)
          · exact bd2 i hi
      · simp at hb
    · simp at hb
theorem bindRes_sound {ta : Bool} (h : Rep m w0 st a c) {d : Nat} {p p' : PV} {v : Value} {bs : List Nat} {st' : St} (hr : ResV c.w (c.zn ta) p v bs) (hf : Free w0 c bs) (hb : bindRes ta st d p = some (p',st')) :
    ∃ c',Bound m w0 st st' a c c' bs ∧ RepV c' p' v ∧ BdV st' p' := by
  cases p <;> simp only [bindRes] at hb <;> try (simp only [ResV] at hr; exact bindOne_sound h hr hf hb)
  split at hb
  · rename_i l1 st1 h1
    simp only [Option.some.injEq,Prod.mk.injEq] at hb
    obtain ⟨rfl,rfl⟩ := hb
    obtain ⟨x,rfl,hl⟩ := hr
    obtain ⟨c1,B1,hr1,bd1⟩ := bindAll_sound h hl hf h1
    exact ⟨c1,B1,by simp only [RepV]; exact ⟨x,rfl,hr1⟩,fun i hi => bd1 i (by simpa [PV.refs] using hi)⟩
  · simp at hb
end
end Go.Fw
