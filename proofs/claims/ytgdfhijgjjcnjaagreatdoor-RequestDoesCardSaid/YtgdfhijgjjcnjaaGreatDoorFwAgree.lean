/- What an operation leaves alone. -/
import Derived.Test.YtgdfhijgjjcnjaaGreatDoorFwRegion
set_option linter.unusedVariables false
set_option linter.unusedSimpArgs false
namespace Go.Fw

def OAgree (o o' : List (Nat×Nat×Ob)) : Prop := ∀ k v x,St.findO o k = some (v,x) → ∃ v' x',St.findO o' k = some (v',x') ∧ v ≤ v' ∧ (v' = v → x' = x)
theorem OAgree.refl (o : List (Nat×Nat×Ob)) : OAgree o o := fun k v x h => ⟨v,x,h,Nat.le_refl _,fun _ => rfl⟩
theorem OAgree.trans {o o1 o2 : List (Nat×Nat×Ob)} (h : OAgree o o1) (k : OAgree o1 o2) : OAgree o o2 := fun i v x hi => by
  obtain ⟨v1,x1,h1,h2,h3⟩ := h i v x hi
  obtain ⟨v2,x2,h4,h5,h6⟩ := k i v1 x1 h1
  exact ⟨v2,x2,h4,Nat.le_trans h2 h5,fun he => by
    have : v1 = v := by omega
    subst this
    rw [h6 he,h3 rfl]⟩
structure Agree (D : List Nat) (st st' : St) : Prop where
  len : ∀ i,st'.s.has i = st.s.has i
  get : ∀ d,d ∉ D → (st.get d).isGd = false → st'.get d = st.get d
  ob : OAgree st.o st'.o
theorem Agree.refl (D : List Nat) (st : St) : Agree D st st := ⟨fun _ => rfl,fun _ _ _ => rfl,OAgree.refl _⟩
theorem Agree.trans {D : List Nat} {st st1 st2 : St} (h : Agree D st st1) (k : Agree D st1 st2) : Agree D st st2 :=
  ⟨fun i => (k.len i).trans (h.len i),fun d hd hg => by rw [k.get d hd (by rw [h.get d hd hg]; exact hg),h.get d hd hg],h.ob.trans k.ob⟩
theorem Agree.mono {D D' : List Nat} {st st1 : St} (h : Agree D st st1) (hD : ∀ d ∈ D,d ∈ D') : Agree D' st st1 :=
  ⟨h.len,fun d hd hg => h.get d (fun hh => hd (hD d hh)) hg,h.ob⟩

structure Obj (st st' : St) : Prop where
  s : st'.s = st.s
  ob : OAgree st.o st'.o
theorem Obj.refl (st : St) : Obj st st := ⟨rfl,OAgree.refl _⟩
theorem Obj.trans {st st1 st2 : St} (h : Obj st st1) (k : Obj st1 st2) : Obj st st2 := ⟨k.s.trans h.s,h.ob.trans k.ob⟩
theorem Obj.setO (st : St) (k : Nat) (o : Ob) : Obj st (st.setO k o) := ⟨rfl,fun i v x hi => by
  unfold St.setO
  simp only [findO_setOL]
  split
  · rename_i h; subst h; rw [hi]; exact ⟨v + 1,o,rfl,by omega,fun h => by omega⟩
  · exact ⟨v,x,hi,Nat.le_refl _,fun _ => rfl⟩⟩
theorem Obj.new {st st1 : St} {k : Nat} {o : Ob} (h : st.new k o = some st1) : Obj st st1 := by
  unfold St.new at h
  cases hc : (st.s.refs k || refsO st.o k || o.refs k) with
  | true => rw [hc] at h; simp at h
  | false =>
    rw [hc] at h
    simp only [cond_false] at h
    split at h
    · rename_i hn
      simp only [Option.some.injEq] at h
      subst h
      refine ⟨rfl,fun i v x hi => ⟨v,x,?_,Nat.le_refl _,fun _ => rfl⟩⟩
      simp only [St.findO]
      cases hb : Nat.beq k i with
      | true => rw [beq_true.1 hb] at hn; rw [hn] at hi; simp at hi
      | false => exact hi
    · simp only [Option.some.injEq] at h
      subst h
      exact Obj.setO _ _ _
    · simp at h
theorem Obj.del (st : St) (k : Nat) : Obj st (st.del k) := Obj.setO _ _ _
theorem Obj.freeze (st : St) (k : Nat) : Obj st (st.freeze k) := by
  unfold St.freeze
  split
  · exact Obj.setO _ _ _
  · exact Obj.setO _ _ _
  · exact Obj.refl _
theorem Obj.plain {st st1 : St} {p q : PV} (h : st.plain p = some (q,st1)) : Obj st st1 := by
  cases p <;> simp only [St.plain] at h <;> try (simp only [Option.some.injEq,Prod.mk.injEq] at h; rw [← h.2]; exact Obj.refl _)
  split at h
  · simp only [Option.some.injEq,Prod.mk.injEq] at h; rw [← h.2]; exact Obj.setO _ _ _
  · simp only [Option.some.injEq,Prod.mk.injEq] at h; rw [← h.2]; exact Obj.refl _
  · simp at h
theorem Obj.plainL : ∀ {l l' : List PV} {st st1 : St},st.plainL l = some (l',st1) → Obj st st1
  | [],_,st,st1,h => by simp only [St.plainL,Option.some.injEq,Prod.mk.injEq] at h; rw [← h.2]; exact Obj.refl _
  | v :: r,_,st,st1,h => by
    simp only [St.plainL] at h
    split at h
    · rename_i h1
      split at h
      · rename_i h2
        simp only [Option.some.injEq,Prod.mk.injEq] at h
        rw [← h.2]
        exact (Obj.plain h1).trans (Obj.plainL h2)
      · simp at h
    · simp at h
theorem Obj.plainX {x : Nat} : ∀ {l l' : List PV} {i : Nat} {st st1 : St},St.plainX x i st l = some (l',st1) → Obj st st1
  | [],_,_,st,st1,h => by simp only [St.plainX,Option.some.injEq,Prod.mk.injEq] at h; rw [← h.2]; exact Obj.refl _
  | v :: r,_,i,st,st1,h => by
    unfold St.plainX at h
    cases hc : (Nat.beq (i + 1) (x % 1048576) || Nat.beq (i + 1) (x / 1048576)) with
    | true =>
      rw [hc] at h
      simp only [cond_true] at h
      split at h
      · rename_i h2
        simp only [Option.some.injEq,Prod.mk.injEq] at h
        rw [← h.2]
        exact Obj.plainX h2
      · simp at h
    | false =>
      rw [hc] at h
      simp only [cond_false] at h
      split at h
      · rename_i h1
        split at h
        · rename_i h2
          simp only [Option.some.injEq,Prod.mk.injEq] at h
          rw [← h.2]
          exact (Obj.plain h1).trans (Obj.plainX h2)
        · simp at h
      · simp at h
theorem Obj.freeze1 (st : St) (p : PV) : Obj st (Fw.freeze1 st p) := by
  cases p <;> simp only [Fw.freeze1] <;> try exact Obj.refl _
  case own k => exact Obj.freeze _ _
  case view k lo n sz => exact Obj.freeze _ _
  case agg c =>
    have : ∀ (l : List PV) (st : St),Obj st (l.foldl (fun st v => match v with | .own k => st.freeze k | _ => st) st) := by
      intro l
      induction l with
      | nil => exact fun st => Obj.refl _
      | cons v r ih =>
        intro st
        simp only [List.foldl_cons]
        refine Obj.trans ?_ (ih _)
        split
        · exact Obj.freeze _ _
        · exact Obj.refl _
    exact this c st
theorem Obj.freezeL : ∀ (l : List PV) (st : St),Obj st (l.foldl Fw.freeze1 st)
  | [],st => Obj.refl _
  | v :: r,st => by simp only [List.foldl_cons]; exact (Obj.freeze1 st v).trans (Obj.freezeL r _)
theorem Obj.bindLeaf {ta : Bool} {st st1 : St} {k : Nat} {p q : PV} (h : bindLeaf ta st k p = some (q,st1)) : Obj st st1 := by
  cases p <;> simp only [Fw.bindLeaf] at h <;> try (simp at h; done)
  all_goals try (simp only [Option.some.injEq,Prod.mk.injEq] at h; rw [← h.2]; exact Obj.refl _)
  case fresh =>
    split at h
    · rename_i hn
      simp only [Option.some.injEq,Prod.mk.injEq] at h
      rw [← h.2]
      exact Obj.new hn
    · simp at h
  all_goals
    cases ta <;> simp only [cond_true,cond_false] at h <;> first
      | (simp at h; done)
      | (simp only [Option.some.injEq,Prod.mk.injEq] at h; rw [← h.2]; exact Obj.refl _)
theorem Obj.bindLeaves {ta : Bool} : ∀ {l l' : List PV} {st st1 : St} {k : Nat},bindLeaves ta st k l = some (l',st1) → Obj st st1
  | [],_,st,st1,k,h => by simp only [Fw.bindLeaves,Option.some.injEq,Prod.mk.injEq] at h; rw [← h.2]; exact Obj.refl _
  | v :: r,_,st,st1,k,h => by
    simp only [Fw.bindLeaves] at h
    split at h
    · rename_i h1
      split at h
      · rename_i h2
        simp only [Option.some.injEq,Prod.mk.injEq] at h
        rw [← h.2]
        exact (Obj.bindLeaf h1).trans (Obj.bindLeaves h2)
      · simp at h
    · simp at h
theorem Obj.bindOne {ta : Bool} {st st1 : St} {k : Nat} {p q : PV} (h : bindOne ta st k p = some (q,st1)) : Obj st st1 := by
  unfold Fw.bindOne at h
  split at h
  · split at h
    · rename_i h1
      simp only [Option.some.injEq,Prod.mk.injEq] at h
      rw [← h.2]
      exact Obj.bindLeaves h1
    · simp at h
  · exact Obj.bindLeaf h
theorem Obj.bindAll {ta : Bool} : ∀ {l l' : List PV} {st st1 : St} {k : Nat},bindAll ta st k l = some (l',st1) → Obj st st1
  | [],_,st,st1,k,h => by simp only [Fw.bindAll,Option.some.injEq,Prod.mk.injEq] at h; rw [← h.2]; exact Obj.refl _
  | v :: r,_,st,st1,k,h => by
    simp only [Fw.bindAll] at h
    split at h
    · rename_i h1
      split at h
      · rename_i h2
        simp only [Option.some.injEq,Prod.mk.injEq] at h
        rw [← h.2]
        exact (Obj.bindOne h1).trans (Obj.bindAll h2)
      · simp at h
    · simp at h
theorem Obj.bindRes {ta : Bool} {st st1 : St} {d : Nat} {p q : PV} (h : bindRes ta st d p = some (q,st1)) : Obj st st1 := by
  unfold Fw.bindRes at h
  split at h
  · split at h
    · rename_i h1
      simp only [Option.some.injEq,Prod.mk.injEq] at h
      rw [← h.2]
      exact Obj.bindAll h1
    · simp at h
  · exact Obj.bindOne h

theorem Obj.apart {st st1 : St} (h : st.apart = some st1) : Obj st st1 := by
  unfold St.apart at h
  cases hl : st.live with
  | true => rw [hl] at h; simp only [cond_true,Option.some.injEq] at h; rw [← h]; exact Obj.refl _
  | false => rw [hl] at h; simp at h

section
variable {R : Type} {K K' : St → Option R} {st : St} {o : Oper}
def Same (st : St) (d : Option Nat) (K K' : St → Option R) : Prop := ∀ st1 v,Obj st st1 → K (st1.put d v) = K' (st1.put d v)

theorem callOp_congr (C : Ctx) (f : FuncId) (args : List PV) (h : Same st o.dst K K') : callOp C f args o.dst st K = callOp C f args o.dst st K' := by
  unfold callOp
  split
  · rename_i as d has hd
    congr 1
    funext r _
    have fin : ∀ st1 v,Obj st st1 → K (st1.set d v) = K' (st1.set d v) := fun st1 v ho => by have := h st1 v ho; rw [hd] at this; exact this
    congr 1
    · split
      · rename_i hs
        exact fin _ _ (Obj.apart hs)
      · rfl
    · congr 1
      · split
        · rename_i v st1 hb
          exact fin _ _ (Obj.bindRes hb)
        · rfl
      · congr 1
        split
        · rename_i v st1 hb
          exact fin _ _ (Obj.trans (Obj.freezeL _ _) (Obj.bindRes hb))
        · rfl
  · rfl
theorem newBox_congr {c : List PV} {d : Nat} (hd : o.dst = some d) (h : Same st o.dst K K') : newBox c d st K = newBox c d st K' := by
  unfold newBox
  split
  · rename_i st1 hn
    have := h st1 (.ptr (4096 * d) 0) (Obj.new hn)
    rw [hd] at this
    exact this
  · rfl
theorem storeOp_congr {P : Program} {t : TypeId} {ad v : PV} (h : Same st o.dst K K') : storeOp P t ad v st (fun st => K (st.put o.dst .undef)) = storeOp P t ad v st (fun st => K' (st.put o.dst .undef)) := by
  unfold storeOp
  split
  · split
    · split
      · split
        · exact h _ _ (Obj.setO _ _ _)
        · rfl
      · rfl
    · split
      · rename_i hp
        split
        · split
          · split
            · exact h _ _ ((Obj.plainL hp).trans (Obj.setO _ _ _))
            · rfl
          · rfl
        · split
          · split
            · exact h _ _ ((Obj.plainL hp).trans (Obj.setO _ _ _))
            · rfl
          · rfl
        · split
          · split
            · congr 1
              exact h _ _ ((Obj.plainL hp).trans (Obj.setO _ _ _))
            · rfl
          · rfl
        · rfl
      · rfl
    · congr 1
      split
      · split
        · exact h _ _ (Obj.refl _)
        · rfl
      · split
        · exact h _ _ (Obj.refl _)
        · rfl
      · rfl
    · rfl
  · rfl
theorem appendOp_congr {P : Program} {e : TypeId} {b x : PV} (h : Same st o.dst K K') : appendOp P e b x o.dst st K = appendOp P e b x o.dst st K' := by
  unfold appendOp
  split
  · rename_i d t z hd _
    have fin : ∀ st1 v,Obj st st1 → K (st1.set d v) = K' (st1.set d v) := fun st1 v ho => by have := h st1 v ho; rw [hd] at this; exact this
    split
    · split
      · split
        · split
          · congr 1
            split
            · rename_i hn
              exact fin _ _ ((Obj.del _ _).trans (Obj.new (newNum_spec hn)))
            · rfl
          · rfl
        · rfl
      · rfl
    · split
      · congr 1
        congr 1
        split
        · rename_i hn
          exact fin _ _ (Obj.new (newNum_spec hn))
        · rfl
      · rfl
    · rfl
  · rfl
theorem appendA_congr {P : Program} {e : TypeId} {b x : PV} (h : Same st o.dst K K') : appendA P e b x o.dst st K = appendA P e b x o.dst st K' := by
  unfold appendA
  split
  · rename_i d t z hd _
    have fin : ∀ st1 v,Obj st st1 → K (st1.set d v) = K' (st1.set d v) := fun st1 v ho => by have := h st1 v ho; rw [hd] at this; exact this
    congr 1
    split
    · split
      · split
        · split
          · split
            · congr 1
              split
              · rename_i hn
                exact fin _ _ ((Obj.del _ _).trans (Obj.new (newNum_spec hn)))
              · rfl
            · rfl
          · rfl
        · split
          · split
            · congr 1
              split
              · rename_i hn
                exact fin _ _ ((Obj.del _ _).trans (Obj.new (newNum_spec hn)))
              · rfl
            · rfl
          · rfl
        · rfl
      · rfl
    · split
      · split
        · congr 1
          congr 1
          split
          · rename_i hn
            exact fin _ _ (Obj.new (newNum_spec hn))
          · rfl
        · rfl
      · rfl
    · split
      · split
        · congr 1
          congr 1
          split
          · rename_i hn
            exact fin _ _ (Obj.new (newNum_spec hn))
          · rfl
        · rfl
      · rfl
    · rfl
  · rfl
theorem appendAny_congr {P : Program} {e : TypeId} {b x : PV} (h : Same st o.dst K K') : appendAny P e b x o.dst st K = appendAny P e b x o.dst st K' := by
  unfold appendAny
  split
  · rw [appendA_congr h,appendOp_congr h]
  · rfl
theorem pmGo_congr {q : Int} {d : Option Nat} (same : ∀ v,K (st.put d v) = K' (st.put d v)) : ∀ l,pmGo q d st K l = pmGo q d st K' l
  | [] => same _
  | e :: r => by
    unfold pmGo
    rw [same,pmGo_congr same r]
theorem ptrNil_congr {p : PV} {K K' : Bool → Option R} (h : ∀ b,K b = K' b) : ptrNil p K = ptrNil p K' := by
  rw [show K = K' from funext h]
theorem actOp_congr (C : Ctx) (h : Same st o.dst K K') : actOp C o st K = actOp C o st K' := by
  have same : ∀ v,K (st.put o.dst v) = K' (st.put o.dst v) := fun v => h st v (Obj.refl _)
  unfold actOp
  cases hop : o.op <;> try rfl
  all_goals try simp only
  case lookup t x y ok =>
    congr 1
    · unfold pmGet
      congr 1
      split
      · split
        · exact pmGo_congr same _
        · rfl
      · rfl
    unfold lookupOp
    split
    · split
      · exact same _
      · rfl
    · rfl
  case entry x =>
    unfold entryOp
    split
    · split
      · exact same _
      · rfl
    · rfl
  case next x b =>
    cases b with
    | true => rfl
    | false =>
      simp only
      unfold nextOp
      split
      · split
        · congr 1
          · exact same _
          · congr 1
            funext e r
            exact h _ _ (Obj.setO _ _ _)
        · rfl
      · rfl
  case range t x =>
    unfold rangeOp
    split
    · rename_i hd
      split
      · split
        · rename_i hn
          have hh := fun v => h _ v (Obj.new hn)
          rw [hd] at hh
          exact hh _
        · rfl
      · rfl
    · rename_i hd
      split
      · split
        · split
          · rename_i hn
            have hh := fun v => h _ v ((Obj.del _ _).trans (Obj.new hn))
            rw [hd] at hh
            exact hh _
          · rfl
        · rfl
      · rfl
    · rfl
  case makeMap t r =>
    cases r with
    | none =>
      simp only
      congr 1
      · unfold pmMake
        split
        · rename_i d hd
          split
          · rename_i hn
            have := h _ (.mown (4096 * d)) (Obj.new hn)
            rw [hd] at this
            exact this
          · rfl
        · rfl
      unfold makeMapOp
      split
      · rename_i mt d hmt hd
        split
        · rename_i hn
          have := h _ (.mown (4096 * d)) (Obj.new hn)
          rw [hd] at this
          exact this
        · rfl
      · rfl
    | some r => rfl
  case mapUpdate t x y z =>
    unfold mapUpdateOp
    split
    · split
      · split
        · exact h _ _ (Obj.setO _ _ _)
        · rfl
      · rfl
    · rfl
  case insert t x y z =>
    congr 1
    · unfold pmPut
      split
      · split
        · congr 1
          exact h _ _ (Obj.setO _ _ _)
        · rfl
      · rfl
    unfold mapUpdateOp
    split
    · split
      · split
        · exact h _ _ (Obj.setO _ _ _)
        · rfl
      · rfl
    · rfl
  case pick => simp only [same]
  case binOp => simp only [same]
  case indexAddr => simp only [globAddr,same]
  case index => first | simp only [same] | rfl
  case alloc t =>
    split
    · rename_i d c hd _
      have fin : ∀ st1 v,Obj st st1 → K (st1.set d v) = K' (st1.set d v) := fun st1 v ho => by have := h st1 v ho; rw [hd] at this; exact this
      split
      · split
        · split
          · split
            · rename_i hn
              exact fin _ _ (Obj.new hn)
            · rfl
          · rfl
        · rfl
      · exact newBox_congr hd h
    · rfl
  case box =>
    split
    · rename_i d hd
      split
      · exact newBox_congr hd h
      · congr 1
        exact newBox_congr hd h
    · rfl
  case build => simp only [same]
  case buildSlice t n parts =>
    split
    · rename_i e d he hd
      have fin : ∀ st1 v,Obj st st1 → K (st1.set d v) = K' (st1.set d v) := fun st1 v ho => by have := h st1 v ho; rw [hd] at this; exact this
      split
      · split
        · split
          · split
            · rename_i hp
              split
              · split
                · rename_i hn
                  exact fin _ _ ((Obj.plainL hp).trans (Obj.new hn))
                · rfl
              · split
                · split
                  · rename_i hn
                    exact fin _ _ ((Obj.plainL hp).trans (Obj.new hn))
                  · rfl
                · rfl
            · rfl
          · rfl
        · rfl
      · rfl
    · rfl
  case store => exact storeOp_congr h
  case makeSlice t n c =>
    split
    · rename_i e d _ _ _ hd _ _
      have fin : ∀ st1 v,Obj st st1 → K (st1.set d v) = K' (st1.set d v) := fun st1 v ho => by have := h st1 v ho; rw [hd] at this; exact this
      split
      · congr 1
        split
        · rename_i hn
          exact fin _ _ (Obj.new hn)
        · rfl
      · rfl
    · rfl
  case slice t x lo hi mx =>
    congr 1
    · unfold ownCut
      split
      · rename_i hd _
        split
        · split
          · congr 1
            split
            · rename_i hn
              have hh := fun v => h _ v ((Obj.del _ _).trans (Obj.new hn))
              rw [hd] at hh
              exact hh _
            · rfl
          · rfl
        · rfl
      · rfl
    congr 1
    · unfold viewCut
      split
      · split
        · split
          · simp only [same]
          · rfl
        · rfl
      · rfl
    split
    · rename_i p st1 hp
      have : (fun v => K (st1.put o.dst v)) = fun v => K' (st1.put o.dst v) := funext fun v => h st1 v (Obj.plain hp)
      rw [this]
    · rw [show (fun v => K (st.put o.dst v)) = fun v => K' (st.put o.dst v) from funext same]
  case convert =>
    split
    · first | simp only [same] | rfl
    · first | simp only [same] | rfl
    · split
      · congr 1
        unfold convBytes
        split
        · split
          · congr 1
            exact h _ _ (Obj.setO _ _ _)
          · rfl
        · rfl
      · rfl
    · rfl
  case call c =>
    obtain ⟨callee,args,argTypes⟩ := c
    cases callee with
    | builtin b =>
      cases b <;> try rfl
      all_goals simp only
      case append =>
        split
        · split
          · exact appendAny_congr h
          · exact appendAny_congr h
          · unfold appendZ
            split
            · rename_i hd _
              split
              · congr 1
                split
                · rename_i hn
                  have hh := fun v => h _ v (Obj.new hn)
                  rw [hd] at hh
                  exact hh _
                · rfl
              · rfl
            · rfl
          · rfl
        · rfl
      case clear =>
        split
        · split
          · unfold clearOp
            split
            · split
              · split
                · split
                  · congr 1
                    exact h _ _ (Obj.setO _ _ _)
                  · rfl
                · rfl
              · rfl
            · rfl
          · rfl
        · rfl
      case copy =>
        split
        · split
          · unfold copyOp
            split
            · split
              · split
                · split
                  · congr 1
                    exact h _ _ (Obj.setO _ _ _)
                  · rfl
                · rfl
              · rfl
            · rfl
          · rfl
        · rfl
      case len =>
        split
        · unfold lenMap
          split
          · split
            · congr 1
              exact same _
            · rfl
          · rfl
        · rfl
    | value f =>
      simp only
      split
      · congr 1
        exact callOp_congr C _ _ h
      · rfl
    | invoke _ _ => rfl
end

section
variable {R : Type} {K K' : St → Option R} {st : St} {o : Oper}
theorem Agree.put {D : List Nat} {st st1 : St} (h : Obj st st1) {d : Option Nat} (hd : ∀ x,d = some x → x ∈ D) (v : PV) : Agree D st (st1.put d v) := by
  cases d with
  | none => exact ⟨fun i => by rw [St.put,h.s],fun i _ _ => by simp only [St.put,St.get,h.s],h.ob⟩
  | some d =>
    refine ⟨fun i => by simp only [St.put,St.set,has_set,h.s],fun i hi _ => ?_,h.ob⟩
    have : (St.set st1 d v).get i = if i = d ∧ st1.s.has d = true then v else st1.get i := go_set _ _ _ _
    simp only [St.put]
    rw [this,if_neg (fun hh : i = d ∧ st1.s.has d = true => hi (hh.1 ▸ hd d rfl))]
    simp only [St.get,h.s]
theorem agree_ungd1 {D : List Nat} (st : St) (s : Nat) (w : Bool) : Agree D st ⟨st.s.map (ungd1 s w),st.o⟩ := by
  refine ⟨fun i => has_map _ _ _,fun d _ hg => ?_,OAgree.refl _⟩
  have : (St.get ⟨st.s.map (ungd1 s w),st.o⟩ d) = ungd1 s w (st.get d) := go_map _ rfl _ _
  rw [this]
  cases hp : st.get d <;> rw [hp] at hg <;> simp [ungd1] <;> simp [PV.isGd] at hg
theorem agree_ungd {D : List Nat} (st : St) : Agree D st st.ungd := by
  refine ⟨fun i => has_ungd _ _,fun d _ hg => ?_,OAgree.refl _⟩
  have : (St.get st.ungd d) = Fw.ungd (st.get d) := go_map _ rfl _ _
  rw [this]
  cases hp : st.get d <;> rw [hp] at hg <;> simp [Fw.ungd] <;> simp [PV.isGd] at hg
theorem agree_set {D : List Nat} (st : St) {s : Nat} (hs : s ∈ D) (v : PV) : Agree D st (st.set s v) := Agree.put (Obj.refl st) (d := some s) (fun x hx => by cases hx; exact hs) v

structure Slots (D : List Nat) (ops : Array Oper) (o : Oper) : Prop where
  dst : ∀ x,o.dst = some x → x ∈ D
  guard : ∀ j w,o.guard = some (j,w) → ∀ s,(ops[j]?).bind (·.dst) = some s → s ∈ D
  all : ∀ o' ∈ ops.toList,∀ x,o'.dst = some x → x ∈ D
theorem evForce_congr {D : List Nat} {ops : Array Oper} (hD : ∀ o' ∈ ops.toList,∀ x,o'.dst = some x → x ∈ D) : ∀ (n s : Nat) (_ : s ∈ D) (w : Bool) (st : St) {Ky Ky' Kn Kn' : St → Option R},
    (∀ st',Agree D st st' → Ky st' = Ky' st') → (∀ st',Agree D st st' → Kn st' = Kn' st') → evForce ops n s w st Ky Kn = evForce ops n s w st Ky' Kn'
  | 0,_,_,_,_,_,_,_,_,_,_ => rfl
  | n + 1,s,hs,w,st,Ky,Ky',Kn,Kn',h1,h2 => by
    unfold evForce
    split
    · congr 1
      · exact h1 _ ((agree_set st hs _).trans (agree_ungd1 _ s w))
      · exact h2 _ (agree_set st hs _)
    · rename_i s1 w1 q hq
      cases hb : ops.toList.any (fun o => isGdOf o.dst s1) with
      | false => rfl
      | true =>
        simp only [cond_true]
        obtain ⟨o',ho',hd⟩ := List.any_eq_true.1 hb
        have hs1 : s1 ∈ D := by
          unfold isGdOf at hd
          split at hd
          · rename_i d hdd
            have := beq_true.1 hd
            subst this
            exact hD o' ho' _ hdd
          · simp at hd
        exact evForce_congr hD n s1 hs1 w1 st (fun st1 a1 => evForce_congr hD n s hs w st1 (fun st2 a2 => h1 _ (a1.trans a2)) (fun st2 a2 => h2 _ (a1.trans a2))) h2
    · rfl

theorem evOp_congr (C : Ctx) {D : List Nat} {ops : Array Oper} (hD : Slots D ops o) (h : ∀ st',Agree D st st' → K st' = K' st') : evOp C ops o st K = evOp C ops o st K' := by
  unfold evOp
  congr 1
  split
  · split
    · exact h _ (Agree.put (Obj.refl _) hD.dst _)
    · exact actOp_congr C fun st1 v ho => h _ (Agree.put ho hD.dst v)
  · rename_i j w hg
    split
    · rename_i s hs
      have hsD := hD.guard j w hg s hs
      congr 1
      split
      · exact h _ (Agree.put (Obj.refl _) hD.dst _)
      · exact evForce_congr (D := D) hD.all 6 s hsD w st (fun st1 h1 => actOp_congr C fun st2 v ho => h _ (h1.trans (Agree.put ho hD.dst v))) (fun st1 h1 => h _ (h1.trans (Agree.put (Obj.refl _) hD.dst _)))
    · rfl
def _root_.Go.Fw.Ctx.Fair (C : Ctx) : Prop := ∀ (g : FuncId) (as : List PV) (st : St) (R : Type) (K K' : PV → St → Option R),(∀ v st1,Obj st st1 → K v st1 = K' v st1) → C.inl g as st K = C.inl g as st K'
def _root_.Go.Fw.Ctx.Sound (C : Ctx) : Prop := C.Owed ∧ C.Fair
theorem evOps_congr (C : Ctx) (hF : C.Fair) {D : List Nat} {ops : Array Oper} : ∀ (l : List Oper) (st : St),(∀ o ∈ l,Slots D ops o) → (∀ st',Agree D st st' → K st' = K' st') → evOps C ops l st K = evOps C ops l st K'
  | [],st,_,h => h st (Agree.refl _ _)
  | o :: l,st,hD,h => by
    simp only [evOps]
    split
    · refine hF _ _ _ _ _ _ fun v st1 h1 => ?_
      congr 1
      exact evOps_congr C hF l _ (fun o ho => hD o (by simp [ho])) fun st2 h2 => h st2 ((Agree.put h1 (hD o (by simp)).dst _).trans h2)
    · exact evOp_congr C (hD o (by simp)) fun st1 h1 => evOps_congr C hF l st1 (fun o ho => hD o (by simp [ho])) fun st2 h2 => h st2 (h1.trans h2)
theorem allOf_congr {f g : Nat → Option R} (h : ∀ i,f i = g i) (l : List Nat) : allOf f l = allOf g l := by rw [funext h]
theorem evOpI_congr (C : Ctx) (hF : C.Fair) {D : List Nat} {ops : Array Oper} {o : Oper} {st : St} (hD : Slots D ops o) (h : ∀ st',Agree D st st' → K st' = K' st') : evOpI C ops o st K = evOpI C ops o st K' := by
  unfold evOpI
  split
  · refine hF _ _ _ _ _ _ fun v st1 h1 => ?_
    congr 1
    exact h _ (Agree.put h1 hD.dst _)
  · exact evOp_congr C hD h
theorem evAny_congr (C : Ctx) (hF : C.Fair) {D : List Nat} {ops : Array Oper} (hD : ∀ (i : Nat) (o : Oper),ops[i]? = some o → Slots D ops o) : ∀ (n : Nat) (listed : List Bool) (st : St),(∀ st',Agree D st st' → K st' = K' st') → evAny C ops n listed st K = evAny C ops n listed st K'
  | 0,listed,st,h => by
    unfold evAny
    split
    · exact h st (Agree.refl _ _)
    · rfl
  | n + 1,listed,st,h => by
    unfold evAny
    have one : ∀ (i : Nat) (o : Oper),ops[i]? = some o → (evOpI C ops o st fun st => evAny C ops n (listed.set i true) st K) = evOpI C ops o st fun st => evAny C ops n (listed.set i true) st K' := fun i o hi =>
      evOpI_congr C hF (hD i o hi) fun st1 h1 => evAny_congr C hF hD n _ st1 fun st2 h2 => h st2 (h1.trans h2)
    split
    · exact h st (Agree.refl _ _)
    · split
      · split
        · rename_i o ho; exact one _ o ho
        · rfl
      · refine allOf_congr (fun i => ?_) _
        split
        · rename_i o ho; exact one _ o ho
        · rfl
end
end Go.Fw
