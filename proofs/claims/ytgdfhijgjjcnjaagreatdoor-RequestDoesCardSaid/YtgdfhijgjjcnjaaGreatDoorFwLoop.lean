/- A loop's head: what is known there. -/
import Derived.Test.YtgdfhijgjjcnjaaGreatDoorFwAgree
set_option linter.unusedVariables false
set_option linter.unusedSimpArgs false
namespace Go.Fw

theorem any_beq {l : List Nat} {k : Nat} : l.any (Nat.beq k) = true ↔ k ∈ l := by
  simp only [List.any_eq_true]
  constructor
  · rintro ⟨x,hx,hb⟩; rw [beq_true.1 hb]; exact hx
  · exact fun h => ⟨k,h,beq_true.2 rfl⟩
theorem any_beq_false {l : List Nat} {k : Nat} : l.any (Nat.beq k) = false ↔ k ∉ l := by
  rw [← Bool.not_eq_true,any_beq]
theorem findO_goneO (h : List Nat) : ∀ (l : List (Nat×Nat×Ob)) (k : Nat),St.findO (goneO h l) k = (St.findO l k).map fun x => if k ∈ h then x else (x.1 + 1,.gone)
  | [],k => by simp [goneO,St.findO]
  | (k',v,o) :: r,k => by
    simp only [goneO]
    cases hh : h.any (Nat.beq k') with
    | true =>
      simp only [cond_true,St.findO]
      cases hb : Nat.beq k' k with
      | true => rw [beq_true.1 hb] at hh; simp [any_beq.1 hh]
      | false => simp only [cond_false]; exact findO_goneO h r k
    | false =>
      simp only [cond_false,St.findO]
      cases hb : Nat.beq k' k with
      | true => rw [beq_true.1 hb] at hh; simp [any_beq_false.1 hh]
      | false => simp only [cond_false]; exact findO_goneO h r k
theorem base_get (h : Head) (w : List Nat) (st : St) (d : Nat) : (base h w st).get d = if d ∈ w then .undef else Fw.ungd (st.get d) := by
  exact go_dropS w st.s d
theorem base_obj {h : Head} {w : List Nat} {st : St} {k : Nat} {o : Ob} (ho : (base h w st).obj k = some o) : o = .gone ∨ (k ∈ h.stay ∧ st.obj k = some o) := by
  unfold St.obj at ho ⊢
  simp only [base,findO_goneO] at ho
  cases hf : St.findO st.o k with
  | none => rw [hf] at ho; simp at ho
  | some x =>
    obtain ⟨v,x⟩ := x
    rw [hf] at ho
    simp only [Option.map_some] at ho
    split at ho
    · rename_i hk
      simp only [Option.some.injEq] at ho
      exact .inr ⟨hk,by simp only [ho]⟩
    · simp only [Option.some.injEq] at ho
      exact .inl ho.symm
theorem Obj.layO (st : St) (k : Nat) (o : Ob) : Obj st (st.layO k o) := by
  unfold St.layO
  split
  · rename_i hn
    refine ⟨rfl,fun i v x hi => ⟨v,x,?_,Nat.le_refl _,fun _ => rfl⟩⟩
    simp only [St.findO]
    cases hb : Nat.beq k i with
    | true => rw [beq_true.1 hb] at hn; rw [hn] at hi; simp at hi
    | false => exact hi
  · exact Obj.setO _ _ _
theorem obj_layO (st : St) (k : Nat) (o : Ob) (i : Nat) : (st.layO k o).obj i = if i = k then some o else st.obj i := by
  unfold St.layO
  split
  · rename_i hn
    simp only [St.obj,St.findO]
    cases hb : Nat.beq k i with
    | true => rw [beq_true.1 hb]; simp
    | false => have := beq_false.1 hb; rw [if_neg (Ne.symm this)]; simp
  · rename_i x hx
    rw [obj_setO]
    split
    · rename_i hi; simp only [St.obj,hx,Option.map_some]
    · rfl
theorem get_set (st : St) (i : Nat) (v : PV) (d : Nat) : (st.set i v).get d = if d = i ∧ st.s.has i = true then v else st.get d := go_set _ _ _ _
theorem obj_set (st : St) (i : Nat) (v : PV) (k : Nat) : (st.set i v).obj k = st.obj k := rfl
theorem get_layO (st : St) (k : Nat) (o : Ob) (d : Nat) : (st.layO k o).get d = st.get d := by
  simp only [St.get,(Obj.layO st k o).s]

def SlotOf : (v : HV) → v.den → Nat → PV → Prop
  | .data s t,y,d,p => d = s ∧ t.leaves y = [p]
  | .row s K _ _,_,d,p => d = s ∧ p = .own K
  | .dataA s t,y,d,p => d = s ∧ ∃ q,t.leaves y = [q] ∧ p = q.tag
  | _,_,_,_ => False
def ObjOf : (v : HV) → v.den → Nat → Ob → Prop
  | .data ..,_,_,_ | .dataA ..,_,_,_ => False
  | .boxA k' t,y,k,o => k = k' ∧ o = .box ((t.leaves y).map PV.tag)
  | .row _ K e t,y,k,o => k = K ∧ o = .row e t y
  | .arr k' e t n,y,k,o => k = k' ∧ o = .arr e t n y
  | .box k' t,y,k,o => k = k' ∧ o = .box (t.leaves y)
  | .rowk k' e t,y,k,o => k = k' ∧ o = .row e t y
  | .mrowk k' e t,y,k,o => k = k' ∧ o = .mrow e t y.1 y.2
  | .crow _ _ K e t,y,k,o => k = K ∧ o = .row e t y
  | .mpk k' m,y,k,o => k = k' ∧ o = .mp m y
  | .iterk k' m,y,k,o => k = k' ∧ o = .iter m y none
  | .boxr k' K a b,y,k,o => k = k' ∧ o = .box (a.leaves y.1 ++ .own K :: b.leaves y.2)
  | .boxs k' K K' a b c,y,k,o => k = k' ∧ o = .box (a.leaves y.1 ++ .own K :: (b.leaves y.2.1 ++ .own K' :: c.leaves y.2.2))
def HV.objKey : HV → Option Nat
  | .arr k .. | .box k _ | .rowk k .. | .boxr k .. | .boxs k .. | .mpk k _ | .iterk k _ | .boxA k _ | .mrowk k .. => some k
  | _ => none
theorem lay_len (n : Nat) (st : St) (v : HV) (y : v.den) (h : Sized n st.s) : Sized n (v.lay st y).s := by
  cases v <;> simp only [HV.lay]
  · split
    · exact h.set _ _
    · exact h
  · rw [(Obj.layO _ _ _).s]; exact h.set _ _
  all_goals first
    | (rw [(Obj.layO _ _ _).s]; exact h)
    | (split
       · exact h.set _ _
       · exact h)
theorem lay_get (st : St) (v : HV) (y : v.den) (d : Nat) : (v.lay st y).get d = st.get d ∨ SlotOf v y d ((v.lay st y).get d) := by
  cases v <;> simp only [HV.lay]
  · split
    · rename_i p hp
      rw [get_set]
      split
      · rename_i h; exact .inr ⟨h.1,hp⟩
      · exact .inl rfl
    · exact .inl rfl
  · rw [get_layO,get_set]
    split
    · rename_i h; exact .inr ⟨h.1,rfl⟩
    · exact .inl rfl
  all_goals first
    | exact .inl (get_layO _ _ _ _)
    | (split
       · rename_i p hp
         rw [get_set]
         split
         · rename_i h; exact .inr ⟨h.1,p,hp,rfl⟩
         · exact .inl rfl
       · exact .inl rfl)
theorem lay_obj (st : St) (v : HV) (y : v.den) {k : Nat} {o : Ob} (h : (v.lay st y).obj k = some o) : st.obj k = some o ∨ ObjOf v y k o := by
  cases v <;> simp only [HV.lay] at h
  · split at h
    · exact .inl h
    · exact .inl h
  all_goals first
    | (rw [obj_layO] at h
       split at h
       · rename_i hk; simp only [Option.some.injEq] at h; exact .inr ⟨hk,h.symm⟩
       · exact .inl h)
    | (split at h
       · exact .inl h
       · exact .inl h)
theorem lay_oagree (st : St) (v : HV) (y : v.den) : OAgree st.o (v.lay st y).o := by
  cases v <;> simp only [HV.lay]
  · split
    · exact OAgree.refl _
    · exact OAgree.refl _
  · exact (Obj.layO (st.set _ _) _ _).ob
  all_goals first
    | exact (Obj.layO _ _ _).ob
    | (split
       · exact OAgree.refl _
       · exact OAgree.refl _)

theorem lay_has (st : St) (v : HV) (y : v.den) (i : Nat) : (v.lay st y).s.has i = st.s.has i := by
  cases v <;> simp only [HV.lay]
  · split
    · exact has_set _ _ _ _
    · rfl
  · rw [(Obj.layO _ _ _).s]; exact has_set _ _ _ _
  all_goals first
    | rw [(Obj.layO _ _ _).s]
    | (split
       · exact has_set _ _ _ _
       · rfl)
theorem layL_has (i : Nat) : ∀ (vs : List HV) (st : St) (x : denL vs),(layL st vs x).s.has i = st.s.has i
  | [],_,_ => rfl
  | [v],st,x => lay_has st v x i
  | v :: w :: r,st,x => by rw [show layL st (v :: w :: r) x = layL (v.lay st x.1) (w :: r) x.2 from rfl,layL_has i (w :: r),lay_has]
theorem layL_len (n : Nat) : ∀ (vs : List HV) (st : St) (x : denL vs),Sized n st.s → Sized n (layL st vs x).s
  | [],_,_,h => h
  | [v],st,x,h => lay_len n st v x h
  | v :: w :: r,st,x,h => layL_len n (w :: r) _ _ (lay_len n st v x.1 h)
theorem layL_oagree : ∀ (vs : List HV) (st : St) (x : denL vs),OAgree st.o (layL st vs x).o
  | [],_,_ => OAgree.refl _
  | [v],st,x => lay_oagree st v x
  | v :: w :: r,st,x => (lay_oagree st v x.1).trans (layL_oagree (w :: r) _ x.2)
theorem layL_get : ∀ (vs : List HV) (st : St) (x : denL vs) (st' : St),readL st' vs = some x → ∀ d,(layL st vs x).get d = st.get d ∨ ∃ v ∈ vs,∃ y,v.read st' = some y ∧ SlotOf v y d ((layL st vs x).get d)
  | [],_,_,_,_,d => .inl rfl
  | [v],st,x,st',hr,d => (lay_get st v x d).imp_right fun h => ⟨v,by simp,x,hr,h⟩
  | v :: w :: r,st,x,st',hr,d => by
    simp only [readL] at hr
    split at hr
    · rename_i y z hy hz
      simp only [Option.some.injEq] at hr
      subst hr
      rcases layL_get (w :: r) (v.lay st y) z st' hz d with h | ⟨u,hu,q,h1,h2⟩
      · rcases lay_get st v y d with h' | h'
        · exact .inl (h.trans h')
        · refine .inr ⟨v,by simp,y,hy,?_⟩
          change SlotOf v y d ((layL (v.lay st y) (w :: r) z).get d)
          rw [h]; exact h'
      · exact .inr ⟨u,by simp only [List.mem_cons] at hu ⊢; exact .inr hu,q,h1,h2⟩
    · simp at hr
theorem layL_obj : ∀ (vs : List HV) (st : St) (x : denL vs) (st' : St),readL st' vs = some x → ∀ k o,(layL st vs x).obj k = some o → st.obj k = some o ∨ ∃ v ∈ vs,∃ y,v.read st' = some y ∧ ObjOf v y k o
  | [],_,_,_,_,k,o,h => .inl h
  | [v],st,x,st',hr,k,o,h => (lay_obj st v x h).imp_right fun h => ⟨v,by simp,x,hr,h⟩
  | v :: w :: r,st,x,st',hr,k,o,h => by
    simp only [readL] at hr
    split at hr
    · rename_i y z hy hz
      simp only [Option.some.injEq] at hr
      subst hr
      rcases layL_obj (w :: r) (v.lay st y) z st' hz k o h with h | ⟨u,hu,q,h1,h2⟩
      · rcases lay_obj st v y h with h' | h'
        · exact .inl h'
        · exact .inr ⟨v,by simp,y,hy,h'⟩
      · exact .inr ⟨u,by simp only [List.mem_cons] at hu ⊢; exact .inr hu,q,h1,h2⟩
    · simp at hr

theorem apart1_spec {stay : List Nat} : ∀ {l : List Nat},apart1 stay l = true → (∀ k ∈ l,k ∉ stay) ∧ l.Nodup
  | [],_ => ⟨by simp,List.nodup_nil⟩
  | k :: r,h => by
    simp only [apart1,Bool.and_eq_true,Bool.not_eq_true'] at h
    obtain ⟨h1,h2⟩ := apart1_spec h.2
    refine ⟨fun i hi => ?_,List.nodup_cons.2 ⟨any_beq_false.1 h.1.2,h2⟩⟩
    rcases List.mem_cons.1 hi with rfl | hi
    · exact any_beq_false.1 h.1.1
    · exact h1 i hi
theorem filterMap_inj {α : Type} {f : α → Option Nat} : ∀ {l : List α},(l.filterMap f).Nodup → ∀ {v v' : α} {i : Nat},v ∈ l → v' ∈ l → f v = some i → f v' = some i → v = v'
  | [],_,v,_,_,hv,_,_,_ => by simp at hv
  | u :: r,h,v,v',i,hv,hv',h1,h2 => by
    have hr : (r.filterMap f).Nodup := by
      rw [List.filterMap_cons] at h
      split at h
      · exact h
      · exact (List.nodup_cons.1 h).2
    rcases List.mem_cons.1 hv with e1 | hv1 <;> rcases List.mem_cons.1 hv' with e2 | hv2
    · rw [e1,e2]
    · subst e1
      rw [List.filterMap_cons,h1] at h
      exact absurd (show i ∈ r.filterMap f from List.mem_filterMap.2 ⟨v',hv2,h2⟩) (List.nodup_cons.1 h).1
    · subst e2
      rw [List.filterMap_cons,h2] at h
      exact absurd (show i ∈ r.filterMap f from List.mem_filterMap.2 ⟨v,hv1,h1⟩) (List.nodup_cons.1 h).1
    · exact filterMap_inj hr hv1 hv2 h1 h2

inductive Loc where
  | slot (s : Nat)
  | cell (k i : Nat)
def HV.loc : HV → Option (Nat×Loc)
  | .row s K _ _ => some (K,.slot s)
  | .crow k i K _ _ => some (K,.cell k i)
  | _ => none
def rowLoc : List HV → Nat → Option Loc
  | [],_ => none
  | v :: r,k => match v.loc with
    | some (K,l) => if K = k then some l else rowLoc r k
    | none => rowLoc r k
theorem rowLoc_some : ∀ {vs : List HV} {k : Nat} {l : Loc},rowLoc vs k = some l → ∃ v ∈ vs,v.loc = some (k,l)
  | [],_,_,h => by simp [rowLoc] at h
  | v :: r,k,l,h => by
    have rec_ : rowLoc r k = some l → ∃ u ∈ v :: r,u.loc = some (k,l) := fun hh => by
      obtain ⟨u,hu,h2⟩ := rowLoc_some hh
      exact ⟨u,List.mem_cons_of_mem _ hu,h2⟩
    simp only [rowLoc] at h
    split at h
    · rename_i K l' hv
      split at h
      · rename_i hk
        simp only [Option.some.injEq] at h
        subst h
        subst hk
        exact ⟨v,by simp,hv⟩
      · exact rec_ h
    · exact rec_ h
theorem loc_key {v : HV} {K : Nat} {l : Loc} (h : v.loc = some (K,l)) : v.rowKey = some K := by
  cases v <;> simp only [HV.loc,Option.some.injEq,Prod.mk.injEq,reduceCtorEq] at h
  · simp [HV.rowKey,h.1]
  · simp [HV.rowKey,h.1]
theorem rowLoc_mem {vs : List HV} (hn : (vs.filterMap HV.rowKey).Nodup) {v : HV} {K : Nat} {l : Loc} (h : v ∈ vs) (hl : v.loc = some (K,l)) : rowLoc vs K = some l := by
  have : ∀ (us : List HV),v ∈ us → ∃ l',rowLoc us K = some l' := by
    intro us
    induction us with
    | nil => intro h; simp at h
    | cons u r ih =>
      intro h
      simp only [rowLoc]
      rcases List.mem_cons.1 h with rfl | h
      · rw [hl]; exact ⟨l,by simp⟩
      · split
        · split
          · exact ⟨_,rfl⟩
          · exact ih h
        · exact ih h
  obtain ⟨l',hl'⟩ := this vs h
  obtain ⟨u,hu,h2⟩ := rowLoc_some hl'
  have := filterMap_inj hn hu h (loc_key h2) (loc_key hl)
  subst this
  rw [hl] at h2
  simp only [Option.some.injEq,Prod.mk.injEq,true_and] at h2
  rw [hl',h2]

section
variable {P : Program} {m : MM} {w0 : World} {st0 st st' : St} {a : Act} {c : Cx}

theorem headOk_slot {h : Head} {w : List Nat} (hh : headOk h w st = true) {v : HV} (hv : v ∈ h.vars) {y : v.den} {d : Nat} {p : PV} (hs : SlotOf v y d p) : d ∈ w := by
  unfold headOk at hh
  have := List.all_eq_true.1 (Bool.and_eq_true_iff.1 hh).2 v hv
  cases v <;> simp only [SlotOf] at hs
  · rw [hs.1]; exact any_beq.1 this
  · simp only [Bool.and_eq_true] at this
    rw [hs.1]; exact any_beq.1 this.1.1.1
  · rw [hs.1]; exact any_beq.1 this
theorem headOk_nodup {h : Head} {w : List Nat} (hh : headOk h w st = true) : (h.vars.filterMap HV.rowKey).Nodup := (apart1_spec (Bool.and_eq_true_iff.1 hh).1).2
theorem headOk_row {h : Head} {w : List Nat} (hh : headOk h w st = true) {v : HV} {K : Nat} (hv : v ∈ h.vars) (hk : v.rowKey = some K) :
    K ∉ h.stay ∧ (base h w st).s.refs K = false ∧ refsO (base h w st).o K = false := by
  unfold headOk at hh
  have := List.all_eq_true.1 (Bool.and_eq_true_iff.1 hh).2 _ hv
  cases v <;> simp only [HV.rowKey,Option.some.injEq,reduceCtorEq] at hk <;> subst hk <;> simp only [Bool.and_eq_true,Bool.not_eq_true'] at this
  · exact ⟨any_beq_false.1 this.1.1.2,this.1.2,this.2⟩
  · exact ⟨any_beq_false.1 this.1.1,this.1.2,this.2⟩
theorem headOk_loc {h : Head} {w : List Nat} (hh : headOk h w st = true) {K : Nat} {l : Loc} (hk : rowLoc h.vars K = some l) :
    K ∉ h.stay ∧ (base h w st).s.refs K = false ∧ refsO (base h w st).o K = false := by
  obtain ⟨v,hv,hl⟩ := rowLoc_some hk
  exact headOk_row hh hv (loc_key hl)
theorem headOk_key {h : Head} {w : List Nat} (hh : headOk h w st = true) {v : HV} (hv : v ∈ h.vars) {k : Nat} (hk : v.objKey = some k) : rowLoc h.vars k = none := by
  unfold headOk at hh
  have := List.all_eq_true.1 (Bool.and_eq_true_iff.1 hh).2 v hv
  cases hr : rowLoc h.vars k with
  | none => rfl
  | some l =>
    obtain ⟨u,hu,hl⟩ := rowLoc_some hr
    have hkey := loc_key hl
    have fin : (h.vars.all fun u => match u.rowKey with | some K => !(Nat.beq K k) | none => true) = true → False := fun ht => by
      have := List.all_eq_true.1 ht _ hu
      rw [hkey] at this
      simp only [Bool.not_eq_true'] at this
      exact absurd rfl (beq_false.1 this)
    cases v <;> simp only [HV.objKey,Option.some.injEq,reduceCtorEq] at hk <;> subst hk
    all_goals first
      | exact (fin this).elim
      | exact (fin (Bool.and_eq_true_iff.1 this).1).elim

theorem base_agree {h : Head} {w : List Nat} (st : St) : Agree w st (base h w st) := by
  refine ⟨fun i => has_dropS _ _ _,fun d hd hg => ?_,fun k v x hi => ?_⟩
  · rw [base_get,if_neg hd]
    cases hp : st.get d <;> rw [hp] at hg <;> simp [Fw.ungd] <;> simp [PV.isGd] at hg
  · simp only [base,findO_goneO,hi,Option.map_some]
    by_cases hk : k ∈ h.stay
    · exact ⟨v,x,by rw [if_pos hk],Nat.le_refl _,fun _ => rfl⟩
    · exact ⟨v + 1,.gone,by rw [if_neg hk],by omega,fun he => by omega⟩
theorem layL_keeps : ∀ (vs : List HV) (st : St) (x : denL vs) (d : Nat),(∀ v ∈ vs,∀ y p,¬ SlotOf v y d p) → (layL st vs x).get d = st.get d
  | [],_,_,_,_ => rfl
  | [v],st,x,d,h => (lay_get st v x d).resolve_right (h v (by simp) _ _)
  | v :: w :: r,st,x,d,h => (layL_keeps (w :: r) (v.lay st x.1) x.2 d (fun u hu => h u (List.mem_cons_of_mem _ hu))).trans ((lay_get st v x.1 d).resolve_right (h v (by simp) _ _))
theorem lay_agree {h : Head} {w : List Nat} (hh : headOk h w st0 = true) (x : denL h.vars) : Agree w st0 (layL (base h w st0) h.vars x) := by
  refine (base_agree st0).trans ⟨fun i => layL_has i _ _ _,fun d hd _ => ?_,layL_oagree _ _ _⟩
  exact layL_keeps _ _ _ _ fun v hv y p hs => hd (headOk_slot hh hv hs)

noncomputable def Loc.pv (st : St) : Loc → PV
  | .slot s => st.get s
  | .cell k i => st.cellPV k i
def Loc.val (a : Act) (c : Cx) : Loc → Value
  | .slot s => a.tmps.getD s undef
  | .cell k i => match c.w.heap[c.ρ k]? with | some (.cells cs _ _) => cs.getD i undef | _ => undef
theorem loc_rep (h : Rep m w0 st a c) (l : Loc) : RepV c (l.pv st) (l.val a c) := by
  cases l with
  | slot s => exact (h.slots s).rep
  | cell k i =>
    simp only [Loc.pv,St.cellPV]
    split
    · rename_i cl ho
      obtain ⟨cs,⟨e,q1,_⟩,q2⟩ := h.objs k _ (by rw [h.ob]; exact ho)
      simp only [Loc.val,q1]
      cases hc : cl[i]? with
      | none => simp [RepV]
      | some p =>
        obtain ⟨v,h1,h2⟩ := q2.get i hc
        simp only [Option.getD_some]
        rw [Array.getD_eq_getD_getElem?,← Array.getElem?_toList,h1]
        exact h2
    · simp [RepV]
noncomputable def srcK (h : Head) (st : St) (k : Nat) : Nat := match rowLoc h.vars k with
  | some l => match l.pv st with | .own k0 => k0 | _ => k
  | none => k
noncomputable def headCx (h : Head) (st st2 : St) (a : Act) (c : Cx) : Cx :=
  { w := c.w,ok := c.ok,ρ := fun k => c.ρ (srcK h st k),σ := fun k => match rowLoc h.vars k with | some l => l.val a c | none => c.σ k,pin := c.pin,a := c.a,q := c.q,ob := st2.obj }

theorem leaves_nogd : ∀ (t : Ty) (x : t.den) (p : PV),p ∈ t.leaves x → p.isGd = false
  | .int _,_,p,h => by simp only [Ty.leaves,List.mem_singleton] at h; subst h; rfl
  | .bool,_,p,h => by simp only [Ty.leaves,List.mem_singleton] at h; subst h; rfl
  | .str,_,p,h => by simp only [Ty.leaves,List.mem_singleton] at h; subst h; rfl
  | .unit,_,p,h => by simp [Ty.leaves] at h
  | .pair a b,x,p,h => by
    simp only [Ty.leaves] at h
    rcases List.mem_append.1 h with h | h
    · exact leaves_nogd a _ p h
    · exact leaves_nogd b _ p h
  | .slice _ _,_,p,h => by simp only [Ty.leaves,List.mem_singleton] at h; subst h; rfl
theorem headOk_boxr {h : Head} {w : List Nat} (hh : headOk h w st = true) {k K : Nat} {ta tb : Ty} (hv : HV.boxr k K ta tb ∈ h.vars) : ∃ e t,HV.crow k ta.size K e t ∈ h.vars := by
  unfold headOk at hh
  have := List.all_eq_true.1 (Bool.and_eq_true_iff.1 hh).2 _ hv
  simp only [Bool.and_eq_true] at this
  obtain ⟨u,hu,h2⟩ := List.any_eq_true.1 this.2
  cases u <;> simp only [Bool.and_eq_true,Bool.false_eq_true] at h2
  rw [beq_true.1 h2.1.1,beq_true.1 h2.1.2,beq_true.1 h2.2] at hu
  exact ⟨_,_,hu⟩
theorem headOk_boxs {h : Head} {w : List Nat} (hh : headOk h w st = true) {k K K' : Nat} {ta tb tc : Ty} (hv : HV.boxs k K K' ta tb tc ∈ h.vars) : (∃ e t,HV.crow k ta.size K e t ∈ h.vars) ∧ ∃ e t,HV.crow k (ta.size + 1 + tb.size) K' e t ∈ h.vars := by
  unfold headOk at hh
  have := List.all_eq_true.1 (Bool.and_eq_true_iff.1 hh).2 _ hv
  simp only [Bool.and_eq_true] at this
  constructor
  · obtain ⟨u,hu,h2⟩ := List.any_eq_true.1 this.2.1
    cases u <;> simp only [Bool.and_eq_true,Bool.false_eq_true] at h2
    rw [beq_true.1 h2.1.1,beq_true.1 h2.1.2,beq_true.1 h2.2] at hu
    exact ⟨_,_,hu⟩
  · obtain ⟨u,hu,h2⟩ := List.any_eq_true.1 this.2.2
    cases u <;> simp only [Bool.and_eq_true,Bool.false_eq_true] at h2
    rw [beq_true.1 h2.1.1,beq_true.1 h2.1.2,beq_true.1 h2.2] at hu
    exact ⟨_,_,hu⟩
theorem readL_mem : ∀ {vs : List HV} {x : denL vs},readL st vs = some x → ∀ {v : HV},v ∈ vs → ∃ y,v.read st = some y
  | [],_,_,_,h => by simp at h
  | [u],x,hr,v,h => by simp at h; subst h; exact ⟨x,hr⟩
  | u :: w :: r,x,hr,v,h => by
    simp only [readL] at hr
    split at hr
    · rename_i y z hy hz
      rcases List.mem_cons.1 h with rfl | h
      · exact ⟨y,hy⟩
      · exact readL_mem hz h
    · simp at hr
theorem lay_rep {h : Head} {w : List Nat} {x : denL h.vars} (hh : headOk h w st0 = true) (hs : srcOk h st = true) (hag : Agree w st0 st) (hst : stays h st0 st = true)
    (hr : readL st h.vars = some x) (R : Rep m w0 st a c) : ∃ c2 : Cx,c2.w = c.w ∧ Rep m w0 (layL (base h w st0) h.vars x) a c2 := by
  obtain ⟨hs1,hs2⟩ := apart1_spec hs
  have hnd := headOk_nodup hh
  let st2 := layL (base h w st0) h.vars x
  refine ⟨headCx h st st2 a c,rfl,?_⟩
  have hgc : (headCx h st st2 a c).ob = st2.obj := rfl
  -- what stays
  have hstay : ∀ k o,(base h w st0).obj k = some o → o = .gone ∨ (k ∈ h.stay ∧ st.obj k = some o) := by
    intro k o ho
    rcases base_obj ho with h1 | ⟨h1,h2⟩
    · exact .inl h1
    · refine .inr ⟨h1,?_⟩
      have hv := List.all_eq_true.1 hst k h1
      unfold St.obj at h2 ⊢
      cases hf : St.findO st0.o k with
      | none => rw [hf] at h2; simp at h2
      | some p =>
        obtain ⟨v,q⟩ := p
        rw [hf] at h2 hv
        simp only [Option.some.injEq] at h2
        subst h2
        obtain ⟨v',x',g1,g2,g3⟩ := hag.ob k v q hf
        rw [g1] at hv ⊢
        simp only at hv ⊢
        rw [g3 (beq_true.1 hv).symm]
  have hnrow : ∀ k,k ∈ h.stay → rowLoc h.vars k = none := by
    intro k hk
    cases hr : rowLoc h.vars k with
    | none => rfl
    | some s => exact absurd hk (headOk_loc hh hr).1
  have hsrc : ∀ k,rowLoc h.vars k = none → srcK h st k = k := by
    intro k hk; unfold srcK; rw [hk]
  have hσ : ∀ k,rowLoc h.vars k = none → (headCx h st st2 a c).σ k = c.σ k := by
    intro k hk; simp only [headCx,hk]
  have hρ : ∀ k,rowLoc h.vars k = none → (headCx h st st2 a c).ρ k = c.ρ k := by
    intro k hk; simp only [headCx,hsrc k hk]
  have hmv : Mv (fun k => rowLoc h.vars k = none) c (headCx h st st2 a c) := by
    refine .of (fun _ _ => rfl) (fun _ hb => hb) hρ hσ (fun k t l hk hl => ?_) (fun _ ha => ha) (fun _ hb => hb) (fun hl => ?_)
    rotate_left
    · rcases layL_obj _ _ x st hr QK _ hl with h1 | ⟨v,hv,y,h1,h2⟩
      · rcases hstay QK _ h1 with h2 | h2
        · cases h2
        · rw [R.ob]; exact h2.2
      · cases v <;> simp [ObjOf] at h2
    have one : ∀ o,st2.obj k = some o → (∃ e t l,o = .row e t l) ∨ (∃ e t n l,o = .arr e t n l) ∨ (∃ e t l n,o = .mrow e t l n) → st.obj k = some o := by
      intro o ho hrow
      rcases layL_obj _ _ x st hr k o ho with h1 | ⟨v,hv,y,h1,h2⟩
      · rcases hstay k o h1 with rfl | h2
        · rcases hrow with ⟨_,_,_,h⟩ | ⟨_,_,_,_,h⟩ | ⟨_,_,_,_,h⟩ <;> simp at h
        · exact h2.2
      · cases v <;> simp only [ObjOf] at h2
        · rw [h2.1,rowLoc_mem hnd hv rfl] at hk; simp at hk
        · rename_i k' e' t' n'
          obtain ⟨rfl,rfl⟩ := h2
          simp only [HV.read] at h1
          split at h1
          · rename_i e2 t2 n2 l2 ho2
            split at h1
            · rename_i he
              split at h1
              · rename_i ht
                subst ht
                simp only [Option.some.injEq] at h1
                subst h1
                rw [ho2,he.1,he.2]
              · simp at h1
            · simp at h1
          · simp at h1
        · rw [h2.2] at hrow; rcases hrow with ⟨_,_,_,h⟩ | ⟨_,_,_,_,h⟩ | ⟨_,_,_,_,h⟩ <;> simp at h
        · rename_i k' e' t'
          obtain ⟨rfl,rfl⟩ := h2
          simp only [HV.read] at h1
          split at h1
          · rename_i e2 t2 l2 ho2
            split at h1
            · rename_i he
              split at h1
              · rename_i ht
                subst ht
                simp only [Option.some.injEq] at h1
                subst h1
                rw [ho2,he]
              · simp at h1
            · simp at h1
          · simp at h1
        · rw [h2.1,rowLoc_mem hnd hv rfl] at hk; simp at hk
        · rw [h2.2] at hrow; rcases hrow with ⟨_,_,_,h⟩ | ⟨_,_,_,_,h⟩ | ⟨_,_,_,_,h⟩ <;> simp at h
        · rw [h2.2] at hrow; rcases hrow with ⟨_,_,_,h⟩ | ⟨_,_,_,_,h⟩ | ⟨_,_,_,_,h⟩ <;> simp at h
        · rw [h2.2] at hrow; rcases hrow with ⟨_,_,_,h⟩ | ⟨_,_,_,_,h⟩ | ⟨_,_,_,_,h⟩ <;> simp at h
        · rw [h2.2] at hrow; rcases hrow with ⟨_,_,_,h⟩ | ⟨_,_,_,_,h⟩ | ⟨_,_,_,_,h⟩ <;> simp at h
        · rw [h2.2] at hrow; rcases hrow with ⟨_,_,_,h⟩ | ⟨_,_,_,_,h⟩ | ⟨_,_,_,_,h⟩ <;> simp at h
        · rename_i k' e' t'
          obtain ⟨rfl,rfl⟩ := h2
          simp only [HV.read] at h1
          split at h1
          · rename_i e2 t2 l2 n2 ho2
            split at h1
            · rename_i he
              split at h1
              · rename_i ht
                subst ht
                simp only [Option.some.injEq] at h1
                subst h1
                rw [ho2,he]
              · simp at h1
            · simp at h1
          · simp at h1
    refine ⟨l,?_,rfl⟩
    rw [R.ob]
    rcases hl with ⟨e,hl⟩ | ⟨e,n,hl⟩ | ⟨e,n,hl⟩
    · exact .inl ⟨e,one _ hl (.inl ⟨e,t,l,rfl⟩)⟩
    · exact .inr (.inl ⟨e,n,one _ hl (.inr (.inl ⟨e,t,n,l,rfl⟩))⟩)
    · exact .inr (.inr ⟨e,n,one _ hl (.inr (.inr ⟨e,t,l,n,rfl⟩))⟩)
  -- a row variable's place
  have hrowv : ∀ v K l e t (y : List t.den),v ∈ h.vars → v.loc = some (K,l) → rdRow st e t (l.pv st) = some y →
      (∃ k0,l.pv st = .own k0 ∧ st.obj k0 = some (.row e t y) ∧ l.val a c = c.σ k0 ∧ srcK h st K = k0) ∨
      (y = [] ∧ ∃ A,l.val a c = .slice A 0 0) := by
    intro v K l e t y hv hl hy
    have hsl := loc_rep R l
    unfold rdRow at hy
    split at hy
    · rename_i k0 hg
      rw [hg] at hsl
      simp only [RepV] at hsl
      split at hy
      · rename_i e2 t2 l2 ho
        split at hy
        · rename_i he
          split at hy
          · rename_i ht
            subst ht
            simp only [Option.some.injEq] at hy
            subst hy
            refine .inl ⟨k0,hg,by rw [ho,he],hsl.1,?_⟩
            unfold srcK
            rw [rowLoc_mem hnd hv hl]
            simp only [hg]
          · simp at hy
        · simp at hy
      · simp at hy
    · rename_i e2 t2 l2 hg
      rw [hg] at hsl
      simp only [RepV] at hsl
      split at hy
      · split at hy
        · rename_i ht
          subst ht
          simp only at hy
          split at hy
          · simp only [Option.some.injEq] at hy
            subst hy
            obtain ⟨A,h1,_⟩ := hsl
            exact .inr ⟨rfl,A,h1⟩
          · simp at hy
        · simp at hy
      · simp at hy
    · simp at hy
  have hone : ∀ (p q : PV) (u : Value),(match p with | .full e t l => .sl e t l | v => v) = q → SlotOK c a p u → ∀ (t : Ty) (y : t.den),t.of [q] = some y → Dat c.w c.ok t y [u] := by
    intro p q u hq hp t y hy
    refine Ty.of_dat (c := c) hy ?_
    have : RepV c q u := by
      have hp := hp.rep
      cases p <;> simp only at hq <;> subst hq <;> try exact hp
      simp only [RepV] at hp ⊢
      obtain ⟨A,h1,h2,h3⟩ := hp
      exact ⟨A,_,h1,Nat.le_refl _,h2,h3⟩
    simp only [RepL]
    exact ⟨u,[],rfl,this,rfl⟩
  -- the objects' sources
  have hown : ∀ k,Owns (headCx h st st2 a c) k → Owns c (srcK h st k) ∧ ((k ∈ h.stay ∧ srcK h st k = k) ∨ ∃ v ∈ h.vars,HV.src st v = some (srcK h st k) ∧ (v.rowKey = some k ∨ v.objKey = some k)) := by
    rintro k ⟨o,ho,hw⟩
    rcases layL_obj _ _ x st hr k o ho with h1 | ⟨v,hv,y,h1,h2⟩
    · rcases hstay k o h1 with rfl | ⟨h2,h3⟩
      · exact hw.elim
      · have hn := hnrow k h2
        rw [hsrc k hn]
        exact ⟨⟨o,by rw [R.ob]; exact h3,hw.congr (hσ k hn).symm⟩,.inl ⟨h2,rfl⟩⟩
    · cases v with
      | data s t => exact h2.elim
      | dataA s t => exact h2.elim
      | boxA k' t =>
        obtain ⟨rfl,rfl⟩ := h2
        have hn := headOk_key hh hv (k := _) rfl
        rw [hsrc _ hn]
        refine ⟨?_,.inr ⟨_,hv,by simp only [HV.src],.inr rfl⟩⟩
        simp only [HV.read] at h1
        split at h1
        · rename_i ho2
          exact ⟨_,(R.ob _).trans ho2,trivial⟩
        · simp at h1
      | row s K e t =>
        obtain ⟨rfl,rfl⟩ := h2
        rcases hrowv _ _ _ e t y hv rfl h1 with ⟨k0,g1,g2,g3,g4⟩ | ⟨rfl,A,g⟩
        · rw [g4]
          refine ⟨⟨_,by rw [R.ob]; exact g2,?_⟩,.inr ⟨_,hv,by simp only [Loc.pv] at g1; simp only [HV.src,g1],.inl rfl⟩⟩
          obtain ⟨A,n,mm,q1,q2⟩ := hw
          simp only [headCx,rowLoc_mem hnd hv rfl] at q1
          exact ⟨A,n,mm,by rw [← g3]; exact q1,q2⟩
        · obtain ⟨A',n,mm,q1,q2⟩ := hw
          simp only [headCx,rowLoc_mem hnd hv rfl] at q1
          rw [g] at q1
          injection q1 with _ _ q3
          exact absurd q3.symm q2
      | crow k' i K e t =>
        obtain ⟨rfl,rfl⟩ := h2
        rcases hrowv _ _ _ e t y hv rfl h1 with ⟨k0,g1,g2,g3,g4⟩ | ⟨rfl,A,g⟩
        · rw [g4]
          refine ⟨⟨_,by rw [R.ob]; exact g2,?_⟩,.inr ⟨_,hv,by simp only [Loc.pv] at g1; simp only [HV.src,g1],.inl rfl⟩⟩
          obtain ⟨A,n,mm,q1,q2⟩ := hw
          simp only [headCx,rowLoc_mem hnd hv rfl] at q1
          exact ⟨A,n,mm,by rw [← g3]; exact q1,q2⟩
        · obtain ⟨A',n,mm,q1,q2⟩ := hw
          simp only [headCx,rowLoc_mem hnd hv rfl] at q1
          rw [g] at q1
          injection q1 with _ _ q3
          exact absurd q3.symm q2
      | boxr k' K ta tb =>
        obtain ⟨rfl,rfl⟩ := h2
        have hn := headOk_key hh hv (k := _) rfl
        rw [hsrc _ hn]
        refine ⟨?_,.inr ⟨_,hv,by simp only [HV.src],.inr rfl⟩⟩
        simp only [HV.read] at h1
        split at h1
        · rename_i ho2
          exact ⟨_,(R.ob _).trans ho2,trivial⟩
        · simp at h1
      | boxs k' K K' ta tb tc =>
        obtain ⟨rfl,rfl⟩ := h2
        have hn := headOk_key hh hv (k := _) rfl
        rw [hsrc _ hn]
        refine ⟨?_,.inr ⟨_,hv,by simp only [HV.src],.inr rfl⟩⟩
        simp only [HV.read] at h1
        split at h1
        · rename_i ho2
          exact ⟨_,(R.ob _).trans ho2,trivial⟩
        · simp at h1
      | mpk k' mt =>
        obtain ⟨rfl,rfl⟩ := h2
        have hn := headOk_key hh hv (k := _) rfl
        rw [hsrc _ hn]
        refine ⟨?_,.inr ⟨_,hv,by simp only [HV.src],.inr rfl⟩⟩
        simp only [HV.read] at h1
        split at h1
        · rename_i ho2
          exact ⟨_,(R.ob _).trans ho2,trivial⟩
        · simp at h1
      | iterk k' mt =>
        obtain ⟨rfl,rfl⟩ := h2
        have hn := headOk_key hh hv (k := _) rfl
        rw [hsrc _ hn]
        refine ⟨?_,.inr ⟨_,hv,by simp only [HV.src],.inr rfl⟩⟩
        simp only [HV.read] at h1
        split at h1
        · rename_i ho2
          exact ⟨_,(R.ob _).trans ho2,trivial⟩
        · simp at h1
      | arr k' e t n =>
        obtain ⟨rfl,rfl⟩ := h2
        have hn := headOk_key hh hv (k := _) rfl
        rw [hsrc _ hn]
        refine ⟨?_,.inr ⟨_,hv,by simp only [HV.src],.inr rfl⟩⟩
        simp only [HV.read] at h1
        split at h1
        · rename_i e2 t2 n2 l2 ho2
          exact ⟨_,(R.ob _).trans ho2,trivial⟩
        · simp at h1
      | box k' t =>
        obtain ⟨rfl,rfl⟩ := h2
        have hn := headOk_key hh hv (k := _) rfl
        rw [hsrc _ hn]
        refine ⟨?_,.inr ⟨_,hv,by simp only [HV.src],.inr rfl⟩⟩
        simp only [HV.read] at h1
        split at h1
        · rename_i ho2
          exact ⟨_,(R.ob _).trans ho2,trivial⟩
        · simp at h1
      | mrowk k' e t =>
        obtain ⟨rfl,rfl⟩ := h2
        have hn := headOk_key hh hv (k := _) rfl
        rw [hsrc _ hn]
        refine ⟨?_,.inr ⟨_,hv,by simp only [HV.src],.inr rfl⟩⟩
        simp only [HV.read] at h1
        split at h1
        · rename_i e2 t2 l2 n2 ho2
          obtain ⟨A,n,mm,q1,q2⟩ := hw
          rw [hσ _ hn] at q1
          exact ⟨_,(R.ob _).trans ho2,A,n,mm,q1,q2⟩
        · simp at h1
      | rowk k' e t =>
        obtain ⟨rfl,rfl⟩ := h2
        have hn := headOk_key hh hv (k := _) rfl
        rw [hsrc _ hn]
        refine ⟨?_,.inr ⟨_,hv,by simp only [HV.src],.inr rfl⟩⟩
        simp only [HV.read] at h1
        split at h1
        · rename_i e2 t2 l2 ho2
          obtain ⟨A,n,mm,q1,q2⟩ := hw
          rw [hσ _ hn] at q1
          exact ⟨_,(R.ob _).trans ho2,A,n,mm,q1,q2⟩
        · simp at h1
  have hmem : ∀ v i,v ∈ h.vars → HV.src st v = some i → i ∈ h.vars.filterMap (HV.src st) := fun v i hv hi => List.mem_filterMap.2 ⟨v,hv,hi⟩
  refine ⟨?_,fun d => ?_,R.defers,fun k => rfl,fun k o ho => ?_,fun k k' hk hk' he => ?_,fun k hk => ?_,R.ok,R.kept,R.old,R.new,R.pin,R.a,R.low,fun b hb => ?_⟩
  rotate_left 5
  · obtain ⟨q1,q2,q3,q4,q5⟩ := R.q b hb
    exact ⟨q1,q2,q3,q4,fun k hk => q5 _ (hown k hk).1⟩
  · refine layL_len _ _ _ _ ⟨fun i => ?_,fun i s' w' v he => ?_⟩
    · show (dropS w st0.s).has i = _
      rw [has_dropS,← hag.len,R.size.has]
    · have he' : (dropS w st0.s).go i = .gd s' w' v := he
      rw [go_dropS] at he'
      split at he'
      · simp at he'
      · cases hp : st0.s.go i <;> rw [hp] at he' <;> simp [Fw.ungd] at he'
  · -- slots
    rcases layL_get _ (base h w st0) x st hr d with h1 | ⟨v,hv,y,h1,h2⟩
    · rw [h1]
      have hb := base_get h w st0 d
      split at hb
      · rw [hb]; simp [SlotOK,RepV]
      · rename_i hd
        cases hg : (st0.get d).isGd with
        | true =>
          rw [hb]
          cases hp : st0.get d <;> rw [hp] at hg <;> simp [PV.isGd] at hg
          simp [Fw.ungd,SlotOK,RepV]
        | false =>
          have he : (base h w st0).get d = st.get d := by
            rw [hb,hag.get d hd hg]
            cases hp : st0.get d <;> rw [hp] at hg <;> simp [Fw.ungd] <;> simp [PV.isGd] at hg
          have hrefs : ∀ k,(st.get d).refs k = true → rowLoc h.vars k = none := by
            intro k hk
            cases hrs : rowLoc h.vars k with
            | none => rfl
            | some s =>
              have := (headOk_loc hh hrs).2.1
              rw [← he] at hk
              rw [go_refs (base h w st0).s d k hk] at this
              simp at this
          rw [he]
          exact SlotOK.move hmv hrefs (R.slots d)
    · cases v with
      | data s t =>
        obtain ⟨rfl,h4⟩ := h2
        simp only [HV.read] at h1
        have hd := hone _ _ _ rfl (R.slots d) t y h1
        have := Dat.leaves (c := headCx h st st2 a c) (show Dat _ _ t y [_] from hd)
        rw [h4] at this
        simp only [RepL] at this
        obtain ⟨v,r',e1,e2,_⟩ := this
        simp only [List.cons.injEq] at e1
        rw [e1.1]
        refine SlotOK.of e2 ?_
        intro s' w' q hq
        rw [hq] at h4
        have := leaves_nogd t y (.gd s' w' q) (by rw [h4]; simp)
        simp [PV.isGd] at this
      | row s K e t =>
        obtain ⟨rfl,h4⟩ := h2
        rw [h4]
        simp only [SlotOK,RepV]
        refine ⟨by simp only [headCx,rowLoc_mem hnd hv rfl]; rfl,?_⟩
        rcases hrowv _ K _ e t y hv rfl h1 with ⟨k0,g1,g2,g3,g4⟩ | ⟨rfl,A,g⟩
        · have := (R.slots d).rep
          simp only [Loc.pv] at g1
          rw [g1] at this
          simp only [RepV] at this
          exact this.2
        · exact ⟨A,0,0,g⟩
      | dataA s t =>
        obtain ⟨rfl,q,h4,h5⟩ := h2
        simp only [HV.read] at h1
        have hu : RepV c.wide (match (st.get d).untag with | .full e t l => .sl e t l | v => v) (a.tmps.getD d undef) := by
          have hp := (R.slots d).rep.untag
          cases hg : (st.get d).untag <;> rw [hg] at hp <;> try exact hp
          simp only [RepV] at hp ⊢
          obtain ⟨A,k1,k2,k3⟩ := hp
          exact ⟨A,_,k1,Nat.le_refl _,k2,k3⟩
        have hd : Dat c.w c.ra t y [a.tmps.getD d undef] := Ty.of_dat (c := c.wide) h1 (by simp only [RepL]; exact ⟨_,[],rfl,hu,rfl⟩)
        have := Dat.leavesA (c := headCx h st st2 a c) (show Dat _ _ t y [_] from hd)
        rw [h4] at this
        simp only [List.map,RepL] at this
        obtain ⟨v,r',e1,e2,_⟩ := this
        simp only [List.cons.injEq] at e1
        rw [e1.1,h5]
        refine SlotOK.of e2 ?_
        intro s' w' q' hq
        have h6 := leaves_nogd t y q (by rw [h4]; simp)
        cases q <;> simp [PV.tag] at hq
        simp [PV.isGd] at h6
      | boxA _ _ => exact h2.elim
      | arr _ _ _ _ => exact h2.elim
      | box _ _ => exact h2.elim
      | rowk _ _ _ => exact h2.elim
      | mrowk _ _ _ => exact h2.elim
      | crow _ _ _ _ _ => exact h2.elim
      | boxr _ _ _ _ => exact h2.elim
      | boxs _ _ _ _ _ _ => exact h2.elim
      | mpk _ _ => exact h2.elim
      | iterk _ _ => exact h2.elim
  · -- objects
    rcases layL_obj _ _ x st hr k o ho with h1 | ⟨v,hv,y,h1,h2⟩
    · rcases hstay k o h1 with rfl | ⟨h2,h3⟩
      · trivial
      · have hn := hnrow k h2
        refine (R.objs k o (by rw [R.ob]; exact h3)).move hmv (fun i hi => ?_) hn (fun _ => rfl)
        cases hrs : rowLoc h.vars i with
        | none => rfl
        | some s =>
          have := (headOk_loc hh hrs).2.2
          have hf : ∃ v,St.findO (base h w st0).o k = some (v,o) := by
            unfold St.obj at h1
            cases hf : St.findO (base h w st0).o k with
            | none => rw [hf] at h1; simp at h1
            | some p => rw [hf] at h1; simp only [Option.some.injEq] at h1; exact ⟨p.1,by rw [← h1]⟩
          obtain ⟨v,hf⟩ := hf
          rw [findO_refs _ k i v o hf hi] at this
          simp at this
    · cases v with
      | data s t => exact h2.elim
      | dataA s t => exact h2.elim
      | boxA k' t =>
        obtain ⟨rfl,rfl⟩ := h2
        have hn := headOk_key hh hv (k := _) rfl
        simp only [HV.read] at h1
        split at h1
        · rename_i cl ho2
          obtain ⟨cs,q1,q2⟩ := R.objs k _ (by rw [R.ob]; exact ho2)
          refine ⟨cs,by rw [hρ k hn]; exact q1,?_⟩
          exact Dat.leavesA (c := headCx h st st2 a c) (show Dat _ _ t y _ from Ty.of_dat (c := c.wide) h1 q2.untag)
        · simp at h1
      | row s K e t =>
        obtain ⟨rfl,rfl⟩ := h2
        rcases hrowv _ _ _ e t y hv rfl h1 with ⟨k0,g1,g2,g3,g4⟩ | ⟨rfl,A,g⟩
        · obtain ⟨A,n,q1,q2⟩ := R.objs k0 _ (by rw [R.ob]; exact g2)
          refine ⟨A,n,?_,?_⟩
          · simp only [headCx,rowLoc_mem hnd hv rfl]; rw [g3]; exact q1
          · simp only [headCx,g4]; exact q2
        · exact ⟨A,0,by simp only [headCx,rowLoc_mem hnd hv rfl]; exact g,Nat.le_refl _,by omega,.inl rfl⟩
      | crow k' i K e t =>
        obtain ⟨rfl,rfl⟩ := h2
        rcases hrowv _ _ _ e t y hv rfl h1 with ⟨k0,g1,g2,g3,g4⟩ | ⟨rfl,A,g⟩
        · obtain ⟨A,n,q1,q2⟩ := R.objs k0 _ (by rw [R.ob]; exact g2)
          refine ⟨A,n,?_,?_⟩
          · simp only [headCx,rowLoc_mem hnd hv rfl]; rw [g3]; exact q1
          · simp only [headCx,g4]; exact q2
        · exact ⟨A,0,by simp only [headCx,rowLoc_mem hnd hv rfl]; exact g,Nat.le_refl _,by omega,.inl rfl⟩
      | boxr k' K ta tb =>
        obtain ⟨rfl,rfl⟩ := h2
        have hn := headOk_key hh hv (k := _) rfl
        obtain ⟨e,t,hu⟩ := headOk_boxr hh hv
        simp only [HV.read] at h1
        split at h1
        · rename_i cl ho2
          split at h1
          · rename_i x1 x2 hx1 hx2
            obtain ⟨hlen,h1⟩ := cond_some h1
            have hlen := Nat.le_of_ble_eq_true hlen
            simp only [Option.some.injEq] at h1
            subst h1
            obtain ⟨cs,q1,q2⟩ := R.objs k _ (by rw [R.ob]; exact ho2)
            refine ⟨cs,by rw [hρ k hn]; exact q1,?_⟩
            have hcl : cs.toList.length = cl.length := q2.length
            have hsplit : cs.toList = cs.toList.take ta.size ++ (cs.toList[ta.size]'(by omega)) :: cs.toList.drop (ta.size + 1) := by
              rw [← List.drop_eq_getElem_cons,List.take_append_drop]
            rw [hsplit]
            refine RepL.append (Dat.leaves (c := headCx h st st2 a c) (show Dat _ _ ta x1 _ from Ty.of_dat (c := c) hx1 (q2.take _))) ?_
            simp only [RepL]
            refine ⟨_,_,rfl,?_,Dat.leaves (c := headCx h st st2 a c) (show Dat _ _ tb x2 _ from Ty.of_dat (c := c) hx2 (q2.drop _))⟩
            have hval : Loc.val a c (.cell k ta.size) = cs.toList[ta.size]'(by omega) := by
              obtain ⟨e',q3,_⟩ := q1
              simp only [Loc.val,q3]
              have : ta.size < cs.size := by simpa using (show ta.size < cs.toList.length by omega)
              simp [Array.getD_eq_getD_getElem?,this]
            simp only [RepV]
            refine ⟨by simp only [headCx,rowLoc_mem hnd hu rfl]; exact hval.symm,?_⟩
            obtain ⟨z,hz⟩ := readL_mem hr hu
            rcases hrowv _ _ _ e t z hu rfl hz with ⟨k0,g1,g2,g3,g4⟩ | ⟨rfl,A,g⟩
            · have := loc_rep R (.cell k ta.size)
              rw [g1] at this
              simp only [RepV] at this
              rw [← hval]
              exact this.2
            · rw [← hval]; exact ⟨A,0,0,g⟩
          · simp at h1
        · simp at h1
      | boxs k' K K' ta tb tc =>
        obtain ⟨rfl,rfl⟩ := h2
        have hn := headOk_key hh hv (k := _) rfl
        obtain ⟨⟨e,t,hu⟩,e',t',hu'⟩ := headOk_boxs hh hv
        simp only [HV.read] at h1
        split at h1
        · rename_i cl ho2
          split at h1
          · rename_i x1 x2 x3 hx1 hx2 hx3
            obtain ⟨hlen,h1⟩ := cond_some h1
            have hlen := Nat.le_of_ble_eq_true hlen
            simp only [Option.some.injEq] at h1
            subst h1
            obtain ⟨cs,q1,q2⟩ := R.objs k _ (by rw [R.ob]; exact ho2)
            refine ⟨cs,by rw [hρ k hn]; exact q1,?_⟩
            have hcl : cs.toList.length = cl.length := q2.length
            have hsplit : cs.toList = cs.toList.take ta.size ++ (cs.toList[ta.size]'(by omega)) :: ((cs.toList.drop (ta.size + 1)).take tb.size ++ (cs.toList[ta.size + 1 + tb.size]'(by omega)) :: cs.toList.drop (ta.size + 1 + tb.size + 1)) := by
              have h2 : (cs.toList.drop (ta.size + 1)).take tb.size ++ cs.toList.drop (ta.size + 1 + tb.size) = cs.toList.drop (ta.size + 1) := by
                rw [show cs.toList.drop (ta.size + 1 + tb.size) = (cs.toList.drop (ta.size + 1)).drop tb.size by rw [List.drop_drop],List.take_append_drop]
              rw [← List.drop_eq_getElem_cons,h2,← List.drop_eq_getElem_cons,List.take_append_drop]
            rw [hsplit]
            have cell : ∀ (i : Nat) (hi : i < cs.toList.length) (K : Nat) (e : TypeId) (t : Ty),HV.crow k i K e t ∈ h.vars → RepV (headCx h st st2 a c) (.own K) (cs.toList[i]'hi) := by
              intro i hi K e t hu
              have hval : Loc.val a c (.cell k i) = cs.toList[i]'hi := by
                obtain ⟨e',q3,_⟩ := q1
                simp only [Loc.val,q3]
                have : i < cs.size := by simpa using hi
                simp [Array.getD_eq_getD_getElem?,this]
              simp only [RepV]
              refine ⟨by simp only [headCx,rowLoc_mem hnd hu rfl]; exact hval.symm,?_⟩
              obtain ⟨z,hz⟩ := readL_mem hr hu
              rcases hrowv _ _ _ e t z hu rfl hz with ⟨k0,g1,g2,g3,g4⟩ | ⟨rfl,A,g⟩
              · have := loc_rep R (.cell k i)
                rw [g1] at this
                simp only [RepV] at this
                rw [← hval]
                exact this.2
              · rw [← hval]; exact ⟨A,0,0,g⟩
            refine RepL.append (Dat.leaves (c := headCx h st st2 a c) (show Dat _ _ ta x1 _ from Ty.of_dat (c := c) hx1 (q2.take _))) ?_
            simp only [RepL]
            refine ⟨_,_,rfl,cell _ _ _ e t hu,?_⟩
            refine RepL.append (Dat.leaves (c := headCx h st st2 a c) (show Dat _ _ tb x2 _ from Ty.of_dat (c := c) hx2 ((q2.drop _).take _))) ?_
            simp only [RepL]
            exact ⟨_,_,rfl,cell _ _ _ e' t' hu',Dat.leaves (c := headCx h st st2 a c) (show Dat _ _ tc x3 _ from Ty.of_dat (c := c) hx3 (q2.drop _))⟩
          · simp at h1
        · simp at h1
      | arr k' e t n =>
        obtain ⟨rfl,rfl⟩ := h2
        have hn := headOk_key hh hv (k := _) rfl
        simp only [HV.read] at h1
        split at h1
        · rename_i e2 t2 n2 l2 ho2
          split at h1
          · rename_i he
            split at h1
            · rename_i ht
              subst ht
              simp only [Option.some.injEq] at h1
              subst h1
              have := R.objs k _ (by rw [R.ob]; exact ho2)
              rw [he.1,he.2] at this
              refine this.move hmv (fun i hi => by simp [Ob.refs] at hi) hn (fun _ => rfl)
            · simp at h1
          · simp at h1
        · simp at h1
      | box k' t =>
        obtain ⟨rfl,rfl⟩ := h2
        have hn := headOk_key hh hv (k := _) rfl
        simp only [HV.read] at h1
        split at h1
        · rename_i cl ho2
          obtain ⟨cs,q1,q2⟩ := R.objs k _ (by rw [R.ob]; exact ho2)
          refine ⟨cs,by rw [hρ k hn]; exact q1,?_⟩
          exact Dat.leaves (c := headCx h st st2 a c) (show Dat _ _ t y _ from Ty.of_dat (c := c) h1 q2)
        · simp at h1
      | rowk k' e t =>
        obtain ⟨rfl,rfl⟩ := h2
        have hn := headOk_key hh hv (k := _) rfl
        simp only [HV.read] at h1
        split at h1
        · rename_i e2 t2 l2 ho2
          split at h1
          · rename_i he
            split at h1
            · rename_i ht
              subst ht
              simp only [Option.some.injEq] at h1
              subst h1
              have := R.objs k _ (by rw [R.ob]; exact ho2)
              rw [he] at this
              refine this.move hmv (fun i hi => by simp [Ob.refs] at hi) hn (fun _ => rfl)
            · simp at h1
          · simp at h1
        · simp at h1
      | mrowk k' e t =>
        obtain ⟨rfl,rfl⟩ := h2
        have hn := headOk_key hh hv (k := _) rfl
        simp only [HV.read] at h1
        split at h1
        · rename_i e2 t2 l2 n2 ho2
          split at h1
          · rename_i he
            split at h1
            · rename_i ht
              subst ht
              simp only [Option.some.injEq] at h1
              subst h1
              have := R.objs k _ (by rw [R.ob]; exact ho2)
              rw [he] at this
              refine this.move hmv (fun i hi => by simp [Ob.refs] at hi) hn (fun _ => rfl)
            · simp at h1
          · simp at h1
        · simp at h1
      | mpk k' mt =>
        obtain ⟨rfl,rfl⟩ := h2
        have hn := headOk_key hh hv (k := _) rfl
        simp only [HV.read] at h1
        split at h1
        · rename_i m2 l2 ho2
          split at h1
          · rename_i hm2
            subst hm2
            simp only [Option.some.injEq] at h1
            subst h1
            have := R.objs k _ (by rw [R.ob]; exact ho2)
            refine this.move hmv (fun i hi => by simp [Ob.refs] at hi) hn (fun _ => rfl)
          · simp at h1
        · simp at h1
      | iterk k' mt =>
        obtain ⟨rfl,rfl⟩ := h2
        have hn := headOk_key hh hv (k := _) rfl
        simp only [HV.read] at h1
        split at h1
        · rename_i m2 l2 cur2 ho2
          split at h1
          · rename_i hm2
            subst hm2
            simp only [Option.some.injEq] at h1
            subst h1
            obtain ⟨bo,since,seen,last,g1,g2⟩ := R.objs k _ (by rw [R.ob]; exact ho2)
            have := (show RepO c k (.iter m2 l2 none) from ⟨bo,since,seen,last,g1,by
              rcases g2 with ⟨q1,q2,_⟩ | ⟨b,es,q1,q2,q3,q4,q5,q6,q7⟩
              · exact .inl ⟨q1,q2,rfl⟩
              · exact .inr ⟨b,es,q1,q2,q3,q4,q5,q6,fun x y hc => by simp at hc⟩⟩)
            refine this.move hmv (fun i hi => by simp [Ob.refs] at hi) hn (fun _ => rfl)
          · simp at h1
        · simp at h1
  · -- apart
    obtain ⟨o1,c1⟩ := hown k hk
    obtain ⟨o2,c2⟩ := hown k' hk'
    have hsk : srcK h st k = srcK h st k' := R.apart _ _ o1 o2 he
    rcases c1 with ⟨s1,e1⟩ | ⟨v,hv,hs1',hk1⟩ <;> rcases c2 with ⟨s2,e2⟩ | ⟨v',hv',hs2',hk2⟩
    · rw [← e1,← e2,hsk]
    · refine absurd s1 ?_
      rw [← e1,hsk]
      exact hs1 _ (hmem _ _ hv' hs2')
    · refine absurd s2 ?_
      rw [← e2,← hsk]
      exact hs1 _ (hmem _ _ hv hs1')
    · have : v = v' := filterMap_inj hs2 hv hv' hs1' (hsk ▸ hs2')
      subst this
      rcases hk1 with hk1 | hk1 <;> rcases hk2 with hk2 | hk2
      · rw [hk1] at hk2; simpa using hk2
      · cases v <;> simp [HV.objKey,HV.rowKey] at hk1 hk2
      · cases v <;> simp [HV.objKey,HV.rowKey] at hk1 hk2
      · rw [hk1] at hk2; simpa using hk2
  · -- mine
    obtain ⟨o1,_⟩ := hown k hk
    exact R.mine _ o1
end
end Go.Fw
