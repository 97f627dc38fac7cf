/- All code: what the evaluator says of it,the machine does. -/
import Derived.Test.YtgdfhijgjjcnjaaGreatDoorFwLoop
import Derived.Test.YtgdfhijgjjcnjaaGreatDoorFwTab
import Derived.Test.YtgdfhijgjjcnjaaGreatDoorFwIns
import Derived.LoopN
import Derived.Scope
set_option linter.unusedVariables false
set_option linter.unusedSimpArgs false
namespace Go.Fw

theorem lfp_some {S R : Type} {B : (S → Option R) → S → Option R} {s : S} {r : R} (h : lfp B s = some r) : ∃ n,iter B n s = some r := by
  unfold lfp at h
  split at h
  · rename_i hh
    obtain ⟨n,hn⟩ := hh.choose_spec
    exact ⟨n,by rw [hn n (Nat.le_refl _)]; exact h⟩
  · simp at h
theorem lfp_intro {S R : Type} {B : (S → Option R) → S → Option R} {s : S} {r : R} (n : Nat) (h : ∀ m,n ≤ m → iter B m s = some r) : lfp B s = some r := by
  have hh : ∃ r n,∀ m,n ≤ m → iter B m s = some r := ⟨r,n,h⟩
  unfold lfp
  rw [dif_pos hh]
  obtain ⟨k,hk⟩ := hh.choose_spec
  have h1 := hk (max n k) (Nat.le_max_right _ _)
  rw [h _ (Nat.le_max_left _ _)] at h1
  exact h1.symm
theorem lfp_rule {S R : Type} {B : (S → Option R) → S → Option R} (I : S → Prop) (μ : S → Nat) (f : S → R)
    (h : ∀ x,I x → ∀ rec : S → Option R,(∀ y,I y → μ y < μ x → rec y = some (f y)) → B rec x = some (f x)) (x : S) (hx : I x) : lfp B x = some (f x) := by
  have key : ∀ n m x,I x → μ x < m → m ≤ n → iter B m x = some (f x) := by
    intro n
    induction n with
    | zero => intro m x _ h1 h2; omega
    | succ n ih =>
      intro m x hx h1 h2
      cases m with
      | zero => omega
      | succ m => exact h x hx _ fun y hy hlt => ih m y hy (by omega) (by omega)
  exact lfp_intro (μ x + 1) fun m hm => key m m x hx (by omega) (Nat.le_refl _)

theorem region_slots (ops : Array Oper) {l : List Oper} (hl : l = ops.toList) {o : Oper} (ho : o ∈ l) : Slots (ops.toList.filterMap (·.dst)) ops o := by
  subst hl
  refine ⟨fun x hx => List.mem_filterMap.2 ⟨o,ho,hx⟩,fun j w hg s hs => ?_,fun o' ho' x hx => List.mem_filterMap.2 ⟨o',ho',hx⟩⟩
  cases hj : ops[j]? with
  | none => rw [hj] at hs; simp at hs
  | some oj =>
    rw [hj] at hs
    exact List.mem_filterMap.2 ⟨oj,by rw [Array.mem_toList_iff]; exact Array.mem_of_getElem? hj,hs⟩

theorem thaw_agree {D : List Nat} (st : St) {s : Nat} (hs : s ∈ D) : Agree D st (thaw st s) := by
  unfold thaw
  split
  · exact agree_set _ hs _
  · split
    · rename_i p st1 hp
      exact Agree.put (Obj.plain hp) (d := some s) (fun x hx => by cases hx; exact hs) p
    · exact Agree.refl _ _
  · split
    · exact Agree.put (Obj.setO _ _ _) (d := some s) (fun x hx => by cases hx; exact hs) _
    · exact Agree.refl _ _
  · split
    · exact Agree.put (Obj.setO _ _ _) (d := some s) (fun x hx => by cases hx; exact hs) _
    · exact Agree.refl _ _
  · exact Agree.refl _ _
theorem thaws_agree (ops : Array Oper) : ∀ (l : List Nat) (st : St),Agree (ops.toList.filterMap (·.dst)) st (thaws ops l st)
  | [],st => Agree.refl _ _
  | s :: l,st => by
    have ih := fun st => thaws_agree ops l st
    simp only [thaws,List.foldl_cons] at ih ⊢
    cases hb : ops.toList.any (fun o => isGdOf o.dst s) with
    | false => exact ih st
    | true =>
      simp only [cond_true]
      refine (thaw_agree st ?_).trans (ih _)
      obtain ⟨o',ho',hd⟩ := List.any_eq_true.1 hb
      unfold isGdOf at hd
      split at hd
      · rename_i d hdd
        have := beq_true.1 hd
        subst this
        exact List.mem_filterMap.2 ⟨o',ho',hdd⟩
      · simp at hd
theorem relabel {m : MM} {w0 : World} {st : St} {a : Act} {c : Cx} (h : Rep m w0 st a c) {s : Nat} {p : PV} (hp : RepV c p (a.tmps.getD s undef)) (hg : p.isGd = false) : Rep m w0 (st.set s p) a c := by
  refine ⟨h.size.set _ _,fun d => ?_,h.defers,h.ob,h.objs,h.apart,h.mine,h.ok,h.kept,h.old,h.new,h.pin,h.a,h.low,h.q⟩
  have : (st.set s p).get d = if d = s ∧ st.s.has s = true then p else st.get d := go_set _ _ _ _
  rw [this]
  split
  · rename_i hd
    rw [hd.1]
    exact SlotOK.of hp (ne_gd hg)
  · exact h.slots d
theorem thaw_rep {m : MM} {w0 : World} {st : St} {a : Act} {c : Cx} (h : Rep m w0 st a c) (s : Nat) : ∃ c' : Cx,c'.w = c.w ∧ Rep m w0 (thaw st s) a c' := by
  have hs := h.slots s
  unfold thaw
  split
  · rename_i e t l hg
    rw [hg] at hs
    simp only [SlotOK,RepV] at hs
    obtain ⟨A,h1,h2,h3⟩ := hs
    refine ⟨c,rfl,relabel h ?_ rfl⟩
    simp only [RepV]
    exact ⟨A,_,h1,Nat.le_refl _,h2,h3⟩
  · rename_i k hg
    rw [hg] at hs
    have hv : RepV c (.own k) (a.tmps.getD s undef) := hs
    split
    · rename_i p st1 hp
      obtain ⟨c1,e1,r1,v1,s1,m1⟩ := plain_sound h hv hp
      refine ⟨c1,e1,relabel r1 v1 ?_⟩
      unfold St.plain at hp
      split at hp
      · split at hp
        · simp only [Option.some.injEq,Prod.mk.injEq] at hp; rw [← hp.1]; rfl
        · simp only [Option.some.injEq,Prod.mk.injEq] at hp; rw [← hp.1]; rfl
        · simp at hp
      · rename_i hne
        exact absurd rfl (hne k)
    · exact ⟨c,rfl,h⟩
  · rename_i k hg
    rw [hg] at hs
    have hv : RepV c (.mown k) (a.tmps.getD s undef) := hs
    split
    · rename_i mt l ho
      have hob : c.ob k = some (.mp mt l) := by rw [h.ob]; exact ho
      obtain ⟨es,clock,q1,q2⟩ := h.objs k _ hob
      have hown : Owns c k := ⟨_,hob,trivial⟩
      let ok1 : Nat → Prop := fun b => c.ok b ∨ (Owns c k ∧ b = c.ρ k)
      have r1 : Rep m w0 (st.del k) a { w := c.w,ok := ok1,ρ := c.ρ,σ := c.σ,pin := c.pin,a := c.a,q := c.q,ob := (st.setO k .gone).obj } := by
        refine h.setObj (o := .mp mt l) (o' := .gone) ho ok1 h.kept (Nat.le_refl _) (fun _ _ => rfl) (fun b hb => .inl hb) (fun b hb => ?_) (by simp [RowAt]) trivial (fun hw => by simp [OwnsO] at hw) (hum := fun b hb => hb.imp_right fun ⟨h1,h2⟩ => h2 ▸ h.ownUnm h1)
        rcases hb with hb | ⟨hb,rfl⟩
        · exact ⟨h.ok b hb,fun k' _ hk' he => (h.mine k' hk').1 (he ▸ hb)⟩
        · exact ⟨(h.mine k hb).2.2,fun k' hne hk' he => hne (h.apart k' k hk' hb he)⟩
      refine ⟨{ w := c.w,ok := ok1,ρ := c.ρ,σ := c.σ,pin := c.pin,a := c.a,q := c.q,ob := (st.setO k .gone).obj },rfl,relabel r1 ?_ rfl⟩
      simp only [RepV] at hv ⊢
      exact ⟨some (c.ρ k),hv,.inr ⟨_,es,clock,rfl,.inr ⟨hown,rfl⟩,q1,q2.1.move (fun _ _ => rfl) (fun b hb => .inl hb),q2.2⟩⟩
    · exact ⟨c,rfl,h⟩
  · rename_i k off hg
    rw [hg] at hs
    have hv : RepV c (.ptr k off) (a.tmps.getD s undef) := hs
    split
    · rename_i l ho
      have hob : c.ob k = some (.box l) := by rw [h.ob]; exact ho
      obtain ⟨cs,q1,q2⟩ := h.objs k _ hob
      have hown : Owns c k := ⟨_,hob,trivial⟩
      let ok1 : Nat → Prop := fun b => c.ok b ∨ (Owns c k ∧ b = c.ρ k)
      have r1 : Rep m w0 (st.del k) a { w := c.w,ok := ok1,ρ := c.ρ,σ := c.σ,pin := c.pin,a := c.a,q := c.q,ob := (st.setO k .gone).obj } := by
        refine h.setObj (o := .box l) (o' := .gone) ho ok1 h.kept (Nat.le_refl _) (fun _ _ => rfl) (fun b hb => .inl hb) (fun b hb => ?_) (by simp [RowAt]) trivial (fun hw => by simp [OwnsO] at hw) (hum := fun b hb => hb.imp_right fun ⟨h1,h2⟩ => h2 ▸ h.ownUnm h1)
        rcases hb with hb | ⟨hb,rfl⟩
        · exact ⟨h.ok b hb,fun k' _ hk' he => (h.mine k' hk').1 (he ▸ hb)⟩
        · exact ⟨(h.mine k hb).2.2,fun k' hne hk' he => hne (h.apart k' k hk' hb he)⟩
      have hm : Mv (fun _ => True) c { w := c.w,ok := ok1,ρ := c.ρ,σ := c.σ,pin := c.pin,a := c.a,q := c.q,ob := (st.setO k .gone).obj } := h.setMv ho ok1 (fun _ _ => rfl) (fun b hb => .inl hb) (by simp [RowAt]) (by simp)
      refine ⟨{ w := c.w,ok := ok1,ρ := c.ρ,σ := c.σ,pin := c.pin,a := c.a,q := c.q,ob := (st.setO k .gone).obj },rfl,relabel r1 ?_ rfl⟩
      simp only [RepV] at hv ⊢
      refine ⟨c.ρ k,off,cs.toList.drop off,hv,.inl (.inr ⟨hown,rfl⟩),RepL.drop off (RepL.move hm _ _ (fun _ _ => trivial) q2),fun i u hu => ?_⟩
      rw [List.getElem?_drop] at hu
      rw [q1.cell (off + i)]
      simpa using hu
    · exact ⟨c,rfl,h⟩
  · exact ⟨c,rfl,h⟩
theorem thaws_rep {m : MM} {w0 : World} {a : Act} (ops : Array Oper) : ∀ (l : List Nat) {st : St} {c : Cx},Rep m w0 st a c → ∃ c' : Cx,c'.w = c.w ∧ Rep m w0 (thaws ops l st) a c'
  | [],st,c,h => ⟨c,rfl,h⟩
  | s :: l,st,c,h => by
    have ih := fun (st : St) (c : Cx) (h : Rep m w0 st a c) => thaws_rep ops l h
    simp only [thaws,List.foldl_cons] at ih ⊢
    cases ops.toList.any (fun o => isGdOf o.dst s) with
    | false => exact ih st c h
    | true =>
      obtain ⟨c1,e1,r1⟩ := thaw_rep h s
      obtain ⟨c2,e2,r2⟩ := ih _ c1 r1
      exact ⟨c2,e2.trans e1,r2⟩
theorem Obj.agree {D : List Nat} {st st1 : St} (h : Obj st st1) : Agree D st st1 := ⟨fun i => by rw [h.s],fun d _ _ => by simp only [St.get,h.s],h.ob⟩
theorem thawB_obj (st : St) (k : Nat) : Obj st (thawB st k) := by
  unfold thawB
  split
  · split
    · rename_i hp
      split
      · exact (Obj.plainX hp).trans (Obj.setO _ _ _)
      · exact Obj.refl _
    · exact Obj.refl _
  · exact Obj.refl _
theorem thawBs_obj : ∀ (l : List Nat) (st : St),Obj st (thawBs l st)
  | [],st => Obj.refl _
  | k :: l,st => (thawB_obj st k).trans (thawBs_obj l _)
theorem thawB_rep {m : MM} {w0 : World} {st : St} {a : Act} {c : Cx} (h : Rep m w0 st a c) (v : Nat) : ∃ c' : Cx,c'.w = c.w ∧ Rep m w0 (thawB st v) a c' := by
  unfold thawB
  generalize v % 1099511627776 = k
  generalize v / 1099511627776 = x
  split
  · rename_i bc ho
    split
    · rename_i bc' st1 hp
      split
      · rename_i bc2 ho2
        obtain ⟨cs,q1,q2⟩ := h.objs k _ (by rw [h.ob]; exact ho)
        obtain ⟨c1,e1,r1,v1,s1,m1⟩ := plainX_sound h q2 hp
        have hob2 : c1.ob k = some (.box bc2) := by rw [r1.ob]; exact ho2
        obtain ⟨cs2,q3,q4⟩ := r1.objs k _ hob2
        have hcs : cs2 = cs := by
          obtain ⟨x1,y1,_⟩ := q1
          obtain ⟨x2,y2,_⟩ := q3
          rw [e1,m1.ρ k trivial,y1] at y2
          simp only [Option.some.injEq,Obj.cells.injEq] at y2
          exact y2.1.symm
        subst hcs
        have hown : Owns c1 k := ⟨_,hob2,trivial⟩
        refine ⟨{ w := c1.w,ok := c1.ok,ρ := c1.ρ,σ := c1.σ,pin := c1.pin,a := c1.a,q := c1.q,ob := (st1.setO k (.box bc')).obj },e1,r1.setObj (o := .box bc2) (o' := .box bc') ho2 c1.ok r1.kept (Nat.le_refl _) (fun _ _ => rfl) (fun _ hb => hb) (fun b hb => ⟨r1.ok b hb,fun k' _ hk' he => (r1.mine k' hk').1 (he ▸ hb)⟩) (by simp [RowAt]) ?_ (fun _ => ⟨trivial,(r1.mine k hown).1⟩)⟩
        exact ⟨cs2,q3,RepL.move (r1.setMv ho2 c1.ok (fun _ _ => rfl) (fun _ hb => hb) (by simp [RowAt]) (by simp)) _ _ (fun _ _ => trivial) v1⟩
      · exact ⟨c,rfl,h⟩
    · exact ⟨c,rfl,h⟩
  · exact ⟨c,rfl,h⟩
theorem thawBs_rep {m : MM} {w0 : World} {a : Act} : ∀ (l : List Nat) {st : St} {c : Cx},Rep m w0 st a c → ∃ c' : Cx,c'.w = c.w ∧ Rep m w0 (thawBs l st) a c'
  | [],st,c,h => ⟨c,rfl,h⟩
  | k :: l,st,c,h => by
    obtain ⟨c1,e1,r1⟩ := thawB_rep h k
    obtain ⟨c2,e2,r2⟩ := thawBs_rep l r1
    exact ⟨c2,e2.trans e1,r2⟩
section
variable {R : Type}
theorem spoil_obj (l : List Nat) (st : St) : Obj st (spoil l st) := by
  unfold spoil
  split
  · exact Obj.refl _
  · cases st.live with
    | true => exact Obj.del _ _
    | false => exact Obj.refl _
theorem spoil_rep {m : MM} {w0 : World} {st : St} {a : Act} {c : Cx} (l : List Nat) (h : Rep m w0 st a c) : ∃ c1 : Cx,c1.w = c.w ∧ Rep m w0 (spoil l st) a c1 := by
  unfold spoil
  split
  · exact ⟨c,rfl,h⟩
  · cases hl : st.live with
    | true => exact ⟨{ c with ob := (st.del QK).obj },rfl,h.del (live_ob hl)⟩
    | false => exact ⟨c,rfl,h⟩
theorem sealOne_congr {R : Type} {st : St} {k : Nat} {K K' : St → Option R} (h : ∀ st1,Obj st st1 → K st1 = K' st1) : sealOne st k K = sealOne st k K' := by
  unfold sealOne
  split
  · congr 1
    exact h _ (Obj.setO _ _ _)
  · exact h _ (Obj.refl _)
theorem sealL_congr {R : Type} : ∀ {l : List Nat} {st : St} {K K' : St → Option R},(∀ st1,Obj st st1 → K st1 = K' st1) → sealL l st K = sealL l st K'
  | [],st,K,K',h => h st (Obj.refl _)
  | k :: r,st,K,K',h => by
    simp only [sealL]
    exact sealOne_congr fun st1 h1 => sealL_congr fun st2 h2 => h st2 (h1.trans h2)
theorem sealOne_sound {R : Type} {m : MM} {w0 : World} {st : St} {a : Act} {c : Cx} {k : Nat} {K : St → Option R} {r : R} (h : Rep m w0 st a c) (hr : sealOne st k K = some r) : ∃ (st1 : St) (c1 : Cx),c1.w = c.w ∧ Rep m w0 st1 a c1 ∧ K st1 = some r := by
  unfold sealOne at hr
  split at hr
  · rename_i e t l n ho
    obtain ⟨hle,hr⟩ := cond_some hr
    simp only [decide_eq_true_eq] at hle
    have hob : c.ob k = some (.mrow e t l n) := by rw [h.ob]; exact ho
    obtain ⟨A,cap,q1,q2,q3,q4⟩ := h.objs k _ hob
    refine ⟨_,{ w := c.w,ok := c.ok,ρ := c.ρ,σ := c.σ,pin := c.pin,a := c.a,q := c.q,ob := (st.setO k (.row e t l)).obj },rfl,h.setObj (o := .mrow e t l n) (o' := .row e t l) ho c.ok h.kept (Nat.le_refl _) (fun _ _ => rfl) (fun _ hb => hb) (fun b hb => ⟨h.ok b hb,fun k' _ hk' he => (h.mine k' hk').1 (he ▸ hb)⟩)
      (fun t' l' hl' => by obtain ⟨rfl,hl'⟩ := hl'.row; exact ⟨l,.inr (.inr ⟨e,n,rfl⟩),hl'.symm⟩) ⟨A,cap,q1,q2,q3,q4.imp_right fun ⟨r1,cs,r2,r3,r4,r5⟩ => ⟨r1,cs,r2,r3,r4.done hle,r5⟩⟩
      (fun hw => ⟨hw,(h.mine k ⟨_,hob,hw⟩).1⟩),hr⟩
  · exact ⟨st,c,rfl,h,hr⟩
theorem sealL_sound {R : Type} {m : MM} {w0 : World} {a : Act} : ∀ {l : List Nat} {st : St} {c : Cx} {K : St → Option R} {r : R},Rep m w0 st a c → sealL l st K = some r → ∃ (st1 : St) (c1 : Cx),c1.w = c.w ∧ Rep m w0 st1 a c1 ∧ K st1 = some r
  | [],st,c,K,r,h,hr => ⟨st,c,rfl,h,hr⟩
  | k :: q,st,c,K,r,h,hr => by
    simp only [sealL] at hr
    obtain ⟨st1,c1,e1,h1,hr1⟩ := sealOne_sound h hr
    obtain ⟨st2,c2,e2,h2,hr2⟩ := sealL_sound h1 hr1
    exact ⟨st2,c2,e2.trans e1,h2,hr2⟩
theorem evC_congr (C : Ctx) (hF : C.Fair) (H : Nat → Head) : ∀ (code : Code) (st : St) (K K' : Ex → St → Option R),(∀ e st',Agree (dsts code) st st' → K e st' = K' e st') → evC C H code st K = evC C H code st K'
  | .skip,st,K,K',h => h _ st (Agree.refl _ _)
  | .region id ops dr,st,K,K',h => by
    simp only [evC]
    congr 1
    · congr 1
      exact evAnyT_congr hF (D := dsts (.region id ops dr)) (fun i o hi => region_slots ops rfl (by rw [Array.mem_toList_iff]; exact Array.mem_of_getElem? hi)) _ fun st1 h1 => h _ _ (((h1.trans (agree_ungd _)).trans (thaws_agree ops _ _)).trans (thawBs_obj _ _).agree)
    · refine evOps_congr C hF (D := dsts (.region id ops dr)) _ _ (fun o ho => region_slots ops rfl ho) fun st1 h1 => h _ _ (((h1.trans ?_).trans (thaws_agree ops _ _)).trans (thawBs_obj _ _).agree)
      cases ops.any fun o => o.guard.isSome with
      | true => exact agree_ungd _
      | false => exact Agree.refl _ _
  | .seq x y,st,K,K',h => by
    simp only [evC]
    refine evC_congr C hF H x st _ _ fun e st1 h1 => ?_
    have h1' : Agree (dsts (.seq x y)) st st1 := h1.mono fun d hd => List.mem_append_left _ hd
    cases e with
    | normal => exact evC_congr C hF H y st1 _ _ fun e st2 h2 => h _ _ (h1'.trans (h2.mono fun d hd => List.mem_append_right _ hd))
    | exit i => exact h _ _ h1'
    | ret => exact h _ _ h1'
  | .cond c x y,st,K,K',h => by
    simp only [evC]
    split
    · split
      · congr 1
        · exact evC_congr C hF H x st _ _ fun e st1 h1 => h _ _ (h1.mono fun d hd => List.mem_append_left _ hd)
        · exact evC_congr C hF H y st _ _ fun e st1 h1 => h _ _ (h1.mono fun d hd => List.mem_append_right _ hd)
      · generalize joinHead (H (8000000 + joinKey (.cond c x y))) st = hd
        cases hh : headOk hd (dsts x ++ dsts y) st with
        | false => rfl
        | true =>
          simp only [cond_true]
          congr 1
          · funext q
            exact h _ _ (lay_agree hh q)
          · funext J
            have hJ : ∀ e st1,Agree (dsts (.cond c x y)) st st1 → joinTo hd st K J e st1 = joinTo hd st K' J e st1 := by
              intro e st1 h1
              cases e with
              | normal => rfl
              | exit i => exact h _ _ h1
              | ret => exact h _ _ h1
            congr 1
            · exact evC_congr C hF H x st _ _ fun e st1 h1 => hJ _ _ (h1.mono fun d hd => List.mem_append_left _ hd)
            · exact evC_congr C hF H y st _ _ fun e st1 h1 => hJ _ _ (h1.mono fun d hd => List.mem_append_right _ hd)
    · rfl
  | .block id x,st,K,K',h => by
    simp only [evC]
    refine evC_congr C hF H x st _ _ fun e st1 h1 => ?_
    cases e with
    | normal => exact h _ _ h1
    | exit i => simp only; congr 1 <;> exact h _ _ h1
    | ret => exact h _ _ h1
  | .loop x,st,K,K',h => by
    simp only [evC]
    generalize hsp : spoil (H (7000000 + loopKey x)).stay st = sp
    have h0 : Agree (dsts x) st sp := by rw [← hsp]; exact (spoil_obj _ _).agree
    replace h : ∀ e s2,Agree (dsts x) sp s2 → K e s2 = K' e s2 := fun e s2 h2 => h e s2 (h0.trans h2)
    clear h0 hsp
    split
    · rename_i z hz
      cases hh : (headOk (H (loopKey x)) (dsts x) sp && srcOk (H (loopKey x)) sp) with
      | false => rfl
      | true =>
        simp only [cond_true]
        simp only [Bool.and_eq_true] at hh
        have : ∀ (rec : denL (H (loopKey x)).vars → Option R) (q : denL (H (loopKey x)).vars),(evC C H x (layL (base (H (loopKey x)) (dsts x) sp) (H (loopKey x)).vars q) fun e sp' => match e with
              | .normal => (match readL sp' (H (loopKey x)).vars with
                | some x' => bif stays (H (loopKey x)) sp sp' && srcOk (H (loopKey x)) sp' then rec x' else none
                | none => none)
              | e => sealL (H (6000000 + loopKey x)).stay sp' (K e)) = evC C H x (layL (base (H (loopKey x)) (dsts x) sp) (H (loopKey x)).vars q) fun e sp' => match e with
              | .normal => (match readL sp' (H (loopKey x)).vars with
                | some x' => bif stays (H (loopKey x)) sp sp' && srcOk (H (loopKey x)) sp' then rec x' else none
                | none => none)
              | e => sealL (H (6000000 + loopKey x)).stay sp' (K' e) := by
          intro rec q
          refine evC_congr C hF H x _ _ _ fun e s1 h1 => ?_
          have hq : Agree (dsts x) sp s1 := by
            exact (lay_agree hh.1 q).trans h1
          cases e with
          | normal => rfl
          | exit i => exact sealL_congr fun s2 h2 => h _ _ (hq.trans h2.agree)
          | ret => exact sealL_congr fun s2 h2 => h _ _ (hq.trans h2.agree)
        congr 1
        funext rec q
        exact this rec q
    · rfl
  | .exit id,st,K,K',h => h _ _ (Agree.refl _ _)
  | .ret,st,K,K',h => h _ _ (Agree.refl _ _)
  | .goto _,_,_,_,_ => rfl
  | .label _,st,K,K',h => h _ _ (Agree.refl _ _)
  | .scope x,st,K,K',h => by
    simp only [evC]
    exact evC_congr C hF H x st K K' h
  | .rangeFunc ..,_,_,_,_ => rfl
  | .refuse _,_,_,_,_ => rfl

def toExit : Ex → Exit
  | .normal => .normal
  | .exit i => .exit i
  | .ret => .ret

theorem evC_sound {C : Ctx} (hm : C.P.follows .mixedOrders = true) (hS : C.Sound) (H : Nat → Head) : ∀ (code : Code) (st : St) (K : Ex → St → Option R) (r : R) (m : MM) (w0 : World) (a : Act) (c : Cx) (Q : Exit → Act → World → Prop),
    C.GlobM m w0 → Rep m w0 st a c → evC C H code st K = some r → (∀ ch a w,¬ Q (.panic ch) a w) → (∀ e st' a' c',K e st' = some r → Rep m w0 st' a' c' → Q (toExit e) a' c'.w) → code.wp C.P Q a c.w
  | .skip,st,K,r,m,w0,a,c,Q,hG,h,hr,hp,hK => wp_skip (hK .normal st a c hr h)
  | .region id ops dr,st,K,r,m,w0,a,c,Q,hG,h,hr,hp,hK => by
    simp only [evC] at hr
    cases dr with
    | true =>
      simp only [cond_true] at hr
      obtain ⟨hns,hr⟩ := cond_some hr
      exact region_anyT hm hS.1 hns hp hG h hr fun st' a' c' hk h' => by
        obtain ⟨c2,e2,r2⟩ := thaws_rep ops (H (1000000 + id)).stay (ungd_rep h')
        obtain ⟨c3,e3,r3⟩ := thawBs_rep (H (3000000 + id)).stay r2
        have := hK .normal _ a' c3 hk r3
        rw [e3,e2] at this
        exact this
    | false =>
      simp only [cond_false] at hr
      refine region_sound ⟨hS.1,hG⟩ h hr fun st' a' c' hk h' => ?_
      have h2 : Rep m w0 (bif ops.any (fun o => o.guard.isSome) then st'.ungd else st') a' c' := by
        cases ops.any fun o => o.guard.isSome with
        | true => exact ungd_rep h'
        | false => exact h'
      obtain ⟨c2,e2,r2⟩ := thaws_rep ops (H (1000000 + id)).stay h2
      obtain ⟨c3,e3,r3⟩ := thawBs_rep (H (3000000 + id)).stay r2
      have := hK .normal _ a' c3 hk r3
      rw [e3,e2] at this
      exact this
  | .seq x y,st,K,r,m,w0,a,c,Q,hG,h,hr,hp,hK => by
    simp only [evC] at hr
    refine wp_seq (evC_sound hm hS H x st _ r m w0 a c _ hG h hr (fun ch a w hq => hp ch a w hq) fun e st' a' c' hk h' => ?_)
    cases e with
    | normal => exact evC_sound hm hS H y st' _ r m w0 a' c' Q hG h' hk hp hK
    | exit i => exact hK (.exit i) st' a' c' hk h'
    | ret => exact hK .ret st' a' c' hk h'
  | .cond x y z,st,K,r,m,w0,a,c,Q,hG,h,hr,hp,hK => by
    simp only [evC] at hr
    have ho := operand_rep h x
    split at hr
    · rename_i t ht
      rw [ht] at ho
      simp only [RepV] at ho
      refine wp_cond ho ?_
      split at hr
      · cases t with
        | true => exact evC_sound hm hS H y st K r m w0 a c Q hG h hr hp hK
        | false => exact evC_sound hm hS H z st K r m w0 a c Q hG h hr hp hK
      · generalize joinHead (H (8000000 + joinKey (.cond x y z))) st = hd at hr
        obtain ⟨hh,hr⟩ := cond_some hr
        rw [joinK_eq] at hr
        generalize hJ : (fun q => K .normal (layL (base hd (dsts y ++ dsts z) st) hd.vars q)) = J at hr
        have arm : ∀ u,(∀ d ∈ dsts u,d ∈ dsts y ++ dsts z) → (∀ (Ku : Ex → St → Option R),evC C H u st Ku = some r → (∀ e st' a' c',Ku e st' = some r → Rep m w0 st' a' c' → Q (toExit e) a' c'.w) → u.wp C.P Q a c.w) →
            evC C H u st (joinTo hd st K J) = some r → u.wp C.P Q a c.w := by
          intro u hu ih hr
          open Classical in
          rw [evC_congr C hS.2 H u _ _ (fun e st' => if Agree (dsts u) st st' then joinTo hd st K J e st' else none) (fun e st' hag => (if_pos hag).symm)] at hr
          refine ih _ hr fun e st' a' c' hk h' => ?_
          split at hk
          · rename_i hag
            cases e with
            | normal =>
              simp only [joinTo] at hk
              split at hk
              · rename_i x' hx'
                obtain ⟨hs,hk⟩ := cond_some hk
                simp only [Bool.and_eq_true] at hs
                obtain ⟨c2,hc2,R2⟩ := lay_rep hh hs.2 (hag.mono hu) hs.1 hx' h'
                rw [← hJ] at hk
                have := hK .normal _ a' c2 hk R2
                rw [hc2] at this
                exact this
              · simp at hk
            | exit i => exact hK (.exit i) st' a' c' hk h'
            | ret => exact hK .ret st' a' c' hk h'
          · simp at hk
        cases t with
        | true => exact arm y (fun d hd => List.mem_append_left _ hd) (fun Ku hr' hK' => evC_sound hm hS H y st Ku r m w0 a c Q hG h hr' hp hK') hr
        | false => exact arm z (fun d hd => List.mem_append_right _ hd) (fun Ku hr' hK' => evC_sound hm hS H z st Ku r m w0 a c Q hG h hr' hp hK') hr
    · simp at hr
  | .block id x,st,K,r,m,w0,a,c,Q,hG,h,hr,hp,hK => by
    simp only [evC] at hr
    refine wp_block (evC_sound hm hS H x st _ r m w0 a c _ hG h hr (fun ch a w hq => hp ch a w hq) fun e st' a' c' hk h' => ?_)
    cases e with
    | normal => exact hK .normal st' a' c' hk h'
    | exit i =>
      simp only at hk
      simp only [toExit,Exit.inBlock]
      cases hb : Nat.beq i id with
      | true => rw [hb] at hk; rw [if_pos (beq_true.1 hb)]; exact hK .normal st' a' c' hk h'
      | false => rw [hb] at hk; rw [if_neg (beq_false.1 hb)]; exact hK (.exit i) st' a' c' hk h'
    | ret => exact hK .ret st' a' c' hk h'
  | .loop x,st,K,r,m,w0,a,c,Q,hG,h,hr,hp,hK => by
    simp only [evC] at hr
    obtain ⟨c1,hc1,h1⟩ := spoil_rep (H (7000000 + loopKey x)).stay h
    rw [← hc1]
    generalize spoil (H (7000000 + loopKey x)).stay st = sp at hr h1
    clear h hc1
    revert h1
    generalize c1 = c
    intro h
    split at hr
    · rename_i z hz
      obtain ⟨hh,hr⟩ := cond_some hr
      simp only [Bool.and_eq_true] at hh
      obtain ⟨n,hn⟩ := lfp_some hr
      refine wp_loop_rounds n ?_
      have stays_refl : stays (H (loopKey x)) sp sp = true := by
        unfold stays
        refine List.all_eq_true.2 fun k _ => ?_
        cases St.findO sp.o k with
        | none => rfl
        | some p => exact beq_true.2 rfl
      obtain ⟨c0,hc0,R0⟩ := lay_rep hh.1 hh.2 (Agree.refl _ _) stays_refl hz h
      rw [← hc0]
      have key : ∀ (n : Nat) (q : denL (H (loopKey x)).vars) (a : Act) (c : Cx),Rep m w0 (layL (base (H (loopKey x)) (dsts x) sp) (H (loopKey x)).vars q) a c → iter (fun rec q => evC C H x (layL (base (H (loopKey x)) (dsts x) sp) (H (loopKey x)).vars q) fun e sp' => match e with
              | .normal => (match readL sp' (H (loopKey x)).vars with
                | some x' => bif stays (H (loopKey x)) sp sp' && srcOk (H (loopKey x)) sp' then rec x' else none
                | none => none)
              | e => sealL (H (6000000 + loopKey x)).stay sp' (K e)) n q = some r → Code.rounds C.P x Q n a c.w := by
        intro n
        induction n with
        | zero => intro q a c _ hn; simp [iter] at hn
        | succ n ih =>
          intro q a c R1 hn
          rw [rounds_succ]
          simp only [iter] at hn
          open Classical in
          rw [evC_congr C hS.2 H x _ _ (fun e sp' => if Agree (dsts x) sp sp' then (match e with
              | .normal => (match readL sp' (H (loopKey x)).vars with
                | some x' => bif stays (H (loopKey x)) sp sp' && srcOk (H (loopKey x)) sp' then iter (fun rec q => evC C H x (layL (base (H (loopKey x)) (dsts x) sp) (H (loopKey x)).vars q) fun e sp' => match e with
                  | .normal => (match readL sp' (H (loopKey x)).vars with
                    | some x' => bif stays (H (loopKey x)) sp sp' && srcOk (H (loopKey x)) sp' then rec x' else none
                    | none => none)
                  | e => sealL (H (6000000 + loopKey x)).stay sp' (K e)) n x' else none
                | none => none)
              | e => sealL (H (6000000 + loopKey x)).stay sp' (K e)) else none) (fun e sp' hag => (if_pos ((lay_agree hh.1 q).trans hag)).symm)] at hn
          refine evC_sound hm hS H x _ _ r m w0 a c _ hG R1 hn (fun ch a w hq => hp ch a w hq) fun e sp' a' c' hk h' => ?_
          split at hk
          · rename_i hag
            cases e with
            | normal =>
              simp only at hk
              split at hk
              · rename_i x' hx'
                obtain ⟨hs,hk⟩ := cond_some hk
                simp only [Bool.and_eq_true] at hs
                obtain ⟨c2,hc2,R2⟩ := lay_rep hh.1 hs.2 hag hs.1 hx' h'
                have := ih x' a' c2 R2 hk
                rw [hc2] at this
                exact this
              · simp at hk
            | exit i =>
              obtain ⟨s2,c2,e2,h2,hr2⟩ := sealL_sound h' hk
              have := hK (.exit i) s2 a' c2 hr2 h2
              rw [e2] at this
              exact this
            | ret =>
              obtain ⟨s2,c2,e2,h2,hr2⟩ := sealL_sound h' hk
              have := hK .ret s2 a' c2 hr2 h2
              rw [e2] at this
              exact this
          · simp at hk
      exact key n z a c0 R0 hn
    · simp at hr
  | .exit id,st,K,r,m,w0,a,c,Q,hG,h,hr,hp,hK => wp_exit (hK (.exit id) st a c hr h)
  | .ret,st,K,r,m,w0,a,c,Q,hG,h,hr,hp,hK => wp_ret (hK .ret st a c hr h)
  | .goto _,st,K,r,m,w0,a,c,Q,hG,h,hr,hp,hK => by simp [evC] at hr
  | .label _,st,K,r,m,w0,a,c,Q,hG,h,hr,hp,hK => wp_label (hK .normal st a c hr h)
  | .scope x,st,K,r,m,w0,a,c,Q,hG,h,hr,hp,hK => by
    simp only [evC] at hr
    refine wp_scope_straight (evC_sound hm hS H x st K r m w0 a c _ hG h hr (fun ch a w hq => hp ch a w hq) fun e st' a' c' hk h' => ?_)
    cases e with
    | normal => exact hK .normal st' a' c' hk h'
    | exit i => exact hK (.exit i) st' a' c' hk h'
    | ret => exact hK .ret st' a' c' hk h'
  | .rangeFunc ..,st,K,r,m,w0,a,c,Q,hG,h,hr,hp,hK => by simp [evC] at hr
  | .refuse _,st,K,r,m,w0,a,c,Q,hG,h,hr,hp,hK => by simp [evC] at hr
end
end Go.Fw
