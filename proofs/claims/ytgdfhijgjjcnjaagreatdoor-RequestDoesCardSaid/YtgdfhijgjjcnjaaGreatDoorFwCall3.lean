/- A call,carried out; all operations that act. -/
import Derived.Test.YtgdfhijgjjcnjaaGreatDoorFwCall2
import Derived.Test.YtgdfhijgjjcnjaaGreatDoorFwMap
set_option linter.unusedVariables false
set_option linter.unusedSimpArgs false
namespace Go.Fw
open Go.RowKit (Below)

section
variable {P : Program} {m : MM} {w0 : World} {st : St} {a : Act} {c : Cx} {R : Type} {K : St → Option R} {r : R} {o : Oper} {next : Act → World → Prop} {Q : Exit → Act → World → Prop}

theorem Kept.weaken {m m' : Nat → Prop} {w w' : World} (h : Kept m w w') (hm : ∀ b,m b → m' b) : Kept m' w w' := ⟨h.os,h.tape,h.output,h.size,fun k hk hn => h.block k hk (fun hb => hn (hm k hb))⟩
theorem zn_ok (ta : Bool) {ok a : Nat → Prop} {b : Nat} (h : ok b) : (bif ta then (fun b => ok b ∨ a b) else ok) b := by cases ta; exact h; exact .inl h
theorem zn_all (ta : Bool) {ok a : Nat → Prop} {b : Nat} (h : (bif ta then (fun b => ok b ∨ a b) else ok) b) : ok b ∨ a b := by cases ta; exact .inl h; exact h
theorem zn_sub (ta : Bool) {ok ok2 a : Nat → Prop} {b : Nat} (hs : ok b → ok2 b) (h : (bif ta then (fun b => ok b ∨ a b) else ok) b) : (bif ta then (fun b => ok2 b ∨ a b) else ok2) b := by cases ta; exact hs h; exact h.imp_left hs
theorem zn_true {ta : Bool} (ht : ta = true) {ok a : Nat → Prop} {b : Nat} (h : ok b ∨ a b) : (bif ta then (fun b => ok b ∨ a b) else ok) b := by subst ht; exact h
theorem ResLeaf.unm {w : World} {ok : Nat → Prop} {p : PV} {v : Value} {bs : List Nat} (h : ResLeaf w ok p v bs) : ∀ b ∈ bs,Unm w b := by
  cases p
  case fresh e t l =>
    obtain ⟨A,n,_,_,_,h4⟩ := h
    rcases h4 with ⟨_,rfl⟩ | ⟨g,rfl,_,cs,hc,_⟩
    · simp
    · intro b hb
      simp only [List.mem_singleton] at hb
      subst hb
      exact hc.unm
  all_goals
    obtain ⟨rfl,_⟩ := h
    simp
theorem ResL.unm {w : World} {ok : Nat → Prop} : ∀ {l : List PV} {vs : List Value} {bs : List Nat},ResL w ok l vs bs → ∀ b ∈ bs,Unm w b
  | [],_,_,⟨_,rfl⟩ => by simp
  | _ :: _,_,_,⟨v,r',b1,b2,_,rfl,h1,h2⟩ => fun b hb => (List.mem_append.1 hb).elim (h1.unm b) (ResL.unm h2 b)
theorem ResOne.unm {w : World} {ok : Nat → Prop} {p : PV} {v : Value} {bs : List Nat} (h : ResOne w ok p v bs) : ∀ b ∈ bs,Unm w b := by
  cases p
  case agg c => obtain ⟨a,_,h2⟩ := h; exact h2.unm
  all_goals (simp only [ResOne] at h; exact h.unm)
theorem ResAll.unm {w : World} {ok : Nat → Prop} : ∀ {l : List PV} {vs : List Value} {bs : List Nat},ResAll w ok l vs bs → ∀ b ∈ bs,Unm w b
  | [],_,_,⟨_,rfl⟩ => by simp
  | _ :: _,_,_,⟨v,r',b1,b2,_,rfl,h1,h2⟩ => fun b hb => (List.mem_append.1 hb).elim (h1.unm b) (ResAll.unm h2 b)
theorem ResV.unm {w : World} {ok : Nat → Prop} {p : PV} {v : Value} {bs : List Nat} (h : ResV w ok p v bs) : ∀ b ∈ bs,Unm w b := by
  cases p
  case tup c => obtain ⟨a,_,h2⟩ := h; exact h2.unm
  all_goals (simp only [ResV] at h; exact h.unm)
section
variable {w' : World} {ok' : Nat → Prop}
theorem qLeaf_rep {c : Cx} (hw : c.w = w') {p : PV} {v : Value} {bs : List Nat} (h : ResLeaf w' ok' p v bs) (hq : ∀ b,ok' b ∨ b ∈ bs → c.q b) : RepV c (qLeaf p) v := by
  subst hw
  cases p
  case fresh e t l =>
    obtain ⟨A,n,h1,h2,h3,h4⟩ := h
    simp only [qLeaf,RepV]
    have row : RowI c.w c.q t A l := fun h0 => by
      rcases h4 with ⟨h4,_⟩ | ⟨g,rfl,h5,cs,h6,h7,h8,h9⟩
      · omega
      · exact ⟨g,0,h5,hq g (.inr (by simp)),row_reads h6 (h8.move (fun _ _ => rfl) (fun b hb => hq b (.inl hb)))⟩
    exact ⟨A,n,h1,h2,h3,row.shp,fun _ => row⟩
  case sl e t l =>
    obtain ⟨_,h⟩ := h
    simp only [RepV,shut] at h
    obtain ⟨A,n,h1,h2,h3,h4⟩ := h
    simp only [qLeaf,RepV]
    have row : RowI c.w c.q t A l := h4.move (fun _ _ => rfl) (fun b hb => hq b (.inl hb))
    exact ⟨A,n,h1,h2,h3,row.shp,fun _ => row⟩
  all_goals first
    | exact RepV.undef_ _ _
    | (obtain ⟨_,h⟩ := h
       simp only [RepV,qLeaf] at h ⊢
       exact h)
theorem qList_rep {c : Cx} (hw : c.w = w') : ∀ {l : List PV} {vs : List Value} {bs : List Nat},ResL w' ok' l vs bs → (∀ b,ok' b ∨ b ∈ bs → c.q b) → RepL c (l.map qLeaf) vs
  | [],_,_,⟨rfl,_⟩,_ => by simp [RepL]
  | _ :: _,_,_,⟨v,r',b1,b2,rfl,rfl,h1,h2⟩,hq => by
    simp only [List.map_cons,RepL]
    exact ⟨v,r',rfl,qLeaf_rep hw h1 (fun b hb => hq b (hb.imp_right fun h => List.mem_append_left _ h)),qList_rep hw h2 (fun b hb => hq b (hb.imp_right fun h => List.mem_append_right _ h))⟩
theorem qOne_rep {c : Cx} (hw : c.w = w') {p : PV} {v : Value} {bs : List Nat} (h : ResOne w' ok' p v bs) (hq : ∀ b,ok' b ∨ b ∈ bs → c.q b) : RepV c (qOne p) v := by
  cases p
  case agg l =>
    obtain ⟨x,rfl,h2⟩ := h
    simp only [qOne,RepV]
    exact ⟨x,rfl,qList_rep hw h2 hq⟩
  all_goals (simp only [ResOne] at h; exact qLeaf_rep hw h hq)
theorem qAll_rep {c : Cx} (hw : c.w = w') : ∀ {l : List PV} {vs : List Value} {bs : List Nat},ResAll w' ok' l vs bs → (∀ b,ok' b ∨ b ∈ bs → c.q b) → RepL c (l.map qOne) vs
  | [],_,_,⟨rfl,_⟩,_ => by simp [RepL]
  | _ :: _,_,_,⟨v,r',b1,b2,rfl,rfl,h1,h2⟩,hq => by
    simp only [List.map_cons,RepL]
    exact ⟨v,r',rfl,qOne_rep hw h1 (fun b hb => hq b (hb.imp_right fun h => List.mem_append_left _ h)),qAll_rep hw h2 (fun b hb => hq b (hb.imp_right fun h => List.mem_append_right _ h))⟩
theorem qRes_rep {c : Cx} (hw : c.w = w') {p : PV} {v : Value} {bs : List Nat} (h : ResV w' ok' p v bs) (hq : ∀ b,ok' b ∨ b ∈ bs → c.q b) : RepV c (qRes p) v := by
  cases p
  case tup l =>
    obtain ⟨x,rfl,h2⟩ := h
    simp only [qRes,RepV]
    exact ⟨x,rfl,qAll_rep hw h2 hq⟩
  all_goals (simp only [ResV] at h; exact qOne_rep hw h hq)
end
theorem qRes_nogd (p : PV) : (qRes p).isGd = false := by cases p <;> rfl
theorem callOp_sound {C : Ctx} (hS : C.OwedAt m w0) {f : FuncId} {args : List PV} {vs : Array Value} (h : Rep m w0 st a c) (hg : ∀ x,o.dst = some x → NoGd st x) (hargs : RepL c args vs.toList)
    (hrun : (execOp a.eval o).run C.P c.w = .ok (.enter f vs) c.w) (hr : callOp C f args o.dst st K = some r)
    (hK : ∀ st' a' c',K st' = some r → Rep m w0 st' a' c' → next a' c'.w) : o.upon C.P a next Q ((execOp a.eval o).run C.P c.w) := by
  unfold callOp at hr
  split at hr
  · rename_i as d has hd
    obtain ⟨res,hcon,hres⟩ := hS.owed.1 f _ R _ r hr
    have put : ∀ (st1 : St) (c1 : Cx) (p : PV) (v : Value),Rep m w0 st1 a c1 → st1.s = st.s → RepV c1 p v → p.isGd = false → Rep m w0 (st1.set d p) (a.put o.dst v) c1 := by
      intro st1 c1 p v rep hs hp hgd
      have := rep.put (some d) (p := p) (v := v) (SlotOK.of hp (ne_gd hgd)) (fun x hx => ⟨(hg x (by rw [hd]; exact hx)).of hs,fun s w q he => absurd he (ne_gd hgd s w q)⟩)
      rw [hd]; exact this
    have fin : ∀ (ta : Bool) (st1 : St) (c1 : Cx) (v : Value) (w' : World) (ok2 : Nat → Prop) (bs : List Nat) (p : PV) (st2 : St),Rep m w0 st1 a c1 → c1.w = c.w → st1.s = st.s → Kept (fun _ => False) c.w w' → (∀ b,c1.ok b → ok2 b) → (∀ b,ok2 b → b < w'.heap.size ∧ (c1.ok b ∨ (c.w.heap.size ≤ b ∧ Unm w' b))) →
        ResV w' (bif ta then (fun b => ok2 b ∨ c1.a b) else ok2) res v bs → bs.Nodup → (∀ b ∈ bs,c.w.heap.size ≤ b ∧ b < w'.heap.size ∧ ¬ ok2 b) → bindRes ta st1 d res = some (p,st2) → K (st2.set d p) = some r → next (a.put o.dst v) w' := by
      intro ta st1 c1 v w' ok2 bs p st2 rep hw hs hk ho1 ho2 hv hnd hbs hb hkr
      obtain ⟨rep1,mv1⟩ := rep.grow (w1 := w') ok2 (rep.kept.trans (by rw [hw]; exact hk.weaken (fun _ h => h.elim))) (by rw [hw]; exact hk.size) (fun b hb => by rw [hw] at hb ⊢; exact hk.block b hb id) ho1 (fun b hb => by rw [hw]; exact ⟨(ho2 b hb).1,(ho2 b hb).2.imp_right fun h => h.1⟩) (fun b hb => (ho2 b hb).2.imp_right fun h => h.2)
      have hfree : Free w0 { w := w',ok := ok2,ρ := c1.ρ,σ := c1.σ,pin := c1.pin,a := c1.a,q := c1.q,ob := c1.ob } bs := ⟨hnd,fun g hg => by
        obtain ⟨z1,z2,z3⟩ := hbs g hg
        refine ⟨?_,by have := h.kept.size; omega,z2,fun k' hk' he => ?_⟩
        · rintro ((hh | hh) | hh)
          · exact z3 hh
          · have := rep.zlt (.inl (.inr hh)); rw [hw] at this; omega
          · have := rep.zlt (.inr hh); rw [hw] at this; omega
        have : Owns c1 k' := by
          obtain ⟨o',ho',hw'⟩ := hk'
          exact ⟨o',ho',hw'.congr (c := { w := w',ok := ok2,ρ := c1.ρ,σ := c1.σ,pin := c1.pin,a := c1.a,q := c1.q,ob := c1.ob }) (c1 := c1) rfl⟩
        have := (rep.mine k' this).2.2
        rw [hw] at this
        simp only at he
        omega⟩
      obtain ⟨c2,B,hp,bd⟩ := bindRes_sound (ta := ta) rep1 (by cases ta <;> exact hv) hfree hb
      have hgd : p.isGd = false := by
        cases p <;> try rfl
        exfalso
        revert hb
        cases res <;> simp only [bindRes,bindOne,bindLeaf] <;> (try (intro hb; simp at hb; done)) <;> first
          | (split <;> simp_all)
          | (cases ta <;> simp)
      have := hK (st2.set d p) (a.put o.dst v) c2 hkr (put st2 c2 p v B.rep (B.s.trans hs) hp hgd)
      rw [B.w] at this
      exact this
    rw [hrun,Oper.upon_enter]
    let all : Nat → Prop := fun b => b < c.w.heap.size
    have hrow : ∀ k,RowOk st c all k := by
      intro k e t l ho
      rcases ho with ho | ho | ⟨p,ho⟩
      · obtain ⟨A,n,h1,h2,h3,h4⟩ := h.objs k _ (by rw [h.ob]; exact ho)
        refine ⟨A,n,h1,h2,h3,fun h0 => ?_⟩
        rcases h4 with h4 | ⟨h4,cs,h5,h6,h7,h8⟩
        · omega
        · exact ⟨c.ρ k,0,h4,h5.lt,row_reads h5 (h7.move (w1 := c.w) (ok1 := all) (fun _ _ => rfl) (fun b hb => h.ok b hb))⟩
      · obtain ⟨A,n,h1,h2,h3,h4⟩ := h.objs k _ (by rw [h.ob]; exact ho)
        exact ⟨A,n,h1,h2,h3,h4.move (fun _ _ => rfl) (fun b hb => h.ok b hb)⟩
      · obtain ⟨A,n,h1,h2,h3,h4⟩ := h.objs k _ (by rw [h.ob]; exact ho)
        refine ⟨A,n,h1,h2,h3,fun h0 => ?_⟩
        rcases h4 with h4 | ⟨h4,cs,h5,h6,h7,h8⟩
        · omega
        · exact ⟨c.ρ k,0,h4,h5.lt,row_reads h5 ((h7.all fun _ hb => .inl hb).move (w1 := c.w) (ok1 := all) (fun _ _ => rfl) (fun b hb => h.zlt (.inl hb)))⟩
    have hall := argsPV_rep (ok2 := all) (a2 := c.a) (fun b hb => h.ok b hb) hargs (fun p _ k _ => hrow k) ⟨fun _ b hb => h.zlt (.inl hb),fun _ => ⟨fun b hb => h.zlt (.inr hb),funext h.ob⟩⟩ has
    have hca : ∀ b,c.a b → b < c.w.heap.size := fun b hb => h.zlt (.inl (.inr hb))
    cases hnw : C.nw f with
    | true =>
      rw [hnw] at hcon hres
      simp only [cond_true,Bool.true_and,Bool.or_true] at hcon hres
      have base := hcon c.w (fun _ => False) all vs (hS.glob.w h) (fun b hb => hb.elim (fun h => h.elim) id) (toAs_rep has hall)
      cases hmk : C.marks.any (Nat.beq (1099511627776 + d)) with
      | true =>
        rw [hmk] at hres
        simp only [cond_true] at hres
        split at hres
        · rename_i st1 hst1
          obtain ⟨_,hst1⟩ := cond_some (show (bif st.live then some st else none) = some st1 from hst1)
          simp only [Option.some.injEq] at hst1
          subst hst1
          obtain ⟨c1,e1,rep1,hs1⟩ : ∃ c1 : Cx,c1.w = c.w ∧ Rep m w0 st a c1 ∧ st.s = st.s := ⟨c,rfl,h,rfl⟩
          refine base.mono ?_
          rintro e w' ⟨v,ok',bs,rfl,hk,_,ho2,hv,hnd,hbs⟩
          have hnew : ∀ b,ok' b → c.w.heap.size ≤ b ∧ Unm w' b := fun b hb => (ho2 b hb).2.elim (fun h => h.elim) id
          obtain ⟨rep2,mv2⟩ := rep1.grow (w1 := w') c1.ok (rep1.kept.trans (by rw [e1]; exact hk.weaken (fun _ h => h.elim))) (by rw [e1]; exact hk.size) (fun b hb => by rw [e1] at hb ⊢; exact hk.block b hb id) (fun _ hb => hb) (fun b hb => ⟨by have := rep1.ok b hb; rw [e1] at this; exact Nat.lt_of_lt_of_le this hk.size,.inl hb⟩) (fun b hb => .inl hb)
          have hlt : ∀ b,c1.za b → b < c.w.heap.size := fun b hb => by have := rep1.zlt hb; rw [e1] at this; exact this
          have hown : ∀ k,Owns c1 k → c1.ρ k < c.w.heap.size := fun k hk => by have := (rep1.mine k hk).2.2; rw [e1] at this; exact this
          have hno : ∀ b,c.w.heap.size ≤ b → ¬ c1.ra b ∧ ∀ k,Owns c1 k → c1.ρ k ≠ b := fun b hb => ⟨fun hh => by have := hlt b (.inl hh); omega,fun k hk he => by have := hown k hk; omega⟩
          have hw0 := h.kept.size
          obtain ⟨rep3,mv3⟩ := rep2.growQ (fun b => c1.q b ∨ (ok' b ∨ b ∈ bs)) (fun b hb => .inl hb) (fun b hb => by
            rcases hb with hb | hb | hb
            · exact .inl hb
            · obtain ⟨z1,z2⟩ := hnew b hb
              obtain ⟨z3,z4⟩ := hno b z1
              refine .inr ⟨by omega,(ho2 b hb).1,z2,z3,fun k hk => z4 k ?_⟩
              obtain ⟨o',ho',hw'⟩ := hk
              exact ⟨o',ho',hw'.congr (c1 := c1) rfl⟩
            · obtain ⟨z1,z2,_⟩ := hbs b hb
              obtain ⟨z3,z4⟩ := hno b z1
              refine .inr ⟨by omega,z2,hv.unm b hb,z3,fun k hk => z4 k ?_⟩
              obtain ⟨o',ho',hw'⟩ := hk
              exact ⟨o',ho',hw'.congr (c1 := c1) rfl⟩)
          have hp : RepV { w := w',ok := c1.ok,ρ := c1.ρ,σ := c1.σ,pin := c1.pin,a := c1.a,q := fun b => c1.q b ∨ (ok' b ∨ b ∈ bs),ob := c1.ob } (qRes res) v := qRes_rep rfl hv (fun b hb => .inr hb)
          exact hK _ (a.put o.dst v) _ hres (put st _ _ v rep3 hs1 hp (qRes_nogd _))
        · simp at hres
      | false =>
        rw [hmk] at hres
        simp only [cond_false,cond_true] at hres
        split at hres
        · rename_i p st2 hb
          refine base.mono ?_
          rintro e w' ⟨v,ok',bs,rfl,hk,_,ho2,hv,hnd,hbs⟩
          have hnew : ∀ b,ok' b → c.w.heap.size ≤ b ∧ Unm w' b := fun b hb => (ho2 b hb).2.elim (fun h => h.elim) id
          refine fin false st c v w' (fun b => c.ok b ∨ ok' b) bs p st2 h rfl rfl hk (fun _ hb => .inl hb) (fun b hb => ?_) (hv.mono (fun _ hb => .inr hb)) hnd (fun b hb => ?_) hb hres
          · rcases hb with hb | hb
            · exact ⟨Nat.lt_of_lt_of_le (h.ok b hb) hk.size,.inl hb⟩
            · exact ⟨(ho2 b hb).1,.inr (hnew b hb)⟩
          · obtain ⟨z1,z2,z3⟩ := hbs b hb
            refine ⟨z1,z2,?_⟩
            rintro (hh | hh)
            · have := h.ok b hh; omega
            · exact z3 hh
        · simp at hres
    | false =>
    rw [hnw] at hcon hres
    simp only [Bool.false_and,cond_false,Bool.or_false] at hcon hres
    cases hf : flat res with
    | true =>
      rw [hf] at hres
      simp only [cond_true] at hres
      split at hres
      · rename_i p st2 hb
        refine (hcon c.w all c.a vs (hS.glob.w h) (fun b hb => hb.elim id (hca b)) hall).mono ?_
        rintro e w' ⟨v,ok',bs,rfl,hk,_,_,hv,hnd,hbs⟩
        obtain ⟨hv2,rfl⟩ := flat_res (w' := w') (ok' := c.ok) hf hv
        exact fin false st c v w' c.ok [] p st2 h rfl rfl hk (fun _ hb => hb) (fun b hb => ⟨Nat.lt_of_lt_of_le (h.ok b hb) hk.size,.inl hb⟩) hv2 List.nodup_nil (by simp) hb hres
      · simp at hres
    | false =>
      rw [hf] at hres
      simp only [cond_false] at hres
      cases hM : args.any PV.hasQ with
      | true => rw [hM] at hres; simp at hres
      | false =>
      rw [hM] at hres
      simp only [cond_false] at hres
      split at hres
      · rename_i p st2 hb
        obtain ⟨c1,F⟩ := frozeL args (Froze.refl h)
        have hc1a : c1.a = c.a := F.rep.a.trans h.a.symm
        generalize hta : (args.any PV.hasA || args.any st.hasM) = ta at hb
        let zn : Nat → Prop := bif ta then (fun b => c1.ok b ∨ c1.a b) else c1.ok
        have hokz : ∀ b,c1.ok b → zn b := fun b hx => zn_ok ta hx
        have hzlt : ∀ b,zn b → b < c.w.heap.size := fun b hx => by
          have : c1.za b := .inl (zn_all ta hx)
          have := F.rep.zlt this
          rw [F.w] at this; exact this
        have hMt : ∀ k,(∃ p ∈ args,InArg p k) → ∀ e t l n,st.obj k = some (.mrow e t l n) → ta = true := by
          rintro k ⟨p,hp,hk⟩ e t l n ho
          rw [← hta,Bool.or_eq_true]
          right
          rw [List.any_eq_true]
          refine ⟨p,hp,?_⟩
          rcases hk with (rfl | ⟨_,_,_,rfl⟩) | ⟨l',rfl,hk⟩
          · simp [St.hasM,St.isM,ho]
          · simp [St.hasM,St.isM,ho]
          · simp only [St.hasM,List.any_eq_true]
            exact ⟨_,hk,by simp [St.isM,ho]⟩
        have hrow : ∀ k,(∃ p ∈ args,InArg p k) → RowOk st { c with ok := c1.ok } zn k := by
          intro k hk e t l ho
          have hd1 := F.done k (.inr hk)
          have froz : c1.ob k = some (.frow e t l) → ∃ A n,c.σ k = .slice A l.length n ∧ l.length ≤ n ∧ n ≤ 9223372036854775807 ∧ RowI c.w zn t A l := by
            intro hob
            obtain ⟨A,n,h1,h2,h3,h4⟩ := F.rep.objs k _ hob
            refine ⟨A,n,by rw [← F.σ]; exact h1,h2,h3,?_⟩
            have := h4.move (w1 := c1.w) (ok1 := zn) (fun _ _ => rfl) hokz
            rw [F.w] at this; exact this
          rcases ho with ho | ho | ⟨n,ho⟩
          · exact froz (by rw [F.rep.ob,hd1,ho]; rfl)
          · exact froz (by rw [F.rep.ob,hd1,ho]; rfl)
          · have hob : c.ob k = some (.mrow e t l n) := by rw [h.ob]; exact ho
            obtain ⟨A,n',h1,h2,h3,h4⟩ := h.objs k _ hob
            refine ⟨A,n',h1,h2,h3,fun h0 => ?_⟩
            rcases h4 with h4 | ⟨h4,cs,h5,h6,h7,h8⟩
            · omega
            · have hz : ∀ b,c.ra b → zn b := fun b hb => zn_true (hMt k hk e t l n ho) (hb.imp (F.ok b) (fun hx => by rw [hc1a]; exact hx))
              exact ⟨c.ρ k,0,h4,hokz _ (F.okm k (.inr hk) e t l n ho ⟨_,hob,A,_,n',h1,by omega⟩),row_reads h5 ((h7.all fun _ hb => .inl hb).move (w1 := c.w) (ok1 := zn) (fun _ _ => rfl) hz)⟩
        have hm : Mv (fun _ => True) c { c with ok := c1.ok } := (.of (fun _ _ => rfl) (F.ok) (fun _ _ => rfl) (fun _ _ => rfl) (fun k t l _ hl => ⟨l,hl,rfl⟩) (fun _ ha => ha) (fun _ hb => hb) (fun hl => hl))
        have hargs' := argsPV_rep (c := { c with ok := c1.ok }) (ok2 := zn) (a2 := c.a) hokz (RepL.move hm _ _ (fun _ _ => trivial) hargs) (fun p hp k hk => hrow k ⟨p,hp,hk⟩)
          ⟨fun hT b hx => zn_true (by rw [← hta,hT,Bool.true_or]) (hx.imp_right fun hx => by rw [hc1a]; exact hx),fun hh => by rw [hM] at hh; simp at hh⟩ has
        refine (hcon c.w zn c.a vs (hS.glob.w h) (fun b hb => hb.elim (hzlt b) (hca b)) hargs').mono ?_
        rintro e w' ⟨v,ok',bs,rfl,hk,ho1,ho2,hv,hnd,hbs⟩
        refine fin ta _ c1 v w' (fun b => c1.ok b ∨ (ok' b ∧ c.w.heap.size ≤ b)) bs p st2 F.rep F.w F.s hk (fun b hx => .inl hx) (fun b hx => ?_) (hv.mono fun b hx => ?_) hnd (fun b hx => ?_) hb hres
        · rcases hx with hx | ⟨hx,hb2⟩
          · exact ⟨Nat.lt_of_lt_of_le (hzlt b (hokz b hx)) hk.size,.inl hx⟩
          · refine ⟨(ho2 b hx).1,.inr ⟨hb2,?_⟩⟩
            rcases (ho2 b hx).2 with h1 | h1
            · have := hzlt b h1; omega
            · exact h1.2
        · rcases (ho2 b hx).2 with h1 | h1
          · exact zn_sub ta (fun hx => .inl hx) h1
          · exact zn_ok ta (.inr ⟨hx,h1.1⟩)
        · obtain ⟨z1,z2,z3⟩ := hbs b hx
          refine ⟨z1,z2,?_⟩
          rintro (hh | ⟨hh,_⟩)
          · have := hzlt b (hokz b hh); omega
          · exact z3 hh
      · simp at hres
  · simp at hr
theorem zip_rep (h : Rep m w0 st a c) : ∀ (l : List Operand) (ts : List TypeId),l.length = ts.length → RepL c ((l.zip ts).map fun p => typed P p.2 (operand st p.1)) (l.map a.eval)
  | [],[],_ => by simp [RepL]
  | [],_ :: _,h => by simp at h
  | _ :: _,[],h => by simp at h
  | x :: q,t :: ts,hl => by
    simp only [List.zip_cons_cons,List.map_cons,RepL]
    exact ⟨_,_,rfl,typed_rep (operand_rep h x) t,zip_rep h q ts (by simpa using hl)⟩
theorem act_call {C : Ctx} (hC : C.P = P) (hS : C.OwedAt m w0) {f : Operand} {args : Array Operand} {argTypes : Array TypeId} (hop : o.op = .call { callee := .value f,args,argTypes }) (h : Rep m w0 st a c) (hg : ∀ x,o.dst = some x → NoGd st x) (hr : actOp C o st K = some r)
    (hK : ∀ st' a' c',K st' = some r → Rep m w0 st' a' c' → next a' c'.w) : o.upon P a next Q ((execOp a.eval o).run P c.w) := by
  subst hC
  simp only [actOp,hop] at hr
  have hf := operand_rep h f
  split at hr
  · rename_i g caps hfe
    rw [hfe] at hf
    simp only [RepV] at hf
    obtain ⟨cv,hfv,hcaps⟩ := hf
    obtain ⟨hc,hr⟩ := cond_some hr
    simp only [Bool.and_eq_true,decide_eq_true_eq] at hc
    obtain ⟨hent,hsz⟩ := hc
    unfold enters at hent
    split at hent
    · rename_i fn hfn
      simp only [Bool.and_eq_true,bne_iff_ne] at hent
      refine callOp_sound hS (vs := (args.map a.eval) ++ cv) h hg ?_ ?_ hr hK
      · rw [Array.toList_append,Array.toList_map]
        exact (zip_rep h args.toList argTypes.toList (by simpa using hsz)).append hcaps
      · have hbody : fn.body.isNone = false := by cases hb : fn.body <;> simp_all
        have hname : (fn.name == "runtime.NumGoroutine") = false := by simpa using hent.2
        simp only [execOp,hop,Sem.run_bind,resolve,hfv,Deferred.ofValue,Sem.run_pure,Result.andThen_ok,invoke,Array.empty_append,callFunc,run_program,hfn,hname,hbody,Bool.false_eq_true,if_false]
    · simp at hent
  · simp at hr

theorem actOp_sound {C : Ctx} (hS : C.OwedAt m w0) (h : Rep m w0 st a c) (hg : ∀ x,o.dst = some x → NoGd st x) (hr : actOp C o st K = some r)
    (hK : ∀ st' a' c',K st' = some r → Rep m w0 st' a' c' → next a' c'.w) : o.upon C.P a next Q ((execOp a.eval o).run C.P c.w) := by
  cases ho : o.op with
  | pick x y z => exact act_pick ho h hg hr hK
  | binOp op t x y u => exact act_binOp rfl ho h hg hr hK
  | indexAddr t x i => exact act_indexAddr rfl (fun _ _ _ hgl => hS.glob.at h hgl) ho h hg hr hK
  | index t x i => exact act_index rfl ho h hg hr hK
  | alloc t => exact act_alloc rfl ho h hg hr hK
  | box t x => exact act_box rfl ho h hg hr hK
  | build t parts => exact act_build rfl ho h hg hr hK
  | buildSlice t n parts => exact act_buildSlice rfl ho h hg hr hK
  | store t x y => exact act_store rfl ho h hg hr hK
  | makeSlice t x y => exact act_makeSlice rfl ho h hg hr hK
  | slice t x lo hi mx => exact act_slice rfl ho h hg hr hK
  | convert s d x => exact act_convert rfl ho h hg hr hK
  | call cl =>
    obtain ⟨callee,args,argTypes⟩ := cl
    cases callee with
    | value f => exact act_call rfl hS ho h hg hr hK
    | invoke x y => simp [actOp,ho] at hr
    | builtin b =>
      cases b <;> first
        | exact act_append rfl ho h hg hr hK
        | exact act_len rfl ho h hg hr hK
        | exact act_copy rfl ho h hg hr hK
        | exact act_clear rfl ho h hg hr hK
        | (simp [actOp,ho] at hr; done)
  | lookup t x y ok => exact act_lookup rfl ho h hg hr hK
  | range t x => exact act_range rfl ho h hg hr hK
  | entry x => exact act_entry rfl ho h hg hr hK
  | next x b =>
    cases b with
    | true => simp [actOp,ho] at hr
    | false => exact act_next rfl ho h hg hr hK
  | mapUpdate t x y z => exact act_mapUpdate rfl ho h hg hr hK
  | insert t x y z => exact act_insert rfl ho h hg hr hK
  | makeMap t r =>
    cases r with
    | none => exact act_makeMap rfl ho h hg hr hK
    | some r => simp [actOp,ho] at hr
  | _ => simp [actOp,ho] at hr

theorem ungd1_gd {s : Nat} {w : Bool} {p : PV} {s' : Nat} {w' : Bool} {v : PV} (h : ungd1 s w p = .gd s' w' v) : p = .gd s' w' v := by
  cases p <;> simp only [ungd1] at h <;> try (simp at h; done)
  rename_i s2 w2 v2
  cases hc : (Nat.beq s2 s && (w2 == w)) with
  | false => rw [hc] at h; exact h
  | true =>
    rw [hc] at h
    simp only [cond_true] at h
    have := san_isGd v2
    rw [h] at this
    simp [PV.isGd] at this
theorem Sized.ungd1 {n : Nat} {x : Sl} (h : Sized n x) (s : Nat) (w : Bool) : Sized n (x.map (ungd1 s w)) := h.map _ rfl fun _ _ _ _ => ungd1_gd
theorem ungd1_rep {s : Nat} {w : Bool} (h : Rep m w0 st a c) (hs : a.tmps.getD s undef = .bool w) : Rep m w0 ⟨st.s.map (ungd1 s w),st.o⟩ a c := by
  refine ⟨h.size.ungd1 s w,fun d => ?_,h.defers,h.ob,h.objs,h.apart,h.mine,h.ok,h.kept,h.old,h.new,h.pin,h.a,h.low,h.q⟩
  have : (St.get ⟨st.s.map (ungd1 s w),st.o⟩ d) = ungd1 s w (st.get d) := go_map _ rfl _ _
  rw [this]
  have hd := h.slots d
  cases hp : st.get d <;> rw [hp] at hd <;> simp only [ungd1] <;> try exact hd
  rename_i s' w' v
  cases hc : (Nat.beq s' s && (w' == w)) with
  | false => exact hd
  | true =>
    simp only [cond_true]
    simp only [Bool.and_eq_true,beq_iff_eq] at hc
    have h1 := beq_true.1 hc.1
    obtain rfl := hc.2
    subst h1
    simp only [SlotOK] at hd
    exact SlotOK.of (san_rep (hd.1 hs)) (ne_gd (san_isGd _))
theorem ungd1_nogd {s : Nat} {w : Bool} {d : Nat} (h : NoGd st d) : NoGd ⟨st.s.map (ungd1 s w),st.o⟩ d := by
  intro i s' w' v he
  have : (St.get ⟨st.s.map (ungd1 s w),st.o⟩ i) = ungd1 s w (st.get i) := go_map _ rfl _ _
  rw [this] at he
  cases hp : st.get i <;> rw [hp] at he <;> simp only [ungd1] at he <;> try (simp at he; done)
  rename_i s2 w2 v2
  cases hc : (Nat.beq s2 s && (w2 == w)) with
  | false =>
    rw [hc] at he
    simp only [cond_false,PV.gd.injEq] at he
    exact he.1 ▸ h i s2 w2 v2 hp
  | true =>
    rw [hc] at he
    simp only [cond_true] at he
    have := san_isGd v2
    rw [he] at this
    simp [PV.isGd] at this
theorem lit_rep {s : Nat} {w : Bool} (h : Rep m w0 st a c) (hs : a.tmps.getD s undef = .bool w) : Rep m w0 (st.set s (.bool w)) a c := by
  refine ⟨h.size.set _ _,fun d => ?_,h.defers,h.ob,h.objs,h.apart,h.mine,h.ok,h.kept,h.old,h.new,h.pin,h.a,h.low,h.q⟩
  have : (st.set s (.bool w)).get d = if d = s ∧ st.s.has s = true then .bool w else st.get d := go_set _ _ _ _
  rw [this]
  split
  · rename_i hd
    rw [hd.1]
    simp only [SlotOK,RepV]; exact hs
  · exact h.slots d
theorem set_nogd {s d : Nat} {w : Bool} (h : NoGd st d) : NoGd (st.set s (.bool w)) d := by
  intro i s' w' v he
  have : (st.set s (.bool w)).get i = if i = s ∧ st.s.has s = true then .bool w else st.get i := go_set _ _ _ _
  rw [this] at he
  split at he
  · simp at he
  · exact h i s' w' v he

theorem undef_ne_bool (w : Bool) : (undef : Value) ≠ .bool w := by simp [undef]
theorem evForce_sound {ops : Array Oper} {R : Type} {r : R} {d : Option Nat} : ∀ (n s : Nat) (w : Bool) (st : St) {Ky Kn : St → Option R},Rep m w0 st a c → (∀ x,d = some x → NoGd st x) → evForce ops n s w st Ky Kn = some r →
    (a.tmps.getD s undef = .bool w ∧ ∃ st',Rep m w0 st' a c ∧ (∀ x,d = some x → NoGd st' x) ∧ Ky st' = some r) ∨
    (a.tmps.getD s undef ≠ .bool w ∧ ∃ st',Rep m w0 st' a c ∧ (∀ x,d = some x → NoGd st' x) ∧ Kn st' = some r)
  | 0,s,w,st,Ky,Kn,h,hg,hr => by simp [evForce] at hr
  | n + 1,s,w,st,Ky,Kn,h,hg,hr => by
    unfold evForce at hr
    have hsl := h.slots s
    cases hst : st.get s <;> rw [hst] at hr hsl <;> try (simp at hr; done)
    case bool g =>
      simp only [SlotOK,RepV] at hsl
      simp only at hr
      by_cases hgw : g = w
      · subst hgw
        simp only [beq_self_eq_true,cond_true] at hr
        exact .inl ⟨hsl,_,ungd1_rep (lit_rep h hsl) hsl,fun x hx => ungd1_nogd (set_nogd (hg x hx)),hr⟩
      · have hb : (g == w) = false := by simpa using hgw
        rw [hb] at hr
        simp only [cond_false] at hr
        have hgn : g = !w := by cases g <;> cases w <;> simp_all
        refine .inr ⟨fun he => ?_,_,lit_rep h (by rw [hsl,hgn]),fun x hx => set_nogd (hg x hx),hr⟩
        rw [hsl] at he
        injection he with he
        exact hgw he
    case gd s1 w1 q =>
      simp only [SlotOK] at hsl
      simp only at hr
      cases hb : ops.toList.any (fun o => isGdOf o.dst s1) with
      | false => rw [hb] at hr; simp at hr
      | true =>
      rw [hb] at hr
      simp only [cond_true] at hr
      rcases evForce_sound n s1 w1 st h hg hr with ⟨h1,st1,h2,h3,h4⟩ | ⟨h1,st1,h2,h3,h4⟩
      · exact evForce_sound n s w st1 h2 h3 h4
      · refine .inr ⟨?_,st1,h2,h3,h4⟩
        rw [hsl.2 h1]
        exact undef_ne_bool w
theorem evOp_sound {C : Ctx} (hS : C.OwedAt m w0) {ops : Array Oper} (h : Rep m w0 st a c) (hr : evOp C ops o st K = some r)
    (hK : ∀ st' a' c',K st' = some r → Rep m w0 st' a' c' → next a' c'.w) :
    if Region.wanted o (yielded ops a.tmps) = true then o.wp C.P a c.w next Q else next (a.put o.dst undef) c.w := by
  unfold evOp at hr
  cases hgd : gdOn st.s o.dst with
  | true => rw [hgd] at hr; simp at hr
  | false =>
    rw [hgd] at hr
    simp only [cond_false] at hr
    have hg : ∀ x,o.dst = some x → NoGd st x := by
      intro x hx
      rw [hx] at hgd
      exact gdOn_no h.size hgd
    have pure_ok : ∀ (st1 : St) (p : PV),Rep m w0 st1 a c → pureOp C.P st1 o = some p → ∃ v,(execOp a.eval o).run C.P c.w = .ok (.value v) c.w ∧ RepV c p v := fun st1 p h1 hp => pureOp_sound h1 hp
    cases hgu : o.guard with
    | none =>
      rw [hgu] at hr
      have hw : Region.wanted o (yielded ops a.tmps) = true := by simp [Region.wanted,hgu]
      rw [if_pos hw]
      unfold Oper.wp
      cases hp : pureOp C.P st o with
      | some p =>
        rw [hp] at hr
        obtain ⟨v,hrun,hv⟩ := pure_ok st p h hp
        exact close_value hrun h hg (san_rep hv) (san_isGd _) hr hK
      | none =>
        rw [hp] at hr
        exact actOp_sound hS h hg hr hK
    | some jw =>
      obtain ⟨j,w⟩ := jw
      rw [hgu] at hr
      simp only at hr
      cases hs : (ops[j]?).bind (·.dst) with
      | none => rw [hs] at hr; simp at hr
      | some s =>
        rw [hs] at hr
        simp only at hr
        have hwant : Region.wanted o (yielded ops a.tmps) = true ↔ a.tmps.getD s undef = .bool w := by
          simp only [Region.wanted,hgu,yielded,hs,Option.bind_some]
          rw [Array.getD_eq_getD_getElem?]
          cases ht : a.tmps[s]? with
          | none => simp [undef]
          | some x => cases x <;> simp
        cases hself : isGdOf o.dst s with
        | true => rw [hself] at hr; simp at hr
        | false =>
          rw [hself] at hr
          simp only [cond_false] at hr
          have hne : ∀ x,o.dst = some x → x ≠ s := by
            intro x hx he
            rw [hx] at hself
            simp only [isGdOf] at hself
            exact beq_false.1 hself he
          cases hp : pureOp C.P ⟨st.s.map (ungd1 s w),st.o⟩ o with
          | some p =>
            rw [hp] at hr
            simp only at hr
            have put : ∀ v : Value,(a.tmps.getD s undef = .bool w → RepV c p v) → (a.tmps.getD s undef ≠ .bool w → v = undef) → next (a.put o.dst v) c.w := by
              intro v hv hv2
              refine hK _ _ c hr (h.put o.dst (p := .gd s w (unw.san p)) (v := v) ?_ (fun x hx => ⟨hg x hx,fun s' w' q he => ?_⟩))
              · simp only [SlotOK]; exact ⟨fun hh => san_rep (hv hh),hv2⟩
              · simp only [PV.gd.injEq] at he
                obtain ⟨rfl,_,_⟩ := he
                exact fun hh => hne x hx hh.symm
            by_cases hw : Region.wanted o (yielded ops a.tmps) = true
            · rw [if_pos hw]
              obtain ⟨v,hrun,hv⟩ := pure_ok _ p (ungd1_rep h (hwant.1 hw)) hp
              unfold Oper.wp
              rw [hrun,Oper.upon_value]
              exact put v (fun _ => hv) (fun hh => absurd (hwant.1 hw) hh)
            · rw [if_neg hw]
              exact put undef (fun hh => absurd (hwant.2 hh) hw) (fun _ => rfl)
          | none =>
            rw [hp] at hr
            simp only at hr
            rcases evForce_sound (ops := ops) 6 s w st h hg hr with ⟨hy,st',h',hg',hr'⟩ | ⟨hn,st',h',hg',hr'⟩
            · have hw := hwant.2 hy
              rw [if_pos hw]
              unfold Oper.wp
              exact actOp_sound hS h' hg' hr' hK
            · have hw : ¬ Region.wanted o (yielded ops a.tmps) = true := fun hh => hn (hwant.1 hh)
              rw [if_neg hw]
              exact hK _ _ c hr' (h'.put o.dst (SlotOK.of (RepV.undef_ _ _) (by simp)) (fun x hx => ⟨hg' x hx,fun s w q he => by simp at he⟩))
end
end Go.Fw
