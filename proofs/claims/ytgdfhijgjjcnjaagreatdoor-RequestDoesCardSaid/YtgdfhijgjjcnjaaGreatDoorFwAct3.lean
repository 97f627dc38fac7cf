/- Structs and slices out of parts; stores. -/
import Derived.Test.YtgdfhijgjjcnjaaGreatDoorFwAct2
set_option linter.unusedVariables false
set_option linter.unusedSimpArgs false
namespace Go.Fw
open Go.RowKit (Below)

section
variable {P : Program} {m : MM} {w0 : World} {st : St} {a : Act} {c : Cx} {R : Type} {K : St → Option R} {r : R} {o : Oper} {next : Act → World → Prop} {Q : Exit → Act → World → Prop}

theorem run_places (w : World) : ∀ (fs : List Field),(∀ f ∈ fs,(P.info? f.type).isSome = true) →
    (fs.mapM (m := Sem) fun f => do pure (f.offset,← sizeOf f.type)).run P w = .ok (fs.map fun f => (f.offset,P.cellsOf f.type)) w
  | [],_ => by simp
  | f :: fs,h => by
    have h0 := h f (by simp)
    obtain ⟨i,hi⟩ := Option.isSome_iff_exists.1 h0
    have hs : (sizeOf f.type).run P w = .ok (P.cellsOf f.type) w := by simp [sizeOf,typeInfo,hi,Program.cellsOf]
    simp only [List.mapM_cons,Sem.run_bind,hs,Result.andThen_ok,Sem.run_pure,run_places w fs (fun g hg => h g (by simp [hg])),List.map_cons]
theorem cells_ok {p : PV} (h : p.cells.all PV.one = true) : p.one = true ∨ ∃ l,p = .agg l := by
  cases p <;> simp_all [PV.cells,PV.one]
theorem buildCells_sound (h : Rep m w0 st a c) (fs : Array Field) : ∀ (parts : List (Nat×Operand)) (l l' : List PV) (cs : Array Value),RepL c l cs.toList → buildCells P st fs l parts = some l' →
    ∃ cs' : Array Value,Instr.fill ((fs.map fun f => (f.offset,P.cellsOf f.type))[·]?) cs (parts.map fun p => (p.1,a.eval p.2)) = some cs' ∧ RepL c l' cs'.toList ∧ cs'.size = cs.size
  | [],l,l',cs,hl,hb => by
    simp only [buildCells,Option.some.injEq] at hb
    subst hb
    exact ⟨cs,rfl,hl,rfl⟩
  | (i,x) :: rest,l,l',cs,hl,hb => by
    simp only [buildCells] at hb
    split at hb
    · rename_i f hf
      split at hb
      · rename_i hc
        obtain ⟨h1,h2,h3,h4⟩ := hc
        have hx := typed_rep (P := P) (operand_rep h x) f.type
        have hxc := hx.cells (cells_ok h4)
        have hlen := hxc.length
        have hll := hl.length
        simp only [Array.length_toList] at hlen hll
        obtain ⟨cs1,g1,g2,g3⟩ := fill_one (place := ((fs.map fun f => (f.offset,P.cellsOf f.type))[·]?)) (cs := cs) (i := i) (off := f.offset) (size := P.cellsOf f.type) (v := a.eval x) (rest := rest.map fun p => (p.1,a.eval p.2))
          (by simp [hf]) (by omega) (by omega)
        obtain ⟨cs2,k1,k2,k3⟩ := buildCells_sound h fs rest _ l' cs1 (by rw [g2]; exact hl.splice f.offset hxc) hb
        exact ⟨cs2,by rw [List.map_cons,g1]; exact k1,k2,by omega⟩
      · simp at hb
    · simp at hb
theorem act_build {C : Ctx} (hC : C.P = P) {t : TypeId} {parts : Array (Nat×Operand)} (hop : o.op = .build t parts) (h : Rep m w0 st a c) (hg : ∀ x,o.dst = some x → NoGd st x) (hr : actOp C o st K = some r)
    (hK : ∀ st' a' c',K st' = some r → Rep m w0 st' a' c' → next a' c'.w) : o.upon P a next Q ((execOp a.eval o).run P c.w) := by
  subst hC
  simp only [actOp,hop] at hr
  split at hr
  · rename_i fs l hu hz
    obtain ⟨i,z,hi,hz0,hsz,hrep⟩ := zeroPV_rep hz
    cases hall : (fs.toList.all fun f => (C.P.info? f.type).isSome) with
    | false => rw [hall] at hr; simp at hr
    | true =>
      rw [hall] at hr
      simp only [Bool.not_true,cond_false] at hr
      split at hr
      · rename_i l' hb
        obtain ⟨cs',k1,k2,k3⟩ := buildCells_sound h fs parts.toList l l' z.cells (hrep c).1 hb
        refine close_value (v := .agg cs') ?_ h hg (by simp only [RepV]; exact ⟨cs',rfl,k2⟩) rfl hr hK
        have hpl : (fs.mapM (m := Sem) fun f => do pure (f.offset,← sizeOf f.type)).run C.P c.w = .ok (fs.map fun f => (f.offset,C.P.cellsOf f.type)) c.w := by
          rw [Array.mapM_eq_mapM_toList]
          simp only [Sem.run_map,run_places c.w fs.toList (fun f hf => by simpa using List.all_eq_true.1 hall f hf),Result.andThen_ok]
          congr 1
          rw [← Array.toList_inj]; simp
        have hpt : (parts.map fun (x : Nat×Operand) => match x with | (i,x) => (i,a.eval x)).toList = parts.toList.map fun p => (p.1,a.eval p.2) := by simp
        simp only [execOp,hop,Sem.run_bind,Instr.build,run_zeroValue hi hz0,Result.andThen_ok,run_underlying_some hu,hpl,hpt,k1,Sem.run_pure]
      · simp at hr
  · simp at hr

theorem plain_sound (h : Rep m w0 st a c) {p p' : PV} {v : Value} {st' : St} (hv : RepV c p v) (hp : st.plain p = some (p',st')) :
    ∃ c1 : Cx,c1.w = c.w ∧ Rep m w0 st' a c1 ∧ RepV c1 p' v ∧ st'.s = st.s ∧ Mv (fun _ => True) c c1 := by
  have self : Mv (fun _ => True) c c := (.of (fun _ _ => rfl) (fun _ h => h) (fun _ _ => rfl) (fun _ _ => rfl) (fun k t l _ hl => ⟨l,hl,rfl⟩) (fun _ ha => ha) (fun _ hb => hb) (fun hl => hl))
  unfold St.plain at hp
  split at hp
  · rename_i k
    split at hp
    · rename_i e t l ho
      simp only [Option.some.injEq,Prod.mk.injEq] at hp
      obtain ⟨rfl,rfl⟩ := hp
      obtain ⟨c1,e1,e2,e3,e4,hrep,hmv,_⟩ := h.freeze k
      have hf : st.freeze k = st.setO k (.frow e t l) := by simp [St.freeze,ho]
      rw [hf] at hrep
      have hob : c1.ob k = some (.frow e t l) := by rw [hrep.ob,obj_setO,if_pos rfl,ho]; rfl
      obtain ⟨A,n,g1,g2,g3,g4⟩ := hrep.objs k _ hob
      simp only [RepV] at hv
      refine ⟨c1,e1,hrep,?_,rfl,hmv⟩
      simp only [RepV]
      exact ⟨A,n,by rw [hv.1,← e3]; exact g1,g2,g3,g4⟩
    · rename_i e t l ho
      simp only [Option.some.injEq,Prod.mk.injEq] at hp
      obtain ⟨rfl,rfl⟩ := hp
      have hob : c.ob k = some (.frow e t l) := by rw [h.ob]; exact ho
      obtain ⟨A,n,g1,g2,g3,g4⟩ := h.objs k _ hob
      simp only [RepV] at hv
      exact ⟨c,rfl,h,by simp only [RepV]; exact ⟨A,n,by rw [hv.1]; exact g1,g2,g3,g4⟩,rfl,self⟩
    · simp at hp
  · simp only [Option.some.injEq,Prod.mk.injEq] at hp
    obtain ⟨rfl,rfl⟩ := hp
    exact ⟨c,rfl,h,hv,rfl,self⟩
theorem Mv.trans {S : Nat → Prop} {c c1 c2 : Cx} (h : Mv S c c1) (k : Mv S c1 c2) : Mv S c c2 :=
  ⟨fun b hb => (k.heap b (h.ra b hb)).trans (h.heap b hb),fun b hb => k.ok b (h.ok b hb),fun i hi => (k.ρ i hi).trans (h.ρ i hi),fun i hi => (k.σ i hi).trans (h.σ i hi),fun i t l hi hl => by
    obtain ⟨l',h1,h2⟩ := k.ob i t l hi hl
    obtain ⟨l2,h3,h4⟩ := h.ob i _ _ hi h1
    exact ⟨l2,h3,by omega⟩,fun b hb => k.a b (h.a b hb),fun b hb => ⟨(k.q b (h.q b hb).1).1,(h.q b hb).2.trans (k.q b (h.q b hb).1).2⟩,fun hl => by
    obtain ⟨h1,h2⟩ := k.live hl
    obtain ⟨h3,h4⟩ := h.live h1
    exact ⟨h3,fun b hb => (h2 b (h.q b hb).1).trans (h4 b hb)⟩⟩
theorem plainL_sound : ∀ {l l' : List PV} {vs : List Value} {st st' : St} {c : Cx},Rep m w0 st a c → RepL c l vs → st.plainL l = some (l',st') →
    ∃ c1 : Cx,c1.w = c.w ∧ Rep m w0 st' a c1 ∧ RepL c1 l' vs ∧ st'.s = st.s ∧ Mv (fun _ => True) c c1
  | [],l',vs,st,st',c,h,hl,hp => by
    simp only [St.plainL,Option.some.injEq,Prod.mk.injEq] at hp
    obtain ⟨rfl,rfl⟩ := hp
    exact ⟨c,rfl,h,hl,rfl,(.of (fun _ _ => rfl) (fun _ h => h) (fun _ _ => rfl) (fun _ _ => rfl) (fun k t l _ hl => ⟨l,hl,rfl⟩) (fun _ ha => ha) (fun _ hb => hb) (fun hl => hl))⟩
  | p :: q,l',vs,st,st',c,h,hl,hp => by
    simp only [RepL] at hl
    obtain ⟨v,r',rfl,hv,hr⟩ := hl
    simp only [St.plainL] at hp
    split at hp
    · rename_i v1 st1 h1
      split at hp
      · rename_i r1 st2 h2
        simp only [Option.some.injEq,Prod.mk.injEq] at hp
        obtain ⟨rfl,rfl⟩ := hp
        obtain ⟨c1,e1,rep1,hv1,s1,m1⟩ := plain_sound h hv h1
        obtain ⟨c2,e2,rep2,hr2,s2,m2⟩ := plainL_sound rep1 (RepL.move m1 _ _ (fun _ _ => trivial) hr) h2
        refine ⟨c2,e2.trans e1,rep2,?_,s2.trans s1,m1.trans m2⟩
        simp only [RepL]
        exact ⟨v,r',rfl,RepV.move m2 _ _ (fun _ _ => trivial) hv1,hr2⟩
      · simp at hp
    · simp at hp
theorem plainX_sound {x : Nat} : ∀ {l l' : List PV} {i : Nat} {vs : List Value} {st st' : St} {c : Cx},Rep m w0 st a c → RepL c l vs → St.plainX x i st l = some (l',st') →
    ∃ c1 : Cx,c1.w = c.w ∧ Rep m w0 st' a c1 ∧ RepL c1 l' vs ∧ st'.s = st.s ∧ Mv (fun _ => True) c c1
  | [],l',i,vs,st,st',c,h,hl,hp => by
    simp only [St.plainX,Option.some.injEq,Prod.mk.injEq] at hp
    obtain ⟨rfl,rfl⟩ := hp
    exact ⟨c,rfl,h,hl,rfl,(.of (fun _ _ => rfl) (fun _ h => h) (fun _ _ => rfl) (fun _ _ => rfl) (fun k t l _ hl => ⟨l,hl,rfl⟩) (fun _ ha => ha) (fun _ hb => hb) (fun hl => hl))⟩
  | p :: q,l',i,vs,st,st',c,h,hl,hp => by
    simp only [RepL] at hl
    obtain ⟨v,r',rfl,hv,hr⟩ := hl
    unfold St.plainX at hp
    cases hc : (Nat.beq (i + 1) (x % 1048576) || Nat.beq (i + 1) (x / 1048576)) with
    | true =>
      rw [hc] at hp
      simp only [cond_true] at hp
      split at hp
      · rename_i r1 st2 h2
        simp only [Option.some.injEq,Prod.mk.injEq] at hp
        obtain ⟨rfl,rfl⟩ := hp
        obtain ⟨c2,e2,rep2,hr2,s2,m2⟩ := plainX_sound h hr h2
        refine ⟨c2,e2,rep2,?_,s2,m2⟩
        simp only [RepL]
        exact ⟨v,r',rfl,RepV.move m2 _ _ (fun _ _ => trivial) hv,hr2⟩
      · simp at hp
    | false =>
      rw [hc] at hp
      simp only [cond_false] at hp
      split at hp
      · rename_i v1 st1 h1
        split at hp
        · rename_i r1 st2 h2
          simp only [Option.some.injEq,Prod.mk.injEq] at hp
          obtain ⟨rfl,rfl⟩ := hp
          obtain ⟨c1,e1,rep1,hv1,s1,m1⟩ := plain_sound h hv h1
          obtain ⟨c2,e2,rep2,hr2,s2,m2⟩ := plainX_sound rep1 (RepL.move m1 _ _ (fun _ _ => trivial) hr) h2
          refine ⟨c2,e2.trans e1,rep2,?_,s2.trans s1,m1.trans m2⟩
          simp only [RepL]
          exact ⟨v,r',rfl,RepV.move m2 _ _ (fun _ _ => trivial) hv1,hr2⟩
        · simp at hp
      · simp at hp
end
end Go.Fw
