/- Rows cut off,parts of rows that are written,copy. -/
import Derived.Test.YtgdfhijgjjcnjaaGreatDoorFwAct7
set_option linter.unusedVariables false
set_option linter.unusedSimpArgs false
namespace Go.Fw
section
variable {P : Program} {m : MM} {w0 : World} {st : St} {a : Act} {c : Cx} {R : Type} {K : St → Option R} {r : R} {o : Oper} {next : Act → World → Prop} {Q : Exit → Act → World → Prop}
theorem ownCut_sound {C : Ctx} {t : TypeId} {x : Operand} {lo hi mx : Option Operand} (hop : o.op = .slice t x lo hi mx) (h : Rep m w0 st a c) (hg : ∀ x,o.dst = some x → NoGd st x)
    (hr : ownCut C.P t (operand st x) (lo.map (operand st)) (hi.map (operand st)) (mx.map (operand st)) o.dst st K = some r)
    (hK : ∀ st' a' c',K st' = some r → Rep m w0 st' a' c' → next a' c'.w) : o.upon C.P a next Q ((execOp a.eval o).run C.P c.w) := by
  unfold ownCut at hr
  split at hr
  · rename_i k kd hh d e' hx hlo hhi hmx hd hu
    have hx' := operand_rep h x
    rw [hx] at hx'
    simp only [RepV] at hx'
    split at hr
    · rename_i e ty l ho
      split at hr
      · rename_i hts
        obtain ⟨hts,hne⟩ := hts
        have hne' : C.P.cellsOf e' ≠ 0 := by omega
        obtain ⟨hgt,hr⟩ := cond_some hr
        split at hr
        · rename_i st2 hn
          have hob : c.ob k = some (.row e ty l) := by rw [h.ob]; exact ho
          obtain ⟨A,n,q1,q2,q3,q4⟩ := h.objs k _ hob
          have hev : a.eval x = .slice A l.length n := by rw [hx'.1]; exact q1
          have rlo := opt_rep h lo
          have rhi := opt_rep h hi
          have rmx := opt_rep h mx
          have hc : cutOf l.length (lo.map (operand st)) (hi.map (operand st)) (mx.map (operand st)) = some (inb hh (l.length + 1),0,hh.toNat,false) := by rw [hlo,hhi,hmx]; rfl
          obtain ⟨k1,k2,k3,k4,k5⟩ := cut_bounds (P := C.P) true c.w rlo rhi rmx hc hgt q2
          have hrun : (execOp a.eval o).run C.P c.w = .ok (.value (.slice (if n = 0 then A else A.map (·.add (0 * ty.size))) (hh.toNat - 0) (n - 0))) c.w := by
            simp only [execOp,hop,Sem.run_bind,Instr.sliceAt,run_underlying_some hu,Result.andThen_ok,Instr.slice,hev,k1,Bool.false_eq_true,if_false,run_sizeOf hne',Sem.run_pure,hts]
          have hval : (Value.slice (if n = 0 then A else A.map (·.add (0 * ty.size))) (hh.toNat - 0) (n - 0)) = .slice A hh.toNat n := by
            have : A.map (·.add (0 * ty.size)) = A := by cases A <;> simp [Addr.add]
            rw [this]; simp
          rw [hval] at hrun
          have hdel := h.del ho
          have hlt : (l.take hh.toNat).length = hh.toNat := by rw [List.length_take]; omega
          have rep := hdel.newObj hn (w1 := c.w) (c.ρ k) (.slice A hh.toNat n) h.kept (Nat.le_refl _) (fun _ _ => rfl)
            ⟨A,n,by simp [hlt],by rw [hlt]; omega,q3,by
              rcases q4 with q4 | ⟨q4,cs,q5,q6,q7,q8⟩
              · exact .inl q4
              · refine .inr ⟨by simpa using q4,cs,by simpa using q5,q6,?_,q8⟩
                have := q7.take hh.toNat
                rw [List.take_take] at this
                rw [hlt]
                have e1 : min (hh.toNat * ty.size) (l.length * ty.size) = hh.toNat * ty.size := Nat.min_eq_left (Nat.mul_le_mul_right _ k3)
                rw [e1] at this
                exact this⟩
            (fun hw => by
              obtain ⟨A',n',m',z1,z2⟩ := hw
              simp at z1
              have hn0 : n ≠ 0 := by omega
              have hown : Owns c k := ⟨_,hob,A,_,n,q1,hn0⟩
              have hmine := h.mine k hown
              exact ⟨h.mineZ hown,hmine.2.1,hmine.2.2,fun k' hk' he => by
                obtain ⟨z1,z2⟩ := own_del h ho hk'
                exact z1 (h.apart k' k z2 hown he)⟩)
          obtain ⟨s1,s2,s3,s4,s5,s6⟩ := new_spec hn
          refine close_value (c1 := _) (p := .own (4096 * d)) (by exact hrun) rep (fun x hx => ((hg x hx).of (st1 := st.del k) rfl).of s1) ?_ rfl (by rw [hd]; exact hr) hK
          simp only [RepV]
          simp
        · simp at hr
      · simp at hr
    · simp at hr
  · simp at hr
theorem viewCut_sound {C : Ctx} {t : TypeId} {x : Operand} {lo hi mx : Option Operand} (hop : o.op = .slice t x lo hi mx) (h : Rep m w0 st a c) (hg : ∀ x,o.dst = some x → NoGd st x)
    (hr : viewCut C.P t (operand st x) (lo.map (operand st)) (hi.map (operand st)) (mx.map (operand st)) o.dst st K = some r)
    (hK : ∀ st' a' c',K st' = some r → Rep m w0 st' a' c' → next a' c'.w) : o.upon C.P a next Q ((execOp a.eval o).run C.P c.w) := by
  unfold viewCut at hr
  split at hr
  · rename_i k kd i e' hx hlo hhi hmx hu
    have hx' := operand_rep h x
    rw [hx] at hx'
    simp only [RepV] at hx'
    split at hr
    · rename_i e ty l ho
      split at hr
      · rename_i hts
        obtain ⟨hts,hne⟩ := hts
        have hne' : C.P.cellsOf e' ≠ 0 := by omega
        obtain ⟨hgt,hr⟩ := cond_some hr
        have hob : c.ob k = some (.row e ty l) := by rw [h.ob]; exact ho
        obtain ⟨A,n,q1,q2,q3,q4⟩ := h.objs k _ hob
        have hev : a.eval x = .slice A l.length n := by rw [hx'.1]; exact q1
        have rlo := opt_rep h lo
        have rhi := opt_rep h hi
        have rmx := opt_rep h mx
        have hc : cutOf l.length (lo.map (operand st)) (hi.map (operand st)) (mx.map (operand st)) = some (inb i (l.length + 1),i.toNat,l.length,false) := by rw [hlo,hhi,hmx]; rfl
        obtain ⟨k1,k2,k3,k4,k5⟩ := cut_bounds (P := C.P) true c.w rlo rhi rmx hc hgt q2
        have hrun : (execOp a.eval o).run C.P c.w = .ok (.value (.slice (if n = i.toNat then A else A.map (·.add (i.toNat * ty.size))) (l.length - i.toNat) (n - i.toNat))) c.w := by
          simp only [execOp,hop,Sem.run_bind,Instr.sliceAt,run_underlying_some hu,Result.andThen_ok,Instr.slice,hev,k1,Bool.false_eq_true,if_false,run_sizeOf hne',Sem.run_pure,hts]
        refine close_value hrun h hg ?_ rfl hr hK
        simp only [RepV]
        refine ⟨_,_,rfl,fun h0 => ?_,A,n,by rw [q1]; congr 1; omega,by omega,q3,rfl,fun h0 => ?_⟩
        · rcases q4 with q4 | ⟨q4,_⟩
          · omega
          · rw [if_neg (by omega),q4]
            simp [add_eq]
        · rcases q4 with q4 | ⟨q4,_⟩
          · omega
          · exact q4
      · simp at hr
    · simp at hr
  · simp at hr
theorem act_slice {C : Ctx} (hC : C.P = P) {t : TypeId} {x : Operand} {lo hi mx : Option Operand} (hop : o.op = .slice t x lo hi mx) (h : Rep m w0 st a c) (hg : ∀ x,o.dst = some x → NoGd st x) (hr : actOp C o st K = some r)
    (hK : ∀ st' a' c',K st' = some r → Rep m w0 st' a' c' → next a' c'.w) : o.upon P a next Q ((execOp a.eval o).run P c.w) := by
  cases h0 : marked C o 0 with
  | true =>
    subst hC
    simp only [actOp,hop,h0,cond_true] at hr
    exact ownCut_sound hop h hg hr hK
  | false =>
    cases h1 : marked C o 1 with
    | true =>
      subst hC
      simp only [actOp,hop,h0,h1,cond_true,cond_false] at hr
      exact viewCut_sound hop h hg hr hK
    | false => exact act_slice0 hC hop h0 h1 h hg hr hK
theorem act_copy {C : Ctx} (hC : C.P = P) {args : Array Operand} {argTypes : Array TypeId} (hop : o.op = .call { callee := .builtin .copy,args,argTypes }) (h : Rep m w0 st a c) (hg : ∀ x,o.dst = some x → NoGd st x) (hr : actOp C o st K = some r)
    (hK : ∀ st' a' c',K st' = some r → Rep m w0 st' a' c' → next a' c'.w) : o.upon P a next Q ((execOp a.eval o).run P c.w) := by
  subst hC
  simp only [actOp,hop] at hr
  split at hr
  · rename_i b x t u ha ht
    have ha' : args = #[b,x] := by rw [← Array.toList_inj]; simpa using ha
    have ht' : argTypes = #[t,u] := by rw [← Array.toList_inj]; simpa using ht
    subst ha'
    subst ht'
    split at hr
    · rename_i e' e2 hu1 hu2
      have hb := operand_rep h b
      have hx := typed_rep (P := C.P) (operand_rep h x) u
      unfold copyOp at hr
      split at hr
      · rename_i k lo n sz hbe
        rw [hbe] at hb
        simp only [RepV] at hb
        obtain ⟨B,D,hb1,hb2,_⟩ := hb
        split at hr
        · rename_i e ty l ho
          split at hr
          · rename_i hsz
            obtain ⟨hs1,hs2,hs3⟩ := hsz
            subst hs1
            split at hr
            · rename_i mm hsrc
              obtain ⟨hgd,hr⟩ := cond_some hr
              simp only [Bool.and_eq_true,decide_eq_true_eq] at hgd
              obtain ⟨g1,g2⟩ := hgd
              have hne' : C.P.cellsOf e' ≠ 0 := by omega
              obtain ⟨hlen,new,hnew,hdnew⟩ := src_rep (P := C.P) h hx hsrc (by omega)
              have hob : c.ob k = some (.row e ty l) := by rw [h.ob]; exact ho
              obtain ⟨A,cp,q1,q2,q3,q4⟩ := h.objs k _ hob
              have hnl := hdnew.len
              have hmin : Nat.min mm.length n = mm.length := Nat.min_eq_left g1
              have hre : ∀ w1,(match B with | some ad => storeCells ad new.toList | none => pure () : Sem Unit).run C.P c.w = .ok () w1 → (execOp a.eval o).run C.P c.w = .ok (.value (.int .i64 mm.length)) w1 := by
                intro w1 hst
                have hso : (sizeOf e').run C.P c.w = .ok ty.size c.w := by rw [run_sizeOf hne',hs2]
                have : (Builtin.copy_ #[t,u] o.type #[a.eval b,a.eval x]).run C.P c.w = .ok (goInt mm.length) w1 := by
                  unfold Builtin.copy_
                  simp only [List.getElem?_toArray,List.getElem?_cons_zero,List.getElem?_cons_succ,Sem.run_bind,run_underlying_some hu1,Result.andThen_ok,hb1,hlen,hmin,hso,hnew]
                  cases B with
                  | none =>
                    simp only [Sem.run_pure,Result.ok.injEq,true_and] at hst
                    subst hst
                    simp only [Sem.run_pure,Result.andThen_ok]
                  | some ad =>
                    simp only at hst
                    simp only [Sem.run_bind,hst,Result.andThen_ok,Sem.run_pure]
                simp only [execOp,hop,Sem.run_bind,resolve,Sem.run_pure,Result.andThen_ok,invoke,builtin]
                simp [this,goInt]
              have hwf : (Lit.int .i64 (mm.length : Int)).wf = true := by
                simp [Lit.wf,IntKind.min,IntKind.max,IntKind.signed,IntKind.bits]; omega
              have hgone : ∀ x,o.dst = some x → NoGd (st.setO k (.row e ty (l.take lo ++ mm ++ l.drop (lo + mm.length)))) x := fun x hx => (hg x hx).of rfl
              have hll : (l.take lo ++ mm ++ l.drop (lo + mm.length)).length = l.length := by simp only [List.length_append,List.length_take,List.length_drop]; omega
              by_cases hm0 : mm = []
              · subst hm0
                have hnew0 : new.toList = [] := by simpa using hnl
                have hrun := hre c.w (by rw [hnew0]; cases B <;> rfl)
                have heq : l.take lo ++ [] ++ l.drop (lo + ([] : List ty.den).length) = l := by simp
                rw [heq] at hr
                have rep := h.setObj (o := .row e ty l) (o' := .row e ty l) ho (w1 := c.w) c.ok h.kept (Nat.le_refl _) (fun _ _ => rfl) (fun _ hb => hb) (fun b hb => ⟨h.ok b hb,fun k' _ hk' he => (h.mine k' hk').1 (he ▸ hb)⟩)
                  (fun t1 l1 hl => ⟨l1,hl,rfl⟩)
                  ⟨A,cp,q1,q2,q3,q4⟩ (fun hw => ⟨hw,(h.mine k ⟨_,hob,hw.congr rfl⟩).1⟩)
                exact close_value (c1 := _) (by exact hrun) rep (fun x hx => (hg x hx).of rfl) (RepV.int_ hwf) rfl hr hK
              · have hmp := List.length_pos_iff.2 hm0
                have hB := hb2 (by omega)
                subst hB
                rcases q4 with q4 | ⟨q4,cs,q5,q6,q7,q8⟩
                · omega
                · have hcp : cp ≠ 0 := by omega
                  have hown : Owns c k := ⟨_,hob,_,_,cp,q1,hcp⟩
                  have hmine := h.mine k hown
                  have hmul : lo * ty.size + mm.length * ty.size ≤ cp * ty.size := by rw [← Nat.add_mul]; exact Nat.mul_le_mul_right _ (by omega)
                  obtain ⟨w1,cs1,f1,f2,f3,f4,f5,f6,f7⟩ := own_store (P := C.P) h hown q5 (vals := new.toList) (off := lo * ty.size) hdnew.one (by omega)
                  have hrun := hre w1 f1
                  have hne2 : ∀ b,c.za b → b ≠ c.ρ k := fun b hb he => h.mineZ hown (he ▸ hb)
                  have rep := h.setObj (o := .row e ty l) (o' := .row e ty (l.take lo ++ mm ++ l.drop (lo + mm.length))) ho (w1 := w1) c.ok f5 (by omega)
                    (fun b hb => f7 b (by
                      rcases hb with hb | ⟨k',hk',hb,rfl⟩
                      · exact hne2 b hb
                      · exact fun he => hk' (h.apart k' k hb hown he)))
                    (fun _ hb => hb) (fun b hb => ⟨by have := h.ok b hb; omega,fun k' _ hk' he => (h.mine k' hk').1 (he ▸ hb)⟩)
                    (fun t1 l1 hl => by
                      obtain ⟨rfl,hl⟩ := hl.row
                      exact ⟨l,.inl ⟨e,rfl⟩,by rw [hl]; exact hll.symm⟩)
                    (by
                      refine ⟨A,cp,by rw [hll]; exact q1,by rw [hll]; exact q2,q3,.inr ⟨q4,cs1,f2,by rw [f4]; exact q6,?_,q8⟩⟩
                      have hcl : cs.toList.length = cp * ty.size := by rw [Array.length_toList]; exact q6
                      rw [hll,f3]
                      have hL : l.length * ty.size ≤ cp * ty.size := Nat.mul_le_mul_right _ q2
                      have hlo : lo * ty.size ≤ l.length * ty.size := Nat.mul_le_mul_right _ (by omega)
                      have hlm : (lo + mm.length) * ty.size ≤ l.length * ty.size := Nat.mul_le_mul_right _ (by omega)
                      have e1 : (cs.toList.take (lo * ty.size) ++ new.toList ++ cs.toList.drop (lo * ty.size + new.toList.length)).take (l.length * ty.size) =
                          (cs.toList.take (l.length * ty.size)).take (lo * ty.size) ++ new.toList ++ (cs.toList.take (l.length * ty.size)).drop ((lo + mm.length) * ty.size) := by
                        rw [List.take_take,Nat.min_eq_left hlo,hnl,← Nat.add_mul,List.take_append,List.take_of_length_le (by simp only [List.length_append,List.length_take,hnl]; rw [Nat.min_eq_left (by omega),← Nat.add_mul]; exact hlm)]
                        congr 1
                        rw [List.drop_take]
                        congr 1
                        simp only [List.length_append,List.length_take,hnl]
                        rw [Nat.min_eq_left (by omega),← Nat.add_mul]
                      rw [e1]
                      refine (((q7.take lo).append hdnew).append ?_).move (fun b hb => f7 b (hne2 b (.inl (.inl hb)))) (fun _ hb => hb)
                      exact q7.drop (lo + mm.length))
                    (fun hw => ⟨by
                      obtain ⟨A',n',m',z1,z2⟩ := hw
                      exact ⟨A',n',m',z1,z2⟩,hmine.1⟩)
                  exact close_value (c1 := _) (by exact hrun) rep hgone (RepV.int_ hwf) rfl hr hK
            · simp at hr
          · simp at hr
        · simp at hr
      · simp at hr
    · simp at hr
  · simp at hr
theorem act_clear {C : Ctx} (hC : C.P = P) {args : Array Operand} {argTypes : Array TypeId} (hop : o.op = .call { callee := .builtin .clear,args,argTypes }) (h : Rep m w0 st a c) (hg : ∀ x,o.dst = some x → NoGd st x) (hr : actOp C o st K = some r)
    (hK : ∀ st' a' c',K st' = some r → Rep m w0 st' a' c' → next a' c'.w) : o.upon P a next Q ((execOp a.eval o).run P c.w) := by
  subst hC
  simp only [actOp,hop] at hr
  split at hr
  · rename_i b t ha ht
    have ha' : args = #[b] := by rw [← Array.toList_inj]; simpa using ha
    have ht' : argTypes = #[t] := by rw [← Array.toList_inj]; simpa using ht
    subst ha'
    subst ht'
    split at hr
    · rename_i e' hu1
      have hb := operand_rep h b
      unfold clearOp at hr
      split at hr
      · rename_i k lo n sz hbe
        rw [hbe] at hb
        simp only [RepV] at hb
        obtain ⟨B,D,hb1,hb2,_⟩ := hb
        split at hr
        · rename_i e ty l t2 z2 ho he
          split at hr
          · rename_i hsz
            obtain ⟨hs1,hs2,hs3⟩ := hsz
            subst hs1
            split at hr
            · rename_i hty
              subst hty
              obtain ⟨hgd,hr0⟩ := cond_some hr
              clear hr
              have hr : K ((st.setO k (.row e t2 (l.take lo ++ List.replicate n z2 ++ l.drop (lo + n)))).put o.dst .undef) = some r := hr0
              clear hr0
              have g2 := of_decide_eq_true hgd
              obtain ⟨i,z,lz,hi,hz0,hzsz,hisz,hib,hrepz,hof,hts,htp,hbp⟩ := elemInfo_spec he
              have hzd : Dat c.w c.ok t2 z2 z.cells.toList := Ty.of_dat hof (hrepz c)
              have hzl : z.cells.size = t2.size := by rw [hzsz,hts]
              have hdnew := zero_dat (e := e') hzd hzl htp n
              have hnl := hdnew.len
              rw [List.length_replicate] at hnl
              have hob : c.ob k = some (.row e t2 l) := by rw [h.ob]; exact ho
              obtain ⟨A,cp,q1,q2,q3,q4⟩ := h.objs k _ hob
              have hll : (l.take lo ++ List.replicate n z2 ++ l.drop (lo + n)).length = l.length := by simp only [List.length_append,List.length_take,List.length_drop,List.length_replicate]; omega
              by_cases hn0 : n = 0
              · subst hn0
                have hrun : (execOp a.eval o).run C.P c.w = .ok (.value (.tuple #[])) c.w := by
                  simp only [execOp,hop,Sem.run_bind,resolve,Sem.run_pure,Result.andThen_ok,invoke,builtin]
                  cases B <;> simp [Builtin.clear_,hb1,run_underlying_some hu1]
                have heq : l.take lo ++ List.replicate 0 z2 ++ l.drop (lo + 0) = l := by simp
                rw [heq] at hr
                have rep := h.setObj (o := .row e t2 l) (o' := .row e t2 l) ho (w1 := c.w) c.ok h.kept (Nat.le_refl _) (fun _ _ => rfl) (fun _ hb => hb) (fun b hb => ⟨h.ok b hb,fun k' _ hk' he => (h.mine k' hk').1 (he ▸ hb)⟩)
                  (fun t1 l1 hl => ⟨l1,hl,rfl⟩)
                  ⟨A,cp,q1,q2,q3,q4⟩ (fun hw => ⟨hw,(h.mine k ⟨_,hob,hw.congr rfl⟩).1⟩)
                exact close_value (c1 := _) (by exact hrun) rep (fun x hx => (hg x hx).of rfl) (RepV.undef_ _ _) rfl hr hK
              · have hB := hb2 (by omega)
                subst hB
                rcases q4 with q4 | ⟨q4,cs,q5,q6,q7,q8⟩
                · omega
                · have hcp : cp ≠ 0 := by omega
                  have hown : Owns c k := ⟨_,hob,_,_,cp,q1,hcp⟩
                  have hmine := h.mine k hown
                  have hmul : lo * t2.size + n * t2.size ≤ cp * t2.size := by rw [← Nat.add_mul]; exact Nat.mul_le_mul_right _ (by omega)
                  obtain ⟨w1,cs1,f1,f2,f3,f4,f5,f6,f7⟩ := own_store (P := C.P) h hown q5 (vals := (Builtin.zeroCells z.cells n).toList) (off := lo * t2.size) hdnew.one (by omega)
                  have hrun : (execOp a.eval o).run C.P c.w = .ok (.value (.tuple #[])) w1 := by
                    simp only [execOp,hop,Sem.run_bind,resolve,Sem.run_pure,Result.andThen_ok,invoke,builtin]
                    obtain ⟨n',rfl⟩ : ∃ n',n = n' + 1 := ⟨n - 1,by omega⟩
                    simp [Builtin.clear_,hb1,run_underlying_some hu1,run_zeroValue hi hz0,f1]
                  have hne2 : ∀ b,c.za b → b ≠ c.ρ k := fun b hb he => h.mineZ hown (he ▸ hb)
                  have rep := h.setObj (o := .row e t2 l) (o' := .row e t2 (l.take lo ++ List.replicate n z2 ++ l.drop (lo + n))) ho (w1 := w1) c.ok f5 (by omega)
                    (fun b hb => f7 b (by
                      rcases hb with hb | ⟨k',hk',hb,rfl⟩
                      · exact hne2 b hb
                      · exact fun he => hk' (h.apart k' k hb hown he)))
                    (fun _ hb => hb) (fun b hb => ⟨by have := h.ok b hb; omega,fun k' _ hk' he => (h.mine k' hk').1 (he ▸ hb)⟩)
                    (fun t1 l1 hl => by
                      obtain ⟨rfl,hl⟩ := hl.row
                      exact ⟨l,.inl ⟨e,rfl⟩,by rw [hl]; exact hll.symm⟩)
                    (by
                      refine ⟨A,cp,by rw [hll]; exact q1,by rw [hll]; exact q2,q3,.inr ⟨q4,cs1,f2,by rw [f4]; exact q6,?_,q8⟩⟩
                      have hcl : cs.toList.length = cp * t2.size := by rw [Array.length_toList]; exact q6
                      rw [hll,f3]
                      have hL : l.length * t2.size ≤ cp * t2.size := Nat.mul_le_mul_right _ q2
                      have hlo : lo * t2.size ≤ l.length * t2.size := Nat.mul_le_mul_right _ (by omega)
                      have hlm : (lo + n) * t2.size ≤ l.length * t2.size := Nat.mul_le_mul_right _ (by omega)
                      have e1 : (cs.toList.take (lo * t2.size) ++ (Builtin.zeroCells z.cells n).toList ++ cs.toList.drop (lo * t2.size + (Builtin.zeroCells z.cells n).toList.length)).take (l.length * t2.size) =
                          (cs.toList.take (l.length * t2.size)).take (lo * t2.size) ++ (Builtin.zeroCells z.cells n).toList ++ (cs.toList.take (l.length * t2.size)).drop ((lo + n) * t2.size) := by
                        rw [List.take_take,Nat.min_eq_left hlo,hnl,← Nat.add_mul,List.take_append,List.take_of_length_le (by simp only [List.length_append,List.length_take,hnl]; rw [Nat.min_eq_left (by omega),← Nat.add_mul]; exact hlm)]
                        congr 1
                        rw [List.drop_take]
                        congr 1
                        simp only [List.length_append,List.length_take,hnl]
                        rw [Nat.min_eq_left (by omega),← Nat.add_mul]
                      rw [e1]
                      refine (((q7.take lo).append hdnew).append ?_).move (fun b hb => f7 b (hne2 b (.inl (.inl hb)))) (fun _ hb => hb)
                      exact q7.drop (lo + n))
                    (fun hw => ⟨by
                      obtain ⟨A',n',m',z1,z2⟩ := hw
                      exact ⟨A',n',m',z1,z2⟩,hmine.1⟩)
                  exact close_value (c1 := _) (by exact hrun) rep (fun x hx => (hg x hx).of rfl) (RepV.undef_ _ _) rfl hr hK
            · simp at hr
          · simp at hr
        · simp at hr
      · simp at hr
    · simp at hr
  · simp at hr
end
end Go.Fw
