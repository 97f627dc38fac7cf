/- Slices made; stores. -/
import Derived.Test.YtgdfhijgjjcnjaaGreatDoorFwAct3
set_option linter.unusedVariables false
set_option linter.unusedSimpArgs false
namespace Go.Fw
open Go.RowKit (Below)

theorem takeN_dat {ty : Ty} (c1 : Cx) : ∀ (n : Nat) (l : List PV) (x : List ty.den) (vs : List Value),takeN ty n l = some x → RepL c1 l vs → x.length = n ∧ DatL c1.w c1.ok ty x vs
  | 0,l,x,vs,hx,hl => by
    cases l with
    | nil => simp only [takeN,Option.some.injEq] at hx; subst hx; simpa [RepL,DatL] using hl
    | cons p q => simp [takeN] at hx
  | n + 1,l,x,vs,hx,hl => by
    simp only [takeN] at hx
    split at hx
    · rename_i y q hy
      split at hx
      · rename_i l2 hl2
        simp only [Option.some.injEq] at hx
        subst hx
        obtain ⟨v1,v2,rfl,d1,hr2⟩ := Ty.take_dat hy hl
        obtain ⟨k1,k2⟩ := takeN_dat c1 n _ _ _ hl2 hr2
        exact ⟨by simp [k1],v1,v2,rfl,d1,k2⟩
      · simp at hx
    · simp at hx

section
variable {P : Program} {m : MM} {w0 : World} {st : St} {a : Act} {c : Cx} {R : Type} {K : St → Option R} {r : R} {o : Oper} {next : Act → World → Prop} {Q : Exit → Act → World → Prop}

theorem elemInfo_spec {e : TypeId} {ty : Ty} {x : ty.den} (h : elemInfo P e = some ⟨ty,x⟩) : ∃ i z l,P.info? e = some i ∧ i.zero = some z ∧ z.cells.size = P.cellsOf e ∧ i.size = P.cellsOf e ∧ i.bytes = P.bytesOf e ∧ (∀ c : Cx,RepL c l z.cells.toList) ∧ ty.of l = some x ∧ ty.size = P.cellsOf e ∧ 0 < ty.size ∧ 0 < P.bytesOf e := by
  unfold elemInfo at h
  split at h
  · rename_i t l ht hz
    split at h
    · rename_i y hy
      split at h
      · rename_i hc
        cases h
        obtain ⟨i,z,hi,hz0,hsz,hrep⟩ := zeroPV_rep hz
        exact ⟨i,z,l,hi,hz0,hsz,by simp [Program.cellsOf,hi],by simp [Program.bytesOf,hi],fun c => (hrep c).1,hy,hc.1,hc.2.1,hc.2.2⟩
      · simp at h
    · simp at h
  · simp at h

theorem buildElems_sound (h : Rep m w0 st a c) (e : TypeId) (sz : Nat) : ∀ (parts : List (Nat×Operand)) (l l' : List PV) (cs : Array Value),RepL c l cs.toList → buildElems P st e sz l parts = some l' →
    ∃ cs' : Array Value,Instr.fill (fun i => some (i * sz,sz)) cs (parts.map fun p => (p.1,a.eval p.2)) = some cs' ∧ RepL c l' cs'.toList ∧ cs'.size = cs.size
  | [],l,l',cs,hl,hb => by
    simp only [buildElems,Option.some.injEq] at hb
    subst hb
    exact ⟨cs,rfl,hl,rfl⟩
  | (i,x) :: rest,l,l',cs,hl,hb => by
    simp only [buildElems] at hb
    split at hb
    · rename_i hc
      obtain ⟨h1,h3,h4⟩ := hc
      have hx := typed_rep (P := P) (operand_rep h x) e
      have hxc := hx.cells (cells_ok h4)
      have hlen := hxc.length
      have hll := hl.length
      simp only [Array.length_toList] at hlen hll
      obtain ⟨cs1,g1,g2,g3⟩ := fill_one (place := (fun i => some (i * sz,sz))) (cs := cs) (i := i) (off := i * sz) (size := sz) (v := a.eval x) (rest := rest.map fun p => (p.1,a.eval p.2)) rfl (by omega) (by omega)
      obtain ⟨cs2,k1,k2,k3⟩ := buildElems_sound h e sz rest _ l' cs1 (by rw [g2]; exact hl.splice (i * sz) hxc) hb
      exact ⟨cs2,by rw [List.map_cons,g1]; exact k1,k2,by omega⟩
    · simp at hb
theorem RepL.undefs (c : Cx) : ∀ (vs : List Value),RepL c (List.replicate vs.length .undef) vs
  | [] => by simp [RepL]
  | v :: r => by
    simp only [List.length_cons,List.replicate_succ,RepL]
    exact ⟨v,r,rfl,by simp [RepV],RepL.undefs c r⟩
theorem newRow_sound {st1 : St} {c1 : Cx} {e : TypeId} {ty : Ty} {l : List ty.den} {d kk : Nat} {cs : Array Value} {n : Nat} (dr : Nat) (hd : o.dst = some d) (h : Rep m w0 st1 a c1) (hw : c1.w = c.w)
    (hg : ∀ x,o.dst = some x → NoGd st1 x) {st2 : St} (hn : st1.new kk (.row e ty l) = some st2) (hts : 0 < ty.size) (hcs : cs.size = n * ty.size) (hln : l.length ≤ n) (hn63 : n ≤ 9223372036854775807)
    (hdat : DatL c1.w c1.ok ty l (cs.toList.take (l.length * ty.size)))
    (hrun : (execOp a.eval o).run P c.w = .ok (.value (.slice (some ⟨c.w.heap.size,0,none⟩) l.length n)) { c.w with drawn := dr,heap := c.w.heap.push (.cells cs e) })
    (hr : K (st2.set d (.own kk)) = some r) (hK : ∀ st' a' c',K st' = some r → Rep m w0 st' a' c' → next a' c'.w) : o.upon P a next Q ((execOp a.eval o).run P c.w) := by
  obtain ⟨g1,g2,g3,g4,g5,g6⟩ := new_spec hn
  obtain ⟨c2,e1,e2,e3,e4,hrep⟩ := h.push hn dr cs e (.slice (some ⟨c1.w.heap.size,0,none⟩) l.length n) (fun c2 q1 q2 q3 q4 q5 q6 q7 _ => by
    refine ⟨some ⟨c1.w.heap.size,0,none⟩,n,q4,hln,hn63,.inr ⟨by rw [q3],cs,by rw [q3]; exact q6,hcs,?_,hts⟩⟩
    refine hdat.move (fun b hb => ?_) (fun b hb => by rw [q2]; exact hb)
    rw [q1]
    show (c1.w.heap.push _)[b]? = _
    rw [Array.getElem?_push,if_neg (by have := h.ok b hb; omega)])
  refine close_value (c1 := c2) (p := .own kk) (v := .slice (some ⟨c.w.heap.size,0,none⟩) l.length n) (by rw [e1,hw]; exact hrun) hrep (fun x hx => (hg x hx).of g1) ?_ rfl (by rw [hd]; exact hr) hK
  simp only [RepV,e3]
  exact ⟨by rw [hw],_,_,_,rfl⟩
theorem newMrow_sound {st1 : St} {c1 : Cx} {e : TypeId} {ty : Ty} {l : List ty.den} {d kk : Nat} {cs : Array Value} {n : Nat} (dr : Nat) (hd : o.dst = some d) (h : Rep m w0 st1 a c1) (hw : c1.w = c.w)
    (hg : ∀ x,o.dst = some x → NoGd st1 x) {st2 : St} (hn : st1.new kk (.mrow e ty l 0) = some st2) (hts : 0 < ty.size) (hcs : cs.size = n * ty.size) (hln : l.length ≤ n) (hn63 : n ≤ 9223372036854775807)
    (hdat : DatL c1.w c1.ra ty l (cs.toList.take (l.length * ty.size)))
    (hrun : (execOp a.eval o).run P c.w = .ok (.value (.slice (some ⟨c.w.heap.size,0,none⟩) l.length n)) { c.w with drawn := dr,heap := c.w.heap.push (.cells cs e) })
    (hr : K (st2.set d (.own kk)) = some r) (hK : ∀ st' a' c',K st' = some r → Rep m w0 st' a' c' → next a' c'.w) : o.upon P a next Q ((execOp a.eval o).run P c.w) := by
  obtain ⟨g1,g2,g3,g4,g5,g6⟩ := new_spec hn
  obtain ⟨c2,e1,e2,e3,e4,hrep⟩ := h.push hn dr cs e (.slice (some ⟨c1.w.heap.size,0,none⟩) l.length n) (fun c2 q1 q2 q3 q4 q5 q6 q7 qa => by
    refine ⟨some ⟨c1.w.heap.size,0,none⟩,n,q4,hln,hn63,.inr ⟨by rw [q3],cs,by rw [q3]; exact q6,hcs,?_,hts⟩⟩
    refine DatM.zero (hdat.move (fun b hb => ?_) (fun b hb => by unfold Cx.ra; rw [q2,qa]; exact hb))
    rw [q1]
    show (c1.w.heap.push _)[b]? = _
    rw [Array.getElem?_push,if_neg (by have := h.zlt (.inl hb); omega)])
  refine close_value (c1 := c2) (p := .own kk) (v := .slice (some ⟨c.w.heap.size,0,none⟩) l.length n) (by rw [e1,hw]; exact hrun) hrep (fun x hx => (hg x hx).of g1) ?_ rfl (by rw [hd]; exact hr) hK
  simp only [RepV,e3]
  exact ⟨by rw [hw],_,_,_,rfl⟩
theorem act_buildSlice {C : Ctx} (hC : C.P = P) {t : TypeId} {n : Nat} {parts : Array (Nat×Operand)} (hop : o.op = .buildSlice t n parts) (h : Rep m w0 st a c) (hg : ∀ x,o.dst = some x → NoGd st x) (hr : actOp C o st K = some r)
    (hK : ∀ st' a' c',K st' = some r → Rep m w0 st' a' c' → next a' c'.w) : o.upon P a next Q ((execOp a.eval o).run P c.w) := by
  subst hC
  simp only [actOp,hop] at hr
  split at hr
  · rename_i e d hu hd
    split at hr
    · rename_i ty x he
      obtain ⟨i,z,lz,hi,hz0,hsz,hisz,hib,hrepz,hof,hts,htp,hbp⟩ := elemInfo_spec he
      split at hr
      · rename_i hlim
        split at hr
        · rename_i l1 hb
          split at hr
          · rename_i l2 st1 hp
            split at hr
            · rename_i l ht
              split at hr
              · rename_i st2 hn
                obtain ⟨zc,hzc⟩ : ∃ zc : Array Value,(n * C.P.cellsOf e = 0 → zc = #[]) ∧ (n * C.P.cellsOf e ≠ 0 → zc = z.cells) := by
                  by_cases h0 : n * C.P.cellsOf e = 0
                  · exact ⟨#[],fun _ => rfl,fun h => absurd h0 h⟩
                  · exact ⟨z.cells,fun h => absurd h h0,fun _ => rfl⟩
                obtain ⟨cs,k1,k2,k3⟩ := buildElems_sound h e ty.size parts.toList _ l1 ((Array.range (n * C.P.cellsOf e)).map (zc[· % zc.size]!))
                  (by have := RepL.undefs c ((Array.range (n * C.P.cellsOf e)).map (zc[· % zc.size]!)).toList
                      simpa [hts] using this) hb
                obtain ⟨c1,e1,rep1,hl2,s1,m1⟩ := plainL_sound h k2 hp
                obtain ⟨hln,hdat⟩ := takeN_dat c1 n l2 l _ ht hl2
                have hcs : cs.size = n * ty.size := by rw [k3]; simp [hts]
                have hn24 : n ≤ 16777216 := by
                  have : n * 1 ≤ n * ty.size := Nat.mul_le_mul_left _ htp
                  omega
                refine newRow_sound (cs := cs) (n := n) c.w.drawn hd rep1 e1 (fun x hx => (hg x hx).of s1) hn htp hcs (by omega) (by omega) ?_ ?_ hr hK
                · rw [List.take_of_length_le (by simp [hcs,hln])]; exact hdat
                · have hpt : (parts.map fun (x : Nat×Operand) => match x with | (i,x) => (i,a.eval x)).toList = parts.toList.map fun p => (p.1,a.eval p.2) := by simp
                  have hcl : ¬ n * C.P.cellsOf e > 2 ^ 24 := by rw [← hts]; omega
                  rw [hln]
                  have hso : (sizeOf e).run C.P c.w = .ok (C.P.cellsOf e) c.w := by simp [sizeOf,typeInfo,hi,Program.cellsOf]
                  rw [hts] at k1
                  by_cases h0 : n * C.P.cellsOf e = 0
                  · rw [hzc.1 h0] at k1
                    simp only [execOp,hop,Sem.run_bind,Instr.buildSlice,run_underlying_some hu,hso,Result.andThen_ok,if_neg hcl,if_pos h0,hpt,k1,newRow,run_newObj,Sem.run_pure]
                  · rw [hzc.2 h0] at k1
                    simp only [execOp,hop,Sem.run_bind,Instr.buildSlice,run_underlying_some hu,hso,Result.andThen_ok,if_neg hcl,if_neg h0,run_zeroValue hi hz0,hpt,k1,newRow,run_newObj,Sem.run_pure]
              · simp at hr
            · rename_i hnone
              split at hr
              rotate_left
              · simp at hr
              rename_i l ht
              split at hr
              · rename_i st2 hn
                obtain ⟨zc,hzc⟩ : ∃ zc : Array Value,(n * C.P.cellsOf e = 0 → zc = #[]) ∧ (n * C.P.cellsOf e ≠ 0 → zc = z.cells) := by
                  by_cases h0 : n * C.P.cellsOf e = 0
                  · exact ⟨#[],fun _ => rfl,fun h => absurd h0 h⟩
                  · exact ⟨z.cells,fun h => absurd h h0,fun _ => rfl⟩
                obtain ⟨cs,k1,k2,k3⟩ := buildElems_sound h e ty.size parts.toList _ l1 ((Array.range (n * C.P.cellsOf e)).map (zc[· % zc.size]!))
                  (by have := RepL.undefs c ((Array.range (n * C.P.cellsOf e)).map (zc[· % zc.size]!)).toList
                      simpa [hts] using this) hb
                obtain ⟨c1,e1,rep1,hl2,s1,m1⟩ := plainL_sound h k2 hp
                obtain ⟨hln,hdat⟩ := takeN_dat c1.wide n _ l _ ht hl2.untag
                have hcs : cs.size = n * ty.size := by rw [k3]; simp [hts]
                have hn24 : n ≤ 16777216 := by
                  have : n * 1 ≤ n * ty.size := Nat.mul_le_mul_left _ htp
                  omega
                refine newMrow_sound (cs := cs) (n := n) c.w.drawn hd rep1 e1 (fun x hx => (hg x hx).of s1) hn htp hcs (by omega) (by omega) ?_ ?_ hr hK
                · rw [List.take_of_length_le (by simp [hcs,hln])]; exact hdat
                · have hpt : (parts.map fun (x : Nat×Operand) => match x with | (i,x) => (i,a.eval x)).toList = parts.toList.map fun p => (p.1,a.eval p.2) := by simp
                  have hcl : ¬ n * C.P.cellsOf e > 2 ^ 24 := by rw [← hts]; omega
                  rw [hln]
                  have hso : (sizeOf e).run C.P c.w = .ok (C.P.cellsOf e) c.w := by simp [sizeOf,typeInfo,hi,Program.cellsOf]
                  rw [hts] at k1
                  by_cases h0 : n * C.P.cellsOf e = 0
                  · rw [hzc.1 h0] at k1
                    simp only [execOp,hop,Sem.run_bind,Instr.buildSlice,run_underlying_some hu,hso,Result.andThen_ok,if_neg hcl,if_pos h0,hpt,k1,newRow,run_newObj,Sem.run_pure]
                  · rw [hzc.2 h0] at k1
                    simp only [execOp,hop,Sem.run_bind,Instr.buildSlice,run_underlying_some hu,hso,Result.andThen_ok,if_neg hcl,if_neg h0,run_zeroValue hi hz0,hpt,k1,newRow,run_newObj,Sem.run_pure]
              · simp at hr
          · simp at hr
        · simp at hr
      · simp at hr
    · simp at hr
  · simp at hr

theorem act_makeSlice {C : Ctx} (hC : C.P = P) {t : TypeId} {x y : Operand} (hop : o.op = .makeSlice t x y) (h : Rep m w0 st a c) (hg : ∀ x,o.dst = some x → NoGd st x) (hr : actOp C o st K = some r)
    (hK : ∀ st' a' c',K st' = some r → Rep m w0 st' a' c' → next a' c'.w) : o.upon P a next Q ((execOp a.eval o).run P c.w) := by
  subst hC
  simp only [actOp,hop] at hr
  split at hr
  · rename_i e d k k' hu hd hx hy
    have hx' := operand_rep h x
    have hy' := operand_rep h y
    rw [hx] at hx'
    rw [hy] at hy'
    simp only [RepV] at hx' hy'
    split at hr
    · rename_i ty x0 he
      obtain ⟨i,z,lz,hi,hz0,hsz,hisz,hib,hrepz,hof,hts,htp,hbp⟩ := elemInfo_spec he
      obtain ⟨hc,hr2⟩ := cond_some hr
      clear hr
      simp only [Bool.and_eq_true,decide_eq_true_eq] at hc
      obtain ⟨⟨h0,rfl⟩,hlim⟩ := hc
      have hr := hr2
      clear hr2
      split at hr
      · rename_i st2 hn
        obtain ⟨q,rfl⟩ := Int.eq_ofNat_of_zero_le h0
        simp only [Int.toNat_natCast] at hlim hr hn
        have hLIM : LIM = 140737488355328 := rfl
        rw [hLIM] at hlim
        have hq : q ≤ 140737488355328 := by
          have : q * 1 ≤ q * C.P.bytesOf e := Nat.mul_le_mul_left _ hbp
          omega
        obtain ⟨zc,hzc,hzs⟩ : ∃ zc : Array Value,(q * C.P.cellsOf e = 0 → zc = #[]) ∧ (q * C.P.cellsOf e ≠ 0 → zc = z.cells) := by
          by_cases hq0 : q * C.P.cellsOf e = 0
          · exact ⟨#[],fun _ => rfl,fun h => absurd hq0 h⟩
          · exact ⟨z.cells,fun h => absurd h hq0,fun _ => rfl⟩
        have hzd : Dat c.w c.ok ty x0 z.cells.toList := Ty.of_dat hof (hrepz c)
        have hzl : z.cells.size = ty.size := by rw [hsz,hts]
        have hcells : DatL c.w c.ok ty (List.replicate q x0) (((Array.range (q * C.P.cellsOf e)).map (zc[· % zc.size]!)).toList) := by
          have key : ∀ q',q' ≤ q → DatL c.w c.ok ty (List.replicate q' x0) ((List.range (q' * ty.size)).map (fun i => zc[i % zc.size]!)) := by
            intro q'
            induction q' with
            | zero => intro _; simp [DatL]
            | succ p ih =>
              intro hp
              have hzc' := hzs (by rw [← hts]; exact Nat.ne_of_gt (Nat.mul_pos (by omega) htp))
              rw [List.replicate_succ']
              rw [Nat.add_mul,Nat.one_mul,List.range_add,List.map_append]
              refine (ih (by omega)).append ?_
              refine ⟨z.cells.toList,[],?_,hzd,rfl⟩
              rw [List.append_nil]
              apply List.ext_getElem
              · simp [hzl]
              · intro i h1 h2
                simp only [List.length_map,List.length_range] at h1
                simp only [List.map_map,List.getElem_map,List.getElem_range,Function.comp_apply]
                rw [hzc',hzl,Nat.mul_comm p,Nat.mul_add_mod,Nat.mod_eq_of_lt h1]
                rw [getElem!_pos z.cells i (by omega)]
                rfl
          have := key q (Nat.le_refl _)
          rw [← hts]
          simpa using this
        refine newRow_sound (cs := (Array.range (q * C.P.cellsOf e)).map (zc[· % zc.size]!)) (n := q) c.w.drawn hd h rfl hg hn htp (by simp [hts]) (by simp) (by omega) ?_ ?_ hr hK
        · rw [List.take_of_length_le (by simp [hts])]; exact hcells
        · have hw : IntKind.i64.wrap (q : Int) = q := by simp [IntKind.wrap,IntKind.signed,IntKind.bits]; omega
          have hso : (sizeOf e).run C.P c.w = .ok (C.P.cellsOf e) c.w := by simp [sizeOf,typeInfo,hi,Program.cellsOf]
          have hti : (typeInfo e).run C.P c.w = .ok i c.w := by simp [typeInfo,hi]
          have hlg : ((decide ((q : Int) < 0) || decide (((i.bytes : Nat) : Int) * (q : Int) > 2 ^ 48)) || decide ((q : Int) < 0) || decide ((q : Int) > (q : Int))) = false := by
            have : ((i.bytes : Nat) : Int) * (q : Int) ≤ 140737488355328 := by
              rw [hib,Int.mul_comm]; exact Int.ofNat_le.2 hlim
            have h1 : ¬ ((q : Int) < 0) := by omega
            have h2 : ¬ (((i.bytes : Nat) : Int) * (q : Int) > 2 ^ 48) := by omega
            have h3 : ¬ ((q : Int) > (q : Int)) := by omega
            rw [decide_eq_false h1,decide_eq_false h2,decide_eq_false h3]; rfl
          rw [List.length_replicate]
          by_cases hq0 : q * C.P.cellsOf e = 0
          · rw [hzc hq0]
            simp only [execOp,hop,Sem.run_bind,Instr.makeSlice,run_underlying_some hu,hx'.1,hy'.1,asInt,asIntOf,Sem.run_pure,hti,Result.andThen_ok,hw,hlg,Bool.false_eq_true,if_false,run_askRoom,Int.toNat_natCast,hso,if_pos hq0,newRow,run_newObj]
          · rw [hzs hq0]
            simp only [execOp,hop,Sem.run_bind,Instr.makeSlice,run_underlying_some hu,hx'.1,hy'.1,asInt,asIntOf,Sem.run_pure,hti,Result.andThen_ok,hw,hlg,Bool.false_eq_true,if_false,run_askRoom,Int.toNat_natCast,hso,if_neg hq0,run_zeroValue hi hz0,newRow,run_newObj]
      · simp at hr
    · simp at hr
  · simp at hr
end
end Go.Fw
