/- Values and variables made. -/
import Derived.Test.YtgdfhijgjjcnjaaGreatDoorFwAct
set_option linter.unusedVariables false
set_option linter.unusedSimpArgs false
namespace Go.Fw
open Go.RowKit (Below)

theorem zeroLeaf_rep {f : Lf} {v : Value} {p : PV} (h : zeroLeaf f v = some p) (c : Cx) : RepV c p v ∧ p.one = true := by
  unfold zeroLeaf at h
  split at h
  · split at h
    · rename_i hk
      obtain ⟨rfl,rfl⟩ := hk
      simp only [Option.some.injEq] at h
      subst h
      refine ⟨RepV.int_ ?_,rfl⟩
      rename_i k
      cases k <;> rfl
    · simp at h
  · simp only [Option.some.injEq] at h; subst h; exact ⟨by simp [RepV],rfl⟩
  · rename_i s
    cases hs : Nat.beq s.size 0 with
    | false => rw [hs] at h; simp at h
    | true =>
      rw [hs] at h
      simp only [cond_true,Option.some.injEq] at h
      subst h
      have h0 := beq_true.1 hs
      have : bytesOf s = [] := by rw [← List.length_eq_zero_iff,bytesOf_length]; exact h0
      exact ⟨by simp only [RepV]; exact ⟨s,rfl,this.symm,by omega⟩,rfl⟩
  · simp only [Option.some.injEq] at h; subst h
    exact ⟨by simp only [RepV]; exact ⟨none,rfl,by simp,fun h0 => by simp at h0⟩,rfl⟩
  · simp only [Option.some.injEq] at h; subst h; exact ⟨by simp [RepV],rfl⟩
  · simp only [Option.some.injEq] at h; subst h; exact ⟨by simp [RepV],rfl⟩
  · simp at h
theorem zeroLeaves_rep (c : Cx) : ∀ {fs : List Lf} {vs : List Value} {l : List PV},zeroLeaves fs vs = some l → RepL c l vs ∧ l.all PV.one = true
  | [],[],_,h => by simp only [zeroLeaves,Option.some.injEq] at h; subst h; simp [RepL]
  | [],_ :: _,_,h => by simp [zeroLeaves] at h
  | _ :: _,[],_,h => by simp [zeroLeaves] at h
  | f :: fs,v :: vs,_,h => by
    simp only [zeroLeaves] at h
    split at h
    · rename_i p ps h1 h2
      simp only [Option.some.injEq] at h
      subst h
      obtain ⟨g1,g2⟩ := zeroLeaf_rep h1 c
      obtain ⟨g3,g4⟩ := zeroLeaves_rep c h2
      exact ⟨by simp only [RepL]; exact ⟨v,vs,rfl,g1,g3⟩,by simp [g2,g4]⟩
    · simp at h

section
variable {P : Program} {m : MM} {w0 : World} {st : St} {a : Act} {c : Cx} {R : Type} {K : St → Option R} {r : R} {o : Oper} {next : Act → World → Prop} {Q : Exit → Act → World → Prop}

theorem zeroPV_rep {t : TypeId} {l : List PV} (h : zeroPV P t = some l) : ∃ i z,P.info? t = some i ∧ i.zero = some z ∧ z.cells.size = P.cellsOf t ∧ ∀ c : Cx,RepL c l z.cells.toList ∧ l.all PV.one = true := by
  unfold zeroPV at h
  split at h
  · rename_i i hi
    split at h
    · rename_i z ls hz hl
      split at h
      · rename_i hs
        exact ⟨i,z,hi,hz,by simp [Program.cellsOf,hi,hs],fun c => zeroLeaves_rep c h⟩
      · simp at h
    · simp at h
  · simp at h
theorem run_zeroValue {t : TypeId} {i : TypeInfo} {z : Value} (hi : P.info? t = some i) (hz : i.zero = some z) (w : World) : (zeroValue t).run P w = .ok z w := by
  simp [zeroValue,typeInfo,hi,hz]

theorem newBox_sound {l : List PV} {d : Nat} {v : Value} {t : TypeId} (hd : o.dst = some d) (h : Rep m w0 st a c) (hg : ∀ x,o.dst = some x → NoGd st x) (hl : RepL c l v.cells.toList)
    (hrun : (execOp a.eval o).run P c.w = .ok (.value (.pointer (some ⟨c.w.heap.size,0,none⟩))) { c.w with heap := c.w.heap.push (.cells v.cells t) })
    (hr : newBox l d st K = some r) (hK : ∀ st' a' c',K st' = some r → Rep m w0 st' a' c' → next a' c'.w) : o.upon P a next Q ((execOp a.eval o).run P c.w) := by
  unfold newBox at hr
  split at hr
  · rename_i st1 hn
    obtain ⟨h1,h2,h3,h4,h5,h6⟩ := new_spec hn
    obtain ⟨c1,e1,e2,e3,e4,hrep⟩ := h.push hn c.w.drawn v.cells t undef (fun c1 g1 g2 g3 g4 g5 g6 g7 _ => by
      refine ⟨v.cells,by rw [g3]; exact g6.some_,?_⟩
      have : ∀ (l : List PV) (vs : List Value),PV.refsL l (4096 * d) = false → RepL c l vs → RepL c1 l vs := by
        intro l
        induction l with
        | nil => intro vs _ h; simpa [RepL] using h
        | cons p q ih =>
          intro vs hn h
          simp only [PV.refsL,Bool.or_eq_false_iff] at hn
          simp only [RepL] at h ⊢
          obtain ⟨v,r',rfl,hv,hr⟩ := h
          exact ⟨v,r',rfl,g7 p v hn.1 hv,ih r' hn.2 hr⟩
      exact this l _ (by simpa [Ob.refs] using h6) hl)
    rw [show ({ c.w with drawn := c.w.drawn,heap := c.w.heap.push (.cells v.cells t) } : World) = { c.w with heap := c.w.heap.push (.cells v.cells t) } from rfl] at e1
    refine close_value (c1 := c1) (by rw [e1]; exact hrun) hrep (fun x hx => (hg x hx).of h1) ?_ rfl (by rw [hd]; exact hr) hK
    simp only [RepV,e2]
  · simp at hr

theorem act_alloc {C : Ctx} (hC : C.P = P) {t : TypeId} (hop : o.op = .alloc t) (h : Rep m w0 st a c) (hg : ∀ x,o.dst = some x → NoGd st x) (hr : actOp C o st K = some r)
    (hK : ∀ st' a' c',K st' = some r → Rep m w0 st' a' c' → next a' c'.w) : o.upon P a next Q ((execOp a.eval o).run P c.w) := by
  subst hC
  simp only [actOp,hop] at hr
  split at hr
  · rename_i d l hd hz
    obtain ⟨i,z,hi,hz0,hsz,hrep⟩ := zeroPV_rep hz
    obtain ⟨hl,h1⟩ := hrep c
    have hrun : (execOp a.eval o).run C.P c.w = .ok (.value (.pointer (some ⟨c.w.heap.size,0,none⟩))) { c.w with heap := c.w.heap.push (.cells z.cells t) } := by
      simp only [execOp,hop,Sem.run_bind,Instr.alloc,run_zeroValue hi hz0,Result.andThen_ok,newVar,newRow,run_newObj,Sem.run_pure]
    split at hr
    · rename_i n e hu
      split at hr
      · rename_i ty hty
        split at hr
        · rename_i x hx
          split at hr
          · rename_i st1 hn
            obtain ⟨g1,g2,g3,g4,g5,g6⟩ := new_spec hn
            have takeN_dat : ∀ (c1 : Cx) (n : Nat) (l : List PV) (x : List ty.den) (vs : List Value),takeN ty n l = some x → RepL c1 l vs → x.length = n ∧ DatL c1.w c1.ok ty x vs := by
              intro c1 n
              induction n with
              | zero =>
                intro l x vs hx hl
                cases l with
                | nil => simp only [takeN,Option.some.injEq] at hx; subst hx; simpa [RepL,DatL] using hl
                | cons p q => simp [takeN] at hx
              | succ n ih =>
                intro l x vs hx hl
                simp only [takeN] at hx
                split at hx
                · rename_i y q hy
                  split at hx
                  · rename_i l2 hl2
                    simp only [Option.some.injEq] at hx
                    subst hx
                    obtain ⟨v1,v2,rfl,d1,hr2⟩ := Ty.take_dat hy hl
                    obtain ⟨k1,k2⟩ := ih _ _ _ hl2 hr2
                    exact ⟨by simp [k1],v1,v2,rfl,d1,k2⟩
                  · simp at hx
                · simp at hx
            obtain ⟨c1,e1,e2,e3,e4,hrep1⟩ := h.push hn c.w.drawn z.cells t undef (fun c1 q1 q2 q3 q4 q5 q6 q7 _ => by
              obtain ⟨k1,k2⟩ := takeN_dat c1 n l x _ hx (hrep c1).1
              exact ⟨k1,z.cells,by rw [q3]; exact q6.some_,k2⟩)
            rw [show ({ c.w with drawn := c.w.drawn,heap := c.w.heap.push (.cells z.cells t) } : World) = { c.w with heap := c.w.heap.push (.cells z.cells t) } from rfl] at e1
            refine close_value (c1 := c1) (by rw [e1]; exact hrun) hrep1 (fun x hx => (hg x hx).of g1) ?_ rfl (by rw [hd]; exact hr) hK
            simp only [RepV,e2]
          · simp at hr
        · simp at hr
      · simp at hr
    · exact newBox_sound (t := t) (v := z) hd h hg hl hrun hr hK
  · simp at hr
theorem act_box {C : Ctx} (hC : C.P = P) {t : TypeId} {x : Operand} (hop : o.op = .box t x) (h : Rep m w0 st a c) (hg : ∀ x,o.dst = some x → NoGd st x) (hr : actOp C o st K = some r)
    (hK : ∀ st' a' c',K st' = some r → Rep m w0 st' a' c' → next a' c'.w) : o.upon P a next Q ((execOp a.eval o).run P c.w) := by
  subst hC
  simp only [actOp,hop] at hr
  have hrun : (execOp a.eval o).run C.P c.w = .ok (.value (.pointer (some ⟨c.w.heap.size,0,none⟩))) { c.w with heap := c.w.heap.push (.cells (a.eval x).cells t) } := by
    simp only [execOp,hop,Sem.run_bind,Instr.box,Result.andThen_ok,newVar,newRow,run_newObj,Sem.run_pure]
  have hx := typed_rep (P := C.P) (operand_rep h x) t
  split at hr
  · rename_i d hd
    split at hr
    · rename_i l hl
      rw [hl] at hx
      exact newBox_sound hd h hg (hx.cells (.inr ⟨_,rfl⟩)) hrun hr hK
    · obtain ⟨h1,hr⟩ := cond_some hr
      have := hx.cells (.inl h1)
      rw [PV.cells_one h1] at this
      exact newBox_sound hd h hg this hrun hr hK
  · simp at hr

theorem foldl_splice (off : Nat) : ∀ (vs : List Value) (k : Nat) (cs : Array Value),off + k + vs.length ≤ cs.size →
    ((vs.zipIdx k).foldl (fun cs p => cs.setIfInBounds (off + p.2) p.1) cs).toList = cs.toList.take (off + k) ++ vs ++ cs.toList.drop (off + k + vs.length)
  | [],k,cs,_ => by simp
  | v :: r,k,cs,hl => by
    simp only [List.length_cons] at hl
    rw [List.zipIdx_cons,List.foldl_cons,foldl_splice off r (k + 1) _ (by simp; omega)]
    rw [Array.toList_setIfInBounds,show off + (k + 1) = off + k + 1 by omega,List.length_cons]
    exact set_split _ _ _ _ (by simp; omega)
theorem fill_one {place : Nat → Option (Nat×Nat)} {cs : Array Value} {i off size : Nat} {v : Value} {rest : List (Nat×Value)} (hp : place i = some (off,size)) (hv : v.cells.size = size) (hl : off + size ≤ cs.size) :
    ∃ cs1 : Array Value,Instr.fill place cs ((i,v) :: rest) = Instr.fill place cs1 rest ∧ cs1.toList = cs.toList.take off ++ v.cells.toList ++ cs.toList.drop (off + v.cells.toList.length) ∧ cs1.size = cs.size := by
  refine ⟨v.cells.zipIdx.foldl (fun cs (c,j) => cs.setIfInBounds (off + j) c) cs,?_,?_,?_⟩
  · simp only [Instr.fill,hp]
    rw [if_neg (by simp [hv]; omega)]
  · have := foldl_splice off v.cells.toList 0 cs (by simp [hv]; omega)
    rw [← Array.foldl_toList,Array.toList_zipIdx]
    simpa using this
  · have := foldl_splice off v.cells.toList 0 cs (by simp [hv]; omega)
    have h2 := congrArg List.length this
    rw [← Array.foldl_toList,Array.toList_zipIdx]
    simp only [Array.length_toList,List.length_append,List.length_take,List.length_drop] at h2
    simp only [Nat.add_zero] at h2
    have : ((v.cells.toList.zipIdx).foldl (fun cs (x : Value×Nat) => cs.setIfInBounds (off + x.2) x.1) cs).size = cs.size := by
      rw [h2]; simp [hv]; omega
    exact this
end
end Go.Fw
