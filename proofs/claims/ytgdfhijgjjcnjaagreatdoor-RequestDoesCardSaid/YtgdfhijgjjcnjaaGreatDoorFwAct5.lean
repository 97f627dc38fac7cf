/- Stores. -/
import Derived.Test.YtgdfhijgjjcnjaaGreatDoorFwAct4
set_option linter.unusedVariables false
set_option linter.unusedSimpArgs false
namespace Go.Fw
open Go.RowKit (Below)

theorem splice_splice {α : Type} (A vals : List α) (p off sz : Nat) (h : off + vals.length ≤ sz) :
    A.take p ++ (((A.drop p).take sz).take off ++ vals ++ ((A.drop p).take sz).drop (off + vals.length)) ++ A.drop (p + sz) = A.take (p + off) ++ vals ++ A.drop (p + off + vals.length) := by
  have h1 : A.take (p + off) = A.take p ++ ((A.drop p).take sz).take off := by
    rw [List.take_add,List.take_take,Nat.min_eq_left (by omega)]
  have h2 : A.drop (p + off + vals.length) = ((A.drop p).take sz).drop (off + vals.length) ++ A.drop (p + sz) := by
    rw [List.drop_take,List.drop_drop,show p + (off + vals.length) = p + off + vals.length by omega]
    conv => lhs; rw [← List.take_append_drop (sz - (off + vals.length)) (A.drop (p + off + vals.length))]
    rw [List.drop_drop]
    congr 2
    omega
  rw [h1,h2]
  simp
theorem take_splice {α : Type} (A vals : List α) (q n : Nat) (h : q + vals.length ≤ n) (hA : n ≤ A.length) :
    (A.take q ++ vals ++ A.drop (q + vals.length)).take n = (A.take n).take q ++ vals ++ (A.take n).drop (q + vals.length) := by
  have hl : (A.take q ++ vals).length = q + vals.length := by simp; omega
  rw [List.take_append,List.take_of_length_le (by omega),hl,List.take_take,Nat.min_eq_left (by omega),List.drop_take]

section
variable {P : Program} {m : MM} {w0 : World} {st : St} {a : Act} {c : Cx} {R : Type} {K : St → Option R} {r : R} {o : Oper} {next : Act → World → Prop} {Q : Exit → Act → World → Prop}

theorem own_store (h : Rep m w0 st a c) {k : Nat} (hk : Owns c k) {el : Option TypeId} {cs : Array Value} (hc : Cells c.w (c.ρ k) el cs) {vals : List Value} {off : Nat} (h1 : ∀ u ∈ vals,u.oneCell' = true) (hl : off + vals.length ≤ cs.size) :
    ∃ w1 cs1,(storeCells ⟨c.ρ k,off,none⟩ vals).run P c.w = .ok () w1 ∧ Cells w1 (c.ρ k) el cs1 ∧ cs1.toList = cs.toList.take off ++ vals ++ cs.toList.drop (off + vals.length) ∧ cs1.size = cs.size ∧ Kept m.w w0 w1 ∧ w1.heap.size = c.w.heap.size ∧
      ∀ b,b ≠ c.ρ k → w1.heap[b]? = c.w.heap[b]? := by
  obtain ⟨w1,cs1,g1,g2,g3,g4,g5,g6,g7,g8⟩ := run_storeCells (P := P) vals c.w cs off 0 hc (by omega) h1
  have hm := h.mine k hk
  refine ⟨w1,cs1,g1,g2,by simpa using g3,?_,h.kept.one g4 g5 g6 (by omega) (c.ρ k) hm.2.1 (fun i _ hi => g8 i hi),g7,g8⟩
  have := congrArg List.length g3
  simp at this
  omega
theorem act_store {C : Ctx} (hC : C.P = P) {t : TypeId} {x y : Operand} (hop : o.op = .store t x y) (h : Rep m w0 st a c) (hg : ∀ x,o.dst = some x → NoGd st x) (hr : actOp C o st K = some r)
    (hK : ∀ st' a' c',K st' = some r → Rep m w0 st' a' c' → next a' c'.w) : o.upon P a next Q ((execOp a.eval o).run P c.w) := by
  subst hC
  simp only [actOp,hop,storeOp] at hr
  have hx := operand_rep h x
  have hy := typed_rep (P := C.P) (operand_rep h y) t
  split at hr
  · rename_i hc
    obtain ⟨hlen,hne,hone⟩ := hc
    have hyc := hy.cells (cells_ok hone)
    have hv1 := hyc.one hone
    have hvl := hyc.length
    have run : ∀ (b off : Nat) (w1 : World),a.eval x = .pointer (some ⟨b,off,none⟩) → (storeCells ⟨b,off,none⟩ (a.eval y).cells.toList).run C.P c.w = .ok () w1 → (execOp a.eval o).run C.P c.w = .ok .skip w1 := by
      intro b off w1 hv hs
      have : ¬ (a.eval y).cells.size ≠ C.P.cellsOf t := by
        rw [← Array.length_toList,hvl,hlen]; simp
      simp only [execOp,hop,Sem.run_bind,hv,Instr.storeAt,Instr.sureAddr,Sem.run_pure,Result.andThen_ok,storeVar,run_sizeOf hne,if_neg this,hs]
    split at hr
    · rename_i k off hk
      rw [hk] at hx
      simp only [RepV] at hx
      split at hr
      · rename_i l ho
        split at hr
        · rename_i hle
          have hob : c.ob k = some (.box l) := by rw [h.ob]; exact ho
          obtain ⟨cs,hcs,hl⟩ := h.objs k _ hob
          have hown : Owns c k := ⟨_,hob,trivial⟩
          have hll := hl.length
          simp only [Array.length_toList] at hll
          obtain ⟨w1,cs1,g1,g2,g3,g4,g5,g6,g7⟩ := own_store (P := C.P) h hown hcs (vals := (a.eval y).cells.toList) (off := off) hv1 (by omega)
          have hmine := h.mine k hown
          have hne' : ∀ b,c.za b → b ≠ c.ρ k := fun b hb he => h.mineZ hown (he ▸ hb)
          let c1 : Cx := { w := w1,ok := c.ok,ρ := c.ρ,σ := c.σ,pin := c.pin,a := c.a,q := c.q,ob := (st.setO k (.box (splice l off (typed C.P t (operand st y)).cells))).obj }
          have hmv : Mv (fun _ => True) c c1 := h.setMv ho c.ok (fun b hb => g7 b (hne' b hb)) (fun _ hb => hb) (by simp [RowAt]) (by simp)
          have hrep := h.setObj (o := .box l) (o' := .box (splice l off (typed C.P t (operand st y)).cells)) ho (w1 := w1) c.ok g5 (by omega)
            (fun b hb => g7 b (by rcases hb with hb | ⟨k',hk',hw',rfl⟩; exact hne' b hb; exact fun he => hk' (h.apart k' k hw' hown he))) (fun _ hb => hb)
            (fun b hb => ⟨by rw [g6]; exact h.ok b hb,fun k' _ hk' he => (h.mine k' hk').1 (he ▸ hb)⟩) (by simp [RowAt])
            ⟨cs1,g2.some_,by rw [g3]; exact RepL.move hmv _ _ (fun _ _ => trivial) (hl.splice off hyc)⟩ (fun _ => ⟨trivial,hmine.1⟩)
          exact close_skip (run _ _ _ hx g1) hrep (fun x hx => (hg x hx).of rfl) hr hK
        · simp at hr
      · simp at hr
    · rename_i k i sz off hk
      rw [hk] at hx
      split at hr
      · rename_i vs st1 hp
        obtain ⟨c1,e1,rep1,hvs,s1,m1⟩ := plainL_sound h hyc hp
        have hx1 := RepV.move m1 _ _ (fun _ _ => trivial) hx
        simp only [RepV] at hx1
        obtain ⟨hxv,hxb⟩ := hx1
        have main : ∀ (e : TypeId) (ty : Ty) (l : List ty.den) (z : ty.den) (cs : Array Value) (el : Option TypeId) (n : Nat) (o1 o2 : Ob),st1.obj k = some o1 → Owns c1 k → Cells c1.w (c1.ρ k) el cs →
            DatL c1.w c1.ok ty l (cs.toList.take (n * ty.size)) → n = l.length → 0 ≤ i → i < l.length → sz = ty.size → ty.of (splice (ty.leaves (rd ty l i)) off vs) = some z → K ((st1.setO k o2).put o.dst .undef) = some r →
            (∀ t l',RowAt (some o2) t l' → ∃ l'',RowAt (some o1) t l'' ∧ l''.length = l'.length) → o2 ≠ .live →
            (∀ (w1 : World) (cs1 : Array Value) (c2 : Cx),c2.w = w1 → c2.ok = c1.ok → c2.ρ = c1.ρ → c2.σ = c1.σ → Cells w1 (c1.ρ k) el cs1 → cs1.size = cs.size → DatL c2.w c2.ok ty (l.set i.toNat z) (cs1.toList.take (n * ty.size)) → RepO c2 k o2) →
            (OwnsO c1 k o2 → OwnsO c1 k o1) → n * ty.size ≤ cs.size →
            o.upon C.P a next Q ((execOp a.eval o).run C.P c.w) := by
          intro e ty l z cs el n o1 o2 ho hown hcs hdat hn h0 h1 hsz hz hr hlen' hnlive hO how hns
          subst hn
          have hlt : i.toNat < l.length := by omega
          obtain ⟨d,hd,hde,hdc⟩ := hdat.get i.toNat (rd_eq h0 h1)
          have hnew := Ty.of_dat hz (hd.leaves.splice off hvs)
          have hnl := hnew.len
          have hdl := hd.len
          have hvl2 := hvs.length
          have hfit : off + (a.eval y).cells.toList.length ≤ ty.size := by
            simp only [List.length_append,List.length_take,List.length_drop] at hnl
            omega
          have hmul : i.toNat * ty.size + ty.size ≤ l.length * ty.size := by
            rw [← Nat.succ_mul]; exact Nat.mul_le_mul_right _ hlt
          obtain ⟨w1,cs1,g1,g2,g3,g4,g5,g6,g7⟩ := own_store (P := C.P) rep1 hown hcs (vals := (a.eval y).cells.toList) (off := i.toNat * ty.size + off) hv1 (by omega)
          have hmine := rep1.mine k hown
          have hne' : ∀ b,c1.za b → b ≠ c1.ρ k := fun b hb he => rep1.mineZ hown (he ▸ hb)
          have hdat2 : DatL c1.w c1.ok ty (l.set i.toNat z) (cs1.toList.take (l.length * ty.size)) := by
            have := hdat.set i.toNat hlt hnew
            rw [hde,splice_splice _ _ _ _ _ hfit] at this
            rw [g3,take_splice _ _ _ _ (by omega) (by simpa using hns)]
            exact this
          have hrep := rep1.setObj (o := o1) (o' := o2) ho (w1 := w1) c1.ok g5 (by omega)
            (fun b hb => g7 b (by rcases hb with hb | ⟨k',hk',hw',rfl⟩; exact hne' b hb; exact fun he => hk' (rep1.apart k' k hw' hown he))) (fun _ hb => hb)
            (fun b hb => ⟨by rw [g6]; exact rep1.ok b hb,fun k' _ hk' he => (rep1.mine k' hk').1 (he ▸ hb)⟩) hlen'
            (hO w1 cs1 _ rfl rfl rfl rfl g2 g4 (hdat2.move (fun b hb => g7 b (hne' b (.inl (.inl hb)))) (fun _ hb => hb))) (fun hw => ⟨how hw,hmine.1⟩) (hnl := hnlive)
          refine close_skip (run _ _ w1 hxv ?_) hrep (fun x hx => (hg x hx).of (by show st1.s = st.s; exact s1)) hr hK
          rw [hsz,← e1]; exact g1
        split at hr
        · rename_i e ty l ho
          split at hr
          · rename_i hsz
            split at hr
            · rename_i z hz
              have hob : c1.ob k = some (.row e ty l) := by rw [rep1.ob]; exact ho
              obtain ⟨h0,h1,_⟩ := hxb ty l (.inl ⟨e,hob⟩)
              obtain ⟨A,n,q1,q2,q3,q4⟩ := rep1.objs k _ hob
              rcases q4 with q4 | ⟨q4,cs,q5,q6,q7,q8⟩
              · omega
              · refine main e ty l z cs (some e) l.length (.row e ty l) (.row e ty (l.set i.toNat z)) ho ⟨_,hob,A,_,n,q1,by omega⟩ q5 q7 rfl h0 h1 hsz hz hr (fun t' l' hl' => ?_) (by simp) (fun w1 cs1 c2 f1 f2 f3 f4 f5 f6 f7 => ?_) (fun hw => hw) (by rw [q6]; exact Nat.mul_le_mul_right _ q2)
                · obtain ⟨rfl,hl'⟩ := hl'.row
                  exact ⟨l,.inl ⟨e,rfl⟩,by rw [hl']; simp⟩
                · refine ⟨A,n,by rw [f4,List.length_set]; exact q1,by rw [List.length_set]; exact q2,q3,.inr ⟨by rw [f3]; exact q4,cs1,by rw [f1,f3]; exact f5,by rw [f6]; exact q6,?_,q8⟩⟩
                  rw [List.length_set]; exact f7
            · simp at hr
          · simp at hr
        · rename_i e ty n l ho
          split at hr
          · rename_i hsz
            split at hr
            · rename_i z hz
              have hob : c1.ob k = some (.arr e ty n l) := by rw [rep1.ob]; exact ho
              obtain ⟨h0,h1,_⟩ := hxb ty l (.inr (.inl ⟨e,n,hob⟩))
              obtain ⟨q0,cs,q1,q2⟩ := rep1.objs k _ hob
              have hcl := q2.len
              refine main e ty l z cs none l.length (.arr e ty n l) (.arr e ty n (l.set i.toNat z)) ho ⟨_,hob,trivial⟩ q1 (by rw [List.take_of_length_le (by omega)]; exact q2) rfl h0 h1 hsz hz hr (fun t' l' hl' => ?_) (by simp) (fun w1 cs1 c2 f1 f2 f3 f4 f5 f6 f7 => ?_) (fun hw => hw) (by simp at hcl; omega)
              · obtain ⟨rfl,hl'⟩ := hl'.arr
                exact ⟨l,.inr (.inl ⟨e,n,rfl⟩),by rw [hl']; simp⟩
              · refine ⟨by rw [List.length_set]; exact q0,cs1,by rw [f1,f3]; exact f5,?_⟩
                rw [List.take_of_length_le (by simp at hcl ⊢; omega)] at f7
                exact f7
            · simp at hr
          · simp at hr
        · rename_i e ty l p ho
          split at hr
          · rename_i hsz
            split at hr
            · rename_i z hz
              obtain ⟨hip,hr⟩ := cond_some hr
              simp only [decide_eq_true_eq] at hip
              have hob : c1.ob k = some (.mrow e ty l p) := by rw [rep1.ob]; exact ho
              obtain ⟨h0,h1,_⟩ := hxb ty l (.inr (.inr ⟨e,p,hob⟩))
              obtain ⟨A,n,q1,q2,q3,q4⟩ := rep1.objs k _ hob
              rcases q4 with q4 | ⟨q4,cs,q5,q6,q7,q8⟩
              · omega
              · have hown : Owns c1 k := ⟨_,hob,A,_,n,q1,by omega⟩
                have hns : l.length * ty.size ≤ cs.size := by rw [q6]; exact Nat.mul_le_mul_right _ q2
                have hlt : i.toNat < l.length := by omega
                obtain ⟨d,hd,hde,hdc⟩ := (q7.all fun _ hb => .inl hb).get i.toNat (rd_eq h0 h1)
                have hnew := Ty.of_dat hz (hd.leavesA.splice off hvs)
                have hnl := hnew.len
                have hdl := hd.len
                have hvl2 := hvs.length
                have hfit : off + (a.eval y).cells.toList.length ≤ ty.size := by
                  simp only [List.length_append,List.length_take,List.length_drop] at hnl
                  omega
                have hmul : i.toNat * ty.size + ty.size ≤ l.length * ty.size := by
                  rw [← Nat.succ_mul]; exact Nat.mul_le_mul_right _ hlt
                obtain ⟨w1,cs1,g1,g2,g3,g4,g5,g6,g7⟩ := own_store (P := C.P) rep1 hown q5 (vals := (a.eval y).cells.toList) (off := i.toNat * ty.size + off) hv1 (by omega)
                have hmine := rep1.mine k hown
                have hne' : ∀ b,c1.za b → b ≠ c1.ρ k := fun b hb he => rep1.mineZ hown (he ▸ hb)
                have hdat2 : DatM c1.w c1.ok c1.ra ty (p + 1) (l.set i.toNat z) (cs1.toList.take (l.length * ty.size)) := by
                  have := q7.set (by omega) hnew
                  rw [← hip,hde,splice_splice _ _ _ _ _ hfit] at this
                  rw [g3,take_splice _ _ _ _ (by omega) (by simpa using hns),← hip]
                  exact this
                have hrep := rep1.setObj (o := .mrow e ty l p) (o' := .mrow e ty (l.set i.toNat z) (p + 1)) ho (w1 := w1) c1.ok g5 (by omega)
                  (fun b hb => g7 b (by rcases hb with hb | ⟨k',hk',hw',rfl⟩; exact hne' b hb; exact fun he => hk' (rep1.apart k' k hw' hown he))) (fun _ hb => hb)
                  (fun b hb => ⟨by rw [g6]; exact rep1.ok b hb,fun k' _ hk' he => (rep1.mine k' hk').1 (he ▸ hb)⟩)
                  (fun t' l' hl' => by obtain ⟨rfl,hl'⟩ := hl'.mrow; exact ⟨l,.inr (.inr ⟨e,p,rfl⟩),by rw [hl']; simp⟩)
                  (by
                    refine ⟨A,n,by rw [List.length_set]; exact q1,by rw [List.length_set]; exact q2,q3,.inr ⟨q4,cs1,g2,by rw [g4]; exact q6,?_,q8⟩⟩
                    rw [List.length_set]
                    exact hdat2.move (fun b hb => g7 b (hne' b (.inl (.inl hb)))) (fun _ hb => hb) (fun b hb => g7 b (hne' b (.inl hb))) (fun _ hb => hb)) (fun hw => ⟨hw,hmine.1⟩)
                refine close_skip (run _ _ w1 hxv ?_) hrep (fun x hx => (hg x hx).of (by show st1.s = st.s; exact s1)) hr hK
                rw [hsz,← e1]; exact g1
            · simp at hr
          · simp at hr
        · simp at hr
      · simp at hr
    · rename_i t' x' off hk
      rw [hk] at hx
      simp only [RepV] at hx
      obtain ⟨b,o',cs,hxv,hqb,hshp,hlv,hcell⟩ := hx
      cases hli : st.live with
      | true => rw [hli] at hr; simp at hr
      | false =>
      rw [hli] at hr
      simp only [cond_false] at hr
      have hnl : c.ob QK ≠ some .live := by
        rw [h.ob]
        intro hh
        simp [St.live,hh] at hli
      have hrl := hshp.rleaves hlv
      have go : ∀ (k k' : IntKind) (mv : Int) (v : Value),(t'.rleaves x')[off]? = some (.any k) → (a.eval y).cells.toList = [v] → v = .int k' mv → (Lit.int k' mv).wf = true → k = k' → K (st.put o.dst .undef) = some r →
          o.upon C.P a next Q ((execOp a.eval o).run C.P c.w) := by
        rintro k k' mv v h1 h2 rfl h4 rfl hr
        obtain ⟨u,hu1,hu2⟩ := hrl.get off h1
        simp only [RepV] at hu2
        obtain ⟨n,rfl,hn⟩ := hu2
        have hc := hcell off _ hu1
        have hrep := h.spoil hqb hnl hc h4
        refine close_skip (run _ _ _ hxv ?_) hrep hg hr hK
        rw [h2]
        exact run_store1 (P := C.P) (h.q b hqb).2.2.1 hc rfl
      split at hr
      · rename_i k k' h1 h2
        split at hr
        · rename_i hkk
          rw [h2] at hyc
          simp only [RepL,RepV] at hyc
          obtain ⟨v,r',e1,⟨mv,rfl,hwf⟩,rfl⟩ := hyc
          exact go k k' mv _ h1 e1 rfl hwf hkk hr
        · simp at hr
      · rename_i k k' mv h1 h2
        split at hr
        · rename_i hkk
          rw [h2] at hyc
          simp only [RepL,RepV] at hyc
          obtain ⟨v,r',e1,⟨rfl,hwf⟩,rfl⟩ := hyc
          exact go k k' mv _ h1 e1 rfl hwf hkk hr
        · simp at hr
      · simp at hr
    · simp at hr
  · simp at hr
end
end Go.Fw
