/- Operations that act or may fail. -/
import Derived.Test.YtgdfhijgjjcnjaaGreatDoorFwMem
set_option linter.unusedVariables false
set_option linter.unusedSimpArgs false
namespace Go.Fw
open Go.RowKit (Below)

theorem san_isGd (p : PV) : (unw.san p).isGd = false := by cases p <;> rfl
theorem san_rep {c : Cx} {p : PV} {v : Value} (h : RepV c p v) : RepV c (unw.san p) v := by cases p <;> first | exact h | simp [unw.san,RepV]
theorem ne_gd {p : PV} (h : p.isGd = false) : ∀ s w q,p ≠ .gd s w q := by rintro s w q rfl; simp [PV.isGd] at h

section
variable {P : Program} {m : MM} {w0 : World} {st : St} {a : Act} {c : Cx} {R : Type} {K : St → Option R} {r : R} {o : Oper} {next : Act → World → Prop} {Q : Exit → Act → World → Prop}

theorem close_value {c1 : Cx} {st1 : St} {p : PV} {v : Value} (hrun : (execOp a.eval o).run P c.w = .ok (.value v) c1.w) (h1 : Rep m w0 st1 a c1)
    (hg : ∀ x,o.dst = some x → NoGd st1 x) (hv : RepV c1 p v) (hp : p.isGd = false) (hKr : K (st1.put o.dst p) = some r)
    (hK : ∀ st' a' c',K st' = some r → Rep m w0 st' a' c' → next a' c'.w) : o.upon P a next Q ((execOp a.eval o).run P c.w) := by
  rw [hrun,Oper.upon_value]
  exact hK _ _ c1 hKr (h1.put o.dst (SlotOK.of hv (ne_gd hp)) (fun x hx => ⟨hg x hx,fun s w q he => absurd he (ne_gd hp s w q)⟩))
theorem close_skip {c1 : Cx} {st1 : St} (hrun : (execOp a.eval o).run P c.w = .ok .skip c1.w) (h1 : Rep m w0 st1 a c1)
    (hg : ∀ x,o.dst = some x → NoGd st1 x) (hKr : K (st1.put o.dst .undef) = some r)
    (hK : ∀ st' a' c',K st' = some r → Rep m w0 st' a' c' → next a' c'.w) : o.upon P a next Q ((execOp a.eval o).run P c.w) := by
  rw [hrun,Oper.upon_skip]
  exact hK _ _ c1 hKr (h1.put o.dst (SlotOK.of (RepV.undef_ _ _) (by simp)) (fun x hx => ⟨hg x hx,fun s w q he => by simp at he⟩))
theorem NoGd.of {st st1 : St} {d : Nat} (h : NoGd st d) (hs : st1.s = st.s) : NoGd st1 d := fun i s w v he => h i s w v (by simpa [St.get,hs] using he)
theorem cond_some {α : Type} {b : Bool} {x : Option α} {y : α} (h : (bif b then x else none) = some y) : b = true ∧ x = some y := by cases b <;> simp_all

theorem unw_rep (h : Rep m w0 st a c) {x y : Operand} {w : Bool} (hx : a.eval x = .bool w) : RepV c (unw x w (operand st y)) (a.eval y) := by
  have hr := operand_rep h y
  cases hy : operand st y <;> rw [hy] at hr <;> simp only [unw] <;> try exact hr
  rename_i s w' v
  split
  · rename_i s'
    cases hc : (Nat.beq s s' && (w == w')) with
    | false => simp [RepV]
    | true =>
      simp only [cond_true]
      simp only [Bool.and_eq_true,beq_iff_eq] at hc
      have hs := beq_true.1 hc.1
      obtain rfl := hc.2
      subst hs
      cases y with
      | tmp t =>
        have := h.slots t
        simp only [operand] at hy
        rw [hy] at this
        simp only [SlotOK] at this
        exact san_rep (this.1 hx)
      | const q =>
        exfalso
        cases q <;> simp only [operand] at hy <;> try (simp at hy; done)
        · cases hw : (Lit.int ‹IntKind› ‹Int›).wf <;> rw [hw] at hy <;> simp at hy
        · cases hw : Nat.ble (ByteArray.size ‹ByteArray›) 4294967296 <;> rw [hw] at hy <;> simp at hy
        · rename_i p; cases p <;> simp at hy
        · revert hy; split <;> simp_all
        · rename_i r; cases r <;> simp at hy
      | global g => simp [operand] at hy
      | func f => simp [operand] at hy
  · simp [RepV]
theorem typed_isGd {p : PV} (t : TypeId) (h : p.isGd = false) : (typed P t p).isGd = false := by
  cases p <;> first
    | exact h
    | (simp only [typed]; split <;> first | rfl | (split <;> rfl))
theorem unw_isGd (x : Operand) (w : Bool) (p : PV) : (unw x w p).isGd = false := by
  cases p <;> try rfl
  simp only [unw]
  split
  · generalize (Nat.beq _ _ && _) = q
    cases q
    · rfl
    · exact san_isGd _
  · rfl
theorem act_pick {C : Ctx} {x y z : Operand} (hop : o.op = .pick x y z) (h : Rep m w0 st a c) (hg : ∀ x,o.dst = some x → NoGd st x) (hr : actOp C o st K = some r)
    (hK : ∀ st' a' c',K st' = some r → Rep m w0 st' a' c' → next a' c'.w) : o.upon P a next Q ((execOp a.eval o).run P c.w) := by
  simp only [actOp,hop] at hr
  have hx := operand_rep h x
  split at hr
  · rename_i t ht
    rw [ht] at hx
    simp only [RepV] at hx
    have hrun : (execOp a.eval o).run P c.w = .ok (.value (if t = true then a.eval y else a.eval z)) c.w := by
      simp only [execOp,hop,Sem.run_bind,hx,asBool,Sem.run_pure,Result.andThen_ok]
    split at hr
    · rename_i b1 b2 h1 h2
      refine close_value hrun h hg ?_ rfl hr hK
      cases t with
      | true =>
        have := unw_rep (y := y) h hx
        rw [h1] at this
        simpa using this
      | false =>
        have := unw_rep (y := z) h hx
        rw [h2] at this
        simpa using this
    · cases t with
      | true =>
        simp only [cond_true] at hr
        exact close_value hrun h hg (by simpa using typed_rep (unw_rep (y := y) h hx) _) (typed_isGd _ (unw_isGd _ _ _)) hr hK
      | false =>
        simp only [cond_false] at hr
        exact close_value hrun h hg (by simpa using typed_rep (unw_rep (y := z) h hx) _) (typed_isGd _ (unw_isGd _ _ _)) hr hK
  · simp at hr

def flipB (op : BinOp) (b : Bool) : Bool := match op with | .neq => !b | _ => b
theorem run_equalIn_slice_nil (w : World) (d : Nat) (t e : TypeId) (A : Option Addr) (n c n' c' : Nat) (h : P.underlying t = some (.slice e)) :
    (Op.equalIn (d + 1) t (.slice A n c) (.slice none n' c')).run P w = .ok A.isNone w := by
  cases A <;> simp [Op.equalIn,run_underlying h]
theorem run_equal_slice_nil (w : World) (t e : TypeId) (A : Option Addr) (n c n' c' : Nat) (h : P.underlying t = some (.slice e)) :
    (Op.equal t (.slice A n c) (.slice none n' c')).run P w = .ok A.isNone w := by
  simp only [Op.equal,Op.maxDepth]
  exact run_equalIn_slice_nil w 9999 t e A n c n' c' h
theorem run_equalIn_ptr_nil (w : World) (d : Nat) (t e : TypeId) (A : Option Addr) (h : P.underlying t = some (.pointer e)) :
    (Op.equalIn (d + 1) t (.pointer A) (.pointer none)).run P w = .ok A.isNone w := by
  cases A <;> simp [Op.equalIn,run_underlying h]
theorem run_equal_ptr_nil (w : World) (t e : TypeId) (A : Option Addr) (h : P.underlying t = some (.pointer e)) :
    (Op.equal t (.pointer A) (.pointer none)).run P w = .ok A.isNone w := by
  simp only [Op.equal,Op.maxDepth]
  exact run_equalIn_ptr_nil w 9999 t e A h
theorem both_some {R : Type} {x y : Option R} {r : R} (h : both x y = some r) : x = some r ∧ y = some r := by
  unfold both at h
  split at h
  · rename_i he; exact ⟨h,he ▸ h⟩
  · simp at h
theorem act_binOp {C : Ctx} (hC : C.P = P) {op : BinOp} {t u : TypeId} {x y : Operand} (hop : o.op = .binOp op t x y u) (h : Rep m w0 st a c) (hg : ∀ x,o.dst = some x → NoGd st x) (hr : actOp C o st K = some r)
    (hK : ∀ st' a' c',K st' = some r → Rep m w0 st' a' c' → next a' c'.w) : o.upon P a next Q ((execOp a.eval o).run P c.w) := by
  subst hC
  simp only [actOp,hop] at hr
  split at hr
  · rename_i k n yk n' h1 h2
    have hx := typed_rep (P := C.P) (operand_rep h x) t
    have hy := typed_rep (P := C.P) (operand_rep h y) u
    rw [h1] at hx
    rw [h2] at hy
    simp only [RepV] at hx hy
    split at hr
    · rename_i g v hi
      obtain ⟨hgt,hr⟩ := cond_some hr
      obtain ⟨z,hz,hv⟩ := intOpG_run (P := C.P) (c := c) t hx.2 hi hgt
      refine close_value ?_ h hg hv ?_ hr hK
      · simp only [execOp,hop,Sem.run_bind,hx.1,hy.1,run_eqGuard (u := .int k n) (by simp) (by simp),Result.andThen_ok,hz,Sem.run_pure]
      · cases op <;> simp only [intOpG] at hi <;> first
          | (simp at hi; done)
          | (split at hi <;> first | (simp at hi; done) | (simp only [Option.some.injEq,Prod.mk.injEq] at hi; obtain ⟨_,rfl⟩ := hi; rfl))
    · simp at hr
  · rename_i hpi hpq
    have hx := typed_rep (P := C.P) (operand_rep h x) t
    have hy := operand_rep h y
    have key : ∀ (e : TypeId),C.P.underlying t = some (.slice e) → operand st y = .none_ → op = .eql ∨ op = .neq → ∀ {K' : Bool → Option R},nilIs st (typed C.P t (operand st x)) K' = some r →
        ∃ b,K' b = some r ∧ (execOp a.eval o).run C.P c.w = .ok (.value (.bool (flipB op b))) c.w := by
      intro e hu hny hop2 K' hn
      rw [hny] at hy
      simp only [RepV] at hy
      unfold nilIs at hn
      split at hn
      · rename_i e' t' l hl
        obtain ⟨A,n,hv,h1,h2,h3⟩ := h.listZ hx hl
        have heq := run_equal_slice_nil c.w t e A l.length n 0 0 hu
        have run : (execOp a.eval o).run C.P c.w = .ok (.value (.bool (flipB op A.isNone))) c.w := by
          rcases hop2 with rfl | rfl
          · simp only [execOp,hop,Sem.run_bind,hv,hy,run_eqGuard (u := .slice A l.length n) (by simp) (by simp),Result.andThen_ok,binOp,heq,Sem.run_pure,flipB]
          · simp only [execOp,hop,Sem.run_bind,hv,hy,run_eqGuard (u := .slice A l.length n) (by simp) (by simp),Result.andThen_ok,binOp,heq,Sem.run_pure,flipB]
        cases hl0 : l with
        | nil =>
          subst hl0
          simp only [List.isEmpty_nil,cond_true] at hn
          obtain ⟨n1,n2⟩ := both_some hn
          refine ⟨A.isNone,?_,run⟩
          cases A with
          | none => exact n1
          | some A => exact n2
        | cons z l' =>
          subst hl0
          simp only [List.isEmpty_cons,cond_false] at hn
          obtain ⟨b,off,hA,_⟩ := h3 (by simp)
          subst hA
          exact ⟨false,hn,run⟩
      · simp at hn
    have keyP : ∀ (e : TypeId),C.P.underlying t = some (.pointer e) → operand st y = .nilptr → op = .eql ∨ op = .neq → ∀ {K' : Bool → Option R},ptrNil (typed C.P t (operand st x)) K' = some r →
        ∃ b,K' b = some r ∧ (execOp a.eval o).run C.P c.w = .ok (.value (.bool (flipB op b))) c.w := by
      intro e hu hny hop2 K' hn
      rw [hny] at hy
      simp only [RepV] at hy
      unfold ptrNil at hn
      have fin : ∀ A : Option Addr,a.eval x = .pointer A → (execOp a.eval o).run C.P c.w = .ok (.value (.bool (flipB op A.isNone))) c.w := by
        intro A hv
        have heq := run_equal_ptr_nil c.w t e A hu
        rcases hop2 with rfl | rfl
        · simp only [execOp,hop,Sem.run_bind,hv,hy,run_eqGuard (u := .pointer A) (by simp) (by simp),Result.andThen_ok,binOp,heq,Sem.run_pure,flipB]
        · simp only [execOp,hop,Sem.run_bind,hv,hy,run_eqGuard (u := .pointer A) (by simp) (by simp),Result.andThen_ok,binOp,heq,Sem.run_pure,flipB]
      split at hn
      · rename_i k off hp
        rw [hp] at hx
        simp only [RepV] at hx
        exact ⟨false,hn,fin _ hx⟩
      · rename_i hp
        rw [hp] at hx
        simp only [RepV] at hx
        exact ⟨true,hn,fin _ hx⟩
      · simp at hn
    split at hr
    · rename_i e hny hu
      obtain ⟨b,h1,h2⟩ := key e hu hny (.inl rfl) hr
      exact close_value h2 h hg (RepV.bool_ rfl) rfl h1 hK
    · rename_i e hny hu
      obtain ⟨b,h1,h2⟩ := key e hu hny (.inr rfl) hr
      exact close_value h2 h hg (RepV.bool_ rfl) rfl h1 hK
    · rename_i e hny hu
      obtain ⟨b,h1,h2⟩ := keyP e hu hny (.inl rfl) hr
      exact close_value h2 h hg (RepV.bool_ rfl) rfl h1 hK
    · rename_i e hny hu
      obtain ⟨b,h1,h2⟩ := keyP e hu hny (.inr rfl) hr
      exact close_value h2 h hg (RepV.bool_ rfl) rfl h1 hK
    · simp at hr

theorem inb_iff {i : Int} {n : Nat} : inb i n = true ↔ 0 ≤ i ∧ i < n := by simp [inb]
theorem rd_eq {t : Ty} {l : List t.den} {i : Int} (h0 : 0 ≤ i) (h1 : i < l.length) : l[i.toNat]? = some (rd t l i) := by
  have hlt : i.toNat < l.length := by omega
  unfold rd
  rw [List.getD_eq_getElem?_getD,List.getElem?_eq_getElem hlt]; rfl
theorem info_size {t : TypeId} (h : P.cellsOf t ≠ 0) (w : World) : (sizeOf t).run P w = .ok (P.cellsOf t) w := run_sizeOf h w
theorem act_indexAddr {C : Ctx} (hC : C.P = P) (hG : ∀ g t l,C.glob g = some ⟨t,l⟩ → c.a g ∧ g < c.w.heap.size ∧ ∀ (j : Nat) (x : t.den),l[j]? = some x → ∃ d,Dat c.w (fun _ => False) t x d ∧ ∀ (i : Nat) (u : Value),d[i]? = some u → c.w.cell? ⟨g,j * t.size + i,none⟩ = some u) {t : TypeId} {x i : Operand} (hop : o.op = .indexAddr t x i) (h : Rep m w0 st a c) (hg : ∀ x,o.dst = some x → NoGd st x) (hr : actOp C o st K = some r)
    (hK : ∀ st' a' c',K st' = some r → Rep m w0 st' a' c' → next a' c'.w) : o.upon P a next Q ((execOp a.eval o).run P c.w) := by
  subst hC
  simp only [actOp,hop] at hr
  have hi := operand_rep h i
  have hx := operand_rep h x
  split at hr
  · -- a slice
    rename_i k n e hie hu
    rw [hie] at hi
    simp only [RepV] at hi
    split at hr
    · simp at hr
    · rename_i hsz
      have run : ∀ (b off len cap : Nat),a.eval x = .slice (some ⟨b,off,none⟩) len cap → 0 ≤ n → n < len → (execOp a.eval o).run C.P c.w = .ok (.value (.pointer (some ⟨b,off + n.toNat * C.P.cellsOf e,none⟩))) c.w := by
        intro b off len cap hv h0 h1
        simp only [execOp,hop,Sem.run_bind,hi.1,hv,Instr.indexAt,asIntOf,Sem.run_pure,Result.andThen_ok,run_underlying_some hu,Sem.run_ite]
        rw [if_pos ⟨h0,h1⟩,run_sizeOf hsz]
        simp only [Result.andThen_ok,add_eq,Sem.run_pure]
      have row : ∀ (ty : Ty) (l : List ty.den) (A : Option Addr) (cap : Nat),a.eval x = .slice A l.length cap → RowI c.w c.ok ty A l → ty.size = C.P.cellsOf e → 0 ≤ n → n < l.length →
          K (st.put o.dst (.cptr (ty.leaves (rd ty l n)))) = some r → o.upon C.P a next Q ((execOp a.eval o).run C.P c.w) := by
        intro ty l A cap hv hrow hts h0 h1 hr
        obtain ⟨b,off,rfl,hok,hc⟩ := hrow (by omega)
        obtain ⟨d,hd,hcell⟩ := hc n.toNat _ (rd_eq h0 h1)
        refine close_value (run b off _ _ hv h0 h1) h hg ?_ rfl hr hK
        simp only [RepV]
        exact ⟨b,off + n.toNat * C.P.cellsOf e,d,rfl,.inl hok,hd.leaves,fun q u hu => by rw [← hts]; exact hcell q u hu⟩
      split at hr
      · rename_i k' hk'
        rw [hk'] at hx
        simp only [RepV] at hx
        split at hr
        · rename_i e' ty l ho
          obtain ⟨hts,hr⟩ := cond_some hr
          obtain ⟨hb,hr⟩ := cond_some hr
          obtain ⟨h0,h1⟩ := inb_iff.1 hb
          have hob : c.ob k' = some (.row e' ty l) := by rw [h.ob]; exact ho
          obtain ⟨A,cap,g1,g2,g3,g4⟩ := h.objs k' _ hob
          rcases g4 with g4 | ⟨rfl,cs,g5,g6,g7,g8⟩
          · omega
          · refine close_value (run (c.ρ k') 0 _ _ (by rw [hx.1]; exact g1) h0 h1) h hg ?_ rfl hr hK
            simp only [RepV]
            refine ⟨by rw [beq_true.1 hts]; simp,fun t2 l2 hl2 => ?_⟩
            rw [hob] at hl2
            obtain ⟨rfl,hl2⟩ := hl2.row
            exact ⟨h0,by rw [hl2]; exact h1,rfl⟩
        · rename_i e' ty l p ho
          obtain ⟨hts,hr⟩ := cond_some hr
          obtain ⟨hb,hr⟩ := cond_some hr
          obtain ⟨h0,h1⟩ := inb_iff.1 hb
          have hob : c.ob k' = some (.mrow e' ty l p) := by rw [h.ob]; exact ho
          obtain ⟨A,cap,g1,g2,g3,g4⟩ := h.objs k' _ hob
          rcases g4 with g4 | ⟨rfl,cs,g5,g6,g7,g8⟩
          · omega
          · refine close_value (run (c.ρ k') 0 _ _ (by rw [hx.1]; exact g1) h0 h1) h hg ?_ rfl hr hK
            simp only [RepV]
            refine ⟨by rw [beq_true.1 hts]; simp,fun t2 l2 hl2 => ?_⟩
            rw [hob] at hl2
            obtain ⟨rfl,hl2⟩ := hl2.mrow
            exact ⟨h0,by rw [hl2]; exact h1,rfl⟩
        · rename_i e' ty l ho
          obtain ⟨hts,hr⟩ := cond_some hr
          obtain ⟨hb,hr⟩ := cond_some hr
          obtain ⟨h0,h1⟩ := inb_iff.1 hb
          have hob : c.ob k' = some (.frow e' ty l) := by rw [h.ob]; exact ho
          obtain ⟨A,cap,g1,g2,g3,g4⟩ := h.objs k' _ hob
          exact row ty l A cap (by rw [hx.1]; exact g1) g4 (beq_true.1 hts) h0 h1 hr
        · simp at hr
      · rename_i e' ty l hk'
        rw [hk'] at hx
        simp only [RepV] at hx
        obtain ⟨A,cap,g1,g2,g3,g4⟩ := hx
        obtain ⟨hts,hr⟩ := cond_some hr
        obtain ⟨hb,hr⟩ := cond_some hr
        obtain ⟨h0,h1⟩ := inb_iff.1 hb
        exact row ty l A cap g1 g4 (beq_true.1 hts) h0 h1 hr
      · rename_i e' ty l hk'
        rw [hk'] at hx
        simp only [RepV] at hx
        obtain ⟨A,g1,g3,g4⟩ := hx
        obtain ⟨hts,hr⟩ := cond_some hr
        obtain ⟨hb,hr⟩ := cond_some hr
        obtain ⟨h0,h1⟩ := inb_iff.1 hb
        exact row ty l A _ g1 g4 (beq_true.1 hts) h0 h1 hr
      · rename_i f' e' ty l hk'
        rw [hk'] at hx
        simp only [RepV] at hx
        obtain ⟨A,cap,g1,g2,g3,_,g4⟩ := hx
        obtain ⟨hts,hr⟩ := cond_some hr
        obtain ⟨hb,hr⟩ := cond_some hr
        obtain ⟨h0,h1⟩ := inb_iff.1 hb
        obtain ⟨b,off,rfl,hok,hc⟩ := g4 (by omega)
        obtain ⟨d,hd,hcell⟩ := hc n.toNat _ (rd_eq h0 h1)
        refine close_value (run b off _ _ g1 h0 h1) h hg ?_ rfl hr hK
        simp only [RepV]
        exact ⟨b,off + n.toNat * C.P.cellsOf e,d,rfl,hok,hd.leavesA,fun q u hu => by rw [← beq_true.1 hts]; exact hcell q u hu⟩
      · rename_i e' ty l hk'
        rw [hk'] at hx
        simp only [RepV] at hx
        obtain ⟨A,cap,g1,g2,g3,g4,g5⟩ := hx
        obtain ⟨hts,hr⟩ := cond_some hr
        obtain ⟨hb,hr⟩ := cond_some hr
        obtain ⟨h0,h1⟩ := inb_iff.1 hb
        obtain ⟨b,off,rfl,hok,hc⟩ := g4 (by omega)
        obtain ⟨d,hd,hcell⟩ := hc n.toNat _ (rd_eq h0 h1)
        refine close_value (run b off _ _ g1 h0 h1) h hg ?_ rfl hr hK
        simp only [RepV]
        by_cases hlo : c.ob QK = some .live
        · obtain ⟨b',off',he,_,hc'⟩ := g5 hlo (by omega)
          simp only [Option.some.injEq,Addr.mk.injEq,and_true] at he
          obtain ⟨rfl,rfl⟩ := he
          obtain ⟨d',hd',hcell'⟩ := hc' n.toNat _ (rd_eq h0 h1)
          exact ⟨b,off + n.toNat * C.P.cellsOf e,d',by simp,hok,hd'.shp,fun _ => hd',fun q u hu => by rw [← beq_true.1 hts]; exact hcell' q u hu⟩
        · exact ⟨b,off + n.toNat * C.P.cellsOf e,d,by simp,hok,hd,fun hh => absurd hh hlo,fun q u hu => by rw [← beq_true.1 hts]; exact hcell q u hu⟩
      · simp at hr
  · -- an array
    rename_i k n len e hie hu
    rw [hie] at hi
    simp only [RepV] at hi
    split at hr
    · simp at hr
    · rename_i hsz
      have run : ∀ (b off : Nat),a.eval x = .pointer (some ⟨b,off,none⟩) → 0 ≤ n → n < len → (execOp a.eval o).run C.P c.w = .ok (.value (.pointer (some ⟨b,off + n.toNat * C.P.cellsOf e,none⟩))) c.w := by
        intro b off hv h0 h1
        simp only [execOp,hop,Sem.run_bind,hi.1,hv,Instr.indexAt,asIntOf,Sem.run_pure,Result.andThen_ok,run_underlying_some hu,Sem.run_ite,Instr.sureAddr]
        rw [if_pos ⟨h0,h1⟩,run_sizeOf hsz]
        simp only [Result.andThen_ok,add_eq]
      split at hr
      · rename_i k' off hk'
        rw [hk'] at hx
        simp only [RepV] at hx
        split at hr
        · rename_i e' ty n' l ho
          split at hr
          · rename_i hc
            obtain ⟨rfl,rfl,hts⟩ := hc
            obtain ⟨hb,hr⟩ := cond_some hr
            obtain ⟨h0,h1⟩ := inb_iff.1 hb
            have hob : c.ob k' = some (.arr e' ty n' l) := by rw [h.ob]; exact ho
            obtain ⟨g0,cs,g1,g2⟩ := h.objs k' _ hob
            refine close_value (run (c.ρ k') 0 hx h0 h1) h hg ?_ rfl hr hK
            simp only [RepV]
            refine ⟨by rw [hts]; simp,fun t2 l2 hl2 => ?_⟩
            rw [hob] at hl2
            obtain ⟨rfl,hl2⟩ := hl2.arr
            exact ⟨h0,by omega,rfl⟩
          · simp at hr
        · obtain ⟨hb,hr⟩ := cond_some hr
          obtain ⟨h0,h1⟩ := inb_iff.1 hb
          exact close_value (run (c.ρ k') off hx h0 h1) h hg (by simp only [RepV]) rfl hr hK
        · simp at hr
      · rename_i l hk'
        rw [hk'] at hx
        simp only [RepV] at hx
        obtain ⟨b,off,cs,hv,hok,hl,hc⟩ := hx
        obtain ⟨hb,hr⟩ := cond_some hr
        obtain ⟨h0,h1⟩ := inb_iff.1 hb
        refine close_value (run b off hv h0 h1) h hg ?_ rfl hr hK
        simp only [RepV]
        refine ⟨b,off + n.toNat * C.P.cellsOf e,cs.drop (n.toNat * C.P.cellsOf e),rfl,hok,hl.drop _,fun q u hu => ?_⟩
        rw [List.getElem?_drop] at hu
        rw [Nat.add_assoc]
        exact hc _ u hu
      · unfold globAddr at hr
        cases x <;> simp only at hr <;> try (simp at hr; done)
        rename_i g _
        split at hr
        · rename_i t l hgl
          obtain ⟨hc,hr⟩ := cond_some hr
          simp only [Bool.and_eq_true,beq_true] at hc
          obtain ⟨hb,hr⟩ := cond_some hr
          obtain ⟨h0,h1⟩ := inb_iff.1 hb
          obtain ⟨g1,g2,g3⟩ := hG g t l hgl
          obtain ⟨d,hd,hcell⟩ := g3 n.toNat _ (rd_eq h0 (by omega))
          refine close_value (run g 0 rfl h0 h1) h hg ?_ rfl hr hK
          simp only [RepV]
          exact ⟨g,0 + n.toNat * C.P.cellsOf e,d,rfl,.inr g1,Dat.leaves (hd.move (w1 := c.w) (ok1 := c.ok) (fun _ hb => hb.elim) (fun _ hb => hb.elim)),fun q u hu => by rw [Nat.zero_add,← hc.1]; exact hcell q u hu⟩
        · simp at hr
      · simp at hr
  · simp at hr

theorem act_index {C : Ctx} (hC : C.P = P) {t : TypeId} {x i : Operand} (hop : o.op = .index t x i) (h : Rep m w0 st a c) (hg : ∀ x,o.dst = some x → NoGd st x) (hr : actOp C o st K = some r)
    (hK : ∀ st' a' c',K st' = some r → Rep m w0 st' a' c' → next a' c'.w) : o.upon P a next Q ((execOp a.eval o).run P c.w) := by
  subst hC
  simp only [actOp,hop] at hr
  have hi := operand_rep h i
  have hx := operand_rep h x
  split at hr
  · rename_i k n s hie hxe
    rw [hie] at hi
    rw [hxe] at hx
    simp only [RepV] at hi hx
    obtain ⟨b,hv,rfl,hb⟩ := hx
    split at hr
    · rename_i hu
      obtain ⟨hin,hr⟩ := cond_some hr
      obtain ⟨h0,h1⟩ := inb_iff.1 hin
      rw [bytesOf_length] at h1
      have hlt : n.toNat < b.size := by omega
      have hget : b[n.toNat]? = some b[n.toNat] := by simp [hlt]
      have hbd : (bytesOf b).getD n.toNat 0 = (b[n.toNat].toNat : Int) := by
        unfold bytesOf
        rw [List.getD_eq_getElem?_getD,List.getElem?_map,Array.getElem?_toList,Array.getElem?_eq_getElem (by simpa using hlt)]
        rfl
      refine close_value (v := .int .u8 b[n.toNat].toNat) ?_ h hg ?_ rfl hr hK
      · simp only [execOp,hop,Sem.run_bind,hi.1,hv,Instr.index,asIntOf,Sem.run_pure,Result.andThen_ok,run_underlying_some hu,if_pos h0,hget]
      · rw [hbd]
        refine RepV.int_ ?_
        have := b[n.toNat].toNat_lt
        simp [Lit.wf,IntKind.min,IntKind.max,IntKind.signed,IntKind.bits]; omega
    · simp at hr
  · rename_i k n l hie hxe
    rw [hie] at hi
    rw [hxe] at hx
    simp only [RepV] at hi hx
    obtain ⟨vs,hv,hl⟩ := hx
    split at hr
    · rename_i len e hu
      split at hr
      · simp at hr
      · rename_i hsz
        obtain ⟨hin,hr⟩ := cond_some hr
        obtain ⟨h0,h1⟩ := inb_iff.1 hin
        split at hr
        · rename_i p hp
          obtain ⟨v,g1,g2⟩ := part_rep (P := C.P) hl hp
          refine close_value (v := v) ?_ h hg (san_rep g2) (san_isGd _) hr hK
          simp only [execOp,hop,Sem.run_bind,hi.1,hv,Instr.index,asIntOf,Sem.run_pure,Result.andThen_ok,run_underlying_some hu,Sem.run_ite,if_pos (show 0 ≤ n ∧ n < (len : Int) from ⟨h0,h1⟩),run_sizeOf hsz,g1]
        · simp at hr
    · simp at hr
  · simp at hr
end
end Go.Fw
