/- Cuts; conversions between texts and octets. -/
import Derived.Test.YtgdfhijgjjcnjaaGreatDoorFwAct5
import Derived.Laws.BytesString
set_option linter.unusedVariables false
set_option linter.unusedSimpArgs false
namespace Go.Fw
open Go.RowKit (Below)

theorem cut_eq {α : Type} (s : List α) (lo hi : Option PV) (l h : Nat) (h0 : lo = none → l = 0) (h1 : hi = none → h = s.length) : cut s lo hi l h = (s.take h).drop l := by
  cases lo <;> cases hi <;> simp only [cut]
  · rw [h0 rfl,h1 rfl]; simp
  · rw [h0 rfl]; simp
  · rw [h1 rfl]; simp

section
variable {P : Program} {m : MM} {w0 : World} {st : St} {a : Act} {c : Cx} {R : Type} {K : St → Option R} {r : R} {o : Oper} {next : Act → World → Prop} {Q : Exit → Act → World → Prop}

theorem run_bound {k : IntKind} {i : Int} {y : Nat} (code : BoundsCode) (w : World) (h0 : 0 ≤ i) (h1 : i ≤ y) : (Instr.sliceBound (.int k i) y code).run P w = .ok i.toNat w := by
  simp only [Instr.sliceBound,Sem.run_bind,asIntOf,Sem.run_pure,Result.andThen_ok,Sem.run_ite,if_pos (show 0 ≤ i ∧ i ≤ (y : Int) from ⟨h0,h1⟩)]
def RepO? (c : Cx) : Option PV → Option Value → Prop
  | none,none => True
  | some p,some v => RepV c p v
  | _,_ => False
theorem cut_bounds {len n : Nat} {lo hi mx : Option PV} {vlo vhi vmx : Option Value} {g : Bool} {l h : Nat} {f : Bool} (b : Bool) (w : World) (hlo : RepO? c lo vlo) (hhi : RepO? c hi vhi) (hmx : RepO? c mx vmx)
    (hc : cutOf len lo hi mx = some (g,l,h,f)) (hg : g = true) (hn : len ≤ n) :
    (Instr.sliceBounds b len n vlo vhi vmx).run P w = .ok (l,h,if f then h else n) w ∧ l ≤ h ∧ h ≤ len ∧ (lo = none → l = 0) ∧ (hi = none → h = len) := by
  subst hg
  unfold cutOf at hc
  split at hc
  · simp only [Option.some.injEq,Prod.mk.injEq] at hc
    obtain ⟨hc,rfl,rfl,rfl⟩ := hc
    rename_i k i
    obtain ⟨q0,q1⟩ := inb_iff.1 hc
    cases vlo <;> simp only [RepO?] at hlo
    cases vmx <;> simp only [RepO?] at hmx
    cases vhi <;> simp only [RepO?,RepV] at hhi
    rw [hhi.1]
    refine ⟨?_,by omega,by omega,fun _ => rfl,by simp⟩
    simp only [Instr.sliceBounds,Sem.run_bind,Sem.run_pure,Result.andThen_ok,run_bound _ w q0 (show i ≤ (n : Int) by omega)]
    rfl
  · simp only [Option.some.injEq,Prod.mk.injEq] at hc
    obtain ⟨hc,rfl,rfl,rfl⟩ := hc
    rename_i k i
    obtain ⟨q0,q1⟩ := inb_iff.1 hc
    cases vhi <;> simp only [RepO?] at hhi
    cases vmx <;> simp only [RepO?] at hmx
    cases vlo <;> simp only [RepO?,RepV] at hlo
    rw [hlo.1]
    refine ⟨?_,by omega,by omega,by simp,fun _ => rfl⟩
    simp only [Instr.sliceBounds,Sem.run_bind,Sem.run_pure,Result.andThen_ok,run_bound _ w q0 (show i ≤ (len : Int) by omega)]
    rfl
  · simp only [Option.some.injEq,Prod.mk.injEq] at hc
    obtain ⟨hc,rfl,rfl,rfl⟩ := hc
    rename_i k i k' j
    simp only [Bool.and_eq_true,decide_eq_true_eq] at hc
    obtain ⟨hc,q2,q3⟩ := hc
    obtain ⟨q0,q1⟩ := inb_iff.1 hc
    cases vmx <;> simp only [RepO?] at hmx
    cases vlo <;> simp only [RepO?,RepV] at hlo
    cases vhi <;> simp only [RepO?,RepV] at hhi
    rw [hlo.1,hhi.1]
    refine ⟨?_,by omega,by omega,by simp,by simp⟩
    simp only [Instr.sliceBounds,Sem.run_bind,Sem.run_pure,Result.andThen_ok,run_bound _ w q0 (show j ≤ (n : Int) by omega),run_bound _ w q2 (show i ≤ (j.toNat : Int) by omega)]
    rfl
  · simp only [Option.some.injEq,Prod.mk.injEq] at hc
    obtain ⟨_,rfl,rfl,rfl⟩ := hc
    cases vlo <;> simp only [RepO?] at hlo
    cases vhi <;> simp only [RepO?] at hhi
    cases vmx <;> simp only [RepO?] at hmx
    exact ⟨rfl,by omega,by omega,fun _ => rfl,fun _ => rfl⟩
  · simp only [Option.some.injEq,Prod.mk.injEq] at hc
    obtain ⟨hc,rfl,rfl,rfl⟩ := hc
    rename_i k i k' j
    simp only [Bool.and_eq_true,decide_eq_true_eq] at hc
    obtain ⟨hc,rfl⟩ := hc
    obtain ⟨q0,q1⟩ := inb_iff.1 hc
    cases vlo <;> simp only [RepO?] at hlo
    cases vhi <;> simp only [RepO?,RepV] at hhi
    cases vmx <;> simp only [RepO?,RepV] at hmx
    rw [hhi.1,hmx.1]
    refine ⟨?_,by omega,by omega,fun _ => rfl,by simp⟩
    simp only [Instr.sliceBounds,Sem.run_bind,Sem.run_pure,Result.andThen_ok,run_bound _ w q0 (show i ≤ (n : Int) by omega),run_bound _ w q0 (show i ≤ (i.toNat : Int) by omega)]
    rfl
  · simp only [Option.some.injEq,Prod.mk.injEq] at hc
    obtain ⟨hc,rfl,rfl,rfl⟩ := hc
    rename_i k0 l0 k i k' j
    simp only [Bool.and_eq_true,decide_eq_true_eq] at hc
    obtain ⟨⟨hc,q2,q3⟩,rfl⟩ := hc
    obtain ⟨q0,q1⟩ := inb_iff.1 hc
    cases vlo <;> simp only [RepO?,RepV] at hlo
    cases vhi <;> simp only [RepO?,RepV] at hhi
    cases vmx <;> simp only [RepO?,RepV] at hmx
    rw [hlo.1,hhi.1,hmx.1]
    refine ⟨?_,by omega,by omega,by simp,by simp⟩
    simp only [Instr.sliceBounds,Sem.run_bind,Sem.run_pure,Result.andThen_ok,run_bound _ w q0 (show i ≤ (n : Int) by omega),run_bound _ w q0 (show i ≤ (i.toNat : Int) by omega),run_bound _ w q2 (show l0 ≤ (i.toNat : Int) by omega)]
    rfl
  · simp at hc
theorem bytesOf_extract (b : ByteArray) (l h : Nat) : bytesOf (b.extract l h) = ((bytesOf b).take h).drop l := by
  unfold bytesOf
  rw [ByteArray.data_extract,Array.toList_extract,List.extract_eq_take_drop,List.map_take,List.map_drop,← List.drop_take]
theorem RowI.cut {w : World} {ok : Nat → Prop} {t : Ty} {A : Option Addr} {s : List t.den} {l h n : Nat} (hr : RowI w ok t A s) (h0 : l ≤ h) (h1 : h ≤ s.length) (hn : h ≤ n) :
    RowI w ok t (if n = l then A else A.map (·.add (l * t.size))) ((s.take h).drop l) := by
  intro hpos
  have hlen : ((s.take h).drop l).length = h - l := by simp; omega
  obtain ⟨b,off,rfl,hok,hc⟩ := hr (by omega)
  refine ⟨b,off + l * t.size,by rw [if_neg (by omega)]; simp [add_eq],hok,fun j x hx => ?_⟩
  rw [List.getElem?_drop] at hx
  have hx' : s[l + j]? = some x := by
    rw [List.getElem?_take] at hx
    split at hx
    · exact hx
    · simp at hx
  obtain ⟨d,hd,hcell⟩ := hc (l + j) x hx'
  refine ⟨d,hd,fun i u hu => ?_⟩
  have := hcell i u hu
  rw [show off + l * t.size + j * t.size + i = off + (l + j) * t.size + i by rw [Nat.add_mul]; omega]
  exact this
theorem Rep.grow (h : Rep m w0 st a c) {w1 : World} (ok1 : Nat → Prop) (hk : Kept m.w w0 w1) (hs : c.w.heap.size ≤ w1.heap.size) (hb : ∀ b,b < c.w.heap.size → w1.heap[b]? = c.w.heap[b]?)
    (hok : ∀ b,c.ok b → ok1 b) (hok' : ∀ b,ok1 b → b < w1.heap.size ∧ (c.ok b ∨ c.w.heap.size ≤ b)) (hum : ∀ b,ok1 b → c.ok b ∨ Unm w1 b) : Rep m w0 st a { w := w1,ok := ok1,ρ := c.ρ,σ := c.σ,pin := c.pin,a := c.a,q := c.q,ob := c.ob } ∧ Mv (fun _ => True) c { w := w1,ok := ok1,ρ := c.ρ,σ := c.σ,pin := c.pin,a := c.a,q := c.q,ob := c.ob } := by
  have hm : Mv (fun _ => True) c { w := w1,ok := ok1,ρ := c.ρ,σ := c.σ,pin := c.pin,a := c.a,q := c.q,ob := c.ob } :=
    (.of (fun b hb' => hb b (h.zlt hb')) (hok) (fun _ _ => rfl) (fun _ _ => rfl) (fun k t l _ hl => ⟨l,hl,rfl⟩) (fun _ ha => ha) (fun _ hb => hb) (fun hl => hl))
  have hkeep : ∀ b,c.ok b → w1.heap[b]? = c.w.heap[b]? := fun b hk => hb b (h.ok b hk)
  have own : ∀ i,Owns { w := w1,ok := ok1,ρ := c.ρ,σ := c.σ,pin := c.pin,a := c.a,q := c.q,ob := c.ob } i → Owns c i := by
    rintro i ⟨o',ho,hw⟩
    exact ⟨o',ho,hw.congr (c := { w := w1,ok := ok1,ρ := c.ρ,σ := c.σ,pin := c.pin,a := c.a,q := c.q,ob := c.ob }) (c1 := c) rfl⟩
  refine ⟨⟨h.size,fun d => SlotOK.move hm (fun _ _ => trivial) (h.slots d),h.defers,h.ob,fun k o ho => (h.objs k o ho).move hm (fun _ _ => trivial) trivial (fun hw => hb _ (h.mine k ⟨o,ho,hw⟩).2.2),fun i j hi hj he => h.apart i j (own i hi) (own j hj) he,fun i hi => ?_,fun b hb => (hok' b hb).1,hk,fun b hb => hok b (h.old b hb),fun b hb => ?_,h.pin,h.a,h.low,fun b hq => ?_⟩,hm⟩
  rotate_left 2
  · obtain ⟨q1,q2,q3,q4,q5⟩ := h.q b hq
    refine ⟨q1,Nat.lt_of_lt_of_le q2 hs,q3.of_eq (hb b q2),?_,fun i hi => q5 i (own i hi)⟩
    rintro (hh | hh)
    · rcases (hok' b hh).2 with h1 | h1
      · exact q4 (.inl h1)
      · omega
    · exact q4 (.inr hh)
  · have := h.mine i (own i hi)
    refine ⟨fun hb' => ?_,this.2.1,Nat.lt_of_lt_of_le this.2.2 hs⟩
    rcases (hok' _ hb').2 with h1 | h1
    · exact this.1 h1
    · have := this.2.2
      simp only at h1
      omega
  · rcases hum b ‹_› with h1 | h1
    · exact h.newU hkeep b h1
    · rcases (hok' b ‹_›).2 with h2 | h2
      · exact h.newU hkeep b h2
      · exact .inr ⟨.inl (Nat.le_trans h.kept.size h2),h1⟩
theorem Rep.growQ (h : Rep m w0 st a c) (q1 : Nat → Prop) (hq : ∀ b,c.q b → q1 b) (hq' : ∀ b,q1 b → c.q b ∨ (w0.heap.size ≤ b ∧ b < c.w.heap.size ∧ Unm c.w b ∧ ¬ c.ra b ∧ ∀ k,Owns c k → c.ρ k ≠ b)) :
    Rep m w0 st a { c with q := q1 } ∧ Mv (fun _ => True) c { c with q := q1 } := by
  have hm : Mv (fun _ => True) c { c with q := q1 } := .of (fun _ _ => rfl) (fun _ h => h) (fun _ _ => rfl) (fun _ _ => rfl) (fun _ _ l _ hl => ⟨l,hl,rfl⟩) (fun _ h => h) hq (fun h => h)
  refine ⟨⟨h.size,fun d => SlotOK.move hm (fun _ _ => trivial) (h.slots d),h.defers,h.ob,fun k o ho => (h.objs k o ho).move hm (fun _ _ => trivial) trivial (fun _ => rfl),fun i j hi hj he => h.apart i j hi hj he,fun i hi => h.mine i hi,h.ok,h.kept,h.old,h.new,h.pin,h.a,h.low,fun b hb => ?_⟩,hm⟩
  rcases hq' b hb with h1 | ⟨h1,h2,h3,h4,h5⟩
  · exact h.q b h1
  · exact ⟨.inl h1,h2,h3,h4,h5⟩
theorem opt_rep (h : Rep m w0 st a c) (x : Option Operand) : RepO? c (x.map (operand st)) (x.map a.eval) := by
  cases x with
  | none => trivial
  | some x => exact operand_rep h x

theorem cutOf_false {len : Nat} {lo hi mx : Option PV} {g : Bool} {l h : Nat} (hc : cutOf len lo hi mx = some (g,l,h,false)) : mx = none := by
  unfold cutOf at hc
  split at hc <;> simp_all
theorem cutOf_hi {len : Nat} {lo mx : Option PV} {k : IntKind} {i : Int} {g f : Bool} {l h : Nat} (hc : cutOf len lo (some (.int k i)) mx = some (g,l,h,f)) : h = i.toNat := by
  unfold cutOf at hc
  split at hc <;> simp_all
theorem san_of_eq {p : PV} (h : p.isGd = false) : unw.san p = p := by cases p <;> first | rfl | simp [PV.isGd] at h
theorem act_slice0 {C : Ctx} (hC : C.P = P) {t : TypeId} {x : Operand} {lo hi mx : Option Operand} (hop : o.op = .slice t x lo hi mx) (hm0 : marked C o 0 = false) (hm1 : marked C o 1 = false) (h : Rep m w0 st a c) (hg : ∀ x,o.dst = some x → NoGd st x) (hr : actOp C o st K = some r)
    (hK : ∀ st' a' c',K st' = some r → Rep m w0 st' a' c' → next a' c'.w) : o.upon P a next Q ((execOp a.eval o).run P c.w) := by
  subst hC
  simp only [actOp,hop,hm0,hm1,cond_false] at hr
  split at hr
  · rename_i p st1 hp
    obtain ⟨c1,e1,rep1,hv,s1,m1⟩ := plain_sound h (typed_rep (P := C.P) (operand_rep h x) t) hp
    have move : ∀ (y : Option PV) (v : Option Value),RepO? c y v → RepO? c1 y v := by
      intro y v hy
      cases y <;> cases v <;> first | exact hy | exact RepV.move m1 _ _ (fun _ _ => trivial) hy
    have hlo := move _ _ (opt_rep h lo)
    have hhi := move _ _ (opt_rep h hi)
    have hmx := move _ _ (opt_rep h mx)
    have hg1 : ∀ x,o.dst = some x → NoGd st1 x := fun x hx => (hg x hx).of s1
    unfold sliceOp at hr
    have fin : ∀ (q : PV) (v : Value),(execOp a.eval o).run C.P c.w = .ok (.value v) c.w → RepV c1 q v → q.isGd = false → K (st1.put o.dst q) = some r → o.upon C.P a next Q ((execOp a.eval o).run C.P c.w) :=
      fun q v hrun hq hgd hkr => close_value (c1 := c1) (by rw [e1]; exact hrun) rep1 hg1 hq hgd hkr hK
    split at hr
    · rename_i s hu
      split at hr
      · rename_i g l hh hc
        obtain ⟨hgt,hr⟩ := cond_some hr
        simp only [RepV] at hv
        obtain ⟨b,hb,rfl,hbs⟩ := hv
        rw [bytesOf_length] at hc
        obtain ⟨k1,k2,k3,k4,k5⟩ := cut_bounds (P := C.P) false c.w hlo hhi hmx hc hgt (Nat.le_refl _)
        refine fin (.str _) (.string (b.extract l hh)) ?_ ?_ rfl hr
        · have hmn : mx = none := by
            cases mx with
            | none => rfl
            | some y => exact absurd (cutOf_false hc) (by simp)
          subst hmn
          simp only [execOp,hop,Sem.run_bind,Instr.sliceAt,run_underlying_some hu,Result.andThen_ok,Instr.slice,hb,Option.map_none,Option.isSome_none,Bool.false_eq_true,if_false]
          simp only [Option.map_none] at k1
          simp only [k1,Sem.run_bind,Sem.run_pure,Result.andThen_ok,Sem.run_ite,Bool.false_eq_true,if_false]
        · simp only [RepV]
          refine ⟨b.extract l hh,rfl,?_,by simp; omega⟩
          rw [cut_eq _ _ _ _ _ k4 (fun hn => by rw [bytesOf_length]; exact k5 hn),bytesOf_extract]
      · simp at hr
    all_goals first
      | (simp at hr; done)
      | skip
    rotate_left 2
    · rename_i e' f0 e ty s hu
      split at hr
      · rename_i hts
        obtain ⟨hts,hne⟩ := hts
        have hne' : C.P.cellsOf e' ≠ 0 := by omega
        simp only [RepV] at hv
        obtain ⟨A,n,hb,q1,q2,_,q3⟩ := hv
        have hlen : ∀ l h : Nat,l ≤ h → h ≤ s.length → ((s.take h).drop l).length = h - l := by intro l h _ _; simp; omega
        split at hr
        · rename_i g l hh hc
          obtain ⟨hgt,hr⟩ := cond_some hr
          obtain ⟨k1,k2,k3,k4,k5⟩ := cut_bounds (P := C.P) true c.w hlo hhi hmx hc hgt q1
          have hrun : (execOp a.eval o).run C.P c.w = .ok (.value (.slice (if n = l then A else A.map (·.add (l * ty.size))) (hh - l) (n - l))) c.w := by
            simp only [execOp,hop,Sem.run_bind,Instr.sliceAt,run_underlying_some hu,Result.andThen_ok,Instr.slice,hb,k1,Bool.false_eq_true,if_false,run_sizeOf hne',Sem.run_pure,hts]
          refine fin (.asl false e ty _) _ hrun ?_ rfl hr
          rw [cut_eq _ _ _ _ _ k4 k5]
          simp only [RepV]
          exact ⟨_,_,by rw [hlen l hh k2 k3],by rw [hlen l hh k2 k3]; omega,by omega,fun hf => by simp at hf,q3.cut k2 k3 (by omega)⟩
        · rename_i g l hh hc
          have hrun : g = true → (execOp a.eval o).run C.P c.w = .ok (.value (.slice (if hh = l then A else A.map (·.add (l * ty.size))) (hh - l) (hh - l))) c.w := by
            intro hgt
            obtain ⟨k1,k2,k3,k4,k5⟩ := cut_bounds (P := C.P) true c.w hlo hhi hmx hc hgt q1
            simp only [execOp,hop,Sem.run_bind,Instr.sliceAt,run_underlying_some hu,Result.andThen_ok,Instr.slice,hb,k1,if_true,run_sizeOf hne',Sem.run_pure,hts]
          have gen : (bif g then K (st1.put o.dst (.asl true e ty (cut s (lo.map (operand st)) (hi.map (operand st)) l hh))) else none) = some r → o.upon C.P a next Q ((execOp a.eval o).run C.P c.w) := by
            intro hr
            obtain ⟨hgt,hr⟩ := cond_some hr
            obtain ⟨k1,k2,k3,k4,k5⟩ := cut_bounds (P := C.P) true c.w hlo hhi hmx hc hgt q1
            refine fin (.asl true e ty _) _ (hrun hgt) ?_ rfl hr
            rw [cut_eq _ _ _ _ _ k4 k5]
            simp only [RepV]
            exact ⟨_,_,by rw [hlen l hh k2 k3],by rw [hlen l hh k2 k3]; omega,by omega,fun _ => (hlen l hh k2 k3).symm,q3.cut k2 k3 (Nat.le_refl _)⟩
          cases hfl : markA C o with
          | true => rw [hfl] at hr; exact gen hr
          | false =>
          rw [hfl] at hr
          simp only [cond_false] at hr
          split at hr
          · rename_i kk hhi0
            obtain ⟨hgt,hr⟩ := cond_some hr
            obtain ⟨k1,k2,k3,k4,k5⟩ := cut_bounds (P := C.P) true c.w hlo hhi hmx hc hgt q1
            have hh0 : hh = 0 := by
              rw [hhi0] at hc
              have := cutOf_hi hc
              simpa using this
            have hl0 : l = 0 := by omega
            refine fin (.full e ty []) _ (hrun hgt) ?_ rfl hr
            subst hh0
            subst hl0
            simp only [RepV]
            exact ⟨_,rfl,by simp,fun h0 => by simp at h0⟩
          · simp at hr
        · simp at hr
      · simp at hr
    all_goals
      rename_i e' e ty s hu
      split at hr
      · rename_i hts
        obtain ⟨hts,hne⟩ := hts
        have hne' : C.P.cellsOf e' ≠ 0 := by omega
        have sl : ∃ A n,a.eval x = .slice A s.length n ∧ s.length ≤ n ∧ n ≤ 9223372036854775807 ∧ RowI c1.w c1.ok ty A s := by
          simp only [RepV] at hv
          first
            | exact hv
            | (obtain ⟨A,q1,q2,q3⟩ := hv; exact ⟨A,_,q1,Nat.le_refl _,q2,q3⟩)
        obtain ⟨A,n,hb,q1,q2,q3⟩ := sl
        have hlen : ∀ l h : Nat,l ≤ h → h ≤ s.length → ((s.take h).drop l).length = h - l := by intro l h _ _; simp; omega
        split at hr
        · rename_i g l hh hc
          obtain ⟨hgt,hr⟩ := cond_some hr
          obtain ⟨k1,k2,k3,k4,k5⟩ := cut_bounds (P := C.P) true c.w hlo hhi hmx hc hgt q1
          have hrun : (execOp a.eval o).run C.P c.w = .ok (.value (.slice (if n = l then A else A.map (·.add (l * ty.size))) (hh - l) (n - l))) c.w := by
            simp only [execOp,hop,Sem.run_bind,Instr.sliceAt,run_underlying_some hu,Result.andThen_ok,Instr.slice,hb,k1,Bool.false_eq_true,if_false,run_sizeOf hne',Sem.run_pure,hts]
          have hrsl : RepV c1 (.sl e ty (cut s (lo.map (operand st)) (hi.map (operand st)) l hh)) (.slice (if n = l then A else A.map (·.add (l * ty.size))) (hh - l) (n - l)) := by
            rw [cut_eq _ _ _ _ _ k4 k5]
            simp only [RepV]
            exact ⟨_,_,by rw [hlen l hh k2 k3],by rw [hlen l hh k2 k3]; omega,by omega,q3.cut k2 k3 (by omega)⟩
          cases hs0 : s with
          | cons z zs =>
            subst hs0
            exact fin _ _ hrun hrsl rfl hr
          | nil =>
            subst hs0
            first
              | exact fin (.sl e ty _) _ hrun hrsl rfl hr
              | (refine fin (.full e ty []) _ hrun ?_ rfl hr
                 simp only [RepV] at hv
                 obtain ⟨A2,w1,w2,w3⟩ := hv
                 rw [hb] at w1
                 simp only [List.length_nil] at k3 w1
                 simp only [Value.slice.injEq] at w1
                 have z1 : hh = 0 := by omega
                 have z2 : l = 0 := by omega
                 have z3 : n = 0 := w1.2.2
                 subst z1; subst z2; subst z3
                 simp only [RepV]
                 exact ⟨_,rfl,by simp,fun h0 => by simp at h0⟩)
        · rename_i g l hh hc
          obtain ⟨hgt,hr⟩ := cond_some hr
          obtain ⟨k1,k2,k3,k4,k5⟩ := cut_bounds (P := C.P) true c.w hlo hhi hmx hc hgt q1
          refine fin (.full e ty _) (.slice (if hh = l then A else A.map (·.add (l * ty.size))) (hh - l) (hh - l)) ?_ ?_ rfl hr
          · simp only [execOp,hop,Sem.run_bind,Instr.sliceAt,run_underlying_some hu,Result.andThen_ok,Instr.slice,hb,k1,if_true,run_sizeOf hne',Sem.run_pure,hts]
          · rw [cut_eq _ _ _ _ _ k4 k5]
            simp only [RepV]
            exact ⟨_,by rw [hlen l hh k2 k3],by rw [hlen l hh k2 k3]; omega,q3.cut k2 k3 (Nat.le_refl _)⟩
        · simp at hr
      · simp at hr
  · unfold mrowNil at hr
    split at hr
    · rename_i k k1 k2 e' hx hlo0 hhi0 hmx0 hu
      split at hr
      · rename_i e ty l p ho
        split at hr
        · simp at hr
        · rename_i hne'
          have hrep := h.objs k _ (by rw [h.ob]; exact ho)
          simp only [RepO] at hrep
          obtain ⟨A,n,h1,h2,h3,_⟩ := hrep
          have hv := typed_rep (P := C.P) (operand_rep h x) t
          rw [hx] at hv
          simp only [RepV] at hv
          have hb : a.eval x = .slice A l.length n := hv.1.trans h1
          have hc : cutOf l.length (lo.map (operand st)) (hi.map (operand st)) (mx.map (operand st)) = some (true,0,0,true) := by
            rw [hlo0,hhi0,hmx0]
            simp [cutOf,inb]
          obtain ⟨q1,q2,q3,q4,q5⟩ := cut_bounds (P := C.P) true c.w (opt_rep h lo) (opt_rep h hi) (opt_rep h mx) hc rfl h2
          refine close_value (v := .slice (if 0 = 0 then A else A.map (·.add (0 * C.P.cellsOf e'))) (0 - 0) (0 - 0)) (p := .full e ty []) (c1 := c) ?_ h hg ?_ rfl hr hK
          · simp only [execOp,hop,Sem.run_bind,Instr.sliceAt,run_underlying_some hu,Result.andThen_ok,Instr.slice,hb,q1,if_true,run_sizeOf hne',Sem.run_pure]
          · simp only [RepV]
            exact ⟨_,rfl,by simp,fun h0 => by simp at h0⟩
      · simp at hr
    · simp at hr

theorem bytesOf_push (s : ByteArray) (n : Int) (h : (Lit.int .u8 n).wf = true) : bytesOf (s.push (UInt8.ofNat n.toNat)) = bytesOf s ++ [n] := by
  rw [wf_iff] at h
  simp [IntKind.min,IntKind.max,IntKind.signed,IntKind.bits] at h
  unfold bytesOf
  rw [ByteArray.data_push,Array.toList_push,List.map_append]
  congr 1
  simp only [List.map_cons,List.map_nil,List.cons.injEq,and_true]
  rw [UInt8.toNat_ofNat']
  omega
theorem bytesOf_foldl : ∀ (ns : List Int) (s : ByteArray),(∀ n ∈ ns,(Lit.int .u8 n).wf = true) → bytesOf (ns.foldl (fun r n => r.push (UInt8.ofNat n.toNat)) s) = bytesOf s ++ ns
  | [],s,_ => by simp
  | n :: r,s,h => by
    rw [List.foldl_cons,bytesOf_foldl r _ (fun m hm => h m (by simp [hm])),bytesOf_push s n (h n (by simp))]
    simp
theorem act_convert {C : Ctx} (hC : C.P = P) {s d : TypeId} {x : Operand} (hop : o.op = .convert s d x) (h : Rep m w0 st a c) (hg : ∀ x,o.dst = some x → NoGd st x) (hr : actOp C o st K = some r)
    (hK : ∀ st' a' c',K st' = some r → Rep m w0 st' a' c' → next a' c'.w) : o.upon P a next Q ((execOp a.eval o).run P c.w) := by
  subst hC
  simp only [actOp,hop] at hr
  have hx := operand_rep h x
  split at hr
  · -- a text's octets
    rename_i e hs hd
    split at hr
    · rename_i l hxe hu
      rw [hxe] at hx
      simp only [RepV] at hx
      obtain ⟨b,hb,rfl,hbs⟩ := hx
      let cap := b.size + c.w.tape c.w.drawn (.appendCap b.size 0 e) % (2 ^ 63 - b.size)
      let cells : Array Value := (b.data.map fun b => .int .u8 b.toNat) ++ Array.replicate (cap - b.size) (.int .u8 0)
      have hcap : b.size ≤ cap ∧ cap ≤ 9223372036854775807 := by
        have : c.w.tape c.w.drawn (.appendCap b.size 0 e) % (2 ^ 63 - b.size) < 2 ^ 63 - b.size := Nat.mod_lt _ (by omega)
        simp only [cap]
        omega
      have hcs : cells.size = cap := by simp [cells]; show b.size + (cap - b.size) = cap; omega
      let w1 : World := { c.w with drawn := c.w.drawn + 1,heap := c.w.heap.push (.cells cells e (cap,cap + 1)) }
      have hrun : (execOp a.eval o).run C.P c.w = .ok (.value (.slice (some ⟨c.w.heap.size,0,none⟩) b.size cap)) w1 := by
        have hstr : (Conv.stringToBytes e b).run C.P c.w = .ok (.slice (some ⟨c.w.heap.size,0,none⟩) b.size cap) w1 := by
          have hf : (Question.appendCap b.size 0 e).forced = false := rfl
          simp only [Conv.stringToBytes,Sem.run_bind,run_choose,hf,Bool.false_eq_true,if_false,Result.andThen_ok,Question.cut,newRow,run_newObj,Sem.run_pure,markStringish,run_shape]
          have hsh : ∀ X : Array Value,({ heap := c.w.heap.push (Obj.cells X e),tape := c.w.tape,drawn := c.w.drawn + 1,os := c.w.os,output := c.w.output } : World).shape? c.w.heap.size = some (e,X.size) := by
            intro X; simp [World.shape?]
          rw [hsh]
          simp only [run_freeze,Result.andThen_ok]
          have hmod : ∀ X : Array Value,(World.freeze ({ heap := c.w.heap.push (Obj.cells X e),tape := c.w.tape,drawn := c.w.drawn + 1,os := c.w.os,output := c.w.output } : World) { block := c.w.heap.size,off := X.size } 1)
              = { c.w with drawn := c.w.drawn + 1,heap := c.w.heap.push (.cells X e (X.size,X.size + 1)) } := by
            intro X
            simp only [World.freeze,Nat.one_ne_zero,if_false]
            congr 1
            apply Array.ext
            · simp
            · intro i h1 h2
              simp only [Array.getElem_modify,Array.getElem_push]
              by_cases hi : i = c.w.heap.size
              · subst hi; simp
              · rw [if_neg (fun h => hi h.symm)]
                split
                · rfl
                · simp only [Array.size_modify,Array.size_push] at h1; omega
          rw [hmod]
          simp only [cells,cap,w1] at hcs ⊢
          rw [hcs]
        simp only [execOp,hop,Sem.run_bind,hb,convert,run_underlying_some hs,run_underlying_some hd,Result.andThen_ok,run_underlying_some hu,hstr,Sem.run_pure]
      have hheap : ∀ i,w1.heap[i]? = if i = c.w.heap.size then some (.cells cells e (cap,cap + 1)) else c.w.heap[i]? := fun i => by simp only [w1,Array.getElem?_push]
      obtain ⟨rep1,m1⟩ := h.grow (w1 := w1) (fun b => c.ok b ∨ b = c.w.heap.size)
        ⟨h.kept.os,h.kept.tape,h.kept.output,Nat.le_trans h.kept.size (by simp [w1]),fun i hi hm => by rw [hheap,if_neg (by have := h.kept.size; omega)]; exact h.kept.block i hi hm⟩
        (by simp [w1]) (fun i hi => by rw [hheap,if_neg (by omega)]) (fun _ hb => .inl hb)
        (fun i hi => ⟨by rcases hi with hi | rfl; have := h.ok i hi; simp [w1]; omega; simp [w1],by rcases hi with hi | rfl; exact .inl hi; exact .inr (Nat.le_refl _)⟩)
        (fun i hi => hi.imp_right fun e cs' e' lo hi' hh => by
          rw [e,hheap,if_pos rfl] at hh
          simp only [Option.some.injEq,Obj.cells.injEq,Prod.mk.injEq] at hh
          obtain ⟨rfl,_,rfl,_⟩ := hh
          exact .inr (by rw [hcs]; exact Nat.le_refl _))
      refine close_value (c1 := _) hrun rep1 (fun x hx => hg x hx) ?_ rfl hr hK
      simp only [RepV]
      refine ⟨_,cap,by rw [bytesOf_length],by rw [bytesOf_length]; exact hcap.1,hcap.2,fun h0 => ⟨c.w.heap.size,0,rfl,.inr rfl,fun j x hx => ?_⟩⟩
      have hj : j < b.size := by have := (List.getElem?_eq_some_iff.1 hx).1; rw [bytesOf_length] at this; exact this
      have hxe : x = (b.data[j].toNat : Int) := by
        unfold bytesOf at hx
        rw [List.getElem?_map,Array.getElem?_toList,Array.getElem?_eq_getElem (by simpa using hj)] at hx
        simpa using hx.symm
      have hwf : (Lit.int .u8 x).wf = true := by
        rw [hxe]
        have := b.data[j].toNat_lt
        simp [Lit.wf,IntKind.min,IntKind.max,IntKind.signed,IntKind.bits]; omega
      refine ⟨[.int .u8 x],⟨rfl,hwf⟩,fun i u hu => ?_⟩
      have hi : i = 0 := by have := (List.getElem?_eq_some_iff.1 hu).1; simp at this; exact this
      subst hi
      simp only [List.getElem?_cons_zero,Option.some.injEq] at hu
      subst hu
      simp only [World.cell?,hheap,if_true,Ty.size,Nat.mul_one,Nat.zero_add,Nat.add_zero,Option.isSome_none,Bool.false_eq_true,if_false]
      simp only [cells]
      rw [Array.getElem?_append_left (by simpa using hj),Array.getElem?_map,Array.getElem?_eq_getElem (by simpa using hj),hxe]
      rfl
    · simp at hr
  · -- octets' text
    rename_i e hs hd
    split at hr
    · rename_i e' l hl hu
      obtain ⟨A,n,hv,k1,k2,hrow⟩ := h.listZ (typed_rep (P := C.P) hx s) hl
      have hwf : ∀ x ∈ l,(Lit.int .u8 x).wf = true := by
        intro x hx
        obtain ⟨j,hj,rfl⟩ := List.getElem_of_mem hx
        obtain ⟨b,off,_,_,hc⟩ := hrow (by omega)
        obtain ⟨d,hd,_⟩ := hc j _ (List.getElem?_eq_getElem hj)
        exact hd.2
      have hrun : (Conv.bytesToString (a.eval x)).run C.P c.w = .ok (.string (l.foldl (fun r n => r.push (UInt8.ofNat n.toNat)) ByteArray.empty)) c.w := by
        rw [hv]
        cases A with
        | none =>
          have : l = [] := by
            cases l with
            | nil => rfl
            | cons y q => obtain ⟨_,_,hA,_⟩ := hrow (by simp); simp at hA
          subst this
          rfl
        | some ad =>
          refine run_bytesToString c.w ad l.length n l ?_
          by_cases h0 : l = []
          · subst h0; rfl
          · obtain ⟨b,off,hA,_,hc⟩ := hrow (List.length_pos_iff.2 h0)
            simp only [Option.some.injEq] at hA
            subst hA
            unfold loadCells
            rw [run_loadCells l.length 0 #[] (l.map (Value.int .u8)) (by simp) (fun j u hu => by
              rw [List.getElem?_map] at hu
              cases hj : l[j]? with
              | none => rw [hj] at hu; simp at hu
              | some y =>
                rw [hj] at hu
                simp only [Option.map_some,Option.some.injEq] at hu
                obtain ⟨d,hd,hcell⟩ := hc j y hj
                have := hcell 0 u (by rw [hd.1]; simpa using hu)
                simpa [Ty.size] using this)]
            simp
      refine close_value (v := .string (l.foldl (fun r n => r.push (UInt8.ofNat n.toNat)) ByteArray.empty)) ?_ h hg ?_ rfl hr hK
      · have hcv : (convert s d (a.eval x)).run C.P c.w = (Conv.bytesToString (a.eval x)).run C.P c.w := by
          rw [hv]; exact run_convert_bytes_string c.w s d e A l.length n hs hu hd
        simp only [execOp,hop,Sem.run_bind,hcv,hrun,Result.andThen_ok,Sem.run_pure]
      · simp only [RepV]
        have hb := bytesOf_foldl l ByteArray.empty hwf
        have h0 : bytesOf ByteArray.empty = [] := rfl
        rw [h0,List.nil_append] at hb
        refine ⟨_,rfl,hb.symm,?_⟩
        rw [← bytesOf_length,hb]
        omega
    · simp at hr
  · -- octets of a text that is written out
    rename_i e0 e hs hd
    split at hr
    · rename_i hu
      obtain ⟨hsd,hr⟩ := cond_some hr
      have hsd' := beq_true.1 hsd
      subst hsd'
      have hee : e0 = e := by rw [hs] at hd; simpa using hd
      subst hee
      unfold convBytes at hr
      split at hr
      · rename_i k hxe
        rw [hxe] at hx
        simp only [RepV] at hx
        split at hr
        · rename_i et t l ho
          have hob : c.ob k = some (.row et t l) := by rw [h.ob]; exact ho
          obtain ⟨A,n,g1,g2,g3,g4⟩ := h.objs k _ hob
          cases hl : l with
          | nil => rw [hl] at hr; simp at hr
          | cons z zs =>
            have hr' : K ((st.setO k (.frow et t l)).put o.dst (.sl et t l)) = some r := by rw [hl] at hr ⊢; simpa using hr
            have hlen : 0 < l.length := by rw [hl]; simp
            rcases g4 with g4 | ⟨g4,cs,g5,g6,g7,g8⟩
            · omega
            · subst g4
              have hown : Owns c k := ⟨_,hob,_,_,n,g1,by omega⟩
              have hmine := h.mine k hown
              obtain ⟨el,q1,q2⟩ := g5
              have hsh : c.w.shape? (c.ρ k) = some (el,cs.size) := by simp [World.shape?,q1]
              let w1 : World := c.w.freeze ⟨c.ρ k,cs.size,none⟩ 1
              have hrun : (execOp a.eval o).run C.P c.w = .ok (.value (a.eval x)) w1 := by
                simp only [execOp,hop,Sem.run_bind,hx.1,g1,convert,run_underlying_some hs,run_underlying_some hd,Result.andThen_ok,beq_self_eq_true,run_underlying_some hu,markStringish,run_shape,hsh,run_freeze,Sem.run_pure]
                first | rfl | (simp only [Sem.run_bind,run_shape,hsh,Result.andThen_ok,run_freeze,Sem.run_pure]; rfl) | skip
              have hheap : ∀ i,w1.heap[i]? = if i = c.ρ k then some (.cells cs el (cs.size,cs.size + 1)) else c.w.heap[i]? := fun i => by
                simp only [w1,World.freeze,Nat.one_ne_zero,if_false,Array.getElem?_modify]
                by_cases hi : c.ρ k = i
                · subst hi; simp [q1]
                · rw [if_neg hi,if_neg (fun hh => hi hh.symm)]
              have hsize : w1.heap.size = c.w.heap.size := by simp only [w1,World.freeze,Nat.one_ne_zero,if_false,Array.size_modify]
              have hcell : ∀ off,w1.cell? ⟨c.ρ k,off,none⟩ = c.w.cell? ⟨c.ρ k,off,none⟩ := fun off => by simp [World.cell?,hheap,q1]
              let ok1 : Nat → Prop := fun b => c.ok b ∨ (Owns c k ∧ b = c.ρ k)
              have hne : ∀ b,c.za b → b ≠ c.ρ k := fun b hb he => h.mineZ hown (he ▸ hb)
              have rep := h.setObj (o := .row et t l) (o' := .frow et t l) ho (w1 := w1) ok1
                (h.kept.one rfl rfl rfl (by omega) (c.ρ k) hmine.2.1 (fun i _ hi => by rw [hheap,if_neg hi])) (by omega)
                (fun b hb => by
                  rw [hheap,if_neg]
                  rcases hb with hb | ⟨k',hk',hb,rfl⟩
                  · exact hne b hb
                  · exact fun he => hk' (h.apart k' k hb hown he))
                (fun b hb => .inl hb)
                (fun b hb => by
                  rw [hsize]
                  rcases hb with hb | ⟨hb,rfl⟩
                  · exact ⟨h.ok b hb,fun k' _ hk' he => (h.mine k' hk').1 (he ▸ hb)⟩
                  · exact ⟨(h.mine k hb).2.2,fun k' hne hk' he => hne (h.apart k' k hk' hb he)⟩)
                (by simp [RowAt])
                (by
                  refine ⟨_,n,g1,g2,g3,fun h0 => ⟨c.ρ k,0,rfl,.inr ⟨hown,rfl⟩,?_⟩⟩
                  have rd := row_reads (w := c.w) (ok := c.ok) ⟨el,q1,q2⟩ g7
                  intro j y hj
                  obtain ⟨cc,d1,d2⟩ := rd j y hj
                  refine ⟨cc,d1.move (fun b hb => by rw [hheap,if_neg (hne b (.inl (.inl hb)))]) (fun b hb => .inl hb),fun i u hu => ?_⟩
                  have := d2 i u hu
                  rw [← this]; exact hcell _)
                (fun hw => by simp [OwnsO] at hw) (hum := fun b hb => hb.imp_right fun ⟨_,e⟩ cs' e' lo hi' hh => by
                  rw [e,hheap,if_pos rfl] at hh
                  simp only [Option.some.injEq,Obj.cells.injEq,Prod.mk.injEq] at hh
                  obtain ⟨rfl,_,rfl,_⟩ := hh
                  exact .inr (Nat.le_refl _))
              refine close_value (c1 := _) hrun rep (fun x hx => (hg x hx).of rfl) ?_ rfl hr' hK
              have hobj := rep.objs k (.frow et t l) (by simp [obj_setO,ho])
              obtain ⟨A2,n2,j1,j2,j3,j4⟩ := hobj
              simp only [RepV]
              exact ⟨A2,n2,by rw [hx.1]; exact j1,j2,j3,j4⟩
        · simp at hr
      · simp at hr
    · simp at hr
  · simp at hr
end
end Go.Fw
