/- append. -/
import Derived.Test.YtgdfhijgjjcnjaaGreatDoorFwAct6
set_option linter.unusedVariables false
set_option linter.unusedSimpArgs false
namespace Go.Fw
open Go.RowKit (Below)

theorem growBy_le (newLen : Nat) (h : 256 ≤ newLen) : ∀ (rounds c : Nat),c ≤ 2 * newLen → Builtin.growBy newLen rounds c ≤ 2 * newLen
  | 0,c,hc => hc
  | n + 1,c,hc => by
    simp only [Builtin.growBy]
    split
    · exact hc
    · exact growBy_le newLen h n _ (by omega)
theorem nextslicecap_le {need cap : Nat} (h : cap < need) : Builtin.nextslicecap need cap ≤ 2 * need := by
  unfold Builtin.nextslicecap
  split
  · omega
  · split
    · omega
    · exact growBy_le need (by omega) 4 cap (by omega)

section
variable {P : Program} {m : MM} {w0 : World} {st : St} {a : Act} {c : Cx} {R : Type} {K : St → Option R} {r : R} {o : Oper} {next : Act → World → Prop} {Q : Exit → Act → World → Prop}

theorem row_inner {w : World} {ok : Nat → Prop} {t : Ty} {b off : Nat} : ∀ (l : List t.den),(∀ (j : Nat) (x : t.den),l[j]? = some x → ∃ c,Dat w ok t x c ∧ ∀ (i : Nat) (u : Value),c[i]? = some u → w.cell? ⟨b,off + j * t.size + i,none⟩ = some u) →
    ∃ inner,DatL w ok t l inner ∧ ∀ (q : Nat) (u : Value),inner[q]? = some u → w.cell? ⟨b,off + q,none⟩ = some u := by
  intro l h
  have key : ∀ n,n ≤ l.length → ∃ inner,DatL w ok t (l.take n) inner ∧ ∀ (q : Nat) (u : Value),inner[q]? = some u → w.cell? ⟨b,off + q,none⟩ = some u := by
    intro n
    induction n with
    | zero => intro _; exact ⟨[],by simp [DatL],by simp⟩
    | succ n ih =>
      intro hn
      obtain ⟨inner,h1,h2⟩ := ih (by omega)
      obtain ⟨c,h3,h4⟩ := h n _ (List.getElem?_eq_getElem (show n < l.length by omega))
      have hl := h1.len
      rw [List.length_take,Nat.min_eq_left (by omega)] at hl
      refine ⟨inner ++ c,?_,fun q u hu => ?_⟩
      · rw [List.take_succ_eq_append_getElem (by omega)]
        exact h1.append ⟨c,[],by simp,h3,rfl⟩
      · rcases Nat.lt_or_ge q inner.length with hq | hq
        · rw [List.getElem?_append_left hq] at hu
          exact h2 q u hu
        · rw [List.getElem?_append_right hq] at hu
          have := h4 _ u hu
          rw [show off + n * t.size + (q - inner.length) = off + q by omega] at this
          exact this
  obtain ⟨inner,h1,h2⟩ := key l.length (Nat.le_refl _)
  rw [List.take_length] at h1
  exact ⟨inner,h1,h2⟩
theorem firstCells_row {w : World} {ok : Nat → Prop} {t : Ty} {A : Option Addr} {l : List t.den} {cap : Nat} (hr : RowR w ok t A l) (hts : 0 < t.size) :
    ∃ cs : Array Value,(Builtin.firstCells t.size l.length (.slice A l.length cap)).run P w = .ok cs w ∧ DatL w ok t l cs.toList := by
  by_cases h0 : l = []
  · subst h0
    cases A with
    | none => exact ⟨#[],rfl,rfl⟩
    | some ad => exact ⟨#[],by simp [Builtin.firstCells,loadCells,loadCellsFrom],rfl⟩
  · obtain ⟨b,off,rfl,_,hc⟩ := hr (List.length_pos_iff.2 h0)
    obtain ⟨inner,h1,h2⟩ := row_inner l hc
    refine ⟨inner.toArray,?_,by simpa using h1⟩
    simp only [Builtin.firstCells,loadCells]
    rw [run_loadCells (l.length * t.size) 0 #[] inner h1.len (fun j u hu => by rw [Nat.zero_add]; exact h2 j u hu)]
    simp
theorem src_rep (h : Rep m w0 st a c) {p : PV} {v : Value} (hp : RepV c p v) {t : Ty} {l : List t.den} (hl : srcOf st t p = some l) (hts : 0 < t.size) :
    (∀ w,(Builtin.lenOf v).run P w = .ok l.length w) ∧ ∃ cs : Array Value,(Builtin.firstCells t.size l.length v).run P c.w = .ok cs c.w ∧ DatL c.w c.ok t l cs.toList := by
  have row : ∀ e (t' : Ty) (l' : List t'.den),st.list p = some ⟨e,t',l'⟩ → st.isA p = false → ∀ ht : t' = t,l = ht ▸ l' → (∀ w,(Builtin.lenOf v).run P w = .ok l.length w) ∧ ∃ cs : Array Value,(Builtin.firstCells t.size l.length v).run P c.w = .ok cs c.w ∧ DatL c.w c.ok t l cs.toList := by
    intro e t' l' hl' hA ht he
    subst ht
    subst he
    obtain ⟨A,n,hv,h1,h2,hrow⟩ := h.list hp hl' hA
    subst hv
    exact ⟨fun w => rfl,firstCells_row hrow hts⟩
  unfold srcOf at hl
  split at hl
  · rename_i s
    split at hl
    · rename_i ht
      subst ht
      simp only [Option.some.injEq] at hl
      subst hl
      simp only [RepV] at hp
      obtain ⟨b,rfl,rfl,hb⟩ := hp
      refine ⟨fun w => by rw [bytesOf_length]; rfl,((b.extract 0 b.size).data.map fun b => .int .u8 b.toNat),by rw [bytesOf_length]; rfl,?_⟩
      have he : (b.extract 0 b.size).data.toList = b.data.toList := by rw [ByteArray.data_extract,Array.toList_extract]; rw [List.extract_eq_take_drop,List.drop_zero,Nat.sub_zero]; exact List.take_of_length_le (by rw [Array.length_toList]; exact Nat.le_refl _)
      rw [Array.toList_map,he]
      unfold bytesOf
      have : ∀ l : List UInt8,DatL c.w c.ok (.int .u8) (l.map fun b => (b.toNat : Int)) (l.map fun b => Value.int .u8 b.toNat) := by
        intro l
        induction l with
        | nil => rfl
        | cons x r ih =>
          refine ⟨[.int .u8 x.toNat],_,rfl,⟨rfl,?_⟩,ih⟩
          have := x.toNat_lt
          simp [Lit.wf,IntKind.min,IntKind.max,IntKind.signed,IntKind.bits]; omega
      exact this _
    · simp at hl
  · rename_i f' e' t' l'
    split at hl
    · rename_i ht
      subst ht
      obtain ⟨hf,hl⟩ := cond_some hl
      simp only [Option.some.injEq] at hl
      subst hl
      obtain ⟨A,n,hv,h1,h2,hrow⟩ := h.listZ hp (e := e') (t := t') (l := l') rfl
      subst hv
      refine ⟨fun w => rfl,?_⟩
      obtain ⟨cs,c1,c2⟩ := firstCells_row (P := P) (cap := n) hrow hts
      exact ⟨cs,c1,c2.flat hf⟩
    · simp at hl
  · rename_i hna
    cases hA : st.isA p with
    | true => rw [hA] at hl; simp at hl
    | false =>
    rw [hA] at hl
    simp only [cond_false] at hl
    split at hl
    · rename_i e t' l' hl'
      split at hl
      · rename_i ht
        simp only [Option.some.injEq] at hl
        exact row e t' l' hl' hA ht hl.symm
      · simp at hl
    · simp at hl

theorem run_append_in {t u : TypeId} {e : TypeId} {ty : Ty} {x0 : ty.den} (he : elemInfo P e = some ⟨ty,x0⟩) (ht : P.underlying t = some (.slice e)) (hu : (∃ e2,P.underlying u = some (.slice e2)) ∨ P.underlying u = some .string) (tt : TypeId)
    {A : Option Addr} {n cap : Nat} {v : Value} {k : Nat} {new : Array Value} {w w1 : World} (hlen : ∀ w,(Builtin.lenOf v).run P w = .ok k w) (hnew : (Builtin.firstCells ty.size k v).run P w = .ok new w) (hle : n + k ≤ cap)
    (hst : (match A with | some ad => storeCells (ad.add (n * ty.size)) new.toList | none => pure () : Sem Unit).run P w = .ok () w1) :
    (Builtin.append_ #[t,u] tt #[.slice A n cap,v]).run P w = .ok (.slice A (n + k) cap) w1 := by
  obtain ⟨i,z,lz,hi,hz0,hsz,hisz,hib,hrepz,hof,hts,htp,hbp⟩ := elemInfo_spec he
  have hso : (sizeOf e).run P w = .ok ty.size w := by simp [sizeOf,typeInfo,hi,hisz,hts]
  unfold Builtin.append_
  rcases hu with ⟨e2,hu⟩ | hu
  all_goals
    simp only [List.getElem?_toArray,List.getElem?_cons_zero,List.getElem?_cons_succ,Sem.run_bind,run_underlying_some ht,Result.andThen_ok,hso,run_underlying_some hu,Sem.run_pure,Bool.false_eq_true,if_false,hlen,hle,if_true,Bool.not_false,hnew]
    cases A with
    | none => simp only at hst; simp only [Sem.run_pure,Result.ok.injEq,true_and] at hst ⊢; exact hst
    | some ad => simp only at hst; simp only [Sem.run_bind,hst,Result.andThen_ok,Sem.run_pure]
theorem run_append_new {t u : TypeId} {e : TypeId} {ty : Ty} {x0 : ty.den} (he : elemInfo P e = some ⟨ty,x0⟩) (ht : P.underlying t = some (.slice e)) (hu : (∃ e2,P.underlying u = some (.slice e2)) ∨ P.underlying u = some .string) (tt : TypeId)
    {A : Option Addr} {n cap : Nat} {v : Value} {k : Nat} {old new : Array Value} {w : World} (hlen : ∀ w,(Builtin.lenOf v).run P w = .ok k w) (hnew : (Builtin.firstCells ty.size k v).run P { w with drawn := w.drawn + 1 } = .ok new { w with drawn := w.drawn + 1 })
    (hold : (Builtin.firstCells ty.size n (.slice A n cap)).run P { w with drawn := w.drawn + 1 } = .ok old { w with drawn := w.drawn + 1 }) (hgt : cap < n + k) (hlim : (n + k) * P.bytesOf e ≤ LIM) :
    ∃ (rest : Array Value) (nc : Nat),n + k ≤ nc ∧ nc ≤ 9223372036854775807 ∧ rest.size = (nc - (n + k)) * ty.size ∧
      (Builtin.append_ #[t,u] tt #[.slice A n cap,v]).run P w = .ok (.slice (some ⟨w.heap.size,0,none⟩) (n + k) nc) { w with drawn := w.drawn + 1,heap := w.heap.push (.cells (old ++ new ++ rest) e) } := by
  obtain ⟨i,z,lz,hi,hz0,hsz,hisz,hib,hrepz,hof,hts,htp,hbp⟩ := elemInfo_spec he
  have hL : LIM = 140737488355328 := rfl
  rw [hL] at hlim
  have hso : ∀ w,(sizeOf e).run P w = .ok ty.size w := fun w => by simp [sizeOf,typeInfo,hi,hisz,hts]
  have hti : ∀ w,(typeInfo e).run P w = .ok i w := fun w => by simp [typeInfo,hi]
  have hnk : n + k ≤ 140737488355328 := by
    have : (n + k) * 1 ≤ (n + k) * P.bytesOf e := Nat.mul_le_mul_left _ hbp
    omega
  let nc := (n + k) + w.tape w.drawn (.appendCap (n + k) cap e) % (2 ^ 63 - (n + k))
  have hnc : n + k ≤ nc ∧ nc ≤ 9223372036854775807 := by
    have : w.tape w.drawn (.appendCap (n + k) cap e) % (2 ^ 63 - (n + k)) < 2 ^ 63 - (n + k) := Nat.mod_lt _ (by omega)
    simp only [nc]
    omega
  refine ⟨Builtin.zeroCells z.cells (nc - (n + k)),nc,hnc.1,hnc.2,by simp [Builtin.zeroCells,hsz,hts],?_⟩
  have hle : ¬ n + k ≤ cap := by omega
  have hmax : ¬ (((n + k : Nat) : Int) > IntKind.i64.max ∧ (False ∨ i.bytes = 0)) := by
    rintro ⟨_,h | h⟩
    · exact h
    · omega
  have hcap : ¬ Builtin.nextslicecap (n + k) cap * i.bytes > 2 ^ 48 := by
    have h1 : Builtin.nextslicecap (n + k) cap * i.bytes ≤ 2 * (n + k) * i.bytes := Nat.mul_le_mul_right _ (nextslicecap_le (by omega))
    rw [hib] at h1 ⊢
    rw [Nat.mul_assoc] at h1
    omega
  have hf : (Question.appendCap (n + k) cap e).forced = false := rfl
  unfold Builtin.append_
  rcases hu with ⟨e2,hu⟩ | hu
  all_goals
    simp only [List.getElem?_toArray,List.getElem?_cons_zero,List.getElem?_cons_succ,Sem.run_bind,run_underlying_some ht,Result.andThen_ok,hso,run_underlying_some hu,Sem.run_pure,Bool.false_eq_true,if_false,hlen,hle,Bool.not_false,if_true,
      hti,hmax,hcap,run_choose,hf,Question.cut,run_askRoom,hnew,hold,run_zeroValue hi hz0,newRow,run_newObj]
    rfl

theorem append_exec {t u : TypeId} {x y : Operand} {args : Array Operand} {argTypes : Array TypeId} (hop : o.op = .call { callee := .builtin .append,args,argTypes }) (ha : args.toList = [x,y]) (ht : argTypes.toList = [t,u])
    {v : Value} {w w1 : World} (h : (Builtin.append_ #[t,u] o.type #[a.eval x,a.eval y]).run P w = .ok v w1) : (execOp a.eval o).run P w = .ok (.value v) w1 := by
  have ha' : args = #[x,y] := by rw [← Array.toList_inj]; simpa using ha
  have ht' : argTypes = #[t,u] := by rw [← Array.toList_inj]; simpa using ht
  subst ha' ht'
  simp only [execOp,hop,Sem.run_bind,resolve,Sem.run_pure,Result.andThen_ok,invoke,builtin,List.map_toArray,List.map_cons,List.map_nil,h]
theorem own_del {k k' : Nat} {o' : Ob} (h : Rep m w0 st a c) (ho : st.obj k = some o') (hk : Owns { c with ob := (st.del k).obj } k') : k' ≠ k ∧ Owns c k' := by
  obtain ⟨o2,h1,h2⟩ := hk
  have h5 : (st.del k).obj k' = if k' = k then some .gone else st.obj k' := by
    unfold St.del
    rw [obj_setO]
    by_cases hi : k' = k
    · rw [if_pos hi,if_pos hi,ho]; rfl
    · rw [if_neg hi,if_neg hi]
  simp only [h5] at h1
  by_cases hi : k' = k
  · rw [if_pos hi] at h1
    simp only [Option.some.injEq] at h1
    subst h1
    simp [OwnsO] at h2
  · rw [if_neg hi] at h1
    exact ⟨hi,o2,by rw [h.ob]; exact h1,h2.congr (c := { c with ob := (st.del k).obj }) (c1 := c) rfl⟩
theorem app_none {st1 st2 : St} {c1 : Cx} {e : TypeId} {ty : Ty} {l : List ty.den} {d kk : Nat} {A : Option Addr} (h1 : Rep m w0 st1 a c1) (hw : c1.w = c.w) (hg : ∀ x,o.dst = some x → NoGd st1 x) (hd : o.dst = some d)
    (hn : st1.new (kk) (.row e ty l) = some st2) (hl : l = []) (hrun : (execOp a.eval o).run P c.w = .ok (.value (.slice A 0 0)) c.w) (hr : K (st2.set d (.own (kk))) = some r)
    (hK : ∀ st' a' c',K st' = some r → Rep m w0 st' a' c' → next a' c'.w) : o.upon P a next Q ((execOp a.eval o).run P c.w) := by
  subst hl
  obtain ⟨g1,g2,g3,g4,g5,g6⟩ := new_spec hn
  have rep := h1.newObj hn (w1 := c1.w) 0 (.slice A 0 0) h1.kept (Nat.le_refl _) (fun _ _ => rfl) ⟨A,0,by simp,by simp,by omega,.inl rfl⟩ (fun hw => by
    obtain ⟨_,_,_,q,hm⟩ := hw
    simp at q
    exact absurd q.2.2.symm hm)
  refine close_value (c1 := _) (p := .own (kk)) (v := .slice A 0 0) (by rw [hrun]; show _ = Result.ok _ c1.w; rw [hw]) rep (fun x hx => (hg x hx).of g1) ?_ rfl (by rw [hd]; exact hr) hK
  simp only [RepV]
  simp
theorem app_new {C : Ctx} {st1 st2 : St} {c1 : Cx} {t u : TypeId} {x y : Operand} {args : Array Operand} {argTypes : Array TypeId} (hop : o.op = .call { callee := .builtin .append,args,argTypes }) (ha : args.toList = [x,y]) (ht : argTypes.toList = [t,u])
    {e : TypeId} {ty : Ty} {x0 : ty.den} (he : elemInfo C.P e = some ⟨ty,x0⟩) (hu1 : C.P.underlying t = some (.slice e)) (hu2 : (∃ e2,C.P.underlying u = some (.slice e2)) ∨ C.P.underlying u = some .string)
    (h : Rep m w0 st a c) (h1 : Rep m w0 st1 a c1) (hw : c1.w = c.w) (hok : c1.ok = c.ok) (hg : ∀ x,o.dst = some x → NoGd st1 x) {d kk : Nat} (hd : o.dst = some d) {l mm : List ty.den} (hn : st1.new (kk) (.row e ty (l ++ mm)) = some st2)
    {p q : PV} (hp : RepV c p (a.eval x)) {e' : TypeId} (hlist : st.list p = some ⟨e',ty,l⟩) (hA : st.isA p = false) (hq : RepV c q (a.eval y)) (hsrc : srcOf st ty q = some mm) {A : Option Addr} {n : Nat} (hev : a.eval x = .slice A l.length n) (hgt : n < l.length + mm.length)
    (hlim : (l.length + mm.length) * C.P.bytesOf e ≤ LIM) (hr : K (st2.set d (.own (kk))) = some r)
    (hK : ∀ st' a' c',K st' = some r → Rep m w0 st' a' c' → next a' c'.w) : o.upon C.P a next Q ((execOp a.eval o).run C.P c.w) := by
  obtain ⟨i,z,lz,hi,hz0,hsz,hisz,hib,hrepz,hof,hts,htp,hbp⟩ := elemInfo_spec he
  have h' := h.world (w1 := { c.w with drawn := c.w.drawn + 1 }) (h.kept.drawn _) (Nat.le_refl _) (fun _ _ => rfl)
  have hm : Mv (fun _ => True) c { c with w := { c.w with drawn := c.w.drawn + 1 } } := (.of (fun _ _ => rfl) (fun _ h => h) (fun _ _ => rfl) (fun _ _ => rfl) (fun k t l _ hl => ⟨l,hl,rfl⟩) (fun _ ha => ha) (fun _ hb => hb) (fun hl => hl))
  obtain ⟨hlen,new,hnew,hdnew⟩ := src_rep (P := C.P) h' (RepV.move hm _ _ (fun _ _ => trivial) hq) hsrc htp
  obtain ⟨A',n',hv',hl1,hl2,hrow⟩ := h'.list (RepV.move hm _ _ (fun _ _ => trivial) hp) hlist hA
  rw [hev] at hv'
  simp only [Value.slice.injEq] at hv'
  obtain ⟨rfl,_,rfl⟩ := hv'
  obtain ⟨old,hold,hdold⟩ := firstCells_row (P := C.P) (cap := n) hrow htp
  obtain ⟨rest,nc,k1,k2,k3,k4⟩ := run_append_new (P := C.P) he hu1 hu2 o.type hlen hnew hold hgt hlim
  have hll : (l ++ mm).length = l.length + mm.length := List.length_append
  have ho := hdold.len
  have hnw := hdnew.len
  simp only [Array.length_toList] at ho hnw
  have hnc : nc * ty.size = l.length * ty.size + mm.length * ty.size + (nc - (l.length + mm.length)) * ty.size := by
    rw [← Nat.add_mul,← Nat.add_mul]; congr 1; omega
  have hrun := append_exec (P := C.P) hop ha ht (by rw [hev]; exact k4)
  refine newRow_sound (cs := old ++ new ++ rest) (n := nc) (c.w.drawn + 1) hd h1 hw hg hn htp (by simp only [Array.size_append]; omega) (by omega) k2 ?_ (by rw [hll]; exact hrun) hr hK
  rw [hll,Array.toList_append,Array.toList_append,List.take_append,List.take_of_length_le (by simp only [List.length_append,Array.length_toList]; rw [Nat.add_mul]; omega)]
  have : (l.length + mm.length) * ty.size - (old.toList ++ new.toList).length = 0 := by simp only [List.length_append,Array.length_toList]; rw [Nat.add_mul]; omega
  rw [this,List.take_zero,List.append_nil]
  rw [hw,hok]
  exact DatL.move (w := { c.w with drawn := c.w.drawn + 1 }) (w1 := c.w) (ok := c.ok) (ok1 := c.ok) (fun _ _ => rfl) (fun _ hb => hb) (hdold.append hdnew)
theorem app_noneM {st1 st2 : St} {c1 : Cx} {e : TypeId} {ty : Ty} {l : List ty.den} {d kk : Nat} {A : Option Addr} (h1 : Rep m w0 st1 a c1) (hw : c1.w = c.w) (hg : ∀ x,o.dst = some x → NoGd st1 x) (hd : o.dst = some d)
    (hn : st1.new (kk) (.mrow e ty l 0) = some st2) (hl : l = []) (hrun : (execOp a.eval o).run P c.w = .ok (.value (.slice A 0 0)) c.w) (hr : K (st2.set d (.own (kk))) = some r)
    (hK : ∀ st' a' c',K st' = some r → Rep m w0 st' a' c' → next a' c'.w) : o.upon P a next Q ((execOp a.eval o).run P c.w) := by
  subst hl
  obtain ⟨g1,g2,g3,g4,g5,g6⟩ := new_spec hn
  have rep := h1.newObj hn (w1 := c1.w) 0 (.slice A 0 0) h1.kept (Nat.le_refl _) (fun _ _ => rfl) ⟨A,0,by simp,by simp,by omega,.inl rfl⟩ (fun hw => by
    obtain ⟨_,_,_,q,hm⟩ := hw
    simp at q
    exact absurd q.2.2.symm hm)
  refine close_value (c1 := _) (p := .own (kk)) (v := .slice A 0 0) (by rw [hrun]; show _ = Result.ok _ c1.w; rw [hw]) rep (fun x hx => (hg x hx).of g1) ?_ rfl (by rw [hd]; exact hr) hK
  simp only [RepV]
  simp
theorem app_newM {C : Ctx} {st1 st2 : St} {c1 : Cx} {t u : TypeId} {x y : Operand} {args : Array Operand} {argTypes : Array TypeId} (hop : o.op = .call { callee := .builtin .append,args,argTypes }) (ha : args.toList = [x,y]) (ht : argTypes.toList = [t,u])
    {e : TypeId} {ty : Ty} {x0 : ty.den} (he : elemInfo C.P e = some ⟨ty,x0⟩) (hu1 : C.P.underlying t = some (.slice e)) (hu2 : (∃ e2,C.P.underlying u = some (.slice e2)) ∨ C.P.underlying u = some .string)
    (h : Rep m w0 st a c) (h1 : Rep m w0 st1 a c1) (hw : c1.w = c.w) (hok : c1.ok = c.ok) (hca : c1.a = c.a) (hg : ∀ x,o.dst = some x → NoGd st1 x) {d kk : Nat} (hd : o.dst = some d) {l mm : List ty.den} (hn : st1.new (kk) (.mrow e ty (l ++ mm) 0) = some st2)
    {p q : PV} (hp : RepV c p (a.eval x)) {e' : TypeId} (hlist : st.list p = some ⟨e',ty,l⟩) (hA : p.isQ = false) (hq : RepV c q (a.eval y)) {e2 : TypeId} (hsrc : st.list q = some ⟨e2,ty,mm⟩) (hQ : q.isQ = false) {A : Option Addr} {n : Nat} (hev : a.eval x = .slice A l.length n) (hgt : n < l.length + mm.length)
    (hlim : (l.length + mm.length) * C.P.bytesOf e ≤ LIM) (hr : K (st2.set d (.own (kk))) = some r)
    (hK : ∀ st' a' c',K st' = some r → Rep m w0 st' a' c' → next a' c'.w) : o.upon C.P a next Q ((execOp a.eval o).run C.P c.w) := by
  obtain ⟨i,z,lz,hi,hz0,hsz,hisz,hib,hrepz,hof,hts,htp,hbp⟩ := elemInfo_spec he
  have h' := h.world (w1 := { c.w with drawn := c.w.drawn + 1 }) (h.kept.drawn _) (Nat.le_refl _) (fun _ _ => rfl)
  have hm : Mv (fun _ => True) c { c with w := { c.w with drawn := c.w.drawn + 1 } } := (.of (fun _ _ => rfl) (fun _ h => h) (fun _ _ => rfl) (fun _ _ => rfl) (fun k t l _ hl => ⟨l,hl,rfl⟩) (fun _ ha => ha) (fun _ hb => hb) (fun hl => hl))
  obtain ⟨B,nb,hbv,_,_,hbrow⟩ := h'.listR (RepV.move hm _ _ (fun _ _ => trivial) hq) hsrc hQ
  obtain ⟨new,hnew,hdnew⟩ := firstCells_row (P := C.P) (cap := nb) hbrow htp
  rw [← hbv] at hnew
  have hlen : ∀ w,(Builtin.lenOf (a.eval y)).run C.P w = .ok mm.length w := fun w => by rw [hbv]; rfl
  obtain ⟨A',n',hv',hl1,hl2,hrow⟩ := h'.listR (RepV.move hm _ _ (fun _ _ => trivial) hp) hlist hA
  rw [hev] at hv'
  simp only [Value.slice.injEq] at hv'
  obtain ⟨rfl,_,rfl⟩ := hv'
  obtain ⟨old,hold,hdold⟩ := firstCells_row (P := C.P) (cap := n) hrow htp
  obtain ⟨rest,nc,k1,k2,k3,k4⟩ := run_append_new (P := C.P) he hu1 hu2 o.type hlen hnew hold hgt hlim
  have hll : (l ++ mm).length = l.length + mm.length := List.length_append
  have ho := hdold.len
  have hnw := hdnew.len
  simp only [Array.length_toList] at ho hnw
  have hnc : nc * ty.size = l.length * ty.size + mm.length * ty.size + (nc - (l.length + mm.length)) * ty.size := by
    rw [← Nat.add_mul,← Nat.add_mul]; congr 1; omega
  have hrun := append_exec (P := C.P) hop ha ht (by rw [hev]; exact k4)
  refine newMrow_sound (cs := old ++ new ++ rest) (n := nc) (c.w.drawn + 1) hd h1 hw hg hn htp (by simp only [Array.size_append]; omega) (by omega) k2 ?_ (by rw [hll]; exact hrun) hr hK
  rw [hll,Array.toList_append,Array.toList_append,List.take_append,List.take_of_length_le (by simp only [List.length_append,Array.length_toList]; rw [Nat.add_mul]; omega)]
  have : (l.length + mm.length) * ty.size - (old.toList ++ new.toList).length = 0 := by simp only [List.length_append,Array.length_toList]; rw [Nat.add_mul]; omega
  rw [this,List.take_zero,List.append_nil]
  rw [hw]
  unfold Cx.ra
  rw [hok,hca]
  exact DatL.move (w := { c.w with drawn := c.w.drawn + 1 }) (w1 := c.w) (ok := c.ra) (ok1 := c.ra) (fun _ _ => rfl) (fun _ hb => hb) (hdold.append hdnew)
theorem zero_dat {e : TypeId} {ty : Ty} {x0 : ty.den} {z : Value} (hzd : Dat c.w c.ok ty x0 z.cells.toList) (hzl : z.cells.size = ty.size) (htp : 0 < ty.size) (q : Nat) :
    DatL c.w c.ok ty (List.replicate q x0) (Builtin.zeroCells z.cells q).toList := by
  have key : ∀ q',q' ≤ q → DatL c.w c.ok ty (List.replicate q' x0) ((List.range (q' * ty.size)).map (fun i => z.cells[i % z.cells.size]!)) := by
    intro q'
    induction q' with
    | zero => intro _; simp [DatL]
    | succ p ih =>
      intro hp
      rw [List.replicate_succ']
      rw [Nat.add_mul,Nat.one_mul,List.range_add,List.map_append]
      refine (ih (by omega)).append ?_
      refine ⟨z.cells.toList,[],?_,hzd,rfl⟩
      rw [List.append_nil]
      apply List.ext_getElem
      · simp [hzl]
      · intro i h1 h2
        simp only [List.length_map,List.length_range] at h1
        simp only [List.map_map,List.getElem_map,List.getElem_range,Function.comp_apply]
        rw [hzl,Nat.mul_comm p,Nat.mul_add_mod,Nat.mod_eq_of_lt h1]
        rw [getElem!_pos z.cells i (by omega)]
        rfl
  have := key q (Nat.le_refl _)
  unfold Builtin.zeroCells
  rw [Array.toList_map,Array.toList_range,hzl] at *
  exact this
theorem appendZ_sound {C : Ctx} {t u : TypeId} {b x : Operand} {args : Array Operand} {argTypes : Array TypeId} (hop : o.op = .call { callee := .builtin .append,args,argTypes }) (ha : args.toList = [b,x]) (ht : argTypes.toList = [t,u])
    {e : TypeId} {kk : IntKind} (hu1 : C.P.underlying t = some (.slice e)) (hu2 : C.P.underlying u = some (.int kk)) (h : Rep m w0 st a c) (hg : ∀ x,o.dst = some x → NoGd st x)
    (hr : appendZ C.P e (typed C.P t (operand st b)) (operand st x) o.dst st K = some r)
    (hK : ∀ st' a' c',K st' = some r → Rep m w0 st' a' c' → next a' c'.w) : o.upon C.P a next Q ((execOp a.eval o).run C.P c.w) := by
  have hb := typed_rep (P := C.P) (operand_rep h b) t
  have hx := operand_rep h x
  unfold appendZ at hr
  split at hr
  · rename_i e' t' l n d ty x0 hbe hxe hd he
    obtain ⟨i,z,lz,hi,hz0,hsz,hisz,hib,hrepz,hof,hts,htp,hbp⟩ := elemInfo_spec he
    rw [hbe] at hb
    rw [hxe] at hx
    simp only [RepV] at hb hx
    split at hr
    · obtain ⟨hc,hr2⟩ := cond_some hr
      clear hr
      simp only [Bool.and_eq_true,decide_eq_true_eq] at hc
      obtain ⟨h0,hlim⟩ := hc
      have hr := hr2
      clear hr2
      split at hr
      · rename_i st2 hn
        obtain ⟨q,rfl⟩ := Int.eq_ofNat_of_zero_le (Int.le_of_lt h0)
        simp only [Int.toNat_natCast] at hlim hr hn
        have hLIM : LIM = 140737488355328 := rfl
        rw [hLIM] at hlim
        have hq : q ≤ 140737488355328 := by
          have : q * 1 ≤ q * C.P.bytesOf e := Nat.mul_le_mul_left _ hbp
          omega
        have hq0 : 0 < q := by omega
        obtain ⟨A,hev,_⟩ := hb
        simp only [List.length_nil] at hev
        have hzd : Dat c.w c.ok ty x0 z.cells.toList := Ty.of_dat hof (hrepz c)
        have hzl : z.cells.size = ty.size := by rw [hsz,hts]
        have hcells := zero_dat (c := c) (e := e) hzd hzl htp q
        let nc := q + c.w.tape c.w.drawn (.appendCap q 0 e) % (2 ^ 63 - q)
        have hnc : q ≤ nc ∧ nc ≤ 9223372036854775807 := by
          have : c.w.tape c.w.drawn (.appendCap q 0 e) % (2 ^ 63 - q) < 2 ^ 63 - q := Nat.mod_lt _ (by omega)
          simp only [nc]
          omega
        have hso : ∀ w,(sizeOf e).run C.P w = .ok ty.size w := fun w => by simp [sizeOf,typeInfo,hi,hisz,hts]
        have hti : ∀ w,(typeInfo e).run C.P w = .ok i w := fun w => by simp [typeInfo,hi]
        have hw : IntKind.i64.wrap (q : Int) = q := by simp [IntKind.wrap,IntKind.signed,IntKind.bits]; omega
        have hneg : ¬ ((q : Int) < 0) := by omega
        have hbig : ¬ ((q : Int) * ((i.bytes : Nat) : Int) > 2 ^ 48) := by
          have : (q : Int) * ((i.bytes : Nat) : Int) ≤ 140737488355328 := by rw [hib]; exact Int.ofNat_le.2 hlim
          omega
        have hle : ¬ 0 + q ≤ 0 := by omega
        have hmax : ¬ (((0 + q : Nat) : Int) > IntKind.i64.max ∧ (True ∨ i.bytes = 0)) := by
          rintro ⟨h1,_⟩
          simp [IntKind.max,IntKind.signed,IntKind.bits] at h1
          omega
        have hcap : ¬ Builtin.nextslicecap (0 + q) 0 * i.bytes > 2 ^ 48 := by
          have h1 : Builtin.nextslicecap (0 + q) 0 * i.bytes ≤ 2 * (0 + q) * i.bytes := Nat.mul_le_mul_right _ (nextslicecap_le (by omega))
          rw [hib] at h1 ⊢
          rw [Nat.mul_assoc,Nat.zero_add] at h1
          rw [Nat.zero_add]
          omega
        have hf : (Question.appendCap (0 + q) 0 e).forced = false := rfl
        have hns : ¬ q * ty.size = 0 := Nat.ne_of_gt (Nat.mul_pos hq0 htp)
        have hold : (Builtin.firstCells ty.size 0 (.slice A 0 0)).run C.P { c.w with drawn := c.w.drawn + 1 } = .ok #[] { c.w with drawn := c.w.drawn + 1 } := by
          have := firstCells_row (P := C.P) (w := { c.w with drawn := c.w.drawn + 1 }) (ok := c.ok) (t := ty) (A := A) (l := []) (cap := 0) (fun h0 => by simp at h0) htp
          obtain ⟨cs,h1,h2⟩ := this
          have : cs = #[] := by have := h2.len; simpa using this
          subst this
          exact h1
        have happ : (Builtin.append_ #[t,u] o.type #[a.eval b,a.eval x]).run C.P c.w = .ok (.slice (some ⟨c.w.heap.size,0,none⟩) q nc)
            { c.w with drawn := c.w.drawn + 1,heap := c.w.heap.push (.cells (#[] ++ Builtin.zeroCells z.cells q ++ Builtin.zeroCells z.cells (nc - (0 + q))) e) } := by
          unfold Builtin.append_
          simp only [List.getElem?_toArray,List.getElem?_cons_zero,List.getElem?_cons_succ,Sem.run_bind,run_underlying_some hu1,Result.andThen_ok,hso,run_underlying_some hu2,Sem.run_pure,if_true,hx.1,hev,asInt,asIntOf,hw,hneg,if_false,hti,hbig,Int.toNat_natCast,hle,
            hmax,hcap,run_choose,hf,Question.cut,run_askRoom,hold,Bool.not_true,Bool.false_eq_true,hns,run_zeroValue hi hz0,newRow,run_newObj]
          first | rfl | (simp only [Nat.zero_add]; rfl)
        have hrun := append_exec (P := C.P) hop ha ht happ
        have hsize : (Builtin.zeroCells z.cells q).size = q * ty.size := by simp [Builtin.zeroCells,hzl]
        refine newRow_sound (cs := #[] ++ Builtin.zeroCells z.cells q ++ Builtin.zeroCells z.cells (nc - (0 + q))) (n := nc) (c.w.drawn + 1) hd h rfl hg hn htp ?_ (by simp; exact hnc.1) hnc.2 ?_ (by rw [List.length_replicate]; exact hrun) hr hK
        · simp only [Array.size_append,hsize,Builtin.zeroCells,Array.size_map,Array.size_range,hzl,Array.size_empty,Nat.zero_add]
          rw [← Nat.add_mul]; congr 1; omega
        · rw [List.length_replicate,Array.empty_append,Array.toList_append,List.take_append_of_le_length (by rw [Array.length_toList,hsize]; exact Nat.le_refl _),List.take_of_length_le (by rw [Array.length_toList,hsize]; exact Nat.le_refl _)]
          exact hcells
      · simp at hr
    · simp at hr
  · simp at hr
theorem newNum_spec {st : St} {k kk : Nat} {o : Ob} {st1 : St} (h : newNum st k o = some (kk,st1)) : st.new kk o = some st1 := by
  unfold newNum at h
  split at h
  · rename_i s hs
    simp only [Option.some.injEq,Prod.mk.injEq] at h
    obtain ⟨rfl,rfl⟩ := h
    exact hs
  · split at h
    · rename_i s hs
      simp only [Option.some.injEq,Prod.mk.injEq] at h
      obtain ⟨rfl,rfl⟩ := h
      exact hs
    · simp at h
theorem ownRow_ra (h : Rep m w0 st a c) {k : Nat} {e : TypeId} {t : Ty} {l : List t.den} (ho : st.obj k = some (.row e t l) ∨ ∃ p,st.obj k = some (.mrow e t l p)) :
    ∃ A n,c.σ k = .slice A l.length n ∧ l.length ≤ n ∧ n ≤ 9223372036854775807 ∧ (n = 0 ∨ (A = some ⟨c.ρ k,0,none⟩ ∧ ∃ cs : Array Value,Cells c.w (c.ρ k) (some e) cs ∧ cs.size = n * t.size ∧ DatL c.w c.ra t l (cs.toList.take (l.length * t.size)) ∧ 0 < t.size)) ∧ (n ≠ 0 → Owns c k) := by
  rcases ho with ho | ⟨p,ho⟩
  · have hob : c.ob k = some (.row e t l) := by rw [h.ob]; exact ho
    obtain ⟨A,n,q1,q2,q3,q4⟩ := h.objs k _ hob
    exact ⟨A,n,q1,q2,q3,q4.imp_right fun ⟨r1,cs,r2,r3,r4,r5⟩ => ⟨r1,cs,r2,r3,r4.move (fun _ _ => rfl) (fun _ hb => .inl hb),r5⟩,fun hn => ⟨_,hob,A,_,n,q1,hn⟩⟩
  · have hob : c.ob k = some (.mrow e t l p) := by rw [h.ob]; exact ho
    obtain ⟨A,n,q1,q2,q3,q4⟩ := h.objs k _ hob
    exact ⟨A,n,q1,q2,q3,q4.imp_right fun ⟨r1,cs,r2,r3,r4,r5⟩ => ⟨r1,cs,r2,r3,r4.all fun _ hb => .inl hb,r5⟩,fun hn => ⟨_,hob,A,_,n,q1,hn⟩⟩
theorem app_ownM {C : Ctx} {t u : TypeId} {x y : Operand} {args : Array Operand} {argTypes : Array TypeId} (hop : o.op = .call { callee := .builtin .append,args,argTypes }) (ha : args.toList = [x,y]) (ht : argTypes.toList = [t,u])
    {e : TypeId} {ty : Ty} {x0 : ty.den} (he : elemInfo C.P e = some ⟨ty,x0⟩) (hu1 : C.P.underlying t = some (.slice e)) (hu2 : (∃ e2,C.P.underlying u = some (.slice e2)) ∨ C.P.underlying u = some .string)
    (h : Rep m w0 st a c) (hg : ∀ x,o.dst = some x → NoGd st x) {k : Nat} {o0 : Ob} {l mm : List ty.den} (ho0 : st.obj k = some o0) (ho : st.obj k = some (.row e ty l) ∨ ∃ p,st.obj k = some (.mrow e ty l p)) (hx : RepV c (.own k) (a.eval x))
    {q : PV} (hq : RepV c q (a.eval y)) {e2 : TypeId} (hsrc : st.list q = some ⟨e2,ty,mm⟩) (hQ : q.isQ = false) {d kk : Nat} (hd : o.dst = some d) {st2 : St} (hn : (st.del k).new kk (.mrow e ty (l ++ mm) 0) = some st2)
    (hlim : (l.length + mm.length) * C.P.bytesOf e ≤ LIM) (hr : K (st2.set d (.own kk)) = some r)
    (hK : ∀ st' a' c',K st' = some r → Rep m w0 st' a' c' → next a' c'.w) : o.upon C.P a next Q ((execOp a.eval o).run C.P c.w) := by
  obtain ⟨i,z,lz,hi,hz0,hsz,hisz,hib,hrepz,hof,hts,htp,hbp⟩ := elemInfo_spec he
  have hx' := hx
  simp only [RepV] at hx
  obtain ⟨B,nb,hbv,_,_,hbrow⟩ := h.listR hq hsrc hQ
  obtain ⟨new,hnew,hdnew⟩ := firstCells_row (P := C.P) (cap := nb) hbrow htp
  rw [← hbv] at hnew
  have hlen : ∀ w,(Builtin.lenOf (a.eval y)).run C.P w = .ok mm.length w := fun w => by rw [hbv]; rfl
  obtain ⟨A,n,q1,q2,q3,q4,hown0⟩ := ownRow_ra h ho
  have hdel := h.del ho0
  have hll : (l ++ mm).length = l.length + mm.length := List.length_append
  have hev : a.eval x = .slice A l.length n := by rw [hx.1]; exact q1
  by_cases hfit : l.length + mm.length ≤ n
  · by_cases hn0 : n = 0
    · have hl0 : l = [] := List.length_eq_zero_iff.1 (by omega)
      have hm0 : mm = [] := List.length_eq_zero_iff.1 (by omega)
      have hnew0 : new.toList = [] := by have := hdnew.len; rw [hm0] at this; simpa using this
      have hra := run_append_in (P := C.P) (t := t) (u := u) he hu1 hu2 o.type (A := A) (n := l.length) (cap := n) (v := a.eval y) hlen hnew hfit (w1 := c.w) (by rw [hnew0]; cases A <;> rfl)
      have hrun := append_exec (P := C.P) hop ha ht (by rw [hev]; exact hra)
      rw [hl0,hm0,hn0] at hrun
      exact app_noneM hdel rfl (fun x hx => (hg x hx).of rfl) hd hn (by rw [hl0,hm0]; rfl) hrun hr hK
    · rcases q4 with q4 | ⟨rfl,cs,q5,q6,q7,q8⟩
      · exact absurd q4 hn0
      · have hown : Owns c k := hown0 hn0
        have hmine := h.mine k hown
        have hnl := hdnew.len
        have hmul : l.length * ty.size + mm.length * ty.size ≤ n * ty.size := by rw [← Nat.add_mul]; exact Nat.mul_le_mul_right _ hfit
        obtain ⟨w1,cs1,g1,g2,g3,g4,g5,g6,g7⟩ := own_store (P := C.P) h hown q5 (vals := new.toList) (off := l.length * ty.size) hdnew.one (by omega)
        have hra := run_append_in (P := C.P) (t := t) (u := u) he hu1 hu2 o.type (A := some ⟨c.ρ k,0,none⟩) (n := l.length) (cap := n) (v := a.eval y) hlen hnew hfit (w1 := w1) (by
          simp only [add_eq,Nat.zero_add]; exact g1)
        have hrun := append_exec (P := C.P) hop ha ht (by rw [hev]; exact hra)
        have hne' : ∀ b,c.za b → b ≠ c.ρ k := fun b hb he => h.mineZ hown (he ▸ hb)
        have rep := hdel.newObj hn (w1 := w1) (c.ρ k) (.slice (some ⟨c.ρ k,0,none⟩) (l.length + mm.length) n) g5 (by show c.w.heap.size ≤ _; omega)
          (fun b hb => g7 b (by
            rcases hb with hb | ⟨k',hk',rfl⟩
            · exact hne' b hb
            · obtain ⟨z1,z2⟩ := own_del h ho0 hk'
              exact fun he => z1 (h.apart k' k z2 hown he)))
          ⟨some ⟨c.ρ k,0,none⟩,n,by simp [hll],by rw [hll]; exact hfit,q3,.inr ⟨by simp,cs1,by simpa using g2,by rw [g4]; exact q6,by
            have e1 : cs1.toList.take ((l ++ mm).length * ty.size) = cs.toList.take (l.length * ty.size) ++ new.toList := by
              have hcl : cs.toList.length = n * ty.size := by rw [Array.length_toList]; exact q6
              rw [g3,hll,Nat.add_mul,List.take_append,List.take_of_length_le (by simp only [List.length_append,List.length_take]; omega)]
              have : l.length * ty.size + mm.length * ty.size - (cs.toList.take (l.length * ty.size) ++ new.toList).length = 0 := by simp only [List.length_append,List.length_take]; omega
              rw [this,List.take_zero,List.append_nil]
            rw [e1]
            exact DatM.zero ((q7.append hdnew).move (fun b hb => g7 b (hne' b (.inl hb))) (fun _ hb => hb)),q8⟩⟩
          (fun _ => ⟨h.mineZ hown,hmine.2.1,by rw [g6]; exact hmine.2.2,fun k' hk' he => by
            obtain ⟨z1,z2⟩ := own_del h ho0 hk'
            exact z1 (h.apart k' k z2 hown he)⟩)
        obtain ⟨s1,s2,s3,s4,s5,s6⟩ := new_spec hn
        refine close_value (c1 := _) (p := .own kk) hrun rep (fun x hx => ((hg x hx).of (st1 := st.del k) rfl).of s1) ?_ rfl (by rw [hd]; exact hr) hK
        simp only [RepV]
        simp
  · have hlist : st.list (.own k) = some ⟨e,ty,l⟩ := by rcases ho with ho | ⟨p,ho⟩ <;> simp [St.list,ho]
    exact app_newM hop ha ht he hu1 hu2 h hdel rfl rfl rfl (fun x hx => (hg x hx).of rfl) hd hn (p := .own k) hx' hlist rfl hq hsrc hQ hev (by omega) hlim hr hK
theorem app_fullM {C : Ctx} {t u : TypeId} {x y : Operand} {args : Array Operand} {argTypes : Array TypeId} (hop : o.op = .call { callee := .builtin .append,args,argTypes }) (ha : args.toList = [x,y]) (ht : argTypes.toList = [t,u])
    {e : TypeId} {ty : Ty} {x0 : ty.den} (he : elemInfo C.P e = some ⟨ty,x0⟩) (hu1 : C.P.underlying t = some (.slice e)) (hu2 : (∃ e2,C.P.underlying u = some (.slice e2)) ∨ C.P.underlying u = some .string)
    (h : Rep m w0 st a c) (hg : ∀ x,o.dst = some x → NoGd st x) {l mm : List ty.den} {p : PV} (hp : RepV c p (a.eval x)) {e' : TypeId} (hlist : st.list p = some ⟨e',ty,l⟩) (hpq : p.isQ = false) {A : Option Addr} (hev : a.eval x = .slice A l.length l.length)
    {q : PV} (hq : RepV c q (a.eval y)) {e2 : TypeId} (hsrc : st.list q = some ⟨e2,ty,mm⟩) (hQ : q.isQ = false) {d kk : Nat} (hd : o.dst = some d) {st2 : St} (hn : st.new kk (.mrow e ty (l ++ mm) 0) = some st2) (hemp : (!mm.isEmpty || l.isEmpty) = true)
    (hlim : (l.length + mm.length) * C.P.bytesOf e ≤ LIM) (hr : K (st2.set d (.own kk)) = some r)
    (hK : ∀ st' a' c',K st' = some r → Rep m w0 st' a' c' → next a' c'.w) : o.upon C.P a next Q ((execOp a.eval o).run C.P c.w) := by
  obtain ⟨i,z,lz,hi,hz0,hsz,hisz,hib,hrepz,hof,hts,htp,hbp⟩ := elemInfo_spec he
  by_cases hm0 : mm = []
  · obtain ⟨B,nb,hbv,_,_,hbrow⟩ := h.listR hq hsrc hQ
    obtain ⟨new,hnew,hdnew⟩ := firstCells_row (P := C.P) (cap := nb) hbrow htp
    rw [← hbv] at hnew
    have hlen : ∀ w,(Builtin.lenOf (a.eval y)).run C.P w = .ok mm.length w := fun w => by rw [hbv]; rfl
    have hl0 : l = [] := by rw [hm0] at hemp; simpa using hemp
    have hnew0 : new.toList = [] := by have := hdnew.len; rw [hm0] at this; simpa using this
    have hra := run_append_in (P := C.P) (t := t) (u := u) he hu1 hu2 o.type (A := A) (n := l.length) (cap := l.length) (v := a.eval y) hlen hnew (by rw [hm0]; simp) (w1 := c.w) (by rw [hnew0]; cases A <;> rfl)
    have hrun := append_exec (P := C.P) hop ha ht (by rw [hev]; exact hra)
    rw [hl0,hm0] at hrun
    exact app_noneM h rfl hg hd hn (by rw [hl0,hm0]; rfl) hrun hr hK
  · exact app_newM hop ha ht he hu1 hu2 h h rfl rfl rfl hg hd hn hp hlist hpq hq hsrc hQ hev (by have := List.length_pos_iff.2 hm0; omega) hlim hr hK
theorem act_appendA {C : Ctx} {t u : TypeId} {x y : Operand} {args : Array Operand} {argTypes : Array TypeId} (hop : o.op = .call { callee := .builtin .append,args,argTypes }) (ha : args.toList = [x,y]) (ht : argTypes.toList = [t,u])
    {e : TypeId} (hu1 : C.P.underlying t = some (.slice e)) (hu2 : (∃ e2,C.P.underlying u = some (.slice e2)) ∨ C.P.underlying u = some .string) (h : Rep m w0 st a c) (hg : ∀ x,o.dst = some x → NoGd st x)
    (hr : appendA C.P e (typed C.P t (operand st x)) (typed C.P u (operand st y)) o.dst st K = some r)
    (hK : ∀ st' a' c',K st' = some r → Rep m w0 st' a' c' → next a' c'.w) : o.upon C.P a next Q ((execOp a.eval o).run C.P c.w) := by
  have hx := typed_rep (P := C.P) (operand_rep h x) t
  have hy := typed_rep (P := C.P) (operand_rep h y) u
  unfold appendA at hr
  split at hr
  · rename_i d ty x0 hd he
    generalize typed C.P u (operand st y) = q at hr hy
    cases hQ : q.isQ with
    | true => rw [hQ] at hr; simp at hr
    | false =>
    rw [hQ] at hr
    simp only [cond_false] at hr
    have full : ∀ (p : PV) (e2 : TypeId) (m2 : List ty.den) (e' : TypeId) (l : List ty.den),typed C.P t (operand st x) = p → st.list p = some ⟨e',ty,l⟩ → p.isQ = false → (∃ A,a.eval x = .slice A l.length l.length) → st.list q = some ⟨e2,ty,m2⟩ →
        (bif !m2.isEmpty || l.isEmpty then bif decide ((l.length + m2.length) * C.P.bytesOf e ≤ LIM) then (match newNum st (4096 * d) (.mrow e ty (l ++ m2) 0) with | some (k',st) => K (st.set d (.own k')) | none => none) else none else none) = some r →
        o.upon C.P a next Q ((execOp a.eval o).run C.P c.w) := by
      rintro p e2 m2 e' l hp hlist hpq ⟨A,hev⟩ hsrc hr
      obtain ⟨hemp,hr⟩ := cond_some hr
      obtain ⟨hlim,hr⟩ := cond_some hr
      simp only [decide_eq_true_eq] at hlim
      split at hr
      · rename_i kk st2 hn0
        exact app_fullM hop ha ht he hu1 hu2 h hg (p := p) (hp ▸ hx) hlist hpq hev hy hsrc hQ hd (newNum_spec hn0) hemp hlim hr hK
      · simp at hr
    split at hr
    · rename_i e2 t2 m2 k hsrc hbase
      rw [hbase] at hx
      split at hr
      · rename_i h2
        subst h2
        have own : ∀ (o0 : Ob) (l : List t2.den),st.obj k = some o0 → (st.obj k = some (.row e t2 l) ∨ ∃ p,st.obj k = some (.mrow e t2 l p)) →
            (bif decide ((l.length + m2.length) * C.P.bytesOf e ≤ LIM) then (match newNum (st.del k) (4096 * d) (.mrow e t2 (l ++ m2) 0) with | some (k',st) => K (st.set d (.own k')) | none => none) else none) = some r →
            o.upon C.P a next Q ((execOp a.eval o).run C.P c.w) := by
          intro o0 l ho0 ho hr
          obtain ⟨hlim,hr⟩ := cond_some hr
          simp only [decide_eq_true_eq] at hlim
          split at hr
          · rename_i kk st2 hn0
            exact app_ownM hop ha ht he hu1 hu2 h hg ho0 ho hx hy hsrc hQ hd (newNum_spec hn0) hlim hr hK
          · simp at hr
        split at hr
        · rename_i e' t' l ho
          split at hr
          · rename_i hee
            subst hee
            split at hr
            · rename_i htt
              subst htt
              exact own _ l ho (.inl ho) hr
            · simp at hr
          · simp at hr
        · rename_i e' t' l p ho
          split at hr
          · rename_i hee
            subst hee
            split at hr
            · rename_i htt
              subst htt
              exact own _ l ho (.inr ⟨p,ho⟩) hr
            · simp at hr
          · simp at hr
        · simp at hr
      · simp at hr
    · rename_i e2 t2 m2 e' t' l hsrc hbase
      split at hr
      · rename_i h2
        subst h2
        split at hr
        · rename_i h3
          subst h3
          rw [hbase] at hx
          simp only [RepV] at hx
          obtain ⟨A,q1,_⟩ := hx
          exact full _ e2 m2 e' l hbase rfl rfl ⟨A,q1⟩ hsrc hr
        · simp at hr
      · simp at hr
    · rename_i e2 t2 m2 e' t' l hsrc hbase
      split at hr
      · rename_i h2
        subst h2
        split at hr
        · rename_i h3
          subst h3
          rw [hbase] at hx
          simp only [RepV] at hx
          obtain ⟨A,n,q1,_,_,q4,_⟩ := hx
          exact full _ e2 m2 e' l hbase rfl rfl ⟨A,by rw [q1,q4 trivial]⟩ hsrc hr
        · simp at hr
      · simp at hr
    · simp at hr
  · simp at hr
theorem act_append {C : Ctx} (hC : C.P = P) {args : Array Operand} {argTypes : Array TypeId} (hop : o.op = .call { callee := .builtin .append,args,argTypes }) (h : Rep m w0 st a c) (hg : ∀ x,o.dst = some x → NoGd st x) (hr : actOp C o st K = some r)
    (hK : ∀ st' a' c',K st' = some r → Rep m w0 st' a' c' → next a' c'.w) : o.upon P a next Q ((execOp a.eval o).run P c.w) := by
  subst hC
  simp only [actOp,hop] at hr
  split at hr
  · rename_i x y t u ha ht
    have core : ∀ (e : TypeId) (hu1 : C.P.underlying t = some (.slice e)) (hu2 : (∃ e2,C.P.underlying u = some (.slice e2)) ∨ C.P.underlying u = some .string),
        appendOp C.P e (typed C.P t (operand st x)) (typed C.P u (operand st y)) o.dst st K = some r → o.upon C.P a next Q ((execOp a.eval o).run C.P c.w) := by
      intro e hu1 hu2 hr
      have hx := typed_rep (P := C.P) (operand_rep h x) t
      have hy := typed_rep (P := C.P) (operand_rep h y) u
      unfold appendOp at hr
      split at hr
      · rename_i d ty x0 hd he
        obtain ⟨i,z,lz,hi,hz0,hsz,hisz,hib,hrepz,hof,hts,htp,hbp⟩ := elemInfo_spec he
        split at hr
        · -- a row of the call's own
          rename_i mm k hsrc hbase
          rw [hbase] at hx
          simp only [RepV] at hx
          obtain ⟨hlen,new,hnew,hdnew⟩ := src_rep (P := C.P) h hy hsrc htp
          split at hr
          · rename_i e' t' l ho
            split at hr
            · rename_i hee
              subst hee
              split at hr
              · rename_i htt
                subst htt
                obtain ⟨hlim,hr⟩ := cond_some hr
                simp only [decide_eq_true_eq] at hlim
                split at hr
                · rename_i kk st2 hn0
                  have hn := newNum_spec hn0
                  clear hn0
                  have hob : c.ob k = some (.row e' t' l) := by rw [h.ob]; exact ho
                  obtain ⟨A,n,q1,q2,q3,q4⟩ := h.objs k _ hob
                  have hdel := h.del ho
                  have hmove : ∀ (w1 : World),(∀ b,c.ok b → w1.heap[b]? = c.w.heap[b]?) → DatL w1 c.ok t' mm new.toList := fun w1 hw => hdnew.move hw (fun _ hb => hb)
                  have hll : (l ++ mm).length = l.length + mm.length := List.length_append
                  have hev : a.eval x = .slice A l.length n := by rw [hx.1]; exact q1
                  by_cases hfit : l.length + mm.length ≤ n
                  · by_cases hn0 : n = 0
                    · -- no room at all
                      have hl0 : l = [] := List.length_eq_zero_iff.1 (by omega)
                      have hm0 : mm = [] := List.length_eq_zero_iff.1 (by omega)
                      have hnew0 : new.toList = [] := by have := hdnew.len; rw [hm0] at this; simpa using this
                      have hra := run_append_in (P := C.P) (t := t) (u := u) he hu1 hu2 o.type (A := A) (n := l.length) (cap := n) (v := a.eval y) hlen hnew hfit (w1 := c.w) (by rw [hnew0]; cases A <;> rfl)
                      have hrun := append_exec (P := C.P) hop ha ht (by rw [hev]; exact hra)
                      rw [hl0,hm0,hn0] at hrun
                      exact app_none hdel rfl (fun x hx => (hg x hx).of rfl) hd hn (by rw [hl0,hm0]; rfl) hrun hr hK
                    · -- in place
                      rcases q4 with q4 | ⟨rfl,cs,q5,q6,q7,q8⟩
                      · exact absurd q4 hn0
                      · have hown : Owns c k := ⟨_,hob,_,_,n,q1,hn0⟩
                        have hmine := h.mine k hown
                        have hnl := hdnew.len
                        have hmul : l.length * t'.size + mm.length * t'.size ≤ n * t'.size := by rw [← Nat.add_mul]; exact Nat.mul_le_mul_right _ hfit
                        obtain ⟨w1,cs1,g1,g2,g3,g4,g5,g6,g7⟩ := own_store (P := C.P) h hown q5 (vals := new.toList) (off := l.length * t'.size) hdnew.one (by omega)
                        have hra := run_append_in (P := C.P) (t := t) (u := u) he hu1 hu2 o.type (A := some ⟨c.ρ k,0,none⟩) (n := l.length) (cap := n) (v := a.eval y) hlen hnew hfit (w1 := w1) (by
                          simp only [add_eq,Nat.zero_add]; exact g1)
                        have hrun := append_exec (P := C.P) hop ha ht (by rw [hev]; exact hra)
                        have hne' : ∀ b,c.za b → b ≠ c.ρ k := fun b hb he => h.mineZ hown (he ▸ hb)
                        have rep := hdel.newObj hn (w1 := w1) (c.ρ k) (.slice (some ⟨c.ρ k,0,none⟩) (l.length + mm.length) n) g5 (by show c.w.heap.size ≤ _; omega)
                          (fun b hb => g7 b (by
                            rcases hb with hb | ⟨k',hk',rfl⟩
                            · exact hne' b hb
                            · obtain ⟨z1,z2⟩ := own_del h ho hk'
                              exact fun he => z1 (h.apart k' k z2 hown he)))
                          ⟨some ⟨c.ρ k,0,none⟩,n,by simp [hll],by rw [hll]; exact hfit,q3,.inr ⟨by simp,cs1,by simpa using g2,by rw [g4]; exact q6,by
                            have e1 : cs1.toList.take ((l ++ mm).length * t'.size) = cs.toList.take (l.length * t'.size) ++ new.toList := by
                              have hcl : cs.toList.length = n * t'.size := by rw [Array.length_toList]; exact q6
                              rw [g3,hll,Nat.add_mul,List.take_append,List.take_of_length_le (by simp only [List.length_append,List.length_take]; omega)]
                              have : l.length * t'.size + mm.length * t'.size - (cs.toList.take (l.length * t'.size) ++ new.toList).length = 0 := by simp only [List.length_append,List.length_take]; omega
                              rw [this,List.take_zero,List.append_nil]
                            rw [e1]
                            exact (q7.append hdnew).move (fun b hb => g7 b (hne' b (.inl (.inl hb)))) (fun _ hb => hb),q8⟩⟩
                          (fun _ => ⟨h.mineZ hown,hmine.2.1,by rw [g6]; exact hmine.2.2,fun k' hk' he => by
                            obtain ⟨z1,z2⟩ := own_del h ho hk'
                            exact z1 (h.apart k' k z2 hown he)⟩)
                        obtain ⟨s1,s2,s3,s4,s5,s6⟩ := new_spec hn
                        refine close_value (c1 := _) (p := .own kk) hrun rep (fun x hx => ((hg x hx).of (st1 := st.del k) rfl).of s1) ?_ rfl (by rw [hd]; exact hr) hK
                        simp only [RepV]
                        simp
                  · have hlist : st.list (.own k) = some ⟨e',t',l⟩ := by simp [St.list,ho]
                    have hn' : (st.del k).new kk (.row e' t' (l ++ mm)) = some st2 := hn
                    exact app_new hop ha ht he hu1 hu2 h hdel rfl rfl (fun x hx => (hg x hx).of rfl) hd hn' (p := .own k) (by simp only [RepV]; exact hx) hlist (by simp [St.isA,ho]) hy hsrc hev (by omega) hlim hr hK
                · simp at hr
              · simp at hr
            · simp at hr
          · simp at hr
        · -- what has no room behind it
          rename_i mm e' t' l hsrc hbase
          rw [hbase] at hx
          have hx0 := hx
          simp only [RepV] at hx
          obtain ⟨A,q1,q3,q4⟩ := hx
          obtain ⟨hlen,new,hnew,hdnew⟩ := src_rep (P := C.P) h hy hsrc htp
          split at hr
          · rename_i htt
            subst htt
            obtain ⟨hemp,hr⟩ := cond_some hr
            obtain ⟨hlim,hr⟩ := cond_some hr
            simp only [decide_eq_true_eq] at hlim
            split at hr
            · rename_i kk st2 hn0
              have hn := newNum_spec hn0
              clear hn0
              by_cases hm0 : mm = []
              · have hl0 : l = [] := by rw [hm0] at hemp; simpa using hemp
                have hnew0 : new.toList = [] := by have := hdnew.len; rw [hm0] at this; simpa using this
                have hra := run_append_in (P := C.P) (t := t) (u := u) he hu1 hu2 o.type (A := A) (n := l.length) (cap := l.length) (v := a.eval y) hlen hnew (by rw [hm0]; simp) (w1 := c.w) (by rw [hnew0]; cases A <;> rfl)
                have hrun := append_exec (P := C.P) hop ha ht (by rw [q1]; exact hra)
                rw [hl0,hm0] at hrun
                exact app_none h rfl hg hd hn (by rw [hl0,hm0]; rfl) hrun hr hK
              · have hlist : st.list (.full e' t' l) = some ⟨e',t',l⟩ := rfl
                have hn' : st.new kk (.row e t' (l ++ mm)) = some st2 := hn
                exact app_new hop ha ht he hu1 hu2 h h rfl rfl hg hd hn' hx0 hlist rfl hy hsrc q1 (by have := List.length_pos_iff.2 hm0; omega) hlim hr hK
            · simp at hr
          · simp at hr
        · simp at hr
      · simp at hr
    have any : ∀ (e : TypeId) (hu1 : C.P.underlying t = some (.slice e)) (hu2 : (∃ e2,C.P.underlying u = some (.slice e2)) ∨ C.P.underlying u = some .string),
        appendAny C.P e (typed C.P t (operand st x)) (typed C.P u (operand st y)) o.dst st K = some r → o.upon C.P a next Q ((execOp a.eval o).run C.P c.w) := by
      intro e hu1 hu2 hr
      unfold appendAny at hr
      split at hr
      · rename_i ty x0 he
        cases hA : (st.isA (typed C.P t (operand st x)) || (st.isA (typed C.P u (operand st y)) && !ty.flat)) with
        | true =>
          rw [hA] at hr
          exact act_appendA hop ha ht hu1 hu2 h hg hr hK
        | false =>
          rw [hA] at hr
          exact core e hu1 hu2 hr
      · simp at hr
    split at hr
    · rename_i e e2 h1 h2
      exact any e h1 (.inl ⟨_,h2⟩) hr
    · rename_i e h1 h2
      exact any e h1 (.inr h2) hr
    · rename_i e kk h1 h2
      exact appendZ_sound hop ha ht h1 h2 h hg hr hK
    · simp at hr
  · simp at hr
end
end Go.Fw
