/- Rows as lists: what is read,what is frozen. -/
import Derived.Test.YtgdfhijgjjcnjaaGreatDoorFwRep
set_option linter.unusedVariables false
set_option linter.unusedSimpArgs false
namespace Go.Fw
open Go.RowKit (Below)

theorem Cells.cell {w : World} {b : Nat} {el : Option TypeId} {cs : Array Value} (h : Cells w b el cs) (i : Nat) {u : Value} (hi : cs[i]? = some u) : w.cell? ⟨b,i,none⟩ = some u := by
  obtain ⟨e,h1,_⟩ := h
  simp [World.cell?,h1,hi]
theorem DatL.len {w : World} {ok : Nat → Prop} {t : Ty} : ∀ {l : List t.den} {cs : List Value},DatL w ok t l cs → cs.length = l.length * t.size
  | [],_,h => by rw [show _ = _ from h]; simp
  | _ :: _,_,⟨c,cs',h,h1,h2⟩ => by rw [h,List.length_append,h1.len,h2.len,List.length_cons,Nat.add_mul,Nat.one_mul,Nat.add_comm]
theorem DatL.get {w : World} {ok : Nat → Prop} {t : Ty} : ∀ {l : List t.den} {cs : List Value} (j : Nat) {x : t.den},DatL w ok t l cs → l[j]? = some x →
    ∃ c,Dat w ok t x c ∧ c = (cs.drop (j * t.size)).take t.size ∧ ∀ (i : Nat) (u : Value),c[i]? = some u → cs[j * t.size + i]? = some u
  | [],_,_,_,_,h => by simp at h
  | _ :: _,_,0,_,⟨c,cs',h,h1,h2⟩,hx => by
    simp at hx; subst hx
    refine ⟨c,h1,by rw [h,← h1.len]; simp,fun i u hu => ?_⟩
    rw [h,Nat.zero_mul,Nat.zero_add,List.getElem?_append_left (List.getElem?_eq_some_iff.1 hu).1]
    exact hu
  | _ :: _,_,j + 1,_,⟨c,cs',h,h1,h2⟩,hx => by
    obtain ⟨d,hd,he,hc⟩ := DatL.get j h2 (by simpa using hx)
    have hl := h1.len
    refine ⟨d,hd,?_,fun i u hu => ?_⟩
    · rw [he,h,Nat.add_mul,Nat.one_mul,List.drop_append,List.drop_eq_nil_of_le (as := c) (by omega),List.nil_append,show j * t.size + t.size - c.length = j * t.size by omega]
    · rw [h,Nat.add_mul,Nat.one_mul,List.getElem?_append_right (by omega)]
      have := hc i u hu
      rw [show j * t.size + t.size + i - c.length = j * t.size + i by omega]
      exact this

theorem DatL.append {w : World} {ok : Nat → Prop} {t : Ty} : ∀ {l l' : List t.den} {cs cs' : List Value},DatL w ok t l cs → DatL w ok t l' cs' → DatL w ok t (l ++ l') (cs ++ cs')
  | [],_,_,_,h,h' => by rw [show _ = _ from h]; exact h'
  | _ :: _,_,_,_,⟨c,d,h,h1,h2⟩,h' => by
    rw [h,List.append_assoc]
    exact ⟨c,_,rfl,h1,h2.append h'⟩
theorem DatL.take {w : World} {ok : Nat → Prop} {t : Ty} : ∀ {l : List t.den} {cs : List Value} (n : Nat),DatL w ok t l cs → DatL w ok t (l.take n) (cs.take (n * t.size))
  | _,_,0,_ => by simp [DatL]
  | [],_,n + 1,h => by rw [show _ = _ from h]; simp [DatL]
  | _ :: _,_,n + 1,⟨c,d,h,h1,h2⟩ => by
    have hl := h1.len
    rw [h,Nat.add_mul,Nat.one_mul,List.take_append,List.take_of_length_le (l := c) (by omega),show n * t.size + t.size - c.length = n * t.size by omega]
    exact ⟨c,_,rfl,h1,DatL.take n h2⟩
theorem DatL.drop {w : World} {ok : Nat → Prop} {t : Ty} : ∀ {l : List t.den} {cs : List Value} (n : Nat),DatL w ok t l cs → DatL w ok t (l.drop n) (cs.drop (n * t.size))
  | _,_,0,h => by simpa using h
  | [],_,n + 1,h => by rw [show _ = _ from h]; simp [DatL]
  | _ :: _,_,n + 1,⟨c,d,h,h1,h2⟩ => by
    have hl := h1.len
    rw [h,Nat.add_mul,Nat.one_mul,List.drop_append,List.drop_of_length_le (l := c) (by omega),show n * t.size + t.size - c.length = n * t.size by omega]
    exact DatL.drop n h2
theorem DatL.set {w : World} {ok : Nat → Prop} {t : Ty} : ∀ {l : List t.den} {cs : List Value} (j : Nat) {x : t.den} {c : List Value},DatL w ok t l cs → j < l.length → Dat w ok t x c →
    DatL w ok t (l.set j x) (cs.take (j * t.size) ++ c ++ cs.drop (j * t.size + t.size))
  | [],_,_,_,_,_,h,_ => by simp at h
  | _ :: _,_,0,x,c,⟨d,d',h,h1,h2⟩,_,hx => by
    have hl := h1.len
    rw [h,Nat.zero_mul,List.take_zero,List.nil_append,Nat.zero_add,List.drop_append,List.drop_eq_nil_of_le (as := d) (by omega),List.nil_append,show t.size - d.length = 0 by omega,List.drop_zero]
    exact ⟨c,d',rfl,hx,h2⟩
  | _ :: _,_,j + 1,x,c,⟨d,d',h,h1,h2⟩,hj,hx => by
    have hl := h1.len
    have := DatL.set j h2 (by simpa using hj) hx
    rw [h,Nat.add_mul,Nat.one_mul,List.take_append,List.take_of_length_le (l := d) (by omega),List.drop_append,List.drop_eq_nil_of_le (as := d) (by omega),List.nil_append,
      show j * t.size + t.size - d.length = j * t.size by omega,show j * t.size + t.size + t.size - d.length = j * t.size + t.size by omega]
    exact ⟨d,d'.take (j * t.size) ++ c ++ d'.drop (j * t.size + t.size),by simp,h1,this⟩
theorem DatL.one {w : World} {ok : Nat → Prop} {t : Ty} : ∀ {l : List t.den} {cs : List Value},DatL w ok t l cs → ∀ u ∈ cs,u.oneCell' = true
  | [],_,h => by rw [show _ = _ from h]; simp
  | _ :: _,_,⟨c,d,h,h1,h2⟩ => by
    rw [h]; intro u hu
    rcases List.mem_append.1 hu with hu | hu
    · exact h1.one u hu
    · exact h2.one u hu

def RowR (w : World) (ok : Nat → Prop) (t : Ty) (A : Option Addr) (l : List t.den) : Prop :=
  0 < l.length → ∃ b off,A = some ⟨b,off,none⟩ ∧ b < w.heap.size ∧ ∀ (j : Nat) (x : t.den),l[j]? = some x →
    ∃ c,Dat w ok t x c ∧ ∀ (i : Nat) (u : Value),c[i]? = some u → w.cell? ⟨b,off + j * t.size + i,none⟩ = some u

theorem row_reads {w : World} {ok : Nat → Prop} {t : Ty} {l : List t.den} {b : Nat} {el : Option TypeId} {cs : Array Value} (hc : Cells w b el cs) {k : Nat} (hd : DatL w ok t l (cs.toList.take k)) :
    ∀ (j : Nat) (x : t.den),l[j]? = some x → ∃ c,Dat w ok t x c ∧ ∀ (i : Nat) (u : Value),c[i]? = some u → w.cell? ⟨b,0 + j * t.size + i,none⟩ = some u := by
  intro j x hx
  obtain ⟨c,h1,_,h3⟩ := hd.get j hx
  refine ⟨c,h1,fun i u hu => ?_⟩
  have := h3 i u hu
  rw [Nat.zero_add]
  refine hc.cell _ ?_
  rw [← Array.getElem?_toList]
  rw [List.getElem?_take] at this
  split at this
  · exact this
  · simp at this
theorem Cells.lt {w : World} {b : Nat} {el : Option TypeId} {cs : Array Value} (h : Cells w b el cs) : b < w.heap.size := by
  obtain ⟨e,h1,_⟩ := h
  exact (Array.getElem?_eq_some_iff.1 h1).1

section
variable {m : MM} {w0 : World} {st : St} {a : Act} {c : Cx}
theorem Rep.list (h : Rep m w0 st a c) {p : PV} {v : Value} (hp : RepV c p v) {e : TypeId} {t : Ty} {l : List t.den} (hl : st.list p = some ⟨e,t,l⟩) (hA : st.isA p = false) :
    ∃ A n,v = .slice A l.length n ∧ l.length ≤ n ∧ n ≤ 9223372036854775807 ∧ RowR c.w c.ok t A l := by
  cases p <;> simp only [St.list] at hl <;> try (simp at hl; done)
  case asl => simp [St.isA] at hA
  case qsl => simp [St.isA] at hA
  case sl e' t' l' =>
    cases hl
    simp only [RepV] at hp
    obtain ⟨A,n,h1,h2,h3,h4⟩ := hp
    refine ⟨A,n,h1,h2,h3,fun h0 => ?_⟩
    obtain ⟨b,off,hA,hb,hc⟩ := h4 h0
    exact ⟨b,off,hA,h.ok b hb,hc⟩
  case full e' t' l' =>
    cases hl
    simp only [RepV] at hp
    obtain ⟨A,h1,h3,h4⟩ := hp
    refine ⟨A,_,h1,Nat.le_refl _,h3,fun h0 => ?_⟩
    obtain ⟨b,off,hA,hb,hc⟩ := h4 h0
    exact ⟨b,off,hA,h.ok b hb,hc⟩
  case own k =>
    simp only [RepV] at hp
    cases ho : st.obj k with
    | none => rw [ho] at hl; simp at hl
    | some o =>
      rw [ho] at hl
      have hob : c.ob k = some o := by rw [h.ob]; exact ho
      have hO := h.objs k o hob
      cases o <;> try (simp at hl; done)
      case row e' t' l' =>
        cases hl
        obtain ⟨A,n,h1,h2,h3,h4⟩ := hO
        refine ⟨A,n,by rw [hp.1]; exact h1,h2,h3,fun h0 => ?_⟩
        rcases h4 with h4 | ⟨h4,cs,h5,h6,h7,h8⟩
        · omega
        · exact ⟨c.ρ k,0,h4,h5.lt,row_reads h5 h7⟩
      case frow e' t' l' =>
        cases hl
        obtain ⟨A,n,h1,h2,h3,h4⟩ := hO
        refine ⟨A,n,by rw [hp.1]; exact h1,h2,h3,fun h0 => ?_⟩
        obtain ⟨b,off,hA,hb,hc⟩ := h4 h0
        exact ⟨b,off,hA,h.ok b hb,hc⟩
      case mrow e' t' l' p' => simp [St.isA,ho] at hA

theorem RowR.move {w : World} {ok ok1 : Nat → Prop} (ho : ∀ b,ok b → ok1 b) {t : Ty} {A : Option Addr} {l : List t.den} (h : RowR w ok t A l) : RowR w ok1 t A l := fun h0 => by
  obtain ⟨b,off,hA,hb,hc⟩ := h h0
  refine ⟨b,off,hA,hb,fun j x hx => ?_⟩
  obtain ⟨cs,hd,hcell⟩ := hc j x hx
  exact ⟨cs,hd.move (fun _ _ => rfl) ho,hcell⟩
theorem Rep.listR (h : Rep m w0 st a c) {p : PV} {v : Value} (hp : RepV c p v) {e : TypeId} {t : Ty} {l : List t.den} (hl : st.list p = some ⟨e,t,l⟩) (hQ : p.isQ = false) :
    ∃ A n,v = .slice A l.length n ∧ l.length ≤ n ∧ n ≤ 9223372036854775807 ∧ RowR c.w c.ra t A l := by
  cases hA : st.isA p with
  | false =>
    obtain ⟨A,n,h1,h2,h3,h4⟩ := h.list hp hl hA
    exact ⟨A,n,h1,h2,h3,h4.move (fun _ hb => .inl hb)⟩
  | true =>
    cases p <;> simp only [St.isA] at hA <;> try (simp at hA; done)
    case qsl => simp [PV.isQ] at hQ
    case asl f e' t' l' =>
      simp only [St.list] at hl
      cases hl
      simp only [RepV] at hp
      obtain ⟨A,n,h1,h2,h3,_,h4⟩ := hp
      refine ⟨A,n,h1,h2,h3,fun h0 => ?_⟩
      obtain ⟨b,off,hA,hb,hc⟩ := h4 h0
      exact ⟨b,off,hA,h.zlt (.inl hb),hc⟩
    case own k =>
      simp only [RepV] at hp
      split at hA
      · rename_i e' t' l' n' ho
        simp only [St.list,ho] at hl
        cases hl
        obtain ⟨A,n,h1,h2,h3,h4⟩ := h.objs k _ (by rw [h.ob]; exact ho)
        refine ⟨A,n,by rw [hp.1]; exact h1,h2,h3,fun h0 => ?_⟩
        rcases h4 with h4 | ⟨h4,cs,h5,h6,h7,h8⟩
        · omega
        · exact ⟨c.ρ k,0,h4,h5.lt,row_reads h5 (h7.all fun _ hb => .inl hb)⟩
      · simp at hA
theorem Rep.listZ (h : Rep m w0 st a c) {p : PV} {v : Value} (hp : RepV c p v) {e : TypeId} {t : Ty} {l : List t.den} (hl : st.list p = some ⟨e,t,l⟩) :
    ∃ A n,v = .slice A l.length n ∧ l.length ≤ n ∧ n ≤ 9223372036854775807 ∧ RowR c.w c.za t A l := by
  cases hQ : p.isQ with
  | false =>
    obtain ⟨A,n,h1,h2,h3,h4⟩ := h.listR hp hl hQ
    exact ⟨A,n,h1,h2,h3,h4.move (fun _ hb => .inl hb)⟩
  | true =>
    cases p <;> simp only [PV.isQ] at hQ <;> try (simp at hQ; done)
    rename_i e' t' l'
    simp only [St.list] at hl
    cases hlv : st.live with
    | false => rw [hlv] at hl; simp at hl
    | true =>
      rw [hlv] at hl
      simp only [cond_true] at hl
      cases hl
      simp only [RepV] at hp
      obtain ⟨A,n,h1,h2,h3,_,h4⟩ := hp
      have hlo : c.ob QK = some .live := by
        rw [h.ob]
        unfold St.live at hlv
        split at hlv
        · assumption
        · simp at hlv
      refine ⟨A,n,h1,h2,h3,fun h0 => ?_⟩
      obtain ⟨b,off,hA,hb,hc⟩ := h4 hlo h0
      refine ⟨b,off,hA,(h.q b hb).2.1,fun j x hx => ?_⟩
      obtain ⟨cs,hd,hcell⟩ := hc j x hx
      exact ⟨cs,hd.move (fun _ _ => rfl) (fun b hb => .inr hb),hcell⟩
theorem Rep.freeze (h : Rep m w0 st a c) (k : Nat) : ∃ c1 : Cx,c1.w = c.w ∧ c1.ρ = c.ρ ∧ c1.σ = c.σ ∧ (∀ b,c.ok b → c1.ok b) ∧ Rep m w0 (st.freeze k) a c1 ∧ Mv (fun _ => True) c c1 ∧ (∀ e t l n,st.obj k = some (.mrow e t l n) → Owns c k → c1.ok (c.ρ k)) := by
  unfold St.freeze
  cases ho : st.obj k with
  | none => exact ⟨c,rfl,rfl,rfl,fun _ h => h,h,Mv.rfl_,fun _ _ _ _ h => by simp at h⟩
  | some o =>
    cases o <;> try exact ⟨c,rfl,rfl,rfl,fun _ h => h,h,Mv.rfl_,fun _ _ _ _ h => by simp at h⟩
    case row e t l =>
      have hob : c.ob k = some (.row e t l) := by rw [h.ob]; exact ho
      have hO := h.objs k _ hob
      obtain ⟨A,n,h1,h2,h3,h4⟩ := hO
      let ok1 : Nat → Prop := fun b => c.ok b ∨ (Owns c k ∧ b = c.ρ k)
      refine ⟨{ w := c.w,ok := ok1,ρ := c.ρ,σ := c.σ,pin := c.pin,a := c.a,q := c.q,ob := (st.setO k (.frow e t l)).obj },rfl,rfl,rfl,fun b hb => .inl hb,?_,h.setMv ho ok1 (fun _ _ => rfl) (fun b hb => .inl hb) (by simp [RowAt]) (by simp),fun _ _ _ _ h => by simp at h⟩
      refine h.setObj (o := .row e t l) ho ok1 h.kept (Nat.le_refl _) (fun _ _ => rfl) (fun b hb => .inl hb) (fun b hb => ?_) (by simp [RowAt]) ?_ (fun hw => by simp [OwnsO] at hw) (hum := fun b hb => hb.imp_right fun ⟨h1,h2⟩ => h2 ▸ h.ownUnm h1)
      · rcases hb with hb | ⟨hb,rfl⟩
        · exact ⟨h.ok b hb,fun k' _ hk' he => (h.mine k' hk').1 (he ▸ hb)⟩
        · exact ⟨(h.mine k hb).2.2,fun k' hne hk' he => hne (h.apart k' k hk' hb he)⟩
      · refine ⟨A,n,h1,h2,h3,fun h0 => ?_⟩
        rcases h4 with h4 | ⟨h4,cs,h5,h6,h7,h8⟩
        · omega
        · refine ⟨c.ρ k,0,h4,.inr ⟨⟨_,hob,A,_,n,h1,by omega⟩,rfl⟩,?_⟩
          exact row_reads h5 (h7.move (w1 := c.w) (ok1 := ok1) (fun _ _ => rfl) (fun b hb => .inl hb))
    case mrow e t l p =>
      let ok1 : Nat → Prop := fun b => c.ok b ∨ (Owns c k ∧ b = c.ρ k)
      refine ⟨{ w := c.w,ok := ok1,ρ := c.ρ,σ := c.σ,pin := c.pin,a := c.a,q := c.q,ob := (st.setO k .gone).obj },rfl,rfl,rfl,fun b hb => .inl hb,?_,h.setMv ho ok1 (fun _ _ => rfl) (fun b hb => .inl hb) (by simp [RowAt]) (by simp),fun _ _ _ _ _ hw => .inr ⟨hw,rfl⟩⟩
      refine h.setObj (o := .mrow e t l p) ho ok1 h.kept (Nat.le_refl _) (fun _ _ => rfl) (fun b hb => .inl hb) (fun b hb => ?_) (by simp [RowAt]) trivial (fun hw => by simp [OwnsO] at hw) (hum := fun b hb => hb.imp_right fun ⟨h1,h2⟩ => h2 ▸ h.ownUnm h1)
      rcases hb with hb | ⟨hb,rfl⟩
      · exact ⟨h.ok b hb,fun k' _ hk' he => (h.mine k' hk').1 (he ▸ hb)⟩
      · exact ⟨(h.mine k hb).2.2,fun k' hne hk' he => hne (h.apart k' k hk' hb he)⟩
end
end Go.Fw
