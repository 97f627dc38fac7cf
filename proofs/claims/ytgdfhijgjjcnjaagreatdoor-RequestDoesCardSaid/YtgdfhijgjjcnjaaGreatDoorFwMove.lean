/- How what is told moves from world to world. -/
import Derived.Test.YtgdfhijgjjcnjaaGreatDoorFwRel
set_option linter.unusedVariables false
set_option linter.unusedSimpArgs false
namespace Go.Fw
open Go.RowKit (Below)

theorem RowAt.row {e : TypeId} {t t2 : Ty} {l : List t.den} {l2 : List t2.den} (h : RowAt (some (.row e t l)) t2 l2) : t2 = t ∧ l2.length = l.length := by
  rcases h with ⟨_,h⟩ | ⟨_,_,h⟩ | ⟨_,_,h⟩ <;> cases h
  exact ⟨rfl,rfl⟩
theorem RowAt.arr {e : TypeId} {n : Nat} {t t2 : Ty} {l : List t.den} {l2 : List t2.den} (h : RowAt (some (.arr e t n l)) t2 l2) : t2 = t ∧ l2.length = l.length := by
  rcases h with ⟨_,h⟩ | ⟨_,_,h⟩ | ⟨_,_,h⟩ <;> cases h
  exact ⟨rfl,rfl⟩
theorem RowAt.mrow {e : TypeId} {n : Nat} {t t2 : Ty} {l : List t.den} {l2 : List t2.den} (h : RowAt (some (.mrow e t l n)) t2 l2) : t2 = t ∧ l2.length = l.length := by
  rcases h with ⟨_,h⟩ | ⟨_,_,h⟩ | ⟨_,_,h⟩ <;> cases h
  exact ⟨rfl,rfl⟩
structure Mv (S : Nat → Prop) (c c1 : Cx) : Prop where
  heap : ∀ b,c.ra b → c1.w.heap[b]? = c.w.heap[b]?
  ok : ∀ b,c.ok b → c1.ok b
  ρ : ∀ k,S k → c1.ρ k = c.ρ k
  σ : ∀ k,S k → c1.σ k = c.σ k
  ob : ∀ k t l,S k → RowAt (c1.ob k) t l → ∃ l',RowAt (c.ob k) t l' ∧ l'.length = l.length
  a : ∀ b,c.a b → c1.a b
  q : ∀ b,c.q b → c1.q b ∧ Soft c.w c1.w b
  live : c1.ob QK = some .live → c.ob QK = some .live ∧ ∀ b,c.q b → c1.w.heap[b]? = c.w.heap[b]?
theorem Soft.of_eq {w w1 : World} {b : Nat} (h : w1.heap[b]? = w.heap[b]?) : Soft w w1 b := fun off u hu => ⟨u,by rw [cell_of h]; exact hu,.inl rfl⟩
theorem Like.trans {u v x : Value} (h : Like u v) (k : Like v x) : Like u x := by
  rcases h with rfl | ⟨k1,n,m,rfl,rfl,hm⟩
  · exact k
  · rcases k with rfl | ⟨k2,n2,m2,e,rfl,hm2⟩
    · exact .inr ⟨k1,n,m,rfl,rfl,hm⟩
    · cases e; exact .inr ⟨k1,n,m2,rfl,rfl,hm2⟩
theorem Soft.trans {w w1 w2 : World} {b : Nat} (h : Soft w w1 b) (k : Soft w1 w2 b) : Soft w w2 b := fun off u hu => by
  obtain ⟨v,h1,h2⟩ := h off u hu
  obtain ⟨x,h3,h4⟩ := k off v h1
  exact ⟨x,h3,h2.trans h4⟩
theorem Mv.of {S : Nat → Prop} {c c1 : Cx} (heap : ∀ b,c.za b → c1.w.heap[b]? = c.w.heap[b]?) (ok : ∀ b,c.ok b → c1.ok b) (ρ : ∀ k,S k → c1.ρ k = c.ρ k) (σ : ∀ k,S k → c1.σ k = c.σ k)
    (ob : ∀ k t l,S k → RowAt (c1.ob k) t l → ∃ l',RowAt (c.ob k) t l' ∧ l'.length = l.length) (a : ∀ b,c.a b → c1.a b) (q : ∀ b,c.q b → c1.q b) (live : c1.ob QK = some .live → c.ob QK = some .live) : Mv S c c1 :=
  ⟨fun b hb => heap b (.inl hb),ok,ρ,σ,ob,a,fun b hb => ⟨q b hb,Soft.of_eq (heap b (.inr hb))⟩,fun h => ⟨live h,fun b hb => heap b (.inr hb)⟩⟩
theorem Mv.rfl_ {S : Nat → Prop} {c : Cx} : Mv S c c := .of (fun _ _ => rfl) (fun _ h => h) (fun _ _ => rfl) (fun _ _ => rfl) (fun _ _ l _ hl => ⟨l,hl,rfl⟩) (fun _ h => h) (fun _ h => h) (fun h => h)
theorem Mv.sub {S S' : Nat → Prop} {c c1 : Cx} (h : Mv S c c1) (hs : ∀ k,S' k → S k) : Mv S' c c1 :=
  ⟨h.heap,h.ok,fun k hk => h.ρ k (hs k hk),fun k hk => h.σ k (hs k hk),fun k t l hk => h.ob k t l (hs k hk),h.a,h.q,h.live⟩
theorem Mv.trans' {S S' : Nat → Prop} {c c1 c2 : Cx} (h : Mv S c c1) (k : Mv S' c1 c2) (hs : ∀ i,S i → S' i) : Mv S c c2 :=
  ⟨fun b hb => (k.heap b (hb.imp (h.ok b) (h.a b))).trans (h.heap b hb),fun b hb => k.ok b (h.ok b hb),fun i hi => (k.ρ i (hs i hi)).trans (h.ρ i hi),fun i hi => (k.σ i (hs i hi)).trans (h.σ i hi),fun i t l hi hl => by
    obtain ⟨l',h1,h2⟩ := k.ob i t l (hs i hi) hl
    obtain ⟨l2,h3,h4⟩ := h.ob i _ _ hi h1
    exact ⟨l2,h3,by omega⟩,fun b hb => k.a b (h.a b hb),fun b hb => ⟨(k.q b (h.q b hb).1).1,(h.q b hb).2.trans (k.q b (h.q b hb).1).2⟩,fun hl => by
    obtain ⟨h1,h2⟩ := k.live hl
    obtain ⟨h3,h4⟩ := h.live h1
    exact ⟨h3,fun b hb => (h2 b (h.q b hb).1).trans (h4 b hb)⟩⟩
theorem Mv.heap' {S : Nat → Prop} {c c1 : Cx} (h : Mv S c c1) : ∀ b,c.ok b → c1.w.heap[b]? = c.w.heap[b]? := fun b hb => h.heap b (.inl hb)
theorem Mv.ra {S : Nat → Prop} {c c1 : Cx} (h : Mv S c c1) : ∀ b,c.ra b → c1.ra b := fun b hb => hb.imp (h.ok b) (h.a b)
def LikeL (c d : List Value) : Prop := d.length = c.length ∧ ∀ (i : Nat) (u v : Value),c[i]? = some u → d[i]? = some v → Like u v
theorem LikeL.refl (c : List Value) : LikeL c c := ⟨rfl,fun i u v h1 h2 => by rw [h1] at h2; cases h2; exact .inl rfl⟩
theorem likeL_make : ∀ (c : List Value) (f : Nat → Option Value),(∀ (i : Nat) (u : Value),c[i]? = some u → ∃ v,f i = some v ∧ Like u v) → ∃ d,LikeL c d ∧ ∀ (i : Nat) (u : Value),d[i]? = some u → f i = some u
  | [],f,_ => ⟨[],LikeL.refl _,by simp⟩
  | u :: r,f,h => by
    obtain ⟨v,h1,h2⟩ := h 0 u rfl
    obtain ⟨d,⟨d1,d2⟩,d3⟩ := likeL_make r (fun i => f (i + 1)) (fun i u hu => h (i + 1) u (by simpa using hu))
    refine ⟨v :: d,⟨by simp [d1],fun i x y hx hy => ?_⟩,fun i x hx => ?_⟩
    · cases i with
      | zero => simp at hx hy; subst hx; subst hy; exact h2
      | succ i => exact d2 i x y (by simpa using hx) (by simpa using hy)
    · cases i with
      | zero => simp at hx; subst hx; exact h1
      | succ i => exact d3 i x (by simpa using hx)
theorem LikeL.one {u : Value} {d : List Value} (h : LikeL [u] d) : ∃ v,d = [v] ∧ Like u v := by
  obtain ⟨h1,h2⟩ := h
  match d,h1 with
  | [v],_ => exact ⟨v,rfl,h2 0 u v rfl rfl⟩
theorem LikeL.split {c1 c2 d : List Value} (h : LikeL (c1 ++ c2) d) : ∃ d1 d2,d = d1 ++ d2 ∧ LikeL c1 d1 ∧ LikeL c2 d2 := by
  obtain ⟨h1,h2⟩ := h
  rw [List.length_append] at h1
  refine ⟨d.take c1.length,d.drop c1.length,(List.take_append_drop _ _).symm,⟨by rw [List.length_take]; omega,fun i u v hu hv => ?_⟩,⟨by rw [List.length_drop]; omega,fun i u v hu hv => ?_⟩⟩
  · have hi : i < c1.length := (List.getElem?_eq_some_iff.1 hu).1
    rw [List.getElem?_take,if_pos hi] at hv
    exact h2 i u v (by rw [List.getElem?_append_left hi]; exact hu) hv
  · rw [List.getElem?_drop] at hv
    exact h2 (c1.length + i) u v (by rw [List.getElem?_append_right (by omega)]; simpa using hu) hv
theorem Shp.soft {w w1 : World} {q q1 : Nat → Prop} (hq : ∀ b,q b → q1 b ∧ Soft w w1 b) : ∀ {t : Ty} {x : t.den} {cs ds : List Value},Shp w q t x cs → LikeL cs ds → Shp w1 q1 t x ds
  | .int k,_,_,_,⟨n,rfl,h⟩,hl => by
    obtain ⟨v,rfl,h2⟩ := hl.one
    rcases h2 with rfl | ⟨k',n',m,e,rfl,hm⟩
    · exact ⟨n,rfl,h⟩
    · cases e; exact ⟨m,rfl,hm⟩
  | .bool,_,_,_,⟨b,rfl⟩,hl => by
    obtain ⟨v,rfl,h2⟩ := hl.one
    rcases h2 with rfl | ⟨k',n',m,e,rfl,hm⟩
    · exact ⟨b,rfl⟩
    · cases e
  | .str,_,_,_,⟨b,rfl⟩,hl => by
    obtain ⟨v,rfl,h2⟩ := hl.one
    rcases h2 with rfl | ⟨k',n',m,e,rfl,hm⟩
    · exact ⟨b,rfl⟩
    · cases e
  | .unit,_,_,ds,h,hl => by
    have : ds.length = 0 := by rw [hl.1,show _ = _ from h]; rfl
    exact List.length_eq_zero_iff.1 this
  | .pair _ _,_,_,_,⟨c1,c2,rfl,h1,h2⟩,hl => by
    obtain ⟨d1,d2,rfl,l1,l2⟩ := hl.split
    exact ⟨d1,d2,rfl,h1.soft hq l1,h2.soft hq l2⟩
  | .slice _ t,l,_,_,⟨A,n,rfl,hl1,hn,hr⟩,hl => by
    obtain ⟨v,rfl,h2⟩ := hl.one
    rcases h2 with rfl | ⟨k',n',m,e,rfl,hm⟩
    · refine ⟨A,n,rfl,hl1,hn,fun h0 => ?_⟩
      obtain ⟨b,off,hA,hb,hc⟩ := hr h0
      refine ⟨b,off,hA,(hq b hb).1,fun j x hx => ?_⟩
      obtain ⟨c,hs,hcell⟩ := hc j x hx
      obtain ⟨d,d1,d2⟩ := likeL_make c (fun i => w1.cell? ⟨b,off + j * t.size + i,none⟩) (fun i u hu => (hq b hb).2 _ _ (hcell i u hu))
      exact ⟨d,hs.soft hq d1,d2⟩
    · cases e
theorem RowS.soft {w w1 : World} {q q1 : Nat → Prop} (hq : ∀ b,q b → q1 b ∧ Soft w w1 b) {t : Ty} {A : Option Addr} {l : List t.den} (hr : RowS w q t A l) : RowS w1 q1 t A l := fun h0 => by
  obtain ⟨b,off,hA,hb,hc⟩ := hr h0
  refine ⟨b,off,hA,(hq b hb).1,fun j x hx => ?_⟩
  obtain ⟨c,hs,hcell⟩ := hc j x hx
  obtain ⟨d,d1,d2⟩ := likeL_make c (fun i => w1.cell? ⟨b,off + j * t.size + i,none⟩) (fun i u hu => (hq b hb).2 _ _ (hcell i u hu))
  exact ⟨d,hs.soft hq d1,d2⟩
theorem Dat.shp {w : World} {q : Nat → Prop} : ∀ {t : Ty} {x : t.den} {cs : List Value},Dat w q t x cs → Shp w q t x cs
  | .int _,_,_,h => ⟨_,h.1,h.2⟩
  | .bool,_,_,h => ⟨_,h⟩
  | .str,_,_,⟨b,h,_⟩ => ⟨b,h⟩
  | .unit,_,_,h => h
  | .pair _ _,_,_,⟨c1,c2,h,h1,h2⟩ => ⟨c1,c2,h,h1.shp,h2.shp⟩
  | .slice _ _,_,_,⟨A,n,h,hl,hn,hr⟩ => ⟨A,n,h,hl,hn,fun h0 => by
      obtain ⟨b,off,hA,hb,hc⟩ := hr h0
      refine ⟨b,off,hA,hb,fun j x hx => ?_⟩
      obtain ⟨c,hd,hcell⟩ := hc j x hx
      exact ⟨c,hd.shp,hcell⟩⟩
theorem RowI.shp {w : World} {q : Nat → Prop} {t : Ty} {A : Option Addr} {l : List t.den} (h : RowI w q t A l) : RowS w q t A l := fun h0 => by
  obtain ⟨b,off,hA,hb,hc⟩ := h h0
  refine ⟨b,off,hA,hb,fun j x hx => ?_⟩
  obtain ⟨c,hd,hcell⟩ := hc j x hx
  exact ⟨c,hd.shp,hcell⟩
theorem Shp.len {w : World} {q : Nat → Prop} : ∀ {t : Ty} {x : t.den} {cs : List Value},Shp w q t x cs → cs.length = t.size
  | .int _,_,_,⟨_,h,_⟩ => by rw [h]; rfl
  | .bool,_,_,⟨_,h⟩ => by rw [h]; rfl
  | .str,_,_,⟨_,h⟩ => by rw [h]; rfl
  | .unit,_,_,h => by rw [show _ = _ from h]; rfl
  | .pair _ _,_,_,⟨_,_,h,h1,h2⟩ => by rw [h,List.length_append,h1.len,h2.len]; rfl
  | .slice _ _,_,_,⟨_,_,h,_⟩ => by rw [h]; rfl

mutual
theorem RepV.move {S : Nat → Prop} {c c1 : Cx} (hm : Mv S c c1) : ∀ (p : PV) (v : Value),(∀ k,p.refs k = true → S k) → RepV c p v → RepV c1 p v
  | .undef,_,_,_ | .fresh ..,_,_,_ | .bx _,_,_,_ | .gd ..,_,_,_ => by simp [RepV]
  | .int k n,v,_,h => by simpa [RepV] using h
  | .bool b,v,_,h => by simpa [RepV] using h
  | .str s,v,_,h => by simpa [RepV] using h
  | .sl e t l,v,_,h => by
    simp only [RepV] at h ⊢
    obtain ⟨A,n,h1,h2,h3,h4⟩ := h
    exact ⟨A,n,h1,h2,h3,h4.move hm.heap' hm.ok⟩
  | .full e t l,v,_,h => by
    simp only [RepV] at h ⊢
    obtain ⟨A,h1,h3,h4⟩ := h
    exact ⟨A,h1,h3,h4.move hm.heap' hm.ok⟩
  | .own k,v,hs,h => by
    simp only [RepV] at h ⊢
    have := hs k (by simp [PV.refs])
    rw [hm.σ k this]
    exact h
  | .agg l,v,hs,h => by
    simp only [RepV] at h ⊢
    obtain ⟨a,h1,h2⟩ := h
    exact ⟨a,h1,RepL.move hm l _ (fun k hk => hs k (by simpa [PV.refs] using hk)) h2⟩
  | .tup l,v,hs,h => by
    simp only [RepV] at h ⊢
    obtain ⟨a,h1,h2⟩ := h
    exact ⟨a,h1,RepL.move hm l _ (fun k hk => hs k (by simpa [PV.refs] using hk)) h2⟩
  | .ptr k off,v,hs,h => by
    simp only [RepV] at h ⊢
    rw [hm.ρ k (hs k (by simp [PV.refs]))]
    exact h
  | .cptr l,v,hs,h => by
    simp only [RepV] at h ⊢
    obtain ⟨b,off,cs,h1,h2,h3,h4⟩ := h
    exact ⟨b,off,cs,h1,hm.ra b h2,RepL.move hm l _ (fun k hk => hs k (by simpa [PV.refs] using hk)) h3,fun i u hu => by rw [cell_of (hm.heap b h2)]; exact h4 i u hu⟩
  | .optr k i sz off,v,hs,h => by
    simp only [RepV] at h ⊢
    have hk := hs k (by simp [PV.refs])
    rw [hm.ρ k hk]
    refine ⟨h.1,fun t l hl => ?_⟩
    obtain ⟨l',h1,h2⟩ := hm.ob k t l hk hl
    have := h.2 t l' h1
    omega
  | .fn f l,v,hs,h => by
    simp only [RepV] at h ⊢
    obtain ⟨a,h1,h2⟩ := h
    exact ⟨a,h1,RepL.move hm l _ (fun k hk => hs k (by simpa [PV.refs] using hk)) h2⟩
  | .view k lo n sz,v,hs,h => by
    simp only [RepV] at h ⊢
    rw [hm.ρ k (hs k (by simp [PV.refs])),hm.σ k (hs k (by simp [PV.refs]))]
    exact h
  | .nilptr,v,_,h => by simpa [RepV] using h
  | .nilfn,v,_,h => by simpa [RepV] using h
  | .nilerr,v,_,h => by simpa [RepV] using h
  | .none_,v,_,h => by simpa [RepV] using h
  | .mnone,v,_,h => by simpa [RepV] using h
  | .mown k,v,hs,h => by
    simp only [RepV] at h ⊢
    rw [hm.ρ k (hs k (by simp [PV.refs]))]
    exact h
  | .mp m l,v,_,h => by
    simp only [RepV] at h ⊢
    obtain ⟨A,h1,h2⟩ := h
    exact ⟨A,h1,h2.move hm.heap' hm.ok⟩
  | .asl f e t l,v,_,h => by
    simp only [RepV] at h ⊢
    obtain ⟨A,n,h1,h2,h3,hf,h4⟩ := h
    exact ⟨A,n,h1,h2,h3,hf,h4.move hm.heap hm.ra⟩
  | .qsl e t l,v,_,h => by
    simp only [RepV] at h ⊢
    obtain ⟨A,n,h1,h2,h3,h4,h5⟩ := h
    refine ⟨A,n,h1,h2,h3,h4.soft hm.q,fun hl => ?_⟩
    obtain ⟨g1,g2⟩ := hm.live hl
    exact (h5 g1).move g2 (fun b hb => (hm.q b hb).1)
  | .rptr t x off,v,_,h => by
    simp only [RepV] at h ⊢
    obtain ⟨b,o,cs,h1,h2,h3,h4,h5⟩ := h
    by_cases hl : c1.ob QK = some .live
    · obtain ⟨g1,g2⟩ := hm.live hl
      exact ⟨b,o,cs,h1,(hm.q b h2).1,h3.soft hm.q (LikeL.refl _),fun _ => (h4 g1).move g2 (fun b hb => (hm.q b hb).1),fun i u hu => by rw [cell_of (g2 b h2)]; exact h5 i u hu⟩
    · obtain ⟨d,d1,d2⟩ := likeL_make cs (fun i => c1.w.cell? ⟨b,o + i,none⟩) (fun i u hu => (hm.q b h2).2 _ _ (h5 i u hu))
      exact ⟨b,o,d,h1,(hm.q b h2).1,h3.soft hm.q d1,fun hh => absurd hh hl,d2⟩
  | .any k,v,_,h => by simpa [RepV] using h
theorem RepL.move {S : Nat → Prop} {c c1 : Cx} (hm : Mv S c c1) : ∀ (l : List PV) (vs : List Value),(∀ k,PV.refsL l k = true → S k) → RepL c l vs → RepL c1 l vs
  | [],vs,_,h => by simpa [RepL] using h
  | p :: r,vs,hs,h => by
    simp only [RepL] at h ⊢
    obtain ⟨v,r',h1,h2,h3⟩ := h
    exact ⟨v,r',h1,RepV.move hm p v (fun k hk => hs k (by simp [PV.refsL,hk])) h2,RepL.move hm r r' (fun k hk => hs k (by simp [PV.refsL,hk])) h3⟩
end

theorem SlotOK.move {S : Nat → Prop} {c c1 : Cx} (hm : Mv S c c1) {a : Act} {p : PV} {v : Value} (hs : ∀ k,p.refs k = true → S k) (h : SlotOK c a p v) : SlotOK c1 a p v := by
  cases p <;> simp only [SlotOK] at h ⊢ <;> first
    | exact ⟨fun hg => RepV.move hm _ _ (fun k hk => hs k (by simpa [PV.refs] using hk)) (h.1 hg),h.2⟩
    | exact RepV.move hm _ _ hs h
theorem SlotOK.of {c : Cx} {a : Act} {p : PV} {v : Value} (h : RepV c p v) (hp : ∀ s w q,p ≠ .gd s w q) : SlotOK c a p v := by
  cases p <;> simp only [SlotOK] <;> first
    | exact absurd rfl (hp _ _ _)
    | exact h
theorem SlotOK.rep {c : Cx} {a : Act} {p : PV} {v : Value} (h : SlotOK c a p v) : RepV c p v := by
  cases p <;> simp only [SlotOK] at h <;> first
    | exact h
    | simp [RepV]

theorem RepL.length {c : Cx} : ∀ {l : List PV} {vs : List Value},RepL c l vs → vs.length = l.length
  | [],_,h => by simp only [RepL] at h; rw [h]; rfl
  | _ :: _,_,h => by
    simp only [RepL] at h
    obtain ⟨v,r',rfl,_,h3⟩ := h
    simp [h3.length]
theorem RepL.append {c : Cx} : ∀ {l1 l2 : List PV} {v1 v2 : List Value},RepL c l1 v1 → RepL c l2 v2 → RepL c (l1 ++ l2) (v1 ++ v2)
  | [],_,_,_,h1,h2 => by simp only [RepL] at h1; subst h1; exact h2
  | _ :: _,_,_,_,h1,h2 => by
    simp only [RepL] at h1
    obtain ⟨v,r',rfl,hv,hr⟩ := h1
    simp only [List.cons_append,RepL]
    exact ⟨v,_,rfl,hv,hr.append h2⟩
theorem RepL.drop {c : Cx} : ∀ {l : List PV} {vs : List Value} (n : Nat),RepL c l vs → RepL c (l.drop n) (vs.drop n)
  | _,_,0,h => h
  | [],_,n + 1,h => by simp only [RepL] at h; subst h; simp [RepL]
  | _ :: _,_,n + 1,h => by
    simp only [RepL] at h
    obtain ⟨v,r',rfl,hv,hr⟩ := h
    exact RepL.drop n hr
theorem RepL.take {c : Cx} : ∀ {l : List PV} {vs : List Value} (n : Nat),RepL c l vs → RepL c (l.take n) (vs.take n)
  | _,_,0,_ => by simp [RepL]
  | [],_,n + 1,h => by simp only [RepL] at h; subst h; simp [RepL]
  | _ :: _,_,n + 1,h => by
    simp only [RepL] at h
    obtain ⟨v,r',rfl,hv,hr⟩ := h
    simp only [List.take_succ_cons,RepL]
    exact ⟨v,_,rfl,hv,RepL.take n hr⟩
theorem RepL.get {c : Cx} : ∀ {l : List PV} {vs : List Value} (i : Nat) {p : PV},RepL c l vs → l[i]? = some p → ∃ v,vs[i]? = some v ∧ RepV c p v
  | [],_,_,_,_,h => by simp at h
  | _ :: _,_,0,_,h,hp => by
    simp only [RepL] at h
    obtain ⟨v,r',rfl,hv,hr⟩ := h
    simp at hp; subst hp
    exact ⟨v,by simp,hv⟩
  | _ :: _,_,i + 1,_,h,hp => by
    simp only [RepL] at h
    obtain ⟨v,r',rfl,hv,hr⟩ := h
    obtain ⟨u,hu,hr'⟩ := RepL.get i hr (by simpa using hp)
    exact ⟨u,by simpa using hu,hr'⟩
theorem RepL.splice {c : Cx} {l p : List PV} {vs us : List Value} (off : Nat) (h : RepL c l vs) (hp : RepL c p us) :
    RepL c (splice l off p) (vs.take off ++ us ++ vs.drop (off + us.length)) := by
  unfold Fw.splice
  rw [show p.length = us.length from hp.length.symm]
  exact ((h.take off).append hp).append (h.drop _)
theorem RepV.one_cell {c : Cx} {p : PV} {v : Value} (h : RepV c p v) (hp : p.one = true) : v.oneCell' = true := by
  cases p <;> simp only [PV.one,Bool.false_eq_true] at hp <;> simp only [RepV] at h
  case int => rw [h.1]; rfl
  case bool => rw [h]; rfl
  case str => obtain ⟨b,rfl,_⟩ := h; rfl
  case sl => obtain ⟨A,n,rfl,_⟩ := h; rfl
  case full => obtain ⟨A,rfl,_⟩ := h; rfl
  case own => obtain ⟨_,A,n,m,rfl⟩ := h; rfl
  case ptr => rw [h]; rfl
  case cptr => obtain ⟨b,off,cs,rfl,_⟩ := h; rfl
  case optr => rw [h.1]; rfl
  case fn => obtain ⟨a,rfl,_⟩ := h; rfl
  case asl => obtain ⟨A,n,rfl,_⟩ := h; rfl
  case qsl => obtain ⟨A,n,rfl,_⟩ := h; rfl
  case any => obtain ⟨n,rfl,_⟩ := h; rfl
  all_goals (rw [h]; rfl)
theorem cells_one {v : Value} (h : v.oneCell' = true) : v.cells = #[v] := by cases v <;> simp_all [Value.oneCell',Value.cells]
theorem PV.cells_one {p : PV} (h : p.one = true) : p.cells = [p] := by cases p <;> simp_all [PV.one,PV.cells]
theorem RepV.cells {c : Cx} {p : PV} {v : Value} (h : RepV c p v) (hp : p.one = true ∨ ∃ l,p = .agg l) : RepL c p.cells v.cells.toList := by
  rcases hp with hp | ⟨l,rfl⟩
  · rw [PV.cells_one hp,Fw.cells_one (h.one_cell hp)]
    simp only [RepL]
    exact ⟨v,[],rfl,h,rfl⟩
  · simp only [RepV] at h
    obtain ⟨a,rfl,h⟩ := h
    exact h
theorem RepL.one {c : Cx} : ∀ {l : List PV} {vs : List Value},RepL c l vs → l.all PV.one = true → ∀ u ∈ vs,u.oneCell' = true
  | [],_,h,_ => by simp only [RepL] at h; subst h; simp
  | _ :: _,_,h,ha => by
    simp only [RepL] at h
    obtain ⟨v,r',rfl,hv,hr⟩ := h
    simp only [List.all_cons,Bool.and_eq_true] at ha
    intro u hu
    rcases List.mem_cons.1 hu with rfl | hu
    · exact hv.one_cell ha.1
    · exact hr.one ha.2 u hu

theorem Dat.leaves {c : Cx} : ∀ {t : Ty} {x : t.den} {cs : List Value},Dat c.w c.ok t x cs → RepL c (t.leaves x) cs
  | .int _,_,_,h => by simp only [Ty.leaves,RepL,RepV]; exact ⟨_,[],h.1,⟨rfl,h.2⟩,rfl⟩
  | .bool,_,_,h => by simp only [Ty.leaves,RepL,RepV]; exact ⟨_,[],h,rfl,rfl⟩
  | .str,_,_,⟨b,h1,h2,h3⟩ => by simp only [Ty.leaves,RepL,RepV]; exact ⟨_,[],h1,⟨b,rfl,h2,h3⟩,rfl⟩
  | .unit,_,_,h => by simp only [Ty.leaves,RepL]; exact h
  | .pair _ _,_,_,⟨c1,c2,h,h1,h2⟩ => by
    rw [h]
    exact h1.leaves.append h2.leaves
  | .slice _ _,_,_,⟨A,n,h,hl,hn,hr⟩ => by
    simp only [Ty.leaves,RepL,RepV]
    exact ⟨_,[],h,⟨A,n,rfl,hl,hn,hr⟩,rfl⟩
def Cx.wide (c : Cx) : Cx := { c with ok := c.ra }
theorem Cx.wide_mv (c : Cx) : Mv (fun _ => True) c c.wide := .of (fun _ _ => rfl) (fun _ h => .inl h) (fun _ _ => rfl) (fun _ _ => rfl) (fun _ _ l _ hl => ⟨l,hl,rfl⟩) (fun _ h => h) (fun _ h => h) (fun h => h)
theorem RepV.untag {c : Cx} {p : PV} {v : Value} (h : RepV c p v) : RepV c.wide p.untag v := by
  cases p <;> first
    | exact RepV.move c.wide_mv _ _ (fun _ _ => trivial) h
    | (simp only [PV.untag,RepV,Cx.wide] at h ⊢
       obtain ⟨A,n,h1,h2,h3,_,h4⟩ := h
       exact ⟨A,n,h1,h2,h3,h4⟩)
theorem RepL.untag {c : Cx} : ∀ {l : List PV} {vs : List Value},RepL c l vs → RepL c.wide (l.map PV.untag) vs
  | [],_,h => by simpa [RepL] using h
  | _ :: _,_,h => by
    simp only [RepL,List.map_cons] at h ⊢
    obtain ⟨v,r',h1,h2,h3⟩ := h
    exact ⟨v,r',h1,h2.untag,h3.untag⟩
theorem RepL.mapApp {c : Cx} (f : PV → PV) {l1 l2 : List PV} {v1 v2 : List Value} (h1 : RepL c (l1.map f) v1) (h2 : RepL c (l2.map f) v2) : RepL c ((l1 ++ l2).map f) (v1 ++ v2) := by
  rw [List.map_append]; exact h1.append h2
theorem Dat.leavesA {c : Cx} : ∀ {t : Ty} {x : t.den} {cs : List Value},Dat c.w c.ra t x cs → RepL c ((t.leaves x).map PV.tag) cs
  | .int _,_,_,h => by simp only [Ty.leaves,List.map,PV.tag,RepL,RepV]; exact ⟨_,[],h.1,⟨rfl,h.2⟩,rfl⟩
  | .bool,_,_,h => by simp only [Ty.leaves,List.map,PV.tag,RepL,RepV]; exact ⟨_,[],h,rfl,rfl⟩
  | .str,_,_,⟨b,h1,h2,h3⟩ => by simp only [Ty.leaves,List.map,PV.tag,RepL,RepV]; exact ⟨_,[],h1,⟨b,rfl,h2,h3⟩,rfl⟩
  | .unit,_,_,h => by simp only [Ty.leaves,List.map,RepL]; exact h
  | .pair _ _,_,_,⟨c1,c2,h,h1,h2⟩ => by
    rw [h]
    exact RepL.mapApp PV.tag h1.leavesA h2.leavesA
  | .slice _ _,_,_,⟨A,n,h,hl,hn,hr⟩ => by
    simp only [Ty.leaves,List.map,PV.tag,RepL,RepV]
    exact ⟨_,[],h,⟨A,n,rfl,hl,hn,fun hf => by simp at hf,hr⟩,rfl⟩
theorem Shp.rleaves {c : Cx} : ∀ {t : Ty} {x : t.den} {cs : List Value},Shp c.w c.q t x cs → (c.ob QK = some .live → Dat c.w c.q t x cs) → RepL c (t.rleaves x) cs
  | .int _,_,_,⟨n,h1,h2⟩,_ => by simp only [Ty.rleaves,RepL,RepV]; exact ⟨_,[],h1,⟨n,rfl,h2⟩,rfl⟩
  | .bool,_,_,⟨b,h1⟩,_ => by simp only [Ty.rleaves,RepL,RepV]; exact ⟨_,[],h1,trivial,rfl⟩
  | .str,_,_,⟨b,h1⟩,_ => by simp only [Ty.rleaves,RepL,RepV]; exact ⟨_,[],h1,trivial,rfl⟩
  | .unit,_,_,h,_ => by simp only [Ty.rleaves,RepL]; exact h
  | .pair a b,x,cs,⟨c1,c2,h,h1,h2⟩,hl => by
    have key : c.ob QK = some .live → Dat c.w c.q a x.1 c1 ∧ Dat c.w c.q b x.2 c2 := fun hh => by
      obtain ⟨d1,d2,e,k1,k2⟩ := hl hh
      rw [h] at e
      obtain ⟨rfl,rfl⟩ := List.append_inj e (by rw [h1.len,k1.len])
      exact ⟨k1,k2⟩
    rw [h]
    exact (h1.rleaves fun hh => (key hh).1).append (h2.rleaves fun hh => (key hh).2)
  | .slice _ _,_,_,⟨A,n,h,hl,hn,hr⟩,hd => by
    simp only [Ty.rleaves,RepL,RepV]
    refine ⟨_,[],h,⟨A,n,rfl,hl,hn,hr,fun hh => ?_⟩,rfl⟩
    obtain ⟨A',n',e,_,_,k⟩ := hd hh
    rw [h] at e
    simp only [List.cons.injEq,Value.slice.injEq,and_true] at e
    rw [e.1]; exact k
theorem Dat.flat {w w1 : World} {ok ok1 : Nat → Prop} : ∀ {t : Ty} {x : t.den} {cs : List Value},t.flat = true → Dat w ok t x cs → Dat w1 ok1 t x cs
  | .int _,_,_,_,h => h
  | .bool,_,_,_,h => h
  | .str,_,_,_,h => h
  | .unit,_,_,_,h => h
  | .pair _ _,_,_,hf,⟨c1,c2,h,h1,h2⟩ => by
    simp only [Ty.flat,Bool.and_eq_true] at hf
    exact ⟨c1,c2,h,h1.flat hf.1,h2.flat hf.2⟩
  | .slice _ _,_,_,hf,_ => by simp [Ty.flat] at hf
theorem Ty.take_dat {c : Cx} : ∀ {t : Ty} {l r : List PV} {x : t.den} {vs : List Value},t.take l = some (x,r) → RepL c l vs →
    ∃ v1 v2,vs = v1 ++ v2 ∧ Dat c.w c.ok t x v1 ∧ RepL c r v2
  | .int k,l,r,x,vs,h,hl => by
    cases l with
    | nil => simp [Ty.take] at h
    | cons p q =>
      simp only [RepL] at hl
      obtain ⟨v,r',rfl,hv,hr⟩ := hl
      cases p <;> simp only [Ty.take] at h <;> try (simp at h; done)
      split at h
      · rename_i hk
        subst hk
        simp only [Option.some.injEq,Prod.mk.injEq] at h
        obtain ⟨rfl,rfl⟩ := h
        simp only [RepV] at hv
        exact ⟨[v],r',rfl,⟨by rw [hv.1],hv.2⟩,hr⟩
      · simp at h
  | .bool,l,r,x,vs,h,hl => by
    cases l with
    | nil => simp [Ty.take] at h
    | cons p q =>
      simp only [RepL] at hl
      obtain ⟨v,r',rfl,hv,hr⟩ := hl
      cases p <;> simp only [Ty.take] at h <;> try (simp at h; done)
      simp only [Option.some.injEq,Prod.mk.injEq] at h
      obtain ⟨rfl,rfl⟩ := h
      simp only [RepV] at hv
      exact ⟨[v],r',rfl,by rw [hv]; rfl,hr⟩
  | .str,l,r,x,vs,h,hl => by
    cases l with
    | nil => simp [Ty.take] at h
    | cons p q =>
      simp only [RepL] at hl
      obtain ⟨v,r',rfl,hv,hr⟩ := hl
      cases p <;> simp only [Ty.take] at h <;> try (simp at h; done)
      simp only [Option.some.injEq,Prod.mk.injEq] at h
      obtain ⟨rfl,rfl⟩ := h
      simp only [RepV] at hv
      obtain ⟨b,h1,h2,h3⟩ := hv
      exact ⟨[v],r',rfl,⟨b,by rw [h1],h2,h3⟩,hr⟩
  | .unit,l,r,x,vs,h,hl => by
    simp only [Ty.take,Option.some.injEq,Prod.mk.injEq] at h
    obtain ⟨_,rfl⟩ := h
    exact ⟨[],vs,rfl,rfl,hl⟩
  | .pair a b,l,r,x,vs,h,hl => by
    simp only [Ty.take] at h
    split at h
    · rename_i x1 r1 h1
      split at h
      · rename_i x2 r2 h2
        simp only [Option.some.injEq,Prod.mk.injEq] at h
        obtain ⟨rfl,rfl⟩ := h
        obtain ⟨v1,v2,rfl,d1,hr⟩ := Ty.take_dat h1 hl
        obtain ⟨v3,v4,rfl,d2,hr⟩ := Ty.take_dat h2 hr
        exact ⟨v1 ++ v3,v4,by simp,⟨v1,v3,rfl,d1,d2⟩,hr⟩
      · simp at h
    · simp at h
  | .slice e t,l,r,x,vs,h,hl => by
    cases l with
    | nil => simp [Ty.take] at h
    | cons p q =>
      simp only [RepL] at hl
      obtain ⟨v,r',rfl,hv,hr⟩ := hl
      cases p <;> simp only [Ty.take] at h <;> try (simp at h; done)
      all_goals
        split at h
        · rename_i ht
          subst ht
          simp only [Option.some.injEq,Prod.mk.injEq] at h
          obtain ⟨rfl,rfl⟩ := h
          simp only [RepV] at hv
          first
            | (obtain ⟨A,n,h1,h2,h3,h4⟩ := hv; exact ⟨[v],r',rfl,⟨A,n,by rw [h1],h2,h3,h4⟩,hr⟩)
            | (obtain ⟨A,h1,h3,h4⟩ := hv; exact ⟨[v],r',rfl,⟨A,_,by rw [h1],Nat.le_refl _,h3,h4⟩,hr⟩)
        · simp at h
theorem Ty.of_dat {c : Cx} {t : Ty} {l : List PV} {x : t.den} {vs : List Value} (h : t.of l = some x) (hl : RepL c l vs) : Dat c.w c.ok t x vs := by
  unfold Ty.of at h
  split at h
  · rename_i y he
    obtain rfl : y = x := by simpa using h
    obtain ⟨v1,v2,rfl,d,hr⟩ := Ty.take_dat he hl
    simp only [RepL] at hr
    subst hr
    simpa using d
  · simp at h
end Go.Fw
