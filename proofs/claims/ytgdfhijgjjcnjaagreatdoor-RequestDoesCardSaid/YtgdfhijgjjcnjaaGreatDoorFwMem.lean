/- Blocks made and written. -/
import Derived.Test.YtgdfhijgjjcnjaaGreatDoorFwPure3
set_option linter.unusedVariables false
set_option linter.unusedSimpArgs false
namespace Go.Fw
open Go.RowKit (Below)

section
variable {P : Program}
theorem Cells.frozen {w : World} {b : Nat} {el : Option TypeId} {cs : Array Value} (h : Cells w b el cs) (off : Nat) : w.frozen? ⟨b,off,none⟩ = false := by
  obtain ⟨e,h1,_⟩ := h
  simp [World.frozen?,h1]
theorem Cells.some_ {w : World} {b : Nat} {el : Option TypeId} {cs : Array Value} (h : Cells w b el cs) : Cells w b none cs := by
  obtain ⟨e,h1,_⟩ := h
  exact ⟨e,h1,by simp⟩

theorem set_split {α : Type} (l r : List α) (k : Nat) (v : α) (h : k < l.length) : (l.set k v).take (k + 1) ++ r ++ (l.set k v).drop (k + 1 + r.length) = l.take k ++ (v :: r) ++ l.drop (k + (r.length + 1)) := by
  have hl : (l.take k).length = k := by rw [List.length_take]; omega
  have h1 : (l.set k v).take (k + 1) = l.take k ++ [v] := by
    rw [List.set_eq_take_append_cons_drop,if_pos h,List.take_append,hl,List.take_of_length_le (by omega),show k + 1 - k = 1 by omega]; rfl
  have h2 : (l.set k v).drop (k + 1 + r.length) = l.drop (k + (r.length + 1)) := by
    rw [List.drop_set_of_lt (by omega)]; congr 1; omega
  rw [h1,h2]
  simp
theorem Unm.frozen {w : World} {b off : Nat} {u : Value} (h : Unm w b) (hc : w.cell? ⟨b,off,none⟩ = some u) : w.frozen? ⟨b,off,none⟩ = false := by
  unfold World.cell? at hc
  simp only at hc
  split at hc
  · rename_i cs e f hb
    obtain ⟨lo,hi⟩ := f
    simp only [Option.isSome_none,Bool.false_eq_true,if_false] at hc
    have hlt := (Array.getElem?_eq_some_iff.1 hc).1
    simp only [World.frozen?,hb]
    rcases h cs e lo hi hb with h1 | h1
    · simp only [Bool.and_eq_false_iff,decide_eq_false_iff_not]; omega
    · simp only [Bool.and_eq_false_iff,decide_eq_false_iff_not]; omega
  · simp at hc
theorem run_store1 {w : World} {b off : Nat} {u v : Value} (h : Unm w b) (hc : w.cell? ⟨b,off,none⟩ = some u) (hv : v.oneCell' = true) :
    (storeCells ⟨b,off,none⟩ [v]).run P w = .ok () (w.setCell ⟨b,off,none⟩ v) := by
  simp only [storeCells,Sem.run_bind,add_eq,Nat.add_zero,run_store P w _ v _ hv,hc,h.frozen hc,Bool.false_eq_true,if_false,Result.andThen_ok]
  rfl
theorem setCell_heap (w : World) (b off : Nat) (v : Value) (i : Nat) (h : i ≠ b) : (w.setCell ⟨b,off,none⟩ v).heap[i]? = w.heap[i]? := by
  simp only [World.setCell,Array.getElem?_modify]
  rw [if_neg (fun e => h e.symm)]
theorem setCell_unm {w : World} {b off : Nat} {v : Value} (h : Unm w b) : Unm (w.setCell ⟨b,off,none⟩ v) b := by
  intro cs e lo hi hb
  simp only [World.setCell,Array.getElem?_modify,if_true] at hb
  cases hh : w.heap[b]? with
  | none => rw [hh] at hb; simp at hb
  | some o =>
    rw [hh] at hb
    simp only [Option.map_some,Option.some.injEq] at hb
    cases o <;> simp only at hb <;> try (simp at hb; done)
    rename_i c e' f
    simp only [Option.isSome_none,Bool.false_eq_true,if_false,Obj.cells.injEq] at hb
    obtain ⟨rfl,rfl,rfl⟩ := hb
    have := h c e' lo hi hh
    simpa using this
theorem setCell_soft {w : World} {b off : Nat} {k : IntKind} {n m : Int} (hc : w.cell? ⟨b,off,none⟩ = some (.int k n)) (hm : (Lit.int k m).wf = true) : Soft w (w.setCell ⟨b,off,none⟩ (.int k m)) b := by
  intro i u hu
  unfold World.cell? at hu hc ⊢
  simp only [World.setCell,Array.getElem?_modify,if_true] at hu hc ⊢
  cases hh : w.heap[b]? with
  | none => rw [hh] at hu; simp at hu
  | some o =>
    rw [hh] at hu hc
    cases o <;> simp only at hu hc <;> try (simp at hu; done)
    rename_i c e f
    simp only [Option.isSome_none,Bool.false_eq_true,if_false] at hu hc
    simp only [Option.map_some,Option.isSome_none,Bool.false_eq_true,if_false,Array.getElem?_setIfInBounds]
    have hlt := (Array.getElem?_eq_some_iff.1 hc).1
    by_cases hi : off = i
    · subst hi
      rw [if_pos rfl,if_pos hlt]
      rw [hc] at hu
      simp only [Option.some.injEq] at hu
      subst hu
      exact ⟨_,rfl,.inr ⟨k,n,m,rfl,rfl,hm⟩⟩
    · rw [if_neg hi]
      exact ⟨u,hu,.inl rfl⟩
theorem run_storeCells {b : Nat} {el : Option TypeId} : ∀ (vs : List Value) (w : World) (cs : Array Value) (off i : Nat),Cells w b el cs → off + i + vs.length ≤ cs.size → (∀ u ∈ vs,u.oneCell' = true) →
    ∃ w1 cs1,(storeCells ⟨b,off,none⟩ vs i).run P w = .ok () w1 ∧ Cells w1 b el cs1 ∧ cs1.toList = cs.toList.take (off + i) ++ vs ++ cs.toList.drop (off + i + vs.length) ∧
      w1.os = w.os ∧ w1.tape = w.tape ∧ w1.output = w.output ∧ w1.heap.size = w.heap.size ∧ ∀ k,k ≠ b → w1.heap[k]? = w.heap[k]?
  | [],w,cs,off,i,hc,_,_ => ⟨w,cs,rfl,hc,by simp,rfl,rfl,rfl,rfl,fun _ _ => rfl⟩
  | v :: r,w,cs,off,i,hc,hl,h1 => by
    have hv : v.oneCell' = true := h1 v (by simp)
    simp only [List.length_cons] at hl
    have hlt : off + i < cs.size := by omega
    have hcell : w.cell? ⟨b,off + i,none⟩ = some cs[off + i] := hc.cell _ (by simp [hlt])
    have hfz := hc.frozen (off + i)
    obtain ⟨e,hb,he⟩ := hc
    have hheap : (w.setCell ⟨b,off + i,none⟩ v).heap[b]? = some (.cells (cs.setIfInBounds (off + i) v) e (0,0)) := by
      simp [World.setCell,Array.getElem?_modify,hb]
    have hc2 : Cells (w.setCell ⟨b,off + i,none⟩ v) b el (cs.setIfInBounds (off + i) v) := ⟨e,hheap,he⟩
    obtain ⟨w1,cs1,g1,g2,g3,g4,g5,g6,g7,g8⟩ := run_storeCells r (w.setCell ⟨b,off + i,none⟩ v) (cs.setIfInBounds (off + i) v) off (i + 1) hc2 (by simp; omega) (fun u hu => h1 u (by simp [hu]))
    refine ⟨w1,cs1,?_,g2,?_,g4,g5,g6,?_,?_⟩
    · simp only [storeCells,Sem.run_bind,add_eq,run_store P w _ v _ hv,hcell,hfz,Bool.false_eq_true,if_false,Result.andThen_ok]
      exact g1
    · rw [g3]
      have hlen : off + i < cs.toList.length := by simpa using hlt
      rw [Array.toList_setIfInBounds,show off + (i + 1) = off + i + 1 by omega,List.length_cons]
      exact set_split _ _ _ _ hlen
    · rw [g7]; simp [World.setCell]
    · intro k hk
      rw [g8 k hk]
      exact Below.heap_setCell _ _ _ _ hk
theorem heap_push (w : World) (o : Obj) (k : Nat) : ({ w with heap := w.heap.push o } : World).heap[k]? = if k = w.heap.size then some o else w.heap[k]? := by
  simp only [Array.getElem?_push]
theorem Kept.push {m : Nat → Prop} {w0 w : World} (h : Kept m w0 w) (o : Obj) : Kept m w0 { w with heap := w.heap.push o } :=
  ⟨h.os,h.tape,h.output,Nat.le_trans h.size (by simp),fun k hk hm => by
    rw [heap_push,if_neg (by have := h.size; omega)]; exact h.block k hk hm⟩
theorem Kept.drawn {m : Nat → Prop} {w0 w : World} (h : Kept m w0 w) (n : Nat) : Kept m w0 { w with drawn := n } := ⟨h.os,h.tape,h.output,h.size,h.block⟩
theorem Cells.push (w : World) (cs : Array Value) (e : TypeId) : Cells { w with heap := w.heap.push (.cells cs e) } w.heap.size (some e) cs :=
  ⟨e,by rw [heap_push,if_pos rfl],by simp⟩

variable {m : MM} {w0 : World} {st : St} {a : Act} {c : Cx}
theorem Rep.push (h : Rep m w0 st a c) {k : Nat} {o : Ob} {st1 : St} (hn : st.new k o = some st1) (dr : Nat) (cs : Array Value) (e : TypeId) (v : Value)
    (hO : ∀ c1 : Cx,c1.w = { c.w with drawn := dr,heap := c.w.heap.push (.cells cs e) } → c1.ok = c.ok → c1.ρ k = c.w.heap.size → c1.σ k = v → (∀ i,c1.ob i = if i = k then some o else c.ob i) →
      Cells c1.w c.w.heap.size (some e) cs → (∀ p u,p.refs k = false → RepV c p u → RepV c1 p u) → c1.a = c.a → RepO c1 k o) (hol : o ≠ .live := by first | (intro h; cases h) | simp) :
    ∃ c1 : Cx,c1.w = { c.w with drawn := dr,heap := c.w.heap.push (.cells cs e) } ∧ c1.ρ k = c.w.heap.size ∧ c1.σ k = v ∧ c1.ob k = some o ∧ Rep m w0 st1 a c1 := by
  obtain ⟨h1,h2,h3,h4,h5,_⟩ := new_spec hn
  let w1 : World := { c.w with drawn := dr,heap := c.w.heap.push (.cells cs e) }
  have hheap : ∀ i,w1.heap[i]? = if i = c.w.heap.size then some (.cells cs e) else c.w.heap[i]? := fun i => by simp only [w1,Array.getElem?_push]
  have hk1 : Kept m.w w0 w1 := ⟨h.kept.os,h.kept.tape,h.kept.output,Nat.le_trans h.kept.size (by simp [w1]),fun i hi hm => by
    rw [hheap,if_neg (by have := h.kept.size; omega)]; exact h.kept.block i hi hm⟩
  have hold : ∀ b,c.za b ∨ (∃ k',Owns c k' ∧ c.ρ k' = b) → w1.heap[b]? = c.w.heap[b]? := by
    intro b hb
    have : b < c.w.heap.size := by
      rcases hb with hb | ⟨k',hk',rfl⟩
      · exact h.zlt hb
      · exact (h.mine k' hk').2.2
    rw [hheap,if_neg (by omega)]
  refine ⟨_,rfl,?_,?_,?_,h.newObj hn (w1 := w1) c.w.heap.size v hk1 (by simp [w1]) hold ?_ (fun _ => ⟨fun hb => ?_,.inl h.kept.size,by simp [w1],fun k' hk' he => ?_⟩) hol⟩
  · simp
  · simp
  · simp [h5]
  · refine hO _ rfl rfl (by simp) (by simp) (fun i => ?_) ⟨e,by rw [hheap,if_pos rfl],by simp⟩ (fun p u hp hr => ?_) rfl
    · simp only [h5,h.ob]
    · refine RepV.move (c := c) (S := fun i => i ≠ k) (h.newMv hn _ _ (fun b hb => hold b (.inl hb)) hol) p u (fun i hi => ?_) hr
      · rintro rfl; rw [hp] at hi; simp at hi
  · have := h.zlt hb; omega
  · have := (h.mine k' hk').2.2; omega
theorem Rep.spoil (h : Rep m w0 st a c) {b off : Nat} {k : IntKind} {n q : Int} (hq : c.q b) (hnl : c.ob QK ≠ some .live) (hc : c.w.cell? ⟨b,off,none⟩ = some (.int k n)) (hm : (Lit.int k q).wf = true) :
    Rep m w0 st a { c with w := c.w.setCell ⟨b,off,none⟩ (.int k q) } := by
  obtain ⟨q1,q2,q3,q4,q5⟩ := h.q b hq
  have hsz : (c.w.setCell ⟨b,off,none⟩ (.int k q)).heap.size = c.w.heap.size := by simp [World.setCell]
  have hne : ∀ i,i ≠ b → (c.w.setCell ⟨b,off,none⟩ (.int k q)).heap[i]? = c.w.heap[i]? := fun i hi => setCell_heap _ _ _ _ _ hi
  have hra : ∀ i,c.ra i → i ≠ b := fun i hi he => q4 (he ▸ hi)
  have hm' : Mv (fun _ => True) c { c with w := c.w.setCell ⟨b,off,none⟩ (.int k q) } :=
    ⟨fun i hi => hne i (hra i hi),fun _ h => h,fun _ _ => rfl,fun _ _ => rfl,fun _ _ l _ hl => ⟨l,hl,rfl⟩,fun _ h => h,fun i hi => ⟨hi,by
      by_cases e : i = b
      · subst e; exact setCell_soft hc hm
      · exact Soft.of_eq (hne i e)⟩,fun hl => absurd hl hnl⟩
  refine ⟨h.size,fun d => SlotOK.move hm' (fun _ _ => trivial) (h.slots d),h.defers,h.ob,fun i o ho => (h.objs i o ho).move hm' (fun _ _ => trivial) trivial (fun hw => hne _ (q5 i ⟨o,ho,hw⟩)),fun i j hi hj he => h.apart i j hi hj he,fun i hi => ?_,fun i hi => by rw [hsz]; exact h.ok i hi,
    h.kept.one rfl rfl rfl (by rw [hsz]; exact Nat.le_refl _) b q1 (fun i _ hi => hne i hi),h.old,h.newU (fun i hi => hne i (hra i (.inl hi))),h.pin,h.a,h.low,fun i hi => ?_⟩
  · have := h.mine i hi
    exact ⟨this.1,this.2.1,by rw [hsz]; exact this.2.2⟩
  · obtain ⟨p1,p2,p3,p4,p5⟩ := h.q i hi
    refine ⟨p1,by rw [hsz]; exact p2,?_,p4,p5⟩
    by_cases e : i = b
    · subst e; exact setCell_unm p3
    · exact p3.of_eq (hne i e)
end
end Go.Fw
