/- How what is told moves from world to world. -/
import Derived.Test.YtacebemdonoliaaFwRel
set_option linter.unusedVariables false
set_option linter.unusedSimpArgs false
namespace Go.Fw
open Go.RowKit (Below)

structure Mv (S : Nat → Prop) (c c1 : Cx) : Prop where
  heap : ∀ b, c.za b → c1.w.heap[b]? = c.w.heap[b]?
  ok : ∀ b, c.ok b → c1.ok b
  ρ : ∀ k, S k → c1.ρ k = c.ρ k
  σ : ∀ k, S k → c1.σ k = c.σ k
  ob : ∀ k e t l, S k → (c1.ob k = some (.row e t l) ∨ ∃ n, c1.ob k = some (.arr e t n l)) → ∃ e' l', (c.ob k = some (.row e' t l') ∨ ∃ n, c.ob k = some (.arr e' t n l')) ∧ l'.length = l.length
  a : ∀ b, c.a b → c1.a b
theorem Mv.heap' {S : Nat → Prop} {c c1 : Cx} (h : Mv S c c1) : ∀ b, c.ok b → c1.w.heap[b]? = c.w.heap[b]? := fun b hb => h.heap b (.inl hb)
theorem Mv.za {S : Nat → Prop} {c c1 : Cx} (h : Mv S c c1) : ∀ b, c.za b → c1.za b := fun b hb => hb.imp (h.ok b) (h.a b)

mutual
theorem RepV.move {S : Nat → Prop} {c c1 : Cx} (hm : Mv S c c1) : ∀ (p : PV) (v : Value), (∀ k, p.refs k = true → S k) → RepV c p v → RepV c1 p v
  | .undef, _, _, _ | .fresh .., _, _, _ | .bx _, _, _, _ | .gd .., _, _, _ => by simp [RepV]
  | .int k n, v, _, h => by simpa [RepV] using h
  | .bool b, v, _, h => by simpa [RepV] using h
  | .str s, v, _, h => by simpa [RepV] using h
  | .sl e t l, v, _, h => by
    simp only [RepV] at h ⊢
    obtain ⟨A, n, h1, h2, h3, h4⟩ := h
    exact ⟨A, n, h1, h2, h3, h4.move hm.heap' hm.ok⟩
  | .full e t l, v, _, h => by
    simp only [RepV] at h ⊢
    obtain ⟨A, h1, h3, h4⟩ := h
    exact ⟨A, h1, h3, h4.move hm.heap' hm.ok⟩
  | .own k, v, hs, h => by
    simp only [RepV] at h ⊢
    have := hs k (by simp [PV.refs])
    rw [hm.σ k this]
    exact h
  | .agg l, v, hs, h => by
    simp only [RepV] at h ⊢
    obtain ⟨a, h1, h2⟩ := h
    exact ⟨a, h1, RepL.move hm l _ (fun k hk => hs k (by simpa [PV.refs] using hk)) h2⟩
  | .tup l, v, hs, h => by
    simp only [RepV] at h ⊢
    obtain ⟨a, h1, h2⟩ := h
    exact ⟨a, h1, RepL.move hm l _ (fun k hk => hs k (by simpa [PV.refs] using hk)) h2⟩
  | .ptr k off, v, hs, h => by
    simp only [RepV] at h ⊢
    rw [hm.ρ k (hs k (by simp [PV.refs]))]
    exact h
  | .cptr l, v, hs, h => by
    simp only [RepV] at h ⊢
    obtain ⟨b, off, cs, h1, h2, h3, h4⟩ := h
    exact ⟨b, off, cs, h1, hm.za b h2, RepL.move hm l _ (fun k hk => hs k (by simpa [PV.refs] using hk)) h3, fun i u hu => by rw [cell_of (hm.heap b h2)]; exact h4 i u hu⟩
  | .optr k i sz off, v, hs, h => by
    simp only [RepV] at h ⊢
    have hk := hs k (by simp [PV.refs])
    rw [hm.ρ k hk]
    refine ⟨h.1, fun e t l hl => ?_⟩
    obtain ⟨e', l', h1, h2⟩ := hm.ob k e t l hk hl
    have := h.2 e' t l' h1
    omega
  | .fn f l, v, hs, h => by
    simp only [RepV] at h ⊢
    obtain ⟨a, h1, h2⟩ := h
    exact ⟨a, h1, RepL.move hm l _ (fun k hk => hs k (by simpa [PV.refs] using hk)) h2⟩
  | .view k lo n sz, v, hs, h => by
    simp only [RepV] at h ⊢
    rw [hm.ρ k (hs k (by simp [PV.refs]))]
    exact h
  | .nilptr, v, _, h => by simpa [RepV] using h
  | .nilfn, v, _, h => by simpa [RepV] using h
  | .nilerr, v, _, h => by simpa [RepV] using h
  | .none_, v, _, h => by simpa [RepV] using h
  | .mnone, v, _, h => by simpa [RepV] using h
  | .mown k, v, hs, h => by
    simp only [RepV] at h ⊢
    rw [hm.ρ k (hs k (by simp [PV.refs]))]
    exact h
  | .mp m l, v, _, h => by
    simp only [RepV] at h ⊢
    obtain ⟨A, h1, h2⟩ := h
    exact ⟨A, h1, h2.move hm.heap' hm.ok⟩
  | .asl e t l, v, _, h => by
    simp only [RepV] at h ⊢
    obtain ⟨A, n, h1, h2, h3, h4⟩ := h
    exact ⟨A, n, h1, h2, h3, h4.move hm.heap hm.za⟩
theorem RepL.move {S : Nat → Prop} {c c1 : Cx} (hm : Mv S c c1) : ∀ (l : List PV) (vs : List Value), (∀ k, PV.refsL l k = true → S k) → RepL c l vs → RepL c1 l vs
  | [], vs, _, h => by simpa [RepL] using h
  | p :: r, vs, hs, h => by
    simp only [RepL] at h ⊢
    obtain ⟨v, r', h1, h2, h3⟩ := h
    exact ⟨v, r', h1, RepV.move hm p v (fun k hk => hs k (by simp [PV.refsL, hk])) h2, RepL.move hm r r' (fun k hk => hs k (by simp [PV.refsL, hk])) h3⟩
end

theorem SlotOK.move {S : Nat → Prop} {c c1 : Cx} (hm : Mv S c c1) {a : Act} {p : PV} {v : Value} (hs : ∀ k, p.refs k = true → S k) (h : SlotOK c a p v) : SlotOK c1 a p v := by
  cases p <;> simp only [SlotOK] at h ⊢ <;> first
    | exact ⟨fun hg => RepV.move hm _ _ (fun k hk => hs k (by simpa [PV.refs] using hk)) (h.1 hg), h.2⟩
    | exact RepV.move hm _ _ hs h
theorem SlotOK.of {c : Cx} {a : Act} {p : PV} {v : Value} (h : RepV c p v) (hp : ∀ s w q, p ≠ .gd s w q) : SlotOK c a p v := by
  cases p <;> simp only [SlotOK] <;> first
    | exact absurd rfl (hp _ _ _)
    | exact h
theorem SlotOK.rep {c : Cx} {a : Act} {p : PV} {v : Value} (h : SlotOK c a p v) : RepV c p v := by
  cases p <;> simp only [SlotOK] at h <;> first
    | exact h
    | simp [RepV]

theorem RepL.length {c : Cx} : ∀ {l : List PV} {vs : List Value}, RepL c l vs → vs.length = l.length
  | [], _, h => by simp only [RepL] at h; rw [h]; rfl
  | _ :: _, _, h => by
    simp only [RepL] at h
    obtain ⟨v, r', rfl, _, h3⟩ := h
    simp [h3.length]
theorem RepL.append {c : Cx} : ∀ {l1 l2 : List PV} {v1 v2 : List Value}, RepL c l1 v1 → RepL c l2 v2 → RepL c (l1 ++ l2) (v1 ++ v2)
  | [], _, _, _, h1, h2 => by simp only [RepL] at h1; subst h1; exact h2
  | _ :: _, _, _, _, h1, h2 => by
    simp only [RepL] at h1
    obtain ⟨v, r', rfl, hv, hr⟩ := h1
    simp only [List.cons_append, RepL]
    exact ⟨v, _, rfl, hv, hr.append h2⟩
theorem RepL.drop {c : Cx} : ∀ {l : List PV} {vs : List Value} (n : Nat), RepL c l vs → RepL c (l.drop n) (vs.drop n)
  | _, _, 0, h => h
  | [], _, n + 1, h => by simp only [RepL] at h; subst h; simp [RepL]
  | _ :: _, _, n + 1, h => by
    simp only [RepL] at h
    obtain ⟨v, r', rfl, hv, hr⟩ := h
    exact RepL.drop n hr
theorem RepL.take {c : Cx} : ∀ {l : List PV} {vs : List Value} (n : Nat), RepL c l vs → RepL c (l.take n) (vs.take n)
  | _, _, 0, _ => by simp [RepL]
  | [], _, n + 1, h => by simp only [RepL] at h; subst h; simp [RepL]
  | _ :: _, _, n + 1, h => by
    simp only [RepL] at h
    obtain ⟨v, r', rfl, hv, hr⟩ := h
    simp only [List.take_succ_cons, RepL]
    exact ⟨v, _, rfl, hv, RepL.take n hr⟩
theorem RepL.get {c : Cx} : ∀ {l : List PV} {vs : List Value} (i : Nat) {p : PV}, RepL c l vs → l[i]? = some p → ∃ v, vs[i]? = some v ∧ RepV c p v
  | [], _, _, _, _, h => by simp at h
  | _ :: _, _, 0, _, h, hp => by
    simp only [RepL] at h
    obtain ⟨v, r', rfl, hv, hr⟩ := h
    simp at hp; subst hp
    exact ⟨v, by simp, hv⟩
  | _ :: _, _, i + 1, _, h, hp => by
    simp only [RepL] at h
    obtain ⟨v, r', rfl, hv, hr⟩ := h
    obtain ⟨u, hu, hr'⟩ := RepL.get i hr (by simpa using hp)
    exact ⟨u, by simpa using hu, hr'⟩
theorem RepL.splice {c : Cx} {l p : List PV} {vs us : List Value} (off : Nat) (h : RepL c l vs) (hp : RepL c p us) :
    RepL c (splice l off p) (vs.take off ++ us ++ vs.drop (off + us.length)) := by
  unfold Fw.splice
  rw [show p.length = us.length from hp.length.symm]
  exact ((h.take off).append hp).append (h.drop _)
theorem RepV.one_cell {c : Cx} {p : PV} {v : Value} (h : RepV c p v) (hp : p.one = true) : v.oneCell' = true := by
  cases p <;> simp only [PV.one, Bool.false_eq_true] at hp <;> simp only [RepV] at h
  case int => rw [h.1]; rfl
  case bool => rw [h]; rfl
  case str => obtain ⟨b, rfl, _⟩ := h; rfl
  case sl => obtain ⟨A, n, rfl, _⟩ := h; rfl
  case full => obtain ⟨A, rfl, _⟩ := h; rfl
  case own => obtain ⟨_, A, n, m, rfl⟩ := h; rfl
  case ptr => rw [h]; rfl
  case cptr => obtain ⟨b, off, cs, rfl, _⟩ := h; rfl
  case optr => rw [h.1]; rfl
  case fn => obtain ⟨a, rfl, _⟩ := h; rfl
  case asl => obtain ⟨A, n, rfl, _⟩ := h; rfl
  all_goals (rw [h]; rfl)
theorem cells_one {v : Value} (h : v.oneCell' = true) : v.cells = #[v] := by cases v <;> simp_all [Value.oneCell', Value.cells]
theorem PV.cells_one {p : PV} (h : p.one = true) : p.cells = [p] := by cases p <;> simp_all [PV.one, PV.cells]
theorem RepV.cells {c : Cx} {p : PV} {v : Value} (h : RepV c p v) (hp : p.one = true ∨ ∃ l, p = .agg l) : RepL c p.cells v.cells.toList := by
  rcases hp with hp | ⟨l, rfl⟩
  · rw [PV.cells_one hp, Fw.cells_one (h.one_cell hp)]
    simp only [RepL]
    exact ⟨v, [], rfl, h, rfl⟩
  · simp only [RepV] at h
    obtain ⟨a, rfl, h⟩ := h
    exact h
theorem RepL.one {c : Cx} : ∀ {l : List PV} {vs : List Value}, RepL c l vs → l.all PV.one = true → ∀ u ∈ vs, u.oneCell' = true
  | [], _, h, _ => by simp only [RepL] at h; subst h; simp
  | _ :: _, _, h, ha => by
    simp only [RepL] at h
    obtain ⟨v, r', rfl, hv, hr⟩ := h
    simp only [List.all_cons, Bool.and_eq_true] at ha
    intro u hu
    rcases List.mem_cons.1 hu with rfl | hu
    · exact hv.one_cell ha.1
    · exact hr.one ha.2 u hu

/-! ### data as leaves -/
theorem Dat.leaves {c : Cx} : ∀ {t : Ty} {x : t.den} {cs : List Value}, Dat c.w c.ok t x cs → RepL c (t.leaves x) cs
  | .int _, _, _, h => by simp only [Ty.leaves, RepL, RepV]; exact ⟨_, [], h.1, ⟨rfl, h.2⟩, rfl⟩
  | .bool, _, _, h => by simp only [Ty.leaves, RepL, RepV]; exact ⟨_, [], h, rfl, rfl⟩
  | .str, _, _, ⟨b, h1, h2, h3⟩ => by simp only [Ty.leaves, RepL, RepV]; exact ⟨_, [], h1, ⟨b, rfl, h2, h3⟩, rfl⟩
  | .unit, _, _, h => by simp only [Ty.leaves, RepL]; exact h
  | .pair _ _, _, _, ⟨c1, c2, h, h1, h2⟩ => by
    rw [h]
    exact h1.leaves.append h2.leaves
  | .slice _ _, _, _, ⟨A, n, h, hl, hn, hr⟩ => by
    simp only [Ty.leaves, RepL, RepV]
    exact ⟨_, [], h, ⟨A, n, rfl, hl, hn, hr⟩, rfl⟩
/-- All that stays, as what is told. -/
def Cx.wide (c : Cx) : Cx := { c with ok := c.za }
theorem Cx.wide_mv (c : Cx) : Mv (fun _ => True) c c.wide := ⟨fun _ _ => rfl, fun _ h => .inl h, fun _ _ => rfl, fun _ _ => rfl, fun _ e _ l _ hl => ⟨e, l, hl, rfl⟩, fun _ h => h⟩
theorem RepV.untag {c : Cx} {p : PV} {v : Value} (h : RepV c p v) : RepV c.wide p.untag v := by
  cases p <;> first
    | exact RepV.move c.wide_mv _ _ (fun _ _ => trivial) h
    | (simp only [PV.untag, RepV, Cx.wide] at h ⊢; exact h)
theorem RepL.untag {c : Cx} : ∀ {l : List PV} {vs : List Value}, RepL c l vs → RepL c.wide (l.map PV.untag) vs
  | [], _, h => by simpa [RepL] using h
  | _ :: _, _, h => by
    simp only [RepL, List.map_cons] at h ⊢
    obtain ⟨v, r', h1, h2, h3⟩ := h
    exact ⟨v, r', h1, h2.untag, h3.untag⟩
theorem RepL.mapApp {c : Cx} (f : PV → PV) {l1 l2 : List PV} {v1 v2 : List Value} (h1 : RepL c (l1.map f) v1) (h2 : RepL c (l2.map f) v2) : RepL c ((l1 ++ l2).map f) (v1 ++ v2) := by
  rw [List.map_append]; exact h1.append h2
theorem Dat.leavesA {c : Cx} : ∀ {t : Ty} {x : t.den} {cs : List Value}, Dat c.w c.za t x cs → RepL c ((t.leaves x).map PV.tag) cs
  | .int _, _, _, h => by simp only [Ty.leaves, List.map, PV.tag, RepL, RepV]; exact ⟨_, [], h.1, ⟨rfl, h.2⟩, rfl⟩
  | .bool, _, _, h => by simp only [Ty.leaves, List.map, PV.tag, RepL, RepV]; exact ⟨_, [], h, rfl, rfl⟩
  | .str, _, _, ⟨b, h1, h2, h3⟩ => by simp only [Ty.leaves, List.map, PV.tag, RepL, RepV]; exact ⟨_, [], h1, ⟨b, rfl, h2, h3⟩, rfl⟩
  | .unit, _, _, h => by simp only [Ty.leaves, List.map, RepL]; exact h
  | .pair _ _, _, _, ⟨c1, c2, h, h1, h2⟩ => by
    rw [h]
    exact RepL.mapApp PV.tag h1.leavesA h2.leavesA
  | .slice _ _, _, _, ⟨A, n, h, hl, hn, hr⟩ => by
    simp only [Ty.leaves, List.map, PV.tag, RepL, RepV]
    exact ⟨_, [], h, ⟨A, n, rfl, hl, hn, hr⟩, rfl⟩
/-- Data that lead nowhere are so whatever is told. -/
theorem Dat.flat {w w1 : World} {ok ok1 : Nat → Prop} : ∀ {t : Ty} {x : t.den} {cs : List Value}, t.flat = true → Dat w ok t x cs → Dat w1 ok1 t x cs
  | .int _, _, _, _, h => h
  | .bool, _, _, _, h => h
  | .str, _, _, _, h => h
  | .unit, _, _, _, h => h
  | .pair _ _, _, _, hf, ⟨c1, c2, h, h1, h2⟩ => by
    simp only [Ty.flat, Bool.and_eq_true] at hf
    exact ⟨c1, c2, h, h1.flat hf.1, h2.flat hf.2⟩
  | .slice _ _, _, _, hf, _ => by simp [Ty.flat] at hf
theorem Ty.take_dat {c : Cx} : ∀ {t : Ty} {l r : List PV} {x : t.den} {vs : List Value}, t.take l = some (x, r) → RepL c l vs →
    ∃ v1 v2, vs = v1 ++ v2 ∧ Dat c.w c.ok t x v1 ∧ RepL c r v2
  | .int k, l, r, x, vs, h, hl => by
    cases l with
    | nil => simp [Ty.take] at h
    | cons p q =>
      simp only [RepL] at hl
      obtain ⟨v, r', rfl, hv, hr⟩ := hl
      cases p <;> simp only [Ty.take] at h <;> try (simp at h; done)
      split at h
      · rename_i hk
        subst hk
        simp only [Option.some.injEq, Prod.mk.injEq] at h
        obtain ⟨rfl, rfl⟩ := h
        simp only [RepV] at hv
        exact ⟨[v], r', rfl, ⟨by rw [hv.1], hv.2⟩, hr⟩
      · simp at h
  | .bool, l, r, x, vs, h, hl => by
    cases l with
    | nil => simp [Ty.take] at h
    | cons p q =>
      simp only [RepL] at hl
      obtain ⟨v, r', rfl, hv, hr⟩ := hl
      cases p <;> simp only [Ty.take] at h <;> try (simp at h; done)
      simp only [Option.some.injEq, Prod.mk.injEq] at h
      obtain ⟨rfl, rfl⟩ := h
      simp only [RepV] at hv
      exact ⟨[v], r', rfl, by rw [hv]; rfl, hr⟩
  | .str, l, r, x, vs, h, hl => by
    cases l with
    | nil => simp [Ty.take] at h
    | cons p q =>
      simp only [RepL] at hl
      obtain ⟨v, r', rfl, hv, hr⟩ := hl
      cases p <;> simp only [Ty.take] at h <;> try (simp at h; done)
      simp only [Option.some.injEq, Prod.mk.injEq] at h
      obtain ⟨rfl, rfl⟩ := h
      simp only [RepV] at hv
      obtain ⟨b, h1, h2, h3⟩ := hv
      exact ⟨[v], r', rfl, ⟨b, by rw [h1], h2, h3⟩, hr⟩
  | .unit, l, r, x, vs, h, hl => by
    simp only [Ty.take, Option.some.injEq, Prod.mk.injEq] at h
    obtain ⟨_, rfl⟩ := h
    exact ⟨[], vs, rfl, rfl, hl⟩
  | .pair a b, l, r, x, vs, h, hl => by
    simp only [Ty.take] at h
    split at h
    · rename_i x1 r1 h1
      split at h
      · rename_i x2 r2 h2
        simp only [Option.some.injEq, Prod.mk.injEq] at h
        obtain ⟨rfl, rfl⟩ := h
        obtain ⟨v1, v2, rfl, d1, hr⟩ := Ty.take_dat h1 hl
        obtain ⟨v3, v4, rfl, d2, hr⟩ := Ty.take_dat h2 hr
        exact ⟨v1 ++ v3, v4, by simp, ⟨v1, v3, rfl, d1, d2⟩, hr⟩
      · simp at h
    · simp at h
  | .slice e t, l, r, x, vs, h, hl => by
    cases l with
    | nil => simp [Ty.take] at h
    | cons p q =>
      simp only [RepL] at hl
      obtain ⟨v, r', rfl, hv, hr⟩ := hl
      cases p <;> simp only [Ty.take] at h <;> try (simp at h; done)
      all_goals
        split at h
        · rename_i ht
          subst ht
          simp only [Option.some.injEq, Prod.mk.injEq] at h
          obtain ⟨rfl, rfl⟩ := h
          simp only [RepV] at hv
          first
            | (obtain ⟨A, n, h1, h2, h3, h4⟩ := hv; exact ⟨[v], r', rfl, ⟨A, n, by rw [h1], h2, h3, h4⟩, hr⟩)
            | (obtain ⟨A, h1, h3, h4⟩ := hv; exact ⟨[v], r', rfl, ⟨A, _, by rw [h1], Nat.le_refl _, h3, h4⟩, hr⟩)
        · simp at h
theorem Ty.of_dat {c : Cx} {t : Ty} {l : List PV} {x : t.den} {vs : List Value} (h : t.of l = some x) (hl : RepL c l vs) : Dat c.w c.ok t x vs := by
  unfold Ty.of at h
  split at h
  · rename_i y he
    obtain rfl : y = x := by simpa using h
    obtain ⟨v1, v2, rfl, d, hr⟩ := Ty.take_dat he hl
    simp only [RepL] at hr
    subst hr
    simpa using d
  · simp at h
end Go.Fw
