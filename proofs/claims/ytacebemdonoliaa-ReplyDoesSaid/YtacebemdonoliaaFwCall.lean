/- Calls: what a function owes, and what its caller has of it. -/
import Derived.Test.YtacebemdonoliaaFwAct8
set_option linter.unusedVariables false
set_option linter.unusedSimpArgs false
namespace Go.Fw
open Go.RowKit (Below)

/-- A row that nobody else has. -/
def FreshRow (w : World) (ok : Nat → Prop) (e : TypeId) (t : Ty) (l : List t.den) (v : Value) (bs : List Nat) : Prop :=
  ∃ A n, v = .slice A l.length n ∧ l.length ≤ n ∧ n ≤ 9223372036854775807 ∧
    ((n = 0 ∧ bs = []) ∨ ∃ g, bs = [g] ∧ A = some ⟨g, 0, none⟩ ∧ ∃ cs : Array Value, Cells w g (some e) cs ∧ cs.size = n * t.size ∧ DatL w ok t l (cs.toList.take (l.length * t.size)) ∧ 0 < t.size)
def shut (w : World) (ok : Nat → Prop) : Cx := { w := w, ok := ok, ρ := fun _ => 0, σ := fun _ => undef, pin := fun _ => [], ob := fun _ => none, a := fun _ => False }
/-- The same, and what the caller has. -/
def shutA (w : World) (ok a : Nat → Prop) : Cx := { w := w, ok := ok, ρ := fun _ => 0, σ := fun _ => undef, pin := fun _ => [], ob := fun _ => none, a := a }
def ResLeaf (w : World) (ok : Nat → Prop) : PV → Value → List Nat → Prop
  | .fresh e t l, v, bs => FreshRow w ok e t l v bs
  | p, v, bs => bs = [] ∧ RepV (shut w ok) p v
def ResL (w : World) (ok : Nat → Prop) : List PV → List Value → List Nat → Prop
  | [], vs, bs => vs = [] ∧ bs = []
  | p :: r, vs, bs => ∃ v r' b1 b2, vs = v :: r' ∧ bs = b1 ++ b2 ∧ ResLeaf w ok p v b1 ∧ ResL w ok r r' b2
def ResOne (w : World) (ok : Nat → Prop) : PV → Value → List Nat → Prop
  | .agg c, v, bs => ∃ a, v = .agg a ∧ ResL w ok c a.toList bs
  | p, v, bs => ResLeaf w ok p v bs
def ResAll (w : World) (ok : Nat → Prop) : List PV → List Value → List Nat → Prop
  | [], vs, bs => vs = [] ∧ bs = []
  | p :: r, vs, bs => ∃ v r' b1 b2, vs = v :: r' ∧ bs = b1 ++ b2 ∧ ResOne w ok p v b1 ∧ ResAll w ok r r' b2
def ResV (w : World) (ok : Nat → Prop) : PV → Value → List Nat → Prop
  | .tup c, v, bs => ∃ a, v = .tuple a ∧ ResAll w ok c a.toList bs
  | p, v, bs => ResOne w ok p v bs

theorem ResLeaf.mono {w : World} {ok ok' : Nat → Prop} (ho : ∀ b, ok b → ok' b) {p : PV} {v : Value} {bs : List Nat} (h : ResLeaf w ok p v bs) : ResLeaf w ok' p v bs := by
  have mv : Mv (fun _ => True) (shut w ok) (shut w ok') := ⟨fun _ _ => rfl, ho, fun _ _ => rfl, fun _ _ => rfl, fun k e t l _ hl => ⟨e, l, hl, rfl⟩, fun _ ha => ha⟩
  cases p
  case fresh e t l =>
    obtain ⟨A, n, h1, h2, h3, h4⟩ := h
    refine ⟨A, n, h1, h2, h3, ?_⟩
    rcases h4 with h4 | ⟨g, g1, g2, cs, g3, g4, g5, g6⟩
    · exact .inl h4
    · exact .inr ⟨g, g1, g2, cs, g3, g4, g5.move (fun _ _ => rfl) ho, g6⟩
  all_goals exact ⟨h.1, RepV.move mv _ _ (fun _ _ => trivial) h.2⟩
theorem ResL.mono {w : World} {ok ok' : Nat → Prop} (ho : ∀ b, ok b → ok' b) : ∀ {l : List PV} {vs : List Value} {bs : List Nat}, ResL w ok l vs bs → ResL w ok' l vs bs
  | [], _, _, h => h
  | _ :: _, _, _, ⟨v, r', b1, b2, h1, h2, h3, h4⟩ => ⟨v, r', b1, b2, h1, h2, h3.mono ho, ResL.mono ho h4⟩
theorem ResOne.mono {w : World} {ok ok' : Nat → Prop} (ho : ∀ b, ok b → ok' b) {p : PV} {v : Value} {bs : List Nat} (h : ResOne w ok p v bs) : ResOne w ok' p v bs := by
  cases p
  case agg c => obtain ⟨a, h1, h2⟩ := h; exact ⟨a, h1, h2.mono ho⟩
  all_goals (simp only [ResOne] at h ⊢; exact h.mono ho)
theorem ResAll.mono {w : World} {ok ok' : Nat → Prop} (ho : ∀ b, ok b → ok' b) : ∀ {l : List PV} {vs : List Value} {bs : List Nat}, ResAll w ok l vs bs → ResAll w ok' l vs bs
  | [], _, _, h => h
  | _ :: _, _, _, ⟨v, r', b1, b2, h1, h2, h3, h4⟩ => ⟨v, r', b1, b2, h1, h2, h3.mono ho, ResAll.mono ho h4⟩
theorem ResV.mono {w : World} {ok ok' : Nat → Prop} (ho : ∀ b, ok b → ok' b) {p : PV} {v : Value} {bs : List Nat} (h : ResV w ok p v bs) : ResV w ok' p v bs := by
  cases p
  case tup c => obtain ⟨a, h1, h2⟩ := h; exact ⟨a, h1, h2.mono ho⟩
  all_goals (simp only [ResV] at h ⊢; exact h.mono ho)
/-- What function f owes at these arguments: it answers res, in new memory. -/
def Contract (P : Program) (f : FuncId) (args : List PV) (res : PV) : Prop :=
  ∀ (w : World) (ok a : Nat → Prop) (vs : Array Value), (∀ b, ok b ∨ a b → b < w.heap.size) → RepL (shutA w ok a) args vs.toList →
    Calls P f vs w fun e w' => ∃ v ok' bs, e = .returned v ∧ Kept (fun _ => False) w w' ∧ (∀ b, ok b → ok' b) ∧ (∀ b, ok' b → b < w'.heap.size ∧ (ok b ∨ w.heap.size ≤ b)) ∧
      ResV w' ok' res v bs ∧ bs.Nodup ∧ ∀ b ∈ bs, w.heap.size ≤ b ∧ b < w'.heap.size ∧ ¬ ok' b
/-- All that the context tells is owed. -/
def Ctx.Owed (C : Ctx) : Prop :=
  (∀ (f : FuncId) (args : List PV) (R : Type) (K : PV → List (List PV) → Option R) (r : R), C.call f args K = some r → ∃ res, Contract C.P f args res ∧ K res [] = some r) ∧
  (∀ (g : FuncId) (as : List PV) (st : St) (R : Type) (K : PV → St → Option R) (r : R), C.inl g as st K = some r → ∀ (m : MM) (w0 : World) (a : Act) (c : Cx) (vs : Array Value), Rep m w0 st a c → RepL c as vs.toList →
    Calls C.P g vs c.w fun e w' => ∃ u v st' c', e = .returned u ∧ c'.w = w' ∧ K v st' = some r ∧ Rep m w0 st' a c' ∧ RepV c' v u)

/-! ### results taken over -/
def HasRow (st : St) (i : Nat) : Prop := ∃ e t l, st.obj i = some (.row e t l)
section
variable {P : Program} {m : MM} {w0 : World} {st : St} {a : Act} {c : Cx}
structure Free (w0 : World) (c : Cx) (bs : List Nat) : Prop where
  nodup : bs.Nodup
  free : ∀ g ∈ bs, ¬ c.ok g ∧ w0.heap.size ≤ g ∧ g < c.w.heap.size ∧ ∀ k', Owns c k' → c.ρ k' ≠ g
/-- One step of binding. -/
structure Bound (m : MM) (w0 : World) (st st' : St) (a : Act) (c c' : Cx) (bs : List Nat) : Prop where
  w : c'.w = c.w
  ok : c'.ok = c.ok
  rep : Rep m w0 st' a c'
  s : st'.s = st.s
  mv : Mv (HasRow st) c c'
  rows : ∀ i, HasRow st i → HasRow st' i
  own : ∀ k', Owns c' k' → c'.ρ k' ∈ bs ∨ ∃ k'', Owns c k'' ∧ c.ρ k'' = c'.ρ k'
theorem Bound.refl (h : Rep m w0 st a c) : Bound m w0 st st a c c [] :=
  ⟨rfl, rfl, h, rfl, ⟨fun _ _ => rfl, fun _ h => h, fun _ _ => rfl, fun _ _ => rfl, fun k e t l _ hl => ⟨e, l, hl, rfl⟩, fun _ ha => ha⟩, fun _ h => h, fun k' hk => .inr ⟨k', hk, rfl⟩⟩
theorem Bound.trans {st st1 st2 : St} {c c1 c2 : Cx} {b1 b2 : List Nat} (h : Bound m w0 st st1 a c c1 b1) (k : Bound m w0 st1 st2 a c1 c2 b2) : Bound m w0 st st2 a c c2 (b1 ++ b2) := by
  refine ⟨k.w.trans h.w, k.ok.trans h.ok, k.rep, k.s.trans h.s, ?_, fun i hi => k.rows i (h.rows i hi), fun k' hk => ?_⟩
  · exact ⟨fun b hb => (k.mv.heap b (h.mv.za b hb)).trans (h.mv.heap b hb), fun b hb => k.mv.ok b (h.mv.ok b hb), fun i hi => (k.mv.ρ i (h.rows i hi)).trans (h.mv.ρ i hi), fun i hi => (k.mv.σ i (h.rows i hi)).trans (h.mv.σ i hi), fun i e t l hi hl => by
      obtain ⟨e', l', h1, h2⟩ := k.mv.ob i e t l (h.rows i hi) hl
      obtain ⟨e2, l2, h3, h4⟩ := h.mv.ob i _ _ _ hi h1
      exact ⟨e2, l2, h3, by omega⟩, fun b hb => k.mv.a b (h.mv.a b hb)⟩
  · rcases k.own k' hk with h1 | ⟨k2, h1, h2⟩
    · exact .inl (List.mem_append_right _ h1)
    · rcases h.own k2 h1 with h3 | ⟨k3, h3, h4⟩
      · exact .inl (List.mem_append_left _ (h2 ▸ h3))
      · exact .inr ⟨k3, h3, h4.trans h2⟩
theorem Free.next {c c1 : Cx} {st st1 : St} {b1 b2 : List Nat} (h : Free w0 c (b1 ++ b2)) (k : Bound m w0 st st1 a c c1 b1) : Free w0 c1 b2 := by
  obtain ⟨n1, n2, n3⟩ := List.nodup_append.1 h.nodup
  refine ⟨n2, fun g hg => ?_⟩
  obtain ⟨f1, f2, f3, f4⟩ := h.free g (List.mem_append_right _ hg)
  refine ⟨by rw [k.ok]; exact f1, f2, by rw [k.w]; exact f3, fun k' hk => ?_⟩
  rcases k.own k' hk with h1 | ⟨k2, h1, h2⟩
  · exact n3 _ h1 _ hg
  · rw [← h2]; exact f4 k2 h1
theorem Free.left {c : Cx} {b1 b2 : List Nat} (h : Free w0 c (b1 ++ b2)) : Free w0 c b1 :=
  ⟨(List.nodup_append.1 h.nodup).1, fun g hg => h.free g (List.mem_append_left _ hg)⟩
def BdV (st : St) (p : PV) : Prop := ∀ i, p.refs i = true → HasRow st i
def BdL (st : St) (l : List PV) : Prop := ∀ i, PV.refsL l i = true → HasRow st i

theorem shut_mv (st : St) : Mv (fun _ => False) (shut c.w c.ok) c := ⟨fun _ _ => rfl, fun _ h => h, fun _ h => h.elim, fun _ h => h.elim, fun _ _ _ _ h => h.elim, fun _ h => h.elim⟩
theorem bindLeaf_sound (h : Rep m w0 st a c) {k : Nat} {p p' : PV} {v : Value} {bs : List Nat} {st' : St} (hr : ResLeaf c.w c.ok p v bs) (hf : Free w0 c bs) (hb : bindLeaf st k p = some (p', st')) :
    ∃ c', Bound m w0 st st' a c c' bs ∧ RepV c' p' v ∧ BdV st' p' := by
  have plain : (∀ i, p.refs i = false) → p = p' → st = st' → bs = [] → RepV (shut c.w c.ok) p v → ∃ c', Bound m w0 st st' a c c' bs ∧ RepV c' p' v ∧ BdV st' p' := by
    rintro hn rfl rfl rfl hv
    exact ⟨c, Bound.refl h, RepV.move (shut_mv st) _ _ (fun i hi => by rw [hn i] at hi; simp at hi) hv, fun i hi => by rw [hn i] at hi; simp at hi⟩
  cases p <;> simp only [bindLeaf] at hb <;> try (simp at hb; done)
  case fresh e t l =>
    split at hb
    · rename_i st1 hn
      simp only [Option.some.injEq, Prod.mk.injEq] at hb
      obtain ⟨rfl, rfl⟩ := hb
      obtain ⟨g1, g2, g3, g4, g5, g6⟩ := new_spec hn
      obtain ⟨A, n, q1, q2, q3, q4⟩ := hr
      have nok : ∀ i, HasRow st i → i ≠ k := by
        rintro i ⟨e', t', l', hi⟩ rfl
        rcases g4 with g4 | g4 <;> rw [g4] at hi <;> simp at hi
      have fin : ∀ g : Nat, RepO { w := c.w, ok := c.ok, ρ := fun i => if i = k then g else c.ρ i, σ := fun i => if i = k then v else c.σ i, pin := c.pin, a := c.a, ob := st1.obj } k (.row e t l) →
          (OwnsO { w := c.w, ok := c.ok, ρ := fun i => if i = k then g else c.ρ i, σ := fun i => if i = k then v else c.σ i, pin := c.pin, a := c.a, ob := st1.obj } k (.row e t l) → g ∈ bs) →
          ∃ c', Bound m w0 st st1 a c c' bs ∧ RepV c' (.own k) v ∧ BdV st1 (.own k) := by
        intro g hO hw
        have rep := h.newObj hn (w1 := c.w) g v h.kept (Nat.le_refl _) (fun _ _ => rfl) hO (fun hh => by
          obtain ⟨f1, f2, f3, f4⟩ := hf.free g (hw hh)
          exact ⟨f1, .inl f2, f3, f4⟩)
        refine ⟨{ w := c.w, ok := c.ok, ρ := fun i => if i = k then g else c.ρ i, σ := fun i => if i = k then v else c.σ i, pin := c.pin, a := c.a, ob := st1.obj }, ⟨rfl, rfl, rep, g1, ?_, ?_, ?_⟩, ?_, ?_⟩
        · refine ⟨fun _ _ => rfl, fun _ hb => hb, fun i hi => by simp [nok i hi], fun i hi => by simp [nok i hi], fun i e' t' l' hi hl => ⟨e', l', ?_, rfl⟩, fun _ ha => ha⟩
          rw [h.ob]
          simpa [g5, nok i hi] using hl
        · rintro i ⟨e', t', l', hi⟩
          exact ⟨e', t', l', by rw [g5, if_neg (nok i ⟨e', t', l', hi⟩)]; exact hi⟩
        · rintro k' ⟨o', ho, hw'⟩
          by_cases hk : k' = k
          · subst hk
            simp only [g5, if_true, Option.some.injEq] at ho
            subst ho
            exact .inl (by simpa using hw hw')
          · simp only [g5, if_neg hk] at ho
            exact .inr ⟨k', ⟨o', by rw [h.ob]; exact ho, hw'.congr (by simp [hk])⟩, by simp [hk]⟩
        · simp only [RepV]; simp; exact ⟨A, l.length, n, q1⟩
        · intro i hi
          simp only [PV.refs] at hi
          have := beq_true.1 hi
          subst this
          exact ⟨e, t, l, by rw [g5, if_pos rfl]⟩
      rcases q4 with ⟨rfl, rfl⟩ | ⟨g, rfl, rfl, cs, q5, q6, q7, q8⟩
      · refine fin 0 ⟨A, 0, by simpa using q1, q2, q3, .inl rfl⟩ (fun hw => ?_)
        obtain ⟨_, _, _, hh, hm⟩ := hw
        simp only [if_true] at hh
        rw [q1] at hh
        simp at hh
        exact absurd hh.2.2.symm hm
      · exact fin g ⟨some ⟨g, 0, none⟩, n, by simpa using q1, q2, q3, .inr ⟨by simp, cs, by simpa using q5, q6, q7, q8⟩⟩ (fun _ => by simp)
    · simp at hb
  all_goals
    simp only [Option.some.injEq, Prod.mk.injEq] at hb
    exact plain (fun i => by simp [PV.refs]) hb.1 hb.2 hr.1 hr.2
theorem bindLeaves_sound : ∀ {l l' : List PV} {vs : List Value} {bs : List Nat} {st st' : St} {c : Cx} {k : Nat}, Rep m w0 st a c → ResL c.w c.ok l vs bs → Free w0 c bs → bindLeaves st k l = some (l', st') →
    ∃ c', Bound m w0 st st' a c c' bs ∧ RepL c' l' vs ∧ BdL st' l'
  | [], l', vs, bs, st, st', c, k, h, hr, hf, hb => by
    simp only [bindLeaves, Option.some.injEq, Prod.mk.injEq] at hb
    obtain ⟨rfl, rfl⟩ := hb
    obtain ⟨rfl, rfl⟩ := hr
    exact ⟨c, Bound.refl h, by simp [RepL], fun i hi => by simp [PV.refsL] at hi⟩
  | p :: q, l', vs, bs, st, st', c, k, h, hr, hf, hb => by
    obtain ⟨v, r', b1, b2, rfl, rfl, hv, hr⟩ := hr
    simp only [bindLeaves] at hb
    split at hb
    · rename_i v1 st1 h1
      split at hb
      · rename_i r1 st2 h2
        simp only [Option.some.injEq, Prod.mk.injEq] at hb
        obtain ⟨rfl, rfl⟩ := hb
        obtain ⟨c1, B1, hv1, bd1⟩ := bindLeaf_sound h hv hf.left h1
        obtain ⟨c2, B2, hr2, bd2⟩ := bindLeaves_sound B1.rep (by rw [B1.w, B1.ok]; exact hr) (hf.next B1) h2
        refine ⟨c2, B1.trans B2, ?_, fun i hi => ?_⟩
        · simp only [RepL]
          exact ⟨v, r', rfl, RepV.move B2.mv _ _ bd1 hv1, hr2⟩
        · simp only [PV.refsL, Bool.or_eq_true] at hi
          rcases hi with hi | hi
          · exact B2.rows i (bd1 i hi)
          · exact bd2 i hi
      · simp at hb
    · simp at hb
theorem bindOne_sound (h : Rep m w0 st a c) {k : Nat} {p p' : PV} {v : Value} {bs : List Nat} {st' : St} (hr : ResOne c.w c.ok p v bs) (hf : Free w0 c bs) (hb : bindOne st k p = some (p', st')) :
    ∃ c', Bound m w0 st st' a c c' bs ∧ RepV c' p' v ∧ BdV st' p' := by
  cases p <;> simp only [bindOne] at hb <;> try (simp only [ResOne] at hr; exact bindLeaf_sound h hr hf hb)
  split at hb
  · rename_i l1 st1 h1
    simp only [Option.some.injEq, Prod.mk.injEq] at hb
    obtain ⟨rfl, rfl⟩ := hb
    obtain ⟨x, rfl, hl⟩ := hr
    obtain ⟨c1, B1, hr1, bd1⟩ := bindLeaves_sound h hl hf h1
    exact ⟨c1, B1, by simp only [RepV]; exact ⟨x, rfl, hr1⟩, fun i hi => bd1 i (by simpa [PV.refs] using hi)⟩
  · simp at hb
theorem bindAll_sound : ∀ {l l' : List PV} {vs : List Value} {bs : List Nat} {st st' : St} {c : Cx} {k : Nat}, Rep m w0 st a c → ResAll c.w c.ok l vs bs → Free w0 c bs → bindAll st k l = some (l', st') →
    ∃ c', Bound m w0 st st' a c c' bs ∧ RepL c' l' vs ∧ BdL st' l'
  | [], l', vs, bs, st, st', c, k, h, hr, hf, hb => by
    simp only [bindAll, Option.some.injEq, Prod.mk.injEq] at hb
    obtain ⟨rfl, rfl⟩ := hb
    obtain ⟨rfl, rfl⟩ := hr
    exact ⟨c, Bound.refl h, by simp [RepL], fun i hi => by simp [PV.refsL] at hi⟩
  | p :: q, l', vs, bs, st, st', c, k, h, hr, hf, hb => by
    obtain ⟨v, r', b1, b2, rfl, rfl, hv, hr⟩ := hr
    simp only [bindAll] at hb
    split at hb
    · rename_i v1 st1 h1
      split at hb
      · rename_i r1 st2 h2
        simp only [Option.some.injEq, Prod.mk.injEq] at hb
        obtain ⟨rfl, rfl⟩ := hb
        obtain ⟨c1, B1, hv1, bd1⟩ := bindOne_sound h hv hf.left h1
        obtain ⟨c2, B2, hr2, bd2⟩ := bindAll_sound B1.rep (by rw [B1.w, B1.ok]; exact hr) (hf.next B1) h2
        refine ⟨c2, B1.trans B2, ?_, fun i hi => ?_⟩
        · simp only [RepL]
          exact ⟨v, r', rfl, RepV.move B2.mv _ _ bd1 hv1, hr2⟩
        · simp only [PV.refsL, Bool.or_eq_true] at hi
          rcases hi with hi | hi
          · exact B2.rows i (bd1 i hi)
          · exact bd2 i hi
      · simp at hb
    · simp at hb
theorem bindRes_sound (h : Rep m w0 st a c) {d : Nat} {p p' : PV} {v : Value} {bs : List Nat} {st' : St} (hr : ResV c.w c.ok p v bs) (hf : Free w0 c bs) (hb : bindRes st d p = some (p', st')) :
    ∃ c', Bound m w0 st st' a c c' bs ∧ RepV c' p' v ∧ BdV st' p' := by
  cases p <;> simp only [bindRes] at hb <;> try (simp only [ResV] at hr; exact bindOne_sound h hr hf hb)
  split at hb
  · rename_i l1 st1 h1
    simp only [Option.some.injEq, Prod.mk.injEq] at hb
    obtain ⟨rfl, rfl⟩ := hb
    obtain ⟨x, rfl, hl⟩ := hr
    obtain ⟨c1, B1, hr1, bd1⟩ := bindAll_sound h hl hf h1
    exact ⟨c1, B1, by simp only [RepV]; exact ⟨x, rfl, hr1⟩, fun i hi => bd1 i (by simpa [PV.refs] using hi)⟩
  · simp at hb
end
end Go.Fw
