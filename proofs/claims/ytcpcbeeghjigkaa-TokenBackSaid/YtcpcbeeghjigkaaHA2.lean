/- Part of a proof: what the program's functions come to. -/
import Derived.Test.YtcpcbeeghjigkaaHA1
set_option linter.unusedVariables false
set_option linter.unusedSimpArgs false
namespace Go.Proofs.Ytcpcbeeghjigkaa.R3
open Go Go.Fw Go.Proofs RB
set_option maxRecDepth 20000
/-! ### what tags come to: plain -/
theorem valid.snoc {a : List Tm} {n : Tm} (h : valid a) (hn : n ∉ a) (hu : -1 ≤ n.2.1 ∧ n.2.1 < a.length) (hk : -1 < n.2.1 → n.1 = 0) (ht : n.2.2.length ≤ 4096) (hl : a.length ≠ 1048576) : valid (a ++ [n]) := by
  refine ⟨by have := h.len; simp; omega, fun i hi => ?_⟩
  simp only [List.length_append, List.length_singleton] at hi
  by_cases hlt : i < a.length
  · have e1 : (a ++ [n]).take i = a.take i := by rw [List.take_append_of_le_length (by omega)]
    have e2 : (a ++ [n])[i]'(by simp; omega) = a[i] := List.getElem_append_left hlt
    rw [e1, e2]
    exact h.ok i hlt
  · have : i = a.length := by omega
    subst this
    have e1 : (a ++ [n]).take a.length = a := by simp
    have e2 : (a ++ [n])[a.length]'(by simp) = n := by simp
    rw [e1, e2]
    exact ⟨hn, hu, hk, ht⟩
theorem putA_ok {a b : List Tm} {n : Tm} {x : Int} (h : putA a n = (b, x, 0)) : valid a ∧ n.2.1 < a.length ∧ n ∈ b ∧ x = (ix b n : Int) ∧ a <+: b ∧ b.length ≤ a.length + 1 ∧ ((-1 ≤ n.2.1 ∧ (-1 < n.2.1 → n.1 = 0)) → valid b) := by
  unfold putA at h
  by_cases h1 : ¬ valid a ∨ (a.length : Int) ≤ n.2.1
  · rw [if_pos h1] at h; simp at h
  · rw [if_neg h1] at h
    have hv : valid a := Classical.byContradiction fun q => h1 (.inl q)
    have hu : n.2.1 < a.length := by
      have : ¬ (a.length : Int) ≤ n.2.1 := fun q => h1 (.inr q)
      omega
    by_cases h2 : 4096 < n.2.2.length
    · rw [if_pos h2] at h; simp at h
    · rw [if_neg h2] at h
      by_cases h3 : n ∈ a
      · rw [if_pos h3] at h
        simp only [Prod.mk.injEq, and_true] at h
        obtain ⟨rfl, rfl⟩ := h
        exact ⟨hv, hu, h3, rfl, List.prefix_refl _, by omega, fun _ => hv⟩
      · rw [if_neg h3] at h
        by_cases h4 : a.length = 1048576
        · rw [if_pos h4] at h; simp at h
        · rw [if_neg h4] at h
          simp only [Prod.mk.injEq, and_true] at h
          obtain ⟨rfl, rfl⟩ := h
          exact ⟨hv, hu, by simp, by rw [ix_new h3], List.prefix_append _ _, by simp, fun q => hv.snoc h3 ⟨q.1, hu⟩ q.2 (by omega) h4⟩
theorem putA_same {a : List Tm} {n : Tm} (hv : valid a) (hn : n ∈ a) : putA a n = (a, (ix a n : Int), 0) := by
  have ht := hv.text n hn
  obtain ⟨i, hi, he⟩ := List.getElem_of_mem hn
  have hk := (hv.ok i hi).2.1
  rw [he, List.length_take] at hk
  unfold putA
  rw [if_neg (by rintro (q | q); exact q hv; omega), if_neg (by omega), if_pos hn]
noncomputable def nextA (s : List Tm × Int × Int) (t : List Int) : List Tm × Int × Int :=
  if s.2.2 = 0 then (if s.2.1 < 0 then ([], 0, 1) else putA s.1 (0, (s.2.1, t))) else s
theorem F18_eq (a : List Tm) (k : Int) (t : List Int) : F18 (a, k, t) = some (putA a (k, (-1, t))) := by
  unfold F18; simp only [F51_eq, Option.bind_some]
theorem F20_eq (a : List Tm) (g : Int) (t : List Int) : F20 (a, g, t) = some (if g < 0 then ([], 0, 1) else putA a (0, (g, t))) := by
  unfold F20
  by_cases h : g < 0
  · simp [h]
  · simp only [h, decide_false, cond_false, F51_eq, Option.bind_some, if_false]
theorem F26_eq (a : List Tm) (k : Int) (t : List Int) (l : List (List Int)) (hl : l.length ≤ 9223372036854775807) :
    F26 (a, k, t, l) = some ((l.foldl nextA (putA a (k, (-1, t)))).1, (l.foldl nextA (putA a (k, (-1, t)))).2.1, decide ((l.foldl nextA (putA a (k, (-1, t)))).2.2 = 0)) := by
  unfold F26
  simp only [F18_eq, Option.bind_some]
  generalize putA a (k, (-1, t)) = s0
  refine lfp_rule (fun (x : Int × Int × Int × List Tm) => ∃ i : Nat, x.2.2.1 = (i : Int) ∧ i ≤ l.length ∧ (x.2.2.2, x.1, x.2.1) = (l.take i).foldl nextA s0) (fun x => l.length - x.2.2.1.toNat)
    (fun _ => ((l.foldl nextA s0).1, (l.foldl nextA s0).2.1, decide ((l.foldl nextA s0).2.2 = 0))) ?_ _ ⟨0, rfl, by omega, by simp⟩
  rintro ⟨g, e, i', b⟩ ⟨i, hi', hi, hst⟩ rec hrec
  simp only at hi' hst
  subst hi'
  simp only
  by_cases hlt : i < l.length
  · have k1 : ((i : Int) < (l.length : Int)) := by omega
    have hstep : (l.take (i + 1)).foldl nextA s0 = nextA (b, g, e) l[i] := by
      rw [List.take_succ_eq_append_getElem hlt, List.foldl_append, ← hst]; rfl
    simp only [k1, decide_true, cond_true, inb_true (Int.natCast_nonneg i) k1, rd_nat (t := .slice 5 (.int .u8)) hlt, F20_eq, Option.bind_some]
    rw [RB.wrap_i64 (n := (i : Int) + 1) (by omega) (by omega)]
    by_cases he : e = 0
    · simp only [he, decide_true, cond_true]
      refine hrec _ ⟨i + 1, by simp, by omega, ?_⟩ (by simp only; omega)
      rw [hstep]
      simp only [nextA, he, if_true]
    · simp only [he, decide_false, cond_false]
      refine hrec _ ⟨i + 1, by simp, by omega, ?_⟩ (by simp only; omega)
      rw [hstep]
      simp only [nextA, he, if_false]
  · have k1 : ¬ ((i : Int) < (l.length : Int)) := by omega
    have hie : i = l.length := by omega
    simp only [k1, decide_false, cond_false]
    rw [hie, List.take_length] at hst
    rw [← hst]
/-- From a tag, by texts. -/
def wk (a : List Tm) : Nat → List (List Int) → Option Nat
  | x, [] => some x
  | x, t :: r => if (0, ((x : Int), t)) ∈ a then wk a (ix a (0, ((x : Int), t))) r else none
def look (a : List Tm) (k : Int) (t : List Int) (l : List (List Int)) : Option Nat := if (k, ((-1 : Int), t)) ∈ a then wk a (ix a (k, (-1, t))) l else none
theorem pre_ix {a b : List Tm} {n : Tm} (h : a <+: b) (hn : n ∈ a) : n ∈ b ∧ ix b n = ix a n := by
  obtain ⟨c, rfl⟩ := h
  exact ⟨List.mem_append_left _ hn, ix_append c hn⟩
theorem wk_mono {a b : List Tm} (h : a <+: b) : ∀ (l : List (List Int)) (x y : Nat), wk a x l = some y → wk b x l = some y
  | [], _, _, he => he
  | t :: r, x, y, he => by
    simp only [wk] at he ⊢
    split at he
    · rename_i hm
      obtain ⟨h1, h2⟩ := pre_ix h hm
      rw [if_pos h1, h2]
      exact wk_mono h r _ _ he
    · simp at he
theorem look_mono {a b : List Tm} (h : a <+: b) {k : Int} {t : List Int} {l : List (List Int)} {y : Nat} (he : look a k t l = some y) : look b k t l = some y := by
  unfold look at he ⊢
  split at he
  · rename_i hm
    obtain ⟨h1, h2⟩ := pre_ix h hm
    rw [if_pos h1, h2]
    exact wk_mono h l _ _ he
  · simp at he
theorem next_err : ∀ (l : List (List Int)) (s : List Tm × Int × Int), s.2.2 ≠ 0 → l.foldl nextA s = s
  | [], _, _ => rfl
  | t :: r, s, h => by
    rw [List.foldl_cons, show nextA s t = s by simp [nextA, h]]
    exact next_err r s h
theorem made_spec : ∀ (l : List (List Int)) (a : List Tm) (x : Nat), valid a → x < a.length → ∀ b y, l.foldl nextA (a, (x : Int), 0) = (b, y, 0) →
    valid b ∧ a <+: b ∧ b.length ≤ a.length + l.length ∧ ∃ y' : Nat, y = (y' : Int) ∧ y' < b.length ∧ wk b x l = some y'
  | [], a, x, hv, hx, b, y, h => by
    simp only [List.foldl_nil, Prod.mk.injEq, and_true] at h
    obtain ⟨rfl, rfl⟩ := h
    exact ⟨hv, List.prefix_refl _, by simp, x, rfl, hx, rfl⟩
  | t :: r, a, x, hv, hx, b, y, h => by
    rw [List.foldl_cons] at h
    have hn : nextA (a, (x : Int), 0) t = putA a (0, ((x : Int), t)) := by
      simp only [nextA, if_true]
      rw [if_neg (by omega)]
    rw [hn] at h
    rcases hp : putA a (0, ((x : Int), t)) with ⟨b1, y1, e1⟩
    rw [hp] at h
    by_cases he : e1 = 0
    · subst he
      obtain ⟨_, _, h3, h4, h5, h6, h7⟩ := putA_ok hp
      have hv1 : valid b1 := h7 ⟨by simp only; omega, fun _ => rfl⟩
      subst h4
      obtain ⟨g1, g2, g3, y', g4, g5, g6⟩ := made_spec r b1 _ hv1 (ix_lt h3) b y h
      obtain ⟨q1, q2⟩ := pre_ix g2 h3
      refine ⟨g1, h5.trans g2, by simp; omega, y', g4, g5, ?_⟩
      simp only [wk]
      rw [if_pos q1, q2]
      exact g6
    · rw [next_err r _ he] at h
      simp only [Prod.mk.injEq] at h
      exact absurd h.2.2 he
theorem made_same : ∀ (l : List (List Int)) (a : List Tm) (x y : Nat), valid a → wk a x l = some y → l.foldl nextA (a, (x : Int), 0) = (a, (y : Int), 0)
  | [], a, x, y, hv, h => by simp only [wk, Option.some.injEq] at h; subst h; rfl
  | t :: r, a, x, y, hv, h => by
    simp only [wk] at h
    split at h
    · rename_i hm
      have hn : nextA (a, (x : Int), 0) t = putA a (0, ((x : Int), t)) := by
        simp only [nextA, if_true]
        rw [if_neg (by omega)]
      rw [List.foldl_cons, hn, putA_same hv hm]
      exact made_same r a _ y hv h
    · simp at h
theorem made_root {a b : List Tm} {k : Int} {t : List Int} {l : List (List Int)} {y : Int} (h : l.foldl nextA (putA a (k, (-1, t))) = (b, y, 0)) :
    valid a ∧ valid b ∧ a <+: b ∧ b.length ≤ a.length + 1 + l.length ∧ ∃ y' : Nat, y = (y' : Int) ∧ y' < b.length ∧ look b k t l = some y' := by
  rcases hp : putA a (k, (-1, t)) with ⟨b1, y1, e1⟩
  rw [hp] at h
  by_cases he : e1 = 0
  · subst he
    obtain ⟨h1, _, h3, h4, h5, h6, h7⟩ := putA_ok hp
    have hv1 : valid b1 := h7 ⟨by simp, fun q => by simp at q⟩
    subst h4
    obtain ⟨g1, g2, g3, y', g4, g5, g6⟩ := made_spec l b1 _ hv1 (ix_lt h3) b y h
    obtain ⟨q1, q2⟩ := pre_ix g2 h3
    refine ⟨h1, g1, h5.trans g2, by omega, y', g4, g5, ?_⟩
    unfold look
    rw [if_pos q1, q2]
    exact g6
  · rw [next_err l _ he] at h
    simp only [Prod.mk.injEq] at h
    exact absurd h.2.2 he
theorem made_again {a : List Tm} {k : Int} {t : List Int} {l : List (List Int)} {y : Nat} (hv : valid a) (h : look a k t l = some y) : l.foldl nextA (putA a (k, (-1, t))) = (a, (y : Int), 0) := by
  unfold look at h
  split at h
  · rename_i hm
    rw [putA_same hv hm]
    exact made_same l a _ y hv h
  · simp at h
theorem wk_snoc (a : List Tm) (t : List Int) : ∀ (l : List (List Int)) (x y : Nat), wk a x (l ++ [t]) = some y → ∃ z, wk a x l = some z ∧ (0, ((z : Int), t)) ∈ a ∧ y = ix a (0, ((z : Int), t))
  | [], x, y, h => by
    simp only [List.nil_append, wk] at h
    split at h
    · rename_i hm
      simp only [Option.some.injEq] at h
      exact ⟨x, rfl, hm, h.symm⟩
    · simp at h
  | s :: r, x, y, h => by
    simp only [List.cons_append, wk] at h ⊢
    split at h
    · rename_i hm
      rw [if_pos hm]
      exact wk_snoc a t r _ _ h
    · simp at h
theorem look_snoc {a : List Tm} {k : Int} {t s : List Int} {l : List (List Int)} {y : Nat} (h : look a k t (l ++ [s]) = some y) : ∃ z, look a k t l = some z ∧ a[y]? = some (0, ((z : Int), s)) := by
  unfold look at h ⊢
  split at h
  · rename_i hm
    obtain ⟨z, h1, h2, h3⟩ := wk_snoc a s l _ _ h
    exact ⟨z, by rw [if_pos hm]; exact h1, by rw [h3]; exact ix_get h2⟩
  · simp at h
theorem look_root {a : List Tm} {k : Int} {t : List Int} {y : Nat} (h : look a k t [] = some y) : a[y]? = some (k, (-1, t)) := by
  unfold look at h
  split at h
  · rename_i hm
    simp only [wk, Option.some.injEq] at h
    rw [← h]; exact ix_get hm
  · simp at h
/-- THE STAGE'S: a tag tells its key, and all its texts. -/
theorem look_inj {a : List Tm} {k k' : Int} {t t' : List Int} : ∀ (n : Nat) (l l' : List (List Int)) (y : Nat), l.length ≤ n → look a k t l = some y → look a k' t' l' = some y → k = k' ∧ t = t' ∧ l = l' := by
  intro n
  induction n with
  | zero =>
    intro l l' y hn h h'
    have hl : l = [] := List.length_eq_zero_iff.1 (by omega)
    subst hl
    have h1 := look_root h
    rcases List.eq_nil_or_concat l' with rfl | ⟨m, s, rfl⟩
    · have h2 := look_root h'
      rw [h1] at h2
      simp only [Option.some.injEq, Prod.mk.injEq, true_and] at h2
      exact ⟨h2.1, h2.2, rfl⟩
    · obtain ⟨z, _, h2⟩ := look_snoc (by simpa using h')
      rw [h1] at h2
      simp only [Option.some.injEq, Prod.mk.injEq] at h2
      omega
  | succ n ih =>
    intro l l' y hn h h'
    rcases List.eq_nil_or_concat l with rfl | ⟨m, s, rfl⟩
    · have h1 := look_root h
      rcases List.eq_nil_or_concat l' with rfl | ⟨m', s', rfl⟩
      · have h2 := look_root h'
        rw [h1] at h2
        simp only [Option.some.injEq, Prod.mk.injEq, true_and] at h2
        exact ⟨h2.1, h2.2, rfl⟩
      · obtain ⟨z, _, h2⟩ := look_snoc (by simpa using h')
        rw [h1] at h2
        simp only [Option.some.injEq, Prod.mk.injEq] at h2
        omega
    · obtain ⟨z, g1, g2⟩ := look_snoc (by simpa using h)
      rcases List.eq_nil_or_concat l' with rfl | ⟨m', s', rfl⟩
      · have h2 := look_root h'
        rw [g2] at h2
        simp only [Option.some.injEq, Prod.mk.injEq] at h2
        omega
      · obtain ⟨z', g3, g4⟩ := look_snoc (by simpa using h')
        rw [g2] at g4
        simp only [Option.some.injEq, Prod.mk.injEq, true_and] at g4
        have hz : z = z' := by omega
        subst hz
        have hm : m.length ≤ n := by simp at hn; omega
        obtain ⟨e1, e2, e3⟩ := ih m m' z hm g1 g3
        exact ⟨e1, e2, by rw [e3, g4.2]⟩
end Go.Proofs.Ytcpcbeeghjigkaa.R3
