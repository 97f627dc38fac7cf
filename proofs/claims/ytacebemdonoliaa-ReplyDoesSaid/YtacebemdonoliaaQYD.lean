/- Part of a proof: what the program's functions come to. -/
import Derived.Test.YtacebemdonoliaaQYB
set_option linter.unusedVariables false
set_option linter.unusedSimpArgs false
namespace Go.Proofs.Ytacebemdonoliaa.R4
open Go Go.Fw Go.Proofs RB
set_option maxRecDepth 20000
def fin (c : Cv) (rest : List Int) : Cv × Int := if rest ≠ [] ∨ chk c ≠ 0 then ((0, (0, 0)), 2) else (c, 0)
def getC2 (n a : Int) (b : List Int) : Cv × Int := if (get1 b).2.2 ≠ 0 then ((0, (0, 0)), (get1 b).2.2) else fin (n, (a, (get1 b).1)) (b.drop (get1 b).2.1.toNat)
def getC1 (n : Int) (b : List Int) : Cv × Int := if (get1 b).2.2 ≠ 0 then ((0, (0, 0)), (get1 b).2.2) else
  if n = 4 then getC2 n (get1 b).1 (b.drop (get1 b).2.1.toNat) else fin (n, ((get1 b).1, 0)) (b.drop (get1 b).2.1.toNat)
def getC (b : List Int) : Cv × Int := if (get1 b).2.2 ≠ 0 then ((0, (0, 0)), (get1 b).2.2) else
  if (get1 b).1 < 1 ∨ 5 < (get1 b).1 then ((0, (0, 0)), 2) else getC1 (get1 b).1 (b.drop (get1 b).2.1.toNat)
theorem pos_len (r : List Int) : decide ((0 : Int) < (r.length : Int)) = decide (r ≠ []) := by
  cases r with
  | nil => rfl
  | cons a r => rw [decide_eq_true (by simp only [List.length_cons]; omega), decide_eq_true (by simp)]
theorem fin_form (c : Cv) (rest : List Int) : (bif (decide (rest ≠ []) == false) then (bif (!decide (chk c = 0)) then some (((0, (0, 0)), 2) : Cv × Int) else some (c, 0)) else some ((0, (0, 0)), 2)) = some (fin c rest) := by
  unfold fin
  by_cases r0 : rest = []
  · by_cases ck : chk c = 0 <;> simp [r0, ck]
  · simp [r0]
theorem small5_i64 {n : Int} (h0 : 1 ≤ n) (h1 : n ≤ 5) : IntKind.wrap .i64 n = n := wrap_i64 (by omega) (by omega)
theorem small5_u64 {n : Int} (h0 : 1 ≤ n) (h1 : n ≤ 5) : IntKind.wrap .u64 n = n := wrap_u64 (by omega) (by omega)
/-- What reading one comes to. -/
theorem get1_casesQ {b : List Int} (h : ∀ n ∈ b, Byte n) : ((get1 b).2.2 = 0 ∧ U64 (get1 b).1 ∧ inb (get1 b).2.1 (b.length + 1) = true ∧ enc1 (get1 b).1 ++ b.drop (get1 b).2.1.toNat = b ∧ (b.drop (get1 b).2.1.toNat).length < b.length) ∨ ((get1 b).2.2 ≠ 0 ∧ decide ((get1 b).2.2 = 0) = false) := by
  rcases get1_ok h (y := (get1 b).1) (m := (get1 b).2.1) (e := (get1 b).2.2) rfl with ⟨h1, h2, h3, h4, h5, h6⟩ | ⟨h1, _⟩
  · left
    refine ⟨h1, ⟨h2, h3⟩, inb_true (by omega) (by omega), by rw [h6]; exact List.take_append_drop _ _, ?_⟩
    rw [List.length_drop]; omega
  · right; exact ⟨h1, decide_eq_false h1⟩
theorem drop_byte {b : List Int} (h : ∀ n ∈ b, Byte n) (k : Nat) : ∀ n ∈ b.drop k, Byte n := fun n hn => h n (List.mem_of_mem_drop hn)
theorem cv_small {k a b : Int} (h0 : 1 ≤ k) (h1 : k ≤ 5) (ha : U64 a) (hb : U64 b) : CvOk (k, (a, b)) := ⟨⟨by simp only; omega, by simp only; omega⟩, ha, hb⟩
theorem u64_0 : U64 0 := ⟨by omega, by omega⟩
def post28 (x : List Int × Int × Int × Int × List Int) : Cv × Int :=
  if x.2.2.2.1 = 0 then getC x.1 else if x.2.2.2.1 = 1 then getC1 (x.2.2.2.2.getD 0 0) x.1 else
  if x.2.2.2.1 = 2 then (if x.2.2.2.2.getD 0 0 = 4 then getC2 (x.2.2.2.2.getD 0 0) (x.2.2.2.2.getD 1 0) x.1 else fin (x.2.2.2.2.getD 0 0, (x.2.2.2.2.getD 1 0, 0)) x.1) else
  fin (x.2.2.2.2.getD 0 0, (x.2.2.2.2.getD 1 0, x.2.2.2.2.getD 2 0)) x.1
theorem F93_eq {b : List Int} (h : ∀ n ∈ b, Byte n) (hl : b.length ≤ 4611686018427387904) : F93 b = some (getC b) := by
  unfold F93
  refine (lfp_rule (fun x => (∀ n ∈ x.1, Byte n) ∧ x.1.length ≤ 4611686018427387904 ∧
    ((x.2.2.2.1 = 0 ∧ x.2.2.1 = 2 ∧ x.2.2.2.2 = [0, 0, 0]) ∨
     (∃ n, 1 ≤ n ∧ n ≤ 5 ∧ x.2.2.2.1 = 1 ∧ x.2.2.1 = (if n = 4 then 3 else 2) ∧ x.2.2.2.2 = [n, 0, 0]) ∨
     (∃ n a, 1 ≤ n ∧ n ≤ 5 ∧ U64 a ∧ x.2.2.2.1 = 2 ∧ x.2.2.1 = (if n = 4 then 3 else 2) ∧ x.2.2.2.2 = [n, a, 0]) ∨
     (∃ a c, U64 a ∧ U64 c ∧ x.2.2.2.1 = 3 ∧ x.2.2.1 = 3 ∧ x.2.2.2.2 = [4, a, c]))) (fun x => 3 - x.2.2.2.1.toNat) post28 ?_ (b, (0 : Int), (2 : Int), (0 : Int), [0, 0, 0]) ⟨h, hl, .inl ⟨rfl, rfl, rfl⟩⟩).trans (by simp [post28])
  rintro ⟨b, q, many, i, arr⟩ ⟨hb, hlen, hx⟩ rec hrec
  simp only at hb hlen hx
  have fin_ok : ∀ (n a c : Int), 1 ≤ n → n ≤ 5 → U64 a → U64 c → i = many → arr = [n, a, c] → (many = 2 ∨ many = 3) →
      (bif inb 0 3 then bif inb 1 3 then bif inb 2 3 then
        bif (decide (0 < (b.length : Int)) == false) then (
        (F76 ((IntKind.wrap .i64 (rd (.int .u64) arr 0)), ((rd (.int .u64) arr 1), (rd (.int .u64) arr 2)))).bind fun r3 =>
        bif (!decide (r3 = 0)) then some (((0, (0, 0)), 2) : Cv × Int)
        else some (((IntKind.wrap .i64 (rd (.int .u64) arr 0)), ((rd (.int .u64) arr 1), (rd (.int .u64) arr 2))), 0))
        else some ((0, (0, 0)), 2)
        else none else none else none) = some (fin (n, (a, c)) b) := by
    intro n a c hn hn2 ha hc hi harr hm
    subst harr
    have r0 : rd (.int .u64) [n, a, c] 0 = n := rfl
    have r1 : rd (.int .u64) [n, a, c] 1 = a := rfl
    have r2 : rd (.int .u64) [n, a, c] 2 = c := rfl
    rw [r0, r1, r2, small5_i64 hn hn2, F76_eq (cv_small hn hn2 ha hc)]
    simp only [show inb 0 3 = true from rfl, show inb 1 3 = true from rfl, show inb 2 3 = true from rfl, cond_true, pos_len, Option.bind_some]
    exact fin_form _ _
  rcases hx with ⟨hi, hm, harr⟩ | ⟨n, hn, hn2, hi, hm, harr⟩ | ⟨n, a, hn, hn2, ha, hi, hm, harr⟩ | ⟨a, c, ha, hc, hi, hm, harr⟩
  · subst hi; subst hm; subst harr
    simp only [show decide ((0 : Int) < 2) = true from rfl, cond_true, F52_eq hb hlen, Option.bind_some, post28, if_true, getC, decide_true, beq_self_eq_true, Bool.true_eq]
    rcases get1_casesQ hb with ⟨e0, hy, hin, hs, hlt⟩ | ⟨e0, e1⟩
    · simp only [e0, decide_true, Bool.not_true, cond_false, ne_eq, not_true_eq_false, if_false]
      by_cases q1 : (get1 b).1 < 1
      · simp [q1]
      by_cases q2 : 5 < (get1 b).1
      · simp [q2]
      simp only [q1, q2, decide_false, cond_false, or_self, if_false, hin, cond_true, show inb 0 3 = true from rfl]
      have h2 := drop_byte hb (get1 b).2.1.toNat
      have w1 : IntKind.wrap .i64 ((0 : Int) + 1) = 1 := by decide
      have w2 : IntKind.wrap .i64 ((2 : Int) + 1) = 3 := by decide
      have hset : ([0, 0, 0] : List Int).set (Int.toNat 0) (get1 b).1 = [(get1 b).1, 0, 0] := rfl
      by_cases q4 : (get1 b).1 = 4
      · simp only [q4, decide_true, cond_true, w1, w2]
        rw [← q4, hset, hrec (b.drop (get1 b).2.1.toNat, q, 3, 1, [(get1 b).1, 0, 0]) ⟨h2, by simp only; omega, .inr (.inl ⟨_, by omega, by omega, rfl, by simp [q4], rfl⟩)⟩ (by simp)]
        simp [post28]
      · simp only [q4, decide_false, cond_false, w1]
        rw [hset, hrec (b.drop (get1 b).2.1.toNat, q, 2, 1, [(get1 b).1, 0, 0]) ⟨h2, by simp only; omega, .inr (.inl ⟨_, by omega, by omega, rfl, by simp [q4], rfl⟩)⟩ (by simp)]
        simp [post28]
    · simp only [e1, decide_false, Bool.not_false, cond_true, e0, ne_eq, not_false_eq_true, if_true]
  · subst hi; subst harr
    have k1 : decide ((1 : Int) < many) = true := by rw [hm]; split <;> rfl
    simp only [k1, cond_true, F52_eq hb hlen, Option.bind_some, post28, getC1, show ¬ ((1 : Int) = 0) by omega, if_false, if_true, decide_false, List.getD_cons_zero, show (false == true) = false from rfl, cond_false]
    rcases get1_casesQ hb with ⟨e0, hy, hin, hs, hlt⟩ | ⟨e0, e1⟩
    · simp only [e0, decide_true, Bool.not_true, cond_false, ne_eq, not_true_eq_false, if_false, hin, cond_true, show inb 1 3 = true from rfl]
      have h2 := drop_byte hb (get1 b).2.1.toNat
      have w1 : IntKind.wrap .i64 ((1 : Int) + 1) = 2 := by decide
      have hset : ([n, 0, 0] : List Int).set (Int.toNat 1) (get1 b).1 = [n, (get1 b).1, 0] := rfl
      rw [w1, hset, hrec (b.drop (get1 b).2.1.toNat, q, many, 2, [n, (get1 b).1, 0]) ⟨h2, by simp only; omega, .inr (.inr (.inl ⟨n, _, by omega, by omega, hy, rfl, hm, rfl⟩))⟩ (by simp)]
      simp [post28]
    · simp only [e1, decide_false, Bool.not_false, cond_true, e0, ne_eq, not_false_eq_true, if_true]
  · subst hi
    by_cases q4 : n = 4
    · subst q4
      simp only [if_true] at hm
      subst hm; subst harr
      simp only [show decide ((2 : Int) < 3) = true from rfl, cond_true, F52_eq hb hlen, Option.bind_some, post28, getC2, show ¬ ((2 : Int) = 0) by omega, show ¬ ((2 : Int) = 1) by omega, if_false, if_true, decide_false, List.getD_cons_zero, List.getD_cons_succ, show (false == true) = false from rfl, cond_false]
      rcases get1_casesQ hb with ⟨e0, hy, hin, hs, hlt⟩ | ⟨e0, e1⟩
      · simp only [e0, decide_true, Bool.not_true, cond_false, ne_eq, not_true_eq_false, if_false, hin, cond_true, show inb 2 3 = true from rfl]
        have h2 := drop_byte hb (get1 b).2.1.toNat
        have w1 : IntKind.wrap .i64 ((2 : Int) + 1) = 3 := by decide
        have hset : ([4, a, 0] : List Int).set (Int.toNat 2) (get1 b).1 = [4, a, (get1 b).1] := rfl
        rw [w1, hset, hrec (b.drop (get1 b).2.1.toNat, q, 3, 3, [4, a, (get1 b).1]) ⟨h2, by simp only; omega, .inr (.inr (.inr ⟨a, _, ha, hy, rfl, rfl, rfl⟩))⟩ (by simp)]
        simp [post28]
      · simp only [e1, decide_false, Bool.not_false, cond_true, e0, ne_eq, not_false_eq_true, if_true]
    · rw [if_neg q4] at hm
      have f := fin_ok n a 0 hn hn2 ha u64_0 hm.symm harr (.inl hm)
      subst hm
      simp only [show decide ((2 : Int) < 2) = false from rfl, cond_false]
      refine f.trans ?_
      subst harr
      simp [post28, q4]
  · have f := fin_ok 4 a c (by omega) (by omega) ha hc (by omega) harr (.inr hm)
    subst hi; subst hm
    simp only [show decide ((3 : Int) < 3) = false from rfl, cond_false]
    refine f.trans ?_
    subst harr
    simp [post28]
theorem getC_enc {c : Cv} (hc : CvOk c) (h : chk c = 0) (m : List Int) : getC (encC c ++ m) = if m = [] then (c, 0) else ((0, (0, 0)), 2) := by
  have k := chk_kind h
  obtain ⟨n, a, b⟩ := c
  have hn : U64 n := ⟨by simp only at k; omega, by simp only at k; omega⟩
  have ha : U64 a := hc.2.1
  have hb : U64 b := hc.2.2
  simp only at k
  unfold getC encC
  simp only [List.append_assoc, get1_enc hn.1 hn.2, drop_enc, getC1, get1_enc ha.1 ha.2]
  have k1 : ¬ (n < 1 ∨ 5 < n) := by omega
  simp only [ne_eq, not_true_eq_false, if_false, k1]
  by_cases h4 : n = 4
  · subst h4
    simp only [if_true, getC2, get1_enc hb.1 hb.2, drop_enc, not_true_eq_false, if_false, fin, h]
    by_cases hm : m = [] <;> simp [hm]
  · simp only [h4, if_false, fin, List.nil_append]
    have : b = 0 := k.2.2.2.1 h4
    subst this
    by_cases hm : m = [] <;> simp [hm, h]
theorem getC_ok {b : List Int} (hb : ∀ n ∈ b, Byte n) {d : Cv} (h : getC b = (d, 0)) : chk d = 0 ∧ CvOk d ∧ encC d = b := by
  unfold getC at h
  rcases get1_casesQ hb with ⟨e0, hy, hi, hs, hlt⟩ | ⟨e0, e1⟩
  · rw [if_neg (fun hh => hh e0)] at h
    split at h
    · simp at h
    · rename_i q
      unfold getC1 at h
      have h2 := drop_byte hb (get1 b).2.1.toNat
      rcases get1_casesQ h2 with ⟨e0', hy', hi', hs', hlt'⟩ | ⟨e0', e1'⟩
      · rw [if_neg (fun hh => hh e0')] at h
        have h3 := drop_byte h2 (get1 (b.drop (get1 b).2.1.toNat)).2.1.toNat
        split at h
        · rename_i q4
          unfold getC2 at h
          rcases get1_casesQ h3 with ⟨e0'', hy'', hi'', hs'', hlt''⟩ | ⟨e0'', e1''⟩
          · rw [if_neg (fun hh => hh e0'')] at h
            unfold fin at h
            split at h
            · simp at h
            · rename_i hf
              simp only [ne_eq, not_or, Classical.not_not] at hf
              simp only [Prod.mk.injEq, and_true] at h
              subst h
              refine ⟨hf.2, cv_small (by omega) (by omega) hy' hy'', ?_⟩
              rw [hf.1, List.append_nil] at hs''
              simp only [encC, q4, if_true]
              rw [hs'', hs', ← q4, hs]
          · rw [if_pos e0''] at h
            simp only [Prod.mk.injEq] at h
            exact absurd h.2 e0''
        · rename_i q4
          unfold fin at h
          split at h
          · simp at h
          · rename_i hf
            simp only [ne_eq, not_or, Classical.not_not] at hf
            simp only [Prod.mk.injEq, and_true] at h
            subst h
            refine ⟨hf.2, cv_small (by omega) (by omega) hy' u64_0, ?_⟩
            rw [hf.1, List.append_nil] at hs'
            simp only [encC, q4, if_false, List.append_nil]
            rw [hs', hs]
      · rw [if_pos e0'] at h
        simp only [Prod.mk.injEq] at h
        exact absurd h.2 e0'
  · rw [if_pos e0] at h
    simp only [Prod.mk.injEq] at h
    exact absurd h.2 e0
noncomputable def numT (m : List Rec) (t : Int) : Int × Int :=
  if (findT m t).2 ≠ 0 then (0, (findT m t).2) else
  if (get1 (findT m t).1).2.2 ≠ 0 then (0, (get1 (findT m t).1).2.2) else
  if (get1 (findT m t).1).2.1 < ((findT m t).1.length : Int) then (0, 2) else ((get1 (findT m t).1).1, 0)
theorem look_mem : ∀ {l : List Rec} {t : Int} {v : List Int}, look l t = some v → ∃ r ∈ l, r.2 = v
  | [], t, v, h => by simp [look] at h
  | a :: r, t, v, h => by
    unfold look at h
    split at h
    · obtain ⟨x, hx, h2⟩ := look_mem h
      exact ⟨x, List.mem_cons_of_mem _ hx, h2⟩
    · split at h
      · exact ⟨a, by simp, by simpa using h⟩
      · simp at h
theorem findT_bs {m : List Rec} {t : Int} (h : ∀ r ∈ m, Bs r.2) (hl : okT m) : Bs (findT m t).1 ∧ (findT m t).1.length ≤ 4096 := by
  unfold findT
  rw [if_pos hl]
  cases q : look m t with
  | none => exact ⟨by intro n hn; simp at hn, by simp⟩
  | some v =>
    obtain ⟨r, hr, rfl⟩ := look_mem q
    exact ⟨h r hr, hl.2.1 r hr⟩
theorem Fnum_eq {m : List Rec} {t : Int} (h : ∀ r ∈ m, Bs r.2) (hl : okT m) : F28 (m, t) = some (numT m t) := by
  obtain ⟨h1, h2⟩ := findT_bs (t := t) h hl
  unfold F28 numT
  simp only [F17_eq, Option.bind_some]
  by_cases c1 : (findT m t).2 = 0
  · simp only [c1, decide_true, Bool.not_true, cond_false, ne_eq, not_true_eq_false, if_false, F52_eq h1 (by omega), Option.bind_some]
    by_cases c2 : (get1 (findT m t).1).2.2 = 0
    · by_cases c3 : (get1 (findT m t).1).2.1 < ((findT m t).1.length : Int) <;> simp [c2, c3]
    · simp [c2]
  · simp [c1]
theorem numT_ok {m : List Rec} {t : Int} (h : ∀ r ∈ m, Bs r.2) (hl : okT m) (h0 : (numT m t).2 = 0) : ∃ v, look m t = some v ∧ enc1 (numT m t).1 = v ∧ U64 (numT m t).1 := by
  obtain ⟨h1, h2⟩ := findT_bs (t := t) h hl
  unfold numT at h0 ⊢
  by_cases c1 : (findT m t).2 = 0
  · rw [if_neg (by simp [c1])] at h0 ⊢
    have hv : ∃ v, look m t = some v ∧ (findT m t).1 = v := by
      unfold findT at c1 ⊢
      rw [if_pos hl] at c1 ⊢
      cases q : look m t with
      | none => rw [q] at c1; simp at c1
      | some v => exact ⟨v, rfl, rfl⟩
    obtain ⟨v, hv, hf⟩ := hv
    rw [hf] at h1 h0 ⊢
    rcases get1_cases h1 with ⟨e0, hy, hin, hs, hlt⟩ | ⟨e0, e1⟩
    · rw [if_neg (by simp [e0])] at h0 ⊢
      by_cases c3 : (get1 v).2.1 < (v.length : Int)
      · rw [if_pos c3] at h0; simp at h0
      · rw [if_neg c3]
        refine ⟨v, hv, ?_, ⟨hy.1, by have := hy.2; simp only; omega⟩⟩
        have : v.drop (get1 v).2.1.toNat = [] := List.drop_eq_nil_of_le (by omega)
        rw [this, List.append_nil] at hs
        exact hs
    · rw [if_pos e0] at h0; exact absurd h0 e0
  · rw [if_pos c1] at h0; exact absurd h0 c1
theorem numT_enc {m : List Rec} {t n : Int} (hl : okT m) (hn : U64 n) (hk : look m t = some (enc1 n)) : numT m t = (n, 0) := by
  have hf : findT m t = (enc1 n, 0) := by unfold findT; rw [if_pos hl, hk]
  have hg := get1_enc hn.1 hn.2 []
  rw [List.append_nil] at hg
  have hw : ((enc1 n).length : Int) = (wid n : Int) + 1 := by
    have h3 := drop_enc n []
    rw [List.append_nil] at h3
    have h4 := congrArg List.length h3
    rw [List.length_drop, List.length_nil] at h4
    have h5 : (enc1 n).length ≤ wid n + 1 := by omega
    rcases get1_cases (enc1_byte hn.1) with ⟨e0, hy, hin, hs, hlt⟩ | ⟨e0, e1⟩
    · rw [hg] at hin
      simp only [inb, Bool.and_eq_true, decide_eq_true_eq] at hin
      omega
    · rw [hg] at e0; exact absurd rfl e0
  unfold numT
  rw [hf]
  simp only [hg, hw]
  simp
def pl (i : Nat) : Int := if i < 2 then 1 + (i : Int) else 16 + ((i : Int) - 2)
theorem F92_eq {i : Nat} (h : i ≤ 1000) : F92 (i : Int) = some (pl i) := by
  unfold F92 pl
  by_cases c : i < 2
  · have : (i : Int) < 2 := by omega
    simp only [this, decide_true, cond_true, c, if_true]
    rw [RB.wrap_u64 (n := (i : Int)) (by omega) (by omega), RB.wrap_u64 (by omega) (by omega)]
  · have : ¬ (i : Int) < 2 := by omega
    simp only [this, decide_false, cond_false, c, if_false]
    rw [RB.wrap_i64 (by omega) (by omega), RB.wrap_u64 (n := (i : Int) - 2) (by omega) (by omega), RB.wrap_u64 (by omega) (by omega)]
def cavs : List Rec → List Cv → List Cv × Int
  | [], acc => (acc, 0)
  | r :: l, acc => if (getC r.2).2 ≠ 0 then ([], (getC r.2).2) else cavs l (acc ++ [(getC r.2).1])
def tz : Tok × Int := ((0, ([], 0)), 0)
def capR (n0 n1 : Int) (p : List Cv × Int) : Tok × Int := if p.2 ≠ 0 then ((0, ([], 0)), p.2) else ((n0, (p.1, n1)), 0)
def badU (m : List Rec) (n1 : Int) (i : Nat) : Prop := (1048576 < n1 ∨ 18 < m.length) ∨ ∃ j, ∃ h : j < m.length, j < i ∧ m[j].1 ≠ pl j
open Classical in
noncomputable def resC (m : List Rec) (n0 n1 : Int) : Tok × Int := if badU m n1 m.length then ((0, ([], 0)), 2) else capR n0 n1 (cavs (m.drop 2) [])
noncomputable def resN (m : List Rec) : Tok × Int :=
  if (numT m 1).2 ≠ 0 then ((0, ([], 0)), (numT m 1).2) else
  if (numT m 2).2 ≠ 0 then ((0, ([], 0)), (numT m 2).2) else resC m (numT m 1).1 (numT m 2).1
noncomputable def resF (m : List Rec) : Tok × Int :=
  if (findT m 1).2 ≠ 0 then ((0, ([], 0)), 5) else if (findT m 2).2 ≠ 0 then ((0, ([], 0)), 5) else resN m
noncomputable def getK (b : List Int) : Tok × Int := if (getT b).2 ≠ 0 then ((0, ([], 0)), (getT b).2) else resF (getT b).1
theorem badU_succ {m : List Rec} {n1 : Int} {i : Nat} (h : i < m.length) : badU m n1 (i + 1) ↔ badU m n1 i ∨ m[i].1 ≠ pl i := by
  unfold badU
  constructor
  · rintro (h1 | ⟨j, hj, h1, h2⟩)
    · exact .inl (.inl h1)
    · by_cases e : j = i
      · subst e; exact .inr h2
      · exact .inl (.inr ⟨j, hj, by omega, h2⟩)
  · rintro ((h1 | ⟨j, hj, h1, h2⟩) | h1)
    · exact .inl h1
    · exact .inr ⟨j, hj, by omega, h2⟩
    · exact .inr ⟨i, h, by omega, h1⟩
theorem find_len {m : List Rec} {t : Int} (h : (findT m t).2 = 0) : m.length ≤ 64 ∧ ∃ v, look m t = some v := by
  unfold findT at h
  split at h
  · rename_i q
    refine ⟨q.1, ?_⟩
    cases k : look m t with
    | none => rw [k] at h; simp at h
    | some v => exact ⟨v, rfl⟩
  · simp at h
theorem two_of {m : List Rec} {v w : List Int} (h1 : look m 1 = some v) (h2 : look m 2 = some w) : 2 ≤ m.length := by
  match m, h1, h2 with
  | [], h, _ => simp [look] at h
  | [a], h, k =>
    simp only [look] at h k
    split at h
    · simp at h
    · split at h
      · split at k
        · simp at k
        · split at k
          · omega
          · simp at k
      · simp at h
  | a :: b :: r, _, _ => simp
theorem F80_eq {b : List Int} (hb : Bs b) : F80 b = some (getK b) := by
  unfold F80 getK
  simp only [F22_eq hb, Option.bind_some]
  by_cases c1 : (getT b).2 = 0
  · have hok := getT_ok (m := (getT b).1) hb (by rw [← c1])
    generalize (getT b).1 = m at hok ⊢
    obtain ⟨hv, ho, hp⟩ := hok
    have hbs : ∀ r ∈ m, Bs r.2 := fun r hr => (hv r hr).2
    have hlen : m.length ≤ 64 := ho.1
    simp only [c1, decide_true, Bool.not_true, cond_false, ne_eq, not_true_eq_false, if_false]
    refine lfp_rule (fun (x : Int × Int) => x.2 = 0 ∨ (x.2 = 1 ∧ (findT m 1).2 = 0) ∨ (x.2 = 2 ∧ (findT m 1).2 = 0 ∧ (findT m 2).2 = 0)) (fun x => 2 - x.2.toNat) (fun _ => resF m) ?_ _ (.inl rfl)
    rintro ⟨q, i⟩ hx rec hrec
    simp only at hx
    rcases hx with rfl | ⟨rfl, h1⟩ | ⟨rfl, h1, h2⟩
    · simp only [show decide ((0 : Int) < 2) = true from rfl, cond_true, show IntKind.wrap .u64 (1 + (IntKind.wrap .u64 0)) = 1 from rfl, F17_eq, Option.bind_some]
      by_cases k : (findT m 1).2 = 0
      · simp only [k, decide_true, Bool.not_true, cond_false]
        exact hrec _ (.inr (.inl ⟨rfl, k⟩)) (by simp only; decide)
      · simp [k, resF]
    · simp only [show decide ((1 : Int) < 2) = true from rfl, cond_true, show IntKind.wrap .u64 (1 + (IntKind.wrap .u64 1)) = 2 from rfl, F17_eq, Option.bind_some]
      by_cases k : (findT m 2).2 = 0
      · simp only [k, decide_true, Bool.not_true, cond_false]
        exact hrec _ (.inr (.inr ⟨rfl, h1, k⟩)) (by simp only; decide)
      · simp [k, resF, h1]
    · clear hrec
      have hF : resF m = resN m := by unfold resF; rw [if_neg (by simp [h1]), if_neg (by simp [h2])]
      obtain ⟨_, v1, hv1⟩ := find_len h1
      obtain ⟨_, v2, hv2⟩ := find_len h2
      have h2m := two_of hv1 hv2
      rw [hF]
      simp only [show decide ((2 : Int) < 2) = false from rfl, cond_false]
      refine lfp_rule (fun (x : Int × Int × List Int) => (x.2.1 = 0 ∧ x.2.2 = [0, 0]) ∨ (x.2.1 = 1 ∧ x.2.2 = [(numT m 1).1, 0] ∧ (numT m 1).2 = 0) ∨ (x.2.1 = 2 ∧ x.2.2 = [(numT m 1).1, (numT m 2).1] ∧ (numT m 1).2 = 0 ∧ (numT m 2).2 = 0)) (fun x => 2 - x.2.1.toNat) (fun _ => resN m) ?_ _ (.inl ⟨rfl, rfl⟩)
      rintro ⟨q, i, arr⟩ hx rec hrec
      simp only at hx
      rcases hx with ⟨rfl, rfl⟩ | ⟨rfl, rfl, n1⟩ | ⟨rfl, rfl, n1, n2⟩
      · simp only [show decide ((0 : Int) < 2) = true from rfl, cond_true, show IntKind.wrap .u64 (1 + (IntKind.wrap .u64 0)) = 1 from rfl, Fnum_eq hbs ho, Option.bind_some, show inb 0 2 = true from rfl]
        by_cases k : (numT m 1).2 = 0
        · simp only [k, decide_true, Bool.not_true, cond_false]
          exact hrec _ (.inr (.inl ⟨rfl, rfl, k⟩)) (by simp only; decide)
        · simp [k, resN]
      · simp only [show decide ((1 : Int) < 2) = true from rfl, cond_true, show IntKind.wrap .u64 (1 + (IntKind.wrap .u64 1)) = 2 from rfl, Fnum_eq hbs ho, Option.bind_some, show inb 1 2 = true from rfl]
        by_cases k : (numT m 2).2 = 0
        · simp only [k, decide_true, Bool.not_true, cond_false]
          exact hrec _ (.inr (.inr ⟨rfl, rfl, n1, k⟩)) (by simp only; decide)
        · simp [k, resN, n1]
      · clear hrec
        have hN : resN m = resC m (numT m 1).1 (numT m 2).1 := by unfold resN; rw [if_neg (by simp [n1]), if_neg (by simp [n2])]
        obtain ⟨_, _, _, u1⟩ := numT_ok hbs ho n1
        obtain ⟨_, _, _, u2⟩ := numT_ok hbs ho n2
        rw [hN]
        generalize (numT m 1).1 = a1 at u1 ⊢
        generalize (numT m 2).1 = a2 at u2 ⊢
        have r0 : rd (.int .u64) [a1, a2] 0 = a1 := rfl
        have r1 : rd (.int .u64) [a1, a2] 1 = a2 := rfl
        simp only [show decide ((2 : Int) < 2) = false from rfl, cond_false, show inb 1 2 = true from rfl, show inb 0 2 = true from rfl, cond_true, r0, r1, both_self]
        refine lfp_rule (fun (x : Bool × Int) => ∃ i : Nat, x.2 = (i : Int) ∧ i ≤ m.length ∧ (x.1 = true ↔ badU m a2 i)) (fun x => m.length - x.2.toNat) (fun _ => resC m a1 a2) ?_ _ ⟨0, rfl, by omega, ?_⟩
        · rintro ⟨f, i'⟩ ⟨i, hi', hi, hf⟩ rec hrec
          simp only at hi' hf
          subst hi'
          simp only
          by_cases hlt : i < m.length
          · have k1 : ((i : Int) < (m.length : Int)) := by omega
            simp only [k1, decide_true, cond_true, inb_true (Int.natCast_nonneg i) k1, rd_nat (t := tR) hlt]
            rw [RB.wrap_i64 (n := (i : Int) + 1) (by omega) (by omega)]
            cases f with
            | false =>
              simp only [beq_self_eq_true, cond_true, F92_eq (i := i) (by omega), Option.bind_some]
              refine hrec _ ⟨i + 1, by simp, by omega, ?_⟩ (by simp only; omega)
              rw [badU_succ hlt, ← hf]
              simp
            | true =>
              simp only [show (true == false) = false from rfl, cond_false]
              refine hrec _ ⟨i + 1, by simp, by omega, ?_⟩ (by simp only; omega)
              rw [badU_succ hlt, ← hf]
              simp
          · have k1 : ¬ ((i : Int) < (m.length : Int)) := by omega
            have hie : i = m.length := by omega
            clear hrec
            subst hie
            simp only [k1, decide_false, cond_false]
            cases f with
            | true =>
              have : badU m a2 m.length := hf.1 rfl
              simp [resC, this]
            | false =>
              have hnb : ¬ badU m a2 m.length := fun h => by simpa using hf.2 h
              have hC : resC m a1 a2 = capR a1 a2 (cavs (m.drop 2) []) := by unfold resC; rw [if_neg hnb]
              have hn : a2 ≤ 1048576 ∧ m.length ≤ 18 := by
                unfold badU at hnb
                constructor
                · exact Int.not_lt.1 fun h => hnb (.inl (.inl h))
                · exact Nat.not_lt.1 fun h => hnb (.inl (.inr h))
              have k2 : inb 2 (m.length + 1) = true := inb_true (by omega) (by omega)
              have hdr : ((2 : Int).toNat) = 2 := rfl
              simp only [k2, cond_true, cond_false, hdr, hC]
              have hdl : (m.drop 2).length = m.length - 2 := List.length_drop
              have hsub : ∀ r ∈ m.drop 2, Bs r.2 ∧ r.2.length ≤ 4096 := fun r hr => ⟨hbs r (List.mem_of_mem_drop hr), ho.2.1 r (List.mem_of_mem_drop hr)⟩
              clear hC
              generalize m.drop 2 = D at hsub hdl ⊢
              refine lfp_rule (fun (x : Int × Int × List Cv × (Int × Int)) => ∃ i : Nat, x.2.1 = (i : Int) ∧ i ≤ D.length ∧ x.2.2.1.length = i ∧ cavs (D.drop i) x.2.2.1 = cavs D [] ∧ x.2.2.2 = (a1, a2)) (fun x => D.length - x.2.1.toNat) (fun _ => capR a1 a2 (cavs D [])) ?_ _ ⟨0, rfl, by omega, rfl, rfl, ?_⟩
              · rintro ⟨q, i', acc, p⟩ ⟨i, hi', hi, hal, hca, hp'⟩ rec hrec
                simp only at hi' hal hca hp'
                subst hi'; subst hp'
                simp only
                by_cases hlt : i < D.length
                · have k1 : ((i : Int) < (D.length : Int)) := by omega
                  have hbr : Bs D[i].2 := (hsub _ (List.getElem_mem hlt)).1
                  have hbl : D[i].2.length ≤ 4096 := (hsub _ (List.getElem_mem hlt)).2
                  have hstep : cavs (D.drop i) acc = if (getC D[i].2).2 ≠ 0 then ([], (getC D[i].2).2) else cavs (D.drop (i + 1)) (acc ++ [(getC D[i].2).1]) := by
                    rw [List.drop_eq_getElem_cons hlt, cavs]
                  simp only [k1, decide_true, cond_true, inb_true (Int.natCast_nonneg i) k1, rd_nat (t := tR) hlt, F93_eq hbr (by omega), Option.bind_some, Prod.eta]
                  by_cases e0 : (getC D[i].2).2 = 0
                  · have k3 : (acc.length + 1) * 24 ≤ LIM := by unfold LIM; omega
                    rw [if_neg (by simp [e0])] at hstep
                    simp only [e0, decide_true, Bool.not_true, cond_false, k3, cond_true]
                    rw [RB.wrap_i64 (n := (i : Int) + 1) (by omega) (by omega)]
                    exact hrec _ ⟨i + 1, by simp, by omega, by simp [hal], by rw [← hca, hstep], rfl⟩ (by simp only; omega)
                  · rw [if_pos e0] at hstep
                    rw [← hca, hstep]
                    simp [e0, capR]
                · have k1 : ¬ ((i : Int) < (D.length : Int)) := by omega
                  have : D.drop i = [] := List.drop_eq_nil_of_le (by omega)
                  rw [this, cavs] at hca
                  rw [← hca]
                  simp [k1, capR]
              · rw [RB.wrap_i64 (by have := u2.1; omega) (by omega)]
        · simp only
          unfold badU
          have e : ((18 : Int) < (m.length : Int)) ↔ 18 < m.length := by omega
          by_cases h1 : 1048576 < a2
          · simp [h1]
          · simp [h1, e]
  · simp [c1]
def plcR : Nat → List Rec → Prop
  | _, [] => True
  | i, r :: l => r.1 = ((16 + i : Nat) : Int) ∧ plcR (i + 1) l
theorem plcR_of : ∀ (l : List Rec) (i : Nat), (∀ j (h : j < l.length), l[j].1 = ((16 + (i + j) : Nat) : Int)) → plcR i l
  | [], _, _ => trivial
  | r :: l, i, h => ⟨by have := h 0 (by simp); simpa using this, plcR_of l (i + 1) fun j hj => by
      have := h (j + 1) (by simp; omega)
      rw [List.getElem_cons_succ] at this
      rw [this]; omega⟩
theorem cavs_ok : ∀ (l : List Rec) (i : Nat) (acc x : List Cv), plcR i l → (∀ r ∈ l, Bs r.2) → cavs l acc = (x, 0) →
    ∃ cs, x = acc ++ cs ∧ numd encC i cs = l ∧ ∀ c ∈ cs, CvOk c ∧ chk c = 0
  | [], i, acc, x, _, _, h => by
    simp only [cavs, Prod.mk.injEq, and_true] at h
    exact ⟨[], by simp [h], rfl, by simp⟩
  | r :: l, i, acc, x, hp, hb, h => by
    unfold cavs at h
    by_cases e : (getC r.2).2 = 0
    · rw [if_neg (by simp [e])] at h
      obtain ⟨cs, h1, h2, h3⟩ := cavs_ok l (i + 1) _ x hp.2 (fun q hq => hb q (List.mem_cons_of_mem _ hq)) h
      obtain ⟨g1, g2, g3⟩ := getC_ok (hb r (by simp)) (d := (getC r.2).1) (by rw [← e])
      refine ⟨(getC r.2).1 :: cs, by rw [h1]; simp, ?_, fun c hc => ?_⟩
      · rw [numd, h2, g3, ← hp.1]
      · rcases List.mem_cons.1 hc with rfl | hc
        · exact ⟨g2, g1⟩
        · exact h3 c hc
    · rw [if_pos e] at h
      simp only [Prod.mk.injEq] at h
      exact absurd h.2 e
theorem cavs_enc : ∀ (l : List Cv) (i : Nat) (acc : List Cv), (∀ c ∈ l, CvOk c ∧ chk c = 0) → cavs (numd encC i l) acc = (acc ++ l, 0)
  | [], i, acc, _ => by simp [numd, cavs]
  | c :: l, i, acc, h => by
    have h1 := getC_enc (h c (by simp)).1 (h c (by simp)).2 []
    rw [List.append_nil, if_pos rfl] at h1
    rw [numd, cavs]
    simp only [h1]
    rw [if_neg (by simp), cavs_enc l (i + 1) _ (fun c hc => h c (List.mem_cons_of_mem _ hc))]
    simp
theorem numd_get : ∀ (l : List Cv) (i j : Nat) (h : j < (numd encC i l).length), (numd encC i l)[j].1 = ((16 + (i + j) : Nat) : Int)
  | [], i, j, h => by simp [numd] at h
  | c :: l, i, 0, h => by simp [numd]
  | c :: l, i, j + 1, h => by
    have h2 : j < (numd encC (i + 1) l).length := by simp [numd] at h; exact h
    have := numd_get l (i + 1) j h2
    simp only [numd, List.getElem_cons_succ, this]
    omega
theorem getK_ok {b : List Int} (hb : Bs b) (h : (getK b).2 = 0) : TokOk (getK b).1 ∧ okK (getK b).1 ∧ tokB (getK b).1 = b := by
  unfold getK at h ⊢
  by_cases c1 : (getT b).2 = 0
  · rw [if_neg (by simp [c1])] at h ⊢
    obtain ⟨hv, ho, hp⟩ := getT_ok (m := (getT b).1) hb (by rw [← c1])
    generalize (getT b).1 = m at *
    have hbs : ∀ r ∈ m, Bs r.2 := fun r hr => (hv r hr).2
    unfold resF at h ⊢
    split at h
    · simp at h
    rename_i f1
    split at h
    · simp at h
    rename_i f2
    simp only [ne_eq, Classical.not_not] at f1 f2
    rw [if_neg (by simp [f1]), if_neg (by simp [f2])]
    unfold resN at h ⊢
    split at h
    · rename_i q; exact absurd h q
    rename_i n1
    split at h
    · rename_i q; exact absurd h q
    rename_i n2
    simp only [ne_eq, Classical.not_not] at n1 n2
    rw [if_neg (by simp [n1]), if_neg (by simp [n2])]
    obtain ⟨v1, k1, e1, u1⟩ := numT_ok hbs ho n1
    obtain ⟨v2, k2, e2, u2⟩ := numT_ok hbs ho n2
    have h2m := two_of k1 k2
    generalize (numT m 1).1 = a1 at *
    generalize (numT m 2).1 = a2 at *
    unfold resC at h ⊢
    split at h
    · simp at h
    rename_i hnb
    rw [if_neg hnb]
    have hpl : ∀ j (hj : j < m.length), m[j].1 = pl j := fun j hj => Classical.byContradiction fun q => hnb (.inr ⟨j, hj, hj, q⟩)
    have hn2 : ¬ 1048576 < a2 := fun q => hnb (.inl (.inl q))
    have hn3 : ¬ 18 < m.length := fun q => hnb (.inl (.inr q))
    match m, h2m, hv, hp, hbs, hpl, k1, k2, hn3, h with
    | r0 :: r1 :: D, _, hv, hp, hbs, hpl, k1, k2, hn3, h =>
      have p0 : r0.1 = 1 := by have := hpl 0 (by simp); simpa [pl] using this
      have p1 : r1.1 = 2 := by have := hpl 1 (by simp); simpa [pl] using this
      have g0 : r0.2 = v1 := by simpa [look, p0] using k1
      have g1 : r1.2 = v2 := by simpa [look, p0, p1] using k2
      have hplc : plcR 0 D := plcR_of D 0 fun j hj => by
        have := hpl (j + 2) (by simp; omega)
        simp only [List.getElem_cons_succ] at this
        rw [this]; unfold pl; rw [if_neg (by omega)]; omega
      have hd : (r0 :: r1 :: D).drop 2 = D := rfl
      rw [hd] at h ⊢
      unfold capR at h ⊢
      split at h
      · rename_i q; exact absurd h q
      rename_i q
      rw [if_neg q]
      simp only [ne_eq, Classical.not_not] at q
      obtain ⟨cs, x1, x2, x3⟩ := cavs_ok D 0 [] (cavs D []).1 hplc (fun r hr => hbs r (by simp [hr])) (by rw [← q])
      rw [List.nil_append] at x1
      rw [x1]
      have hcl : cs.length = D.length := by rw [← x2, numd_len]
      have hk : okK (a1, (cs, a2)) := ⟨by simp only; simp only [List.length_cons] at hn3; omega, ⟨u2.1, by simp only; omega⟩, fun c hc => (x3 c hc).2⟩
      refine ⟨⟨u1, fun c hc => (x3 c hc).1, ⟨by have := u2.1; simp only; omega, by simp only; omega⟩⟩, hk, ?_⟩
      have ht : tokR (a1, (cs, a2)) = r0 :: r1 :: D := by
        unfold tokR
        simp only
        rw [x2, e1, e2, ← g0, ← g1]
        rw [show ((1 : Int), r0.2) = r0 from Prod.ext p0.symm rfl, show ((2 : Int), r1.2) = r1 from Prod.ext p1.symm rfl]
      have := putT_tok hk
      rw [ht, hp] at this
      exact (congrArg Prod.fst this).symm
  · rw [if_pos c1] at h; exact absurd h c1
theorem getK_enc {t : Tok} (ht : TokOk t) (hk : okK t) : getK (tokB t) = (t, 0) := by
  have hlen := tok_len hk
  have hokV := tokR_okV ht hk
  have hokT := tokR_okT hk
  have hbs : ∀ r ∈ tokR t, Bs r.2 := fun r hr => (hokV r hr).2
  have hg : getT (tokB t) = (tokR t, 0) := by
    unfold getT tokB
    rw [if_neg (by omega), goT_enc (tokR t) [] (fun r hr => ⟨hokV r hr, hokT.2.1 r hr⟩) hokT.2.2 hokT.1]
    simp
  have l1 : look (tokR t) 1 = some (enc1 t.1) := by simp [tokR, look]
  have l2 : look (tokR t) 2 = some (enc1 t.2.2) := by simp [tokR, look]
  have f1 : findT (tokR t) 1 = (enc1 t.1, 0) := by unfold findT; rw [if_pos hokT, l1]
  have f2 : findT (tokR t) 2 = (enc1 t.2.2, 0) := by unfold findT; rw [if_pos hokT, l2]
  have n1 := numT_enc hokT ht.1 l1
  have n2 := numT_enc (n := t.2.2) hokT ⟨hk.2.1.1, by have := hk.2.1.2; omega⟩ l2
  have hnb : ¬ badU (tokR t) t.2.2 (tokR t).length := by
    have hk2 := hk.2.1.2
    have hk1 := hk.1
    rintro ((q | q) | ⟨j, hj, _, q⟩)
    · omega
    · simp [tokR, numd_len] at q; omega
    · match j, hj, q with
      | 0, _, q => simp [tokR, pl] at q
      | 1, _, q => simp [tokR, pl] at q
      | j + 2, hj, q =>
        apply q
        simp only [tokR, List.getElem_cons_succ]
        rw [numd_get]
        unfold pl
        rw [if_neg (by omega)]
        omega
  unfold getK
  rw [hg]
  simp only
  rw [if_neg (by simp)]
  unfold resF
  rw [f1, f2]
  simp only
  rw [if_neg (by simp), if_neg (by simp)]
  unfold resN
  rw [n1, n2]
  simp only
  rw [if_neg (by simp), if_neg (by simp)]
  unfold resC
  rw [if_neg hnb]
  have hd : (tokR t).drop 2 = numd encC 0 t.2.1 := rfl
  rw [hd, cavs_enc t.2.1 0 [] (fun c hc => ⟨ht.2.1 c hc, hk.2.2 c hc⟩)]
  unfold capR
  simp
theorem tok_of2 {t : Tok} (h : Fw.Good (.pair (.int .u64) (.pair (.slice 62 (.pair (.int .i64) (.pair (.int .u64) (.int .u64)))) (.int .i64))) t) : TokOk t := ⟨u64_of h.1, fun c hc => cv_of (h.2.1.2 c hc), i64_of h.2.2⟩
end Go.Proofs.Ytacebemdonoliaa.R4
namespace Go.Proofs.Ytacebemdonoliaa.R4
open Go Go.Fw Go.Proofs RB
set_option maxRecDepth 20000
theorem F71_byte {c : Int} (h : Byte c) : F71 c = some (1 + wd c : Int) := by
  unfold F71 wd
  unfold Byte at h
  by_cases h1 : c < 253
  · simp [h1]
  · by_cases h2 : c = 253
    · subst h2; rfl
    · by_cases h3 : c = 254
      · subst h3; rfl
      · have : c = 255 := by omega
        subst this; rfl
theorem dig_snoc (n : Int) : ∀ k, dig n (k + 1) = dig (n / 256) k ++ [n % 256]
  | 0 => by simp [dig]
  | k + 1 => by
    rw [dig, dig_snoc n k]
    conv => rhs; rw [dig]
    have : n / 2 ^ (8 * (k + 1)) = n / 256 / 2 ^ (8 * k) := by
      rw [pow8, Int.mul_comm, ← Int.ediv_ediv_of_nonneg (by omega)]
    rw [this]; rfl
theorem F87_eq {n : Int} (h0 : 0 ≤ n) (h1 : n < 18446744073709551616) {k : Nat} (hk : k ≤ 8) : F87 (n, (k : Int)) = some (dig n k) := by
  unfold F87
  refine (lfp_rule (B := B87) (fun x => 0 ≤ x.1 ∧ x.1 < 18446744073709551616 ∧ 0 ≤ x.2 ∧ x.2 ≤ 8) (fun x => x.2.toNat) (fun x => dig x.1 x.2.toNat) ?_ (n, (k : Int)) ⟨h0, h1, by simp, by simp; omega⟩).trans (by simp)
  rintro ⟨m, j⟩ ⟨g0, g1, g2, g3⟩ rec hrec
  simp only at g0 g1 g2 g3
  unfold B87
  by_cases hj : j = 0
  · subst hj; rfl
  · simp only [hj, decide_false, cond_false]
    obtain ⟨q, hq⟩ : ∃ q : Nat, j = (q : Int) + 1 := ⟨(j - 1).toNat, by omega⟩
    subst hq
    have e1 : Int.tdiv m 256 = m / 256 := Int.tdiv_eq_ediv_of_nonneg g0
    have e2 : Int.tmod m 256 = m % 256 := Int.tmod_eq_emod_of_nonneg g0
    rw [e1, e2, wrap_u64 (n := m / 256) (by omega) (by omega), wrap_i64 (by omega) (by omega), wrap_u8]
    rw [hrec (m / 256, (q : Int) + 1 - 1) ⟨by simp only; omega, by simp only; omega, by simp only; omega, by simp only; omega⟩ (by simp only; omega)]
    have e3 : ((q : Int) + 1 - 1).toNat = q := by omega
    have e4 : ((q : Int) + 1).toNat = q + 1 := by omega
    have e5 : (dig (m / 256) q).length + 1 ≤ LIM := by rw [dig_len]; unfold LIM; omega
    simp only [Option.bind_some, e3, e4, Nat.mul_one, e5, decide_true, cond_true]
    rw [dig_snoc, Int.emod_emod_of_dvd _ (by decide)]
theorem F70_eq {n : Int} (h0 : 0 ≤ n) (h1 : n < 18446744073709551616) : F70 n = some (enc1 n) := by
  have k2 := F87_eq h0 h1 (k := 2) (by omega)
  have k4 := F87_eq h0 h1 (k := 4) (by omega)
  have k8 := F87_eq h0 h1 (k := 8) (by omega)
  rw [show ((2 : Nat) : Int) = 2 from rfl] at k2
  rw [show ((4 : Nat) : Int) = 4 from rfl] at k4
  rw [show ((8 : Nat) : Int) = 8 from rfl] at k8
  unfold F70 enc1 fst wid
  have l2 : ([253].length + (dig n 2).length) * 1 ≤ LIM := by rw [dig_len]; unfold LIM; decide
  have l4 : ([254].length + (dig n 4).length) * 1 ≤ LIM := by rw [dig_len]; unfold LIM; decide
  have l8 : ([255].length + (dig n 8).length) * 1 ≤ LIM := by rw [dig_len]; unfold LIM; decide
  by_cases a1 : n < 253
  · have : n % 256 = n := by omega
    simp [a1, wrap_u8, this, dig]
  · by_cases a2 : n < 65536
    · simp only [a1, a2, decide_true, decide_false, cond_true, cond_false, if_false, if_true, k2, Option.bind_some]
      rw [decide_eq_true (by rw [dig_len]; unfold LIM; decide)]; rfl
    · by_cases a3 : n < 4294967296
      · simp only [a1, a2, a3, decide_true, decide_false, cond_true, cond_false, if_false, if_true, k4, Option.bind_some]
        rw [decide_eq_true (by rw [dig_len]; unfold LIM; decide)]; rfl
      · simp only [a1, a2, a3, decide_true, decide_false, cond_true, cond_false, if_false, if_true, k8, Option.bind_some]
        rw [decide_eq_true (by rw [dig_len]; unfold LIM; decide)]; rfl
theorem loopB {Q : Type} {s : List Int} {a : Int} {r : Int → Option Q} {res : Q} (hs : ∀ n ∈ s, Byte n) (hl : s.length ≤ 8) (h0 : 0 ≤ a) (h1 : a < 256) (ha : a = 0 ∨ s = []) (hr : r (bv a s) = some res) :
    lfp (fun (rec3 : (Int × Int) → Option Q) (x3 : Int × Int) =>
      bif decide (x3.2 < (s.length : Int)) then (
      bif inb x3.2 s.length then
      rec3 ((IntKind.wrap .u64 ((IntKind.wrap .u64 (256 * x3.1)) + (IntKind.wrap .u64 (rd (.int .u8) s x3.2)))), (IntKind.wrap .i64 (x3.2 + 1)))
      else none)
      else r x3.1) (a, 0) = some res := by
  refine lfp_rule (fun x => ∃ i : Nat, x.2 = (i : Int) ∧ i ≤ s.length ∧ x.1 = bv a (s.take i)) (fun x => s.length - x.2.toNat) (fun _ => res) ?_ (a, (0 : Int)) ⟨0, rfl, by omega, rfl⟩
  rintro ⟨t, i'⟩ ⟨i, rfl, hi, rfl⟩ rec hrec
  simp only
  by_cases hlt : i < s.length
  · have k1 : ((i : Int) < (s.length : Int)) := by omega
    have ha0 : a = 0 := by rcases ha with h | h; exact h; subst h; simp at hlt
    subst ha0
    obtain ⟨hh, hrd⟩ := rd_get (t := .int .u8) (l := s) (i := i) (by omega) k1
    have hrd2 : rd (.int .u8) s i = s[i] := by rw [hrd]; simp
    have hby : Byte (rd (.int .u8) s i) := by rw [hrd2]; exact hs _ (List.getElem_mem _)
    have hbi : ∀ n ∈ s.take i, Byte n := fun n hn => hs n (List.mem_of_mem_take hn)
    have b0 := bv_nonneg (s.take i) 0 (by omega) hbi
    have b1 := bv_lt (s.take i) 0 hbi
    have hli : (s.take i).length = i := by rw [List.length_take]; omega
    have b2 : bv 0 (s.take i) < 72057594037927936 := by
      rw [hli] at b1
      have : (2 : Int) ^ (8 * i) ≤ 2 ^ 56 := by
        have := Nat.pow_le_pow_right (n := 2) (by omega) (show 8 * i ≤ 56 by omega)
        exact_mod_cast this
      simp at b1; omega
    have hb2 := hby.2
    have hb1 := hby.1
    have hwr : IntKind.wrap .u64 (rd (.int .u8) s i) = rd (.int .u8) s i := wrap_u64 hby.1 (by omega)
    simp only [k1, decide_true, cond_true, inb_true (Int.natCast_nonneg i) k1]
    rw [wrap_u64 (n := 256 * bv 0 _) (by omega) (by omega), hwr, wrap_u64 (by omega) (by omega), wrap_i64 (by omega) (by omega)]
    refine hrec _ ⟨i + 1, by simp, by omega, ?_⟩ (by simp only; omega)
    simp only
    rw [List.take_add_one, List.getElem?_eq_getElem hlt, Option.toList_some, bv_snoc, hrd2]
    omega
  · have k1 : ¬ ((i : Int) < (s.length : Int)) := by omega
    simp only [k1, decide_false, cond_false]
    rw [List.take_of_length_le (by omega), hr]
theorem F49_eq {l : List Int} (h : ∀ n ∈ l, Byte n) (hl : l.length ≤ 4611686018427387904) : F49 l = some (get1 l) := by
  unfold F49
  cases l with
  | nil => rfl
  | cons c r =>
    have hc := h c (by simp)
    have hr : ∀ n ∈ r, Byte n := fun n hn => h n (by simp [hn])
    have hw := wd_le c
    have e0 : (decide (((c :: r).length : Int) = 0) == false) = true := by simp; omega
    have e1 : inb 0 (c :: r).length = true := inb_true (by omega) (by simp)
    have e5 : rd (.int .u8) (c :: r) 0 = c := rfl
    rw [e5]
    simp only [e0, e1, cond_true, F71_byte hc, Option.bind_some, get1, both_self]
    by_cases h1 : r.length < wd c
    · rw [if_pos h1]
      have : ((c :: r).length : Int) < 1 + (wd c : Int) := by simp; omega
      simp only [this, decide_true, cond_true]
    · rw [if_neg h1]
      have h1' : ¬ ((c :: r).length : Int) < 1 + (wd c : Int) := by simp; omega
      simp only [h1', decide_false, cond_false]
      have g1 : inb (1 + (wd c : Int)) ((c :: r).length + 1) = true := inb_true (by omega) (by simp only [List.length_cons]; omega)
      have g2 : decide ((1 : Int) ≤ 1 + (wd c : Int)) = true := decide_eq_true (by omega)
      have g5 : decide ((0 : Nat) ≤ 1) = true := rfl
      have g3 : (1 + (wd c : Int)).toNat = wd c + 1 := by omega
      have e4 : (c :: r.take (wd c)).drop ((1 : Int).toNat) = r.take (wd c) := rfl
      have e6 : (c :: r).take (wd c + 1) = c :: r.take (wd c) := rfl
      have hc1 := hc.1
      have hc2 := hc.2
      simp only [g1, g2, g5, Bool.and_self, cond_true, g3, e6, e4]
      have hlen : (r.take (wd c)).length = wd c := by rw [List.length_take]; omega
      have hb : ∀ n ∈ r.take (wd c), Byte n := fun n hn => hr n (List.mem_of_mem_take hn)
      by_cases h2 : wd c = 0
      · rw [if_pos h2]
        have e7 : (1 + (wd c : Int) = 1) := by omega
        have e8 : r.take (wd c) = [] := by rw [h2]; rfl
        simp only [e7, decide_true, cond_true]
        rw [wrap_u64 hc.1 (by omega)]
        refine loopB (s := r.take (wd c)) (r := fun v => (F70 v).bind fun r4 => bif (!decide (r4 = c :: r.take (wd c))) then some (0, 0, 2) else some (v, 1, 0)) hb (by omega) hc1 hc2 (.inr e8) ?_
        have hfc : enc1 c = [c] := by
          have : c < 253 := by
            unfold wd at h2
            by_cases q : c < 253
            · exact q
            · rw [if_neg q] at h2; (split at h2 <;> (try split at h2)) <;> omega
          simp [enc1, fst, wid, this, dig]
        rw [e8]
        simp only [bv, F70_eq hc1 (by omega), Option.bind_some, hfc, decide_true, Bool.not_true, cond_false]
      · rw [if_neg h2]
        have e7 : ¬ (1 + (wd c : Int) = 1) := by omega
        simp only [e7, decide_false, cond_false]
        refine loopB (s := r.take (wd c)) (r := fun v => (F70 v).bind fun r4 => bif (!decide (r4 = c :: r.take (wd c))) then some (0, 0, 2) else some (v, 1 + (wd c : Int), 0)) hb (by omega) (by omega) (by omega) (.inl rfl) ?_
        have hbv := bv_nonneg (r.take (wd c)) 0 (by omega) hb
        simp only [F70_eq hbv (bv_lt64 hb (by omega)), Option.bind_some]
        have hiff := enc_iff (c := c) hb hlen
        by_cases hf : fst (bv 0 (r.take (wd c))) = c
        · rw [if_pos hf]
          simp only [hiff.2 hf, decide_true, Bool.not_true, cond_false, Option.some.injEq, Prod.mk.injEq, true_and, and_true]; omega
        · rw [if_neg hf]
          have : ¬ enc1 (bv 0 (r.take (wd c))) = c :: r.take (wd c) := fun q => hf (hiff.1 q)
          simp only [this, decide_false, Bool.not_false, cond_true]
theorem F46_eq {l : List Int} (h : ∀ n ∈ l, U64 n) (hl : l.length ≤ 100000) : F46 l = some (l.flatMap enc1) := by
  unfold F46
  have elen : ∀ n, (enc1 n).length ≤ 9 := fun n => by have := wid_le n; simp [enc1, dig_len]; omega
  have flen : ∀ m : List Int, (m.flatMap enc1).length ≤ 9 * m.length := by
    intro m
    induction m with
    | nil => simp
    | cons a m ih => rw [List.flatMap_cons, List.length_append, List.length_cons]; have := elen a; omega
  refine lfp_rule (fun x => ∃ i : Nat, x.2 = (i : Int) ∧ i ≤ l.length ∧ x.1 = (l.take i).flatMap enc1) (fun x => l.length - x.2.toNat) (fun _ => l.flatMap enc1) ?_ (([] : List Int), 0) ⟨0, rfl, by omega, rfl⟩
  rintro ⟨y, i'⟩ ⟨i, rfl, hi, rfl⟩ rec hrec
  simp only
  by_cases hlt : i < l.length
  · have h1 : ((i : Int) < (l.length : Int)) := by omega
    obtain ⟨hh, hrd⟩ := rd_get (t := .int .u64) (l := l) (i := i) (by omega) h1
    have hrd2 : rd (.int .u64) l i = l[i] := by rw [hrd]; simp
    have hn : U64 (rd (.int .u64) l i) := by rw [hrd2]; exact h _ (List.getElem_mem _)
    have hlen : (((l.take i).flatMap enc1).length + (enc1 (rd (.int .u64) l i)).length) * 1 ≤ LIM := by
      have := flen (l.take i)
      have := elen (rd (.int .u64) l i)
      rw [List.length_take] at *
      unfold LIM; omega
    simp only [h1, decide_true, cond_true, inb_true (Int.natCast_nonneg i) h1, F70_eq hn.1 hn.2, Option.bind_some, hlen]
    rw [wrap_i64 (n := (i : Int) + 1) (by omega) (by omega)]
    refine hrec _ ⟨i + 1, by simp, by omega, ?_⟩ (by simp only; omega)
    simp only
    rw [List.take_add_one, List.getElem?_eq_getElem hlt, Option.toList_some, List.flatMap_append, List.flatMap_singleton, hrd2]
  · have h1 : ¬ ((i : Int) < (l.length : Int)) := by omega
    simp only [h1, decide_false, cond_false]
    rw [List.take_of_length_le (by omega)]
theorem F91_eq {c : Cv} (h : CvOk c) : F91 c = some (chk c) := by
  obtain ⟨k, a, b⟩ := c
  unfold F91 chk
  simp only
  by_cases h1 : k < 1
  · simp [h1]
  by_cases h2 : 5 < k
  · simp [h2]
  by_cases h3 : k = 2
  · subst h3
    by_cases q : 65535 < a
    · simp [q]
    · by_cases q2 : b = 0 <;> simp [q, q2]
  by_cases h4 : k = 4
  · subst h4
    by_cases q : 4611686018427387904 < a
    · simp [q]
    · by_cases q2 : b = 0 <;> simp [q, q2]
  by_cases h5 : k = 3
  · subst h5
    by_cases q : 4611686018427387904 < a
    · simp [q]
    · by_cases q2 : b = 0 <;> simp [q, q2]
  by_cases q2 : b = 0 <;> simp [h1, h2, h3, h4, h5, q2]
theorem F94_eq {b : List Int} (h : ∀ n ∈ b, Byte n) (hl : b.length ≤ 4611686018427387904) : F94 b = some (getC b) := by
  unfold F94 getC
  simp only [F49_eq h hl, Option.bind_some]
  rcases get1_casesQ h with ⟨e0, hy, hi, hs, hlt⟩ | ⟨e0, e1⟩
  · simp only [e0, decide_true, Bool.not_true, cond_false, ne_eq, not_true_eq_false, if_false]
    by_cases q1 : (get1 b).1 < 1
    · simp [q1]
    by_cases q2 : 5 < (get1 b).1
    · simp [q2]
    have h2 := drop_byte h (get1 b).2.1.toNat
    simp only [q1, q2, decide_false, cond_false, or_self, if_false, hi, cond_true, F49_eq h2 (by omega), Option.bind_some, getC1]
    rcases get1_casesQ h2 with ⟨e0', hy', hi', hs', hlt'⟩ | ⟨e0', e1'⟩
    · simp only [e0', decide_true, Bool.not_true, cond_false, ne_eq, not_true_eq_false, if_false, hi', cond_true, getC2]
      have h3 := drop_byte h2 (get1 (b.drop (get1 b).2.1.toNat)).2.1.toNat
      by_cases q4 : (get1 b).1 = 4
      · simp only [q4, decide_true, cond_true, if_true, F49_eq h3 (by omega), Option.bind_some]
        rcases get1_casesQ h3 with ⟨e0'', hy'', hi'', hs'', hlt''⟩ | ⟨e0'', e1''⟩
        · simp only [e0'', decide_true, Bool.not_true, cond_false, not_true_eq_false, if_false, hi'', cond_true, pos_len, small5_i64 (n := 4) (by omega) (by omega)]
          rw [F91_eq (c := (4, _)) (cv_small (by omega) (by omega) hy' hy'')]
          simp only [Option.bind_some]
          exact fin_form _ _
        · simp only [e1'', decide_false, Bool.not_false, cond_true, e0'', not_false_eq_true, if_true]
      · simp only [q4, decide_false, cond_false, if_false, pos_len, small5_i64 (n := (get1 b).1) (by omega) (by omega)]
        rw [F91_eq (c := ((get1 b).1, _)) (cv_small (by omega) (by omega) hy' u64_0)]
        simp only [Option.bind_some]
        exact fin_form _ _
    · simp only [e1', decide_false, Bool.not_false, cond_true, e0', ne_eq, not_false_eq_true, if_true]
  · simp only [e1, decide_false, Bool.not_false, cond_true, e0, ne_eq, not_false_eq_true, if_true]
theorem F79_eq {c : Cv} (hc : CvOk c) : F79 c = some (putC c) := by
  unfold F79 putC
  simp only [Prod.eta, F91_eq hc, Option.bind_some]
  by_cases h : chk c = 0
  · have k := chk_kind h
    have hw : IntKind.wrap .u64 c.1 = c.1 := small5_u64 k.1 k.2.1
    have hk : U64 c.1 := ⟨by omega, by omega⟩
    have h1 := hc.2.1
    have h2 := hc.2.2
    by_cases h4 : c.1 = 4
    · simp only [h, h4, decide_true, Bool.not_true, cond_true, cond_false, if_true, encC]
      rw [F46_eq (by intro n hn; simp at hn; rcases hn with rfl | rfl | rfl; exact ⟨by omega, by omega⟩; exact h1; exact h2) (by simp)]
      simp
    · simp only [h, h4, decide_true, decide_false, Bool.not_true, cond_false, if_true, if_false, encC]
      rw [hw, F46_eq (by intro n hn; simp at hn; rcases hn with rfl | rfl; exact hk; exact h1) (by simp)]
      simp
  · simp [h]
open Classical in
theorem F25_eq (l : List Rec) : F25 l = some (if okT l then 0 else 1) := by
  unfold F25
  by_cases h64 : 64 < l.length
  · have : (64 : Int) < (l.length : Int) := by omega
    have hn : ¬ okT l := fun h => by have := h.1; omega
    simp [this, hn]
  · have : ¬ (64 : Int) < (l.length : Int) := by omega
    simp only [this, decide_false, cond_false, both_self]
    refine lfp_rule (fun x => ∃ i : Nat, x.2 = (i : Int) ∧ i ≤ l.length ∧ (∀ j (h : j < l.length), j < i → l[j].2.length ≤ 4096) ∧ (∀ j (h : j + 1 < l.length), j + 1 < i → l[j].1 < l[j + 1].1)) (fun x => l.length - x.2.toNat)
      (fun _ => if okT l then 0 else 1) ?_ (0, 0) ⟨0, rfl, by omega, by intro j _ hj; omega, by intro j _ hj; omega⟩
    rintro ⟨q, i'⟩ ⟨i, hi', hi, hV, hS⟩ rec hrec
    simp only at hi'
    subst hi'
    simp only
    by_cases hlt : i < l.length
    · have k1 : ((i : Int) < (l.length : Int)) := by omega
      simp only [k1, decide_true, cond_true, inb_true (Int.natCast_nonneg i) k1, rd_nat (t := tR) hlt]
      have next : l[i].2.length ≤ 4096 → (∀ h : 0 < i, l[i - 1].1 < l[i].1) → rec (q, IntKind.wrap .i64 ((i : Int) + 1)) = some (if okT l then 0 else 1) := by
        intro h1 h2
        rw [RB.wrap_i64 (n := (i : Int) + 1) (by omega) (by omega)]
        refine hrec _ ⟨i + 1, by simp, by omega, fun j hj hji => ?_, fun j hj hji => ?_⟩ (by simp only; omega)
        · by_cases hje : j = i
          · subst hje; exact h1
          · exact hV j hj (by omega)
        · by_cases hje : j + 1 = i
          · have := h2 (by omega)
            subst hje
            exact this
          · exact hS j hj (by omega)
      by_cases c1 : 4096 < l[i].2.length
      · have : (4096 : Int) < (l[i].2.length : Int) := by omega
        have hn : ¬ okT l := fun h => by have := h.2.1 _ (List.getElem_mem hlt); omega
        simp [this, hn]
      · have c1' : ¬ (4096 : Int) < (l[i].2.length : Int) := by omega
        simp only [c1', decide_false, beq_self_eq_true, cond_true]
        by_cases c2 : 0 < i
        · have c2' : (0 : Int) < (i : Int) := by omega
          have hw : IntKind.wrap .i64 ((i : Int) - 1) = ((i - 1 : Nat) : Int) := by rw [RB.wrap_i64 (by omega) (by omega)]; omega
          have hi1 : i - 1 < l.length := by omega
          have k2 : inb ((i - 1 : Nat) : Int) l.length = true := inb_true (by omega) (by omega)
          simp only [c2', decide_true, beq_self_eq_true, cond_true, hw, k2, rd_nat (t := tR) hi1]
          by_cases c3 : l[i - 1].1 < l[i].1
          · have : ¬ l[i].1 ≤ l[i - 1].1 := by omega
            simp only [this, decide_false, cond_false]
            exact next (by omega) (fun _ => c3)
          · have hn : ¬ okT l := fun h => by
              have := List.pairwise_iff_getElem.1 h.2.2 (i - 1) i hi1 hlt (by omega)
              exact c3 this
            have : l[i].1 ≤ l[i - 1].1 := by omega
            simp only [this, decide_true, cond_true, hn, if_false]
        · have c2' : ¬ (0 : Int) < (i : Int) := by omega
          simp only [c2', decide_false, show (false == true) = false from rfl, cond_false]
          exact next (by omega) (fun h => absurd h c2)
    · have k1 : ¬ ((i : Int) < (l.length : Int)) := by omega
      have hok : okT l := by
        refine ⟨by omega, fun r hr => ?_, sorted_of l fun j hj => hS j hj (by omega)⟩
        obtain ⟨j, hj, rfl⟩ := List.getElem_of_mem hr
        exact hV j hj (by omega)
      simp only [k1, decide_false, cond_false, hok, if_true]
theorem F46_one {n : Int} (h : U64 n) : F46 [n] = some (enc1 n) := by
  rw [F46_eq (by simpa using h) (by simp)]; simp
theorem F46_two {t n : Int} (h0 : U64 t) (h1 : U64 n) : F46 [t, n] = some (enc1 t ++ enc1 n) := by
  rw [F46_eq (by simp [h0, h1]) (by simp)]; simp
theorem F21_eq {l : List Rec} (hv : ∀ r ∈ l, OkV r) : F21 l = some (putT l) := by
  unfold F21 putT
  simp only [both_self, F25_eq, Option.bind_some]
  by_cases ho : okT l
  · have h64 := ho.1
    simp only [ho, if_true, decide_true, Bool.not_true, cond_false]
    refine lfp_rule (fun x => ∃ i : Nat, x.2 = (i : Int) ∧ i ≤ l.length ∧ x.1 = (l.take i).flatMap encR) (fun x => l.length - x.2.toNat)
      (fun _ => if 65535 < (l.flatMap encR).length then ([], 4) else (l.flatMap encR, 0)) ?_ (([] : List Int), 0) ⟨0, rfl, by omega, by simp⟩
    rintro ⟨acc, i'⟩ ⟨i, hi', hi, hacc⟩ rec hrec
    simp only at hi' hacc
    subst hi'
    simp only
    by_cases hlt : i < l.length
    · have k1 : ((i : Int) < (l.length : Int)) := by omega
      have hr := hv _ (List.getElem_mem hlt)
      have hV := ho.2.1 _ (List.getElem_mem hlt)
      have hal := encs_len (l.take i) (fun r hr => ho.2.1 r (List.mem_of_mem_take hr))
      rw [List.length_take] at hal
      have e1 := enc1_len l[i].1
      have e2 := enc1_len (l[i].2.length : Int)
      have k3 : (acc.length + (enc1 l[i].1 ++ enc1 (l[i].2.length : Int)).length) * 1 ≤ LIM := by
        rw [hacc, List.length_append]; unfold LIM; omega
      have k4 : ((acc ++ (enc1 l[i].1 ++ enc1 (l[i].2.length : Int))).length + l[i].2.length) * 1 ≤ LIM := by
        rw [hacc, List.length_append, List.length_append]; unfold LIM; omega
      have hw : IntKind.wrap .u64 (l[i].2.length : Int) = (l[i].2.length : Int) := RB.wrap_u64 (by omega) (by omega)
      have hu1 : U64 l[i].1 := ⟨hr.1.1, by have := hr.1.2; omega⟩
      have hu2 : U64 (l[i].2.length : Int) := ⟨by omega, by omega⟩
      simp only [k1, decide_true, cond_true, inb_true (Int.natCast_nonneg i) k1, rd_nat (t := tR) hlt, hw, F46_two hu1 hu2, Option.bind_some, k3, k4]
      rw [RB.wrap_i64 (n := (i : Int) + 1) (by omega) (by omega)]
      refine hrec _ ⟨i + 1, by simp, by omega, ?_⟩ (by simp only; omega)
      rw [List.take_succ_eq_append_getElem hlt, List.flatMap_append, hacc]
      simp [encR]
    · have k1 : ¬ ((i : Int) < (l.length : Int)) := by omega
      have : i = l.length := by omega
      subst this
      rw [List.take_length] at hacc
      subst hacc
      simp only [k1, decide_false, cond_false]
      by_cases h : 65535 < (l.flatMap encR).length
      · have h' : (65535 : Int) < ((l.flatMap encR).length : Int) := by omega
        simp only [h, h', decide_true, cond_true, if_true]
      · have h' : ¬ (65535 : Int) < ((l.flatMap encR).length : Int) := by omega
        simp only [h, h', decide_false, cond_false, if_false]
  · simp [ho]
theorem look_drop : ∀ {l : List Rec} {t : Int}, Sorted l → ∀ i, (∀ j (h : j < l.length), j < i → l[j].1 ≠ t) → look l t = look (l.drop i) t
  | l, t, hs, 0, _ => by simp
  | [], t, hs, i + 1, _ => by simp
  | a :: r, t, hs, i + 1, h => by
    have h0 : a.1 ≠ t := h 0 (by simp) (by omega)
    have hp := List.pairwise_cons.1 hs
    have ih := look_drop (l := r) (t := t) hp.2 i (fun j hj hji => by
      have := h (j + 1) (by simp; omega) (by omega)
      simpa using this)
    rw [List.drop_succ_cons, ← ih]
    conv => lhs; unfold look
    by_cases c : a.1 < t
    · rw [if_pos c]
    · rw [if_neg c, if_neg h0]
      cases q : look r t with
      | none => rfl
      | some v =>
        exfalso
        have : ∀ (m : List Rec) (v : List Int), look m t = some v → ∃ x ∈ m, x.1 = t := by
          intro m
          induction m with
          | nil => intro v hh; simp [look] at hh
          | cons y m ihm =>
            intro v hh
            unfold look at hh
            split at hh
            · obtain ⟨x, hx, he⟩ := ihm v hh
              exact ⟨x, List.mem_cons_of_mem _ hx, he⟩
            · split at hh
              · rename_i e; exact ⟨y, by simp, e⟩
              · simp at hh
        obtain ⟨x, hx, he⟩ := this r v q
        have := hp.1 x hx
        omega
theorem F27_eq (l : List Rec) (t : Int) : F27 (l, t) = some (findT l t) := by
  unfold F27
  simp only [F25_eq, Option.bind_some]
  by_cases ho : okT l
  · have h64 := ho.1
    have hf : ∀ m, look l t = m → findT l t = m.elim ([], 5) (fun v => (v, 0)) := by
      intro m hm
      unfold findT
      rw [if_pos ho, hm]
      cases m <;> rfl
    simp only [ho, if_true, decide_true, Bool.not_true, cond_false]
    refine lfp_rule (fun (x : List Int × Int × Int) => ∃ i : Nat, x.2.2 = (i : Int) ∧ i ≤ l.length ∧ (∀ j (h : j < l.length), j < i → l[j].1 ≠ t)) (fun x => l.length - x.2.2.toNat) (fun _ => findT l t) ?_ (([] : List Int), (0, 0)) ⟨0, rfl, by omega, by intro j _ hj; omega⟩
    rintro ⟨q, s, i'⟩ ⟨i, hi', hi, hne⟩ rec hrec
    simp only at hi'
    subst hi'
    simp only
    have hld := look_drop ho.2.2 i hne
    by_cases hlt : i < l.length
    · have k1 : ((i : Int) < (l.length : Int)) := by omega
      have hV := ho.2.1 _ (List.getElem_mem hlt)
      simp only [k1, decide_true, cond_true, inb_true (Int.natCast_nonneg i) k1, rd_nat (t := tR) hlt]
      by_cases c : l[i].1 = t
      · have k4 : (([] : List Int).length + l[i].2.length) * 1 ≤ LIM := by unfold LIM; simp; omega
        simp only [c, decide_true, cond_true, Bool.or_true, k4, List.nil_append]
        rw [List.drop_eq_getElem_cons hlt] at hld
        unfold look at hld
        rw [if_neg (by omega), if_pos c] at hld
        have : look l t = some l[i].2 := by rw [← hld]; cases l <;> rfl
        rw [hf _ this]; rfl
      · simp only [c, decide_false, cond_false]
        rw [RB.wrap_i64 (n := (i : Int) + 1) (by omega) (by omega)]
        refine hrec _ ⟨i + 1, by simp, by omega, fun j hj hji => ?_⟩ (by simp only; omega)
        by_cases e : j = i
        · subst e; exact c
        · exact hne j hj (by omega)
    · have k1 : ¬ ((i : Int) < (l.length : Int)) := by omega
      have : l.drop i = [] := List.drop_eq_nil_of_le (by omega)
      rw [this] at hld
      have hl0 : look l t = none := by rw [hld]; rfl
      simp only [k1, decide_false, cond_false]
      rw [hf _ hl0]; rfl
  · unfold findT
    simp [ho]
theorem get1_le {b : List Int} (h : Bs b) : (get1 b).2.2 = 0 → (get1 b).2.1 ≤ (b.length : Int) := by
  intro e
  rcases get1_cases h with ⟨_, _, hin, _, _⟩ | ⟨e0, _⟩
  · simp only [inb, Bool.and_eq_true, decide_eq_true_eq] at hin; omega
  · exact absurd e e0
theorem F29_eq {m : List Rec} {t : Int} (h : ∀ r ∈ m, Bs r.2) (hl : okT m) : F29 (m, t) = some (numT m t) := by
  obtain ⟨h1, h2⟩ := findT_bs (t := t) h hl
  unfold F29 numT
  simp only [F27_eq, Option.bind_some]
  by_cases c1 : (findT m t).2 = 0
  · simp only [c1, decide_true, Bool.not_true, cond_false, ne_eq, not_true_eq_false, if_false, F49_eq h1 (by omega), Option.bind_some]
    by_cases c2 : (get1 (findT m t).1).2.2 = 0
    · have hle := get1_le h1 c2
      by_cases c3 : (get1 (findT m t).1).2.1 < ((findT m t).1.length : Int)
      · have : ¬ (get1 (findT m t).1).2.1 = ((findT m t).1.length : Int) := by omega
        simp [c2, c3, this]
      · have : (get1 (findT m t).1).2.1 = ((findT m t).1.length : Int) := by omega
        simp [c2, this]
    · simp [c2]
  · simp [c1]
theorem F23_eq {b : List Int} (hb : Bs b) : F23 b = some (getT b) := by
  unfold F23 getT
  by_cases hl : 65535 < b.length
  · have hl' : (65535 : Int) < (b.length : Int) := by omega
    simp only [hl, hl', decide_true, cond_true, if_true]
  · have hl' : ¬ (65535 : Int) < (b.length : Int) := by omega
    simp only [hl, hl', decide_false, cond_false, if_false]
    refine lfp_rule (fun (x : List Int × List Rec × Int × List Rec) => Bs x.1 ∧ x.2.2.2.length ≤ 64 ∧ x.1.length ≤ 65535) (fun x => x.1.length) (fun x => goT x.2.2.2 x.1) ?_ (b, ([], (0, []))) ⟨hb, by simp, by simp only; omega⟩
    rintro ⟨b, p, q, acc⟩ ⟨hb, ha, hl⟩ rec hrec
    simp only at hb ha hl hrec ⊢
    by_cases hbn : b = []
    · subst hbn
      simp [goT]
    · have hpos : 0 < b.length := List.length_pos_iff.2 hbn
      have hpos' : (0 : Int) < (b.length : Int) := by omega
      simp only [hpos', decide_true, cond_true]
      rw [goT, if_neg hbn]
      by_cases h64 : acc.length = 64
      · have d64 : decide ((acc.length : Int) = 64) = true := decide_eq_true (by omega)
        rw [if_pos h64]
        simp only [d64, cond_true]
      · have d64 : decide ((acc.length : Int) = 64) = false := decide_eq_false (by omega)
        rw [if_neg h64]
        simp only [d64, cond_false, F49_eq hb (by omega), Option.bind_some]
        rcases get1_cases hb with ⟨g1, g2, g3, g4, g5⟩ | ⟨g1, g2, g3⟩
        · have gd : decide ((get1 b).2.2 = 0) = true := decide_eq_true g1
          rw [if_neg (show ¬ ((get1 b).2.2 ≠ 0) from fun h => h g1)]
          simp only [gd, Bool.not_true, cond_false, g3, cond_true]
          have hb1 := bs_drop hb (get1 b).2.1.toNat
          have hb1l : (b.drop (get1 b).2.1.toNat).length ≤ 65535 := by omega
          have hsm : (b.drop (get1 b).2.1.toNat).length < b.length := g5
          generalize b.drop (get1 b).2.1.toNat = b1 at hb1 hb1l hsm ⊢
          have tail : ∀ (e : lastT acc < (get1 b).1),
              ((F49 b1).bind fun r3 =>
                bif (!decide (r3.2.2 = 0)) then some (([] : List Rec), r3.2.2)
                else bif decide (4096 < r3.1) then some (([] : List Rec), 4)
                else bif inb r3.2.1 (b1.length + 1) then
                  bif decide (((b1.drop r3.2.1.toNat).length : Int) < (IntKind.wrap .i64 r3.1)) then some (([] : List Rec), 3)
                  else bif inb r3.1 ((b1.drop r3.2.1.toNat).length + 1) then
                    bif (!((b1.drop r3.2.1.toNat).take r3.1.toNat).isEmpty || true) then
                    bif decide ((([] : List Int).length + ((b1.drop r3.2.1.toNat).take r3.1.toNat).length) * 1 ≤ LIM) then
                    bif decide ((acc.length + 1) * 32 ≤ LIM) then
                    bif inb r3.1 ((b1.drop r3.2.1.toNat).length + 1) then
                    rec ((b1.drop r3.2.1.toNat).drop r3.1.toNat, p, q, (acc ++ ([((get1 b).1, ([] : List Int) ++ ((b1.drop r3.2.1.toNat).take r3.1.toNat))])))
                    else none else none else none else none else none
                  else none) = some (
                if ¬ lastT acc < (get1 b).1 then ([], 2) else
                if (get1 b1).2.2 ≠ 0 then ([], (get1 b1).2.2) else
                if 4096 < (get1 b1).1 then ([], 4) else
                if ((b1.drop (get1 b1).2.1.toNat).length : Int) < (get1 b1).1 then ([], 3) else
                if h : ((b1.drop (get1 b1).2.1.toNat).drop (get1 b1).1.toNat).length < b.length then
                  goT (acc ++ [((get1 b).1, (b1.drop (get1 b1).2.1.toNat).take (get1 b1).1.toNat)]) ((b1.drop (get1 b1).2.1.toNat).drop (get1 b1).1.toNat)
                else ([], 0)) := by
            intro e
            rw [if_neg (fun h => h e)]
            simp only [F49_eq hb1 (by omega), Option.bind_some]
            rcases get1_cases hb1 with ⟨p1, p2, p3, p4, p5⟩ | ⟨p1, p2, p3⟩
            · have pd : decide ((get1 b1).2.2 = 0) = true := decide_eq_true p1
              rw [if_neg (show ¬ ((get1 b1).2.2 ≠ 0) from fun h => h p1)]
              simp only [p3, cond_true, pd, Bool.not_true, cond_false]
              have hb2 := bs_drop hb1 (get1 b1).2.1.toNat
              generalize b1.drop (get1 b1).2.1.toNat = b2 at *
              by_cases c1 : 4096 < (get1 b1).1
              · simp only [c1, decide_true, cond_true, if_true]
              · have hw : IntKind.wrap .i64 (get1 b1).1 = (get1 b1).1 := RB.wrap_i64 (by omega) (by omega)
                rw [hw]
                by_cases c2 : (b2.length : Int) < (get1 b1).1
                · simp only [c1, c2, decide_true, decide_false, cond_true, cond_false, if_true, if_false]
                · have hin : inb (get1 b1).1 (b2.length + 1) = true := RB.inb_true p2.1 (by omega)
                  have htl : (([] : List Int).length + (b2.take (get1 b1).1.toNat).length) * 1 ≤ LIM := by rw [List.length_take]; unfold LIM; simp; omega
                  have hlim : (acc.length + 1) * 32 ≤ LIM := by unfold LIM; omega
                  have hsh : (b2.drop (get1 b1).1.toNat).length < b.length := by rw [List.length_drop]; omega
                  have hsh2 : (b2.drop (get1 b1).1.toNat).length ≤ 65535 := by omega
                  simp only [c1, c2, decide_false, cond_false, if_false, hin, cond_true, htl, hlim, decide_true, hsh, dite_true, Bool.or_true, List.nil_append]
                  exact hrec (_, p, q, acc ++ [((get1 b).1, b2.take (get1 b1).1.toNat)]) ⟨bs_drop hb2 _, by simp only [List.length_append, List.length_singleton]; omega, hsh2⟩ hsh
            · have pd : decide ((get1 b1).2.2 = 0) = false := decide_eq_false p1
              rw [if_pos p1]
              simp only [pd, Bool.not_false, cond_true]
          by_cases ha0 : 0 < acc.length
          · have ha0d : decide ((0 : Int) < (acc.length : Int)) = true := decide_eq_true (by omega)
            have hla : acc.length - 1 < acc.length := by omega
            have hw : IntKind.wrap .i64 ((acc.length : Int) - 1) = ((acc.length - 1 : Nat) : Int) := by rw [RB.wrap_i64 (by omega) (by omega)]; omega
            have hin : inb ((acc.length - 1 : Nat) : Int) acc.length = true := RB.inb_true (by omega) (by omega)
            simp only [ha0d, beq_self_eq_true, cond_true, hw, hin, rd_nat (t := tR) hla]
            by_cases hlt : lastT acc < (get1 b).1
            · have : ¬ (get1 b).1 ≤ acc[acc.length - 1].1 := by rw [lastT_get ha0] at hlt; omega
              simp only [this, decide_false, cond_false]
              exact tail hlt
            · have : (get1 b).1 ≤ acc[acc.length - 1].1 := by rw [lastT_get ha0] at hlt; omega
              simp only [this, decide_true, cond_true, hlt, not_false_eq_true, if_true]
          · have ha0d : decide ((0 : Int) < (acc.length : Int)) = false := decide_eq_false (by omega)
            have hacc : acc = [] := List.length_eq_zero_iff.1 (by omega)
            simp only [ha0d, show (false == true) = false from rfl, cond_false]
            exact tail (by rw [hacc]; show (-1 : Int) < _; omega)
        · have gd : decide ((get1 b).2.2 = 0) = false := decide_eq_false g1
          rw [if_pos g1]
          simp only [gd, Bool.not_false, cond_true]
abbrev tC : Ty := .pair (.int .i64) (.pair (.int .u64) (.int .u64))
open Classical in
theorem F85_eq {l : List Cv} (hl : l.length ≤ 4611686018427387904) (h : ∀ c ∈ l, CvOk c) : F85 l = some (decide (l.length ≤ 16 ∧ ∀ c ∈ l, chk c = 0)) := by
  unfold F85
  refine lfp_rule (fun (x : Bool × Int) => ∃ i : Nat, x.2 = (i : Int) ∧ i ≤ l.length ∧ ∀ j (hj : j < l.length), j < i → chk l[j] = 0) (fun x => l.length - x.2.toNat) (fun _ => decide (l.length ≤ 16 ∧ ∀ c ∈ l, chk c = 0)) ?_ (false, 0) ⟨0, rfl, by omega, by intro j _ hj; omega⟩
  rintro ⟨q, i'⟩ ⟨i, hi', hi, hne⟩ rec hrec
  simp only at hi'
  subst hi'
  simp only
  by_cases hlt : i < l.length
  · have k1 : ((i : Int) < (l.length : Int)) := by omega
    simp only [k1, decide_true, cond_true, inb_true (Int.natCast_nonneg i) k1, rd_nat (t := tC) hlt, Prod.eta, F91_eq (h _ (List.getElem_mem hlt)), Option.bind_some]
    by_cases c : chk l[i] = 0
    · simp only [c, decide_true, Bool.not_true, cond_false]
      rw [RB.wrap_i64 (n := (i : Int) + 1) (by omega) (by omega)]
      refine hrec _ ⟨i + 1, by simp, by omega, fun j hj hji => ?_⟩ (by simp only; omega)
      by_cases e : j = i
      · subst e; exact c
      · exact hne j hj (by omega)
    · have : ¬ (l.length ≤ 16 ∧ ∀ c ∈ l, chk c = 0) := fun hh => c (hh.2 _ (List.getElem_mem hlt))
      have hd := decide_eq_false this
      simp only [c, decide_false, Bool.not_false, cond_true, hd]
  · have k1 : ¬ ((i : Int) < (l.length : Int)) := by omega
    have hall : ∀ c ∈ l, chk c = 0 := fun c hc => by
      obtain ⟨j, hj, rfl⟩ := List.getElem_of_mem hc
      exact hne j hj (by omega)
    have e : ((l.length : Int) ≤ 16) ↔ l.length ≤ 16 := by omega
    simp only [k1, decide_false, cond_false, Option.some.injEq, decide_eq_decide, e]
    exact ⟨fun q => ⟨q, hall⟩, fun q => q.1⟩
open Classical in
theorem F68_eq {t : Tok} (h : TokOk t) (hl : t.2.1.length ≤ 4611686018427387904) : F68 t = some (if okK t then 0 else 1) := by
  unfold F68
  simp only [F85_eq hl h.2.1, Option.bind_some]
  by_cases c1 : t.2.1.length ≤ 16 ∧ ∀ c ∈ t.2.1, chk c = 0
  · have hd := decide_eq_true c1
    rw [hd]
    by_cases c2 : t.2.2 < 0
    · have : ¬ okK t := fun hk => by have := hk.2.1.1; omega
      simp [c2, this]
    · by_cases c3 : 1048576 < t.2.2
      · have : ¬ okK t := fun hk => by have := hk.2.1.2; omega
        simp [c3, this]
      · have : okK t := ⟨c1.1, ⟨by omega, by omega⟩, c1.2⟩
        simp [c2, c3, this]
  · have : ¬ okK t := fun hk => c1 ⟨hk.1, hk.2.2⟩
    have hd := decide_eq_false c1
    rw [hd]
    simp [this]
open Classical in
theorem F62_eq {t : Tok} (h : TokOk t) (hl : t.2.1.length ≤ 4611686018427387904) : F62 t = some (if okK t then (tokB t, 0) else ([], 1)) := by
  unfold F62
  simp only [Prod.eta, F68_eq h hl, Option.bind_some, both_self]
  by_cases hk : okK t
  · have hw : IntKind.wrap .u64 t.2.2 = t.2.2 := small_u64 hk.2.1.1 hk.2.1.2
    have h16 := hk.1
    have hu2 : U64 t.2.2 := ⟨hk.2.1.1, by have := hk.2.1.2; omega⟩
    simp only [hk, if_true, decide_true, Bool.not_true, cond_false, hw, F46_one h.1, F46_one hu2, Option.bind_some, both_self]
    refine lfp_rule (fun (x : List Rec × Int) => ∃ i : Nat, x.2 = (i : Int) ∧ i ≤ t.2.1.length ∧ x.1 = [(1, enc1 t.1), (2, enc1 t.2.2)] ++ numd encC 0 (t.2.1.take i)) (fun x => t.2.1.length - x.2.toNat) (fun _ => (tokB t, 0)) ?_ _ ⟨0, rfl, by omega, by simp [numd]⟩
    rintro ⟨y, i'⟩ ⟨i, hi', hi, hy⟩ rec hrec
    simp only at hi' hy
    subst hi'
    simp only
    by_cases hlt : i < t.2.1.length
    · have k1 : ((i : Int) < (t.2.1.length : Int)) := by omega
      have hyl : y.length = 2 + i := by rw [hy]; simp [numd_len]; omega
      have k3 : (y.length + 1) * 32 ≤ LIM := by unfold LIM; omega
      have hc := h.2.1 _ (List.getElem_mem hlt)
      have hck := hk.2.2 _ (List.getElem_mem hlt)
      have hput : putC t.2.1[i] = (encC t.2.1[i], 0) := by unfold putC; rw [if_pos hck]
      simp only [k1, decide_true, cond_true, inb_true (Int.natCast_nonneg i) k1, rd_nat (t := tC) hlt, Prod.eta, F79_eq hc, hput, Option.bind_some, k3]
      rw [RB.wrap_i64 (n := 16 + (i : Int)) (by omega) (by omega), small_u64 (n := 16 + (i : Int)) (by omega) (by omega), RB.wrap_i64 (n := (i : Int) + 1) (by omega) (by omega)]
      refine hrec (_, (i : Int) + 1) ⟨i + 1, by simp, by omega, ?_⟩ (by simp only; omega)
      rw [hy, List.take_succ_eq_append_getElem hlt, numd_snoc, List.append_assoc]
      simp only [List.length_take]
      congr 3
      rw [Nat.min_eq_left (by omega)]
      simp
    · have k1 : ¬ ((i : Int) < (t.2.1.length : Int)) := by omega
      have hie : i = t.2.1.length := by omega
      simp only [k1, decide_false, cond_false]
      have hyt : y = tokR t := by rw [hy, hie, List.take_length]; rfl
      rw [hyt, F21_eq (tokR_okV h hk), putT_tok hk]
      rfl
  · simp [hk]
theorem two_at {m : List Rec} {v : List Int} (hs : Sorted m) (h2 : 2 ≤ m.length) (h0 : (m[0]'(by omega)).1 = 1) (hk : look m 2 = some v) : (m[1]'(by omega)).1 = 2 := by
  match m, h2, h0, hk, hs with
  | a :: b :: r, _, h0, hk, hs =>
    simp only [List.getElem_cons_zero] at h0
    simp only [List.getElem_cons_succ, List.getElem_cons_zero]
    have hab : a.1 < b.1 := (List.pairwise_cons.1 hs).1 b (by simp)
    unfold look at hk
    rw [if_pos (by omega)] at hk
    unfold look at hk
    rw [if_neg (by omega)] at hk
    split at hk
    · assumption
    · simp at hk
theorem F84_eq {b : List Int} (hb : Bs b) : F84 b = some (getK b) := by
  unfold F84 getK
  simp only [F23_eq hb, Option.bind_some]
  by_cases c1 : (getT b).2 = 0
  · have hok := getT_ok (m := (getT b).1) hb (by rw [← c1])
    generalize (getT b).1 = m at hok ⊢
    obtain ⟨hv, ho, hp⟩ := hok
    have hbs : ∀ r ∈ m, Bs r.2 := fun r hr => (hv r hr).2
    have hlen : m.length ≤ 64 := ho.1
    simp only [c1, decide_true, Bool.not_true, cond_false, ne_eq, not_true_eq_false, if_false]
    refine lfp_rule (fun (x : Int × Int) => x.2 = 0 ∨ (x.2 = 1 ∧ (findT m 1).2 = 0) ∨ (x.2 = 2 ∧ (findT m 1).2 = 0 ∧ (findT m 2).2 = 0)) (fun x => 2 - x.2.toNat) (fun _ => resF m) ?_ _ (.inl rfl)
    rintro ⟨q, i⟩ hx rec hrec
    simp only at hx
    have l2 : (([(1 : Int), 2].length : Nat) : Int) = 2 := rfl
    rcases hx with rfl | ⟨rfl, h1⟩ | ⟨rfl, h1, h2⟩
    · have r0 : rd (.int .u64) [1, 2] 0 = 1 := rfl
      simp only [l2, show decide ((0 : Int) < 2) = true from rfl, cond_true, show inb 0 [(1 : Int), 2].length = true from rfl, r0, F27_eq, Option.bind_some]
      by_cases k : (findT m 1).2 = 0
      · simp only [k, decide_true, Bool.not_true, cond_false]
        exact hrec _ (.inr (.inl ⟨rfl, k⟩)) (by simp only; decide)
      · simp [k, resF, show inb 0 2 = true from rfl]
    · have r0 : rd (.int .u64) [1, 2] 1 = 2 := rfl
      simp only [l2, show decide ((1 : Int) < 2) = true from rfl, cond_true, show inb 1 [(1 : Int), 2].length = true from rfl, r0, F27_eq, Option.bind_some]
      by_cases k : (findT m 2).2 = 0
      · simp only [k, decide_true, Bool.not_true, cond_false]
        exact hrec _ (.inr (.inr ⟨rfl, h1, k⟩)) (by simp only; decide)
      · simp [k, resF, h1, show inb 1 2 = true from rfl]
    · clear hrec
      have hF : resF m = resN m := by unfold resF; rw [if_neg (by simp [h1]), if_neg (by simp [h2])]
      obtain ⟨_, v1, hv1⟩ := find_len h1
      obtain ⟨_, v2, hv2⟩ := find_len h2
      have h2m := two_of hv1 hv2
      rw [hF]
      simp only [List.length_cons, List.length_nil, show decide ((2 : Int) < ((0 + 1 + 1 : Nat) : Int)) = false from rfl, cond_false, F29_eq hbs ho, Option.bind_some]
      unfold resN
      by_cases n1 : (numT m 1).2 = 0
      · by_cases n2 : (numT m 2).2 = 0
        · obtain ⟨_, _, _, u1⟩ := numT_ok hbs ho n1
          obtain ⟨_, _, _, u2⟩ := numT_ok hbs ho n2
          rw [if_neg (by simp [n1]), if_neg (by simp [n2])]
          simp only [n1, n2, decide_true, Bool.not_true, cond_false]
          generalize (numT m 1).1 = a1 at u1 ⊢
          generalize (numT m 2).1 = a2 at u2 ⊢
          have e18 : ((18 : Int) < (m.length : Int)) ↔ 18 < m.length := by omega
          by_cases c2 : 1048576 < a2 ∨ 18 < m.length
          · have hbad : badU m a2 m.length := .inl c2
            have : (bif decide (1048576 < a2) then true else decide ((18 : Int) < (m.length : Int))) = true := by
              rcases c2 with c2 | c2
              · simp [c2]
              · simp [e18, c2]
            unfold resC
            simp only [this, cond_true]
            rw [if_pos hbad]
          · have : (bif decide (1048576 < a2) then true else decide ((18 : Int) < (m.length : Int))) = false := by
              have q1 : ¬ 1048576 < a2 := fun q => c2 (.inl q)
              have q2 : ¬ 18 < m.length := fun q => c2 (.inr q)
              simp [q1, e18, q2]
            have hn : a2 ≤ 1048576 ∧ m.length ≤ 18 := ⟨by omega, by omega⟩
            have k2 : inb 2 (m.length + 1) = true := inb_true (by omega) (by omega)
            have hdr : ((2 : Int).toNat) = 2 := rfl
            have hw : IntKind.wrap .i64 a2 = a2 := RB.wrap_i64 (by have := u2.1; omega) (by omega)
            simp only [this, cond_false, k2, cond_true, hdr, hw]
            have hdl : (m.drop 2).length = m.length - 2 := List.length_drop
            refine lfp_rule (fun (x : Int × Int) => ∃ i : Nat, x.2 = (i : Int) ∧ i ≤ (m.drop 2).length ∧ (∀ j (h : j < m.length), 2 ≤ j → j < i + 2 → m[j].1 = pl j)) (fun x => (m.drop 2).length - x.2.toNat) (fun _ => resC m a1 a2) ?_ _ ⟨0, rfl, by omega, by intro j _ h1 h2; omega⟩
            rintro ⟨q, i'⟩ ⟨i, hi', hi, hpl⟩ rec hrec
            simp only at hi'
            subst hi'
            simp only
            by_cases hlt : i < (m.drop 2).length
            · have k1 : ((i : Int) < ((m.drop 2).length : Int)) := by omega
              have hg : (m.drop 2)[i] = m[i + 2]'(by omega) := by rw [List.getElem_drop]; congr 1; omega
              have hpe : pl (i + 2) = 16 + (i : Int) := by unfold pl; rw [if_neg (by omega)]; omega
              simp only [k1, decide_true, cond_true, inb_true (Int.natCast_nonneg i) k1, rd_nat (t := tR) hlt, hg]
              rw [RB.wrap_i64 (n := 16 + (i : Int)) (by omega) (by omega), small_u64 (n := 16 + (i : Int)) (by omega) (by omega)]
              by_cases c : (m[i + 2]'(by omega)).1 = 16 + (i : Int)
              · simp only [c, decide_true, Bool.not_true, cond_false]
                rw [RB.wrap_i64 (n := (i : Int) + 1) (by omega) (by omega)]
                refine hrec _ ⟨i + 1, by simp, by omega, fun j hj h2j hji => ?_⟩ (by simp only; omega)
                by_cases e : j = i + 2
                · subst e; rw [hpe]; exact c
                · exact hpl j hj h2j (by omega)
              · have hbad : badU m a2 m.length := .inr ⟨i + 2, by omega, by omega, by rw [hpe]; exact c⟩
                unfold resC
                rw [if_pos hbad]
                simp [c]
            · have k1 : ¬ ((i : Int) < ((m.drop 2).length : Int)) := by omega
              have k0 : inb 0 m.length = true := inb_true (by omega) (by omega)
              have r0 : rd tR m 0 = m[0]'(by omega) := rd_nat (t := tR) (i := 0) (by omega)
              have r0' : rd (.pair (.int .u64) (.slice 5 (.int .u8))) m 0 = m[0]'(by omega) := r0
              simp only [k1, decide_false, cond_false, k0, cond_true, r0']
              clear hrec
              by_cases c0 : (m[0]'(by omega)).1 = 1
              · have c1' := two_at ho.2.2 h2m c0 hv2
                have hnb : ¬ badU m a2 m.length := by
                  rintro (q | ⟨j, hj, _, q⟩)
                  · exact c2 q
                  · by_cases e0 : j = 0
                    · subst e0; exact q (by rw [c0]; rfl)
                    · by_cases e1 : j = 1
                      · subst e1; exact q (by rw [c1']; rfl)
                      · exact q (hpl j hj (by omega) (by omega))
                simp only [c0, decide_true, Bool.not_true, cond_false]
                have hC : resC m a1 a2 = capR a1 a2 (cavs (m.drop 2) []) := by unfold resC; rw [if_neg hnb]
                rw [hC]
                have hsub : ∀ r ∈ m.drop 2, Bs r.2 ∧ r.2.length ≤ 4096 := fun r hr => ⟨hbs r (List.mem_of_mem_drop hr), ho.2.1 r (List.mem_of_mem_drop hr)⟩
                clear hC hpl hi hlt k1
                generalize m.drop 2 = D at hsub hdl ⊢
                refine lfp_rule (fun (x : Int × Int × List Cv × (Int × Int)) => ∃ i : Nat, x.2.1 = (i : Int) ∧ i ≤ D.length ∧ x.2.2.1.length = i ∧ cavs (D.drop i) x.2.2.1 = cavs D [] ∧ x.2.2.2 = (a1, a2)) (fun x => D.length - x.2.1.toNat) (fun _ => capR a1 a2 (cavs D [])) ?_ _ ⟨0, rfl, by omega, rfl, rfl, rfl⟩
                rintro ⟨q, i', acc, p⟩ ⟨i, hi', hi, hal, hca, hp'⟩ rec hrec
                simp only at hi' hal hca hp'
                subst hi'; subst hp'
                simp only
                by_cases hlt : i < D.length
                · have k1 : ((i : Int) < (D.length : Int)) := by omega
                  have hbr : Bs D[i].2 := (hsub _ (List.getElem_mem hlt)).1
                  have hbl : D[i].2.length ≤ 4096 := (hsub _ (List.getElem_mem hlt)).2
                  have hstep : cavs (D.drop i) acc = if (getC D[i].2).2 ≠ 0 then ([], (getC D[i].2).2) else cavs (D.drop (i + 1)) (acc ++ [(getC D[i].2).1]) := by
                    rw [List.drop_eq_getElem_cons hlt, cavs]
                  simp only [k1, decide_true, cond_true, inb_true (Int.natCast_nonneg i) k1, rd_nat (t := tR) hlt, F94_eq hbr (by omega), Option.bind_some, Prod.eta]
                  by_cases e0 : (getC D[i].2).2 = 0
                  · have k3 : (acc.length + 1) * 24 ≤ LIM := by unfold LIM; omega
                    rw [if_neg (by simp [e0])] at hstep
                    simp only [e0, decide_true, Bool.not_true, cond_false, k3, cond_true]
                    rw [RB.wrap_i64 (n := (i : Int) + 1) (by omega) (by omega)]
                    exact hrec _ ⟨i + 1, by simp, by omega, by simp [hal], by rw [← hca, hstep], rfl⟩ (by simp only; omega)
                  · rw [if_pos e0] at hstep
                    rw [← hca, hstep]
                    simp [e0, capR]
                · have k1 : ¬ ((i : Int) < (D.length : Int)) := by omega
                  have : D.drop i = [] := List.drop_eq_nil_of_le (by omega)
                  rw [this, cavs] at hca
                  rw [← hca]
                  simp [k1, capR]
              · have hbad : badU m a2 m.length := .inr ⟨0, by omega, by omega, by simpa [pl] using c0⟩
                unfold resC
                rw [if_pos hbad]
                simp [c0]
        · simp [n1, n2]
      · simp [n1]
  · simp [c1]
theorem getK_len {b : List Int} (hb : Bs b) : (getK b).1.2.1.length ≤ 16 := by
  by_cases h : (getK b).2 = 0
  · exact (getK_ok hb h).2.1.1
  · have hz : ∀ (r : Tok × Int), r = getK b → r.2 ≠ 0 → r.1.2.1 = [] := by
      intro r hr h0
      subst hr
      unfold getK resF resN resC capR at h0 ⊢
      repeat' split
      all_goals first | rfl | (simp_all)
    rw [hz _ rfl h]; simp
end Go.Proofs.Ytacebemdonoliaa.R4
namespace Go.Proofs.Ytacebemdonoliaa.R4
open Go Go.Fw Go.Proofs RB
set_option maxRecDepth 20000
/-- All numbers. -/
def allS (acc : List Int) : List Int → List Int × Int
  | [] => (acc, 0)
  | c :: r => if (get1 (c :: r)).2.2 ≠ 0 then ([], (get1 (c :: r)).2.2) else allS (acc ++ [(get1 (c :: r)).1]) (r.drop ((get1 (c :: r)).2.1.toNat - 1))
  termination_by l => l.length
  decreasing_by simp; omega
theorem allS_enc : ∀ (l acc : List Int), (∀ n ∈ l, 0 ≤ n ∧ n < 18446744073709551616) → allS acc (l.flatMap enc1) = (acc ++ l, 0)
  | [], acc, _ => by simp [allS]
  | n :: l, acc, h => by
    obtain ⟨h0, h1⟩ := h n (by simp)
    have hg := get1_enc h0 h1 (l.flatMap enc1)
    rw [List.flatMap_cons]
    have e : enc1 n ++ l.flatMap enc1 = fst n :: (dig n (wid n) ++ l.flatMap enc1) := rfl
    rw [e] at hg ⊢
    rw [allS]
    simp only [hg]
    have e2 : ((wid n : Int) + 1).toNat - 1 = wid n := by omega
    rw [if_neg (by simp), e2, List.drop_append_of_le_length (by rw [dig_len]; omega), List.drop_of_length_le (by rw [dig_len]; omega), List.nil_append,
      allS_enc l _ (fun m hm => h m (by simp [hm]))]
    simp
def all1 (l : List Int) : List Int × Int := if 65535 < l.length then ([], 4) else allS [] l
theorem drop_pred {c : Int} {r : List Int} {k : Int} (h : 1 ≤ k) : (c :: r).drop k.toNat = r.drop (k.toNat - 1) := by
  obtain ⟨q, hq⟩ : ∃ q : Nat, k.toNat = q + 1 := ⟨k.toNat - 1, by omega⟩
  rw [hq]; rfl
theorem F81_eq {l : List Int} (h : ∀ n ∈ l, Byte n) : F81 l = some (all1 l) := by
  unfold F81 all1
  by_cases hl : 65535 < l.length
  · have : (65535 : Int) < (l.length : Int) := by omega
    simp only [this, decide_true, cond_true, if_pos hl]
  · have : ¬ (65535 : Int) < (l.length : Int) := by omega
    simp only [this, decide_false, cond_false, if_neg hl]
    refine lfp_rule (fun x => (∀ n ∈ x.1, Byte n) ∧ x.1.length + x.2.1.length ≤ 65535) (fun x => x.1.length) (fun x => allS x.2.1 x.1) ?_ (l, ([] : List Int), (0 : Int)) ⟨h, by simp only [List.length_nil]; omega⟩
    rintro ⟨s, acc, q⟩ ⟨hb, hlen⟩ rec hrec
    simp only at hb hlen ⊢
    cases s with
    | nil => simp [allS]
    | cons c r =>
      have k1 : (0 : Int) < ((c :: r).length : Int) := by simp only [List.length_cons]; omega
      have k2 := get1_ok hb (y := (get1 (c :: r)).1) (m := (get1 (c :: r)).2.1) (e := (get1 (c :: r)).2.2) rfl
      simp only [k1, decide_true, cond_true, F52_eq hb (by omega), Option.bind_some, allS]
      by_cases he : (get1 (c :: r)).2.2 = 0
      · rcases k2 with ⟨_, k3, k4, k5, k6, k7⟩ | ⟨k3, _⟩
        · have k8 : inb (get1 (c :: r)).2.1 ((c :: r).length + 1) = true := inb_true (by omega) (by omega)
          have k9 : (acc.length + 1) * 8 ≤ LIM := by unfold LIM; omega
          simp only [he, decide_true, Bool.not_true, cond_false, k8, cond_true, k9, ne_eq, not_true_eq_false, if_false]
          have k10 : 1 ≤ (get1 (c :: r)).2.1 := by omega
          rw [drop_pred k10]
          refine hrec _ ⟨fun n hn => hb n (List.mem_cons_of_mem _ (List.mem_of_mem_drop hn)), ?_⟩ ?_
          · simp only [List.length_drop, List.length_append, List.length_cons, List.length_nil] at hlen ⊢; omega
          · simp only [List.length_drop, List.length_cons]; omega
        · exact absurd he k3
      · simp only [he, decide_false, Bool.not_false, cond_true, ne_eq, not_false_eq_true, if_true]
theorem F83_eq {l : List Int} (h : ∀ n ∈ l, Byte n) : F83 l = some (all1 l) := by
  unfold F83 all1
  by_cases hl : 65535 < l.length
  · have : (65535 : Int) < (l.length : Int) := by omega
    simp only [this, decide_true, cond_true, if_pos hl]
  · have : ¬ (65535 : Int) < (l.length : Int) := by omega
    simp only [this, decide_false, cond_false, if_neg hl]
    refine lfp_rule (fun x => (∀ n ∈ x.1, Byte n) ∧ x.1.length + x.2.2.2.length ≤ 65535) (fun x => x.1.length) (fun x => allS x.2.2.2 x.1) ?_ (l, ([] : List Int), (0 : Int), ([] : List Int)) ⟨h, by simp only [List.length_nil]; omega⟩
    rintro ⟨s, q, q2, acc⟩ ⟨hb, hlen⟩ rec hrec
    simp only at hb hlen ⊢
    cases s with
    | nil => simp [allS]
    | cons c r =>
      have k1 : (0 : Int) < ((c :: r).length : Int) := by simp only [List.length_cons]; omega
      have k2 := get1_ok hb (y := (get1 (c :: r)).1) (m := (get1 (c :: r)).2.1) (e := (get1 (c :: r)).2.2) rfl
      simp only [k1, decide_true, cond_true, F49_eq hb (by omega), Option.bind_some, allS]
      by_cases he : (get1 (c :: r)).2.2 = 0
      · rcases k2 with ⟨_, k3, k4, k5, k6, k7⟩ | ⟨k3, _⟩
        · have k8 : inb (get1 (c :: r)).2.1 ((c :: r).length + 1) = true := inb_true (by omega) (by omega)
          have k9 : (acc.length + 1) * 8 ≤ LIM := by unfold LIM; omega
          simp only [he, decide_true, Bool.not_true, cond_false, k8, cond_true, k9, ne_eq, not_true_eq_false, if_false]
          have k10 : 1 ≤ (get1 (c :: r)).2.1 := by omega
          rw [drop_pred k10]
          refine hrec _ ⟨fun n hn => hb n (List.mem_cons_of_mem _ (List.mem_of_mem_drop hn)), ?_⟩ ?_
          · simp only [List.length_drop, List.length_append, List.length_cons, List.length_nil] at hlen ⊢; omega
          · simp only [List.length_drop, List.length_cons]; omega
        · exact absurd he k3
      · simp only [he, decide_false, Bool.not_false, cond_true, ne_eq, not_false_eq_true, if_true]
theorem all1_len {l : List Int} : (all1 l).1.length ≤ l.length := by
  have key : ∀ (n : Nat) (l acc : List Int), l.length ≤ n → (allS acc l).1.length ≤ acc.length + l.length := by
    intro n
    induction n with
    | zero => intro l acc h; cases l with
      | nil => simp [allS]
      | cons c r => simp at h
    | succ n ih =>
      intro l acc h
      cases l with
      | nil => simp [allS]
      | cons c r =>
        rw [allS]
        split
        · simp
        · refine Nat.le_trans (ih _ _ ?_) ?_
          · simp at h ⊢; omega
          · simp; omega
  unfold all1
  split
  · simp
  · simpa using key _ l [] (Nat.le_refl _)
end Go.Proofs.Ytacebemdonoliaa.R4
namespace Go.Proofs.Ytacebemdonoliaa.R4
open Go Go.Fw Go.Proofs RB
set_option maxRecDepth 20000
def capF (n : Int) : Int := if n < 4096 then n else 4096
/-- One record read into a reply; none: it can't be one of it. -/
noncomputable def rdP (r : Rp) (q : Rec) : Option Rp :=
  if q.1 = 7 then (if (getK q.2).2 = 0 then some (r.1, (r.2.1, (r.2.2.1, (r.2.2.2.1, (r.2.2.2.2.1, (r.2.2.2.2.2.1, (r.2.2.2.2.2.2.1, (getK q.2).1))))))) else none)
  else if (all1 q.2).2 ≠ 0 then none
  else if q.1 = 6 then some (r.1, (r.2.1, (r.2.2.1, (r.2.2.2.1, (r.2.2.2.2.1, ((all1 q.2).1, (r.2.2.2.2.2.2.1, r.2.2.2.2.2.2.2)))))))
  else if 16 ≤ q.1 then (match (all1 q.2).1 with
    | [a, k, x, n] => if 16 ≤ k then none else some (r.1, (r.2.1, (r.2.2.1, (r.2.2.2.1, (r.2.2.2.2.1, (r.2.2.2.2.2.1, (r.2.2.2.2.2.2.1 ++ [(a, (k, (x, n)))], r.2.2.2.2.2.2.2)))))))
    | _ => none)
  else match (all1 q.2).1 with
    | [n] =>
      if q.1 = 1 then some (n, r.2) else
      if q.1 = 2 then some (r.1, (capF n, r.2.2)) else
      if q.1 = 3 then some (r.1, (r.2.1, (n, r.2.2.2))) else
      if q.1 = 4 then some (r.1, (r.2.1, (r.2.2.1, (n, r.2.2.2.2)))) else
      if q.1 = 5 then some (r.1, (r.2.1, (r.2.2.1, (r.2.2.2.1, (capF n, r.2.2.2.2.2))))) else none
    | _ => none
noncomputable def rdAll : Rp → List Rec → Option Rp
  | r, [] => some r
  | r, q :: l => match rdP r q with | some r' => rdAll r' l | none => none
def zP : Rp := (0, (0, (0, (0, (0, ([], ([], (0, ([], 0)))))))))
theorem all1_enc {l : List Int} (h : ∀ n ∈ l, U64 n) (hl : l.length ≤ 100) : all1 (l.flatMap enc1) = (l, 0) := by
  have hlen := encs1_len l
  unfold all1
  rw [if_neg (by omega), allS_enc l [] (fun n hn => ⟨(h n hn).1, (h n hn).2⟩)]
  simp
theorem all1_one {n : Int} (h : U64 n) : all1 (enc1 n) = ([n], 0) := by
  have := all1_enc (l := [n]) (by simpa using h) (by simp)
  simpa using this
theorem rdAll_append : ∀ (l m : List Rec) (r : Rp), rdAll r (l ++ m) = (rdAll r l).bind fun r' => rdAll r' m
  | [], m, r => rfl
  | q :: l, m, r => by
    rw [List.cons_append, rdAll, rdAll]
    cases rdP r q with
    | none => rfl
    | some r' => exact rdAll_append l m r'
theorem rdAll_opt {c : Bool} {t : Int} {v : List Int} {r r' : Rp} (h1 : c = true → rdP r (t, v) = some r') (h0 : c = false → r = r') : rdAll r (opt c t v) = some r' := by
  cases c with
  | true => simp [opt, rdAll, h1 rfl]
  | false => simp [opt, rdAll, h0 rfl]
theorem rdAll_evs : ∀ (l : List Ev) (i : Nat) (r : Rp), (∀ x ∈ l, EvOk x ∧ 0 ≤ x.2.1 ∧ x.2.1 < 16) → rdAll r (numd encE i l) = some (r.1, (r.2.1, (r.2.2.1, (r.2.2.2.1, (r.2.2.2.2.1, (r.2.2.2.2.2.1, (r.2.2.2.2.2.2.1 ++ l, r.2.2.2.2.2.2.2)))))))
  | [], i, r, _ => by simp [numd, rdAll]
  | x :: l, i, r, h => by
    obtain ⟨hx, k0, k1⟩ := h x (by simp)
    have ha : all1 (encE x) = ([x.1, x.2.1, x.2.2.1, x.2.2.2], 0) := by
      unfold encE
      refine all1_enc ?_ (by simp)
      intro n hn
      simp only [List.mem_cons, List.not_mem_nil, or_false] at hn
      rcases hn with rfl | rfl | rfl | rfl
      · exact hx.1
      · exact ⟨k0, by omega⟩
      · exact hx.2.2.1
      · exact hx.2.2.2
    rw [numd, rdAll]
    have hp : rdP r (((16 + i : Nat) : Int), encE x) = some (r.1, (r.2.1, (r.2.2.1, (r.2.2.2.1, (r.2.2.2.2.1, (r.2.2.2.2.2.1, (r.2.2.2.2.2.2.1 ++ [x], r.2.2.2.2.2.2.2))))))) := by
      unfold rdP
      simp only [ha]
      rw [if_neg (by omega), if_neg (by simp), if_neg (by omega), if_pos (by omega), if_neg (by omega)]
    rw [hp]
    simp only
    rw [rdAll_evs l (i + 1) _ (fun y hy => h y (List.mem_cons_of_mem _ hy))]
    simp
theorem rdAll_recs {r : Rp} (h : RpOk r) (k : okP r) : rdAll zP (recs r) = some r := by
  obtain ⟨i, e, a, n, s, ids, L, T⟩ := r
  have hid : U64 i := h.id
  have he := k.e
  have hst := k.st
  have ha : U64 a := h.a
  have hn : U64 n := h.n
  have hids : ∀ m ∈ ids, U64 m := h.ids
  have hidl : ids.length ≤ 16 := k.ids
  have htok : TokOk T := h.tok
  have hkt : okK T := k.tok
  have hev : ∀ x ∈ L, EvOk x ∧ 0 ≤ x.2.1 ∧ x.2.1 < 16 := fun x hx => ⟨h.evs x hx, k.evs x hx⟩
  simp only at he hst
  have ue : U64 e := ⟨he.1, by omega⟩
  have us : U64 s := ⟨hst.1, by omega⟩
  unfold recs
  simp only [rdAll_append, List.append_assoc]
  have s1 : rdAll zP [(1, enc1 i)] = some (i, zP.2) := by
    simp only [rdAll]
    unfold rdP
    simp only [all1_one hid]
    simp
  rw [s1, Option.bind_some]
  have s2 : rdAll (i, zP.2) (opt (!decide (e = 0)) 2 (enc1 e)) = some (i, (e, zP.2.2)) := by
    refine rdAll_opt (fun hc => ?_) (fun hc => ?_)
    · unfold rdP
      simp only [all1_one ue]
      have : capF e = e := by unfold capF; rw [if_pos (by omega)]
      simp [this]
    · simp at hc; subst hc; rfl
  rw [s2, Option.bind_some]
  have s3 : rdAll (i, (e, zP.2.2)) (opt (!decide (a = 0)) 3 (enc1 a)) = some (i, (e, (a, zP.2.2.2))) := by
    refine rdAll_opt (fun hc => ?_) (fun hc => ?_)
    · unfold rdP
      simp only [all1_one ha]
      simp
    · simp at hc; subst hc; rfl
  rw [s3, Option.bind_some]
  have s4 : rdAll (i, (e, (a, zP.2.2.2))) (opt (!decide (n = 0)) 4 (enc1 n)) = some (i, (e, (a, (n, zP.2.2.2.2)))) := by
    refine rdAll_opt (fun hc => ?_) (fun hc => ?_)
    · unfold rdP
      simp only [all1_one hn]
      simp
    · simp at hc; subst hc; rfl
  rw [s4, Option.bind_some]
  have s5 : rdAll (i, (e, (a, (n, zP.2.2.2.2)))) (opt (!decide (s = 0)) 5 (enc1 s)) = some (i, (e, (a, (n, (s, zP.2.2.2.2.2))))) := by
    refine rdAll_opt (fun hc => ?_) (fun hc => ?_)
    · unfold rdP
      simp only [all1_one us]
      have : capF s = s := by unfold capF; rw [if_pos (by omega)]
      simp [this]
    · simp at hc; subst hc; rfl
  rw [s5, Option.bind_some]
  have s6 : rdAll (i, (e, (a, (n, (s, zP.2.2.2.2.2))))) (opt (decide (0 < (ids.length : Int))) 6 (ids.flatMap enc1)) = some (i, (e, (a, (n, (s, (ids, zP.2.2.2.2.2.2)))))) := by
    refine rdAll_opt (fun hc => ?_) (fun hc => ?_)
    · unfold rdP
      simp only [all1_enc hids (show ids.length ≤ 100 by omega)]
      simp
    · simp at hc; subst hc; rfl
  rw [s6, Option.bind_some]
  have s7 : rdAll (i, (e, (a, (n, (s, (ids, zP.2.2.2.2.2.2)))))) (opt (!decide (T = (0, ([], 0)))) 7 (tokB T)) = some (i, (e, (a, (n, (s, (ids, ([], T))))))) := by
    refine rdAll_opt (fun hc => ?_) (fun hc => ?_)
    · unfold rdP
      simp only [getK_enc htok hkt]
      simp [zP]
    · simp at hc; subst hc; rfl
  rw [s7, Option.bind_some, rdAll_evs L 0 _ hev]
  simp
end Go.Proofs.Ytacebemdonoliaa.R4
namespace Go.Proofs.Ytacebemdonoliaa.R4
open Go Go.Fw Go.Proofs RB
set_option maxRecDepth 20000
theorem allS_u64 : ∀ (k : Nat) (l acc : List Int), l.length ≤ k → Bs l → (∀ n ∈ acc, U64 n) → ∀ n ∈ (allS acc l).1, U64 n := by
  intro k
  induction k with
  | zero =>
    intro l acc h hb ha
    have : l = [] := List.length_eq_zero_iff.1 (by omega)
    subst this
    simpa [allS] using ha
  | succ k ih =>
    intro l acc h hb ha
    cases l with
    | nil => simpa [allS] using ha
    | cons c r =>
      rw [allS]
      split
      · intro n hn; simp at hn
      · rename_i he
        rcases get1_cases hb with ⟨g1, g2, g3, g4, g5⟩ | ⟨g1, g2, g3⟩
        · refine ih _ _ ?_ (fun n hn => hb n (List.mem_cons_of_mem _ (List.mem_of_mem_drop hn))) ?_
          · rw [List.length_drop]; simp at h ⊢; omega
          · intro n hn
            rcases List.mem_append.1 hn with hn | hn
            · exact ha n hn
            · simp at hn; subst hn; exact ⟨g2.1, g2.2⟩
        · exact absurd g1 (by simpa using he)
theorem all1_u64 {l : List Int} (h : Bs l) : ∀ n ∈ (all1 l).1, U64 n := by
  unfold all1
  split
  · intro n hn; simp at hn
  · exact allS_u64 _ l [] (Nat.le_refl _) h (by simp)
theorem capF_ok {n : Int} (h : U64 n) : 0 ≤ capF n ∧ capF n ≤ 4096 := by
  unfold capF
  have := h.1
  split <;> omega
theorem getK_tok {b : List Int} (hb : Bs b) (h : (getK b).2 = 0) : TokOk (getK b).1 ∧ (getK b).1.2.1.length ≤ 16 := ⟨(getK_ok hb h).1, (getK_ok hb h).2.1.1⟩
theorem rdP_ok {r r' : Rp} {q : Rec} (h : RpOk r) (hb : Bs q.2) (hl : q.2.length ≤ 4096) (hL : r.2.2.2.2.2.2.1.length ≤ 1000) (he : rdP r q = some r') : RpOk r' ∧ r'.2.2.2.2.2.2.1.length ≤ r.2.2.2.2.2.2.1.length + 1 := by
  have hu := all1_u64 hb
  have hal := all1_len (l := q.2)
  obtain ⟨i, e, a, n, s, ids, L, T⟩ := r
  obtain ⟨h1, h2, h3, h4, h5, h6, h7, h8, h9, h10, h11⟩ := h
  unfold rdP at he
  split at he
  · split at he
    · rename_i ht
      obtain ⟨t1, t2⟩ := getK_tok hb ht
      simp only [Option.some.injEq] at he
      subst he
      exact ⟨⟨h1, h2, h3, h4, h5, h6, h7, t1, h9, h10, by simp only; omega⟩, by simp⟩
    · simp at he
  · split at he
    · simp at he
    · split at he
      · simp only [Option.some.injEq] at he
        subst he
        exact ⟨⟨h1, h2, h3, h4, h5, hu, h7, h8, by simp only; omega, h10, h11⟩, by simp⟩
      · split at he
        · split at he
          · rename_i a' k x n' hm
            rw [hm] at hu
            split at he
            · simp at he
            · rename_i hk
              simp only [Option.some.injEq] at he
              subst he
              have u1 := hu a' (by simp)
              have u2 := hu k (by simp)
              have u3 := hu x (by simp)
              have u4 := hu n' (by simp)
              refine ⟨⟨h1, h2, h3, h4, h5, h6, fun y hy => ?_, h8, h9, by simp only [List.length_append, List.length_singleton]; simp only at hL; omega, h11⟩, by simp⟩
              rcases List.mem_append.1 hy with hy | hy
              · exact h7 y hy
              · simp only [List.mem_singleton] at hy
                subst hy
                exact ⟨u1, ⟨by have := u2.1; simp only; omega, by simp only; omega⟩, u3, u4⟩
          · simp at he
        · split at he
          · rename_i n' hm
            rw [hm] at hu
            have u1 := hu n' (by simp)
            have uc := capF_ok u1
            repeat' split at he
            all_goals first
              | (simp at he; done)
              | (simp only [Option.some.injEq] at he; subst he; refine ⟨⟨?_, ?_, ?_, ?_, ?_, h6, h7, h8, h9, h10, h11⟩, by simp⟩ <;> first | exact u1 | exact h1 | exact h2 | exact h3 | exact h4 | exact h5 | (simp only; omega))
          · simp at he
end Go.Proofs.Ytacebemdonoliaa.R4
namespace Go.Proofs.Ytacebemdonoliaa.R4
open Go Go.Fw Go.Proofs RB
set_option maxRecDepth 20000
open Classical in
noncomputable def finP (b : List Int) (e : Int) : Option Rp → Rp × Int
  | none => (zP, 2)
  | some r => if e = 0 ∧ okP r ∧ rpB r = b then (r, 0) else (zP, 2)
noncomputable def getP (b : List Int) : Rp × Int := if 4096 < b.length then (zP, 4) else finP b (getT b).2 (rdAll zP (getT b).1)
abbrev SP := Int × Int × List Ev × ((Int × (Int × (Int × (Int × (Int × List Int))))) × Tok)
def ofS (x : SP) : Rp := (x.2.2.2.1.1, (x.2.2.2.1.2.1, (x.2.2.2.1.2.2.1, (x.2.2.2.1.2.2.2.1, (x.2.2.2.1.2.2.2.2.1, (x.2.2.2.1.2.2.2.2.2, (x.2.2.1, x.2.2.2.2)))))))
def toS (q i : Int) (r : Rp) : SP := (q, (i, (r.2.2.2.2.2.2.1, ((r.1, (r.2.1, (r.2.2.1, (r.2.2.2.1, (r.2.2.2.2.1, r.2.2.2.2.2.1))))), r.2.2.2.2.2.2.2))))
theorem zP_ok : RpOk zP := by
  have z : U64 0 := ⟨by decide, by decide⟩
  exact ⟨z, by decide, z, z, by decide, by simp [zP], by simp [zP], ⟨z, by simp [zP], by simp [zP]⟩, by simp [zP], by simp [zP], by simp [zP]⟩
theorem getT_recs {b : List Int} (hb : Bs b) : (getT b).1.length ≤ 64 ∧ ∀ r ∈ (getT b).1, Bs r.2 ∧ r.2.length ≤ 4096 := by
  by_cases h : (getT b).2 = 0
  · obtain ⟨h1, h2, h3⟩ := getT_ok (m := (getT b).1) hb (by rw [← h])
    exact ⟨h2.1, fun r hr => ⟨(h1 r hr).2, h2.2.1 r hr⟩⟩
  · have : (getT b).1 = [] := by
      unfold getT at h ⊢
      split
      · rfl
      · rename_i hl
        rw [if_neg hl] at h
        have key : ∀ (n : Nat) (c : List Int) (acc : List Rec), c.length ≤ n → (goT acc c).2 ≠ 0 → (goT acc c).1 = [] := by
          intro n
          induction n with
          | zero =>
            intro c acc hn h0
            have : c = [] := List.length_eq_zero_iff.1 (by omega)
            subst this
            rw [goT_nil] at h0; simp at h0
          | succ n ih =>
            intro c acc hn h0
            rw [goT] at h0 ⊢
            split
            · rename_i q; rw [if_pos q] at h0; simp at h0
            rename_i q; rw [if_neg q] at h0
            split
            · rfl
            rename_i q; rw [if_neg q] at h0
            split
            · rfl
            rename_i q; rw [if_neg q] at h0
            split
            · rfl
            rename_i q; rw [if_neg q] at h0
            split
            · rfl
            rename_i q; rw [if_neg q] at h0
            split
            · rfl
            rename_i q; rw [if_neg q] at h0
            split
            · rfl
            rename_i q; rw [if_neg q] at h0
            split
            · rename_i q
              rw [dif_pos q] at h0
              exact ih _ _ (by omega) h0
            · rfl
        exact key _ b [] (Nat.le_refl _) h
    rw [this]
    exact ⟨by simp, by simp⟩
theorem F37_eq {b : List Int} (hb : Bs b) : F37 b = some (getP b) := by
  unfold F37 getP
  by_cases hl : 4096 < b.length
  · have : (4096 : Int) < (b.length : Int) := by omega
    rw [if_pos hl]
    simp only [this, decide_true, cond_true]
    rfl
  · have hl' : ¬ (4096 : Int) < (b.length : Int) := by omega
    rw [if_neg hl]
    simp only [hl', decide_false, cond_false, F22_eq hb, Option.bind_some, both_self]
    obtain ⟨m1, m2⟩ := getT_recs hb
    generalize (getT b).2 = e
    generalize (getT b).1 = m at m1 m2 ⊢
    refine lfp_rule (fun (x : SP) => ∃ i : Nat, x.2.1 = (i : Int) ∧ i ≤ m.length ∧ RpOk (ofS x) ∧ (ofS x).2.2.2.2.2.2.1.length ≤ i) (fun x => m.length - x.2.1.toNat) (fun x => finP b e (rdAll (ofS x) (m.drop x.2.1.toNat))) ?_ (toS 0 0 zP) ⟨0, rfl, by omega, zP_ok, by simp [ofS, toS, zP]⟩
    rintro ⟨q, i', L, ⟨id, er, a, n, s, ids⟩, T⟩ ⟨i, hi', hi, hok, hLi⟩ rec hrec
    simp only at hi'
    subst hi'
    simp only [ofS] at hok hLi hrec ⊢
    rw [Int.toNat_natCast]
    by_cases hlt : i < m.length
    · have k1 : ((i : Int) < (m.length : Int)) := by omega
      obtain ⟨hqb, hql⟩ := m2 _ (List.getElem_mem hlt)
      simp only [k1, decide_true, cond_true, inb_true (Int.natCast_nonneg i) k1, rd_nat (t := tR) hlt]
      rw [RB.wrap_i64 (n := (i : Int) + 1) (by omega) (by omega), List.drop_eq_getElem_cons hlt, rdAll]
      have step : ∀ r', rdP (id, (er, (a, (n, (s, (ids, (L, T))))))) m[i] = some r' → rec (toS q ((i : Int) + 1) r') = some (finP b e (rdAll r' (m.drop (i + 1)))) := by
        intro r' hr
        obtain ⟨o1, o2⟩ := rdP_ok hok hqb hql (by simp only at hLi ⊢; omega) hr
        have := hrec (toS q ((i : Int) + 1) r') ⟨i + 1, by simp [toS], by omega, o1, by simp only [toS] at hLi ⊢; simp only at o2; omega⟩ (by simp only [toS]; omega)
        rw [this]
        simp only [toS]
        congr 3
      by_cases c7 : m[i].1 = 7
      · simp only [c7, decide_true, cond_true, F80_eq hqb, Option.bind_some]
        by_cases ct : (getK m[i].2).2 = 0
        · have hr : rdP (id, (er, (a, (n, (s, (ids, (L, T))))))) m[i] = some (id, (er, (a, (n, (s, (ids, (L, (getK m[i].2).1))))))) := by unfold rdP; rw [if_pos c7, if_pos ct]
          simp only [ct, decide_true, Bool.not_true, cond_false, hr]
          exact step _ hr
        · have hr : rdP (id, (er, (a, (n, (s, (ids, (L, T))))))) m[i] = none := by unfold rdP; rw [if_pos c7, if_neg ct]
          simp only [ct, decide_false, Bool.not_false, cond_true, hr]
          rfl
      · simp only [c7, decide_false, cond_false, F81_eq hqb, Option.bind_some]
        by_cases ca : (all1 m[i].2).2 = 0
        · have ca' : ¬ ((all1 m[i].2).2 ≠ 0) := fun q => q ca
          have hu := all1_u64 hqb
          simp only [ca, decide_true, Bool.not_true, cond_false]
          by_cases c6 : m[i].1 = 6
          · have hr : rdP (id, (er, (a, (n, (s, (ids, (L, T))))))) m[i] = some (id, (er, (a, (n, (s, ((all1 m[i].2).1, (L, T))))))) := by unfold rdP; rw [if_neg c7, if_neg ca', if_pos c6]
            simp only [c6, decide_true, cond_true, hr]
            exact step _ hr
          · simp only [c6, decide_false, cond_false]
            by_cases c16 : 16 ≤ m[i].1
            · have hr0 : rdP (id, (er, (a, (n, (s, (ids, (L, T))))))) m[i] = (match (all1 m[i].2).1 with
                | [a', k, x, n'] => if 16 ≤ k then none else some (id, (er, (a, (n, (s, (ids, (L ++ [(a', (k, (x, n')))], T)))))))
                | _ => none) := by unfold rdP; rw [if_neg c7, if_neg ca', if_neg c6, if_pos c16]; first | done | (generalize (all1 m[i].2).1 = N; rcases N with _ | ⟨x0, _ | ⟨x1, _ | ⟨x2, _ | ⟨x3, _ | ⟨x4, N⟩⟩⟩⟩⟩ <;> rfl)
              simp only [c16, decide_true, cond_true]
              generalize (all1 m[i].2).1 = N at hu hr0 ⊢
              rcases N with _ | ⟨x0, _ | ⟨x1, _ | ⟨x2, _ | ⟨x3, _ | ⟨x4, N⟩⟩⟩⟩⟩
              · rw [hr0]; rfl
              · rw [hr0]; rfl
              · rw [hr0]; rfl
              · rw [hr0]; rfl
              · have r0 : rd (.int .u64) [x0, x1, x2, x3] 0 = x0 := rfl
                have r1 : rd (.int .u64) [x0, x1, x2, x3] 1 = x1 := rfl
                have r2 : rd (.int .u64) [x0, x1, x2, x3] 2 = x2 := rfl
                have r3 : rd (.int .u64) [x0, x1, x2, x3] 3 = x3 := rfl
                have u1 := hu x1 (by simp)
                have k3 : (L.length + 1) * 32 ≤ LIM := by unfold LIM; omega
                simp only [List.length_cons, List.length_nil, show decide (((0 + 1 + 1 + 1 + 1 : Nat) : Int) = 4) = true from rfl, Bool.not_true, beq_self_eq_true, cond_true, r0, r1, r2, r3,
                  show inb 0 (0 + 1 + 1 + 1 + 1) = true from rfl, show inb 1 (0 + 1 + 1 + 1 + 1) = true from rfl, show inb 2 (0 + 1 + 1 + 1 + 1) = true from rfl, show inb 3 (0 + 1 + 1 + 1 + 1) = true from rfl, k3, decide_true]
                by_cases ck : 16 ≤ x1
                · have hr : rdP (id, (er, (a, (n, (s, (ids, (L, T))))))) m[i] = none := by rw [hr0]; simp only; rw [if_pos ck]
                  simp only [ck, decide_true, cond_true, hr]
                  rfl
                · have hr : rdP (id, (er, (a, (n, (s, (ids, (L, T))))))) m[i] = some (id, (er, (a, (n, (s, (ids, (L ++ [(x0, (x1, (x2, x3)))], T))))))) := by rw [hr0]; simp only; rw [if_neg ck]
                  have hw : IntKind.wrap .i64 x1 = x1 := RB.wrap_i64 (by have := u1.1; omega) (by omega)
                  simp only [ck, decide_false, cond_false, hr, hw]
                  exact step _ hr
              · have hne : ¬ (((x0 :: x1 :: x2 :: x3 :: x4 :: N).length : Int) = 4) := by simp only [List.length_cons]; omega
                rw [hr0]
                simp only [hne, decide_false, Bool.not_false, show (true == false) = false from rfl, cond_false]
                rfl
            · have hr0 : rdP (id, (er, (a, (n, (s, (ids, (L, T))))))) m[i] = (match (all1 m[i].2).1 with
                | [n'] =>
                  if m[i].1 = 1 then some (n', (er, (a, (n, (s, (ids, (L, T))))))) else
                  if m[i].1 = 2 then some (id, (capF n', (a, (n, (s, (ids, (L, T))))))) else
                  if m[i].1 = 3 then some (id, (er, (n', (n, (s, (ids, (L, T))))))) else
                  if m[i].1 = 4 then some (id, (er, (a, (n', (s, (ids, (L, T))))))) else
                  if m[i].1 = 5 then some (id, (er, (a, (n, (capF n', (ids, (L, T))))))) else none
                | _ => none) := by unfold rdP; rw [if_neg c7, if_neg ca', if_neg c6, if_neg c16]; first | done | (generalize (all1 m[i].2).1 = N; rcases N with _ | ⟨x0, _ | ⟨x1, N⟩⟩ <;> rfl)
              simp only [c16, decide_false, cond_false]
              generalize (all1 m[i].2).1 = N at hu hr0 ⊢
              rcases N with _ | ⟨x0, _ | ⟨x1, N⟩⟩
              · rw [hr0]; rfl
              · have r0 : rd (.int .u64) [x0] 0 = x0 := rfl
                have u0 := hu x0 (by simp)
                have hcf : IntKind.wrap .i64 (if 4096 < x0 then 4096 else x0) = capF x0 := by
                  have := u0.1
                  unfold capF
                  by_cases g : 4096 < x0
                  · rw [if_pos g, if_neg (by omega)]; rfl
                  · rw [if_neg g, RB.wrap_i64 (by omega) (by omega)]
                    split <;> omega
                simp only [List.length_cons, List.length_nil, show decide (((0 + 1 : Nat) : Int) = 1) = true from rfl, Bool.not_true, cond_false, cond_true, r0, show inb 0 (0 + 1) = true from rfl, hcf]
                simp only at hr0
                by_cases d1 : m[i].1 = 1
                · rw [if_pos d1] at hr0
                  simp only [d1, decide_true, cond_true, hr0]
                  exact step _ hr0
                rw [if_neg d1] at hr0
                simp only [d1, decide_false, cond_false]
                by_cases d2 : m[i].1 = 2
                · rw [if_pos d2] at hr0
                  simp only [d2, decide_true, cond_true, hr0]
                  exact step _ hr0
                rw [if_neg d2] at hr0
                simp only [d2, decide_false, cond_false]
                by_cases d3 : m[i].1 = 3
                · rw [if_pos d3] at hr0
                  simp only [d3, decide_true, cond_true, hr0]
                  exact step _ hr0
                rw [if_neg d3] at hr0
                simp only [d3, decide_false, cond_false]
                by_cases d4 : m[i].1 = 4
                · rw [if_pos d4] at hr0
                  simp only [d4, decide_true, cond_true, hr0]
                  exact step _ hr0
                rw [if_neg d4] at hr0
                simp only [d4, decide_false, cond_false]
                by_cases d5 : m[i].1 = 5
                · rw [if_pos d5] at hr0
                  simp only [d5, decide_true, cond_true, hr0]
                  exact step _ hr0
                rw [if_neg d5] at hr0
                simp only [d5, decide_false, cond_false, hr0]
                rfl
              · have hne : ¬ (((x0 :: x1 :: N).length : Int) = 1) := by simp only [List.length_cons]; omega
                rw [hr0]
                simp only [hne, decide_false, Bool.not_false, cond_true]
                rfl
        · have hr : rdP (id, (er, (a, (n, (s, (ids, (L, T))))))) m[i] = none := by unfold rdP; rw [if_neg c7, if_pos ca]
          simp only [ca, decide_false, Bool.not_false, cond_true, hr]
          rfl
    · have k1 : ¬ ((i : Int) < (m.length : Int)) := by omega
      have : m.drop i = [] := List.drop_eq_nil_of_le (by omega)
      simp only [k1, decide_false, cond_false, this, rdAll]
      rw [F33_eq hok]
      unfold finP
      by_cases ke : e = 0
      · by_cases kk : okP (id, (er, (a, (n, (s, (ids, (L, T)))))))
        · by_cases kb : rpB (id, (er, (a, (n, (s, (ids, (L, T))))))) = b
          · simp [ke, kk, kb, F64]
          · simp [ke, kk, kb, F64, zP]
        · simp [ke, kk, zP]
      · simp [ke, zP]
end Go.Proofs.Ytacebemdonoliaa.R4
namespace Go.Proofs.Ytacebemdonoliaa.R4
open Go Go.Fw Go.Proofs RB
set_option maxRecDepth 20000
theorem getT_enc {l : List Rec} (hv : ∀ r ∈ l, OkV r) (ho : okT l) (hlen : (l.flatMap encR).length ≤ 65535) : getT (l.flatMap encR) = (l, 0) := by
  unfold getT
  rw [if_neg (by omega), goT_enc l [] (fun r hr => ⟨hv r hr, ho.2.1 r hr⟩) ho.2.2 ho.1]
  simp
theorem rdAll_ok : ∀ (l : List Rec) (r r' : Rp), RpOk r → r.2.2.2.2.2.2.1.length + l.length ≤ 1000 → (∀ q ∈ l, Bs q.2 ∧ q.2.length ≤ 4096) → rdAll r l = some r' → RpOk r'
  | [], r, r', h, _, _, he => by simp only [rdAll, Option.some.injEq] at he; subst he; exact h
  | q :: l, r, r', h, hl, hb, he => by
    rw [rdAll] at he
    rw [List.length_cons] at hl
    cases hq : rdP r q with
    | none => rw [hq] at he; simp at he
    | some r1 =>
      rw [hq] at he
      obtain ⟨o1, o2⟩ := rdP_ok h (hb q (by simp)).1 (hb q (by simp)).2 (by omega) hq
      exact rdAll_ok l r1 r' o1 (by omega) (fun x hx => hb x (List.mem_cons_of_mem _ hx)) he
theorem getP_ok {b : List Int} (hb : Bs b) (h : (getP b).2 = 0) : RpOk (getP b).1 ∧ okP (getP b).1 ∧ rpB (getP b).1 = b := by
  unfold getP at h ⊢
  split at h
  · simp at h
  rename_i hl
  rw [if_neg hl]
  obtain ⟨m1, m2⟩ := getT_recs hb
  cases hr : rdAll zP (getT b).1 with
  | none => rw [hr] at h; simp [finP] at h
  | some r =>
    rw [hr] at h
    have ho := rdAll_ok _ _ _ zP_ok (by simp [zP]; omega) m2 hr
    unfold finP at h ⊢
    simp only at h ⊢
    split at h
    · rename_i q
      rw [if_pos q]
      exact ⟨ho, q.2.1, q.2.2⟩
    · simp at h
theorem getP_bad {b : List Int} (hl : b.length ≤ 4096) (h : (getP b).2 ≠ 0) : getP b = (zP, 2) := by
  unfold getP at h ⊢
  rw [if_neg (by omega)] at h ⊢
  cases hr : rdAll zP (getT b).1 with
  | none => rfl
  | some r =>
    rw [hr] at h
    unfold finP at h ⊢
    simp only at h ⊢
    split at h
    · simp at h
    · rename_i q; rw [if_neg q]
theorem getP_enc {r : Rp} (h : RpOk r) (k : okP r) : getP (rpB r) = (r, 0) := by
  have hlen := recs_len k
  have hg : getT (rpB r) = (recs r, 0) := getT_enc (recs_okV h k) (recs_okT k) (by omega)
  unfold getP
  have hl2 : ¬ 4096 < (rpB r).length := by unfold rpB; omega
  rw [if_neg hl2, hg]
  simp only [rdAll_recs h k]
  unfold finP
  simp only
  rw [if_pos ⟨by trivial, k, by trivial⟩]
/-- The octets of a reply with one more are of none. -/
theorem getP_more {r : Rp} (h : RpOk r) (k : okP r) : getP (rpB r ++ [0]) = (zP, 2) := by
  have hlen := recs_len k
  have hb0 : Bs (rpB r) := encs_bytes (recs_okV h k)
  have hb : Bs (rpB r ++ [0]) := fun n hn => by
    rcases List.mem_append.1 hn with hn | hn
    · exact hb0 n hn
    · simp at hn; subst hn; unfold Byte; omega
  refine getP_bad (by unfold rpB; rw [List.length_append, List.length_singleton]; omega) fun h0 => ?_
  obtain ⟨o1, o2, o3⟩ := getP_ok hb h0
  generalize (getP (rpB r ++ [0])).1 = s at o1 o2 o3
  have key : ∀ (l m : List Rec), (∀ q ∈ l, OkV q ∧ q.2.length ≤ 4096) → (∀ q ∈ m, OkV q ∧ q.2.length ≤ 4096) → m.flatMap encR = l.flatMap encR ++ [0] → False := by
    intro l
    induction l with
    | nil =>
      intro m _ hm he
      cases m with
      | nil => simp at he
      | cons q m =>
        rw [List.flatMap_cons, List.flatMap_nil, List.nil_append] at he
        have := congrArg List.length he
        unfold encR enc1 at this
        simp only [List.length_append, List.length_cons, List.length_nil] at this
        omega
    | cons a l ih =>
      intro m hl hm he
      cases m with
      | nil => simp at he
      | cons q m =>
        rw [List.flatMap_cons, List.flatMap_cons, List.append_assoc] at he
        have hq := hm q (by simp)
        have ha := hl a (by simp)
        obtain ⟨_, h2⟩ := encR_inj hq.1 ha.1 hq.2 ha.2 he
        exact ih m (fun x hx => hl x (List.mem_cons_of_mem _ hx)) (fun x hx => hm x (List.mem_cons_of_mem _ hx)) h2
  exact key (recs r) (recs s) (fun q hq => ⟨recs_okV h k q hq, (recs_okT k).2.1 q hq⟩) (fun q hq => ⟨recs_okV o1 o2 q hq, (recs_okT o2).2.1 q hq⟩) o3
end Go.Proofs.Ytacebemdonoliaa.R4
namespace Go.Proofs.Ytacebemdonoliaa.R4
open Go Go.Fw Go.Proofs RB
set_option maxRecDepth 20000
theorem F82_eq {n : Int} (h : U64 n) : F82 n = some (if n < 99 then n else 99) := by
  have := h.1
  unfold F82
  by_cases c : 99 < n
  · rw [if_pos c, if_neg (by omega)]; rfl
  · rw [if_neg c, RB.wrap_i64 (by omega) (by omega)]
    congr 1
    split <;> omega
theorem F66_eq {a b : List Int} (hl : a.length ≤ 4611686018427387904) : F66 (a, b) = some (decide (a = b)) := by
  unfold F66
  by_cases hn : a.length = b.length
  · have : (a.length : Int) = (b.length : Int) := by omega
    simp only [this, decide_true, Bool.not_true, cond_false]
    rw [← this]
    exact same_loop (t := .int .u64) hl hn (G := fun x y K => K (decide (x = y))) (fun i h1 h2 K => rfl)
  · have : ¬ (a.length : Int) = (b.length : Int) := by omega
    have hne : a ≠ b := fun h => hn (by rw [h])
    simp [this, hne]
theorem F67_eq {a b : List Ev} (hl : a.length ≤ 4611686018427387904) : F67 (a, b) = some (decide (a = b)) := by
  unfold F67
  by_cases hn : a.length = b.length
  · have : (a.length : Int) = (b.length : Int) := by omega
    simp only [this, decide_true, Bool.not_true, cond_false]
    rw [← this]
    refine same_loop (t := .pair (.int .u64) (.pair (.int .i64) (.pair (.int .u64) (.int .u64)))) hl hn (G := fun x y K => K (decide (x.1 = y.1) && (decide (x.2.1 = y.2.1) && (decide (x.2.2.1 = y.2.2.1) && decide (x.2.2.2 = y.2.2.2))))) ?_
    intro i h1 h2 K
    congr 1
    rw [Bool.eq_iff_iff]
    simp only [Bool.and_eq_true, decide_eq_true_eq]
    constructor
    · rintro ⟨q1, q2, q3, q4⟩; exact Prod.ext q1 (Prod.ext q2 (Prod.ext q3 q4))
    · intro q; rw [q]; exact ⟨rfl, rfl, rfl, rfl⟩
  · have : ¬ (a.length : Int) = (b.length : Int) := by omega
    have hne : a ≠ b := fun h => hn (by rw [h])
    simp [this, hne]
theorem F78_eq {a b : List Cv} (hl : a.length ≤ 4611686018427387904) : F78 (a, b) = some (decide (a = b)) := by
  unfold F78
  by_cases hn : a.length = b.length
  · have : (a.length : Int) = (b.length : Int) := by omega
    simp only [this, decide_true, Bool.not_true, cond_false]
    rw [← this]
    refine same_loop (t := .pair (.int .i64) (.pair (.int .u64) (.int .u64))) hl hn (G := fun x y K => K (decide (x.1 = y.1) && (decide (x.2.1 = y.2.1) && decide (x.2.2 = y.2.2)))) ?_
    intro i h1 h2 K
    congr 1
    rw [Bool.eq_iff_iff]
    simp only [Bool.and_eq_true, decide_eq_true_eq]
    constructor
    · rintro ⟨q1, q2, q3⟩; exact Prod.ext q1 (Prod.ext q2 q3)
    · intro q; rw [q]; exact ⟨rfl, rfl, rfl⟩
  · have : ¬ (a.length : Int) = (b.length : Int) := by omega
    have hne : a ≠ b := fun h => hn (by rw [h])
    simp [this, hne]
theorem F61_eq {a b : Tok} (hl : a.2.1.length ≤ 4611686018427387904) : F61 (a, b) = some (decide (a = b)) := by
  obtain ⟨a1, a2, a3⟩ := a
  obtain ⟨b1, b2, b3⟩ := b
  unfold F61
  simp only [F78_eq hl, Option.bind_some]
  by_cases c1 : a1 = b1
  · by_cases c2 : a3 = b3
    · by_cases c3 : a2 = b2 <;> simp [c1, c2, c3]
    · simp [c1, c2]
  · simp [c1]
open Classical in
theorem F40_eq {r : Rp} (h : RpOk r) (hl : r.2.2.2.2.2.2.2.2.1.length ≤ 4611686018427387904) : F40 r = some (if okP r then 0 else 1) := by
  obtain ⟨i, e, a, n, s, ids, L, T⟩ := r
  unfold F40
  simp only [Prod.eta]
  by_cases c1 : (0 ≤ e ∧ e ≤ 14) ∧ (0 ≤ s ∧ s ≤ 4) ∧ ids.length ≤ 16 ∧ L.length ≤ 16
  · obtain ⟨⟨e0, e1⟩, ⟨s0, s1⟩, hi, hL⟩ := c1
    have d1 : ¬ e < 0 := by omega
    have d2 : ¬ 14 < e := by omega
    have d3 : ¬ s < 0 := by omega
    have d4 : ¬ 4 < s := by omega
    have d5 : ¬ (16 : Int) < (ids.length : Int) := by omega
    have d6 : ¬ (16 : Int) < (L.length : Int) := by omega
    simp only [d1, d2, d3, d4, d5, d6, decide_false, cond_false, beq_self_eq_true, cond_true, F68_eq h.tok hl, Option.bind_some]
    by_cases ck : okK T
    · simp only [ck, if_true, decide_true, Bool.not_true, cond_false]
      refine lfp_rule (fun (x : Int × Int) => ∃ j : Nat, x.2 = (j : Int) ∧ j ≤ L.length ∧ ∀ p (hp : p < L.length), p < j → 0 ≤ L[p].2.1 ∧ L[p].2.1 < 16) (fun x => L.length - x.2.toNat) (fun _ => if okP (i, (e, (a, (n, (s, (ids, (L, T))))))) then 0 else 1) ?_ (0, 0) ⟨0, rfl, by omega, by intro p _ hp; omega⟩
      rintro ⟨q, j'⟩ ⟨j, hj', hj, hp⟩ rec hrec
      simp only at hj'
      subst hj'
      simp only
      by_cases hlt : j < L.length
      · have k1 : ((j : Int) < (L.length : Int)) := by omega
        simp only [k1, decide_true, cond_true, inb_true (Int.natCast_nonneg j) k1, rd_nat (t := .pair (.int .u64) (.pair (.int .i64) (.pair (.int .u64) (.int .u64)))) hlt]
        by_cases c : 0 ≤ L[j].2.1 ∧ L[j].2.1 < 16
        · have g1 : ¬ L[j].2.1 < 0 := by omega
          have g2 : ¬ 15 < L[j].2.1 := by omega
          simp only [g1, g2, decide_false, cond_false]
          rw [RB.wrap_i64 (n := (j : Int) + 1) (by omega) (by omega)]
          refine hrec _ ⟨j + 1, by simp, by omega, fun p hp1 hp2 => ?_⟩ (by simp only; omega)
          by_cases ep : p = j
          · subst ep; exact c
          · exact hp p hp1 (by omega)
        · have hn : ¬ okP (i, (e, (a, (n, (s, (ids, (L, T))))))) := fun hk => c (hk.evs _ (List.getElem_mem hlt))
          rw [if_neg hn]
          by_cases g1 : L[j].2.1 < 0
          · simp [g1]
          · have g2 : 15 < L[j].2.1 := by omega
            simp [g1, g2]
      · have k1 : ¬ ((j : Int) < (L.length : Int)) := by omega
        have hk : okP (i, (e, (a, (n, (s, (ids, (L, T))))))) := ⟨⟨e0, e1⟩, ⟨s0, s1⟩, hi, hL, fun x hx => by
          obtain ⟨p, hp1, rfl⟩ := List.getElem_of_mem hx
          have hp2 : p < L.length := hp1
          exact hp p hp2 (by omega), ck⟩
        simp only [k1, decide_false, cond_false, hk, if_true]
    · have hn : ¬ okP (i, (e, (a, (n, (s, (ids, (L, T))))))) := fun hk => ck hk.tok
      simp [ck, hn]
  · have hn : ¬ okP (i, (e, (a, (n, (s, (ids, (L, T))))))) := fun hk => c1 ⟨hk.e, hk.st, hk.ids, hk.evl⟩
    have : (bif (bif (bif (bif (bif decide (e < 0) then true else decide (14 < e)) then true else decide (s < 0)) then true else decide (4 < s)) then true else decide ((16 : Int) < (ids.length : Int))) then true else decide ((16 : Int) < (L.length : Int))) = true := by
      by_cases d1 : e < 0
      · simp [d1]
      by_cases d2 : 14 < e
      · simp [d2]
      by_cases d3 : s < 0
      · simp [d3]
      by_cases d4 : 4 < s
      · simp [d4]
      by_cases d5 : (16 : Int) < (ids.length : Int)
      · simp [d5]
      by_cases d6 : (16 : Int) < (L.length : Int)
      · simp [d6]
      exact absurd ⟨⟨by omega, by omega⟩, ⟨by omega, by omega⟩, by omega, by omega⟩ c1
    simp only [this, show (true == false) = false from rfl, cond_false, hn, if_false]
end Go.Proofs.Ytacebemdonoliaa.R4
namespace Go.Proofs.Ytacebemdonoliaa.R4
open Go Go.Fw Go.Proofs RB
set_option maxRecDepth 20000
abbrev tE : Ty := .pair (.int .u64) (.pair (.int .i64) (.pair (.int .u64) (.int .u64)))
theorem ev_loop {L : List Ev} (h : ∀ x ∈ L, EvOk x ∧ 0 ≤ x.2.1 ∧ x.2.1 < 16) (h16 : L.length ≤ 16) {X : List Rec} (hX : X.length ≤ 100) {res : List Int × Int} (hres : F21 (X ++ numd encE 0 L) = some res) :
    lfp (fun (rec8 : (List Rec × Int) → Option (List Int × Int)) (x8 : List Rec × Int) =>
   bif decide (x8.2 < (L.length : Int)) then (
   bif inb x8.2 L.length then
   (F46 ([(rd tE L x8.2).1, (IntKind.wrap .u64 (((rd tE L x8.2).2).1)), (((rd tE L x8.2).2).2).1, (((rd tE L x8.2).2).2).2])).bind fun r9 =>
   bif decide ((x8.1.length + 1) * 32 ≤ LIM) then
   rec8 ((x8.1 ++ ([((IntKind.wrap .u64 (IntKind.wrap .i64 (16 + x8.2))), r9)])), (IntKind.wrap .i64 (x8.2 + 1)))
   else none
   else none)
   else (
   (F21 x8.1).bind fun r10 =>
   some (r10.1, r10.2))) (X, 0) = some res := by
  refine lfp_rule (fun (x : List Rec × Int) => ∃ i : Nat, x.2 = (i : Int) ∧ i ≤ L.length ∧ x.1 = X ++ numd encE 0 (L.take i)) (fun x => L.length - x.2.toNat) (fun _ => res) ?_ _ ⟨0, rfl, by omega, by simp [numd]⟩
  rintro ⟨y, i'⟩ ⟨i, hi', hi, hy⟩ rec hrec
  simp only at hi' hy
  subst hi'
  simp only
  by_cases hlt : i < L.length
  · have k1 : ((i : Int) < (L.length : Int)) := by omega
    obtain ⟨ho, k0, k16⟩ := h _ (List.getElem_mem hlt)
    have hyl : y.length = X.length + i := by rw [hy]; simp [numd_len]; omega
    have k3 : (y.length + 1) * 32 ≤ LIM := by unfold LIM; omega
    have hu : ∀ n ∈ [L[i].1, L[i].2.1, L[i].2.2.1, L[i].2.2.2], U64 n := by
      intro n hn
      simp only [List.mem_cons, List.not_mem_nil, or_false] at hn
      rcases hn with rfl | rfl | rfl | rfl
      · exact ho.1
      · exact ⟨k0, by omega⟩
      · exact ho.2.2.1
      · exact ho.2.2.2
    have hw : IntKind.wrap .u64 L[i].2.1 = L[i].2.1 := RB.wrap_u64 k0 (by omega)
    simp only [k1, decide_true, cond_true, inb_true (Int.natCast_nonneg i) k1, rd_nat (t := tE) hlt, hw, F46_eq hu (by simp), Option.bind_some, k3]
    rw [RB.wrap_i64 (n := 16 + (i : Int)) (by omega) (by omega), small_u64 (n := 16 + (i : Int)) (by omega) (by omega), RB.wrap_i64 (n := (i : Int) + 1) (by omega) (by omega)]
    refine hrec (_, (i : Int) + 1) ⟨i + 1, by simp, by omega, ?_⟩ (by simp only; omega)
    rw [hy, List.take_succ_eq_append_getElem hlt, numd_snoc, List.append_assoc]
    simp only [List.length_take]
    congr 3
    rw [Nat.min_eq_left (by omega)]
    unfold encE
    simp
  · have k1 : ¬ ((i : Int) < (L.length : Int)) := by omega
    have hie : i = L.length := by omega
    simp only [k1, decide_false, cond_false]
    rw [hy, hie, List.take_length, hres]
    rfl
theorem num_step {R : Type} (rec : List Rec × Int → Option R) {k v : Int} {X : List Rec} (hv : U64 v) (hX : X.length ≤ 100) (hk : 0 ≤ k ∧ k ≤ 3) :
    (bif (!decide (v = 0)) then (
      (F46 ([v])).bind fun r4 =>
      bif decide ((X.length + 1) * 32 ≤ LIM) then
      rec ((X ++ ([((IntKind.wrap .u64 (IntKind.wrap .i64 (2 + k))), r4)])), (IntKind.wrap .i64 (k + 1)))
      else none)
     else rec (X, (IntKind.wrap .i64 (k + 1)))) = rec (X ++ opt (!decide (v = 0)) (2 + k) (enc1 v), k + 1) := by
  have k3 : (X.length + 1) * 32 ≤ LIM := by unfold LIM; omega
  rw [RB.wrap_i64 (n := k + 1) (by omega) (by omega), RB.wrap_i64 (n := 2 + k) (by omega) (by omega), small_u64 (n := 2 + k) (by omega) (by omega)]
  by_cases c : v = 0
  · simp [c, opt]
  · simp only [c, decide_false, Bool.not_false, cond_true, F46_one hv, Option.bind_some, k3, decide_true, opt]
theorem lim100 {X : List Rec} (h : X.length ≤ 100) : (X.length + 1) * 32 ≤ LIM := by unfold LIM; omega
open Classical in
theorem F36_eq {r : Rp} (h : RpOk r) (hl : r.2.2.2.2.2.2.2.2.1.length ≤ 4611686018427387904) : F36 r = some (if okP r then (rpB r, 0) else ([], 1)) := by
  unfold F36
  simp only [Prod.eta, F40_eq h hl, Option.bind_some]
  by_cases k : okP r
  · obtain ⟨i, e, a, n, s, ids, L, T⟩ := r
    have he := k.e
    have hst := k.st
    have hid : U64 i := h.id
    have ha : U64 a := h.a
    have hn : U64 n := h.n
    have hids : ∀ m ∈ ids, U64 m := h.ids
    have hidl : ids.length ≤ 16 := k.ids
    have hLl : L.length ≤ 16 := k.evl
    have htok : TokOk T := h.tok
    have hkt : okK T := k.tok
    have hev : ∀ x ∈ L, EvOk x ∧ 0 ≤ x.2.1 ∧ x.2.1 < 16 := fun x hx => ⟨h.evs x hx, k.evs x hx⟩
    simp only at he hst
    have ue : U64 e := ⟨he.1, by omega⟩
    have us : U64 s := ⟨hst.1, by omega⟩
    have we : IntKind.wrap .u64 e = e := RB.wrap_u64 he.1 (by omega)
    have ws : IntKind.wrap .u64 s = s := RB.wrap_u64 hst.1 (by omega)
    simp only [k, if_true, decide_true, Bool.not_true, cond_false, F46_one hid, Option.bind_some, we, ws]
    have fin : F21 (recs (i, (e, (a, (n, (s, (ids, (L, T)))))))) = some (rpB (i, (e, (a, (n, (s, (ids, (L, T))))))), 0) := by
      rw [F21_eq (recs_okV h k), putT_recs k]; rfl
    refine lfp_rule (fun (x : List Rec × Int) => (x.2 = 0 ∧ x.1 = [(1, enc1 i)]) ∨ (x.2 = 1 ∧ x.1 = [(1, enc1 i)] ++ opt (!decide (e = 0)) 2 (enc1 e)) ∨
      (x.2 = 2 ∧ x.1 = [(1, enc1 i)] ++ opt (!decide (e = 0)) 2 (enc1 e) ++ opt (!decide (a = 0)) 3 (enc1 a)) ∨
      (x.2 = 3 ∧ x.1 = [(1, enc1 i)] ++ opt (!decide (e = 0)) 2 (enc1 e) ++ opt (!decide (a = 0)) 3 (enc1 a) ++ opt (!decide (n = 0)) 4 (enc1 n)) ∨
      (x.2 = 4 ∧ x.1 = [(1, enc1 i)] ++ opt (!decide (e = 0)) 2 (enc1 e) ++ opt (!decide (a = 0)) 3 (enc1 a) ++ opt (!decide (n = 0)) 4 (enc1 n) ++ opt (!decide (s = 0)) 5 (enc1 s)))
      (fun x => 4 - x.2.toNat) (fun _ => (rpB (i, (e, (a, (n, (s, (ids, (L, T))))))), 0)) ?_ _ (.inl ⟨rfl, rfl⟩)
    rintro ⟨X, j⟩ hx rec hrec
    simp only at hx
    have o1 := opt_len (!decide (e = 0)) 2 (enc1 e)
    have o2 := opt_len (!decide (a = 0)) 3 (enc1 a)
    have o3 := opt_len (!decide (n = 0)) 4 (enc1 n)
    have o4 := opt_len (!decide (s = 0)) 5 (enc1 s)
    have hXl : X.length ≤ 50 := by
      rcases hx with ⟨_, rfl⟩ | ⟨_, rfl⟩ | ⟨_, rfl⟩ | ⟨_, rfl⟩ | ⟨_, rfl⟩ <;> simp only [List.length_append, List.length_singleton] <;> omega
    have r0 : rd (.int .u64) [e, a, n, s] 0 = e := rfl
    have r1 : rd (.int .u64) [e, a, n, s] 1 = a := rfl
    have r2 : rd (.int .u64) [e, a, n, s] 2 = n := rfl
    have r3 : rd (.int .u64) [e, a, n, s] 3 = s := rfl
    simp only [List.length_cons, List.length_nil]
    rcases hx with ⟨rfl, rfl⟩ | ⟨rfl, rfl⟩ | ⟨rfl, rfl⟩ | ⟨rfl, rfl⟩ | ⟨rfl, hX⟩
    · simp only [show decide ((0 : Int) < ((0 + 1 + 1 + 1 + 1 : Nat) : Int)) = true from rfl, show inb 0 (0 + 1 + 1 + 1 + 1) = true from rfl, cond_true, r0]
      rw [num_step rec ue (by omega) ⟨by omega, by omega⟩]
      exact hrec _ (.inr (.inl ⟨rfl, rfl⟩)) (by simp only; decide)
    · simp only [show decide ((1 : Int) < ((0 + 1 + 1 + 1 + 1 : Nat) : Int)) = true from rfl, show inb 1 (0 + 1 + 1 + 1 + 1) = true from rfl, cond_true, r1]
      rw [num_step rec ha (by omega) ⟨by omega, by omega⟩]
      exact hrec _ (.inr (.inr (.inl ⟨rfl, rfl⟩))) (by simp only; decide)
    · simp only [show decide ((2 : Int) < ((0 + 1 + 1 + 1 + 1 : Nat) : Int)) = true from rfl, show inb 2 (0 + 1 + 1 + 1 + 1) = true from rfl, cond_true, r2]
      rw [num_step rec hn (by omega) ⟨by omega, by omega⟩]
      exact hrec _ (.inr (.inr (.inr (.inl ⟨rfl, rfl⟩)))) (by simp only; decide)
    · simp only [show decide ((3 : Int) < ((0 + 1 + 1 + 1 + 1 : Nat) : Int)) = true from rfl, show inb 3 (0 + 1 + 1 + 1 + 1) = true from rfl, cond_true, r3]
      rw [num_step rec us (by omega) ⟨by omega, by omega⟩]
      exact hrec _ (.inr (.inr (.inr (.inr ⟨rfl, rfl⟩)))) (by simp only; decide)
    · clear hrec
      have d4 : decide ((4 : Int) < ((0 + 1 + 1 + 1 + 1 : Nat) : Int)) = false := rfl
      have hz : T.2.1.length ≤ 4611686018427387904 := by have := hkt.1; omega
      have hi5 : ids.length ≤ 100000 := by omega
      have hx1 : X.length ≤ 100 := by omega
      have hx2 : ∀ q : Rec, (X ++ [q]).length ≤ 100 := fun q => by rw [List.length_append, List.length_singleton]; omega
      have hx3 : ∀ q p : Rec, (X ++ [q] ++ [p]).length ≤ 100 := fun q p => by rw [List.length_append, List.length_append, List.length_singleton, List.length_singleton]; omega
      have k3 := lim100 hx1
      have k4 : ∀ q : Rec, ((X ++ [q]).length + 1) * 32 ≤ LIM := fun q => lim100 (hx2 q)
      simp only [d4, cond_false, F46_eq hids hi5, F61_eq (a := T) (b := (0, ([], 0))) hz, F62_eq htok hz, hkt, if_true, Option.bind_some, k3, k4, decide_true, cond_true]
      have hrec0 : recs (i, (e, (a, (n, (s, (ids, (L, T))))))) = X ++ opt (decide (0 < (ids.length : Int))) 6 (ids.flatMap enc1) ++ opt (!decide (T = (0, ([], 0)))) 7 (tokB T) ++ numd encE 0 L := by unfold recs; rw [hX]
      rw [hrec0] at fin
      by_cases ci : (0 : Int) < (ids.length : Int)
      · by_cases cT : T = (0, ([], 0))
        · simp only [ci, cT, decide_true, cond_true, Bool.not_true, cond_false, opt, List.append_nil] at fin ⊢
          exact ev_loop hev hLl (hx2 _) fin
        · simp only [ci, cT, decide_true, decide_false, cond_true, Bool.not_false, opt] at fin ⊢
          exact ev_loop hev hLl (hx3 _ _) fin
      · by_cases cT : T = (0, ([], 0))
        · simp only [ci, cT, decide_true, decide_false, cond_true, Bool.not_true, cond_false, opt, List.append_nil] at fin ⊢
          exact ev_loop hev hLl hx1 fin
        · simp only [ci, cT, decide_false, cond_true, cond_false, Bool.not_false, opt, List.append_nil] at fin ⊢
          exact ev_loop hev hLl (hx2 _) fin
  · simp [k]
end Go.Proofs.Ytacebemdonoliaa.R4
namespace Go.Proofs.Ytacebemdonoliaa.R4
open Go Go.Fw Go.Proofs RB
set_option maxRecDepth 20000
def c99 (n : Int) : Int := if n < 99 then n else 99
theorem c99_ok {n : Int} (h : U64 n) : 0 ≤ c99 n ∧ c99 n ≤ 99 := by
  unfold c99
  have := h.1
  split <;> omega
def evOf (q : Rec) : Ev := (rd (.int .u64) ((all1 q.2).1 ++ [0, 0, 0, 0]) 0, (c99 (rd (.int .u64) ((all1 q.2).1 ++ [0, 0, 0, 0]) 1), (rd (.int .u64) ((all1 q.2).1 ++ [0, 0, 0, 0]) 2, rd (.int .u64) ((all1 q.2).1 ++ [0, 0, 0, 0]) 3)))
noncomputable def rd65 (m : List Rec) : Rp :=
  ((numT m 1).1, (c99 (numT m 2).1, ((numT m 3).1, ((numT m 4).1, (c99 (numT m 5).1, ((all1 (findT m 6).1).1, ((late m).map evOf, (getK (findT m 7).1).1)))))))
theorem numT_u64 {m : List Rec} {t : Int} (h : ∀ r ∈ m, Bs r.2) (hl : okT m) : U64 (numT m t).1 := by
  by_cases h0 : (numT m t).2 = 0
  · obtain ⟨_, _, _, h4⟩ := numT_ok h hl h0; exact h4
  · unfold numT at h0 ⊢
    split
    · exact u64_0
    · rename_i c1
      rw [if_neg c1] at h0
      split
      · exact u64_0
      · rename_i c2
        rw [if_neg c2] at h0
        split
        · exact u64_0
        · rename_i c3
          rw [if_neg c3] at h0
          exact absurd rfl h0
theorem rd_u64 {l : List Int} (h : ∀ n ∈ l, U64 n) (i : Int) : U64 (rd (.int .u64) l i) := by
  unfold rd
  rw [List.getD_eq_getElem?_getD]
  cases hh : l[i.toNat]? with
  | none => exact u64_0
  | some x => exact h x (List.mem_of_getElem? hh)
theorem getK_zero {b : List Int} (h : (getK b).2 ≠ 0) : (getK b).1 = (0, ([], 0)) := by
  have hC : ∀ m a1 a2, (resC m a1 a2).2 ≠ 0 → (resC m a1 a2).1 = (0, ([], 0)) := by
    intro m a1 a2 h
    unfold resC capR at h ⊢
    split
    · rfl
    · rename_i c1
      rw [if_neg c1] at h
      split
      · rfl
      · rename_i c2
        rw [if_neg c2] at h
        exact absurd rfl h
  have hN : ∀ m, (resN m).2 ≠ 0 → (resN m).1 = (0, ([], 0)) := by
    intro m h
    unfold resN at h ⊢
    split
    · rfl
    · rename_i c1
      rw [if_neg c1] at h
      split
      · rfl
      · rename_i c2
        rw [if_neg c2] at h
        exact hC _ _ _ h
  have hF : ∀ m, (resF m).2 ≠ 0 → (resF m).1 = (0, ([], 0)) := by
    intro m h
    unfold resF at h ⊢
    split
    · rfl
    · rename_i c1
      rw [if_neg c1] at h
      split
      · rfl
      · rename_i c2
        rw [if_neg c2] at h
        exact hN _ h
  unfold getK at h ⊢
  split
  · rfl
  · rename_i c1
    rw [if_neg c1] at h
    exact hF _ h
theorem getK_any {b : List Int} (hb : Bs b) : TokOk (getK b).1 ∧ (getK b).1.2.1.length ≤ 16 := by
  by_cases h : (getK b).2 = 0
  · exact getK_tok hb h
  · rw [getK_zero h]
    exact ⟨⟨u64_0, by simp, by simp⟩, by simp⟩
theorem evOf_ok {q : Rec} (h : Bs q.2) : EvOk (evOf q) := by
  have hu : ∀ n ∈ (all1 q.2).1 ++ [0, 0, 0, 0], U64 n := by
    intro n hn
    rcases List.mem_append.1 hn with hn | hn
    · exact all1_u64 h n hn
    · simp at hn; subst hn; exact u64_0
  have h1 := c99_ok (rd_u64 hu 1)
  exact ⟨rd_u64 hu 0, ⟨by simp only [evOf]; omega, by simp only [evOf]; omega⟩, rd_u64 hu 2, rd_u64 hu 3⟩
theorem rd65_ok {m : List Rec} (h : ∀ r ∈ m, Bs r.2) (ho : okT m) : RpOk (rd65 m) ∧ (rd65 m).2.2.2.2.2.2.2.2.1.length ≤ 4611686018427387904 := by
  obtain ⟨b6, l6⟩ := findT_bs (t := 6) h ho
  obtain ⟨b7, l7⟩ := findT_bs (t := 7) h ho
  obtain ⟨k1, k2⟩ := getK_any b7
  have e2 := c99_ok (numT_u64 (t := 2) h ho)
  have e5 := c99_ok (numT_u64 (t := 5) h ho)
  have hal := all1_len (l := (findT m 6).1)
  have hlm : (late m).length ≤ 64 := Nat.le_trans (List.length_filter_le _ _) ho.1
  refine ⟨⟨numT_u64 h ho, ⟨by simp only [rd65]; omega, by simp only [rd65]; omega⟩, numT_u64 h ho, numT_u64 h ho, ⟨by simp only [rd65]; omega, by simp only [rd65]; omega⟩, all1_u64 b6, ?_, k1, ?_, ?_, ?_⟩, ?_⟩
  · intro x hx
    simp only [rd65, List.mem_map] at hx
    obtain ⟨q, hq, rfl⟩ := hx
    exact evOf_ok (h q (List.mem_filter.1 hq).1)
  · simp only [rd65]; omega
  · simp only [rd65, List.length_map]; omega
  · simp only [rd65]; omega
  · simp only [rd65]; omega
theorem late_take {m : List Rec} {i : Nat} (h : i < m.length) : late (m.take (i + 1)) = late (m.take i) ++ (if 16 ≤ m[i].1 then [m[i]] else []) := by
  unfold late
  rw [List.take_succ_eq_append_getElem h, List.filter_append]
  congr 1
  by_cases c : 16 ≤ m[i].1 <;> simp [c]
theorem F65_eq {m : List Rec} (h : ∀ r ∈ m, Bs r.2) (ho : okT m) : F65 m = some (rd65 m) := by
  obtain ⟨b6, l6⟩ := findT_bs (t := 6) h ho
  obtain ⟨b7, l7⟩ := findT_bs (t := 7) h ho
  have hlen := ho.1
  unfold F65
  simp only [F29_eq h ho, F27_eq, F82_eq (numT_u64 (t := 2) h ho), F82_eq (numT_u64 (t := 5) h ho), F83_eq b6, F84_eq b7, Option.bind_some]
  refine lfp_rule (fun x => ∃ i : Nat, x.1 = (i : Int) ∧ i ≤ m.length ∧ x.2.1 = (late (m.take i)).map evOf ∧
    x.2.2 = (((numT m 1).1, (c99 (numT m 2).1, ((numT m 3).1, ((numT m 4).1, (c99 (numT m 5).1, (all1 (findT m 6).1).1))))), ((getK (findT m 7).1).1.1, ((getK (findT m 7).1).1.2.1, (getK (findT m 7).1).1.2.2))))
    (fun x => m.length - x.1.toNat) (fun _ => rd65 m) ?_ _ ⟨0, rfl, by omega, by simp [late], rfl⟩
  rintro ⟨i', evs, c⟩ ⟨i, hi', hi, he, hc⟩ rec hrec
  simp only at hi' he hc
  subst hi'
  subst he
  subst hc
  simp only
  by_cases hlt : i < m.length
  · have k1 : ((i : Int) < (m.length : Int)) := by omega
    have hm := h _ (List.getElem_mem hlt)
    have hml := ho.2.1 _ (List.getElem_mem hlt)
    have hal := all1_len (l := m[i].2)
    have hev : ((late (m.take i)).map evOf).length ≤ 64 := by
      rw [List.length_map]
      exact Nat.le_trans (List.length_filter_le _ _) (by rw [List.length_take]; omega)
    have hw : IntKind.wrap .i64 ((i : Int) + 1) = (i : Int) + 1 := RB.wrap_i64 (by omega) (by omega)
    simp only [k1, decide_true, cond_true, inb_true (Int.natCast_nonneg i) k1, rd_nat (t := .pair (.int .u64) (.slice 5 (.int .u8))) hlt, hw]
    have hev' := hev
    generalize hE : (late (m.take i)).map evOf = E at hev ⊢
    by_cases c16 : 16 ≤ m[i].1
    · have hu : ∀ n ∈ (all1 m[i].2).1 ++ [0, 0, 0, 0], U64 n := by
        intro n hn
        rcases List.mem_append.1 hn with hn | hn
        · exact all1_u64 hm n hn
        · simp at hn; subst hn; exact u64_0
      have hl4 : ((all1 m[i].2).1 ++ [0, 0, 0, 0]).length = (all1 m[i].2).1.length + 4 := by simp
      have i0 : inb 0 ((all1 m[i].2).1 ++ [0, 0, 0, 0]).length = true := inb_true (by omega) (by omega)
      have i1 : inb 1 ((all1 m[i].2).1 ++ [0, 0, 0, 0]).length = true := inb_true (by omega) (by omega)
      have i2 : inb 2 ((all1 m[i].2).1 ++ [0, 0, 0, 0]).length = true := inb_true (by omega) (by omega)
      have i3 : inb 3 ((all1 m[i].2).1 ++ [0, 0, 0, 0]).length = true := inb_true (by omega) (by omega)
      have q1 : ((all1 m[i].2).1.length + 4) * 8 ≤ LIM := by unfold LIM; omega
      have q2 : (E.length + 1) * 32 ≤ LIM := by unfold LIM; omega
      simp only [c16, decide_true, cond_true, F83_eq hm, Option.bind_some, q1, i0, i1, i2, i3, F82_eq (rd_u64 hu 1), q2, both_self]
      refine hrec (_, _, _) ⟨i + 1, by simp, by omega, ?_, rfl⟩ (by simp only; omega)
      rw [late_take hlt, if_pos c16, List.map_append, hE]
      rfl
    · simp only [c16, decide_false, cond_false]
      refine hrec (_, _, _) ⟨i + 1, by simp, by omega, ?_, rfl⟩ (by simp only; omega)
      rw [late_take hlt, if_neg c16, List.append_nil, hE]
  · have k1 : ¬ ((i : Int) < (m.length : Int)) := by omega
    have hie : i = m.length := by omega
    simp only [k1, decide_false, cond_false]
    rw [hie, List.take_length]
    rfl
/-! ### what was put is read -/
theorem look_in : ∀ {l : List Rec} {t : Int} {v : List Int}, Sorted l → (t, v) ∈ l → look l t = some v
  | [], _, _, _, h => by simp at h
  | a :: r, t, v, hs, h => by
    obtain ⟨s1, s2⟩ := List.pairwise_cons.1 hs
    rcases List.mem_cons.1 h with h | h
    · subst h
      simp [look]
    · have := s1 _ h
      unfold look
      rw [if_pos this]
      exact look_in s2 h
theorem look_no : ∀ {l : List Rec} {t : Int}, (∀ q ∈ l, q.1 ≠ t) → look l t = none
  | [], _, _ => rfl
  | a :: r, t, h => by
    unfold look
    have h1 := h a (by simp)
    rw [if_neg h1]
    split
    · exact look_no (fun q hq => h q (List.mem_cons_of_mem _ hq))
    · rfl
theorem mem_opt_true {t : Int} {v : List Int} : ((t, v) : Rec) ∈ opt true t v := by simp [opt]
theorem numd_16 {L : List Ev} {q : Rec} (h : q ∈ numd encE 0 L) : 16 ≤ q.1 := by
  have := late_numd (f := encE) L
  rw [← this] at h
  have := (List.mem_filter.1 h).2
  simpa using this
theorem mem_recs {r : Rp} {q : Rec} : q ∈ recs r ↔ q = (1, enc1 r.1) ∨ q ∈ opt (!decide (r.2.1 = 0)) 2 (enc1 r.2.1) ∨ q ∈ opt (!decide (r.2.2.1 = 0)) 3 (enc1 r.2.2.1) ∨ q ∈ opt (!decide (r.2.2.2.1 = 0)) 4 (enc1 r.2.2.2.1) ∨
    q ∈ opt (!decide (r.2.2.2.2.1 = 0)) 5 (enc1 r.2.2.2.2.1) ∨ q ∈ opt (decide (0 < (r.2.2.2.2.2.1.length : Int))) 6 (r.2.2.2.2.2.1.flatMap enc1) ∨ q ∈ opt (!decide (r.2.2.2.2.2.2.2 = (0, ([], 0)))) 7 (tokB r.2.2.2.2.2.2.2) ∨ q ∈ numd encE 0 r.2.2.2.2.2.2.1 := by
  unfold recs
  simp only [List.mem_append, List.mem_singleton, or_assoc]
theorem recs_no {r : Rp} {t : Int} (h : ∀ c v, (c, v) ∈ ([(!decide (r.2.1 = 0), 2), (!decide (r.2.2.1 = 0), 3), (!decide (r.2.2.2.1 = 0), 4), (!decide (r.2.2.2.2.1 = 0), 5), (decide (0 < (r.2.2.2.2.2.1.length : Int)), 6), (!decide (r.2.2.2.2.2.2.2 = (0, ([], 0))), 7)] : List (Bool × Int)) → c = true → v ≠ t) (h1 : t ≠ 1) (h16 : t < 16) : look (recs r) t = none := by
  refine look_no fun q hq => ?_
  have o : ∀ (c : Bool) (v : Int) (w : List Int), (c, v) ∈ ([(!decide (r.2.1 = 0), 2), (!decide (r.2.2.1 = 0), 3), (!decide (r.2.2.2.1 = 0), 4), (!decide (r.2.2.2.2.1 = 0), 5), (decide (0 < (r.2.2.2.2.2.1.length : Int)), 6), (!decide (r.2.2.2.2.2.2.2 = (0, ([], 0))), 7)] : List (Bool × Int)) → q ∈ opt c v w → q.1 ≠ t := by
    intro c v w hm hq
    cases c with
    | true => rw [mem_opt hq]; exact h true v hm rfl
    | false => simp [opt] at hq
  rcases mem_recs.1 hq with rfl | hq | hq | hq | hq | hq | hq | hq
  · exact fun e => h1 e.symm
  · exact o _ _ _ (by simp) hq
  · exact o _ _ _ (by simp) hq
  · exact o _ _ _ (by simp) hq
  · exact o _ _ _ (by simp) hq
  · exact o _ _ _ (by simp) hq
  · exact o _ _ _ (by simp) hq
  · have := numd_16 hq; omega
theorem numT_none {m : List Rec} {t : Int} (ho : okT m) (h : look m t = none) : (numT m t).1 = 0 := by
  unfold numT
  have : findT m t = ([], 5) := by unfold findT; rw [if_pos ho, h]
  rw [this]
  simp
theorem evOf_enc {x : Ev} {t : Int} (h : EvOk x) (h0 : 0 ≤ x.2.1 ∧ x.2.1 < 16) : evOf (t, encE x) = x := by
  have ha : all1 (encE x) = ([x.1, x.2.1, x.2.2.1, x.2.2.2], 0) := by
    unfold encE
    refine all1_enc ?_ (by simp)
    intro n hn
    simp only [List.mem_cons, List.not_mem_nil, or_false] at hn
    rcases hn with rfl | rfl | rfl | rfl
    · exact h.1
    · exact ⟨h0.1, by omega⟩
    · exact h.2.2.1
    · exact h.2.2.2
  unfold evOf
  simp only [ha]
  have : c99 x.2.1 = x.2.1 := by unfold c99; rw [if_pos (by omega)]
  show (x.1, (c99 x.2.1, (x.2.2.1, x.2.2.2))) = x
  rw [this]
theorem map_numd : ∀ {L : List Ev} (i : Nat), (∀ x ∈ L, EvOk x ∧ 0 ≤ x.2.1 ∧ x.2.1 < 16) → (numd encE i L).map evOf = L
  | [], _, _ => rfl
  | x :: L, i, h => by
    rw [numd, List.map_cons, evOf_enc (h x (by simp)).1 (h x (by simp)).2, map_numd (i + 1) (fun y hy => h y (List.mem_cons_of_mem _ hy))]
theorem getK_nil : (getK []).1 = (0, ([], 0)) := by
  by_cases h : (getK []).2 = 0
  · exfalso
    have hg : getT [] = ([], 0) := getT_enc (l := []) (by simp) ⟨by simp, by simp, List.Pairwise.nil⟩ (by simp)
    unfold getK at h
    rw [hg] at h
    simp only [ne_eq, not_true_eq_false, if_false] at h
    unfold resF at h
    have : (findT [] 1).2 = 5 := by unfold findT; split <;> first | rfl | (rename_i c; exact absurd ⟨by simp, by simp, List.Pairwise.nil⟩ c)
    rw [if_pos (by rw [this]; decide)] at h
    simp at h
  · exact getK_zero h
theorem late_recs (r : Rp) : late (recs r) = numd encE 0 r.2.2.2.2.2.2.1 := by
  have ap : ∀ l m, late (l ++ m) = late l ++ late m := fun l m => by simp [late]
  unfold recs
  simp only [ap, late_opt _ _ (show (2 : Int) < 16 by decide), late_opt _ _ (show (3 : Int) < 16 by decide), late_opt _ _ (show (4 : Int) < 16 by decide), late_opt _ _ (show (5 : Int) < 16 by decide), late_opt _ _ (show (6 : Int) < 16 by decide), late_opt _ _ (show (7 : Int) < 16 by decide), late_numd]
  simp [late]
theorem rd65_recs {r : Rp} (h : RpOk r) (k : okP r) : rd65 (recs r) = r := by
  have ho := recs_okT k
  have hs := ho.2.2
  have hin : ∀ {t : Int} {v : List Int}, (t, v) ∈ recs r → look (recs r) t = some v := fun hm => look_in hs hm
  have hfin : ∀ {t : Int} {v : List Int}, (t, v) ∈ recs r → findT (recs r) t = (v, 0) := fun hm => by unfold findT; rw [if_pos ho, hin hm]
  have hfno : ∀ {t : Int}, look (recs r) t = none → findT (recs r) t = ([], 5) := fun hm => by unfold findT; rw [if_pos ho, hm]
  have ue : U64 r.2.1 := ⟨k.e.1, by have := k.e.2; omega⟩
  have us : U64 r.2.2.2.2.1 := ⟨k.st.1, by have := k.st.2; omega⟩
  have n1 : (numT (recs r) 1).1 = r.1 := by rw [numT_enc ho h.id (hin (mem_recs.2 (.inl rfl)))]
  have n2 : (numT (recs r) 2).1 = r.2.1 := by
    by_cases c : r.2.1 = 0
    · rw [numT_none ho (recs_no (by intro c' v hm hc; simp only [List.mem_cons, Prod.mk.injEq, List.not_mem_nil, or_false] at hm; rcases hm with ⟨rfl, rfl⟩ | ⟨rfl, rfl⟩ | ⟨rfl, rfl⟩ | ⟨rfl, rfl⟩ | ⟨rfl, rfl⟩ | ⟨rfl, rfl⟩ <;> first | decide | simp [c] at hc) (by decide) (by decide)), c]
    · rw [numT_enc ho ue (hin (mem_recs.2 (.inr (.inl (by simp [c, opt])))))]
  have n3 : (numT (recs r) 3).1 = r.2.2.1 := by
    by_cases c : r.2.2.1 = 0
    · rw [numT_none ho (recs_no (by intro c' v hm hc; simp only [List.mem_cons, Prod.mk.injEq, List.not_mem_nil, or_false] at hm; rcases hm with ⟨rfl, rfl⟩ | ⟨rfl, rfl⟩ | ⟨rfl, rfl⟩ | ⟨rfl, rfl⟩ | ⟨rfl, rfl⟩ | ⟨rfl, rfl⟩ <;> first | decide | simp [c] at hc) (by decide) (by decide)), c]
    · rw [numT_enc ho h.a (hin (mem_recs.2 (.inr (.inr (.inl (by simp [c, opt]))))))]
  have n4 : (numT (recs r) 4).1 = r.2.2.2.1 := by
    by_cases c : r.2.2.2.1 = 0
    · rw [numT_none ho (recs_no (by intro c' v hm hc; simp only [List.mem_cons, Prod.mk.injEq, List.not_mem_nil, or_false] at hm; rcases hm with ⟨rfl, rfl⟩ | ⟨rfl, rfl⟩ | ⟨rfl, rfl⟩ | ⟨rfl, rfl⟩ | ⟨rfl, rfl⟩ | ⟨rfl, rfl⟩ <;> first | decide | simp [c] at hc) (by decide) (by decide)), c]
    · rw [numT_enc ho h.n (hin (mem_recs.2 (.inr (.inr (.inr (.inl (by simp [c, opt])))))))]
  have n5 : (numT (recs r) 5).1 = r.2.2.2.2.1 := by
    by_cases c : r.2.2.2.2.1 = 0
    · rw [numT_none ho (recs_no (by intro c' v hm hc; simp only [List.mem_cons, Prod.mk.injEq, List.not_mem_nil, or_false] at hm; rcases hm with ⟨rfl, rfl⟩ | ⟨rfl, rfl⟩ | ⟨rfl, rfl⟩ | ⟨rfl, rfl⟩ | ⟨rfl, rfl⟩ | ⟨rfl, rfl⟩ <;> first | decide | simp [c] at hc) (by decide) (by decide)), c]
    · rw [numT_enc ho us (hin (mem_recs.2 (.inr (.inr (.inr (.inr (.inl (by simp [c, opt]))))))))]
  have n6 : (all1 (findT (recs r) 6).1).1 = r.2.2.2.2.2.1 := by
    by_cases c : (0 : Int) < (r.2.2.2.2.2.1.length : Int)
    · rw [hfin (mem_recs.2 (.inr (.inr (.inr (.inr (.inr (.inl (by simp only [c, decide_true]; exact mem_opt_true)))))))), all1_enc h.ids (by have := k.ids; omega)]
    · have he : r.2.2.2.2.2.1 = [] := List.length_eq_zero_iff.1 (by omega)
      rw [hfno (recs_no (by intro c' v hm hc; simp only [List.mem_cons, Prod.mk.injEq, List.not_mem_nil, or_false] at hm; rcases hm with ⟨rfl, rfl⟩ | ⟨rfl, rfl⟩ | ⟨rfl, rfl⟩ | ⟨rfl, rfl⟩ | ⟨rfl, rfl⟩ | ⟨rfl, rfl⟩ <;> first | decide | (exact absurd (of_decide_eq_true hc) c)) (by decide) (by decide)), he]
      have := all1_enc (l := []) (by simp) (by simp)
      simp only [List.flatMap_nil] at this
      rw [this]
  have n7 : (getK (findT (recs r) 7).1).1 = r.2.2.2.2.2.2.2 := by
    by_cases c : r.2.2.2.2.2.2.2 = (0, ([], 0))
    · rw [hfno (recs_no (by intro c' v hm hc; simp only [List.mem_cons, Prod.mk.injEq, List.not_mem_nil, or_false] at hm; rcases hm with ⟨rfl, rfl⟩ | ⟨rfl, rfl⟩ | ⟨rfl, rfl⟩ | ⟨rfl, rfl⟩ | ⟨rfl, rfl⟩ | ⟨rfl, rfl⟩ <;> first | decide | (simp only [c, decide_true, Bool.not_true] at hc; simp at hc)) (by decide) (by decide)), c]
      exact getK_nil
    · rw [hfin (mem_recs.2 (.inr (.inr (.inr (.inr (.inr (.inr (.inl (by simp only [c, decide_false, Bool.not_false]; exact mem_opt_true))))))))), getK_enc h.tok k.tok]
  have nl : (late (recs r)).map evOf = r.2.2.2.2.2.2.1 := by
    rw [late_recs, map_numd 0 (fun x hx => ⟨h.evs x hx, k.evs x hx⟩)]
  have ce : c99 r.2.1 = r.2.1 := by unfold c99; rw [if_pos (by have := k.e.2; omega)]
  have cs : c99 r.2.2.2.2.1 = r.2.2.2.2.1 := by unfold c99; rw [if_pos (by have := k.st.2; omega)]
  unfold rd65
  rw [n1, n2, n3, n4, n5, n6, n7, nl, ce, cs]
end Go.Proofs.Ytacebemdonoliaa.R4
namespace Go.Proofs.Ytacebemdonoliaa.R4
open Go Go.Fw Go.Proofs RB
set_option maxRecDepth 20000
open Classical in
theorem F38_eq {b : List Int} (hb : Bs b) : F38 b = some (getP b) := by
  unfold F38
  by_cases hl : 4096 < b.length
  · have : (4096 : Int) < (b.length : Int) := by omega
    simp only [this, decide_true, cond_true]
    unfold getP
    rw [if_pos hl]
    rfl
  · have hl' : ¬ (4096 : Int) < (b.length : Int) := by omega
    simp only [hl', decide_false, cond_false, F23_eq hb, Option.bind_some]
    by_cases h0 : (getT b).2 = 0
    · have hok := getT_ok (m := (getT b).1) hb (by rw [← h0])
      obtain ⟨hv, ho, hp⟩ := hok
      have hbs : ∀ r ∈ (getT b).1, Bs r.2 := fun r hr => (hv r hr).2
      obtain ⟨k1, k2⟩ := rd65_ok hbs ho
      simp only [h0, decide_true, Bool.not_true, cond_false, F65_eq hbs ho, Option.bind_some, Prod.eta, F36_eq k1 k2]
      have key : ∀ (x : Rp) (g : Rp × Int), (okP x ∧ rpB x = b → g = (x, 0)) → (¬ (okP x ∧ rpB x = b) → g = (zP, 2)) →
          (bif (!decide ((if okP x then (rpB x, (0 : Int)) else ([], 1)).2 = 0)) == false then
            (bif (!decide ((if okP x then (rpB x, (0 : Int)) else ([], 1)).1 = b)) then some ((0, 0, 0, 0, 0, ([] : List Int), ([] : List (Int × (Int × (Int × Int)))), 0, ([] : List (Int × (Int × Int))), 0), (2 : Int)) else some (x, 0))
            else some ((0, 0, 0, 0, 0, ([] : List Int), ([] : List (Int × (Int × (Int × Int)))), 0, ([] : List (Int × (Int × Int))), 0), 2)) = some g := by
        intro x g g1 g2
        by_cases k : okP x
        · by_cases e : rpB x = b
          · rw [g1 ⟨k, e⟩]
            simp only [k, if_true, e, decide_true, Bool.not_true, beq_self_eq_true, cond_true, cond_false]
          · rw [g2 (fun q => e q.2)]
            simp only [k, if_true, e, decide_true, decide_false, Bool.not_true, Bool.not_false, beq_self_eq_true, cond_true]
            rfl
        · rw [g2 (fun q => k q.1)]
          simp only [k, if_false, show decide ((1 : Int) = 0) = false from rfl, Bool.not_false, show (true == false) = false from rfl, cond_false]
          rfl
      refine key _ _ (fun ⟨q1, q2⟩ => ?_) (fun hn => ?_)
      · have := getP_enc k1 q1
        rw [q2] at this
        exact this
      · refine getP_bad (b := b) (by omega) fun hg => hn ?_
        obtain ⟨o1, o2, o3⟩ := getP_ok hb hg
        have hT : getT b = (recs (getP b).1, 0) := by
          have := getT_enc (recs_okV o1 o2) (recs_okT o2) (by have := recs_len o2; omega)
          rw [show (recs (getP b).1).flatMap encR = b from o3] at this
          exact this
        have hr : rd65 (getT b).1 = (getP b).1 := by
          rw [hT]; exact rd65_recs o1 o2
        rw [hr]
        exact ⟨o2, o3⟩
    · have hg : (getP b).2 ≠ 0 := by
        unfold getP
        rw [if_neg hl]
        unfold finP
        split
        · simp
        · rw [if_neg (fun q => h0 q.1)]; simp
      rw [getP_bad (b := b) (by omega) hg]
      simp only [h0, decide_false, Bool.not_false, cond_true]
      rfl
theorem F39_eq {r o : Rp} (h1 : r.2.2.2.2.2.1.length ≤ 4611686018427387904) (h2 : r.2.2.2.2.2.2.1.length ≤ 4611686018427387904) (h3 : r.2.2.2.2.2.2.2.2.1.length ≤ 4611686018427387904) : ∃ q, F39 (r, o) = some q ∧ (q = true ↔ r = o) := by
  obtain ⟨i, e, a, n, st, ids, evs, tok⟩ := r
  obtain ⟨i', e', a', n', st', ids', evs', tok'⟩ := o
  simp only at h1 h2 h3
  unfold F39
  simp only [Prod.eta, F66_eq (a := ids) (b := ids') h1, F67_eq (a := evs) (b := evs') h2, F61_eq (a := tok) (b := tok') h3, Option.bind_some]
  by_cases c1 : i = i'
  · by_cases c2 : e = e'
    · by_cases c3 : a = a'
      · by_cases c4 : n = n'
        · by_cases c5 : st = st'
          · by_cases c6 : ids = ids'
            · by_cases c7 : evs = evs'
              · exact ⟨decide (tok = tok'), by simp [c1, c2, c3, c4, c5, c6, c7], by simp [c1, c2, c3, c4, c5, c6, c7]⟩
              · exact ⟨false, by simp [c1, c2, c3, c4, c5, c6, c7], by simp [c7]⟩
            · exact ⟨false, by simp [c1, c2, c3, c4, c5, c6], by simp [c6]⟩
          · exact ⟨false, by simp [c1, c2, c3, c4, c5], by simp [c5]⟩
        · exact ⟨false, by simp [c1, c2, c3, c4], by simp [c4]⟩
      · exact ⟨false, by simp [c1, c2, c3], by simp [c3]⟩
    · exact ⟨false, by simp [c1, c2], by simp [c2]⟩
  · exact ⟨false, by simp [c1], by simp [c1]⟩
theorem F35_few {r o : Rp} (h1 : r.2.2.2.2.2.1.length ≤ 4611686018427387904) (h2 : r.2.2.2.2.2.2.1.length ≤ 4611686018427387904) (h3 : r.2.2.2.2.2.2.2.2.1.length ≤ 4611686018427387904) : ∃ q, F35 (r, o) = some q ∧ (q = true ↔ r = o) := by
  obtain ⟨i, e, a, n, st, ids, evs, tok⟩ := r
  obtain ⟨i', e', a', n', st', ids', evs', tok'⟩ := o
  simp only at h1 h2 h3
  unfold F35
  simp only [Prod.eta, F59_eq (a := ids) (b := ids') h1, F60_eq (a := evs) (b := evs') h2, F54_eq (a := tok) (b := tok') h3, Option.bind_some]
  by_cases c1 : i = i'
  · by_cases c2 : e = e'
    · by_cases c3 : a = a'
      · by_cases c4 : n = n'
        · by_cases c5 : st = st'
          · by_cases c6 : ids = ids'
            · by_cases c7 : evs = evs'
              · exact ⟨decide (tok = tok'), by simp [c1, c2, c3, c4, c5, c6, c7], by simp [c1, c2, c3, c4, c5, c6, c7]⟩
              · exact ⟨false, by simp [c1, c2, c3, c4, c5, c6, c7], by simp [c7]⟩
            · exact ⟨false, by simp [c1, c2, c3, c4, c5, c6], by simp [c6]⟩
          · exact ⟨false, by simp [c1, c2, c3, c4, c5], by simp [c5]⟩
        · exact ⟨false, by simp [c1, c2, c3, c4], by simp [c4]⟩
      · exact ⟨false, by simp [c1, c2, c3], by simp [c3]⟩
    · exact ⟨false, by simp [c1, c2], by simp [c2]⟩
  · exact ⟨false, by simp [c1], by simp [c1]⟩
theorem getP_lens {b : List Int} (hb : Bs b) : (getP b).1.2.2.2.2.2.1.length ≤ 16 ∧ (getP b).1.2.2.2.2.2.2.1.length ≤ 16 ∧ (getP b).1.2.2.2.2.2.2.2.2.1.length ≤ 16 := by
  by_cases h : (getP b).2 = 0
  · obtain ⟨o1, o2, o3⟩ := getP_ok hb h
    exact ⟨o2.ids, o2.evl, o2.tok.1⟩
  · have : (getP b).1 = zP := by
      by_cases hl : 4096 < b.length
      · unfold getP; rw [if_pos hl]
      · rw [getP_bad (by omega) h]
    rw [this]
    simp [zP]
theorem F11_true {r o : Rp} {b : List Int} (h : RpOk r) (ho : RpOk o) (hb : Bs b) : F11 (r, o, b) = some true := by
  unfold F11
  simp only [Prod.eta, both_self, F31_eq', Option.bind_some, Bool.not_true, cond_false]
  have e32 : ∀ r : Rp, F32 r = some (decide (r.2.2.2.2.2.1.length ≤ 20) && (decide (r.2.2.2.2.2.2.1.length ≤ 20) && decide (r.2.2.2.2.2.2.2.2.1.length ≤ 20))) := by
    intro r
    have q1 : ∀ n : Nat, decide ((n : Int) ≤ 20) = decide (n ≤ 20) := fun n => by rw [decide_eq_decide]; omega
    unfold F32
    simp only [q1]
    cases decide (r.2.2.2.2.2.1.length ≤ 20) <;> cases decide (r.2.2.2.2.2.2.1.length ≤ 20) <;> rfl
  simp only [e32, Option.bind_some]
  by_cases c1 : r.2.2.2.2.2.1.length ≤ 20 ∧ r.2.2.2.2.2.2.1.length ≤ 20 ∧ r.2.2.2.2.2.2.2.2.1.length ≤ 20
  · obtain ⟨l1, l2, l3⟩ := c1
    obtain ⟨p1, p2, p3⟩ := getP_lens hb
    simp only [l1, l2, l3, decide_true, Bool.and_true, Bool.not_true, beq_self_eq_true, cond_true]
    cases (decide (o.2.2.2.2.2.1.length ≤ 20) && (decide (o.2.2.2.2.2.2.1.length ≤ 20) && decide (o.2.2.2.2.2.2.2.2.1.length ≤ 20))) with
    | false => rfl
    | true =>
      simp only [Bool.not_true, beq_self_eq_true, cond_true]
      cases (bif (bif decide ((1500 : Int) < (b.length : Int)) then decide ((b.length : Int) ≤ 4096) else false) then true else decide ((4100 : Int) < (b.length : Int))) with
      | true => rfl
      | false =>
        obtain ⟨q1, e1, i1⟩ := F39_eq (r := (getP b).1) (o := (getP b).1) (by omega) (by omega) (by omega)
        obtain ⟨q2, e2, i2⟩ := F35_few (r := r) (o := o) (by omega) (by omega) (by omega)
        obtain ⟨q3, e3, i3⟩ := F39_eq (r := r) (o := o) (by omega) (by omega) (by omega)
        have z1 : q1 = true := i1.2 rfl
        have z2 : q2 = q3 := by rw [Bool.eq_iff_iff, i2, i3]
        subst z1
        subst z2
        have e40 := F40_eq h (by omega)
        have e36 := F36_eq h (by omega)
        simp only [cond_false, F33_eq h, e36, F37_eq hb, F38_eq hb, F18_eq, e1, e2, e3, F34_eq h, e40, Option.bind_some, decide_true, cond_true, beq_self_eq_true, both_self]
  · have : (decide (r.2.2.2.2.2.1.length ≤ 20) && (decide (r.2.2.2.2.2.2.1.length ≤ 20) && decide (r.2.2.2.2.2.2.2.2.1.length ≤ 20))) = false := by
      rw [Bool.eq_false_iff]
      intro hh
      simp only [Bool.and_eq_true, decide_eq_true_eq] at hh
      exact c1 hh
    simp only [this, Bool.not_false, show (true == false) = false from rfl, cond_false]
theorem pure11 (b : dens [.agg (.pair (.int .u64) (.pair (.int .i64) (.pair (.int .u64) (.pair (.int .u64) (.pair (.int .i64) (.pair (.slice 23 (.int .u64)) (.pair (.slice 81 (.pair (.int .u64) (.pair (.int .i64) (.pair (.int .u64) (.int .u64))))) (.pair (.int .u64) (.pair (.slice 95 (.pair (.int .i64) (.pair (.int .u64) (.int .u64)))) (.int .i64)))))))))), .agg (.pair (.int .u64) (.pair (.int .i64) (.pair (.int .u64) (.pair (.int .u64) (.pair (.int .i64) (.pair (.slice 23 (.int .u64)) (.pair (.slice 81 (.pair (.int .u64) (.pair (.int .i64) (.pair (.int .u64) (.int .u64))))) (.pair (.int .u64) (.pair (.slice 95 (.pair (.int .i64) (.pair (.int .u64) (.int .u64)))) (.int .i64)))))))))), .one (.slice 5 (.int .u8))]) (h : Goods [.agg (.pair (.int .u64) (.pair (.int .i64) (.pair (.int .u64) (.pair (.int .u64) (.pair (.int .i64) (.pair (.slice 23 (.int .u64)) (.pair (.slice 81 (.pair (.int .u64) (.pair (.int .i64) (.pair (.int .u64) (.int .u64))))) (.pair (.int .u64) (.pair (.slice 95 (.pair (.int .i64) (.pair (.int .u64) (.int .u64)))) (.int .i64)))))))))), .agg (.pair (.int .u64) (.pair (.int .i64) (.pair (.int .u64) (.pair (.int .u64) (.pair (.int .i64) (.pair (.slice 23 (.int .u64)) (.pair (.slice 81 (.pair (.int .u64) (.pair (.int .i64) (.pair (.int .u64) (.int .u64))))) (.pair (.int .u64) (.pair (.slice 95 (.pair (.int .i64) (.pair (.int .u64) (.int .u64)))) (.int .i64)))))))))), .one (.slice 5 (.int .u8))] b) : F11 b = some true := F11_true (rp_of h.1) (rp_of h.2.1) (fun n hn => byte_of (h.2.2.2 n hn))
end Go.Proofs.Ytacebemdonoliaa.R4
