/- Part of a proof: what the program's functions come to. -/
import Derived.Test.YtpgfkfmmnciblaaGQ3
set_option linter.unusedVariables false
set_option linter.unusedSimpArgs false
namespace Go.Proofs.Ytpgfkfmmnciblaa.R1
open Go Go.Fw Go.Proofs
def fin (c : Cv) (rest : List Int) : Cv × Int := if rest ≠ [] ∨ chk c ≠ 0 then ((0, (0, 0)), 2) else (c, 0)
def getC2 (n a : Int) (b : List Int) : Cv × Int := if (get1 b).2.2 ≠ 0 then ((0, (0, 0)), (get1 b).2.2) else fin (n, (a, (get1 b).1)) (b.drop (get1 b).2.1.toNat)
def getC1 (n : Int) (b : List Int) : Cv × Int := if (get1 b).2.2 ≠ 0 then ((0, (0, 0)), (get1 b).2.2) else
  if n = 4 then getC2 n (get1 b).1 (b.drop (get1 b).2.1.toNat) else fin (n, ((get1 b).1, 0)) (b.drop (get1 b).2.1.toNat)
def getC (b : List Int) : Cv × Int := if (get1 b).2.2 ≠ 0 then ((0, (0, 0)), (get1 b).2.2) else
  if (get1 b).1 < 1 ∨ 5 < (get1 b).1 then ((0, (0, 0)), 2) else getC1 (get1 b).1 (b.drop (get1 b).2.1.toNat)
theorem pos_len (r : List Int) : decide ((0 : Int) < (r.length : Int)) = decide (r ≠ []) := by
  cases r with
  | nil => rfl
  | cons a r => rw [decide_eq_true (by simp only [List.length_cons]; omega), decide_eq_true (by simp)]
theorem fin_form (c : Cv) (rest : List Int) : (bif (decide (rest ≠ []) == false) then (bif (!decide (chk c = 0)) then some (((0, (0, 0)), 2) : Cv × Int) else some (c, 0)) else some ((0, (0, 0)), 2)) = some (fin c rest) := by
  unfold fin
  by_cases r0 : rest = []
  · by_cases ck : chk c = 0 <;> simp [r0, ck]
  · simp [r0]
theorem small_i64 {n : Int} (h0 : 1 ≤ n) (h1 : n ≤ 5) : IntKind.wrap .i64 n = n := wrap_i64 (by omega) (by omega)
theorem small_u64 {n : Int} (h0 : 1 ≤ n) (h1 : n ≤ 5) : IntKind.wrap .u64 n = n := wrap_u64 (by omega) (by omega)
/-- What reading one comes to. -/
theorem get1_cases {b : List Int} (h : ∀ n ∈ b, Byte n) : ((get1 b).2.2 = 0 ∧ U64 (get1 b).1 ∧ inb (get1 b).2.1 (b.length + 1) = true ∧ enc1 (get1 b).1 ++ b.drop (get1 b).2.1.toNat = b ∧ (b.drop (get1 b).2.1.toNat).length < b.length) ∨ ((get1 b).2.2 ≠ 0 ∧ decide ((get1 b).2.2 = 0) = false) := by
  rcases get1_ok h (y := (get1 b).1) (m := (get1 b).2.1) (e := (get1 b).2.2) rfl with ⟨h1, h2, h3, h4, h5, h6⟩ | ⟨h1, _⟩
  · left
    refine ⟨h1, ⟨h2, h3⟩, inb_true (by omega) (by omega), by rw [h6]; exact List.take_append_drop _ _, ?_⟩
    rw [List.length_drop]; omega
  · right; exact ⟨h1, decide_eq_false h1⟩
theorem drop_byte {b : List Int} (h : ∀ n ∈ b, Byte n) (k : Nat) : ∀ n ∈ b.drop k, Byte n := fun n hn => h n (List.mem_of_mem_drop hn)
theorem cv_small {k a b : Int} (h0 : 1 ≤ k) (h1 : k ≤ 5) (ha : U64 a) (hb : U64 b) : CvOk (k, (a, b)) := ⟨⟨by simp only; omega, by simp only; omega⟩, ha, hb⟩
theorem u64_0 : U64 0 := ⟨by omega, by omega⟩
theorem F32_eq {b : List Int} (h : ∀ n ∈ b, Byte n) (hl : b.length ≤ 4611686018427387904) : F32 b = some (getC b) := by
  unfold F32 getC
  simp only [F17_eq h hl, Option.bind_some]
  rcases get1_cases h with ⟨e0, hy, hi, hs, hlt⟩ | ⟨e0, e1⟩
  · simp only [e0, decide_true, Bool.not_true, cond_false, ne_eq, not_true_eq_false, if_false]
    by_cases q1 : (get1 b).1 < 1
    · simp [q1]
    by_cases q2 : 5 < (get1 b).1
    · simp [q2]
    have h2 := drop_byte h (get1 b).2.1.toNat
    simp only [q1, q2, decide_false, cond_false, or_self, if_false, hi, cond_true, F17_eq h2 (by omega), Option.bind_some, getC1]
    rcases get1_cases h2 with ⟨e0', hy', hi', hs', hlt'⟩ | ⟨e0', e1'⟩
    · simp only [e0', decide_true, Bool.not_true, cond_false, ne_eq, not_true_eq_false, if_false, hi', cond_true, getC2]
      have h3 := drop_byte h2 (get1 (b.drop (get1 b).2.1.toNat)).2.1.toNat
      by_cases q4 : (get1 b).1 = 4
      · simp only [q4, decide_true, cond_true, if_true, F17_eq h3 (by omega), Option.bind_some]
        rcases get1_cases h3 with ⟨e0'', hy'', hi'', hs'', hlt''⟩ | ⟨e0'', e1''⟩
        · simp only [e0'', decide_true, Bool.not_true, cond_false, not_true_eq_false, if_false, hi'', cond_true, pos_len, small_i64 (n := 4) (by omega) (by omega)]
          rw [F35_eq (c := (4, _)) (cv_small (by omega) (by omega) hy' hy'')]
          simp only [Option.bind_some]
          exact fin_form _ _
        · simp only [e1'', decide_false, Bool.not_false, cond_true, e0'', not_false_eq_true, if_true]
      · simp only [q4, decide_false, cond_false, if_false, pos_len, small_i64 (n := (get1 b).1) (by omega) (by omega)]
        rw [F35_eq (c := ((get1 b).1, _)) (cv_small (by omega) (by omega) hy' u64_0)]
        simp only [Option.bind_some]
        exact fin_form _ _
    · simp only [e1', decide_false, Bool.not_false, cond_true, e0', ne_eq, not_false_eq_true, if_true]
  · simp only [e1, decide_false, Bool.not_false, cond_true, e0, ne_eq, not_false_eq_true, if_true]
def post28 (x : List Int × Int × Int × Int × List Int) : Cv × Int :=
  if x.2.2.2.1 = 0 then getC x.1 else if x.2.2.2.1 = 1 then getC1 (x.2.2.2.2.getD 0 0) x.1 else
  if x.2.2.2.1 = 2 then (if x.2.2.2.2.getD 0 0 = 4 then getC2 (x.2.2.2.2.getD 0 0) (x.2.2.2.2.getD 1 0) x.1 else fin (x.2.2.2.2.getD 0 0, (x.2.2.2.2.getD 1 0, 0)) x.1) else
  fin (x.2.2.2.2.getD 0 0, (x.2.2.2.2.getD 1 0, x.2.2.2.2.getD 2 0)) x.1
theorem F28_eq {b : List Int} (h : ∀ n ∈ b, Byte n) (hl : b.length ≤ 4611686018427387904) : F28 b = some (getC b) := by
  unfold F28
  refine (lfp_rule (fun x => (∀ n ∈ x.1, Byte n) ∧ x.1.length ≤ 4611686018427387904 ∧
    ((x.2.2.2.1 = 0 ∧ x.2.2.1 = 2 ∧ x.2.2.2.2 = [0, 0, 0]) ∨
     (∃ n, 1 ≤ n ∧ n ≤ 5 ∧ x.2.2.2.1 = 1 ∧ x.2.2.1 = (if n = 4 then 3 else 2) ∧ x.2.2.2.2 = [n, 0, 0]) ∨
     (∃ n a, 1 ≤ n ∧ n ≤ 5 ∧ U64 a ∧ x.2.2.2.1 = 2 ∧ x.2.2.1 = (if n = 4 then 3 else 2) ∧ x.2.2.2.2 = [n, a, 0]) ∨
     (∃ a c, U64 a ∧ U64 c ∧ x.2.2.2.1 = 3 ∧ x.2.2.1 = 3 ∧ x.2.2.2.2 = [4, a, c]))) (fun x => 3 - x.2.2.2.1.toNat) post28 ?_ (b, (0 : Int), (2 : Int), (0 : Int), [0, 0, 0]) ⟨h, hl, .inl ⟨rfl, rfl, rfl⟩⟩).trans (by simp [post28])
  rintro ⟨b, q, many, i, arr⟩ ⟨hb, hlen, hx⟩ rec hrec
  simp only at hb hlen hx
  have fin_ok : ∀ (n a c : Int), 1 ≤ n → n ≤ 5 → U64 a → U64 c → i = many → arr = [n, a, c] → (many = 2 ∨ many = 3) →
      (bif inb 0 3 then bif inb 1 3 then bif inb 2 3 then
        bif (decide (0 < (b.length : Int)) == false) then (
        (F30 ((IntKind.wrap .i64 (rd (.int .u64) arr 0)), ((rd (.int .u64) arr 1), (rd (.int .u64) arr 2)))).bind fun r3 =>
        bif (!decide (r3 = 0)) then some (((0, (0, 0)), 2) : Cv × Int)
        else some (((IntKind.wrap .i64 (rd (.int .u64) arr 0)), ((rd (.int .u64) arr 1), (rd (.int .u64) arr 2))), 0))
        else some ((0, (0, 0)), 2)
        else none else none else none) = some (fin (n, (a, c)) b) := by
    intro n a c hn hn2 ha hc hi harr hm
    subst harr
    have r0 : rd (.int .u64) [n, a, c] 0 = n := rfl
    have r1 : rd (.int .u64) [n, a, c] 1 = a := rfl
    have r2 : rd (.int .u64) [n, a, c] 2 = c := rfl
    rw [r0, r1, r2, small_i64 hn hn2, F30_eq (cv_small hn hn2 ha hc)]
    simp only [show inb 0 3 = true from rfl, show inb 1 3 = true from rfl, show inb 2 3 = true from rfl, cond_true, pos_len, Option.bind_some]
    exact fin_form _ _
  rcases hx with ⟨hi, hm, harr⟩ | ⟨n, hn, hn2, hi, hm, harr⟩ | ⟨n, a, hn, hn2, ha, hi, hm, harr⟩ | ⟨a, c, ha, hc, hi, hm, harr⟩
  · subst hi; subst hm; subst harr
    simp only [show decide ((0 : Int) < 2) = true from rfl, cond_true, F16_eq hb hlen, Option.bind_some, post28, if_true, getC, decide_true, beq_self_eq_true, Bool.true_eq]
    rcases get1_cases hb with ⟨e0, hy, hin, hs, hlt⟩ | ⟨e0, e1⟩
    · simp only [e0, decide_true, Bool.not_true, cond_false, ne_eq, not_true_eq_false, if_false]
      by_cases q1 : (get1 b).1 < 1
      · simp [q1]
      by_cases q2 : 5 < (get1 b).1
      · simp [q2]
      simp only [q1, q2, decide_false, cond_false, or_self, if_false, hin, cond_true, show inb 0 3 = true from rfl]
      have h2 := drop_byte hb (get1 b).2.1.toNat
      have w1 : IntKind.wrap .i64 ((0 : Int) + 1) = 1 := by decide
      have w2 : IntKind.wrap .i64 ((2 : Int) + 1) = 3 := by decide
      have hset : ([0, 0, 0] : List Int).set (Int.toNat 0) (get1 b).1 = [(get1 b).1, 0, 0] := rfl
      by_cases q4 : (get1 b).1 = 4
      · simp only [q4, decide_true, cond_true, w1, w2]
        rw [← q4, hset, hrec (b.drop (get1 b).2.1.toNat, q, 3, 1, [(get1 b).1, 0, 0]) ⟨h2, by simp only; omega, .inr (.inl ⟨_, by omega, by omega, rfl, by simp [q4], rfl⟩)⟩ (by simp)]
        simp [post28]
      · simp only [q4, decide_false, cond_false, w1]
        rw [hset, hrec (b.drop (get1 b).2.1.toNat, q, 2, 1, [(get1 b).1, 0, 0]) ⟨h2, by simp only; omega, .inr (.inl ⟨_, by omega, by omega, rfl, by simp [q4], rfl⟩)⟩ (by simp)]
        simp [post28]
    · simp only [e1, decide_false, Bool.not_false, cond_true, e0, ne_eq, not_false_eq_true, if_true]
  · subst hi; subst harr
    have k1 : decide ((1 : Int) < many) = true := by rw [hm]; split <;> rfl
    simp only [k1, cond_true, F16_eq hb hlen, Option.bind_some, post28, getC1, show ¬ ((1 : Int) = 0) by omega, if_false, if_true, decide_false, List.getD_cons_zero, show (false == true) = false from rfl, cond_false]
    rcases get1_cases hb with ⟨e0, hy, hin, hs, hlt⟩ | ⟨e0, e1⟩
    · simp only [e0, decide_true, Bool.not_true, cond_false, ne_eq, not_true_eq_false, if_false, hin, cond_true, show inb 1 3 = true from rfl]
      have h2 := drop_byte hb (get1 b).2.1.toNat
      have w1 : IntKind.wrap .i64 ((1 : Int) + 1) = 2 := by decide
      have hset : ([n, 0, 0] : List Int).set (Int.toNat 1) (get1 b).1 = [n, (get1 b).1, 0] := rfl
      rw [w1, hset, hrec (b.drop (get1 b).2.1.toNat, q, many, 2, [n, (get1 b).1, 0]) ⟨h2, by simp only; omega, .inr (.inr (.inl ⟨n, _, by omega, by omega, hy, rfl, hm, rfl⟩))⟩ (by simp)]
      simp [post28]
    · simp only [e1, decide_false, Bool.not_false, cond_true, e0, ne_eq, not_false_eq_true, if_true]
  · subst hi
    by_cases q4 : n = 4
    · subst q4
      simp only [if_true] at hm
      subst hm; subst harr
      simp only [show decide ((2 : Int) < 3) = true from rfl, cond_true, F16_eq hb hlen, Option.bind_some, post28, getC2, show ¬ ((2 : Int) = 0) by omega, show ¬ ((2 : Int) = 1) by omega, if_false, if_true, decide_false, List.getD_cons_zero, List.getD_cons_succ, show (false == true) = false from rfl, cond_false]
      rcases get1_cases hb with ⟨e0, hy, hin, hs, hlt⟩ | ⟨e0, e1⟩
      · simp only [e0, decide_true, Bool.not_true, cond_false, ne_eq, not_true_eq_false, if_false, hin, cond_true, show inb 2 3 = true from rfl]
        have h2 := drop_byte hb (get1 b).2.1.toNat
        have w1 : IntKind.wrap .i64 ((2 : Int) + 1) = 3 := by decide
        have hset : ([4, a, 0] : List Int).set (Int.toNat 2) (get1 b).1 = [4, a, (get1 b).1] := rfl
        rw [w1, hset, hrec (b.drop (get1 b).2.1.toNat, q, 3, 3, [4, a, (get1 b).1]) ⟨h2, by simp only; omega, .inr (.inr (.inr ⟨a, _, ha, hy, rfl, rfl, rfl⟩))⟩ (by simp)]
        simp [post28]
      · simp only [e1, decide_false, Bool.not_false, cond_true, e0, ne_eq, not_false_eq_true, if_true]
    · rw [if_neg q4] at hm
      have f := fin_ok n a 0 hn hn2 ha u64_0 hm.symm harr (.inl hm)
      subst hm
      simp only [show decide ((2 : Int) < 2) = false from rfl, cond_false]
      refine f.trans ?_
      subst harr
      simp [post28, q4]
  · have f := fin_ok 4 a c (by omega) (by omega) ha hc (by omega) harr (.inr hm)
    subst hi; subst hm
    simp only [show decide ((3 : Int) < 3) = false from rfl, cond_false]
    refine f.trans ?_
    subst harr
    simp [post28]
/-- A caveat's octets. -/
def encC (c : Cv) : List Int := enc1 c.1 ++ (enc1 c.2.1 ++ (if c.1 = 4 then enc1 c.2.2 else []))
def putC (c : Cv) : List Int × Int := if chk c = 0 then (encC c, 0) else ([], 1)
theorem F29_eq {c : Cv} (hc : CvOk c) : F29 c = some (putC c) := by
  unfold F29 putC
  simp only [Prod.eta, F30_eq hc, Option.bind_some]
  by_cases h : chk c = 0
  · have k := chk_kind h
    have hw : IntKind.wrap .u64 c.1 = c.1 := small_u64 k.1 k.2.1
    have h1 := hc.2.1.1
    have h2 := hc.2.2.1
    by_cases h4 : c.1 = 4
    · simp only [h, h4, decide_true, Bool.not_true, cond_false, if_true, encC]
      rw [small_u64 (n := 4) (by omega) (by omega), F13_eq (by intro n hn; simp at hn; omega) (by simp)]
      simp
    · simp only [h, h4, decide_true, decide_false, Bool.not_true, Bool.not_false, cond_true, cond_false, if_true, if_false, encC]
      rw [hw, F13_eq (by intro n hn; simp at hn; omega) (by simp)]
      simp [inb]
  · rcases chk_01 c with h0 | h0
    · exact absurd h0 h
    · simp [h0]
theorem F31_eq {c : Cv} (hc : CvOk c) : F31 c = some (putC c) := by
  unfold F31 putC
  simp only [Prod.eta, F35_eq hc, Option.bind_some]
  by_cases h : chk c = 0
  · have k := chk_kind h
    have hw : IntKind.wrap .u64 c.1 = c.1 := small_u64 k.1 k.2.1
    have hk : U64 c.1 := ⟨by omega, by omega⟩
    have h1 := hc.2.1
    have h2 := hc.2.2
    by_cases h4 : c.1 = 4
    · simp only [h, h4, decide_true, Bool.not_true, cond_true, cond_false, if_true, encC]
      rw [F20_eq (by intro n hn; simp at hn; rcases hn with rfl | rfl | rfl; exact ⟨by omega, by omega⟩; exact h1; exact h2) (by simp)]
      simp
    · simp only [h, h4, decide_true, decide_false, Bool.not_true, cond_false, if_true, if_false, encC]
      rw [hw, F20_eq (by intro n hn; simp at hn; rcases hn with rfl | rfl; exact hk; exact h1) (by simp)]
      simp
  · simp [h]
theorem drop_enc (n : Int) (m : List Int) : (enc1 n ++ m).drop ((wid n : Int) + 1).toNat = m := by
  have : (enc1 n).length = ((wid n : Int) + 1).toNat := by simp [enc1, dig_len]
  rw [← this]; simp
theorem getC_enc {c : Cv} (hc : CvOk c) (h : chk c = 0) (m : List Int) : getC (encC c ++ m) = if m = [] then (c, 0) else ((0, (0, 0)), 2) := by
  have k := chk_kind h
  obtain ⟨n, a, b⟩ := c
  have hn : U64 n := ⟨by simp only at k; omega, by simp only at k; omega⟩
  have ha : U64 a := hc.2.1
  have hb : U64 b := hc.2.2
  simp only at k
  unfold getC encC
  simp only [List.append_assoc, get1_enc hn.1 hn.2, drop_enc, getC1, get1_enc ha.1 ha.2]
  have k1 : ¬ (n < 1 ∨ 5 < n) := by omega
  simp only [ne_eq, not_true_eq_false, if_false, k1]
  by_cases h4 : n = 4
  · subst h4
    simp only [if_true, getC2, get1_enc hb.1 hb.2, drop_enc, not_true_eq_false, if_false, fin, h]
    by_cases hm : m = [] <;> simp [hm]
  · simp only [h4, if_false, fin, List.nil_append]
    have : b = 0 := k.2.2.2.1 h4
    subst this
    by_cases hm : m = [] <;> simp [hm, h]
theorem getC_ok {b : List Int} (hb : ∀ n ∈ b, Byte n) {d : Cv} (h : getC b = (d, 0)) : chk d = 0 ∧ CvOk d ∧ encC d = b := by
  unfold getC at h
  rcases get1_cases hb with ⟨e0, hy, hi, hs, hlt⟩ | ⟨e0, e1⟩
  · rw [if_neg (fun hh => hh e0)] at h
    split at h
    · simp at h
    · rename_i q
      unfold getC1 at h
      have h2 := drop_byte hb (get1 b).2.1.toNat
      rcases get1_cases h2 with ⟨e0', hy', hi', hs', hlt'⟩ | ⟨e0', e1'⟩
      · rw [if_neg (fun hh => hh e0')] at h
        have h3 := drop_byte h2 (get1 (b.drop (get1 b).2.1.toNat)).2.1.toNat
        split at h
        · rename_i q4
          unfold getC2 at h
          rcases get1_cases h3 with ⟨e0'', hy'', hi'', hs'', hlt''⟩ | ⟨e0'', e1''⟩
          · rw [if_neg (fun hh => hh e0'')] at h
            unfold fin at h
            split at h
            · simp at h
            · rename_i hf
              simp only [ne_eq, not_or, Classical.not_not] at hf
              simp only [Prod.mk.injEq, and_true] at h
              subst h
              refine ⟨hf.2, cv_small (by omega) (by omega) hy' hy'', ?_⟩
              rw [hf.1, List.append_nil] at hs''
              simp only [encC, q4, if_true]
              rw [hs'', hs', ← q4, hs]
          · rw [if_pos e0''] at h
            simp only [Prod.mk.injEq] at h
            exact absurd h.2 e0''
        · rename_i q4
          unfold fin at h
          split at h
          · simp at h
          · rename_i hf
            simp only [ne_eq, not_or, Classical.not_not] at hf
            simp only [Prod.mk.injEq, and_true] at h
            subst h
            refine ⟨hf.2, cv_small (by omega) (by omega) hy' u64_0, ?_⟩
            rw [hf.1, List.append_nil] at hs'
            simp only [encC, q4, if_false, List.append_nil]
            rw [hs', hs]
      · rw [if_pos e0'] at h
        simp only [Prod.mk.injEq] at h
        exact absurd h.2 e0'
  · rw [if_pos e0] at h
    simp only [Prod.mk.injEq] at h
    exact absurd h.2 e0
theorem encC_byte {c : Cv} (hc : CvOk c) (h : chk c = 0) : ∀ d ∈ encC c, Byte d := by
  have k := chk_kind h
  intro d hd
  unfold encC at hd
  rcases List.mem_append.1 hd with hd | hd
  · exact enc1_byte (by omega) d hd
  rcases List.mem_append.1 hd with hd | hd
  · exact enc1_byte hc.2.1.1 d hd
  · split at hd
    · exact enc1_byte hc.2.2.1 d hd
    · simp at hd
theorem encC_len (c : Cv) : (encC c).length ≤ 27 := by
  have e : ∀ n, (enc1 n).length ≤ 9 := fun n => by have := wid_le n; simp [enc1, dig_len]; omega
  have h1 := e c.1
  have h2 := e c.2.1
  have h3 := e c.2.2
  unfold encC
  rw [List.length_append, List.length_append]
  split
  · omega
  · simp only [List.length_nil]; omega
theorem F10_true {c : Cv} {b : List Int} (hc : CvOk c) (hb : ∀ n ∈ b, Byte n) : F10 (c, b) = some true := by
  unfold F10
  simp only [F23_eq, Option.bind_some, Bool.not_true, cond_false, Prod.eta, F29_eq hc]
  by_cases hl : 200 < b.length
  · have : (200 : Int) < (b.length : Int) := by omega
    simp [this]
  have h0 : ¬ (200 : Int) < (b.length : Int) := by omega
  simp only [h0, decide_false, cond_false, F28_eq hb (by omega), Option.bind_some]
  have tail : (bif (!decide ((putC c).2 = 0)) then some (decide (((putC c).1.length : Int) = 0)) else
      (F28 (putC c).1).bind fun r7 => bif decide (((putC c).1.length + 1) * 1 ≤ LIM) then
      (F28 ((putC c).1 ++ ([0]))).bind fun r8 =>
      some (bif (bif decide (r7.2 = 0) then (decide (r7.1.1 = c.1) && (decide (r7.1.2.1 = c.2.1) && decide (r7.1.2.2 = c.2.2))) else false) then decide (r8.2 = 2) else false)
      else none) = some true := by
    unfold putC
    by_cases hk : chk c = 0
    · have hbb := encC_byte hc hk
      have hbl := encC_len c
      have hb0 : ∀ d ∈ encC c ++ [0], Byte d := fun d hd => by
        rcases List.mem_append.1 hd with hd | hd
        · exact hbb d hd
        · rw [List.mem_singleton.1 hd]; exact ⟨by omega, by omega⟩
      have g1 := getC_enc hc hk []
      have g2 := getC_enc hc hk [0]
      rw [List.append_nil] at g1
      have hL : ((encC c).length + 1) * 1 ≤ LIM := by unfold LIM; omega
      simp only [hk, if_true, decide_true, Bool.not_true, cond_false, F28_eq hbb (by omega), F28_eq hb0 (by simp; omega), Option.bind_some, hL, cond_true, g1, g2]
      simp
    · simp [hk]
  by_cases he : (getC b).2 = 0
  · obtain ⟨k1, k2, k3⟩ := getC_ok hb (d := (getC b).1) (by rw [← he])
    simp only [he, decide_true, cond_true, F29_eq k2, F30_eq k2, k1, Option.bind_some, putC, if_true, Bool.not_true, beq_self_eq_true, F14_eq, k3, cond_false]
    exact tail
  · simp only [he, decide_false, cond_false]
    exact tail
theorem F11_true {c d : Cv} {b : List Int} {u : Us} (hc : CvOk c) (hd : CvOk d) (hb : ∀ n ∈ b, Byte n) (hu : UsOk u) : F11 (c, d, b, u) = some true := by
  unfold F11
  simp only [F23_eq, Option.bind_some, Bool.not_true, cond_false, Prod.eta, F29_eq hc, F31_eq hc, F25_eq hc hu, F33_eq hc hu, F26_eq hc hd, F34_eq hc hd, F30_eq hc, F35_eq hc, F14_eq, both_self]
  by_cases hl : 200 < b.length
  · have : (200 : Int) < (b.length : Int) := by omega
    simp [this]
  have h0 : ¬ (200 : Int) < (b.length : Int) := by omega
  simp only [h0, decide_false, cond_false, F28_eq hb (by omega), F32_eq hb (by omega), Option.bind_some, both_self, decide_true, cond_true, Bool.and_self, beq_self_eq_true]
theorem pure10 (b : dens [.agg (.pair (.int .i64) (.pair (.int .u64) (.int .u64))), .one (.slice 5 (.int .u8))]) (h : Goods [.agg (.pair (.int .i64) (.pair (.int .u64) (.int .u64))), .one (.slice 5 (.int .u8))] b) : F10 b = some true :=
  F10_true (cv_of h.1) (fun m hm => byte_of (h.2.2 m hm))
theorem pure11 (b : dens [.agg (.pair (.int .i64) (.pair (.int .u64) (.int .u64))), .agg (.pair (.int .i64) (.pair (.int .u64) (.int .u64))), .one (.slice 5 (.int .u8)), .agg (.pair (.int .u64) (.pair (.int .i64) (.pair (.int .u64) (.int .u64))))])
    (h : Goods [.agg (.pair (.int .i64) (.pair (.int .u64) (.int .u64))), .agg (.pair (.int .i64) (.pair (.int .u64) (.int .u64))), .one (.slice 5 (.int .u8)), .agg (.pair (.int .u64) (.pair (.int .i64) (.pair (.int .u64) (.int .u64))))] b) : F11 b = some true :=
  F11_true (cv_of h.1) (cv_of h.2.1) (fun m hm => byte_of (h.2.2.1.2 m hm)) (us_of h.2.2.2)
end Go.Proofs.Ytpgfkfmmnciblaa.R1
