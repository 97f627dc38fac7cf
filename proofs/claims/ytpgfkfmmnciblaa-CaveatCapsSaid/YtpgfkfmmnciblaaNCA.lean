/- Part of a proof: what the program's functions come to. -/
import Derived.Test.YtpgfkfmmnciblaaLN
import Derived.Test.YtpgfkfmmnciblaaNB0
import Derived.Test.YtpgfkfmmnciblaaFwRow
set_option linter.unusedVariables false
set_option linter.unusedSimpArgs false
namespace Go.Proofs.Ytpgfkfmmnciblaa.R1
open Go Go.Fw Go.Proofs RB
abbrev Cv := Int × (Int × Int)
abbrev Us := Int × (Int × (Int × Int))
def CvOk (c : Cv) : Prop := (-9223372036854775808 ≤ c.1 ∧ c.1 ≤ 9223372036854775807) ∧ U64 c.2.1 ∧ U64 c.2.2
def UsOk (u : Us) : Prop := U64 u.1 ∧ (-9223372036854775808 ≤ u.2.1 ∧ u.2.1 ≤ 9223372036854775807) ∧ U64 u.2.2.1 ∧ U64 u.2.2.2
theorem cv_of {c : Cv} (h : Fw.Good (.pair (.int .i64) (.pair (.int .u64) (.int .u64))) c) : CvOk c := ⟨i64_of h.1, u64_of h.2.1, u64_of h.2.2⟩
theorem us_of {u : Us} (h : Fw.Good (.pair (.int .u64) (.pair (.int .i64) (.pair (.int .u64) (.int .u64)))) u) : UsOk u := ⟨u64_of h.1, i64_of h.2.1, u64_of h.2.2.1, u64_of h.2.2.2⟩
theorem F45_one (a : Int) : F45 [a] = some a := by
  unfold F45
  simp only [List.length_singleton]
  refine (lfp_rule (fun x => x = (a, 1)) (fun _ => 0) (fun _ => a) ?_ (a, 1) rfl)
  rintro x rfl rec hrec
  simp
theorem F41_one (a : Int) : F41 [a] = some (if 4611686018427387904 < a then 1 else 0) := by
  unfold F41
  simp only [List.length_singleton, F45_one, Option.bind_some]
  by_cases h : 4611686018427387904 < a
  · simp [h]
  · simp [h]
/-- May a caveat be? -/
def chk (c : Cv) : Int := if (c.1 < 1 ∨ 5 < c.1) ∨ (c.1 = 2 ∧ 65535 < c.2.1) ∨ ((c.1 = 3 ∨ c.1 = 4) ∧ 4611686018427387904 < c.2.1) ∨ (c.1 ≠ 4 ∧ c.2.2 ≠ 0) then 1 else 0
theorem chk_01 (c : Cv) : chk c = 0 ∨ chk c = 1 := by unfold chk; split <;> simp
theorem F30_eq {c : Cv} (h : CvOk c) : F30 c = some (chk c) := by
  obtain ⟨k, a, b⟩ := c
  obtain ⟨hk, ha, hb⟩ := h
  simp only at hk ha hb
  unfold F30 chk
  simp only [F41_one, Option.bind_some]
  by_cases h4 : k = 4
  · subst h4; simp
  by_cases h3 : k = 3
  · subst h3
    by_cases q : 4611686018427387904 < a
    · simp [q]
    · by_cases q2 : b = 0 <;> simp [q, q2]
  by_cases h2 : k = 2
  · subst h2
    have e : (2 : Int) ^ (min (16 : Int).toNat 64) = 65536 := by decide
    have e2 : (0 < a / 65536) ↔ 65535 < a := by have := ha.1; omega
    by_cases q : 65535 < a
    · simp [e, e2, q]
    · by_cases q2 : b = 0 <;> simp [e, e2, q, q2]
  by_cases h1 : k = 1
  · subst h1
    by_cases q2 : b = 0 <;> simp [q2]
  by_cases h5 : k = 5
  · subst h5
    by_cases q2 : b = 0 <;> simp [q2]
  have : k < 1 ∨ 5 < k := by omega
  simp [h1, h2, h3, h4, h5, this]
def may (u : Us) : Bool := decide (0 ≤ u.2.1) && (decide (u.2.1 < 16) && decide (u.2.2.1 ≤ 4611686018427387904))
theorem F40_eq (u : Us) : F40 u = some (may u) := by
  obtain ⟨t, m, a, w⟩ := u
  unfold F40 may
  simp only [F41_one, Option.bind_some]
  by_cases h1 : 0 ≤ m
  · by_cases h2 : m < 16
    · by_cases h3 : 4611686018427387904 < a
      · simp [h1, h2, h3]
      · simp [h1, h2, h3]; omega
    · simp [h1, h2]
  · simp [h1]
/-- Is a bit set? -/
def bitS (n m : Int) : Bool := decide (n / 2 ^ m.toNat % 2 = 1)
theorem and_one {n : Int} (h0 : 0 ≤ n) (h1 : n < 18446744073709551616) : bitOp .and .u64 n 1 = n % 2 := by
  obtain ⟨n, rfl⟩ := Int.eq_ofNat_of_zero_le h0
  show IntKind.wrap .u64 ((BitVec.ofInt 64 (n : Int) &&& BitVec.ofInt 64 (1 : Int)).toNat : Int) = _
  have e : (BitVec.ofInt 64 (n : Int) &&& BitVec.ofInt 64 (1 : Int)).toNat = n % 2 := by
    rw [BitVec.toNat_and]
    have e1 : (BitVec.ofInt 64 (n : Int)).toNat = n := by rw [BitVec.ofInt_natCast, BitVec.toNat_ofNat]; omega
    have e2 : (BitVec.ofInt 64 (1 : Int)).toNat = 1 := by decide
    rw [e1, e2, Nat.and_one_is_mod]
  rw [e]
  exact (wrap_u64 (by omega) (by omega)).trans (by omega)
/-- Does a caveat hold? -/
def holds (c : Cv) (u : Us) : Bool :=
  if c.1 = 1 then decide (u.1 ≤ c.2.1) else if c.1 = 2 then bitS c.2.1 u.2.1 else if c.1 = 5 then decide (u.2.2.2 = c.2.1) else decide (u.2.2.1 ≤ c.2.1)
def holds1 (c : Cv) (u : Us) : Bool × Int := if chk c = 0 ∧ may u = true then (holds c u, 0) else (false, 1)
theorem chk_kind {c : Cv} (h : chk c = 0) : 1 ≤ c.1 ∧ c.1 ≤ 5 ∧ (c.1 = 2 → c.2.1 ≤ 65535) ∧ (c.1 ≠ 4 → c.2.2 = 0) ∧ (c.1 = 3 ∨ c.1 = 4 → c.2.1 ≤ 4611686018427387904) := by
  unfold chk at h
  split at h
  · simp at h
  · rename_i q; omega
theorem may_kind {u : Us} (h : may u = true) : 0 ≤ u.2.1 ∧ u.2.1 < 16 ∧ u.2.2.1 ≤ 4611686018427387904 := by
  simpa [may] using h
theorem F25_eq {c : Cv} {u : Us} (hc : CvOk c) (hu : UsOk u) : F25 (c, u) = some (holds1 c u) := by
  unfold F25 holds1
  have e1 := F30_eq hc
  have e2 := F40_eq u
  obtain ⟨k, a, b⟩ := c
  obtain ⟨t, m, am, w⟩ := u
  simp only [e1, e2, Option.bind_some]
  by_cases h1 : chk (k, a, b) = 0
  · have hk := chk_kind h1
    simp only at hk
    by_cases h2 : may (t, m, am, w) = true
    · have hm := may_kind h2
      simp only at hm
      have ha := hc.2.1
      simp only at ha
      simp only [h1, h2, decide_true, Bool.not_true, beq_self_eq_true, cond_true, cond_false, and_self, if_true, holds]
      by_cases k1 : k = 1
      · subst k1; simp
      by_cases k2 : k = 2
      · subst k2
        have hp : (0 : Int) < 2 ^ m.toNat := Int.pow_pos (by omega)
        have q1 : 0 ≤ a / 2 ^ m.toNat := Int.ediv_nonneg ha.1 (Int.le_of_lt hp)
        have q2 : a / 2 ^ m.toNat < 18446744073709551616 := Int.lt_of_le_of_lt (Int.ediv_le_self _ ha.1) ha.2
        have q3 : min m.toNat 64 = m.toNat := by omega
        simp [hm.1, q3, and_one q1 q2, bitS]
      by_cases k3 : k = 3
      · subst k3; simp
      by_cases k4 : k = 4
      · subst k4; simp
      have k5 : k = 5 := by omega
      subst k5; simp
    · simp only [h1, h2, decide_true, Bool.not_true, beq_self_eq_true, cond_true, and_false, if_false]
      simp [h2]
  · simp [h1]
theorem F23_eq : F23 () = some true := by
  unfold F23
  rw [F25_eq (c := (1, (9, 0))) (u := (9, (0, (0, 0)))) (by simp [CvOk, U64]) (by simp [UsOk, U64]), F25_eq (c := (1, (9, 0))) (u := (10, (0, (0, 0)))) (by simp [CvOk, U64]) (by simp [UsOk, U64])]
  simp [holds1, chk, may, holds]
def allC (l : List Cv) (u : Us) : Bool × Int :=
  if l.length ≤ 16 ∧ may u = true then (if l.all (fun c => decide (chk c = 0)) = true then (l.all (fun c => holds c u), 0) else (false, 1)) else (false, 1)
theorem F24_eq {l : List Cv} {u : Us} (hl : ∀ c ∈ l, CvOk c) (hu : UsOk u) : F24 (l, u) = some (allC l u) := by
  unfold F24 allC
  simp only [Prod.eta, F40_eq, Option.bind_some]
  by_cases h1 : 16 < l.length
  · have : (16 : Int) < (l.length : Int) := by omega
    have h2 : ¬ l.length ≤ 16 := by omega
    simp [this, h2]
  · have h0 : ¬ (16 : Int) < (l.length : Int) := by omega
    have h2 : l.length ≤ 16 := by omega
    by_cases hm : may u = true
    · simp only [h0, decide_false, beq_self_eq_true, cond_true, hm, Bool.not_true, cond_false, h2, and_self, if_true]
      refine lfp_rule (fun x => ∃ i : Nat, x.2.2.2 = (i : Int) ∧ i ≤ l.length ∧ (l.take i).all (fun c => decide (chk c = 0)) = true ∧ x.2.2.1 = (l.take i).all (fun c => holds c u)) (fun x => l.length - x.2.2.2.toNat)
        (fun _ => if l.all (fun c => decide (chk c = 0)) = true then (l.all (fun c => holds c u), 0) else (false, 1)) ?_ (false, 0, true, 0) ⟨0, rfl, by omega, rfl, rfl⟩
      rintro ⟨v1, v2, v3, i'⟩ ⟨i, rfl, hi, hall, hv⟩ rec hrec
      simp only at hv
      subst hv
      simp only
      by_cases hlt : i < l.length
      · have k1 : (i : Int) < (l.length : Int) := by omega
        obtain ⟨hh, hrd⟩ := rd_get (t := .pair (.int .i64) (.pair (.int .u64) (.int .u64))) (l := l) (i := i) (by omega) k1
        have hrd2 : rd (.pair (.int .i64) (.pair (.int .u64) (.int .u64))) l i = l[i] := by rw [hrd]; simp
        have hc : CvOk l[i] := hl _ (List.getElem_mem _)
        have ht : l.take (i + 1) = l.take i ++ [l[i]] := by rw [List.take_add_one, List.getElem?_eq_getElem hlt, Option.toList_some]
        simp only [k1, decide_true, cond_true, inb_true (Int.natCast_nonneg i) k1, hrd2, F25_eq hc hu, Option.bind_some]
        rw [wrap_i64 (n := (i : Int) + 1) (by omega) (by omega)]
        unfold holds1
        by_cases hk : chk l[i] = 0
        · simp only [hk, hm, and_self, if_true, decide_true, Bool.not_true, cond_false]
          refine hrec _ ⟨i + 1, by simp, by omega, ?_, ?_⟩ (by simp only; omega)
          · rw [ht, List.all_append, hall]; simp [hk]
          · simp only
            rw [ht, List.all_append]
            cases (l.take i).all (fun c => holds c u) <;> simp
        · have : ¬ l.all (fun c => decide (chk c = 0)) = true := fun h => by
            have := List.all_eq_true.1 h _ (List.getElem_mem hlt)
            exact hk (by simpa using this)
          simp [hk, this]
      · have k1 : ¬ (i : Int) < (l.length : Int) := by omega
        rw [List.take_of_length_le (by omega)] at hall ⊢
        simp only [k1, decide_false, cond_false, hall, if_true]
    · have hm' : may u = false := by simpa using hm
      simp [h0, hm']
end Go.Proofs.Ytpgfkfmmnciblaa.R1
