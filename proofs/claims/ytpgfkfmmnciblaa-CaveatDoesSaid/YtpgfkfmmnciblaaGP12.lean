/- Part of a proof: what the program's functions come to. -/
import Derived.Test.YtpgfkfmmnciblaaGP11
set_option linter.unusedVariables false
set_option linter.unusedSimpArgs false
namespace Go.Proofs.Ytpgfkfmmnciblaa.R1
open Go Go.Fw Go.Proofs
theorem fst_byte {n : Int} (h : 0 ≤ n) : Byte (fst n) := by unfold fst Byte; (repeat' split) <;> omega
theorem dig_byte (n : Int) : ∀ k, ∀ d ∈ dig n k, Byte d
  | 0, d, h => by simp [dig] at h
  | k + 1, d, h => by
    simp only [dig, List.mem_cons] at h
    rcases h with rfl | h
    · unfold Byte; omega
    · exact dig_byte n k d h
theorem enc1_byte {n : Int} (h : 0 ≤ n) : ∀ d ∈ enc1 n, Byte d := by
  intro d hd
  simp only [enc1, List.mem_cons] at hd
  rcases hd with rfl | hd
  · exact fst_byte h
  · exact dig_byte _ _ _ hd
theorem encs_byte {l : List Int} (h : ∀ n ∈ l, 0 ≤ n) : ∀ d ∈ l.flatMap enc1, Byte d := by
  intro d hd
  obtain ⟨n, hn, hd⟩ := List.mem_flatMap.1 hd
  exact enc1_byte (h n hn) d hd
theorem bv_dig (n : Int) : ∀ (k : Nat) (a : Int), bv a (dig n k) = a * 2 ^ (8 * k) + n % 2 ^ (8 * k)
  | 0, a => by simp [dig, bv]
  | k + 1, a => by
    rw [dig, bv, bv_dig n k, pow8]
    have hp : (0 : Int) < 2 ^ (8 * k) := Int.pow_pos (by omega)
    have e1 : n % (2 ^ (8 * k) * 256) = 2 ^ (8 * k) * (n / 2 ^ (8 * k) % 256) + n % 2 ^ (8 * k) := by
      rw [Int.emod_def, Int.emod_def n (2 ^ (8 * k)), Int.emod_def (n / 2 ^ (8 * k)) 256, ← Int.ediv_ediv_of_nonneg (Int.le_of_lt hp), Int.mul_sub, Int.mul_assoc]; omega
    rw [e1, Int.add_mul, Int.mul_assoc, Int.mul_comm 256 (2 ^ (8 * k)), Int.mul_comm (n / 2 ^ (8 * k) % 256)]
    omega
theorem bv_dig_wid {n : Int} (h0 : 0 ≤ n) (h1 : n < 18446744073709551616) (hw : wid n ≠ 0) : bv 0 (dig n (wid n)) = n := by
  rw [bv_dig]
  have : n < 2 ^ (8 * wid n) := by
    unfold wid at hw ⊢
    by_cases a1 : n < 253
    · simp [a1] at hw
    · by_cases a2 : n < 65536
      · simp [a1, a2]
      · by_cases a3 : n < 4294967296
        · simp [a1, a2, a3]
        · simp [a1, a2, a3]; omega
  rw [Int.emod_eq_of_lt h0 this]; omega
theorem get1_enc {n : Int} (h0 : 0 ≤ n) (h1 : n < 18446744073709551616) (m : List Int) : get1 (enc1 n ++ m) = (n, (wid n : Int) + 1, 0) := by
  have hw : wd (fst n) = wid n := (wid_of_fst h0 rfl).symm
  have hd := dig_len n (wid n)
  simp only [enc1, List.cons_append, get1, hw]
  rw [if_neg (by rw [List.length_append, hd]; omega)]
  by_cases h2 : wid n = 0
  · rw [if_pos h2, h2]
    have : n < 253 := by
      unfold wid at h2
      by_cases q : n < 253
      · exact q
      · rw [if_neg q] at h2; (split at h2 <;> (try split at h2)) <;> omega
    simp [fst, this]
  · rw [if_neg h2]
    have e : (dig n (wid n) ++ m).take (wid n) = dig n (wid n) := by
      rw [List.take_append_of_le_length (by omega), List.take_of_length_le (by omega)]
    rw [e, bv_dig_wid h0 h1 h2, if_pos rfl]
/-- What is read well. -/
theorem get1_ok {l : List Int} (h : ∀ n ∈ l, Byte n) {y m e : Int} (hg : get1 l = (y, m, e)) :
    (e = 0 ∧ 0 ≤ y ∧ y < 18446744073709551616 ∧ m = (wid y : Int) + 1 ∧ m ≤ l.length ∧ enc1 y = l.take m.toNat) ∨ (e ≠ 0 ∧ y = 0 ∧ m = 0) := by
  cases l with
  | nil => simp [get1] at hg; right; omega
  | cons c r =>
    have hc := h c (by simp)
    have hr : ∀ n ∈ r, Byte n := fun n hn => h n (by simp [hn])
    have hw := wd_le c
    simp only [get1] at hg
    have hc1 := hc.1
    have hc2 := hc.2
    by_cases h1 : r.length < wd c
    · rw [if_pos h1] at hg; simp only [Prod.mk.injEq] at hg; right; omega
    · rw [if_neg h1] at hg
      by_cases h2 : wd c = 0
      · rw [if_pos h2] at hg
        simp only [Prod.mk.injEq] at hg
        obtain ⟨rfl, rfl, rfl⟩ := hg
        have : c < 253 := by
          unfold wd at h2
          by_cases q : c < 253
          · exact q
          · rw [if_neg q] at h2; (split at h2 <;> (try split at h2)) <;> omega
        left
        refine ⟨rfl, hc1, by omega, by simp [wid, this], by simp; omega, by simp [enc1, fst, wid, this, dig]⟩
      · rw [if_neg h2] at hg
        have hlen : (r.take (wd c)).length = wd c := by rw [List.length_take]; omega
        have hb : ∀ n ∈ r.take (wd c), Byte n := fun n hn => hr n (List.mem_of_mem_take hn)
        have hbv := bv_nonneg (r.take (wd c)) 0 (by omega) hb
        by_cases hf : fst (bv 0 (r.take (wd c))) = c
        · rw [if_pos hf] at hg
          simp only [Prod.mk.injEq] at hg
          obtain ⟨rfl, rfl, rfl⟩ := hg
          left
          refine ⟨rfl, hbv, bv_lt64 hb (by omega), by rw [wid_of_fst hbv hf], by simp; omega, ?_⟩
          rw [(enc_iff hb hlen).2 hf, show ((wd c : Int) + 1).toNat = wd c + 1 by omega]; rfl
        · rw [if_neg hf] at hg; simp only [Prod.mk.injEq] at hg; right; omega
/-- All numbers. -/
def allS (acc : List Int) : List Int → List Int × Int
  | [] => (acc, 0)
  | c :: r => if (get1 (c :: r)).2.2 ≠ 0 then ([], (get1 (c :: r)).2.2) else allS (acc ++ [(get1 (c :: r)).1]) (r.drop ((get1 (c :: r)).2.1.toNat - 1))
  termination_by l => l.length
  decreasing_by simp; omega
theorem allS_enc : ∀ (l acc : List Int), (∀ n ∈ l, 0 ≤ n ∧ n < 18446744073709551616) → allS acc (l.flatMap enc1) = (acc ++ l, 0)
  | [], acc, _ => by simp [allS]
  | n :: l, acc, h => by
    obtain ⟨h0, h1⟩ := h n (by simp)
    have hg := get1_enc h0 h1 (l.flatMap enc1)
    rw [List.flatMap_cons]
    have e : enc1 n ++ l.flatMap enc1 = fst n :: (dig n (wid n) ++ l.flatMap enc1) := rfl
    rw [e] at hg ⊢
    rw [allS]
    simp only [hg]
    have e2 : ((wid n : Int) + 1).toNat - 1 = wid n := by omega
    rw [if_neg (by simp), e2, List.drop_append_of_le_length (by rw [dig_len]; omega), List.drop_of_length_le (by rw [dig_len]; omega), List.nil_append,
      allS_enc l _ (fun m hm => h m (by simp [hm]))]
    simp
def all1 (l : List Int) : List Int × Int := if 65535 < l.length then ([], 4) else allS [] l
theorem drop_pred {c : Int} {r : List Int} {k : Int} (h : 1 ≤ k) : (c :: r).drop k.toNat = r.drop (k.toNat - 1) := by
  obtain ⟨q, hq⟩ : ∃ q : Nat, k.toNat = q + 1 := ⟨k.toNat - 1, by omega⟩
  rw [hq]; rfl
theorem F18_eq {l : List Int} (h : ∀ n ∈ l, Byte n) : F18 l = some (all1 l) := by
  unfold F18 all1
  by_cases hl : 65535 < l.length
  · have : (65535 : Int) < (l.length : Int) := by omega
    simp only [this, decide_true, cond_true, if_pos hl]
  · have : ¬ (65535 : Int) < (l.length : Int) := by omega
    simp only [this, decide_false, cond_false, if_neg hl]
    refine lfp_rule (fun x => (∀ n ∈ x.1, Byte n) ∧ x.1.length + x.2.1.length ≤ 65535) (fun x => x.1.length) (fun x => allS x.2.1 x.1) ?_ (l, ([] : List Int), (0 : Int)) ⟨h, by simp only [List.length_nil]; omega⟩
    rintro ⟨s, acc, q⟩ ⟨hb, hlen⟩ rec hrec
    simp only at hb hlen ⊢
    cases s with
    | nil => simp [allS]
    | cons c r =>
      have k1 : (0 : Int) < ((c :: r).length : Int) := by simp only [List.length_cons]; omega
      have k2 := get1_ok hb (y := (get1 (c :: r)).1) (m := (get1 (c :: r)).2.1) (e := (get1 (c :: r)).2.2) rfl
      simp only [k1, decide_true, cond_true, F16_eq hb (by omega), Option.bind_some, allS]
      by_cases he : (get1 (c :: r)).2.2 = 0
      · rcases k2 with ⟨_, k3, k4, k5, k6, k7⟩ | ⟨k3, _⟩
        · have k8 : inb (get1 (c :: r)).2.1 ((c :: r).length + 1) = true := inb_true (by omega) (by omega)
          have k9 : (acc.length + 1) * 8 ≤ LIM := by unfold LIM; omega
          simp only [he, decide_true, Bool.not_true, cond_false, k8, cond_true, k9, ne_eq, not_true_eq_false, if_false]
          have k10 : 1 ≤ (get1 (c :: r)).2.1 := by omega
          rw [drop_pred k10]
          refine hrec _ ⟨fun n hn => hb n (List.mem_cons_of_mem _ (List.mem_of_mem_drop hn)), ?_⟩ ?_
          · simp only [List.length_drop, List.length_append, List.length_cons, List.length_nil] at hlen ⊢; omega
          · simp only [List.length_drop, List.length_cons]; omega
        · exact absurd he k3
      · simp only [he, decide_false, Bool.not_false, cond_true, ne_eq, not_false_eq_true, if_true]
theorem F19_eq {l : List Int} (h : ∀ n ∈ l, Byte n) : F19 l = some (all1 l) := by
  unfold F19 all1
  by_cases hl : 65535 < l.length
  · have : (65535 : Int) < (l.length : Int) := by omega
    simp only [this, decide_true, cond_true, if_pos hl]
  · have : ¬ (65535 : Int) < (l.length : Int) := by omega
    simp only [this, decide_false, cond_false, if_neg hl]
    refine lfp_rule (fun x => (∀ n ∈ x.1, Byte n) ∧ x.1.length + x.2.2.2.length ≤ 65535) (fun x => x.1.length) (fun x => allS x.2.2.2 x.1) ?_ (l, ([] : List Int), (0 : Int), ([] : List Int)) ⟨h, by simp only [List.length_nil]; omega⟩
    rintro ⟨s, q, q2, acc⟩ ⟨hb, hlen⟩ rec hrec
    simp only at hb hlen ⊢
    cases s with
    | nil => simp [allS]
    | cons c r =>
      have k1 : (0 : Int) < ((c :: r).length : Int) := by simp only [List.length_cons]; omega
      have k2 := get1_ok hb (y := (get1 (c :: r)).1) (m := (get1 (c :: r)).2.1) (e := (get1 (c :: r)).2.2) rfl
      simp only [k1, decide_true, cond_true, F17_eq hb (by omega), Option.bind_some, allS]
      by_cases he : (get1 (c :: r)).2.2 = 0
      · rcases k2 with ⟨_, k3, k4, k5, k6, k7⟩ | ⟨k3, _⟩
        · have k8 : inb (get1 (c :: r)).2.1 ((c :: r).length + 1) = true := inb_true (by omega) (by omega)
          have k9 : (acc.length + 1) * 8 ≤ LIM := by unfold LIM; omega
          simp only [he, decide_true, Bool.not_true, cond_false, k8, cond_true, k9, ne_eq, not_true_eq_false, if_false]
          have k10 : 1 ≤ (get1 (c :: r)).2.1 := by omega
          rw [drop_pred k10]
          refine hrec _ ⟨fun n hn => hb n (List.mem_cons_of_mem _ (List.mem_of_mem_drop hn)), ?_⟩ ?_
          · simp only [List.length_drop, List.length_append, List.length_cons, List.length_nil] at hlen ⊢; omega
          · simp only [List.length_drop, List.length_cons]; omega
        · exact absurd he k3
      · simp only [he, decide_false, Bool.not_false, cond_true, ne_eq, not_false_eq_true, if_true]
end Go.Proofs.Ytpgfkfmmnciblaa.R1
