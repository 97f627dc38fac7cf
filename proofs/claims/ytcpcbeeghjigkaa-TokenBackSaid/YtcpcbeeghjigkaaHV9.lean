/- Part of a proof: what the program's functions come to. -/
import Derived.Test.YtcpcbeeghjigkaaHV8
set_option linter.unusedVariables false
set_option linter.unusedSimpArgs false
namespace Go.Proofs.Ytcpcbeeghjigkaa.R3
open Go Go.Fw Go.Proofs
theorem bv_lt64 {s : List Int} (hs : ∀ n ∈ s, Byte n) (hl : s.length ≤ 8) : bv 0 s < 18446744073709551616 := by
  have b1 := bv_lt s 0 hs
  have : (2 : Int) ^ (8 * s.length) ≤ 2 ^ 64 := by
    have := Nat.pow_le_pow_right (n := 2) (by omega) (show 8 * s.length ≤ 64 by omega)
    exact_mod_cast this
  simp at b1; omega
theorem fst_byte {n : Int} (h : 0 ≤ n) : Byte (fst n) := by unfold fst Byte; (repeat' split) <;> omega
theorem dig_byte (n : Int) : ∀ k, ∀ d ∈ dig n k, Byte d
  | 0, d, h => by simp [dig] at h
  | k + 1, d, h => by
    simp only [dig, List.mem_cons] at h
    rcases h with rfl | h
    · unfold Byte; omega
    · exact dig_byte n k d h
theorem enc1_byte {n : Int} (h : 0 ≤ n) : ∀ d ∈ enc1 n, Byte d := by
  intro d hd
  simp only [enc1, List.mem_cons] at hd
  rcases hd with rfl | hd
  · exact fst_byte h
  · exact dig_byte _ _ _ hd
theorem encs_byte {l : List Int} (h : ∀ n ∈ l, 0 ≤ n) : ∀ d ∈ l.flatMap enc1, Byte d := by
  intro d hd
  obtain ⟨n, hn, hd⟩ := List.mem_flatMap.1 hd
  exact enc1_byte (h n hn) d hd
theorem bv_dig (n : Int) : ∀ (k : Nat) (a : Int), bv a (dig n k) = a * 2 ^ (8 * k) + n % 2 ^ (8 * k)
  | 0, a => by simp [dig, bv]
  | k + 1, a => by
    rw [dig, bv, bv_dig n k, pow8]
    have hp : (0 : Int) < 2 ^ (8 * k) := Int.pow_pos (by omega)
    have e1 : n % (2 ^ (8 * k) * 256) = 2 ^ (8 * k) * (n / 2 ^ (8 * k) % 256) + n % 2 ^ (8 * k) := by
      rw [Int.emod_def, Int.emod_def n (2 ^ (8 * k)), Int.emod_def (n / 2 ^ (8 * k)) 256, ← Int.ediv_ediv_of_nonneg (Int.le_of_lt hp), Int.mul_sub, Int.mul_assoc]; omega
    rw [e1, Int.add_mul, Int.mul_assoc, Int.mul_comm 256 (2 ^ (8 * k)), Int.mul_comm (n / 2 ^ (8 * k) % 256)]
    omega
theorem bv_dig_wid {n : Int} (h0 : 0 ≤ n) (h1 : n < 18446744073709551616) (hw : wid n ≠ 0) : bv 0 (dig n (wid n)) = n := by
  rw [bv_dig]
  have : n < 2 ^ (8 * wid n) := by
    unfold wid at hw ⊢
    by_cases a1 : n < 253
    · simp [a1] at hw
    · by_cases a2 : n < 65536
      · simp [a1, a2]
      · by_cases a3 : n < 4294967296
        · simp [a1, a2, a3]
        · simp [a1, a2, a3]; omega
  rw [Int.emod_eq_of_lt h0 this]; omega
theorem get1_enc {n : Int} (h0 : 0 ≤ n) (h1 : n < 18446744073709551616) (m : List Int) : get1 (enc1 n ++ m) = (n, (wid n : Int) + 1, 0) := by
  have hw : wd (fst n) = wid n := (wid_of_fst h0 rfl).symm
  have hd := dig_len n (wid n)
  simp only [enc1, List.cons_append, get1, hw]
  rw [if_neg (by rw [List.length_append, hd]; omega)]
  by_cases h2 : wid n = 0
  · rw [if_pos h2, h2]
    have : n < 253 := by
      unfold wid at h2
      by_cases q : n < 253
      · exact q
      · rw [if_neg q] at h2; (split at h2 <;> (try split at h2)) <;> omega
    simp [fst, this]
  · rw [if_neg h2]
    have e : (dig n (wid n) ++ m).take (wid n) = dig n (wid n) := by
      rw [List.take_append_of_le_length (by omega), List.take_of_length_le (by omega)]
    rw [e, bv_dig_wid h0 h1 h2, if_pos rfl]
/-- What is read well. -/
theorem get1_ok {l : List Int} (h : ∀ n ∈ l, Byte n) {y m e : Int} (hg : get1 l = (y, m, e)) :
    (e = 0 ∧ 0 ≤ y ∧ y < 18446744073709551616 ∧ m = (wid y : Int) + 1 ∧ m ≤ l.length ∧ enc1 y = l.take m.toNat) ∨ (e ≠ 0 ∧ y = 0 ∧ m = 0) := by
  cases l with
  | nil => simp [get1] at hg; right; omega
  | cons c r =>
    have hc := h c (by simp)
    have hr : ∀ n ∈ r, Byte n := fun n hn => h n (by simp [hn])
    have hw := wd_le c
    simp only [get1] at hg
    have hc1 := hc.1
    have hc2 := hc.2
    by_cases h1 : r.length < wd c
    · rw [if_pos h1] at hg; simp only [Prod.mk.injEq] at hg; right; omega
    · rw [if_neg h1] at hg
      by_cases h2 : wd c = 0
      · rw [if_pos h2] at hg
        simp only [Prod.mk.injEq] at hg
        obtain ⟨rfl, rfl, rfl⟩ := hg
        have : c < 253 := by
          unfold wd at h2
          by_cases q : c < 253
          · exact q
          · rw [if_neg q] at h2; (split at h2 <;> (try split at h2)) <;> omega
        left
        refine ⟨rfl, hc1, by omega, by simp [wid, this], by simp; omega, by simp [enc1, fst, wid, this, dig]⟩
      · rw [if_neg h2] at hg
        have hlen : (r.take (wd c)).length = wd c := by rw [List.length_take]; omega
        have hb : ∀ n ∈ r.take (wd c), Byte n := fun n hn => hr n (List.mem_of_mem_take hn)
        have hbv := bv_nonneg (r.take (wd c)) 0 (by omega) hb
        by_cases hf : fst (bv 0 (r.take (wd c))) = c
        · rw [if_pos hf] at hg
          simp only [Prod.mk.injEq] at hg
          obtain ⟨rfl, rfl, rfl⟩ := hg
          left
          refine ⟨rfl, hbv, bv_lt64 hb (by omega), by rw [wid_of_fst hbv hf], by simp; omega, ?_⟩
          rw [(enc_iff hb hlen).2 hf, show ((wd c : Int) + 1).toNat = wd c + 1 by omega]; rfl
        · rw [if_neg hf] at hg; simp only [Prod.mk.injEq] at hg; right; omega
end Go.Proofs.Ytcpcbeeghjigkaa.R3
