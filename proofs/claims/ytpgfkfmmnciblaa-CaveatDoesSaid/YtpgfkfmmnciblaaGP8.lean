/- Part of a proof: what the program's functions come to. -/
import Derived.Test.YtpgfkfmmnciblaaGP7
set_option linter.unusedVariables false
set_option linter.unusedSimpArgs false
namespace Go.Proofs.Ytpgfkfmmnciblaa.R1
open Go Go.Fw Go.Proofs
theorem dig_snoc (n : Int) : ∀ k, dig n (k + 1) = dig (n / 256) k ++ [n % 256]
  | 0 => by simp [dig]
  | k + 1 => by
    rw [dig, dig_snoc n k]
    conv => rhs; rw [dig]
    have : n / 2 ^ (8 * (k + 1)) = n / 256 / 2 ^ (8 * k) := by
      rw [pow8, Int.mul_comm, ← Int.ediv_ediv_of_nonneg (by omega)]
    rw [this]; rfl
theorem F44_eq {n : Int} (h0 : 0 ≤ n) (h1 : n < 18446744073709551616) {k : Nat} (hk : k ≤ 8) : F44 (n, (k : Int)) = some (dig n k) := by
  unfold F44
  refine (lfp_rule (B := B44) (fun x => 0 ≤ x.1 ∧ x.1 < 18446744073709551616 ∧ 0 ≤ x.2 ∧ x.2 ≤ 8) (fun x => x.2.toNat) (fun x => dig x.1 x.2.toNat) ?_ (n, (k : Int)) ⟨h0, h1, by simp, by simp; omega⟩).trans (by simp)
  rintro ⟨m, j⟩ ⟨g0, g1, g2, g3⟩ rec hrec
  simp only at g0 g1 g2 g3
  unfold B44
  by_cases hj : j = 0
  · subst hj; rfl
  · simp only [hj, decide_false, cond_false]
    obtain ⟨q, hq⟩ : ∃ q : Nat, j = (q : Int) + 1 := ⟨(j - 1).toNat, by omega⟩
    subst hq
    have e1 : Int.tdiv m 256 = m / 256 := Int.tdiv_eq_ediv_of_nonneg g0
    have e2 : Int.tmod m 256 = m % 256 := Int.tmod_eq_emod_of_nonneg g0
    rw [e1, e2, wrap_u64 (n := m / 256) (by omega) (by omega), wrap_i64 (by omega) (by omega), wrap_u8]
    rw [hrec (m / 256, (q : Int) + 1 - 1) ⟨by simp only; omega, by simp only; omega, by simp only; omega, by simp only; omega⟩ (by simp only; omega)]
    have e3 : ((q : Int) + 1 - 1).toNat = q := by omega
    have e4 : ((q : Int) + 1).toNat = q + 1 := by omega
    have e5 : (dig (m / 256) q).length + 1 ≤ LIM := by rw [dig_len]; unfold LIM; omega
    simp only [Option.bind_some, e3, e4, Nat.mul_one, e5, decide_true, cond_true]
    rw [dig_snoc, Int.emod_emod_of_dvd _ (by decide)]
end Go.Proofs.Ytpgfkfmmnciblaa.R1
