/- Part of a proof: what the program's functions come to. -/
import Derived.Test.YtpgfkfmmnciblaaGP8
set_option linter.unusedVariables false
set_option linter.unusedSimpArgs false
namespace Go.Proofs.Ytpgfkfmmnciblaa.R1
open Go Go.Fw Go.Proofs
theorem F39_eq {n : Int} (h0 : 0 ≤ n) (h1 : n < 18446744073709551616) : F39 n = some (enc1 n) := by
  have k2 := F44_eq h0 h1 (k := 2) (by omega)
  have k4 := F44_eq h0 h1 (k := 4) (by omega)
  have k8 := F44_eq h0 h1 (k := 8) (by omega)
  rw [show ((2 : Nat) : Int) = 2 from rfl] at k2
  rw [show ((4 : Nat) : Int) = 4 from rfl] at k4
  rw [show ((8 : Nat) : Int) = 8 from rfl] at k8
  unfold F39 enc1 fst wid
  have l2 : ([253].length + (dig n 2).length) * 1 ≤ LIM := by rw [dig_len]; unfold LIM; decide
  have l4 : ([254].length + (dig n 4).length) * 1 ≤ LIM := by rw [dig_len]; unfold LIM; decide
  have l8 : ([255].length + (dig n 8).length) * 1 ≤ LIM := by rw [dig_len]; unfold LIM; decide
  by_cases a1 : n < 253
  · have : n % 256 = n := by omega
    simp [a1, wrap_u8, this, dig]
  · by_cases a2 : n < 65536
    · simp only [a1, a2, decide_true, decide_false, cond_true, cond_false, if_false, if_true, k2, Option.bind_some]
      rw [decide_eq_true (by rw [dig_len]; unfold LIM; decide)]; rfl
    · by_cases a3 : n < 4294967296
      · simp only [a1, a2, a3, decide_true, decide_false, cond_true, cond_false, if_false, if_true, k4, Option.bind_some]
        rw [decide_eq_true (by rw [dig_len]; unfold LIM; decide)]; rfl
      · simp only [a1, a2, a3, decide_true, decide_false, cond_true, cond_false, if_false, if_true, k8, Option.bind_some]
        rw [decide_eq_true (by rw [dig_len]; unfold LIM; decide)]; rfl
end Go.Proofs.Ytpgfkfmmnciblaa.R1
