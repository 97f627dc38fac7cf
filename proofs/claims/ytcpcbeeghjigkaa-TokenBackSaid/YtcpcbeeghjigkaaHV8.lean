/- Part of a proof: what the program's functions come to. -/
import Derived.Test.YtcpcbeeghjigkaaHV7
set_option linter.unusedVariables false
set_option linter.unusedSimpArgs false
namespace Go.Proofs.Ytcpcbeeghjigkaa.R3
open Go Go.Fw Go.Proofs
theorem wid_of_fst {n c : Int} (h0 : 0 ≤ n) (h : fst n = c) : wid n = wd c := by
  subst h
  unfold fst wid wd
  by_cases h1 : n < 253
  · simp [h1]
  · by_cases h2 : n < 65536
    · simp [h1, h2]
    · by_cases h3 : n < 4294967296
      · simp [h1, h2, h3]
      · simp [h1, h2, h3]
theorem enc_iff {c : Int} {s : List Int} (hs : ∀ n ∈ s, Byte n) (hl : s.length = wd c) : enc1 (bv 0 s) = c :: s ↔ fst (bv 0 s) = c := by
  have h0 := bv_nonneg s 0 (by omega) hs
  constructor
  · intro h; simp only [enc1, List.cons.injEq] at h; exact h.1
  · intro h
    simp only [enc1, h, wid_of_fst h0 h, ← hl, dig_bv s 0 hs]
end Go.Proofs.Ytcpcbeeghjigkaa.R3
