/- Part of a proof: what the program's functions come to. -/
import Derived.Test.YtcpcbeeghjigkaaLH
set_option linter.unusedVariables false
set_option linter.unusedSimpArgs false
namespace Go.Proofs.Ytcpcbeeghjigkaa.R3
open Go Go.Fw Go.Proofs

theorem wrap_id {k : IntKind} {n : Int} (h : (Lit.int k n).wf = true) : k.wrap n = n := by
  have h' := wf_iff.1 h
  cases k <;> simp [IntKind.wrap, IntKind.min, IntKind.max, IntKind.signed, IntKind.bits] at h' ⊢ <;> omega
theorem wrap_i64 {n : Int} (h1 : -9223372036854775808 ≤ n) (h2 : n ≤ 9223372036854775807) : IntKind.wrap .i64 n = n :=
  wrap_id (wf_iff.2 ⟨by simp [IntKind.min, IntKind.signed, IntKind.bits]; omega, by simp [IntKind.max, IntKind.signed, IntKind.bits]; omega⟩)
theorem wrap_u8 (n : Int) : IntKind.wrap .u8 n = n % 256 := by
  simp [IntKind.wrap, IntKind.signed, IntKind.bits]
/-- A number's bytes, the greatest first. -/
def dig (n : Int) : Nat → List Int
  | 0 => []
  | k + 1 => (n / 2 ^ (8 * k)) % 256 :: dig n k
def wid (n : Int) : Nat := if n < 253 then 0 else if n < 65536 then 2 else if n < 4294967296 then 4 else 8
def fst (n : Int) : Int := if n < 253 then n else if n < 65536 then 253 else if n < 4294967296 then 254 else 255
def enc1 (n : Int) : List Int := fst n :: dig n (wid n)
theorem F89_eq {n : Int} (h : 0 ≤ n) : F89 n = some (fst n) := by
  unfold F89 fst
  by_cases h1 : n < 253
  · simp [h1, wrap_u8]; omega
  · by_cases h2 : n < 65536
    · simp [h1, h2]
    · by_cases h3 : n < 4294967296
      · simp [h1, h2, h3]
      · simp [h1, h2, h3]
theorem F90_eq {n : Int} (h : 0 ≤ n) : F90 (fst n) = some (wid n : Int) := by
  unfold F90 fst wid
  by_cases h1 : n < 253
  · simp [h1]
  · by_cases h2 : n < 65536
    · simp [h1, h2, wrap_u8]; rfl
    · by_cases h3 : n < 4294967296
      · simp [h1, h2, h3, wrap_u8]; rfl
      · simp [h1, h2, h3, wrap_u8]; rfl
theorem dig_len (n : Int) : ∀ k, (dig n k).length = k
  | 0 => rfl
  | k + 1 => by simp [dig, dig_len n k]
theorem wid_le (n : Int) : wid n ≤ 8 := by unfold wid; split <;> (try split) <;> (try split) <;> omega
end Go.Proofs.Ytcpcbeeghjigkaa.R3
