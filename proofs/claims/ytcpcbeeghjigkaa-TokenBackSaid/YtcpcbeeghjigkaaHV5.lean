/- Part of a proof: what the program's functions come to. -/
import Derived.Test.YtcpcbeeghjigkaaHV2
set_option linter.unusedVariables false
set_option linter.unusedSimpArgs false
namespace Go.Proofs.Ytcpcbeeghjigkaa.R3
open Go Go.Fw Go.Proofs
def Byte (n : Int) : Prop := 0 ≤ n ∧ n < 256
/-- The number that bytes are, the greatest first, behind acc. -/
def bv (acc : Int) : List Int → Int
  | [] => acc
  | c :: r => bv (acc * 256 + c) r
theorem pow8 (k : Nat) : (2 : Int) ^ (8 * (k + 1)) = 2 ^ (8 * k) * 256 := by
  rw [show 8 * (k + 1) = 8 * k + 8 by omega, Int.pow_add]; rfl
theorem bv_div : ∀ (l : List Int) (a : Int), (∀ n ∈ l, Byte n) → bv a l / 2 ^ (8 * l.length) = a
  | [], a, _ => by simp [bv]
  | c :: r, a, h => by
    have hc := h c (by simp)
    have hp : (0 : Int) ≤ 2 ^ (8 * r.length) := Int.le_of_lt (Int.pow_pos (by omega))
    rw [bv, List.length_cons, pow8, ← Int.ediv_ediv_of_nonneg hp, bv_div r _ (fun n hn => h n (by simp [hn]))]
    unfold Byte at hc
    omega
theorem dig_bv : ∀ (l : List Int) (a : Int), (∀ n ∈ l, Byte n) → dig (bv a l) l.length = l
  | [], a, _ => rfl
  | c :: r, a, h => by
    have hc := h c (by simp)
    have hr : ∀ n ∈ r, Byte n := fun n hn => h n (by simp [hn])
    rw [bv, List.length_cons, dig, dig_bv r _ hr, bv_div r _ hr]
    unfold Byte at hc
    congr 1
    omega
theorem bv_nonneg : ∀ (l : List Int) (a : Int), 0 ≤ a → (∀ n ∈ l, Byte n) → 0 ≤ bv a l
  | [], a, h, _ => h
  | c :: r, a, h, hl => bv_nonneg r _ (by have := (hl c (by simp)).1; omega) (fun n hn => hl n (by simp [hn]))
theorem bv_snoc : ∀ (l : List Int) (a c : Int), bv a (l ++ [c]) = bv a l * 256 + c
  | [], a, c => rfl
  | d :: r, a, c => by simp only [List.cons_append, bv]; exact bv_snoc r _ c
theorem bv_lt : ∀ (l : List Int) (a : Int), (∀ n ∈ l, Byte n) → bv a l < (a + 1) * 2 ^ (8 * l.length)
  | [], a, _ => by simp [bv]; omega
  | c :: r, a, h => by
    have hc := h c (by simp)
    have hp : (0 : Int) < 2 ^ (8 * r.length) := Int.pow_pos (by omega)
    have := bv_lt r (a * 256 + c) (fun n hn => h n (by simp [hn]))
    rw [bv, List.length_cons, pow8]
    unfold Byte at hc
    have h2 : (a * 256 + c + 1) * 2 ^ (8 * r.length) ≤ (a + 1) * 256 * 2 ^ (8 * r.length) := Int.mul_le_mul_of_nonneg_right (by omega) (Int.le_of_lt hp)
    have h3 : (a + 1) * (2 ^ (8 * r.length) * 256) = (a + 1) * 256 * 2 ^ (8 * r.length) := by rw [Int.mul_comm (2 ^ _) 256, Int.mul_assoc]
    rw [h3]; omega
end Go.Proofs.Ytcpcbeeghjigkaa.R3
