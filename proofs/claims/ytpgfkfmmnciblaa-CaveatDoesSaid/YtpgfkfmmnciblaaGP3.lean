/- Part of a proof: what the program's functions come to. -/
import Derived.Test.YtpgfkfmmnciblaaGP2
set_option linter.unusedVariables false
set_option linter.unusedSimpArgs false
namespace Go.Proofs.Ytpgfkfmmnciblaa.R1
open Go Go.Fw Go.Proofs
theorem dig_lt {x y : Int} (hxy : x < y) : ∀ k : Nat, x / 2 ^ (8 * k) = y / 2 ^ (8 * k) → bytesLt (dig x k) (dig y k) = true
  | 0, h => by simp at h; omega
  | k + 1, h => by
    have hp : (0 : Int) < 2 ^ (8 * k) := Int.pow_pos (by omega)
    have e : (2 : Int) ^ (8 * (k + 1)) = 2 ^ (8 * k) * 256 := by rw [show 8 * (k + 1) = 8 * k + 8 by omega, Int.pow_add]; rfl
    rw [e, ← Int.ediv_ediv_of_nonneg (Int.le_of_lt hp), ← Int.ediv_ediv_of_nonneg (Int.le_of_lt hp)] at h
    have hle : x / 2 ^ (8 * k) ≤ y / 2 ^ (8 * k) := Int.ediv_le_ediv hp (Int.le_of_lt hxy)
    simp only [dig, bytesLt, Bool.or_eq_true, Bool.and_eq_true, decide_eq_true_eq]
    by_cases he : x / 2 ^ (8 * k) = y / 2 ^ (8 * k)
    · exact .inr ⟨by rw [he], dig_lt hxy k he⟩
    · left; omega
theorem bytesLt_irrefl : ∀ l : List Int, bytesLt l l = false
  | [] => rfl
  | a :: l => by simp [bytesLt, bytesLt_irrefl l]
theorem enc1_apart {x y : Int} (h0 : 0 ≤ x) (hxy : x < y) (hy : y < 18446744073709551616) :
    (enc1 x).length ≤ (enc1 y).length ∧ bytesLt (enc1 x) (enc1 y) = true ∧ enc1 x ≠ (enc1 y).take (enc1 x).length := by
  have hw : wid x ≤ wid y := by unfold wid; (repeat' split) <;> omega
  have hl : (enc1 x).length ≤ (enc1 y).length := by simp [enc1, dig_len]; exact hw
  have hf : fst x < fst y ∨ (fst x = fst y ∧ wid x = wid y ∧ x / 2 ^ (8 * wid x) = y / 2 ^ (8 * wid x)) := by
    unfold fst wid
    by_cases a1 : x < 253
    · left; rw [if_pos a1]; (repeat' split) <;> omega
    · by_cases a2 : x < 65536
      · by_cases b2 : y < 65536
        · right; simp [a1, a2, b2, show ¬ y < 253 by omega]; omega
        · left; simp [a1, a2, b2, show ¬ y < 253 by omega]; split <;> omega
      · by_cases a3 : x < 4294967296
        · by_cases b3 : y < 4294967296
          · right; simp [a1, a2, a3, b3, show ¬ y < 253 by omega, show ¬ y < 65536 by omega]; omega
          · left; simp [a1, a2, a3, b3, show ¬ y < 253 by omega, show ¬ y < 65536 by omega]
        · right; simp [a1, a2, a3, show ¬ y < 253 by omega, show ¬ y < 65536 by omega, show ¬ y < 4294967296 by omega]; omega
  rcases hf with hf | ⟨hf, hw', hd⟩
  · refine ⟨hl, by simp [enc1, bytesLt, hf], ?_⟩
    simp only [enc1, List.length_cons, List.take_succ_cons, ne_eq, List.cons.injEq, not_and]
    omega
  · have hb : bytesLt (enc1 x) (enc1 y) = true := by
      simp only [enc1, bytesLt, hf, decide_true, Bool.true_and, ← hw', dig_lt hxy _ hd, Bool.or_true]
    refine ⟨hl, hb, ?_⟩
    rw [List.take_of_length_le (by simp [enc1, dig_len, hw'])]
    intro he
    rw [he, bytesLt_irrefl] at hb
    simp at hb
theorem F13_one {n : Int} (h : 0 ≤ n) : F13 [n] = some (enc1 n) := by
  rw [F13_eq (by simpa using h) (by simp)]; simp
theorem F12_eq : F12 () = some true := by
  unfold F12
  simp only [F13_one (show (0 : Int) ≤ 253 by omega), Option.bind_some, both_self]
  decide
theorem F3_true {a b : Int} (ha : (Lit.int .u64 a).wf = true) (hb : (Lit.int .u64 b).wf = true) : F3 (a, b) = some true := by
  have ha := wf_iff.1 ha
  have hb := wf_iff.1 hb
  simp [IntKind.min, IntKind.max, IntKind.signed, IntKind.bits] at ha hb
  unfold F3
  simp only [F12_eq, Option.bind_some, F13_one ha.1, F13_one hb.1, both_self]
  by_cases h : a = b
  · subst h; simp [F14]
  · by_cases hlt : b < a
    · obtain ⟨h1, h2, h3⟩ := enc1_apart hb.1 hlt (by omega)
      have h4 : inb ((enc1 b).length : Int) ((enc1 a).length + 1) = true := inb_true (by omega) (by omega)
      have h5 : decide ((↑(enc1 b).length : Int) ≤ ↑(enc1 a).length) = true := decide_eq_true (by omega)
      simp only [h, hlt, h2, h4, h5, decide_true, decide_false, cond_true, cond_false, Bool.not_true, Int.toNat_natCast, decide_eq_false h3, beq_self_eq_true, Bool.not_false]
    · obtain ⟨h1, h2, h3⟩ := enc1_apart ha.1 (show a < b by omega) (by omega)
      have h4 : inb ((enc1 a).length : Int) ((enc1 b).length + 1) = true := inb_true (by omega) (by omega)
      have h5 : decide ((↑(enc1 a).length : Int) ≤ ↑(enc1 b).length) = true := decide_eq_true (by omega)
      simp only [h, hlt, h2, h4, h5, decide_true, decide_false, cond_true, cond_false, Bool.not_true, Int.toNat_natCast, decide_eq_false h3, beq_self_eq_true, Bool.not_false]
end Go.Proofs.Ytpgfkfmmnciblaa.R1
