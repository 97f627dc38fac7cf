/- Part of a proof: what the program's functions come to. -/
import Derived.Test.YtpgfkfmmnciblaaGP3
set_option linter.unusedVariables false
set_option linter.unusedSimpArgs false
namespace Go.Proofs.Ytpgfkfmmnciblaa.R1
open Go Go.Fw Go.Proofs
theorem F15_eq {n : Int} (h : 0 ≤ n) : F15 n = some (1 + wid n : Int) := by
  unfold F15
  rw [F36_eq h]
  have := wid_le n
  simp only [Option.bind_some, F37_eq h]
  rw [wrap_i64 (by omega) (by omega)]
def sizes (l : List Int) : Int := (l.map fun n => (1 + wid n : Int)).sum
theorem enc_len (l : List Int) : ((l.flatMap enc1).length : Int) = sizes l := by
  induction l with
  | nil => rfl
  | cons a l ih => rw [List.flatMap_cons, List.length_append]; simp only [sizes, List.map_cons, List.sum_cons] at ih ⊢; rw [← ih]; simp [enc1, dig_len]; omega
theorem sizes_le (l : List Int) : 0 ≤ sizes l ∧ sizes l ≤ 9 * l.length := by
  induction l with
  | nil => simp [sizes]
  | cons a l ih => have := wid_le a; simp only [sizes, List.map_cons, List.sum_cons, List.length_cons] at ih ⊢; omega
theorem F4_true {a b : List Int} (ha : ∀ n ∈ a, 0 ≤ n) (hb : ∀ n ∈ b, 0 ≤ n) : F4 (a, b) = some true := by
  unfold F4
  simp only [F12_eq, Option.bind_some, Bool.not_true, cond_false]
  by_cases h1 : 200 < a.length
  · have : (200 : Int) < (a.length : Int) := by omega
    simp [this]
  by_cases h2 : 200 < b.length
  · have : (200 : Int) < (b.length : Int) := by omega
    simp [this]
  have g1 : ¬ (200 : Int) < (a.length : Int) := by omega
  have g2 : ¬ (200 : Int) < (b.length : Int) := by omega
  have e1 : (0 + a.length) * 8 ≤ LIM := by unfold LIM; omega
  have e2 : (a.length + b.length) * 8 ≤ LIM := by unfold LIM; omega
  have hab : ∀ n ∈ a ++ b, 0 ≤ n := fun n hn => (List.mem_append.1 hn).elim (ha n) (hb n)
  simp only [g1, g2, decide_false, cond_false, Bool.or_true, cond_true, List.nil_append, List.length_nil, e1, e2, decide_true]
  refine lfp_rule (fun x => ∃ i : Nat, x.2.2 = (i : Int) ∧ i ≤ (a ++ b).length ∧ x.2.1 = sizes ((a ++ b).take i)) (fun x => (a ++ b).length - x.2.2.toNat) (fun _ => true) ?_ (false, 0, 0) ⟨0, rfl, by omega, rfl⟩
  rintro ⟨q, s, i'⟩ ⟨i, rfl, hi, rfl⟩ rec hrec
  simp only
  by_cases hlt : i < (a ++ b).length
  · have k1 : ((i : Int) < ((a ++ b).length : Int)) := by omega
    obtain ⟨hh, hrd⟩ := rd_get (t := .int .u64) (l := a ++ b) (i := i) (by omega) k1
    have hn : 0 ≤ rd (.int .u64) (a ++ b) i := by rw [hrd]; exact hab _ (List.getElem_mem _)
    have hl2 : (a ++ b).length ≤ 400 := by rw [List.length_append]; omega
    have hs := sizes_le ((a ++ b).take i)
    have hlen : ((a ++ b).take i).length ≤ 400 := by rw [List.length_take]; omega
    have hw := wid_le (rd (.int .u64) (a ++ b) i)
    have hrd2 : rd (.int .u64) (a ++ b) i = (a ++ b)[i] := by rw [hrd]; simp
    have hq : ((!decide ((1 + wid (rd (.int .u64) (a ++ b) i) : Int) = 1)) = false ∨ (!decide ((1 + wid (rd (.int .u64) (a ++ b) i) : Int) = 3)) = false ∨ (!decide ((1 + wid (rd (.int .u64) (a ++ b) i) : Int) = 5)) = false ∨ (!decide ((1 + wid (rd (.int .u64) (a ++ b) i) : Int) = 9)) = false) := by
      unfold wid; split
      · left; simp
      · split
        · right; left; simp
        · split
          · right; right; left; simp
          · right; right; right; simp
    have hq2 : (bif (bif (bif (!decide ((1 + wid (rd (.int .u64) (a ++ b) i) : Int) = 1)) then (!decide ((1 + wid (rd (.int .u64) (a ++ b) i) : Int) = 3)) else false) then (!decide ((1 + wid (rd (.int .u64) (a ++ b) i) : Int) = 5)) else false) then (!decide ((1 + wid (rd (.int .u64) (a ++ b) i) : Int) = 9)) else false) = false := by
      rcases hq with h | h | h | h <;> simp only [h, cond_false] <;> (try (split <;> rfl)) <;> cases (!decide ((1 + wid (rd (.int .u64) (a ++ b) i) : Int) = 1)) <;> (try rfl) <;> simp
    simp only [k1, decide_true, cond_true, inb_true (Int.natCast_nonneg i) k1, F15_eq hn, Option.bind_some, hq2, cond_false]
    rw [wrap_i64 (n := (i : Int) + 1) (by omega) (by omega), wrap_i64 (by omega) (by omega)]
    refine hrec _ ⟨i + 1, by simp, by omega, ?_⟩ (by simp only; omega)
    simp only [sizes] at hs ⊢
    rw [List.take_add_one, List.getElem?_eq_getElem hlt, Option.toList_some, List.map_append, List.sum_append, hrd2]
    simp
  · have k1 : ¬ ((i : Int) < ((a ++ b).length : Int)) := by omega
    have hl2 : (a ++ b).length ≤ 400 := by rw [List.length_append]; omega
    simp only [k1, decide_false, cond_false, F13_eq hab (by omega), F13_eq ha (by omega), F13_eq hb (by omega), Option.bind_some]
    rw [List.take_of_length_le (by omega)]
    have m1 := enc_len a
    have m2 := enc_len b
    have n1 := sizes_le a
    have n2 := sizes_le b
    have hf : ((a.flatMap enc1).length + (b.flatMap enc1).length) * 1 ≤ LIM := by unfold LIM; omega
    have hE : ((a.flatMap enc1 ++ b.flatMap enc1).length : Int) = sizes (a ++ b) := by rw [← List.flatMap_append]; exact enc_len _
    simp only [hE, decide_true, beq_self_eq_true, cond_true, hf, F14, List.flatMap_append, Option.bind_some]
end Go.Proofs.Ytpgfkfmmnciblaa.R1
