/- Part of a proof: what the program's functions come to. -/
import Derived.Test.YtcpcbeeghjigkaaHV6
set_option linter.unusedVariables false
set_option linter.unusedSimpArgs false
namespace Go.Proofs.Ytcpcbeeghjigkaa.R3
open Go Go.Fw Go.Proofs
theorem rd_zero (c : Int) (r : List Int) : rd (.int .u8) (c :: r) 0 = c := rfl
theorem F101_eq {l : List Int} (h : ∀ n ∈ l, Byte n) (hl : l.length ≤ 4611686018427387904) : F101 l = some (get1 l) := by
  unfold F101
  cases l with
  | nil => rfl
  | cons c r =>
    have hc := h c (by simp)
    have hr : ∀ n ∈ r, Byte n := fun n hn => h n (by simp [hn])
    have hw := wd_le c
    have e0 : (decide (((c :: r).length : Int) = 0) == false) = true := by simp; omega
    have e1 : inb 0 (c :: r).length = true := inb_true (by omega) (by simp)
    have e2 : IntKind.wrap .i64 ((wd c : Int) + 1) = (wd c : Int) + 1 := wrap_i64 (by omega) (by omega)
    have e5 : rd (.int .u8) (c :: r) 0 = c := rfl
    rw [e5]
    simp only [e0, e1, cond_true, F90_byte hc, Option.bind_some, e2, get1]
    by_cases h1 : r.length < wd c
    · rw [if_pos h1]
      have : ((c :: r).length : Int) ≤ (wd c : Int) := by simp; omega
      simp only [this, decide_true, cond_true]
    · rw [if_neg h1]
      have h1' : ¬ ((c :: r).length : Int) ≤ (wd c : Int) := by simp; omega
      simp only [h1', decide_false, cond_false]
      by_cases h2 : wd c = 0
      · rw [if_pos h2]
        have : ((wd c : Int) = 0) := by omega
        have hw2 : IntKind.wrap .u64 c = c := wrap_u64 hc.1 (by have := hc.2; omega)
        simp only [this, decide_true, cond_true, hw2]
      · rw [if_neg h2]
        have h2' : ¬ ((wd c : Int) = 0) := by omega
        have e3 : (inb ((wd c : Int) + 1) ((c :: r).length + 1) && (decide ((0 : Nat) ≤ 1) && decide ((1 : Int) ≤ (wd c : Int) + 1))) = true := by
          have : inb ((wd c : Int) + 1) ((c :: r).length + 1) = true := inb_true (by omega) (by simp only [List.length_cons]; omega)
          rw [this]; simp; omega
        have e4 : ((c :: r).take ((wd c : Int) + 1).toNat).drop ((1 : Int).toNat) = r.take (wd c) := by
          rw [show ((wd c : Int) + 1).toNat = wd c + 1 by omega]; rfl
        simp only [h2', decide_false, cond_false, e3, cond_true, e4]
        have hlen : (r.take (wd c)).length = wd c := by rw [List.length_take]; omega
        have hb : ∀ n ∈ r.take (wd c), Byte n := fun n hn => hr n (List.mem_of_mem_take hn)
        refine lfp_rule (fun x => ∃ i : Nat, x.2 = (i : Int) ∧ i ≤ wd c ∧ x.1 = bv 0 ((r.take (wd c)).take i)) (fun x => wd c - x.2.toNat) (fun _ => if fst (bv 0 (r.take (wd c))) = c then (bv 0 (r.take (wd c)), (wd c : Int) + 1, 0) else (0, 0, 2)) ?_ ((0 : Int), (0 : Int)) ⟨0, rfl, by omega, rfl⟩
        rintro ⟨s, i'⟩ ⟨i, rfl, hi, rfl⟩ rec hrec
        simp only
        by_cases hlt : i < wd c
        · have k1 : ((i : Int) < ((r.take (wd c)).length : Int)) := by omega
          obtain ⟨hh, hrd⟩ := rd_get (t := .int .u8) (l := r.take (wd c)) (i := i) (by omega) k1
          have hlt2 : i < (r.take (wd c)).length := by omega
          have hrd2 : rd (.int .u8) (r.take (wd c)) i = (r.take (wd c))[i] := by rw [hrd]; simp
          have hby : Byte (rd (.int .u8) (r.take (wd c)) i) := by rw [hrd2]; exact hb _ (List.getElem_mem _)
          have hbi : ∀ n ∈ (r.take (wd c)).take i, Byte n := fun n hn => hb n (List.mem_of_mem_take hn)
          have b0 := bv_nonneg ((r.take (wd c)).take i) 0 (by omega) hbi
          have b1 := bv_lt ((r.take (wd c)).take i) 0 hbi
          have hli : ((r.take (wd c)).take i).length = i := by rw [List.length_take]; omega
          have b2 : bv 0 ((r.take (wd c)).take i) < 72057594037927936 := by
            rw [hli] at b1
            have : (2 : Int) ^ (8 * i) ≤ 2 ^ 56 := by
              have := Nat.pow_le_pow_right (n := 2) (by omega) (show 8 * i ≤ 56 by omega)
              exact_mod_cast this
            simp at b1; omega
          have hwr : IntKind.wrap .u64 (rd (.int .u8) (r.take (wd c)) i) = rd (.int .u8) (r.take (wd c)) i := wrap_u64 hby.1 (by have := hby.2; omega)
          simp only [k1, decide_true, cond_true, inb_true (Int.natCast_nonneg i) k1]
          rw [show (2 : Int) ^ (min (8 : Int).toNat 64) = 256 by rfl, wrap_u64 (n := bv 0 _ * 256) (by omega) (by omega), hwr, or_bytes b0 b2 hby, wrap_i64 (by omega) (by omega)]
          refine hrec _ ⟨i + 1, by simp, by omega, ?_⟩ (by simp only; omega)
          simp only
          rw [List.take_add_one, List.getElem?_eq_getElem hlt2, Option.toList_some, bv_snoc, hrd2]
        · have k1 : ¬ ((i : Int) < ((r.take (wd c)).length : Int)) := by omega
          have hbv := bv_nonneg (r.take (wd c)) 0 (by omega) hb
          simp only [k1, decide_false, cond_false]
          rw [show (r.take (wd c)).take i = r.take (wd c) from List.take_of_length_le (by omega), F89_eq hbv]
          simp only [Option.bind_some]
          by_cases hf : fst (bv 0 (r.take (wd c))) = c
          · simp [hf]
          · simp [hf]
end Go.Proofs.Ytcpcbeeghjigkaa.R3
