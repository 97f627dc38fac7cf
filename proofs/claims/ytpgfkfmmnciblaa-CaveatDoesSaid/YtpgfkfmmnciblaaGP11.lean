/- Part of a proof: what the program's functions come to. -/
import Derived.Test.YtpgfkfmmnciblaaGP10
set_option linter.unusedVariables false
set_option linter.unusedSimpArgs false
namespace Go.Proofs.Ytpgfkfmmnciblaa.R1
open Go Go.Fw Go.Proofs
theorem loopB {Q : Type} {s : List Int} {a : Int} {r : Int → Option Q} {res : Q} (hs : ∀ n ∈ s, Byte n) (hl : s.length ≤ 8) (h0 : 0 ≤ a) (h1 : a < 256) (ha : a = 0 ∨ s = []) (hr : r (bv a s) = some res) :
    lfp (fun (rec3 : (Int × Int) → Option Q) (x3 : Int × Int) =>
      bif decide (x3.2 < (s.length : Int)) then (
      bif inb x3.2 s.length then
      rec3 ((IntKind.wrap .u64 ((IntKind.wrap .u64 (256 * x3.1)) + (IntKind.wrap .u64 (rd (.int .u8) s x3.2)))), (IntKind.wrap .i64 (x3.2 + 1)))
      else none)
      else r x3.1) (a, 0) = some res := by
  refine lfp_rule (fun x => ∃ i : Nat, x.2 = (i : Int) ∧ i ≤ s.length ∧ x.1 = bv a (s.take i)) (fun x => s.length - x.2.toNat) (fun _ => res) ?_ (a, (0 : Int)) ⟨0, rfl, by omega, rfl⟩
  rintro ⟨t, i'⟩ ⟨i, rfl, hi, rfl⟩ rec hrec
  simp only
  by_cases hlt : i < s.length
  · have k1 : ((i : Int) < (s.length : Int)) := by omega
    have ha0 : a = 0 := by rcases ha with h | h; exact h; subst h; simp at hlt
    subst ha0
    obtain ⟨hh, hrd⟩ := rd_get (t := .int .u8) (l := s) (i := i) (by omega) k1
    have hrd2 : rd (.int .u8) s i = s[i] := by rw [hrd]; simp
    have hby : Byte (rd (.int .u8) s i) := by rw [hrd2]; exact hs _ (List.getElem_mem _)
    have hbi : ∀ n ∈ s.take i, Byte n := fun n hn => hs n (List.mem_of_mem_take hn)
    have b0 := bv_nonneg (s.take i) 0 (by omega) hbi
    have b1 := bv_lt (s.take i) 0 hbi
    have hli : (s.take i).length = i := by rw [List.length_take]; omega
    have b2 : bv 0 (s.take i) < 72057594037927936 := by
      rw [hli] at b1
      have : (2 : Int) ^ (8 * i) ≤ 2 ^ 56 := by
        have := Nat.pow_le_pow_right (n := 2) (by omega) (show 8 * i ≤ 56 by omega)
        exact_mod_cast this
      simp at b1; omega
    have hb2 := hby.2
    have hb1 := hby.1
    have hwr : IntKind.wrap .u64 (rd (.int .u8) s i) = rd (.int .u8) s i := wrap_u64 hby.1 (by omega)
    simp only [k1, decide_true, cond_true, inb_true (Int.natCast_nonneg i) k1]
    rw [wrap_u64 (n := 256 * bv 0 _) (by omega) (by omega), hwr, wrap_u64 (by omega) (by omega), wrap_i64 (by omega) (by omega)]
    refine hrec _ ⟨i + 1, by simp, by omega, ?_⟩ (by simp only; omega)
    simp only
    rw [List.take_add_one, List.getElem?_eq_getElem hlt, Option.toList_some, bv_snoc, hrd2]
    omega
  · have k1 : ¬ ((i : Int) < (s.length : Int)) := by omega
    simp only [k1, decide_false, cond_false]
    rw [List.take_of_length_le (by omega), hr]
theorem bv_lt64 {s : List Int} (hs : ∀ n ∈ s, Byte n) (hl : s.length ≤ 8) : bv 0 s < 18446744073709551616 := by
  have b1 := bv_lt s 0 hs
  have : (2 : Int) ^ (8 * s.length) ≤ 2 ^ 64 := by
    have := Nat.pow_le_pow_right (n := 2) (by omega) (show 8 * s.length ≤ 64 by omega)
    exact_mod_cast this
  simp at b1; omega
theorem F17_eq {l : List Int} (h : ∀ n ∈ l, Byte n) (hl : l.length ≤ 4611686018427387904) : F17 l = some (get1 l) := by
  unfold F17
  cases l with
  | nil => rfl
  | cons c r =>
    have hc := h c (by simp)
    have hr : ∀ n ∈ r, Byte n := fun n hn => h n (by simp [hn])
    have hw := wd_le c
    have e0 : (decide (((c :: r).length : Int) = 0) == false) = true := by simp; omega
    have e1 : inb 0 (c :: r).length = true := inb_true (by omega) (by simp)
    have e5 : rd (.int .u8) (c :: r) 0 = c := rfl
    rw [e5]
    simp only [e0, e1, cond_true, F38_byte hc, Option.bind_some, get1, both_self]
    by_cases h1 : r.length < wd c
    · rw [if_pos h1]
      have : ((c :: r).length : Int) < 1 + (wd c : Int) := by simp; omega
      simp only [this, decide_true, cond_true]
    · rw [if_neg h1]
      have h1' : ¬ ((c :: r).length : Int) < 1 + (wd c : Int) := by simp; omega
      simp only [h1', decide_false, cond_false]
      have g1 : inb (1 + (wd c : Int)) ((c :: r).length + 1) = true := inb_true (by omega) (by simp only [List.length_cons]; omega)
      have g2 : decide ((1 : Int) ≤ 1 + (wd c : Int)) = true := decide_eq_true (by omega)
      have g5 : decide ((0 : Nat) ≤ 1) = true := rfl
      have g3 : (1 + (wd c : Int)).toNat = wd c + 1 := by omega
      have e4 : (c :: r.take (wd c)).drop ((1 : Int).toNat) = r.take (wd c) := rfl
      have e6 : (c :: r).take (wd c + 1) = c :: r.take (wd c) := rfl
      have hc1 := hc.1
      have hc2 := hc.2
      simp only [g1, g2, g5, Bool.and_self, cond_true, g3, e6, e4]
      have hlen : (r.take (wd c)).length = wd c := by rw [List.length_take]; omega
      have hb : ∀ n ∈ r.take (wd c), Byte n := fun n hn => hr n (List.mem_of_mem_take hn)
      by_cases h2 : wd c = 0
      · rw [if_pos h2]
        have e7 : (1 + (wd c : Int) = 1) := by omega
        have e8 : r.take (wd c) = [] := by rw [h2]; rfl
        simp only [e7, decide_true, cond_true]
        rw [wrap_u64 hc.1 (by omega)]
        refine loopB (s := r.take (wd c)) (r := fun v => (F39 v).bind fun r4 => bif (!decide (r4 = c :: r.take (wd c))) then some (0, 0, 2) else some (v, 1, 0)) hb (by omega) hc1 hc2 (.inr e8) ?_
        have hfc : enc1 c = [c] := by
          have : c < 253 := by
            unfold wd at h2
            by_cases q : c < 253
            · exact q
            · rw [if_neg q] at h2; (split at h2 <;> (try split at h2)) <;> omega
          simp [enc1, fst, wid, this, dig]
        rw [e8]
        simp only [bv, F39_eq hc1 (by omega), Option.bind_some, hfc, decide_true, Bool.not_true, cond_false]
      · rw [if_neg h2]
        have e7 : ¬ (1 + (wd c : Int) = 1) := by omega
        simp only [e7, decide_false, cond_false]
        refine loopB (s := r.take (wd c)) (r := fun v => (F39 v).bind fun r4 => bif (!decide (r4 = c :: r.take (wd c))) then some (0, 0, 2) else some (v, 1 + (wd c : Int), 0)) hb (by omega) (by omega) (by omega) (.inl rfl) ?_
        have hbv := bv_nonneg (r.take (wd c)) 0 (by omega) hb
        simp only [F39_eq hbv (bv_lt64 hb (by omega)), Option.bind_some]
        have hiff := enc_iff (c := c) hb hlen
        by_cases hf : fst (bv 0 (r.take (wd c))) = c
        · rw [if_pos hf]
          simp only [hiff.2 hf, decide_true, Bool.not_true, cond_false, Option.some.injEq, Prod.mk.injEq, true_and, and_true]; omega
        · rw [if_neg hf]
          have : ¬ enc1 (bv 0 (r.take (wd c))) = c :: r.take (wd c) := fun q => hf (hiff.1 q)
          simp only [this, decide_false, Bool.not_false, cond_true]
end Go.Proofs.Ytpgfkfmmnciblaa.R1
