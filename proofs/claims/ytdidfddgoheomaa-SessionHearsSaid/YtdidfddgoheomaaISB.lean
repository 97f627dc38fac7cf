/- Part of a proof: what the program's functions come to. -/
import Derived.Test.YtdidfddgoheomaaISA
set_option linter.unusedVariables false
set_option linter.unusedSimpArgs false
namespace Go.Proofs.Ytdidfddgoheomaa.R2
open Go Go.Fw Go.Proofs RB
set_option maxRecDepth 20000
theorem F37_eq {s t : Ses} (hl : s.2.2.2.1.length ≤ 4611686018427387904) : F37 (s, t) = some (decide (s = t)) := by
  obtain ⟨a, b, c, d, e⟩ := s
  obtain ⟨a', b', c', d', e'⟩ := t
  simp only at hl
  unfold F37
  simp only [F24_eq, F17_eq (a := d) (b := d') hl, F23_eq, Option.bind_some]
  by_cases h1 : a = a'
  · subst h1
    by_cases h2 : b = b'
    · subst h2
      by_cases h3 : c = c'
      · subst h3
        by_cases h4 : d = d'
        · subst h4
          by_cases h5 : e = e' <;> simp [h5]
        · simp [h4]
      · simp [h3]
    · simp [h2]
  · have : (a == a') = false := by simpa using h1
    simp [this, h1]
theorem chkS_01 (s : Ses) : chkS s = 0 ∨ chkS s = 1 := by
  unfold chkS
  split
  · exact .inr rfl
  · unfold chkR; split
    · exact .inr rfl
    · exact .inl rfl
theorem chkR_01 (r : Rdr) : chkR r = 0 ∨ chkR r = 1 := by
  unfold chkR; split
  · exact .inr rfl
  · exact .inl rfl
/-- session.Check of the document -/
theorem F56_eq {s : Ses} (hb : Bytes s.2.1) (hl : s.2.2.2.1.length ≤ 4611686018427387904) (hr : s.2.1.length ≤ 1000000) : F56 s = some (chkS s) := by
  unfold F56 chkS
  simp only [Prod.eta, F37_eq (t := (false, ([], (false, ([], []))))) hl, F25_eq (r := (s.2.1, s.2.2.1)) hb hr, Option.bind_some]
  cases h1 : s.1 with
  | false =>
    simp only [Bool.not_false, cond_true, true_and]
    by_cases h2 : s = nulS
    · have : s = (false, ([], (false, ([], [])))) := h2
      rw [this]
      simp [nulS, longF, chkR]
    · have : ¬ s = (false, ([], (false, ([], [])))) := h2
      simp [this, h2]
  | true =>
    simp only [Bool.not_true, cond_false, Bool.true_eq_false, false_and, false_or]
    by_cases h2 : chkR (s.2.1, s.2.2.1) = 0
    · by_cases h3 : 8 < s.2.2.2.1.length
      · have : (8 : Int) < (s.2.2.2.1.length : Int) := by omega
        simp [h2, h3, this]
      · by_cases h4 : 16384 < s.2.2.2.2.length
        · have : (16384 : Int) < (s.2.2.2.2.length : Int) := by omega
          simp [h2, h4, this]
        · have h3' : ¬ (8 : Int) < (s.2.2.2.1.length : Int) := by omega
          have h4' : ¬ (16384 : Int) < (s.2.2.2.2.length : Int) := by omega
          simp only [h2, h3, h4, h3', h4', decide_true, decide_false, Bool.not_true, cond_false, false_or]
          refine lfp_rule (fun x => ∃ i : Nat, x.2 = (i : Int) ∧ i ≤ s.2.2.2.1.length ∧ longF (s.2.2.2.1.take i) = false) (fun x => s.2.2.2.1.length - x.2.toNat) (fun _ => if longF s.2.2.2.1 = true then 1 else 0) ?_ (0, 0) ⟨0, rfl, by omega, by simp [longF]⟩
          rintro ⟨q, i'⟩ ⟨i, hi', hi, hA⟩ rec hrec
          simp only at hi'
          subst hi'
          simp only
          by_cases hlt : i < s.2.2.2.1.length
          · have k1 : ((i : Int) < (s.2.2.2.1.length : Int)) := by omega
            simp only [k1, decide_true, cond_true, inb_true (Int.natCast_nonneg i) k1, rd_nat (t := .slice 5 (.int .u8)) hlt]
            by_cases c : 4096 < s.2.2.2.1[i].length
            · have c' : (4096 : Int) < (s.2.2.2.1[i].length : Int) := by omega
              have hL : longF s.2.2.2.1 = true := by
                unfold longF
                rw [List.any_eq_true]
                exact ⟨_, List.getElem_mem hlt, by simp [c]⟩
              simp [c', hL]
            · have c' : ¬ (4096 : Int) < (s.2.2.2.1[i].length : Int) := by omega
              simp only [c', decide_false, cond_false]
              rw [wrap_i64 (n := (i : Int) + 1) (by omega) (by omega)]
              refine hrec _ ⟨i + 1, by simp, by omega, ?_⟩ (by simp only; omega)
              unfold longF at hA ⊢
              rw [List.take_succ_eq_append_getElem hlt, List.any_append, hA]
              simp [c]
          · have k1 : ¬ ((i : Int) < (s.2.2.2.1.length : Int)) := by omega
            rw [List.take_of_length_le (by omega)] at hA
            simp [k1, hA]
    · have h5 : chkR (s.2.1, s.2.2.1) = 1 := (chkR_01 _).resolve_left h2
      simp [h5]
theorem F50_eq {s : Ses} (hb : Bytes s.2.1) (hl : s.2.2.2.1.length ≤ 4611686018427387904) (hr : s.2.1.length ≤ 1000000) : F50 s = some (redS s) := by
  unfold F50 redS
  simp only [Prod.eta, F56_eq hb hl hr, Option.bind_some]
  rcases chkS_01 s with h | h <;> cases h1 : s.1 <;> simp [h, h1]
theorem redS_3 (s : Ses) : redS s = 0 ∨ redS s = 1 ∨ redS s = 14 := by
  unfold redS
  rcases chkS_01 s with h | h <;> cases h1 : s.1 <;> simp [h, h1]
theorem F30_eq {s : Ses} (hb : Bytes s.2.1) (hl : s.2.2.2.1.length ≤ 4611686018427387904) (hr : s.2.1.length ≤ 1000000) : F30 s = some (upT s) := by
  unfold F30 upT
  simp only [Prod.eta, F50_eq hb hl hr, Option.bind_some]
  rcases redS_3 s with h | h | h <;> simp [h, upS, nulS]
theorem F32_eq {s : Ses} (hb : Bytes s.2.1) (hl : s.2.2.2.1.length ≤ 4611686018427387904) (hr : s.2.1.length ≤ 1000000) : F32 s = some (nulS, redS s) := by
  unfold F32
  simp only [Prod.eta, F50_eq hb hl hr, Option.bind_some]
  rfl
theorem F28_eq {s : Ses} (h1 : s.2.1.length ≤ 1000000) (h2 : s.2.2.2.2.length ≤ 1000000) (h3 : s.2.2.2.1.length ≤ 1000000) (h4 : ∀ f ∈ s.2.2.2.1, f.length ≤ 1000000) : F28 s = some s := by
  have k1 : (([] : List Int).length + s.2.1.length) * 1 ≤ LIM := by unfold LIM; simp only [List.length_nil]; omega
  have k2 : (([] : List Int).length + s.2.2.2.2.length) * 1 ≤ LIM := by unfold LIM; simp only [List.length_nil]; omega
  unfold F28
  simp only [both_self, k1, k2, decide_true, Bool.or_true, cond_true, List.nil_append]
  refine lfp_rule (fun x => ∃ i : Nat, x.1 = (i : Int) ∧ i ≤ s.2.2.2.1.length ∧ x.2.1 = s.2.2.2.1.take i ∧ x.2.2 = ((s.1, (s.2.1, s.2.2.1)), s.2.2.2.2)) (fun x => s.2.2.2.1.length - x.1.toNat) (fun _ => s) ?_ _ ⟨0, rfl, by omega, rfl, rfl⟩
  rintro ⟨i', o, u⟩ ⟨i, hi', hi, ho, hu⟩ rec hrec
  simp only at hi' ho hu
  subst hi'
  subst ho
  subst hu
  simp only
  by_cases hlt : i < s.2.2.2.1.length
  · have c1 : ((i : Int) < (s.2.2.2.1.length : Int)) := by omega
    have hti := h4 _ (List.getElem_mem hlt)
    have k3 : (([] : List Int).length + s.2.2.2.1[i].length) * 1 ≤ LIM := by unfold LIM; simp only [List.length_nil]; omega
    have k4 : ((s.2.2.2.1.take i).length + 1) * 24 ≤ LIM := by rw [List.length_take]; unfold LIM; omega
    simp only [c1, decide_true, cond_true, inb_true (Int.natCast_nonneg i) c1, rd_nat (t := .slice 5 (.int .u8)) hlt, k3, k4]
    rw [wrap_i64 (n := (i : Int) + 1) (by omega) (by omega)]
    refine hrec _ ⟨i + 1, by simp, by omega, ?_, rfl⟩ (by simp only; omega)
    rw [List.take_succ_eq_append_getElem hlt]
  · have c1 : ¬ ((i : Int) < (s.2.2.2.1.length : Int)) := by omega
    simp only [c1, decide_false, cond_false, List.take_of_length_le (show s.2.2.2.1.length ≤ i by omega)]
theorem F34_eq {s : Ses} {b : List Int} (hb : Bytes s.2.1) (hbb : Bytes b) (hl : s.2.2.2.1.length ≤ 4611686018427387904) (hr : s.2.1.length ≤ 100000) : F34 (s, b) = some (hearS s b) := by
  unfold F34 hearS
  simp only [Prod.eta, F50_eq hb hl (by omega), Option.bind_some]
  by_cases h1 : redS s = 0
  · obtain ⟨ok, hlive⟩ := okS_of h1
    obtain ⟨o1, o2, o3, o4, o5⟩ := ok
    simp only [h1, decide_true, Bool.not_true, cond_false, ne_eq, not_true_eq_false, if_false, F21_eq (r := (s.2.1, s.2.2.1)) hb hbb hr, Option.bind_some]
    by_cases h2 : (feedS (s.2.1, s.2.2.1) b).2.2 = 0
    · obtain ⟨f1, f2, f3, f4⟩ := feed_chk (r := (s.2.1, s.2.2.1)) hb hbb o5 h2
      by_cases hbig : 65535 < b.length
      · exfalso
        unfold feedS at h2
        simp [o5, hbig] at h2
      have f3' : (feedS (s.2.1, s.2.2.1) b).2.1.length ≤ 200000 := by simp only at f3; omega
      simp only [h2, decide_true, Bool.not_true, cond_false, not_true_eq_false, if_false]
      rw [wrap_i64 (n := (s.2.2.2.1.length : Int) + ((feedS (s.2.1, s.2.2.1) b).2.1.length : Int)) (by omega) (by omega)]
      by_cases h3 : 8 < s.2.2.2.1.length + (feedS (s.2.1, s.2.2.1) b).2.1.length
      · have h3' : (8 : Int) < (s.2.2.2.1.length : Int) + ((feedS (s.2.1, s.2.2.1) b).2.1.length : Int) := by omega
        simp only [h3, h3', decide_true, cond_true, if_true]
        rfl
      · have h3' : ¬ (8 : Int) < (s.2.2.2.1.length : Int) + ((feedS (s.2.1, s.2.2.1) b).2.1.length : Int) := by omega
        have k : (s.2.2.2.1.length + (feedS (s.2.1, s.2.2.1) b).2.1.length) * 24 ≤ LIM := by unfold LIM; omega
        simp only [h3, h3', decide_false, cond_false, if_false, F28_eq (s := s) (by omega) (by omega) (by omega) (fun f hf => by have := o3 f hf; omega), Option.bind_some, k, decide_true, cond_true]
    · simp only [h2, decide_false, Bool.not_false, cond_true, not_false_eq_true, if_true]
      rfl
  · simp only [h1, decide_false, Bool.not_false, cond_true, ne_eq, not_false_eq_true, if_true]; rfl
theorem F36_eq {s : Ses} (hb : Bytes s.2.1) (hl : s.2.2.2.1.length ≤ 4611686018427387904) (hr : s.2.1.length ≤ 1000000) : F36 s = some (nextS s) := by
  unfold F36 nextS
  simp only [Prod.eta, F50_eq hb hl hr, Option.bind_some]
  by_cases h1 : redS s = 0
  · obtain ⟨ok, hlive⟩ := okS_of h1
    obtain ⟨o1, o2, o3, o4, o5⟩ := ok
    simp only [h1, decide_true, Bool.not_true, cond_false, ne_eq, not_true_eq_false, if_false, F28_eq (s := s) (by omega) (by omega) (by omega) (fun f hf => by have := o3 f hf; omega), Option.bind_some]
    obtain ⟨a, b, c, d, e⟩ := s
    cases d with
    | nil => simp [nulS]
    | cons f r =>
      have h2 : ¬ (((f :: r).length : Nat) : Int) = 0 := by simp <;> omega
      simp only [h2, decide_false, cond_false]
      rw [inb_true (by omega) (by simp <;> omega), inb_true (by omega) (by simp <;> omega)]
      simp [rd]
  · simp only [h1, decide_false, Bool.not_false, cond_true, ne_eq, not_false_eq_true, if_true]; rfl
end Go.Proofs.Ytdidfddgoheomaa.R2
