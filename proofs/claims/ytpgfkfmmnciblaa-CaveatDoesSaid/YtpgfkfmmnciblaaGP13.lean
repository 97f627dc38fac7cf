/- Part of a proof: what the program's functions come to. -/
import Derived.Test.YtpgfkfmmnciblaaGP12
set_option linter.unusedVariables false
set_option linter.unusedSimpArgs false
namespace Go.Proofs.Ytpgfkfmmnciblaa.R1
open Go Go.Fw Go.Proofs
def U64 (n : Int) : Prop := 0 ≤ n ∧ n < 18446744073709551616
theorem F20_eq {l : List Int} (h : ∀ n ∈ l, U64 n) (hl : l.length ≤ 100000) : F20 l = some (l.flatMap enc1) := by
  unfold F20
  have elen : ∀ n, (enc1 n).length ≤ 9 := fun n => by have := wid_le n; simp [enc1, dig_len]; omega
  have flen : ∀ m : List Int, (m.flatMap enc1).length ≤ 9 * m.length := by
    intro m
    induction m with
    | nil => simp
    | cons a m ih => rw [List.flatMap_cons, List.length_append, List.length_cons]; have := elen a; omega
  refine lfp_rule (fun x => ∃ i : Nat, x.2 = (i : Int) ∧ i ≤ l.length ∧ x.1 = (l.take i).flatMap enc1) (fun x => l.length - x.2.toNat) (fun _ => l.flatMap enc1) ?_ (([] : List Int), 0) ⟨0, rfl, by omega, rfl⟩
  rintro ⟨y, i'⟩ ⟨i, rfl, hi, rfl⟩ rec hrec
  simp only
  by_cases hlt : i < l.length
  · have h1 : ((i : Int) < (l.length : Int)) := by omega
    obtain ⟨hh, hrd⟩ := rd_get (t := .int .u64) (l := l) (i := i) (by omega) h1
    have hrd2 : rd (.int .u64) l i = l[i] := by rw [hrd]; simp
    have hn : U64 (rd (.int .u64) l i) := by rw [hrd2]; exact h _ (List.getElem_mem _)
    have hlen : (((l.take i).flatMap enc1).length + (enc1 (rd (.int .u64) l i)).length) * 1 ≤ LIM := by
      have := flen (l.take i)
      have := elen (rd (.int .u64) l i)
      rw [List.length_take] at *
      unfold LIM; omega
    simp only [h1, decide_true, cond_true, inb_true (Int.natCast_nonneg i) h1, F39_eq hn.1 hn.2, Option.bind_some, hlen]
    rw [wrap_i64 (n := (i : Int) + 1) (by omega) (by omega)]
    refine hrec _ ⟨i + 1, by simp, by omega, ?_⟩ (by simp only; omega)
    simp only
    rw [List.take_add_one, List.getElem?_eq_getElem hlt, Option.toList_some, List.flatMap_append, List.flatMap_singleton, hrd2]
  · have h1 : ¬ ((i : Int) < (l.length : Int)) := by omega
    simp only [h1, decide_false, cond_false]
    rw [List.take_of_length_le (by omega)]
theorem F21_eq {n : Int} (h : U64 n) : F21 n = some (1 + wid n : Int) := by
  unfold F21
  rw [F39_eq h.1 h.2]
  simp only [Option.bind_some, enc1, List.length_cons, dig_len, Option.some.injEq]
  omega
theorem F22_eq {a b : List Int} (hl : a.length ≤ 4611686018427387904) : F22 (a, b) = some (decide (a = b)) := by
  unfold F22
  simp only
  by_cases hn : a.length = b.length
  · have e0 : (a.length : Int) = (b.length : Int) := by omega
    simp only [e0, decide_true, Bool.not_true, cond_false]
    refine lfp_rule (fun x => ∃ i : Nat, x.2 = (i : Int) ∧ i ≤ a.length ∧ a.take i = b.take i) (fun x => a.length - x.2.toNat) (fun _ => decide (a = b)) ?_ (false, 0) ⟨0, rfl, by omega, rfl⟩
    rintro ⟨y, i'⟩ ⟨i, rfl, hi, he⟩ rec hrec
    simp only
    by_cases hlt : i < a.length
    · have h1 : ((i : Int) < (b.length : Int)) := by omega
      have h2 : ((i : Int) < (a.length : Int)) := by omega
      have hlt2 : i < b.length := by omega
      obtain ⟨_, hrd⟩ := rd_get (t := .int .u64) (l := a) (i := i) (by omega) h2
      obtain ⟨_, hrd'⟩ := rd_get (t := .int .u64) (l := b) (i := i) (by omega) h1
      have hrd2 : rd (.int .u64) a i = a[i] := by rw [hrd]; simp
      have hrd3 : rd (.int .u64) b i = b[i] := by rw [hrd']; simp
      simp only [h1, decide_true, cond_true, inb_true (Int.natCast_nonneg i) h1, inb_true (Int.natCast_nonneg i) h2, hrd2, hrd3]
      by_cases hx : a[i] = b[i]
      · simp only [hx, decide_true, Bool.not_true, cond_false]
        rw [wrap_i64 (n := (i : Int) + 1) (by omega) (by omega)]
        refine hrec _ ⟨i + 1, by simp, by omega, ?_⟩ (by simp only; omega)
        rw [List.take_add_one, List.take_add_one, he, List.getElem?_eq_getElem hlt, List.getElem?_eq_getElem hlt2, hx]
      · simp only [hx, decide_false, Bool.not_false, cond_true, Option.some.injEq]
        symm; rw [decide_eq_false_iff_not]
        intro hab; subst hab; exact hx rfl
    · have h1 : ¬ ((i : Int) < (b.length : Int)) := by omega
      simp only [h1, decide_false, cond_false, Option.some.injEq]
      symm; rw [decide_eq_true_iff]
      rw [List.take_of_length_le (by omega), List.take_of_length_le (by omega)] at he; exact he
  · have e0 : ¬ (a.length : Int) = (b.length : Int) := by omega
    simp only [e0, decide_false, Bool.not_false, cond_true, Option.some.injEq]
    symm; rw [decide_eq_false_iff_not]
    intro hab; subst hab; exact hn rfl
theorem all1_len {l : List Int} : (all1 l).1.length ≤ l.length := by
  have key : ∀ (n : Nat) (l acc : List Int), l.length ≤ n → (allS acc l).1.length ≤ acc.length + l.length := by
    intro n
    induction n with
    | zero => intro l acc h; cases l with
      | nil => simp [allS]
      | cons c r => simp at h
    | succ n ih =>
      intro l acc h
      cases l with
      | nil => simp [allS]
      | cons c r =>
        rw [allS]
        split
        · simp
        · refine Nat.le_trans (ih _ _ ?_) ?_
          · simp at h ⊢; omega
          · simp; omega
  unfold all1
  split
  · simp
  · simpa using key _ l [] (Nat.le_refl _)
theorem F14_eq (a b : List Int) : F14 (a, b) = some (decide (a = b)) := rfl
theorem F5_true {l b : List Int} {n : Int} (hl : ∀ m ∈ l, U64 m) (hn : U64 n) (hb : ∀ m ∈ b, Byte m) : F5 (l, n, b) = some true := by
  unfold F5
  simp only [F12_eq, Option.bind_some, Bool.not_true, cond_false]
  by_cases h1 : 200 < l.length
  · have : (200 : Int) < (l.length : Int) := by omega
    simp [this]
  have g1 : ¬ (200 : Int) < (l.length : Int) := by omega
  simp only [g1, decide_false, beq_self_eq_true, cond_true]
  by_cases h2 : 65540 < b.length
  · have : (65540 : Int) < (b.length : Int) := by omega
    simp only [this, decide_true]
    cases (bif decide ((2000 : Int) < ↑b.length) then decide ((b.length : Int) ≤ 65535) else false) <;> rfl
  have hlen : b.length ≤ 65540 := by omega
  cases (bif (bif decide ((2000 : Int) < ↑b.length) then decide ((b.length : Int) ≤ 65535) else false) then true else decide ((65540 : Int) < ↑b.length)) with
  | true => rfl
  | false =>
    have hk := all1_len (l := b)
    simp only [cond_false, F16_eq hb (by omega), F17_eq hb (by omega), F18_eq hb, F19_eq hb, F13_eq (fun m hm => (hl m hm).1) (by omega), F20_eq hl (by omega), Option.bind_some, F14_eq, decide_true, beq_self_eq_true, cond_true,
      F15_eq hn.1, F21_eq hn, F22_eq (a := (all1 b).1) (b := (all1 b).1) (by omega)]
theorem F6_true {n : Int} {l more : List Int} (hn : U64 n) (hl : ∀ m ∈ l, U64 m) (hb : ∀ m ∈ more, Byte m) : F6 (n, l, more) = some true := by
  unfold F6
  simp only [F12_eq, Option.bind_some, Bool.not_true, cond_false]
  by_cases h1 : 200 < l.length
  · have : (200 : Int) < (l.length : Int) := by omega
    simp [this]
  by_cases h2 : 200 < more.length
  · have : (200 : Int) < (more.length : Int) := by omega
    simp [this]
  have g1 : ¬ (200 : Int) < (l.length : Int) := by omega
  have g2 : ¬ (200 : Int) < (more.length : Int) := by omega
  have hw := wid_le n
  have elen : (enc1 n).length = 1 + wid n := by simp [enc1, dig_len]; omega
  have e1 : (0 + (enc1 n).length) * 1 ≤ LIM := by unfold LIM; omega
  have e2 : ((enc1 n).length + more.length) * 1 ≤ LIM := by unfold LIM; omega
  have hall : ∀ d ∈ enc1 n ++ more, Byte d := fun d hd => (List.mem_append.1 hd).elim (enc1_byte hn.1 d) (hb d)
  have s1 := enc_len l
  have s2 := sizes_le l
  have hA : all1 (l.flatMap enc1) = (l, 0) := by
    unfold all1
    rw [if_neg (by omega), allS_enc l [] hl]; rfl
  have hlw : ((enc1 n).length : Int) = (wid n : Int) + 1 := by omega
  simp only [g1, g2, decide_false, cond_false, F13_one hn.1, Option.bind_some, Bool.or_true, cond_true, List.nil_append, List.length_nil, e1, e2, decide_true,
    F16_eq hall (by simp; omega), get1_enc hn.1 hn.2, F13_eq (fun m hm => (hl m hm).1) (by omega), F18_eq (encs_byte fun m hm => (hl m hm).1), hA, Bool.not_true, hlw, beq_self_eq_true, F15_eq hn.1]
  rw [show (1 : Int) + (wid n : Int) = (wid n : Int) + 1 by omega]
  simp only [decide_true, Bool.not_true, beq_self_eq_true, cond_true, F22_eq (a := l) (b := l) (by omega), Option.bind_some, cond_false, F16_eq hb (by omega)]
  have k2 := get1_ok hb (y := (get1 more).1) (m := (get1 more).2.1) (e := (get1 more).2.2) rfl
  by_cases he : (get1 more).2.2 = 0
  · rcases k2 with ⟨_, k3, k4, k5, k6, k7⟩ | ⟨k3, _⟩
    · have k8 : inb (get1 more).2.1 (more.length + 1) = true := inb_true (by omega) (by omega)
      have k9 : (1 : Int) ≤ (get1 more).2.1 := by omega
      simp only [he, decide_true, Bool.not_true, cond_false, k9, k6, cond_true, beq_self_eq_true, k8, F13_one k3, Option.bind_some, F14_eq, k7]
    · exact absurd he k3
  · rcases k2 with ⟨k3, _⟩ | ⟨_, k3, k4⟩
    · exact absurd k3 he
    · simp only [he, decide_false, Bool.not_false, cond_true, k3, k4, decide_true]
end Go.Proofs.Ytpgfkfmmnciblaa.R1
