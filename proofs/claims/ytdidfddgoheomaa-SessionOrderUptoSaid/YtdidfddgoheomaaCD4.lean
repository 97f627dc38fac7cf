/- Part of a proof: what the program's functions come to. -/
import Derived.Test.YtdidfddgoheomaaCD3
set_option linter.unusedVariables false
set_option linter.unusedSimpArgs false
namespace Go.Proofs.Ytdidfddgoheomaa.R2
open Go Go.Fw Go.Proofs RB
theorem F19_any (b : List Int) : F19 b = some (putF b) := by
  by_cases h : b.length ≤ 1000000
  · exact F19_eq h
  · unfold F19 putF
    have h1 : 4096 < b.length := by omega
    have : (4096 : Int) < (b.length : Int) := by omega
    simp [h1, this]
theorem putF_ok {b : List Int} (h : b.length ≤ 4096) : putF b = ([(b.length : Int) / 256, (b.length : Int) % 256] ++ b, 0) := by
  unfold putF; rw [if_neg (by omega)]
theorem putF_bytes {b : List Int} (hb : Bytes b) : Bytes (putF b).1 := by
  unfold putF
  split
  · intro n hn; simp at hn
  · intro n hn
    rename_i h
    simp only [List.cons_append, List.nil_append, List.mem_cons] at hn
    rcases hn with rfl | rfl | hn
    · exact ⟨by omega, by omega⟩
    · exact ⟨by omega, by omega⟩
    · exact hb n hn
theorem parse_frame {f : List Int} (hf : f.length ≤ 4096) (m : List Int) (out : List (List Int)) : parse out ((putF f).1 ++ m) = parse (out ++ [f]) m := by
  rw [putF_ok hf, parse]
  have hh : hlen (([(f.length : Int) / 256, (f.length : Int) % 256] ++ f) ++ m) = f.length := by simp [hlen] <;> omega
  have e1 : ¬ (([(f.length : Int) / 256, (f.length : Int) % 256] ++ f) ++ m).length < 2 := by simp <;> omega
  have e2 : ¬ (4096 : Int) < (f.length : Int) := by omega
  have e3 : ¬ ((([(f.length : Int) / 256, (f.length : Int) % 256] ++ f) ++ m).length : Int) < 2 + (f.length : Int) := by simp <;> omega
  have e4 : (0 : Int) ≤ (f.length : Int) ∧ 2 ≤ (([(f.length : Int) / 256, (f.length : Int) % 256] ++ f) ++ m).length := ⟨by omega, by simp <;> omega⟩
  simp only [hh, e1, e2, e3, if_false, e4, and_self, dite_true]
  have hn : (2 + (f.length : Int)).toNat = f.length + 2 := by omega
  rw [hn]
  simp
theorem parse_each : ∀ (n : Nat) (l : List Int) (out : List (List Int)), l.length ≤ n → ∀ f ∈ (parse out l).2, f ∈ out ∨ f.length ≤ 4096 := by
  intro n
  induction n with
  | zero =>
    intro l out h f hf
    have : l = [] := List.length_eq_zero_iff.1 (by omega)
    subst this
    rw [parse_nil] at hf; exact .inl hf
  | succ n ih =>
    intro l out h f hf
    rw [parse] at hf
    split at hf
    · exact .inl hf
    · split at hf
      · exact .inl hf
      · split at hf
        · exact .inl hf
        · split at hf
          · rename_i c1 c2 c3 c4
            rcases ih _ _ (by rw [List.length_drop]; omega) f hf with h1 | h1
            · rcases List.mem_append.1 h1 with h1 | h1
              · exact .inl h1
              · right
                simp only [List.mem_singleton] at h1
                subst h1
                simp only [List.length_drop, List.length_take]
                omega
            · exact .inr h1
          · exact .inl hf
theorem feed_chk {r : Rdr} {b : List Int} (hr : Bytes r.1) (hb : Bytes b) (h : chkR r = 0) : (feedS r b).2.2 = 0 → chkR (feedS r b).1 = 0 ∧ Bytes (feedS r b).1.1 ∧ (feedS r b).2.1.length ≤ r.1.length + b.length ∧ ∀ f ∈ (feedS r b).2.1, f.length ≤ 4096 := by
  unfold feedS
  rw [if_neg (by simpa using h)]
  split
  · simp
  · split
    · intro _; exact ⟨h, hr, by simp, by simp⟩
    · intro _
      have hc := parse_chk _ (r.1 ++ b) [] (Nat.le_refl _) (bytes_append hr hb)
      refine ⟨hc.1, hc.2.1, ?_, fun f hf => ?_⟩
      · have := hc.2.2; simp at this ⊢; omega
      · rcases parse_each _ (r.1 ++ b) [] (Nat.le_refl _) f hf with h1 | h1
        · simp at h1
        · exact h1
open Classical in
noncomputable def hearS (s : Ses) (b : List Int) : Ses × Int × Int :=
  if redS s ≠ 0 then (nulS, 0, redS s) else if (feedS (s.2.1, s.2.2.1) b).2.2 ≠ 0 then (nulS, 0, (feedS (s.2.1, s.2.2.1) b).2.2)
  else if 8 < s.2.2.2.1.length + (feedS (s.2.1, s.2.2.1) b).2.1.length then (nulS, 0, 7)
  else ((s.1, ((feedS (s.2.1, s.2.2.1) b).1.1, ((feedS (s.2.1, s.2.2.1) b).1.2, (s.2.2.2.1 ++ (feedS (s.2.1, s.2.2.1) b).2.1, s.2.2.2.2)))), ((feedS (s.2.1, s.2.2.1) b).2.1.length : Int), 0)
theorem F33_eq {s : Ses} {b : List Int} (hb : Bytes s.2.1) (hbb : Bytes b) (hl : s.2.2.2.1.length ≤ 9223372036854775807) : F33 (s, b) = some (hearS s b) := by
  unfold F33 hearS
  simp only [Prod.eta, F49_eq hb hl, Option.bind_some]
  by_cases h1 : redS s = 0
  · obtain ⟨ok, hlive⟩ := okS_of h1
    simp only [h1, decide_true, Bool.not_true, cond_false, ne_eq, not_true_eq_false, if_false, F13_eq (r := (s.2.1, s.2.2.1)) hb hbb (by have := ok.buf; simp only; omega), Option.bind_some]
    by_cases h2 : (feedS (s.2.1, s.2.2.1) b).2.2 = 0
    · have hf := feed_chk (r := (s.2.1, s.2.2.1)) hb hbb ok.rdr h2
      have hbl : b.length ≤ 65535 := by
        apply Classical.byContradiction; intro hn
        unfold feedS at h2
        rw [if_neg (by simpa using ok.rdr), if_pos (by omega)] at h2
        simp at h2
      have h3l : (feedS (s.2.1, s.2.2.1) b).2.1.length ≤ s.2.1.length + b.length := hf.2.2.1
      have h3b := ok.buf
      have h3f := ok.fr
      simp only [h2, decide_true, Bool.not_true, cond_false, not_true_eq_false, if_false]
      rw [wrap_i64 (by omega) (by omega)]
      by_cases h4 : 8 < s.2.2.2.1.length + (feedS (s.2.1, s.2.2.1) b).2.1.length
      · have h4' : (8 : Int) < (s.2.2.2.1.length : Int) + ((feedS (s.2.1, s.2.2.1) b).2.1.length : Int) := by omega
        simp only [h4, h4', decide_true, cond_true, if_true]; rfl
      · have h4' : ¬ (8 : Int) < (s.2.2.2.1.length : Int) + ((feedS (s.2.1, s.2.2.1) b).2.1.length : Int) := by omega
        have k : (s.2.2.2.1.length + (feedS (s.2.1, s.2.2.1) b).2.1.length) * 24 ≤ LIM := by unfold LIM; omega
        simp only [h4, h4', decide_false, cond_false, if_false, F51_eq ok, Option.bind_some, both_self, k, decide_true, cond_true]
    · simp only [h2, decide_false, Bool.not_false, cond_true, not_false_eq_true, if_true]; rfl
  · simp only [h1, decide_false, Bool.not_false, cond_true, ne_eq, not_false_eq_true, if_true]; rfl
open Classical in
noncomputable def nextS (s : Ses) : List Int × Ses × Int :=
  if redS s ≠ 0 then ([], nulS, redS s) else match s.2.2.2.1 with
  | [] => ([], nulS, 5)
  | f :: r => (f, (s.1, (s.2.1, (s.2.2.1, (r, s.2.2.2.2)))), 0)
theorem F35_eq {s : Ses} (hb : Bytes s.2.1) (hl : s.2.2.2.1.length ≤ 9223372036854775807) : F35 s = some (nextS s) := by
  unfold F35 nextS
  simp only [Prod.eta, F49_eq hb hl, Option.bind_some]
  by_cases h1 : redS s = 0
  · obtain ⟨ok, hlive⟩ := okS_of h1
    simp only [h1, decide_true, Bool.not_true, cond_false, ne_eq, not_true_eq_false, if_false, F51_eq ok, Option.bind_some]
    obtain ⟨a, b, c, d, e⟩ := s
    cases d with
    | nil => simp [nulS]
    | cons f r =>
      have h2 : ¬ (((f :: r).length : Nat) : Int) = 0 := by simp <;> omega
      simp only [h2, decide_false, cond_false]
      rw [inb_true (by omega) (by simp <;> omega), inb_true (by omega) (by simp <;> omega)]
      simp [rd]
  · simp only [h1, decide_false, Bool.not_false, cond_true, ne_eq, not_false_eq_true, if_true]; rfl
open Classical in
noncomputable def sayS (s : Ses) (b : List Int) : Ses × Int :=
  if redS s ≠ 0 then (nulS, redS s) else if (putF b).2 ≠ 0 then (nulS, (putF b).2) else if 16384 < s.2.2.2.2.length + (putF b).1.length then (nulS, 7)
  else ((s.1, (s.2.1, (s.2.2.1, (s.2.2.2.1, s.2.2.2.2 ++ (putF b).1)))), 0)
theorem putF_len (b : List Int) : (putF b).1.length ≤ 4098 := by
  unfold putF; split
  · simp
  · simp; omega
theorem F40_eq {s : Ses} {b : List Int} (hb : Bytes s.2.1) (hl : s.2.2.2.1.length ≤ 9223372036854775807) : F40 (s, b) = some (sayS s b) := by
  unfold F40 sayS
  simp only [Prod.eta, F49_eq hb hl, F19_any, Option.bind_some]
  by_cases h1 : redS s = 0
  · obtain ⟨ok, hlive⟩ := okS_of h1
    simp only [h1, decide_true, Bool.not_true, cond_false, ne_eq, not_true_eq_false, if_false]
    by_cases h2 : (putF b).2 = 0
    · have hp := putF_len b
      have ho := ok.out
      simp only [h2, decide_true, Bool.not_true, cond_false, not_true_eq_false, if_false]
      rw [wrap_i64 (by omega) (by omega)]
      by_cases h4 : 16384 < s.2.2.2.2.length + (putF b).1.length
      · have h4' : (16384 : Int) < (s.2.2.2.2.length : Int) + ((putF b).1.length : Int) := by omega
        simp only [h4, h4', decide_true, cond_true, if_true]; rfl
      · have h4' : ¬ (16384 : Int) < (s.2.2.2.2.length : Int) + ((putF b).1.length : Int) := by omega
        have k : (s.2.2.2.2.length + (putF b).1.length) * 1 ≤ LIM := by unfold LIM; omega
        simp only [h4, h4', decide_false, cond_false, if_false, F51_eq ok, Option.bind_some, k, decide_true, cond_true]
    · simp only [h2, decide_false, Bool.not_false, cond_true, not_false_eq_true, if_true]; rfl
  · simp only [h1, decide_false, Bool.not_false, cond_true, ne_eq, not_false_eq_true, if_true]; rfl
open Classical in
noncomputable def takeS (s : Ses) (n : Nat) : List Int × Ses × Int :=
  if redS s ≠ 0 then ([], nulS, redS s) else (s.2.2.2.2.take n, (s.1, (s.2.1, (s.2.2.1, (s.2.2.2.1, s.2.2.2.2.drop n)))), 0)
theorem F41_eq {s : Ses} {n : Nat} (hb : Bytes s.2.1) (hl : s.2.2.2.1.length ≤ 9223372036854775807) : F41 (s, (n : Int)) = some (takeS s n) := by
  unfold F41 takeS
  have h0 : ¬ (n : Int) < 0 := by omega
  simp only [Prod.eta, h0, decide_false, cond_false, F49_eq hb hl, Option.bind_some]
  by_cases h1 : redS s = 0
  · obtain ⟨ok, hlive⟩ := okS_of h1
    simp only [h1, decide_true, Bool.not_true, cond_false, ne_eq, not_true_eq_false, if_false, F51_eq ok, Option.bind_some]
    have ho := ok.out
    by_cases hlt : (s.2.2.2.2.length : Int) < (n : Int)
    · simp only [hlt, if_true]
      rw [inb_true (i := (s.2.2.2.2.length : Int)) (by omega) (by omega)]
      simp only [cond_true, Int.toNat_natCast, List.take_length, List.drop_length, F45_eq (l := s.2.2.2.2) (by omega), Option.bind_some]
      rw [List.take_of_length_le (by omega), List.drop_of_length_le (by omega)]
    · simp only [hlt, if_false]
      rw [inb_true (i := (n : Int)) (by omega) (by omega)]
      have : (s.2.2.2.2.take n).length ≤ 1000000 := by rw [List.length_take]; omega
      simp only [cond_true, Int.toNat_natCast, F45_eq this, Option.bind_some]
  · simp only [h1, decide_false, Bool.not_false, cond_true, ne_eq, not_false_eq_true, if_true]; rfl
theorem ok_up : OkS upS := ⟨by simp [upS], by simp [upS], by simp [upS], by simp [upS], by simp [upS, chkR]⟩
theorem chk_nul : chkS nulS = 0 := by unfold chkS; simp [nulS, longF, chkR]
theorem red_nul : redS nulS = 14 := by unfold redS; simp [chk_nul]; simp [nulS]
theorem red_up : redS upS = 0 := red_of ok_up rfl
theorem up_nul : F29 nulS = some (upS, 0) := by
  rw [F29_eq (by intro n hn; simp [nulS] at hn) (by simp [nulS])]
  simp [upT, red_nul]
theorem parse_zeros : ∀ (k : Nat) (out : List (List Int)), parse out (List.replicate (2 * k) 0) = (([], false), out ++ List.replicate k [])
  | 0, out => by simp [parse_nil]
  | k + 1, out => by
    have : List.replicate (2 * (k + 1)) (0 : Int) = (putF []).1 ++ List.replicate (2 * k) 0 := by
      rw [putF_ok (by simp), show 2 * (k + 1) = 2 * k + 1 + 1 by omega, List.replicate_succ, List.replicate_succ]; rfl
    rw [this, parse_frame (by simp), parse_zeros k]
    simp [List.replicate_succ]
theorem F26_eq : F26 () = some true := by
  have hbz : ∀ n, Bytes (List.replicate n 0) := fun n m hm => by have := (List.mem_replicate.1 hm).2; subst this; exact ⟨by omega, by omega⟩
  have hu : Bytes upS.2.1 := by intro n hn; simp [upS] at hn
  have h18 : F33 (upS, List.replicate 18 0) = some (nulS, 0, 7) := by
    rw [F33_eq hu (hbz _) (by simp [upS])]
    unfold hearS
    have e : feedS (upS.2.1, upS.2.2.1) (List.replicate 18 0) = (([], false), List.replicate 9 [], 0) := by
      unfold feedS
      simp only [upS, List.nil_append, parse_zeros 9 []]
      simp [chkR]
    rw [red_up, e]
    simp [upS]
  have h16 : F33 (upS, List.replicate 16 0) = some ((true, ([], (false, (List.replicate 8 [], [])))), 8, 0) := by
    rw [F33_eq hu (hbz _) (by simp [upS])]
    unfold hearS
    have e : feedS (upS.2.1, upS.2.2.1) (List.replicate 16 0) = (([], false), List.replicate 8 [], 0) := by
      unfold feedS
      simp only [upS, List.nil_append, parse_zeros 8 []]
      simp [chkR]
    rw [red_up, e]
    simp [upS]
  unfold F26
  rw [show ((false, ([], (false, ([], [])))) : Ses) = nulS from rfl]
  simp only [both_self, Prod.eta, up_nul, Option.bind_some, show (18 : Int).toNat = 18 from rfl, show (16 : Int).toNat = 16 from rfl, h18, h16]
  simp [LIM]
def big1 (f : List Int) : Bool := (bif (bif decide (300 < (f.length : Int)) then decide ((f.length : Int) < 4096) else false) then true else decide (4100 < (f.length : Int)))
theorem F27_eq {s : Ses} (hl : s.2.2.2.1.length ≤ 9223372036854775807) : ∃ c, F27 s = some c := by
  refine ⟨(s.2.2.2.1.all fun f => !big1 f) && (bif ((bif decide ((s.2.2.2.1.length : Int) ≤ 12) then decide ((s.2.1.length : Int) ≤ 300) else false) == true) then (
  bif (decide ((s.2.2.2.2.length : Int) ≤ 600) == false) then (
  (bif decide (16300 ≤ (s.2.2.2.2.length : Int)) then decide ((s.2.2.2.2.length : Int) ≤ 16400) else false))
  else true)
  else false), ?_⟩
  unfold F27
  refine lfp_rule (fun x => ∃ i : Nat, x.2 = (i : Int) ∧ i ≤ s.2.2.2.1.length ∧ ((s.2.2.2.1.take i).all fun r => !big1 r) = true) (fun x => s.2.2.2.1.length - x.2.toNat)
    (fun _ => _) ?_ (false, 0) ⟨0, rfl, by omega, by simp⟩
  rintro ⟨q, i'⟩ ⟨i, hi', hi, hA⟩ rec hrec
  simp only at hi'
  subst hi'
  simp only
  by_cases hlt : i < s.2.2.2.1.length
  · have k1 : ((i : Int) < (s.2.2.2.1.length : Int)) := by omega
    simp only [k1, decide_true, cond_true, inb_true (Int.natCast_nonneg i) k1, rd_nat (t := .slice 5 (.int .u8)) hlt]
    rw [← big1]
    cases hb : big1 s.2.2.2.1[i] with
    | true =>
      simp only [cond_true, Option.some.injEq]
      symm
      rw [Bool.and_eq_false_iff]
      left
      rw [List.all_eq_false]
      exact ⟨_, List.getElem_mem hlt, by simp [hb]⟩
    | false =>
      simp only [cond_false]
      rw [wrap_i64 (n := (i : Int) + 1) (by omega) (by omega)]
      refine hrec _ ⟨i + 1, by simp, by omega, ?_⟩ (by simp only; omega)
      rw [List.take_succ_eq_append_getElem hlt, List.all_append, hA]
      simp [hb]
  · have k1 : ¬ ((i : Int) < (s.2.2.2.1.length : Int)) := by omega
    have : i = s.2.2.2.1.length := by omega
    subst this
    rw [List.take_length] at hA
    simp only [k1, decide_false, cond_false, hA, Bool.true_and]
    cases (bif decide ((s.2.2.2.1.length : Int) ≤ 12) then decide ((s.2.1.length : Int) ≤ 300) else false) <;> cases decide ((s.2.2.2.2.length : Int) ≤ 600) <;> rfl
end Go.Proofs.Ytdidfddgoheomaa.R2
