/- Part of a proof: what the program's functions come to. -/
import Derived.Test.YtdidfddgoheomaaIRA
set_option linter.unusedVariables false
set_option linter.unusedSimpArgs false
namespace Go.Proofs.Ytdidfddgoheomaa.R2
open Go Go.Fw Go.Proofs RB
set_option maxRecDepth 20000
theorem F48_eq {l : List Int} (h : Bytes l) (h2 : 2 ≤ l.length) : F48 l = some (hlen l) := by
  unfold F48
  match l, h, h2 with
  | a :: c :: r, h, _ =>
    have h1 := h a (by simp)
    have h2 := h c (by simp)
    have r0 : rd (.int .u8) (a :: c :: r) 0 = a := rfl
    have r1 : rd (.int .u8) (a :: c :: r) 1 = c := rfl
    unfold Byte at h1 h2
    have k3 : inb 0 (a :: c :: r).length = true := inb_true (by omega) (by simp only [List.length_cons]; omega)
    have k4 : inb 1 (a :: c :: r).length = true := inb_true (by omega) (by simp only [List.length_cons]; omega)
    simp only [k3, k4, cond_true, r0, r1, hlen]
    rw [wrap_i64 (n := a) (by omega) (by omega), wrap_i64 (n := c) (by omega) (by omega), wrap_i64 (n := 256 * a) (by omega) (by omega), wrap_i64 (by omega) (by omega)]
/-- frame.Check of the document -/
theorem F25_eq {r : Rdr} (h : Bytes r.1) (hl : r.1.length ≤ 1000000) : F25 r = some (chkR r) := by
  obtain ⟨l, bad⟩ := r
  simp only at h hl
  unfold F25 chkR
  have hh := hlen_nonneg h
  simp only [both_self]
  by_cases h0 : bad = true ∧ l ≠ []
  · have h00 := List.length_pos_iff.2 h0.2
    have : (0 : Int) < (l.length : Int) := by omega
    simp [h0.1, h0.2, this, h00]
  · have hb : ((bif bad then decide ((0 : Int) < (l.length : Int)) else false) == false) = true := by
      cases bad with
      | false => rfl
      | true =>
        have : l = [] := by simpa using h0
        subst this; rfl
    simp only [hb, cond_true, h0, false_or]
    by_cases h2 : 2 ≤ l.length
    · have h2' : (2 : Int) ≤ (l.length : Int) := by omega
      simp only [h2, h2', decide_true, beq_self_eq_true, cond_true, F48_eq h h2, Option.bind_some, true_and]
      by_cases h4 : 4096 < hlen l
      · simp only [h4, decide_true, show (true == false) = false from rfl, cond_false, true_or, if_true]
      · rw [wrap_i64 (n := (l.length : Int) - 2) (by omega) (by omega)]
        by_cases h5 : 2 + hlen l ≤ l.length
        · have h5' : hlen l ≤ (l.length : Int) - 2 := by omega
          simp only [h4, h5, h5', decide_false, decide_true, beq_self_eq_true, cond_true, or_true, if_true]
        · have h5' : ¬ hlen l ≤ (l.length : Int) - 2 := by omega
          simp only [h4, h5, h5', decide_false, beq_self_eq_true, cond_true, cond_false, or_self, if_false]
    · have h2' : ¬ (2 : Int) ≤ (l.length : Int) := by omega
      simp only [h2, h2', decide_false, show (false == true) = false from rfl, cond_false, false_and, if_false]
/-- One octet more. -/
def octS (l : List Int) : Rdr × List Int × Bool :=
  if 2 ≤ l.length ∧ 4096 < hlen l then (([], true), [], false) else if 2 ≤ l.length ∧ (l.length : Int) - 2 = hlen l then (([], false), l.drop 2, true) else ((l, false), [], false)
theorem F47_eq {r : Rdr} {c : Int} (h : Bytes r.1) (hc : Byte c) (hl : r.1.length ≤ 1000000) : F47 (r, c) = some (octS (r.1 ++ [c])) := by
  have hb : Bytes (r.1 ++ [c]) := bytes_append h (by intro n hn; simp only [List.mem_singleton] at hn; subst hn; exact hc)
  have hh := hlen_nonneg hb
  have hlen' : (r.1 ++ [c]).length = r.1.length + 1 := by simp
  have k1 : (([] : List Int).length + r.1.length) * 1 ≤ LIM := by unfold LIM; simp; omega
  have k2 : (r.1.length + 1) * 1 ≤ LIM := by unfold LIM; omega
  unfold F47 octS
  simp only [List.nil_append, k1, k2, decide_true, Bool.or_true, cond_true]
  by_cases h2 : 2 ≤ (r.1 ++ [c]).length
  · have h2' : (2 : Int) ≤ ((r.1 ++ [c]).length : Int) := by omega
    have ki : inb 2 ((r.1 ++ [c]).length + 1) = true := inb_true (by omega) (by omega)
    have hw : IntKind.wrap .i64 (((r.1 ++ [c]).length : Int) - 2) = ((r.1 ++ [c]).length : Int) - 2 := wrap_i64 (by omega) (by omega)
    simp only [h2, h2', decide_true, beq_self_eq_true, cond_true, F48_eq hb h2, Option.bind_some, true_and, hw]
    by_cases h4 : 4096 < hlen (r.1 ++ [c])
    · simp only [h4, decide_true, cond_true, if_true]
    · by_cases h5 : ((r.1 ++ [c]).length : Int) - 2 = hlen (r.1 ++ [c])
      · simp only [h4, h5, decide_false, decide_true, cond_false, cond_true, if_false, if_true, ki]
        rfl
      · simp only [h4, h5, decide_false, cond_false, if_false]
  · have h2' : ¬ (2 : Int) ≤ ((r.1 ++ [c]).length : Int) := by omega
    simp only [h2, h2', decide_false, show (false == true) = false from rfl, cond_false, false_and, if_false]
theorem parse_oct {l : List Int} {c : Int} (out : List (List Int)) (h : Bytes l) (hc : Byte c) (hk : chkR (l, false) = 0) :
    parse out (l ++ [c]) = ((octS (l ++ [c])).1, if (octS (l ++ [c])).2.2 = true then out ++ [(octS (l ++ [c])).2.1] else out) := by
  have hb : Bytes (l ++ [c]) := bytes_append h (by intro n hn; simp only [List.mem_singleton] at hn; subst hn; exact hc)
  have hh := hlen_nonneg hb
  have hlen' : (l ++ [c]).length = l.length + 1 := by simp
  have hle : 2 ≤ (l ++ [c]).length → ¬ 4096 < hlen (l ++ [c]) → ((l ++ [c]).length : Int) ≤ 2 + hlen (l ++ [c]) := by
    intro h2 h4
    by_cases q : 2 ≤ l.length
    · have ha : hlen (l ++ [c]) = hlen l := hlen_app q
      unfold chkR at hk
      split at hk
      · simp at hk
      · rename_i hq
        have : ¬ 2 + hlen l ≤ (l.length : Int) := fun hx => hq (.inr ⟨q, .inr hx⟩)
        rw [ha]; omega
    · omega
  rw [parse]
  unfold octS
  generalize l ++ [c] = m at hb hh hlen' hle
  by_cases h2 : 2 ≤ m.length
  · have h2n : ¬ m.length < 2 := by omega
    simp only [h2, h2n, if_false, true_and]
    by_cases h4 : 4096 < hlen m
    · simp [h4]
    · have h6 := hle h2 h4
      by_cases h5 : (m.length : Int) - 2 = hlen m
      · have h3 : ¬ (m.length : Int) < 2 + hlen m := by omega
        have h7 : 0 ≤ hlen m ∧ 2 ≤ m.length := ⟨hh.1, h2⟩
        have h8 : (2 + hlen m).toNat = m.length := by omega
        simp only [h4, h3, h7, h5, if_false, if_true, and_self, dite_true, h8, List.take_length, List.drop_length, parse_nil]
      · have h3 : (m.length : Int) < 2 + hlen m := by omega
        simp [h4, h3, h5]
  · have h2n : m.length < 2 := by omega
    simp [h2, h2n]
/-- frame.Feed of the document -/
theorem F21_eq {r : Rdr} {b : List Int} (hr : Bytes r.1) (hb : Bytes b) (hl : r.1.length ≤ 100000) : F21 (r, b) = some (feedS r b) := by
  unfold F21 feedS
  simp only [Prod.eta, F25_eq hr (by omega), Option.bind_some]
  by_cases h1 : chkR r = 0
  · simp only [h1, decide_true, Bool.not_true, cond_false, ne_eq, not_true_eq_false, if_false]
    by_cases h2 : 65535 < b.length
    · have : (65535 : Int) < (b.length : Int) := by omega
      simp [h2, this]
    · have h2' : ¬ (65535 : Int) < (b.length : Int) := by omega
      simp only [h2', decide_false, cond_false, h2, if_false, both_self, List.nil_append, Bool.or_true, cond_true]
      let P : Nat → Rdr × List (List Int) := fun i => feedR (r, []) (b.take i)
      have hP : ∀ i, chkR (P i).1 = 0 ∧ Bytes (P i).1.1 ∧ (P i).1.1.length + (P i).2.length ≤ 200000 := by
        intro i
        by_cases hbad : r.2 = true
        · have : P i = (r, []) := by
            show feedR (r, []) (b.take i) = _
            unfold feedR; rw [if_pos hbad]
          rw [this]; exact ⟨h1, hr, by simp only [List.length_nil]; omega⟩
        · have : P i = parse [] (r.1 ++ b.take i) := by
            show feedR (r, []) (b.take i) = _
            unfold feedR; rw [if_neg hbad]
          rw [this]
          obtain ⟨p1, p2, p3⟩ := parse_chk _ (r.1 ++ b.take i) [] (Nat.le_refl _) (bytes_append hr (bytes_take hb i))
          refine ⟨p1, p2, ?_⟩
          simp only [List.length_append, List.length_take, List.length_nil] at p3
          omega
      have hs : ∀ (i : Nat) (h : i < b.length), P (i + 1) = feedR (P i) [b[i]] := by
        intro i h
        show feedR (r, []) (b.take (i + 1)) = feedR (feedR (r, []) (b.take i)) [b[i]]
        rw [List.take_succ_eq_append_getElem h]
        unfold feedR
        by_cases hbad : r.2 = true
        · simp only [hbad, if_true]
        · simp only [hbad, if_false]
          rw [← List.append_assoc, parse_append _ (r.1 ++ b.take i) [b[i]] [] (Nat.le_refl _) (bytes_append hr (bytes_take hb i))]
          rfl
      have hbadP : ∀ (i j : Nat), i ≤ j → j ≤ b.length → (P i).1.2 = true → P j = P i := by
        intro i j hij hj hbd
        induction j with
        | zero => have : i = 0 := by omega
                  subst this; rfl
        | succ j ih =>
          by_cases q : i = j + 1
          · subst q; rfl
          · have := ih (by omega) (by omega)
            rw [hs j (by omega), this]
            unfold feedR
            rw [if_pos hbd]
      have hfin : (if r.2 = true then (r, ([] : List (List Int)), (0 : Int)) else ((parse [] (r.1 ++ b)).1, (parse [] (r.1 ++ b)).2, 0)) = ((P b.length).1, (P b.length).2, 0) := by
        show _ = ((feedR (r, []) (b.take b.length)).1, (feedR (r, []) (b.take b.length)).2, 0)
        rw [List.take_length]
        unfold feedR
        by_cases hbad : r.2 = true
        · simp only [hbad, if_true]
        · simp only [hbad, if_false]
          rfl
      rw [hfin]
      have h00 : P 0 = (r, []) := by
        show feedR (r, []) (b.take 0) = (r, [])
        unfold feedR
        by_cases hbad : r.2 = true
        · simp only [hbad, if_true]
        · have hf : r.2 = false := by simpa using hbad
          rw [if_neg hbad, List.take_zero, List.append_nil, chk_stays h1 hf]
          exact Prod.ext (Prod.ext rfl hf.symm) rfl
      refine lfp_rule (fun (x : List (List Int) × Int × Rdr) => ∃ i : Nat, x.2.1 = (i : Int) ∧ i ≤ b.length ∧ x.1 = (P i).2 ∧ x.2.2 = (P i).1) (fun x => b.length - x.2.1.toNat) (fun _ => ((P b.length).1, (P b.length).2, 0)) ?_ (([] : List (List Int)), 0, r) ⟨0, rfl, by omega, by rw [h00], by rw [h00]⟩
      rintro ⟨o, i', q⟩ ⟨i, hi', hi, ho, hq⟩ rec hrec
      simp only at hi' ho hq
      subst hi'; subst ho; subst hq
      obtain ⟨p1, p2, p3⟩ := hP i
      have k1 : (([] : List Int).length + (P i).1.1.length) * 1 ≤ LIM := by unfold LIM; simp only [List.length_nil]; omega
      have k2 : ((P i).2.length + 1) * 24 ≤ LIM := by unfold LIM; omega
      simp only
      by_cases hlt : i < b.length
      · have c1 : ((i : Int) < (b.length : Int)) := by omega
        simp only [c1, decide_true, cond_true, inb_true (Int.natCast_nonneg i) c1, rd_nat (t := .int .u8) hlt, k1, k2]
        cases hbd : (P i).1.2 with
        | true =>
          simp only [cond_true]
          rw [hbadP i b.length (by omega) (Nat.le_refl _) hbd, ← hbd]
        | false =>
          simp only [cond_false]
          have hc : Byte b[i] := hb _ (List.getElem_mem hlt)
          rw [F47_eq p2 hc (by omega), Option.bind_some]
          have hst : P (i + 1) = ((octS ((P i).1.1 ++ [b[i]])).1, if (octS ((P i).1.1 ++ [b[i]])).2.2 = true then (P i).2 ++ [(octS ((P i).1.1 ++ [b[i]])).2.1] else (P i).2) := by
            rw [hs i hlt]
            unfold feedR
            rw [if_neg (by simp [hbd])]
            exact parse_oct _ p2 hc (by rw [show ((P i).1.1, false) = (P i).1 by rw [← hbd]]; exact p1)
          rw [wrap_i64 (n := (i : Int) + 1) (by omega) (by omega)]
          cases hw : (octS ((P i).1.1 ++ [b[i]])).2.2 with
          | true =>
            rw [hw] at hst
            simp only [if_true] at hst
            simp only [cond_true]
            exact hrec _ ⟨i + 1, by simp, by omega, by rw [hst], by rw [hst]⟩ (by simp only; omega)
          | false =>
            rw [hw] at hst
            simp only [Bool.false_eq_true, if_false] at hst
            simp only [cond_false]
            exact hrec _ ⟨i + 1, by simp, by omega, by rw [hst], by rw [hst]⟩ (by simp only; omega)
      · have c1 : ¬ ((i : Int) < (b.length : Int)) := by omega
        have : i = b.length := by omega
        subst this
        simp only [c1, decide_false, cond_false, k1, decide_true, cond_true]
  · simp [h1]
end Go.Proofs.Ytdidfddgoheomaa.R2
