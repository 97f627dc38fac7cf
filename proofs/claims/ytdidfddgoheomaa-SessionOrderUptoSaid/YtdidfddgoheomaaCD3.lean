/- Part of a proof: what the program's functions come to. -/
import Derived.Test.YtdidfddgoheomaaCD2
set_option linter.unusedVariables false
set_option linter.unusedSimpArgs false
namespace Go.Proofs.Ytdidfddgoheomaa.R2
open Go Go.Fw Go.Proofs RB
abbrev Ses := Bool × (List Int × (Bool × (List (List Int) × List Int)))
def nulS : Ses := (false, ([], (false, ([], []))))
def upS : Ses := (true, ([], (false, ([], []))))
def longF (l : List (List Int)) : Bool := l.any fun f => decide (4096 < f.length)
open Classical in
noncomputable def chkS (s : Ses) : Int := if (s.1 = false ∧ s ≠ nulS) ∨ 8 < s.2.2.2.1.length ∨ 16384 < s.2.2.2.2.length ∨ longF s.2.2.2.1 = true then 1 else chkR (s.2.1, s.2.2.1)
open Classical in
noncomputable def redS (s : Ses) : Int := if chkS s ≠ 0 ∨ s.1 = true then chkS s else 14
def idx : List (List Int) → Nat → Int
  | [], _ => -1
  | a :: r, i => if 4096 < a.length then (i : Int) else idx r (i + 1)
theorem idx_long : ∀ (l : List (List Int)) (i : Nat), decide (0 ≤ idx l i) = longF l
  | [], i => rfl
  | a :: r, i => by
    by_cases h : 4096 < a.length
    · simp [idx, longF, h]
    · simp only [idx, h, if_false, idx_long r (i + 1)]; simp [longF, h]
theorem F53_eq {l : List (List Int)} (hl : l.length ≤ 9223372036854775807) : F53052 (l, ()) = some (longF l) := by
  have e : F58052 (l, ()) = some (idx l 0) := by
    unfold F58052
    have := lfp_rule (B := (fun (rec1 : (Int × Int) → Option Int) (x1 : Int × Int) =>
      bif decide (x1.2 < (l.length : Int)) then (
      bif inb x1.2 l.length then
      (F52 (rd (.slice 5 (.int .u8)) l x1.2)).bind fun r2 =>
      bif r2 then (
      some x1.2)
      else (
      rec1 (x1.1, (IntKind.wrap .i64 (x1.2 + 1))))
      else none)
      else (
      some (-1)))) (fun x => ∃ i : Nat, x.2 = (i : Int) ∧ i ≤ l.length) (fun x => l.length - x.2.toNat) (fun x => idx (l.drop x.2.toNat) x.2.toNat) ?_ (0, 0) ⟨0, rfl, by omega⟩
    · simpa using this
    rintro ⟨q, i'⟩ ⟨i, hi', hi⟩ rec hrec
    simp only at hi'
    subst hi'
    simp only [Int.toNat_natCast]
    by_cases hlt : i < l.length
    · have k1 : ((i : Int) < (l.length : Int)) := by omega
      simp only [k1, decide_true, cond_true, inb_true (Int.natCast_nonneg i) k1, rd_nat (t := .slice 5 (.int .u8)) hlt, F52, Option.bind_some]
      rw [List.drop_eq_getElem_cons hlt]
      by_cases c : 4096 < l[i].length
      · have c' : (4096 : Int) < (l[i].length : Int) := by omega
        simp only [c', decide_true, cond_true, idx, c, if_true]
      · have c' : ¬ (4096 : Int) < (l[i].length : Int) := by omega
        simp only [c', decide_false, cond_false, idx, c, if_false]
        rw [wrap_i64 (n := (i : Int) + 1) (by omega) (by omega)]
        have := hrec (q, (i : Int) + 1) ⟨i + 1, by simp, by omega⟩ (by simp only; omega)
        rw [this]
        simp only
        rw [show ((i : Int) + 1).toNat = i + 1 by omega]
    · have k1 : ¬ ((i : Int) < (l.length : Int)) := by omega
      have : l.drop i = [] := List.drop_of_length_le (by omega)
      simp only [k1, decide_false, cond_false, this, idx]
  unfold F53052
  simp only [e, Option.bind_some, idx_long]
theorem F46_eq (a b : List Int) : F46 (a, b) = some (decide (a = b)) := rfl
theorem F54_eq {a b : List (List Int)} (hl : b.length ≤ 4611686018427387904) : F54046 (a, b, ()) = some (decide (a = b)) := by
  unfold F54046
  simp only
  by_cases hn : a.length = b.length
  · have e0 : (a.length : Int) = (b.length : Int) := by omega
    simp only [e0, decide_true, Bool.not_true, cond_false]
    rw [← e0]
    exact same_loop (t := .slice 5 (.int .u8)) (a := a) (b := b) (by omega) hn (G := fun x y K => (F46 (x, y)).bind K) (fun i h1 h2 K => by simp only [F46_eq, Option.bind_some])
  · have e0 : ¬ (a.length : Int) = (b.length : Int) := by omega
    simp only [e0, decide_false, Bool.not_false, cond_true, Option.some.injEq]
    symm; rw [decide_eq_false_iff_not]
    intro hab; subst hab; exact hn rfl
theorem F42_eq {s t : Ses} (hl : t.2.2.2.1.length ≤ 4611686018427387904) : F42 (s, t) = some (decide (s = t)) := by
  obtain ⟨a, b, c, d, e⟩ := s
  obtain ⟨a', b', c', d', e'⟩ := t
  unfold F42
  simp only [F16_eq, F54_eq hl, F46_eq, Option.bind_some]
  by_cases h1 : a = a'
  · by_cases h2 : (b, c) = (b', c')
    · by_cases h3 : d = d'
      · by_cases h4 : e = e'
        · simp only [Prod.mk.injEq] at h2; simp [h1, h2, h3, h4]
        · simp only [Prod.mk.injEq] at h2; simp [h1, h2, h3, h4]
      · simp only [Prod.mk.injEq] at h2; simp [h1, h2, h3]
    · have h2' : ¬ (b = b' ∧ c = c') := by simpa using h2
      have : ¬ ((b, c, d, e) = (b', c', d', e')) := by simp only [Prod.mk.injEq]; intro q; exact h2' ⟨q.1, q.2.1⟩
      simp [h1, h2', h2, this]
  · have : (a == a') = false := by simpa using h1
    simp [h1, this]
theorem F39_eq {s : Ses} (hb : Bytes s.2.1) (hl : s.2.2.2.1.length ≤ 9223372036854775807) : F39 s = some (chkS s) := by
  unfold F39
  rw [show ((false, ([], (false, ([], [])))) : Ses) = nulS from rfl]
  simp only [Prod.eta, F42_eq (s := s) (t := nulS) (by simp [nulS]), F14_eq (r := (s.2.1, s.2.2.1)) hb, F53_eq hl, Option.bind_some]
  unfold chkS
  have e8 : decide (8 < (s.2.2.2.1.length : Int)) = decide (8 < s.2.2.2.1.length) := by apply decide_eq_decide.2; omega
  have e16 : decide (16384 < (s.2.2.2.2.length : Int)) = decide (16384 < s.2.2.2.2.length) := by apply decide_eq_decide.2; omega
  rw [e8, e16]
  cases h1 : s.1 with
  | true =>
    by_cases h2 : 8 < s.2.2.2.1.length <;> by_cases h3 : 16384 < s.2.2.2.2.length <;> cases h4 : longF s.2.2.2.1 <;> simp [h2, h3, h4]
  | false =>
    by_cases h0 : s = nulS
    · have q : (s = nulS) = True := eq_true h0
      clear h0
      by_cases h2 : 8 < s.2.2.2.1.length <;> by_cases h3 : 16384 < s.2.2.2.2.length <;> cases h4 : longF s.2.2.2.1 <;> simp [q, h2, h3, h4]
    · by_cases h2 : 8 < s.2.2.2.1.length <;> by_cases h3 : 16384 < s.2.2.2.2.length <;> cases h4 : longF s.2.2.2.1 <;> simp [h0, h2, h3, h4]
theorem F49_eq {s : Ses} (hb : Bytes s.2.1) (hl : s.2.2.2.1.length ≤ 9223372036854775807) : F49 s = some (redS s) := by
  unfold F49 redS
  simp only [Prod.eta, F39_eq hb hl, Option.bind_some]
  by_cases h : chkS s = 0 <;> cases h1 : s.1 <;> simp [h, h1]
structure OkS (s : Ses) : Prop where
  fr : s.2.2.2.1.length ≤ 8
  out : s.2.2.2.2.length ≤ 16384
  each : ∀ f ∈ s.2.2.2.1, f.length ≤ 4096
  buf : s.2.1.length ≤ 5000
  rdr : chkR (s.2.1, s.2.2.1) = 0
theorem chkR_len {r : Rdr} (h : chkR r = 0) : r.1.length ≤ 5000 := by
  unfold chkR at h
  by_cases c : (r.2 = true ∧ r.1 ≠ []) ∨ (2 ≤ r.1.length ∧ (4096 < hlen r.1 ∨ 2 + hlen r.1 ≤ r.1.length))
  · rw [if_pos c] at h; simp at h
  · simp only [not_or, not_and, Decidable.not_not] at c
    by_cases h2 : 2 ≤ r.1.length
    · have := c.2 h2; omega
    · omega
theorem okS_of {s : Ses} (h : redS s = 0) : OkS s ∧ s.1 = true := by
  unfold redS at h
  split at h
  · rename_i c
    unfold chkS at h
    split at h
    · simp at h
    · rename_i d
      simp only [not_or, not_and] at d
      have e : s.1 = true := by
        rcases c with c | c
        · exfalso; apply c; unfold chkS; rw [if_neg (by simp only [not_or, not_and]; exact d)]; exact h
        · exact c
      refine ⟨⟨by omega, by omega, fun f hf => ?_, chkR_len h, h⟩, e⟩
      have := d.2.2.2
      simp only [longF, List.any_eq_true, decide_eq_true_eq, not_exists, not_and] at this
      have := this f hf
      omega
  · simp at h
theorem red_of {s : Ses} (h : OkS s) (h1 : s.1 = true) : redS s = 0 := by
  have hn : ¬ ((s.1 = false ∧ s ≠ nulS) ∨ 8 < s.2.2.2.1.length ∨ 16384 < s.2.2.2.2.length ∨ longF s.2.2.2.1 = true) := by
    rintro (h2 | h2 | h2 | h2)
    · rw [h1] at h2; simp at h2
    · have := h.fr; omega
    · have := h.out; omega
    · simp only [longF, List.any_eq_true, decide_eq_true_eq] at h2
      obtain ⟨f, hf, h3⟩ := h2
      have := h.each f hf; omega
  have hc : chkS s = 0 := by unfold chkS; rw [if_neg hn]; exact h.rdr
  unfold redS
  rw [if_pos (.inr h1), hc]
theorem F57_eq {l : List (List Int)} (h : l.length ≤ 1000000) : F57 l = some l := by
  unfold F57
  have k : (([] : List (List Int)).length + l.length) * 24 ≤ LIM := by unfold LIM; simp; omega
  simp only [k, decide_true, cond_true, List.nil_append]
  cases l with
  | nil => simp [both_self]
  | cons a r => rfl
theorem own_loop {R : Type} {l : List (List Int)} {G : List (List Int) → R} (hV : ∀ r ∈ l, r.length ≤ 1000000) (hl : l.length ≤ 1000000) :
    lfp (fun (rec4 : (Int × List (List Int)) → Option R) (x4 : Int × List (List Int)) =>
  bif decide (x4.1 < (l.length : Int)) then (
  bif inb x4.1 x4.2.length then
  (F45 (rd (.slice 5 (.int .u8)) x4.2 x4.1)).bind fun r5 =>
  bif inb x4.1 x4.2.length then
  rec4 ((IntKind.wrap .i64 (x4.1 + 1)), (x4.2.set x4.1.toNat r5))
  else none
  else none)
  else (
  some (G x4.2))) (0, l) = some (G l) := by
  refine lfp_rule (fun x => ∃ i : Nat, x.1 = (i : Int) ∧ i ≤ l.length ∧ x.2 = l) (fun x => l.length - x.1.toNat) (fun _ => G l) ?_ (0, l) ⟨0, rfl, by omega, rfl⟩
  rintro ⟨i', l'⟩ ⟨i, hi', hi, hl'⟩ rec hrec
  simp only at hi' hl'
  subst hi'
  rw [hl']
  simp only
  by_cases hlt : i < l.length
  · have k1 : ((i : Int) < (l.length : Int)) := by omega
    have hv := hV _ (List.getElem_mem hlt)
    simp only [k1, decide_true, cond_true, inb_true (Int.natCast_nonneg i) k1, rd_nat (t := .slice 5 (.int .u8)) hlt, F45_eq hv, Option.bind_some]
    rw [wrap_i64 (n := (i : Int) + 1) (by omega) (by omega)]
    refine hrec _ ⟨i + 1, by simp, by omega, ?_⟩ (by simp only; omega)
    simp only [Int.toNat_natCast]
    exact List.set_getElem_self hlt
  · have k1 : ¬ ((i : Int) < (l.length : Int)) := by omega
    simp only [k1, decide_false, cond_false]
theorem F51_eq {s : Ses} (h : OkS s) : F51 s = some s := by
  obtain ⟨h1, h2, h3, h4, h5⟩ := h
  have ol := own_loop (l := s.2.2.2.1) (G := fun y => ((s.1, s.2.1, s.2.2.1, y, s.2.2.2.2) : Ses)) (fun r hr => by have := h3 r hr; omega) (by omega)
  unfold F51
  simp only [both_self, F45_eq (l := s.2.1) (by omega), F57_eq (l := s.2.2.2.1) (by omega), F45_eq (l := s.2.2.2.2) (by omega), Option.bind_some]
  exact ol
open Classical in
noncomputable def upT (s : Ses) : Ses × Int := if redS s = 14 then (upS, 0) else if redS s = 0 then (nulS, 10) else (nulS, redS s)
theorem F29_eq {s : Ses} (hb : Bytes s.2.1) (hl : s.2.2.2.1.length ≤ 9223372036854775807) : F29 s = some (upT s) := by
  unfold F29 upT
  simp only [Prod.eta, F49_eq hb hl, Option.bind_some]
  by_cases h1 : redS s = 14
  · simp [h1, upS]
  · by_cases h2 : redS s = 0
    · simp [h2, nulS]
    · simp [h1, h2, nulS]
theorem F31_eq {s : Ses} (hb : Bytes s.2.1) (hl : s.2.2.2.1.length ≤ 9223372036854775807) : F31 s = some (nulS, redS s) := by
  unfold F31
  simp only [Prod.eta, F49_eq hb hl, Option.bind_some]
  rfl
end Go.Proofs.Ytdidfddgoheomaa.R2
