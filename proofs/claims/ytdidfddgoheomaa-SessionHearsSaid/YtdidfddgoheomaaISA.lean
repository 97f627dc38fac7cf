/- Part of a proof: what the program's functions come to. -/
import Derived.Test.YtdidfddgoheomaaIRD
set_option linter.unusedVariables false
set_option linter.unusedSimpArgs false
namespace Go.Proofs.Ytdidfddgoheomaa.R2
open Go Go.Fw Go.Proofs RB
abbrev Ses := Bool × (List Int × (Bool × (List (List Int) × List Int)))
def nulS : Ses := (false, ([], (false, ([], []))))
def upS : Ses := (true, ([], (false, ([], []))))
def longF (l : List (List Int)) : Bool := l.any fun f => decide (4096 < f.length)
open Classical in
noncomputable def chkS (s : Ses) : Int := if (s.1 = false ∧ s ≠ nulS) ∨ 8 < s.2.2.2.1.length ∨ 16384 < s.2.2.2.2.length ∨ longF s.2.2.2.1 = true then 1 else chkR (s.2.1, s.2.2.1)
open Classical in
noncomputable def redS (s : Ses) : Int := if chkS s ≠ 0 ∨ s.1 = true then chkS s else 14
def idx : List (List Int) → Nat → Int
  | [], _ => -1
  | a :: r, i => if 4096 < a.length then (i : Int) else idx r (i + 1)
theorem idx_long : ∀ (l : List (List Int)) (i : Nat), decide (0 ≤ idx l i) = longF l
  | [], i => rfl
  | a :: r, i => by
    by_cases h : 4096 < a.length
    · simp [idx, longF, h]
    · simp only [idx, h, if_false, idx_long r (i + 1)]; simp [longF, h]
theorem F53_eq {l : List (List Int)} (hl : l.length ≤ 9223372036854775807) : F53052 (l, ()) = some (longF l) := by
  have e : F58052 (l, ()) = some (idx l 0) := by
    unfold F58052
    have := lfp_rule (B := (fun (rec1 : (Int × Int) → Option Int) (x1 : Int × Int) =>
      bif decide (x1.2 < (l.length : Int)) then (
      bif inb x1.2 l.length then
      (F52 (rd (.slice 5 (.int .u8)) l x1.2)).bind fun r2 =>
      bif r2 then (
      some x1.2)
      else (
      rec1 (x1.1, (IntKind.wrap .i64 (x1.2 + 1))))
      else none)
      else (
      some (-1)))) (fun x => ∃ i : Nat, x.2 = (i : Int) ∧ i ≤ l.length) (fun x => l.length - x.2.toNat) (fun x => idx (l.drop x.2.toNat) x.2.toNat) ?_ (0, 0) ⟨0, rfl, by omega⟩
    · simpa using this
    rintro ⟨q, i'⟩ ⟨i, hi', hi⟩ rec hrec
    simp only at hi'
    subst hi'
    simp only [Int.toNat_natCast]
    by_cases hlt : i < l.length
    · have k1 : ((i : Int) < (l.length : Int)) := by omega
      simp only [k1, decide_true, cond_true, inb_true (Int.natCast_nonneg i) k1, rd_nat (t := .slice 5 (.int .u8)) hlt, F52, Option.bind_some]
      rw [List.drop_eq_getElem_cons hlt]
      by_cases c : 4096 < l[i].length
      · have c' : (4096 : Int) < (l[i].length : Int) := by omega
        simp only [c', decide_true, cond_true, idx, c, if_true]
      · have c' : ¬ (4096 : Int) < (l[i].length : Int) := by omega
        simp only [c', decide_false, cond_false, idx, c, if_false]
        rw [wrap_i64 (n := (i : Int) + 1) (by omega) (by omega)]
        have := hrec (q, (i : Int) + 1) ⟨i + 1, by simp, by omega⟩ (by simp only; omega)
        rw [this]
        simp only
        rw [show ((i : Int) + 1).toNat = i + 1 by omega]
    · have k1 : ¬ ((i : Int) < (l.length : Int)) := by omega
      have : l.drop i = [] := List.drop_of_length_le (by omega)
      simp only [k1, decide_false, cond_false, this, idx]
  unfold F53052
  simp only [e, Option.bind_some, idx_long]
theorem F46_eq (a b : List Int) : F46 (a, b) = some (decide (a = b)) := rfl
theorem F54_eq {a b : List (List Int)} (hl : b.length ≤ 4611686018427387904) : F54046 (a, b, ()) = some (decide (a = b)) := by
  unfold F54046
  simp only
  by_cases hn : a.length = b.length
  · have e0 : (a.length : Int) = (b.length : Int) := by omega
    simp only [e0, decide_true, Bool.not_true, cond_false]
    rw [← e0]
    exact same_loop (t := .slice 5 (.int .u8)) (a := a) (b := b) (by omega) hn (G := fun x y K => (F46 (x, y)).bind K) (fun i h1 h2 K => by simp only [F46_eq, Option.bind_some])
  · have e0 : ¬ (a.length : Int) = (b.length : Int) := by omega
    simp only [e0, decide_false, Bool.not_false, cond_true, Option.some.injEq]
    symm; rw [decide_eq_false_iff_not]
    intro hab; subst hab; exact hn rfl
theorem F42_eq {s t : Ses} (hl : t.2.2.2.1.length ≤ 4611686018427387904) : F42 (s, t) = some (decide (s = t)) := by
  obtain ⟨a, b, c, d, e⟩ := s
  obtain ⟨a', b', c', d', e'⟩ := t
  unfold F42
  simp only [F16_eq, F54_eq hl, F46_eq, Option.bind_some]
  by_cases h1 : a = a'
  · by_cases h2 : (b, c) = (b', c')
    · by_cases h3 : d = d'
      · by_cases h4 : e = e'
        · simp only [Prod.mk.injEq] at h2; simp [h1, h2, h3, h4]
        · simp only [Prod.mk.injEq] at h2; simp [h1, h2, h3, h4]
      · simp only [Prod.mk.injEq] at h2; simp [h1, h2, h3]
    · have h2' : ¬ (b = b' ∧ c = c') := by simpa using h2
      have : ¬ ((b, c, d, e) = (b', c', d', e')) := by simp only [Prod.mk.injEq]; intro q; exact h2' ⟨q.1, q.2.1⟩
      simp [h1, h2', h2, this]
  · have : (a == a') = false := by simpa using h1
    simp [h1, this]
theorem F39_eq {s : Ses} (hb : Bytes s.2.1) (hl : s.2.2.2.1.length ≤ 9223372036854775807) : F39 s = some (chkS s) := by
  unfold F39
  rw [show ((false, ([], (false, ([], [])))) : Ses) = nulS from rfl]
  simp only [Prod.eta, F42_eq (s := s) (t := nulS) (by simp [nulS]), F14_eq (r := (s.2.1, s.2.2.1)) hb, F53_eq hl, Option.bind_some]
  unfold chkS
  have e8 : decide (8 < (s.2.2.2.1.length : Int)) = decide (8 < s.2.2.2.1.length) := by apply decide_eq_decide.2; omega
  have e16 : decide (16384 < (s.2.2.2.2.length : Int)) = decide (16384 < s.2.2.2.2.length) := by apply decide_eq_decide.2; omega
  rw [e8, e16]
  cases h1 : s.1 with
  | true =>
    by_cases h2 : 8 < s.2.2.2.1.length <;> by_cases h3 : 16384 < s.2.2.2.2.length <;> cases h4 : longF s.2.2.2.1 <;> simp [h2, h3, h4]
  | false =>
    by_cases h0 : s = nulS
    · have q : (s = nulS) = True := eq_true h0
      clear h0
      by_cases h2 : 8 < s.2.2.2.1.length <;> by_cases h3 : 16384 < s.2.2.2.2.length <;> cases h4 : longF s.2.2.2.1 <;> simp [q, h2, h3, h4]
    · by_cases h2 : 8 < s.2.2.2.1.length <;> by_cases h3 : 16384 < s.2.2.2.2.length <;> cases h4 : longF s.2.2.2.1 <;> simp [h0, h2, h3, h4]
theorem F49_eq {s : Ses} (hb : Bytes s.2.1) (hl : s.2.2.2.1.length ≤ 9223372036854775807) : F49 s = some (redS s) := by
  unfold F49 redS
  simp only [Prod.eta, F39_eq hb hl, Option.bind_some]
  by_cases h : chkS s = 0 <;> cases h1 : s.1 <;> simp [h, h1]
structure OkS (s : Ses) : Prop where
  fr : s.2.2.2.1.length ≤ 8
  out : s.2.2.2.2.length ≤ 16384
  each : ∀ f ∈ s.2.2.2.1, f.length ≤ 4096
  buf : s.2.1.length ≤ 5000
  rdr : chkR (s.2.1, s.2.2.1) = 0
theorem chkR_len {r : Rdr} (h : chkR r = 0) : r.1.length ≤ 5000 := by
  unfold chkR at h
  by_cases c : (r.2 = true ∧ r.1 ≠ []) ∨ (2 ≤ r.1.length ∧ (4096 < hlen r.1 ∨ 2 + hlen r.1 ≤ r.1.length))
  · rw [if_pos c] at h; simp at h
  · simp only [not_or, not_and, Decidable.not_not] at c
    by_cases h2 : 2 ≤ r.1.length
    · have := c.2 h2; omega
    · omega
theorem okS_of {s : Ses} (h : redS s = 0) : OkS s ∧ s.1 = true := by
  unfold redS at h
  split at h
  · rename_i c
    unfold chkS at h
    split at h
    · simp at h
    · rename_i d
      simp only [not_or, not_and] at d
      have e : s.1 = true := by
        rcases c with c | c
        · exfalso; apply c; unfold chkS; rw [if_neg (by simp only [not_or, not_and]; exact d)]; exact h
        · exact c
      refine ⟨⟨by omega, by omega, fun f hf => ?_, chkR_len h, h⟩, e⟩
      have := d.2.2.2
      simp only [longF, List.any_eq_true, decide_eq_true_eq, not_exists, not_and] at this
      have := this f hf
      omega
  · simp at h
theorem red_of {s : Ses} (h : OkS s) (h1 : s.1 = true) : redS s = 0 := by
  have hn : ¬ ((s.1 = false ∧ s ≠ nulS) ∨ 8 < s.2.2.2.1.length ∨ 16384 < s.2.2.2.2.length ∨ longF s.2.2.2.1 = true) := by
    rintro (h2 | h2 | h2 | h2)
    · rw [h1] at h2; simp at h2
    · have := h.fr; omega
    · have := h.out; omega
    · simp only [longF, List.any_eq_true, decide_eq_true_eq] at h2
      obtain ⟨f, hf, h3⟩ := h2
      have := h.each f hf; omega
  have hc : chkS s = 0 := by unfold chkS; rw [if_neg hn]; exact h.rdr
  unfold redS
  rw [if_pos (.inr h1), hc]
theorem F57_eq {l : List (List Int)} (h : l.length ≤ 1000000) : F57 l = some l := by
  unfold F57
  have k : (([] : List (List Int)).length + l.length) * 24 ≤ LIM := by unfold LIM; simp; omega
  simp only [k, decide_true, cond_true, List.nil_append]
  cases l with
  | nil => simp [both_self]
  | cons a r => rfl
theorem own_loop {R : Type} {l : List (List Int)} {G : List (List Int) → R} (hV : ∀ r ∈ l, r.length ≤ 1000000) (hl : l.length ≤ 1000000) :
    lfp (fun (rec4 : (Int × (List (List Int) × Nat)) → Option R) (x4 : Int × (List (List Int) × Nat)) =>
  bif decide (x4.1 < (l.length : Int)) then (
  bif inb x4.1 x4.2.1.length then
  (F45 (rd (.slice 5 (.int .u8)) x4.2.1 x4.1)).bind fun r5 =>
  bif inb x4.1 x4.2.1.length then
  bif decide (x4.1.toNat = x4.2.2) then
  rec4 ((IntKind.wrap .i64 (x4.1 + 1)), ((x4.2.1.set x4.1.toNat r5), x4.2.2 + 1))
  else none
  else none
  else none)
  else (
  bif decide (x4.2.1.length ≤ x4.2.2) then
  some (G x4.2.1)
  else none)) (0, (l, 0)) = some (G l) := by
  refine lfp_rule (fun x => ∃ i : Nat, x.1 = (i : Int) ∧ i ≤ l.length ∧ x.2.1 = l ∧ x.2.2 = i) (fun x => l.length - x.1.toNat) (fun _ => G l) ?_ (0, (l, 0)) ⟨0, rfl, by omega, rfl, rfl⟩
  rintro ⟨i', l', n'⟩ ⟨i, hi', hi, hl', hn'⟩ rec hrec
  simp only at hi' hl' hn'
  subst hi'
  rw [hl', hn']
  simp only
  by_cases hlt : i < l.length
  · have k1 : ((i : Int) < (l.length : Int)) := by omega
    have hv := hV _ (List.getElem_mem hlt)
    simp only [k1, decide_true, cond_true, inb_true (Int.natCast_nonneg i) k1, rd_nat (t := .slice 5 (.int .u8)) hlt, F45_eq hv, Option.bind_some, Int.toNat_natCast]
    rw [wrap_i64 (n := (i : Int) + 1) (by omega) (by omega)]
    refine hrec _ ⟨i + 1, by simp, by omega, ?_, rfl⟩ (by simp only; omega)
    exact List.set_getElem_self hlt
  · have k1 : ¬ ((i : Int) < (l.length : Int)) := by omega
    have k2 : l.length ≤ i := by omega
    simp only [k1, k2, decide_false, decide_true, cond_false, cond_true]
theorem F51_eq {s : Ses} (h : OkS s) : F51 s = some s := by
  obtain ⟨h1, h2, h3, h4, h5⟩ := h
  have ol := own_loop (l := s.2.2.2.1) (G := fun y => ((s.1, s.2.1, s.2.2.1, y, s.2.2.2.2) : Ses)) (fun r hr => by have := h3 r hr; omega) (by omega)
  unfold F51
  simp only [both_self, F45_eq (l := s.2.1) (by omega), F57_eq (l := s.2.2.2.1) (by omega), F45_eq (l := s.2.2.2.2) (by omega), Option.bind_some]
  exact ol
open Classical in
noncomputable def upT (s : Ses) : Ses × Int := if redS s = 14 then (upS, 0) else if redS s = 0 then (nulS, 10) else (nulS, redS s)
theorem F29_eq {s : Ses} (hb : Bytes s.2.1) (hl : s.2.2.2.1.length ≤ 9223372036854775807) : F29 s = some (upT s) := by
  unfold F29 upT
  simp only [Prod.eta, F49_eq hb hl, Option.bind_some]
  by_cases h1 : redS s = 14
  · simp [h1, upS]
  · by_cases h2 : redS s = 0
    · simp [h2, nulS]
    · simp [h1, h2, nulS]
theorem F31_eq {s : Ses} (hb : Bytes s.2.1) (hl : s.2.2.2.1.length ≤ 9223372036854775807) : F31 s = some (nulS, redS s) := by
  unfold F31
  simp only [Prod.eta, F49_eq hb hl, Option.bind_some]
  rfl
end Go.Proofs.Ytdidfddgoheomaa.R2
namespace Go.Proofs.Ytdidfddgoheomaa.R2
open Go Go.Fw Go.Proofs RB
theorem F19_any (b : List Int) : F19 b = some (putF b) := by
  by_cases h : b.length ≤ 1000000
  · exact F19_eq h
  · unfold F19 putF
    have h1 : 4096 < b.length := by omega
    have : (4096 : Int) < (b.length : Int) := by omega
    simp [h1, this]
theorem putF_ok {b : List Int} (h : b.length ≤ 4096) : putF b = ([(b.length : Int) / 256, (b.length : Int) % 256] ++ b, 0) := by
  unfold putF; rw [if_neg (by omega)]
theorem putF_bytes {b : List Int} (hb : Bytes b) : Bytes (putF b).1 := by
  unfold putF
  split
  · intro n hn; simp at hn
  · intro n hn
    rename_i h
    simp only [List.cons_append, List.nil_append, List.mem_cons] at hn
    rcases hn with rfl | rfl | hn
    · exact ⟨by omega, by omega⟩
    · exact ⟨by omega, by omega⟩
    · exact hb n hn
theorem parse_frame {f : List Int} (hf : f.length ≤ 4096) (m : List Int) (out : List (List Int)) : parse out ((putF f).1 ++ m) = parse (out ++ [f]) m := by
  rw [putF_ok hf, parse]
  have hh : hlen (([(f.length : Int) / 256, (f.length : Int) % 256] ++ f) ++ m) = f.length := by simp [hlen] <;> omega
  have e1 : ¬ (([(f.length : Int) / 256, (f.length : Int) % 256] ++ f) ++ m).length < 2 := by simp <;> omega
  have e2 : ¬ (4096 : Int) < (f.length : Int) := by omega
  have e3 : ¬ ((([(f.length : Int) / 256, (f.length : Int) % 256] ++ f) ++ m).length : Int) < 2 + (f.length : Int) := by simp <;> omega
  have e4 : (0 : Int) ≤ (f.length : Int) ∧ 2 ≤ (([(f.length : Int) / 256, (f.length : Int) % 256] ++ f) ++ m).length := ⟨by omega, by simp <;> omega⟩
  simp only [hh, e1, e2, e3, if_false, e4, and_self, dite_true]
  have hn : (2 + (f.length : Int)).toNat = f.length + 2 := by omega
  rw [hn]
  simp
theorem parse_each : ∀ (n : Nat) (l : List Int) (out : List (List Int)), l.length ≤ n → ∀ f ∈ (parse out l).2, f ∈ out ∨ f.length ≤ 4096 := by
  intro n
  induction n with
  | zero =>
    intro l out h f hf
    have : l = [] := List.length_eq_zero_iff.1 (by omega)
    subst this
    rw [parse_nil] at hf; exact .inl hf
  | succ n ih =>
    intro l out h f hf
    rw [parse] at hf
    split at hf
    · exact .inl hf
    · split at hf
      · exact .inl hf
      · split at hf
        · exact .inl hf
        · split at hf
          · rename_i c1 c2 c3 c4
            rcases ih _ _ (by rw [List.length_drop]; omega) f hf with h1 | h1
            · rcases List.mem_append.1 h1 with h1 | h1
              · exact .inl h1
              · right
                simp only [List.mem_singleton] at h1
                subst h1
                simp only [List.length_drop, List.length_take]
                omega
            · exact .inr h1
          · exact .inl hf
theorem feed_chk {r : Rdr} {b : List Int} (hr : Bytes r.1) (hb : Bytes b) (h : chkR r = 0) : (feedS r b).2.2 = 0 → chkR (feedS r b).1 = 0 ∧ Bytes (feedS r b).1.1 ∧ (feedS r b).2.1.length ≤ r.1.length + b.length ∧ ∀ f ∈ (feedS r b).2.1, f.length ≤ 4096 := by
  unfold feedS
  rw [if_neg (by simpa using h)]
  split
  · simp
  · split
    · intro _; exact ⟨h, hr, by simp, by simp⟩
    · intro _
      have hc := parse_chk _ (r.1 ++ b) [] (Nat.le_refl _) (bytes_append hr hb)
      refine ⟨hc.1, hc.2.1, ?_, fun f hf => ?_⟩
      · have := hc.2.2; simp at this ⊢; omega
      · rcases parse_each _ (r.1 ++ b) [] (Nat.le_refl _) f hf with h1 | h1
        · simp at h1
        · exact h1
open Classical in
noncomputable def hearS (s : Ses) (b : List Int) : Ses × Int × Int :=
  if redS s ≠ 0 then (nulS, 0, redS s) else if (feedS (s.2.1, s.2.2.1) b).2.2 ≠ 0 then (nulS, 0, (feedS (s.2.1, s.2.2.1) b).2.2)
  else if 8 < s.2.2.2.1.length + (feedS (s.2.1, s.2.2.1) b).2.1.length then (nulS, 0, 7)
  else ((s.1, ((feedS (s.2.1, s.2.2.1) b).1.1, ((feedS (s.2.1, s.2.2.1) b).1.2, (s.2.2.2.1 ++ (feedS (s.2.1, s.2.2.1) b).2.1, s.2.2.2.2)))), ((feedS (s.2.1, s.2.2.1) b).2.1.length : Int), 0)
theorem F33_eq {s : Ses} {b : List Int} (hb : Bytes s.2.1) (hbb : Bytes b) (hl : s.2.2.2.1.length ≤ 9223372036854775807) : F33 (s, b) = some (hearS s b) := by
  unfold F33 hearS
  simp only [Prod.eta, F49_eq hb hl, Option.bind_some]
  by_cases h1 : redS s = 0
  · obtain ⟨ok, hlive⟩ := okS_of h1
    simp only [h1, decide_true, Bool.not_true, cond_false, ne_eq, not_true_eq_false, if_false, F13_eq (r := (s.2.1, s.2.2.1)) hb hbb (by have := ok.buf; simp only; omega), Option.bind_some]
    by_cases h2 : (feedS (s.2.1, s.2.2.1) b).2.2 = 0
    · have hf := feed_chk (r := (s.2.1, s.2.2.1)) hb hbb ok.rdr h2
      have hbl : b.length ≤ 65535 := by
        apply Classical.byContradiction; intro hn
        unfold feedS at h2
        rw [if_neg (by simpa using ok.rdr), if_pos (by omega)] at h2
        simp at h2
      have h3l : (feedS (s.2.1, s.2.2.1) b).2.1.length ≤ s.2.1.length + b.length := hf.2.2.1
      have h3b := ok.buf
      have h3f := ok.fr
      simp only [h2, decide_true, Bool.not_true, cond_false, not_true_eq_false, if_false]
      rw [wrap_i64 (by omega) (by omega)]
      by_cases h4 : 8 < s.2.2.2.1.length + (feedS (s.2.1, s.2.2.1) b).2.1.length
      · have h4' : (8 : Int) < (s.2.2.2.1.length : Int) + ((feedS (s.2.1, s.2.2.1) b).2.1.length : Int) := by omega
        simp only [h4, h4', decide_true, cond_true, if_true]; rfl
      · have h4' : ¬ (8 : Int) < (s.2.2.2.1.length : Int) + ((feedS (s.2.1, s.2.2.1) b).2.1.length : Int) := by omega
        have k : (s.2.2.2.1.length + (feedS (s.2.1, s.2.2.1) b).2.1.length) * 24 ≤ LIM := by unfold LIM; omega
        simp only [h4, h4', decide_false, cond_false, if_false, F51_eq ok, Option.bind_some, both_self, k, decide_true, cond_true]
    · simp only [h2, decide_false, Bool.not_false, cond_true, not_false_eq_true, if_true]; rfl
  · simp only [h1, decide_false, Bool.not_false, cond_true, ne_eq, not_false_eq_true, if_true]; rfl
open Classical in
noncomputable def nextS (s : Ses) : List Int × Ses × Int :=
  if redS s ≠ 0 then ([], nulS, redS s) else match s.2.2.2.1 with
  | [] => ([], nulS, 5)
  | f :: r => (f, (s.1, (s.2.1, (s.2.2.1, (r, s.2.2.2.2)))), 0)
theorem F35_eq {s : Ses} (hb : Bytes s.2.1) (hl : s.2.2.2.1.length ≤ 9223372036854775807) : F35 s = some (nextS s) := by
  unfold F35 nextS
  simp only [Prod.eta, F49_eq hb hl, Option.bind_some]
  by_cases h1 : redS s = 0
  · obtain ⟨ok, hlive⟩ := okS_of h1
    simp only [h1, decide_true, Bool.not_true, cond_false, ne_eq, not_true_eq_false, if_false, F51_eq ok, Option.bind_some]
    obtain ⟨a, b, c, d, e⟩ := s
    cases d with
    | nil => simp [nulS]
    | cons f r =>
      have h2 : ¬ (((f :: r).length : Nat) : Int) = 0 := by simp <;> omega
      simp only [h2, decide_false, cond_false]
      rw [inb_true (by omega) (by simp <;> omega), inb_true (by omega) (by simp <;> omega)]
      simp [rd]
  · simp only [h1, decide_false, Bool.not_false, cond_true, ne_eq, not_false_eq_true, if_true]; rfl
open Classical in
noncomputable def sayS (s : Ses) (b : List Int) : Ses × Int :=
  if redS s ≠ 0 then (nulS, redS s) else if (putF b).2 ≠ 0 then (nulS, (putF b).2) else if 16384 < s.2.2.2.2.length + (putF b).1.length then (nulS, 7)
  else ((s.1, (s.2.1, (s.2.2.1, (s.2.2.2.1, s.2.2.2.2 ++ (putF b).1)))), 0)
theorem putF_len (b : List Int) : (putF b).1.length ≤ 4098 := by
  unfold putF; split
  · simp
  · simp; omega
open Classical in
noncomputable def takeS (s : Ses) (n : Nat) : List Int × Ses × Int :=
  if redS s ≠ 0 then ([], nulS, redS s) else (s.2.2.2.2.take n, (s.1, (s.2.1, (s.2.2.1, (s.2.2.2.1, s.2.2.2.2.drop n)))), 0)
theorem ok_up : OkS upS := ⟨by simp [upS], by simp [upS], by simp [upS], by simp [upS], by simp [upS, chkR]⟩
theorem chk_nul : chkS nulS = 0 := by unfold chkS; simp [nulS, longF, chkR]
theorem red_nul : redS nulS = 14 := by unfold redS; simp [chk_nul]; simp [nulS]
theorem red_up : redS upS = 0 := red_of ok_up rfl
theorem up_nul : F29 nulS = some (upS, 0) := by
  rw [F29_eq (by intro n hn; simp [nulS] at hn) (by simp [nulS])]
  simp [upT, red_nul]
theorem parse_zeros : ∀ (k : Nat) (out : List (List Int)), parse out (List.replicate (2 * k) 0) = (([], false), out ++ List.replicate k [])
  | 0, out => by simp [parse_nil]
  | k + 1, out => by
    have : List.replicate (2 * (k + 1)) (0 : Int) = (putF []).1 ++ List.replicate (2 * k) 0 := by
      rw [putF_ok (by simp), show 2 * (k + 1) = 2 * k + 1 + 1 by omega, List.replicate_succ, List.replicate_succ]; rfl
    rw [this, parse_frame (by simp), parse_zeros k]
    simp [List.replicate_succ]
theorem F26_eq : F26 () = some true := by
  have hbz : ∀ n, Bytes (List.replicate n 0) := fun n m hm => by have := (List.mem_replicate.1 hm).2; subst this; exact ⟨by omega, by omega⟩
  have hu : Bytes upS.2.1 := by intro n hn; simp [upS] at hn
  have h18 : F33 (upS, List.replicate 18 0) = some (nulS, 0, 7) := by
    rw [F33_eq hu (hbz _) (by simp [upS])]
    unfold hearS
    have e : feedS (upS.2.1, upS.2.2.1) (List.replicate 18 0) = (([], false), List.replicate 9 [], 0) := by
      unfold feedS
      simp only [upS, List.nil_append, parse_zeros 9 []]
      simp [chkR]
    rw [red_up, e]
    simp [upS]
  have h16 : F33 (upS, List.replicate 16 0) = some ((true, ([], (false, (List.replicate 8 [], [])))), 8, 0) := by
    rw [F33_eq hu (hbz _) (by simp [upS])]
    unfold hearS
    have e : feedS (upS.2.1, upS.2.2.1) (List.replicate 16 0) = (([], false), List.replicate 8 [], 0) := by
      unfold feedS
      simp only [upS, List.nil_append, parse_zeros 8 []]
      simp [chkR]
    rw [red_up, e]
    simp [upS]
  unfold F26
  rw [show ((false, ([], (false, ([], [])))) : Ses) = nulS from rfl]
  simp only [both_self, Prod.eta, up_nul, Option.bind_some, show (18 : Int).toNat = 18 from rfl, show (16 : Int).toNat = 16 from rfl, h18, h16]
  simp [LIM]
def big1 (f : List Int) : Bool := (bif (bif decide (300 < (f.length : Int)) then decide ((f.length : Int) < 4096) else false) then true else decide (4100 < (f.length : Int)))
def fewS (s : Ses) : Bool := (s.2.2.2.1.all fun f => !big1 f) && (bif ((bif decide ((s.2.2.2.1.length : Int) ≤ 12) then decide ((s.2.1.length : Int) ≤ 300) else false) == true) then (
  bif (decide ((s.2.2.2.2.length : Int) ≤ 600) == false) then (
  (bif decide (16300 ≤ (s.2.2.2.2.length : Int)) then decide ((s.2.2.2.2.length : Int) ≤ 16400) else false))
  else true)
  else false)
theorem F27_eq {s : Ses} (hl : s.2.2.2.1.length ≤ 9223372036854775807) : F27 s = some (fewS s) := by
  unfold F27
  refine lfp_rule (fun x => ∃ i : Nat, x.2 = (i : Int) ∧ i ≤ s.2.2.2.1.length ∧ ((s.2.2.2.1.take i).all fun r => !big1 r) = true) (fun x => s.2.2.2.1.length - x.2.toNat)
    (fun _ => fewS s) ?_ (false, 0) ⟨0, rfl, by omega, by simp⟩
  rintro ⟨q, i'⟩ ⟨i, hi', hi, hA⟩ rec hrec
  unfold fewS
  simp only at hi'
  subst hi'
  simp only
  by_cases hlt : i < s.2.2.2.1.length
  · have k1 : ((i : Int) < (s.2.2.2.1.length : Int)) := by omega
    simp only [k1, decide_true, cond_true, inb_true (Int.natCast_nonneg i) k1, rd_nat (t := .slice 5 (.int .u8)) hlt]
    rw [← big1]
    cases hb : big1 s.2.2.2.1[i] with
    | true =>
      simp only [cond_true, Option.some.injEq]
      symm
      rw [Bool.and_eq_false_iff]
      left
      rw [List.all_eq_false]
      exact ⟨_, List.getElem_mem hlt, by simp [hb]⟩
    | false =>
      simp only [cond_false]
      rw [wrap_i64 (n := (i : Int) + 1) (by omega) (by omega)]
      refine (hrec _ ⟨i + 1, by simp, by omega, ?_⟩ (by simp only; omega)).trans (by unfold fewS; rfl)
      rw [List.take_succ_eq_append_getElem hlt, List.all_append, hA]
      simp [hb]
  · have k1 : ¬ ((i : Int) < (s.2.2.2.1.length : Int)) := by omega
    have : i = s.2.2.2.1.length := by omega
    subst this
    rw [List.take_length] at hA
    simp only [k1, decide_false, cond_false, hA, Bool.true_and]
    cases (bif decide ((s.2.2.2.1.length : Int) ≤ 12) then decide ((s.2.1.length : Int) ≤ 300) else false) <;> cases decide ((s.2.2.2.2.length : Int) ≤ 600) <;> rfl
end Go.Proofs.Ytdidfddgoheomaa.R2
