/- Part of a proof: what the program's functions come to. -/
import Derived.Test.YtdidfddgoheomaaISB
set_option linter.unusedVariables false
set_option linter.unusedSimpArgs false
namespace Go.Proofs.Ytdidfddgoheomaa.R2
open Go Go.Fw Go.Proofs RB
set_option maxRecDepth 20000
structure SmallS (s : Ses) : Prop where
  buf : s.2.1.length ≤ 300
  fr : s.2.2.2.1.length ≤ 12
  out : s.2.2.2.2.length ≤ 16400
  each : ∀ f ∈ s.2.2.2.1, f.length ≤ 4100
theorem small_of {s : Ses} (h : fewS s = true) : SmallS s := by
  unfold fewS at h
  simp only [Bool.and_eq_true] at h
  obtain ⟨h1, h2⟩ := h
  have each : ∀ f ∈ s.2.2.2.1, f.length ≤ 4100 := by
    intro f hf
    have := List.all_eq_true.1 h1 f hf
    simp only [Bool.not_eq_true'] at this
    unfold big1 at this
    simp only [Bool.cond_true_left, Bool.or_eq_false_iff, decide_eq_false_iff_not] at this
    have := this.2; omega
  cases c1 : (bif decide ((s.2.2.2.1.length : Int) ≤ 12) then decide ((s.2.1.length : Int) ≤ 300) else false) with
  | false => rw [c1] at h2; simp at h2
  | true =>
    rw [c1] at h2
    simp only [beq_self_eq_true, cond_true] at h2
    simp only [Bool.cond_false_right, Bool.and_eq_true, decide_eq_true_eq] at c1
    refine ⟨by omega, by omega, ?_, each⟩
    by_cases c2 : (s.2.2.2.2.length : Int) ≤ 600
    · omega
    · simp only [c2, decide_false, beq_self_eq_true, cond_true, Bool.cond_false_right, Bool.and_eq_true, decide_eq_true_eq] at h2
      omega
theorem hear_small {s : Ses} {b : List Int} (h : SmallS s) (hb : Bytes s.2.1) (hbb : Bytes b) (hl : b.length ≤ 70000) : (hearS s b).1.2.2.2.1.length ≤ 1000000 ∧ ∀ f ∈ (hearS s b).1.2.2.2.1, f.length ≤ 1000000 := by
  obtain ⟨a1, a2, a3, a4⟩ := h
  obtain ⟨s1, s2, s3⟩ := feed_small (r := (s.2.1, s.2.2.1)) hb hbb (by simp only; omega) hl
  unfold hearS
  by_cases h1 : redS s = 0
  · by_cases h2 : (feedS (s.2.1, s.2.2.1) b).2.2 = 0
    · by_cases h3 : 8 < s.2.2.2.1.length + (feedS (s.2.1, s.2.2.1) b).2.1.length
      · simp [h1, h2, h3, nulS]
      · simp only [h1, h2, h3, ne_eq, not_true_eq_false, if_false]
        refine ⟨by simp only [List.length_append]; omega, fun f hf => ?_⟩
        rcases List.mem_append.1 hf with hf | hf
        · have := a4 f hf; omega
        · have := s3 f hf; omega
    · simp [h1, h2, nulS]
  · simp [h1, nulS]
theorem next_small {s : Ses} (h : SmallS s) : (nextS s).1.length ≤ 1000000 ∧ (nextS s).2.1.2.2.2.2.length ≤ 1000000 ∧ (nextS s).2.1.2.2.2.1.length ≤ 1000000 := by
  obtain ⟨a1, a2, a3, a4⟩ := h
  unfold nextS
  by_cases h1 : redS s = 0
  · obtain ⟨a, b, c, d, e⟩ := s
    cases d with
    | nil => simp [h1, nulS]
    | cons f r =>
      simp only [h1, ne_eq, not_true_eq_false, if_false]
      have := a4 f (by simp)
      simp only [List.length_cons] at a2 a3
      exact ⟨by omega, by omega, by omega⟩
  · simp [h1, nulS]
theorem up_small (s : Ses) : (upT s).1.2.2.2.1.length ≤ 4611686018427387904 := by
  unfold upT
  split
  · simp [upS]
  · split <;> simp [nulS]
theorem F7_true {s : Ses} {b : List Int} (hb : Bytes s.2.1) (hbb : Bytes b) (hl : s.2.2.2.1.length ≤ 9223372036854775807) : F7 (s, b) = some true := by
  unfold F7
  simp only [F26_eq, Prod.eta, F27_eq hl, Option.bind_some, Bool.not_true, cond_false]
  cases hf : fewS s with
  | false => rfl
  | true =>
    have sm := small_of hf
    obtain ⟨a1, a2, a3, a4⟩ := small_of hf
    generalize hc : (bif (bif decide (1000 < (b.length : Int)) then decide ((b.length : Int) ≤ 65535) else false) then true else decide (65540 < (b.length : Int))) = c
    cases c with
    | true => rfl
    | false =>
      have hbl : b.length ≤ 65540 := by
        simp only [Bool.cond_true_left, Bool.or_eq_false_iff, decide_eq_false_iff_not] at hc
        have := hc.2; omega
      obtain ⟨q1, q2⟩ := hear_small sm hb hbb (by omega)
      obtain ⟨n1, n2, n3⟩ := next_small sm
      have cp : F28 s = some s := F28_eq (by omega) (by omega) (by omega) (fun f hf => by have := a4 f hf; omega)
      have n0 : (nulS).2.2.2.1.length ≤ 4611686018427387904 := by simp [nulS]
      simp only [Bool.not_true, beq_self_eq_true, cond_true, cond_false, cp, F29_eq hb hl, F30_eq hb (by omega) (by omega), F31_eq hb hl, F32_eq hb (by omega) (by omega), F33_eq hb hbb hl, F34_eq hb hbb (by omega) (by omega), F35_eq hb hl, F36_eq hb (by omega) (by omega), Option.bind_some, Prod.eta,
        F37_eq (s := (upT s).1) (t := (upT s).1) (up_small s), F37_eq (s := nulS) (t := nulS) n0, F37_eq (s := (hearS s b).1) (t := (hearS s b).1) (by omega), F37_eq (s := (nextS s).2.1) (t := (nextS s).2.1) (by omega), F37_eq (s := s) (t := s) (by omega), F23_eq, decide_true]
      have k3 : ∀ (K : Option Bool), K = some true → lfp (fun (rec17 : Int → Option Bool) (x17 : Int) =>
        bif decide (x17 < ((nextS s).2.1.2.2.2.2.length : Int)) then (
        bif inb x17 (nextS s).2.1.2.2.2.2.length then
        bif inb x17 (nextS s).2.1.2.2.2.2.length then
        rec17 (IntKind.wrap .i64 (x17 + 1))
        else none
        else none)
        else K) 0 = some true := fun K hK => (incr_one n2 hK).trans hK
      refine (incr_loop (l := (hearS s b).1.2.2.2.1) q1 q2 (k := true) ?_).trans ?_
      · exact (incr_one (l := (nextS s).1) n1 (k := true) (k3 _ rfl)).trans (k3 _ rfl)
      · exact (incr_one (l := (nextS s).1) n1 (k := true) (k3 _ rfl)).trans (k3 _ rfl)
abbrev sTy : Ty := .pair .bool (.pair (.slice 5 (.int .u8)) (.pair .bool (.pair (.slice 22 (.slice 5 (.int .u8))) (.slice 5 (.int .u8)))))
theorem bytes_good {l : List Int} (h : Fw.Good (.slice 5 (.int .u8)) l) : Bytes l := fun n hn => byte_of (h.2 n hn)
theorem ses_good {s : Ses} (h : Fw.Good sTy s) : Bytes s.2.1 ∧ s.2.2.2.1.length ≤ 9223372036854775807 := ⟨bytes_good h.2.1, h.2.2.2.1.1⟩
theorem pure7 (b : dens [.agg (.pair .bool (.pair (.slice 5 (.int .u8)) (.pair .bool (.pair (.slice 22 (.slice 5 (.int .u8))) (.slice 5 (.int .u8)))))), .one (.slice 5 (.int .u8))]) (h : Goods [.agg (.pair .bool (.pair (.slice 5 (.int .u8)) (.pair .bool (.pair (.slice 22 (.slice 5 (.int .u8))) (.slice 5 (.int .u8)))))), .one (.slice 5 (.int .u8))] b) : F7 b = some true :=
  F7_true (ses_good h.1).1 (bytes_good h.2) (ses_good h.1).2
end Go.Proofs.Ytdidfddgoheomaa.R2
