/- Part of a proof: what the program's functions come to. -/
import Derived.Test.YtdidfddgoheomaaIRC
set_option linter.unusedVariables false
set_option linter.unusedSimpArgs false
namespace Go.Proofs.Ytdidfddgoheomaa.R2
open Go Go.Fw Go.Proofs RB
set_option maxRecDepth 20000
theorem F24_eq (a b : Rdr) : F24 (a, b) = some (decide (a = b)) := by
  obtain ⟨x, p⟩ := a
  obtain ⟨y, q⟩ := b
  unfold F24
  by_cases h : p = q
  · subst h
    by_cases h2 : x = y <;> simp [h2, F23_eq]
  · have : (p == q) = false := by simpa using h
    simp [this, h]
theorem F20_eq {b : List Int} (hl : b.length ≤ 1000000) : F20 b = some (putF b) := by
  unfold F20 putF
  by_cases h : 4096 < b.length
  · have : (4096 : Int) < (b.length : Int) := by omega
    simp [h, this]
  · have h0 : ¬ (4096 : Int) < (b.length : Int) := by omega
    have e1 : Int.tdiv (b.length : Int) 256 = (b.length : Int) / 256 := Int.tdiv_eq_ediv_of_nonneg (by omega)
    have e2 : Int.tmod (b.length : Int) 256 = (b.length : Int) % 256 := Int.tmod_eq_emod_of_nonneg (by omega)
    have w1 : IntKind.wrap .i64 ((b.length : Int) / 256) = (b.length : Int) / 256 := wrap_i64 (by omega) (by omega)
    have w2 : IntKind.wrap .u8 ((b.length : Int) / 256) = (b.length : Int) / 256 := by rw [wrap_u8]; omega
    have w3 : IntKind.wrap .u8 ((b.length : Int) % 256) = (b.length : Int) % 256 := by rw [wrap_u8]; omega
    have k : (([(b.length : Int) / 256, (b.length : Int) % 256] : List Int).length + b.length) * 1 ≤ LIM := by unfold LIM; simp only [List.length_cons, List.length_nil]; omega
    simp only [h0, decide_false, cond_false, h, if_false, e1, e2, w1, w2, w3, k, decide_true, cond_true]
theorem F22_eq {r : Rdr} (h : Bytes r.1) (hl : r.1.length ≤ 1000000) : F22 r = some (wants r) := by
  unfold F22 wants
  have hh := hlen_nonneg h
  simp only [Prod.eta, F25_eq h hl, Option.bind_some, both_self]
  by_cases h1 : chkR r = 0
  · cases hb : r.2 with
    | true => simp [h1]
    | false =>
      by_cases h2 : r.1.length < 2
      · have h2' : (r.1.length : Int) < 2 := by omega
        simp [h1, h2, h2']; rw [wrap_i64 (by omega) (by omega)]
      · have h2' : ¬ (r.1.length : Int) < 2 := by omega
        have w1 : IntKind.wrap .i64 (hlen r.1 + 2) = 2 + hlen r.1 := by rw [wrap_i64 (by omega) (by omega)]; omega
        have w2 : IntKind.wrap .i64 (2 + hlen r.1 - (r.1.length : Int)) = 2 + hlen r.1 - (r.1.length : Int) := wrap_i64 (by omega) (by omega)
        simp only [h1, h2, h2', decide_true, decide_false, Bool.not_true, cond_false, F48_eq h (by omega), Option.bind_some, w1, w2, ne_eq, not_true_eq_false, Bool.false_eq_true, or_self, if_false]
  · have h3 : chkR r = 1 := by
      have h4 := h1
      unfold chkR at h4 ⊢
      split at h4
      · rename_i q; rw [if_pos q]
      · exact absurd rfl h4
    simp [h3]
/-- No text is longer than what was read. -/
theorem parse_len : ∀ (n : Nat) (l : List Int) (out : List (List Int)) (N : Nat), l.length ≤ n → l.length ≤ N → (∀ x ∈ out, x.length ≤ N) → ∀ x ∈ (parse out l).2, x.length ≤ N := by
  intro n
  induction n with
  | zero =>
    intro l out N h hN ho
    have : l = [] := List.length_eq_zero_iff.1 (by omega)
    subst this
    rw [parse_nil]; exact ho
  | succ n ih =>
    intro l out N h hN ho
    rw [parse]
    by_cases c1 : l.length < 2
    · simp only [c1, if_true]; exact ho
    · by_cases c2 : 4096 < hlen l
      · simp only [c1, c2, if_false, if_true]; exact ho
      · by_cases c3 : (l.length : Int) < 2 + hlen l
        · simp only [c1, c2, c3, if_false, if_true]; exact ho
        · by_cases c4 : 0 ≤ hlen l ∧ 2 ≤ l.length
          · simp only [c1, c2, c3, c4, if_false, and_self, dite_true]
            refine ih _ _ N (by rw [List.length_drop]; omega) (by rw [List.length_drop]; omega) (fun x hx => ?_)
            rcases List.mem_append.1 hx with hx | hx
            · exact ho x hx
            · simp only [List.mem_singleton] at hx; subst hx
              rw [List.length_drop, List.length_take]; omega
          · simp only [c1, c2, c3, c4, if_false, dite_false]; exact ho
theorem feed_small {r : Rdr} {b : List Int} (hr : Bytes r.1) (hb : Bytes b) (hl : r.1.length ≤ 1000) (hbl : b.length ≤ 70000) :
    (feedS r b).1.1.length ≤ 100000 ∧ (feedS r b).2.1.length ≤ 100000 ∧ ∀ x ∈ (feedS r b).2.1, x.length ≤ 100000 := by
  unfold feedS
  by_cases h1 : chkR r = 0
  · by_cases h2 : 65535 < b.length
    · simp [h1, h2]
    · by_cases h3 : r.2 = true
      · simp only [h1, ne_eq, not_true_eq_false, if_false, h2, h3, if_true]
        exact ⟨by omega, by simp, by simp⟩
      · simp only [h1, ne_eq, not_true_eq_false, if_false, h2, h3]
        obtain ⟨p1, p2, p3⟩ := parse_chk _ (r.1 ++ b) [] (Nat.le_refl _) (bytes_append hr hb)
        simp only [List.length_append, List.length_nil] at p3
        refine ⟨by simp only [Bool.false_eq_true, if_false]; omega, by simp only [Bool.false_eq_true, if_false]; omega, ?_⟩
        simp only [Bool.false_eq_true, if_false]
        exact parse_len _ (r.1 ++ b) [] 100000 (Nat.le_refl _) (by rw [List.length_append]; omega) (by simp)
  · simp [h1]
/-- Every octet is counted up: nothing goes wrong. -/
theorem incr_one {l : List Int} (hl : l.length ≤ 1000000) {K : Option Bool} {k : Bool} (hK : K = some k) :
    lfp (fun (rec17 : Int → Option Bool) (x17 : Int) =>
      bif decide (x17 < (l.length : Int)) then (
      bif inb x17 l.length then
      bif inb x17 l.length then
      rec17 (IntKind.wrap .i64 (x17 + 1))
      else none
      else none)
      else K) 0 = K := by
  rw [hK]
  refine lfp_rule (fun x => ∃ j : Nat, x = (j : Int) ∧ j ≤ l.length) (fun x => l.length - x.toNat) (fun _ => k) ?_ 0 ⟨0, rfl, by omega⟩
  rintro _ ⟨j, rfl, hj⟩ rec2 hrec2
  by_cases hlj : j < l.length
  · have h3 : ((j : Int) < (l.length : Int)) := by omega
    simp only [h3, decide_true, cond_true, inb_true (Int.natCast_nonneg j) h3]
    rw [wrap_i64 (n := (j : Int) + 1) (by omega) (by omega)]
    exact hrec2 _ ⟨j + 1, by simp, by omega⟩ (by omega)
  · have h3 : ¬ ((j : Int) < (l.length : Int)) := by omega
    simp only [h3, decide_false, cond_false]
theorem incr_loop {l : List (List Int)} (hl : l.length ≤ 1000000) (hv : ∀ r ∈ l, r.length ≤ 1000000) {K : Option Bool} {k : Bool} (hK : K = some k) :
    lfp (fun (rec14 : Int → Option Bool) (x14 : Int) =>
      bif decide (x14 < (l.length : Int)) then (
      bif inb x14 l.length then
      lfp (fun (rec15 : Int → Option Bool) (x15 : Int) =>
       bif decide (x15 < ((rd (.slice 5 (.int .u8)) l x14).length : Int)) then (
       bif inb x14 l.length then
       bif inb x15 (rd (.slice 5 (.int .u8)) l x14).length then
       bif inb x15 (rd (.slice 5 (.int .u8)) l x14).length then
       rec15 (IntKind.wrap .i64 (x15 + 1))
       else none
       else none
       else none)
       else (
       rec14 (IntKind.wrap .i64 (x14 + 1)))) 0
      else none)
      else K) 0 = K := by
  rw [hK]
  refine lfp_rule (fun x => ∃ i : Nat, x = (i : Int) ∧ i ≤ l.length) (fun x => l.length - x.toNat) (fun _ => k) ?_ 0 ⟨0, rfl, by omega⟩
  rintro _ ⟨i, rfl, hi⟩ rec hrec
  by_cases hlt : i < l.length
  · have h2 : ((i : Int) < (l.length : Int)) := by omega
    have hvi := hv _ (List.getElem_mem hlt)
    simp only [h2, decide_true, cond_true, inb_true (Int.natCast_nonneg i) h2, rd_nat (t := .slice 5 (.int .u8)) hlt]
    have hr : rec (IntKind.wrap .i64 ((i : Int) + 1)) = some k := by
      rw [wrap_i64 (n := (i : Int) + 1) (by omega) (by omega)]
      exact hrec _ ⟨i + 1, by simp, by omega⟩ (by omega)
    rw [hr]
    refine lfp_rule (fun x => ∃ j : Nat, x = (j : Int) ∧ j ≤ l[i].length) (fun x => l[i].length - x.toNat) (fun _ => k) ?_ 0 ⟨0, rfl, by omega⟩
    rintro _ ⟨j, rfl, hj⟩ rec2 hrec2
    by_cases hlj : j < l[i].length
    · have h3 : ((j : Int) < (l[i].length : Int)) := by omega
      simp only [h3, decide_true, cond_true, inb_true (Int.natCast_nonneg j) h3]
      rw [wrap_i64 (n := (j : Int) + 1) (by omega) (by omega)]
      exact hrec2 _ ⟨j + 1, by simp, by omega⟩ (by omega)
    · have h3 : ¬ ((j : Int) < (l[i].length : Int)) := by omega
      simp only [h3, decide_false, cond_false]
  · have h2 : ¬ ((i : Int) < (l.length : Int)) := by omega
    simp only [h2, decide_false, cond_false]
theorem F5_true {r o : Rdr} {b : List Int} (hr : Bytes r.1) (ho : Bytes o.1) (hb : Bytes b) : F5 (r, o, b) = some true := by
  unfold F5
  simp only [F12_eq, Option.bind_some, Bool.not_true, cond_false, Prod.eta]
  by_cases h1 : 200 < r.1.length
  · have : (200 : Int) < (r.1.length : Int) := by omega
    simp [this]
  · have h1' : ¬ (200 : Int) < (r.1.length : Int) := by omega
    by_cases h2 : 200 < o.1.length
    · have : (200 : Int) < (o.1.length : Int) := by omega
      simp [this]
    · have h2' : ¬ (200 : Int) < (o.1.length : Int) := by omega
      simp only [h1', h2', decide_false, cond_false, beq_self_eq_true, cond_true]
      generalize hc : (bif (bif decide (5000 < (b.length : Int)) then decide ((b.length : Int) ≤ 65535) else false) then true else decide (65540 < (b.length : Int))) = c
      cases c with
      | true => rfl
      | false =>
        have hbl : b.length ≤ 65540 := by
          simp only [Bool.cond_true_left, Bool.or_eq_false_iff, decide_eq_false_iff_not] at hc
          have := hc.2; omega
        obtain ⟨s1, s2, s3⟩ := feed_small hr hb (by omega) (by omega)
        simp only [cond_false, F19_eq (b := b) (by omega), F20_eq (b := b) (by omega), F13_eq hr hb (by omega), F21_eq hr hb (by omega), F18_eq hr (by omega), F22_eq hr (by omega), Option.bind_some, F23_eq, decide_true, cond_true, beq_self_eq_true, F24_eq, F17_eq (a := (feedS r b).2.1) (b := (feedS r b).2.1) (by omega), F14_eq hr, F25_eq hr (by omega), F16_eq, Prod.eta]
        refine (incr_loop (l := (feedS r b).2.1) (by omega) (fun x hx => by have := s3 x hx; omega) (k := true) ?_).trans ?_
        · exact (incr_one (l := (feedS r b).1.1) (by omega) (k := true) rfl).trans rfl
        · exact (incr_one (l := (feedS r b).1.1) (by omega) (k := true) rfl).trans rfl
theorem pure5 (b : dens [.agg (.pair (.slice 5 (.int .u8)) .bool), .agg (.pair (.slice 5 (.int .u8)) .bool), .one (.slice 5 (.int .u8))]) (h : Goods [.agg (.pair (.slice 5 (.int .u8)) .bool), .agg (.pair (.slice 5 (.int .u8)) .bool), .one (.slice 5 (.int .u8))] b) : F5 b = some true :=
  F5_true (fun n hn => byte_of (h.1.1.2 n hn)) (fun n hn => byte_of (h.2.1.1.2 n hn)) (fun n hn => byte_of (h.2.2.2 n hn))
end Go.Proofs.Ytdidfddgoheomaa.R2
