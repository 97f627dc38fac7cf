/- Part of a proof: what the program's functions come to. -/
import Derived.Test.YtacebemdonoliaaUPB
set_option linter.unusedVariables false
set_option linter.unusedSimpArgs false
namespace Go.Proofs.Ytacebemdonoliaa.R4
open Go Go.Fw Go.Proofs RB
set_option maxRecDepth 20000
theorem goT_bad : ∀ (n : Nat) (acc : List Rec) (b : List Int), b.length ≤ n → (goT acc b).2 ≠ 0 → (goT acc b).1 = [] := by
  intro n
  induction n with
  | zero =>
    intro acc b hb
    rw [goT]
    have : b = [] := List.length_eq_zero_iff.1 (by omega)
    rw [if_pos this]
    intro h; exact absurd rfl h
  | succ n ih =>
    intro acc b hb
    rw [goT]
    repeat' split
    all_goals first
      | (intro h; rfl)
      | (intro h; exact absurd rfl h)
      | (apply ih; omega)
theorem getT_small {b : List Int} (hb : Bs b) : (getT b).1.length ≤ 64 ∧ ∀ r ∈ (getT b).1, r.2.length ≤ 4096 := by
  by_cases h : (getT b).2 = 0
  · obtain ⟨_, h2, _⟩ := getT_ok hb (m := (getT b).1) (by rw [← h])
    exact ⟨h2.1, h2.2.1⟩
  · have : (getT b).1 = [] := by
      unfold getT at h ⊢
      by_cases hl : 65535 < b.length
      · rw [if_pos hl]
      · rw [if_neg hl] at h ⊢
        exact goT_bad _ _ _ (Nat.le_refl _) h
    rw [this]; simp
theorem F24_eq {a b : List Rec} (hl : a.length ≤ 4611686018427387904) : F24 (a, b) = some (decide (a = b)) := by
  unfold F24
  simp only
  by_cases hn : a.length = b.length
  · have e0 : (a.length : Int) = (b.length : Int) := by omega
    simp only [e0, decide_true, Bool.not_true, cond_false]
    rw [← e0]
    refine lfp_rule (fun x => ∃ i : Nat, x.2 = (i : Int) ∧ i ≤ a.length ∧ a.take i = b.take i) (fun x => a.length - x.2.toNat) (fun _ => decide (a = b)) ?_ (false, 0) ⟨0, rfl, by omega, rfl⟩
    rintro ⟨y, i'⟩ ⟨i, rfl, hi, he⟩ rec hrec
    simp only
    by_cases hlt : i < a.length
    · have h1 : ((i : Int) < (b.length : Int)) := by omega
      have h2 : ((i : Int) < (a.length : Int)) := by omega
      have hlt2 : i < b.length := by omega
      simp only [h2, decide_true, cond_true, inb_true (Int.natCast_nonneg i) h1, inb_true (Int.natCast_nonneg i) h2, rd_nat (t := tR) hlt, rd_nat (t := tR) hlt2]
      have hne : ∀ q : a[i] ≠ b[i], some false = some (decide (a = b)) := by
        intro q
        rw [Option.some.injEq]; symm; rw [decide_eq_false_iff_not]
        intro hab; subst hab; exact q rfl
      by_cases hx : a[i].1 = b[i].1
      · simp only [hx, decide_true, Bool.not_true, beq_self_eq_true, cond_true, F18_eq, Option.bind_some]
        by_cases hy : a[i].2 = b[i].2
        · simp only [hy, decide_true, Bool.not_true, cond_false]
          rw [wrap_i64 (n := (i : Int) + 1) (by omega) (by omega)]
          refine hrec _ ⟨i + 1, by simp, by omega, ?_⟩ (by simp only; omega)
          rw [List.take_add_one, List.take_add_one, he, List.getElem?_eq_getElem hlt, List.getElem?_eq_getElem hlt2, Prod.ext hx hy]
        · simp only [hy, decide_false, Bool.not_false, cond_true]
          exact hne fun q => hy (by rw [q])
      · simp only [hx, decide_false, Bool.not_false, show (true == false) = false from rfl, cond_false, both_self]
        exact hne fun q => hx (by rw [q])
    · have h1 : ¬ ((i : Int) < (b.length : Int)) := by omega
      have h2 : ¬ ((i : Int) < (a.length : Int)) := by omega
      simp only [h2, decide_false, cond_false, Option.some.injEq]
      symm; rw [decide_eq_true_iff]
      rw [List.take_of_length_le (by omega), List.take_of_length_le (by omega)] at he; exact he
  · have e0 : ¬ (a.length : Int) = (b.length : Int) := by omega
    simp only [e0, decide_false, Bool.not_false, cond_true, Option.some.injEq]
    symm; rw [decide_eq_false_iff_not]
    intro hab; subst hab; exact hn rfl
/-- Every octet of a row is counted up: nothing goes wrong. -/
theorem incr_loop {l : List Rec} (hl : l.length ≤ 1000000) (hv : ∀ r ∈ l, r.2.length ≤ 1000000) {K : Option Bool} {k : Bool} (hK : K = some k) :
    lfp (fun (rec14 : Int → Option Bool) (x14 : Int) =>
      bif decide (x14 < (l.length : Int)) then (
      bif inb x14 l.length then
      lfp (fun (rec15 : Int → Option Bool) (x15 : Int) =>
       bif decide (x15 < (((rd (.pair (.int .u64) (.slice 5 (.int .u8))) l x14).2).length : Int)) then (
       bif inb x14 l.length then
       bif inb x15 ((rd (.pair (.int .u64) (.slice 5 (.int .u8))) l x14).2).length then
       bif inb x15 ((rd (.pair (.int .u64) (.slice 5 (.int .u8))) l x14).2).length then
       rec15 (IntKind.wrap .i64 (x15 + 1))
       else none
       else none
       else none)
       else (
       rec14 (IntKind.wrap .i64 (x14 + 1)))) 0
      else none)
      else K) 0 = K := by
  rw [hK]
  refine lfp_rule (fun x => ∃ i : Nat, x = (i : Int) ∧ i ≤ l.length) (fun x => l.length - x.toNat) (fun _ => k) ?_ 0 ⟨0, rfl, by omega⟩
  rintro _ ⟨i, rfl, hi⟩ rec hrec
  by_cases hlt : i < l.length
  · have h2 : ((i : Int) < (l.length : Int)) := by omega
    have hvi := hv _ (List.getElem_mem hlt)
    simp only [h2, decide_true, cond_true, inb_true (Int.natCast_nonneg i) h2, rd_nat (t := tR) hlt]
    have hr : rec (IntKind.wrap .i64 ((i : Int) + 1)) = some k := by
      rw [wrap_i64 (n := (i : Int) + 1) (by omega) (by omega)]
      exact hrec _ ⟨i + 1, by simp, by omega⟩ (by omega)
    rw [hr]
    refine lfp_rule (fun x => ∃ j : Nat, x = (j : Int) ∧ j ≤ l[i].2.length) (fun x => l[i].2.length - x.toNat) (fun _ => k) ?_ 0 ⟨0, rfl, by omega⟩
    rintro _ ⟨j, rfl, hj⟩ rec2 hrec2
    by_cases hlj : j < l[i].2.length
    · have h3 : ((j : Int) < (l[i].2.length : Int)) := by omega
      simp only [h3, decide_true, cond_true, inb_true (Int.natCast_nonneg j) h3]
      rw [wrap_i64 (n := (j : Int) + 1) (by omega) (by omega)]
      exact hrec2 _ ⟨j + 1, by simp, by omega⟩ (by omega)
    · have h3 : ¬ ((j : Int) < (l[i].2.length : Int)) := by omega
      simp only [h3, decide_false, cond_false]
  · have h2 : ¬ ((i : Int) < (l.length : Int)) := by omega
    simp only [h2, decide_false, cond_false]
theorem F5_true {l o : List Rec} {b : List Int} (hv : ∀ r ∈ l, OkV r) (hb : Bs b) (hl : l.length ≤ 9223372036854775807) (ho : o.length ≤ 9223372036854775807) : F5 (l, o, b) = some true := by
  unfold F5
  simp only [F13_eq', Option.bind_some, Bool.not_true, cond_false, F14_eq l hl, F14_eq o ho]
  generalize hc : ((l.all fun r => !bigV r) && decide ((l.length : Int) ≤ 70)) = c
  generalize ((o.all fun r => !bigV r) && decide ((o.length : Int) ≤ 70)) = c2
  generalize (bif (bif decide (5000 < (b.length : Int)) then decide ((b.length : Int) ≤ 65535) else false) then true else decide (65540 < (b.length : Int))) = c3
  cases c with
  | false => rfl
  | true =>
    cases c2 with
    | false => rfl
    | true =>
      cases c3 with
      | true => rfl
      | false =>
        have h70 : l.length ≤ 70 := by
          simp only [Bool.and_eq_true, decide_eq_true_eq] at hc
          have := hc.2; omega
        obtain ⟨hs1, hs2⟩ := getT_small hb
        simp only [Bool.not_true, beq_self_eq_true, cond_true, cond_false, F20_eq hv, F21_eq hv, F22_eq hb, F23_eq hb, Option.bind_some, F18_eq, decide_true, F24_eq (a := (getT b).1) (b := (getT b).1) (by omega), F19_eq, F25_eq, F16_eq (a := l) (b := o) (by omega), F24_eq (a := l) (b := o) (by omega)]
        exact incr_loop (l := (getT b).1) (by omega) (fun r hr => by have := hs2 r hr; omega) (k := true) rfl
theorem pure5 (b : dens [.one (.slice 26 (.pair (.int .u64) (.slice 5 (.int .u8)))), .one (.slice 26 (.pair (.int .u64) (.slice 5 (.int .u8)))), .one (.slice 5 (.int .u8))]) (h : Goods [.one (.slice 26 (.pair (.int .u64) (.slice 5 (.int .u8)))), .one (.slice 26 (.pair (.int .u64) (.slice 5 (.int .u8)))), .one (.slice 5 (.int .u8))] b) : F5 b = some true :=
  F5_true (recs_of h.1).1 (fun n hn => byte_of (h.2.2.2 n hn)) (recs_of h.1).2 (recs_of h.2.1).2
end Go.Proofs.Ytacebemdonoliaa.R4
