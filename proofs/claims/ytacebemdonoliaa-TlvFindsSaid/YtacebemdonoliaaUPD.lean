/- Part of a proof: what the program's functions come to. -/
import Derived.Test.YtacebemdonoliaaUPC
set_option linter.unusedVariables false
set_option linter.unusedSimpArgs false
namespace Go.Proofs.Ytacebemdonoliaa.R4
open Go Go.Fw Go.Proofs RB
set_option maxRecDepth 20000
theorem ins_filter : ∀ (l : List Rec) (x : Rec), Sorted l → ins l x = (l.filter (fun r => decide (r.1 < x.1)) ++ [x]) ++ l.filter (fun r => decide (x.1 < r.1))
  | [], x, _ => by simp [ins]
  | a :: r, x, h => by
    obtain ⟨h1, h2⟩ := List.pairwise_cons.1 h
    have ih := ins_filter r x h2
    have none1 : ∀ t : Int, t ≤ a.1 → r.filter (fun y => decide (y.1 < t)) = [] := by
      intro t ht
      rw [List.filter_eq_nil_iff]
      intro y hy
      have := h1 y hy
      simp only [decide_eq_true_eq]; omega
    have all2 : ∀ t : Int, t ≤ a.1 → r.filter (fun y => decide (t < y.1)) = r := by
      intro t ht
      rw [List.filter_eq_self]
      intro y hy
      have := h1 y hy
      simp only [decide_eq_true_eq]; omega
    simp only [ins]
    by_cases c : a.1 < x.1
    · have c2 : ¬ x.1 < a.1 := by omega
      simp only [c, if_true, List.filter_cons, decide_true, c2, decide_false, Bool.false_eq_true, if_false, ih, List.cons_append]
    · by_cases c3 : a.1 = x.1
      · have c2 : ¬ x.1 < a.1 := by omega
        have e1 := none1 x.1 (by omega)
        have e2 := all2 x.1 (by omega)
        simp only [c, if_false, c3, if_true, List.filter_cons, decide_false, Bool.false_eq_true, e1, e2, Int.lt_irrefl, List.nil_append, List.singleton_append]
      · have c2 : x.1 < a.1 := by omega
        have e1 := none1 x.1 (by omega)
        have e2 := all2 x.1 (by omega)
        simp only [c, if_false, c3, List.filter_cons, decide_false, decide_true, if_true, c2, Bool.false_eq_true, e1, e2, List.nil_append, List.singleton_append]
theorem filter_le {p : Rec → Bool} {l : List Rec} : (l.filter p).length ≤ l.length := List.length_filter_le p l
theorem take_filter {p : Rec → Bool} {l : List Rec} {i : Nat} (h : i < l.length) : (l.take (i + 1)).filter p = (l.take i).filter p ++ (if p l[i] then [l[i]] else []) := by
  rw [List.take_add_one, List.getElem?_eq_getElem h, Option.toList_some, List.filter_append, List.filter_cons, List.filter_nil]
theorem with_loop {l : List Rec} {t : Int} (hl : l.length ≤ 64) {acc : List Rec} (ha : acc.length ≤ 65) :
    lfp (fun (rec3 : (List (Int × List Int) × Int) → Option ((List (Int × List Int)) × Int)) (x3 : List (Int × List Int) × Int) =>
      bif decide (x3.2 < (l.length : Int)) then (
      bif inb x3.2 l.length then
      bif decide (t < (rd (.pair (.int .u64) (.slice 5 (.int .u8))) l x3.2).1) then (
      bif decide ((x3.1.length + 1) * 32 ≤ LIM) then
      rec3 ((x3.1 ++ ([((rd (.pair (.int .u64) (.slice 5 (.int .u8))) l x3.2).1, (rd (.pair (.int .u64) (.slice 5 (.int .u8))) l x3.2).2)])), (IntKind.wrap .i64 (x3.2 + 1)))
      else none)
      else (
      rec3 (x3.1, (IntKind.wrap .i64 (x3.2 + 1))))
      else none)
      else (
      bif decide (64 < (x3.1.length : Int)) then (
      some (([] : List (Int × List Int)), 7))
      else (
      some (x3.1, 0)))) (acc, 0) = some (if 64 < (acc ++ l.filter (fun r => decide (t < r.1))).length then ([], 7) else (acc ++ l.filter (fun r => decide (t < r.1)), 0)) := by
  refine lfp_rule (fun x => ∃ i : Nat, x.2 = (i : Int) ∧ i ≤ l.length ∧ x.1 = acc ++ (l.take i).filter (fun r => decide (t < r.1))) (fun x => l.length - x.2.toNat) (fun _ => (if 64 < (acc ++ l.filter (fun r => decide (t < r.1))).length then ([], 7) else (acc ++ l.filter (fun r => decide (t < r.1)), 0))) ?_ (acc, 0) ⟨0, rfl, by omega, by simp⟩
  rintro ⟨o, i'⟩ ⟨i, hi', hi, ho⟩ rec hrec
  simp only at hi' ho
  subst hi'
  simp only
  by_cases hlt : i < l.length
  · have h2 : ((i : Int) < (l.length : Int)) := by omega
    simp only [h2, decide_true, cond_true, inb_true (Int.natCast_nonneg i) h2, rd_nat (t := tR) hlt]
    have hol : o.length ≤ 65 + 64 := by
      rw [ho, List.length_append]
      have := @filter_le (fun r => decide (t < r.1)) (l.take i)
      have := List.length_take_le i l
      have := List.length_take (i := i) (l := l)
      omega
    by_cases c : t < l[i].1
    · have k1 : (o.length + 1) * 32 ≤ LIM := by unfold LIM; omega
      simp only [c, decide_true, cond_true, k1]
      rw [wrap_i64 (n := (i : Int) + 1) (by omega) (by omega)]
      refine hrec _ ⟨i + 1, by simp, by omega, ?_⟩ (by simp only; omega)
      rw [take_filter hlt, ho]
      simp only [c, decide_true, if_true, List.append_assoc]
    · simp only [c, decide_false, cond_false]
      rw [wrap_i64 (n := (i : Int) + 1) (by omega) (by omega)]
      refine hrec _ ⟨i + 1, by simp, by omega, ?_⟩ (by simp only; omega)
      rw [take_filter hlt, ho]
      simp only [c, decide_false, Bool.false_eq_true, if_false, List.append_nil]
  · have h2 : ¬ ((i : Int) < (l.length : Int)) := by omega
    rw [List.take_of_length_le (by omega)] at ho
    simp only [h2, decide_false, cond_false, ← ho]
    by_cases c : 64 < o.length
    · have : (64 : Int) < (o.length : Int) := by omega
      simp only [c, this, decide_true, cond_true, if_true]
    · have : ¬ (64 : Int) < (o.length : Int) := by omega
      simp only [c, this, decide_false, cond_false, if_false]
theorem F30_eq (l : List Rec) (x : Rec) : F30 (l, x) = some (withT l x) := by
  unfold F30 withT
  simp only [F25_eq, Option.bind_some, Prod.eta]
  by_cases h : okT l
  · have hlen := h.1
    by_cases hx : 4096 < x.2.length
    · have h1 : (4096 : Int) < (x.2.length : Int) := by omega
      have h2 : ¬ x.2.length ≤ 4096 := by omega
      simp [h, h1, h2]
    · have h1 : ¬ (4096 : Int) < (x.2.length : Int) := by omega
      have h2 : x.2.length ≤ 4096 := by omega
      simp only [h, if_true, decide_true, Bool.not_true, cond_false, h1, decide_false, h2, and_self]
      have hres : (if 64 < ((l.filter (fun r => decide (r.1 < x.1)) ++ [x]) ++ l.filter (fun r => decide (x.1 < r.1))).length then ([], 7) else ((l.filter (fun r => decide (r.1 < x.1)) ++ [x]) ++ l.filter (fun r => decide (x.1 < r.1)), 0)) = (if fnd l x.1 = false ∧ l.length = 64 then (([] : List Rec), (7 : Int)) else (ins l x, 0)) := by
        rw [← ins_filter l x h.2.2]
        have il := ins_len l x
        cases hf : fnd l x.1 with
        | true =>
          rw [hf] at il
          simp only [if_true] at il
          have : ¬ 64 < (ins l x).length := by omega
          simp [this]
        | false =>
          rw [hf] at il
          simp only [Bool.false_eq_true, if_false] at il
          by_cases h64 : l.length = 64
          · have : 64 < (ins l x).length := by omega
            simp [this, h64]
          · have : ¬ 64 < (ins l x).length := by omega
            simp [this, h64]
      refine Eq.trans ?_ (congrArg some hres)
      refine lfp_rule (fun y => ∃ i : Nat, y.2 = (i : Int) ∧ i ≤ l.length ∧ y.1 = (l.take i).filter (fun r => decide (r.1 < x.1))) (fun y => l.length - y.2.toNat) (fun _ => (if 64 < ((l.filter (fun r => decide (r.1 < x.1)) ++ [x]) ++ l.filter (fun r => decide (x.1 < r.1))).length then ([], 7) else ((l.filter (fun r => decide (r.1 < x.1)) ++ [x]) ++ l.filter (fun r => decide (x.1 < r.1)), 0))) ?_ ([], 0) ⟨0, rfl, by omega, by simp⟩
      rintro ⟨o, i'⟩ ⟨i, hi', hi, ho⟩ rec hrec
      simp only at hi' ho
      subst hi'
      have hol : o.length ≤ 64 := by
        rw [ho]
        have := @filter_le (fun r => decide (r.1 < x.1)) (l.take i)
        have := List.length_take (i := i) (l := l)
        omega
      have k1 : (o.length + 1) * 32 ≤ LIM := by unfold LIM; omega
      simp only
      by_cases hlt : i < l.length
      · have h2 : ((i : Int) < (l.length : Int)) := by omega
        simp only [h2, decide_true, cond_true, inb_true (Int.natCast_nonneg i) h2, rd_nat (t := tR) hlt]
        by_cases c : l[i].1 < x.1
        · simp only [c, decide_true, cond_true, k1]
          rw [wrap_i64 (n := (i : Int) + 1) (by omega) (by omega)]
          refine hrec _ ⟨i + 1, by simp, by omega, ?_⟩ (by simp only; omega)
          rw [take_filter hlt, ho]
          simp only [c, decide_true, if_true]
        · simp only [c, decide_false, cond_false]
          rw [wrap_i64 (n := (i : Int) + 1) (by omega) (by omega)]
          refine hrec _ ⟨i + 1, by simp, by omega, ?_⟩ (by simp only; omega)
          rw [take_filter hlt, ho]
          simp only [c, decide_false, Bool.false_eq_true, if_false, List.append_nil]
      · have h2 : ¬ ((i : Int) < (l.length : Int)) := by omega
        rw [List.take_of_length_le (by omega)] at ho
        have k2 : (([] : List Int).length + x.2.length) * 1 ≤ LIM := by unfold LIM; simp only [List.length_nil]; omega
        simp only [h2, decide_false, cond_false, both_self, Bool.or_true, cond_true, k1, k2, decide_true, List.nil_append, Prod.eta]
        rw [with_loop hlen (by simp only [List.length_append, List.length_cons, List.length_nil]; omega), ho]
  · simp [h]
theorem with_small (l : List Rec) (x : Rec) : (withT l x).1.length ≤ 65 ∧ ∀ r ∈ (withT l x).1, r.2.length ≤ 4096 := by
  unfold withT
  by_cases h : okT l ∧ x.2.length ≤ 4096
  · rw [if_pos h]
    by_cases c : fnd l x.1 = false ∧ l.length = 64
    · rw [if_pos c]; simp
    · rw [if_neg c]
      refine ⟨?_, fun r hr => ?_⟩
      · have := h.1.1; rw [ins_len]; split <;> omega
      · rcases ins_mem l x r hr with rfl | hr
        · exact h.2
        · exact h.1.2.1 r hr
  · rw [if_neg h]; simp
theorem F28_any {m : List Rec} {t : Int} (h : ∀ r ∈ m, Bs r.2) : F28 (m, t) = some (numT m t) := by
  by_cases hl : okT m
  · exact Fnum_eq h hl
  · unfold F28 numT
    simp only [F17_eq, Option.bind_some]
    unfold findT
    simp [hl]
theorem F29_any {m : List Rec} {t : Int} (h : ∀ r ∈ m, Bs r.2) : F29 (m, t) = some (numT m t) := by
  by_cases hl : okT m
  · exact F29_eq h hl
  · unfold F29 numT
    simp only [F27_eq, Option.bind_some]
    unfold findT
    simp [hl]
theorem F8_true {l : List Rec} {x : Rec} {t : Int} (hv : ∀ r ∈ l, OkV r) (hl : l.length ≤ 9223372036854775807) : F8 (l, x, t) = some true := by
  unfold F8
  simp only [F13_eq', Option.bind_some, Bool.not_true, cond_false, F14_eq l hl]
  generalize hc : ((l.all fun r => !bigV r) && decide ((l.length : Int) ≤ 70)) = c
  generalize (bif (bif decide (100 < (x.2.length : Int)) then decide ((x.2.length : Int) ≤ 4096) else false) then true else decide (4100 < (x.2.length : Int))) = c3
  cases c with
  | false => rfl
  | true =>
    cases c3 with
    | true => rfl
    | false =>
      obtain ⟨hs1, hs2⟩ := with_small l x
      have hb : ∀ r ∈ l, Bs r.2 := fun r hr => (hv r hr).2
      simp only [Bool.not_true, beq_self_eq_true, cond_true, cond_false, F17_eq, F27_eq, F28_any hb, F29_any hb, F15_eq, F30_eq, Option.bind_some, F18_eq, decide_true, F24_eq (a := (withT l x).1) (b := (withT l x).1) (by omega), Prod.eta]
      exact incr_loop (l := (withT l x).1) (by omega) (fun r hr => by have := hs2 r hr; omega) (k := true) rfl
theorem pure8 (b : dens [.one (.slice 26 (.pair (.int .u64) (.slice 5 (.int .u8)))), .agg (.pair (.int .u64) (.slice 5 (.int .u8))), .one (.int .u64)]) (h : Goods [.one (.slice 26 (.pair (.int .u64) (.slice 5 (.int .u8)))), .agg (.pair (.int .u64) (.slice 5 (.int .u8))), .one (.int .u64)] b) : F8 b = some true :=
  F8_true (recs_of h.1).1 (recs_of h.1).2
end Go.Proofs.Ytacebemdonoliaa.R4
