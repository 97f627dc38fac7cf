/- Part of a proof: what the program's functions come to. -/
import Derived.Test.YtcpcbeeghjigkaaKQA
set_option linter.unusedVariables false
set_option linter.unusedSimpArgs false
namespace Go.Proofs.Ytcpcbeeghjigkaa.R3
open Go Go.Fw Go.Proofs RB
set_option maxRecDepth 20000
theorem putA_small (a : List Tm) (n : Tm) : (putA a n).1.length ≤ a.length + 1 ∧ ∀ x ∈ (putA a n).1, x.2.2.length ≤ 4096 := by
  unfold putA
  by_cases h1 : ¬ valid a ∨ (a.length : Int) ≤ n.2.1
  · rw [if_pos h1]; simp
  · rw [if_neg h1]
    have hv : valid a := Classical.byContradiction fun q => h1 (.inl q)
    by_cases h2 : 4096 < n.2.2.length
    · rw [if_pos h2]; simp
    · rw [if_neg h2]
      by_cases h3 : n ∈ a
      · rw [if_pos h3]; exact ⟨by simp, hv.text⟩
      · rw [if_neg h3]
        by_cases h4 : a.length = 1048576
        · rw [if_pos h4]; simp
        · rw [if_neg h4]
          refine ⟨by simp, fun x hx => ?_⟩
          rcases List.mem_append.1 hx with hx | hx
          · exact hv.text x hx
          · simp only [List.mem_singleton] at hx; subst hx; omega
/-- Every octet of the texts is counted up: nothing goes wrong. -/
theorem incr_loop {l : List Tm} (hl : l.length ≤ 1000000) (hv : ∀ r ∈ l, r.2.2.length ≤ 1000000) {K : Option Bool} {k : Bool} (hK : K = some k) :
    lfp (fun (rec14 : Int → Option Bool) (x14 : Int) =>
      bif decide (x14 < (l.length : Int)) then (
      bif inb x14 l.length then
      lfp (fun (rec15 : Int → Option Bool) (x15 : Int) =>
       bif decide (x15 < ((((rd (.pair (.int .u64) (.pair (.int .i64) (.slice 5 (.int .u8)))) l x14).2).2).length : Int)) then (
       bif inb x14 l.length then
       bif inb x15 (((rd (.pair (.int .u64) (.pair (.int .i64) (.slice 5 (.int .u8)))) l x14).2).2).length then
       bif inb x15 (((rd (.pair (.int .u64) (.pair (.int .i64) (.slice 5 (.int .u8)))) l x14).2).2).length then
       rec15 (IntKind.wrap .i64 (x15 + 1))
       else none
       else none
       else none)
       else (
       rec14 (IntKind.wrap .i64 (x14 + 1)))) 0
      else none)
      else K) 0 = K := by
  rw [hK]
  refine lfp_rule (fun x => ∃ i : Nat, x = (i : Int) ∧ i ≤ l.length) (fun x => l.length - x.toNat) (fun _ => k) ?_ 0 ⟨0, rfl, by omega⟩
  rintro _ ⟨i, rfl, hi⟩ rec hrec
  by_cases hlt : i < l.length
  · have h2 : ((i : Int) < (l.length : Int)) := by omega
    have hvi := hv _ (List.getElem_mem hlt)
    simp only [h2, decide_true, cond_true, inb_true (Int.natCast_nonneg i) h2, rd_nat (t := tT) hlt]
    have hr : rec (IntKind.wrap .i64 ((i : Int) + 1)) = some k := by
      rw [RB.wrap_i64 (n := (i : Int) + 1) (by omega) (by omega)]
      exact hrec _ ⟨i + 1, by simp, by omega⟩ (by omega)
    rw [hr]
    refine lfp_rule (fun x => ∃ j : Nat, x = (j : Int) ∧ j ≤ l[i].2.2.length) (fun x => l[i].2.2.length - x.toNat) (fun _ => k) ?_ 0 ⟨0, rfl, by omega⟩
    rintro _ ⟨j, rfl, hj⟩ rec2 hrec2
    by_cases hlj : j < l[i].2.2.length
    · have h3 : ((j : Int) < (l[i].2.2.length : Int)) := by omega
      simp only [h3, decide_true, cond_true, inb_true (Int.natCast_nonneg j) h3]
      rw [RB.wrap_i64 (n := (j : Int) + 1) (by omega) (by omega)]
      exact hrec2 _ ⟨j + 1, by simp, by omega⟩ (by omega)
    · have h3 : ¬ ((j : Int) < (l[i].2.2.length : Int)) := by omega
      simp only [h3, decide_false, cond_false]
  · have h2 : ¬ ((i : Int) < (l.length : Int)) := by omega
    simp only [h2, decide_false, cond_false]
theorem F19_eq (a : List Tm) (k : Int) (t : List Int) : F19 (a, k, t) = some (putA a (k, (-1, t))) := by
  unfold F19
  simp only [F52_eq (a := a) (n := (k, ((-1 : Int), t))) (by simp), Option.bind_some]
theorem F21_eq (a : List Tm) (g : Int) (t : List Int) : F21 (a, g, t) = some (if g < 0 then ([], 0, 1) else putA a (0, (g, t))) := by
  unfold F21
  by_cases h : g < 0
  · simp [h]
  · simp only [h, decide_false, cond_false, F52_eq (a := a) (n := ((0 : Int), (g, t))) (by simp only; omega), Option.bind_some, if_false]
theorem F3_true {a o : List Tm} {k g : Int} {t : List Int} (ha : a.length ≤ 9223372036854775807) (ho : o.length ≤ 9223372036854775807) : F3 (a, o, k, g, t) = some true := by
  unfold F3
  simp only [F14_true, F15_eq ha, F15_eq ho, F16_eq (l := [t]) (by simp), Option.bind_some, Bool.not_true, cond_false]
  cases f1 : fewA a with
  | false => rfl
  | true =>
    cases f2 : fewA o with
    | false => rfl
    | true =>
      cases f3 : fewT [t] with
      | false => rfl
      | true =>
        have hal : a.length ≤ 80 := by
          unfold fewA at f1
          simp only [Bool.and_eq_true, decide_eq_true_eq] at f1
          have := f1.2; omega
        have hat : ∀ n ∈ a, n.2.2.length ≤ 4096 := by
          unfold fewA at f1
          simp only [Bool.and_eq_true, List.all_eq_true, Bool.not_eq_true', decide_eq_false_iff_not] at f1
          intro n hn
          have := f1.1 n hn; omega
        have hg : (if g < 0 then (([] : List Tm), (0 : Int), (1 : Int)) else putA a (0, (g, t))).1.length ≤ 4611686018427387904 := by
          split
          · simp
          · have := (putA_small a (0, (g, t))).1; omega
        obtain ⟨s1, s2⟩ := putA_small a (k, (-1, t))
        simp only [Bool.not_true, beq_self_eq_true, cond_true, cond_false, F17_eq (a := a) (by omega) hat, F18_eq, F19_eq, F20_eq, F21_eq, Option.bind_some, F22_eq (a := (putA a (k, (-1, t))).1) (b := (putA a (k, (-1, t))).1) (by omega), F22_eq hg, decide_true, F23_eq, F24_eq, F25_eq (a := a) (b := o) (by omega), F22_eq (a := a) (b := o) (by omega), F22_eq (a := a) (b := a) (by omega)]
        exact incr_loop (l := (putA a (k, (-1, t))).1) (by omega) (fun r hr => by have := s2 r hr; omega) (k := true) rfl
theorem pure3 (b : dens [.agg (.slice 39 (.pair (.int .u64) (.pair (.int .i64) (.slice 5 (.int .u8))))), .agg (.slice 39 (.pair (.int .u64) (.pair (.int .i64) (.slice 5 (.int .u8))))), .one (.int .u64), .one (.int .i64), .one (.slice 5 (.int .u8))]) (h : Goods [.agg (.slice 39 (.pair (.int .u64) (.pair (.int .i64) (.slice 5 (.int .u8))))), .agg (.slice 39 (.pair (.int .u64) (.pair (.int .i64) (.slice 5 (.int .u8))))), .one (.int .u64), .one (.int .i64), .one (.slice 5 (.int .u8))] b) : F3 b = some true := F3_true h.1.1 h.2.1.1
end Go.Proofs.Ytcpcbeeghjigkaa.R3
