/- Part of a proof: what the program's functions come to. -/
import Derived.Test.YtpgfkfmmnciblaaGQ2
set_option linter.unusedVariables false
set_option linter.unusedSimpArgs false
namespace Go.Proofs.Ytpgfkfmmnciblaa.R1
open Go Go.Fw Go.Proofs
def allC (l : List Cv) (u : Us) : Bool × Int :=
  if l.length ≤ 16 ∧ may u = true then (if l.all (fun c => decide (chk c = 0)) = true then (l.all (fun c => holds c u), 0) else (false, 1)) else (false, 1)
theorem F24_eq {l : List Cv} {u : Us} (hl : ∀ c ∈ l, CvOk c) (hu : UsOk u) : F24 (l, u) = some (allC l u) := by
  unfold F24 allC
  simp only [Prod.eta, F40_eq, Option.bind_some]
  by_cases h1 : 16 < l.length
  · have : (16 : Int) < (l.length : Int) := by omega
    have h2 : ¬ l.length ≤ 16 := by omega
    simp [this, h2]
  · have h0 : ¬ (16 : Int) < (l.length : Int) := by omega
    have h2 : l.length ≤ 16 := by omega
    by_cases hm : may u = true
    · simp only [h0, decide_false, beq_self_eq_true, cond_true, hm, Bool.not_true, cond_false, h2, and_self, if_true]
      refine lfp_rule (fun x => ∃ i : Nat, x.2.2.2 = (i : Int) ∧ i ≤ l.length ∧ (l.take i).all (fun c => decide (chk c = 0)) = true ∧ x.2.2.1 = (l.take i).all (fun c => holds c u)) (fun x => l.length - x.2.2.2.toNat)
        (fun _ => if l.all (fun c => decide (chk c = 0)) = true then (l.all (fun c => holds c u), 0) else (false, 1)) ?_ (false, 0, true, 0) ⟨0, rfl, by omega, rfl, rfl⟩
      rintro ⟨v1, v2, v3, i'⟩ ⟨i, rfl, hi, hall, hv⟩ rec hrec
      simp only at hv
      subst hv
      simp only
      by_cases hlt : i < l.length
      · have k1 : (i : Int) < (l.length : Int) := by omega
        obtain ⟨hh, hrd⟩ := rd_get (t := .pair (.int .i64) (.pair (.int .u64) (.int .u64))) (l := l) (i := i) (by omega) k1
        have hrd2 : rd (.pair (.int .i64) (.pair (.int .u64) (.int .u64))) l i = l[i] := by rw [hrd]; simp
        have hc : CvOk l[i] := hl _ (List.getElem_mem _)
        have ht : l.take (i + 1) = l.take i ++ [l[i]] := by rw [List.take_add_one, List.getElem?_eq_getElem hlt, Option.toList_some]
        simp only [k1, decide_true, cond_true, inb_true (Int.natCast_nonneg i) k1, hrd2, F25_eq hc hu, Option.bind_some]
        rw [wrap_i64 (n := (i : Int) + 1) (by omega) (by omega)]
        unfold holds1
        by_cases hk : chk l[i] = 0
        · simp only [hk, hm, and_self, if_true, decide_true, Bool.not_true, cond_false]
          refine hrec _ ⟨i + 1, by simp, by omega, ?_, ?_⟩ (by simp only; omega)
          · rw [ht, List.all_append, hall]; simp [hk]
          · simp only
            rw [ht, List.all_append]
            cases (l.take i).all (fun c => holds c u) <;> simp
        · have : ¬ l.all (fun c => decide (chk c = 0)) = true := fun h => by
            have := List.all_eq_true.1 h _ (List.getElem_mem hlt)
            exact hk (by simpa using this)
          simp [hk, this]
      · have k1 : ¬ (i : Int) < (l.length : Int) := by omega
        rw [List.take_of_length_le (by omega)] at hall ⊢
        simp only [k1, decide_false, cond_false, hall, if_true]
    · have hm' : may u = false := by simpa using hm
      simp [h0, hm']
theorem F7_true {l : List Cv} {c : Cv} {u : Us} (hl : ∀ c ∈ l, CvOk c) (hc : CvOk c) (hu : UsOk u) : F7 (l, c, u) = some true := by
  unfold F7
  simp only [both_self, F23_eq, Prod.eta, Option.bind_some, Bool.not_true, cond_false, F24_eq hl hu]
  by_cases h1 : 15 < l.length
  · have : (15 : Int) < (l.length : Int) := by omega
    simp [this]
  · have h0 : ¬ (15 : Int) < (l.length : Int) := by omega
    have e1 : (0 + l.length) * 24 ≤ LIM := by unfold LIM; omega
    have e2 : (l.length + 1) * 24 ≤ LIM := by unfold LIM; omega
    have e3 : (1 + l.length) * 24 ≤ LIM := by unfold LIM; omega
    have ha1 : ∀ x ∈ l ++ [c], CvOk x := fun x hx => by
      rcases List.mem_append.1 hx with h | h
      · exact hl x h
      · rw [List.mem_singleton.1 h]; exact hc
    have ha2 : ∀ x ∈ [c] ++ l, CvOk x := fun x hx => by
      rcases List.mem_append.1 hx with h | h
      · rw [List.mem_singleton.1 h]; exact hc
      · exact hl x h
    simp only [h0, decide_false, cond_false, Bool.or_true, cond_true, List.nil_append, List.length_nil, List.length_singleton, e1, e2, e3, decide_true, F24_eq ha1 hu, F24_eq ha2 hu, Option.bind_some, F25_eq hc hu, both_self]
    have s0 : l.length ≤ 16 := by omega
    have s1 : (l ++ [c]).length ≤ 16 := by simp; omega
    have s2 : ([c] ++ l).length ≤ 16 := by simp; omega
    unfold allC holds1
    simp only [s0, s1, s2, true_and, List.all_append, List.all_cons, List.all_nil, Bool.and_true, Bool.and_comm]
    cases may u with
    | false => simp
    | true =>
      by_cases hk : chk c = 0
      · cases x : l.all (fun c => decide (chk c = 0)) with
        | false => simp [hk]
        | true =>
          cases y : l.all (fun c => holds c u) <;> cases z : holds c u <;> simp [hk]
      · cases x : l.all (fun c => decide (chk c = 0)) <;> simp [hk]
theorem pure7 (b : dens [.one (.slice 40 (.pair (.int .i64) (.pair (.int .u64) (.int .u64)))), .agg (.pair (.int .i64) (.pair (.int .u64) (.int .u64))), .agg (.pair (.int .u64) (.pair (.int .i64) (.pair (.int .u64) (.int .u64))))])
    (h : Goods [.one (.slice 40 (.pair (.int .i64) (.pair (.int .u64) (.int .u64)))), .agg (.pair (.int .i64) (.pair (.int .u64) (.int .u64))), .agg (.pair (.int .u64) (.pair (.int .i64) (.pair (.int .u64) (.int .u64))))] b) : F7 b = some true :=
  F7_true (fun c hc => cv_of (h.1.2 c hc)) (cv_of h.2.1) (us_of h.2.2)
theorem pure8 (b : dens [.agg (.pair (.int .i64) (.pair (.int .u64) (.int .u64))), .agg (.pair (.int .i64) (.pair (.int .u64) (.int .u64))), .agg (.pair (.int .u64) (.pair (.int .i64) (.pair (.int .u64) (.int .u64))))])
    (h : Goods [.agg (.pair (.int .i64) (.pair (.int .u64) (.int .u64))), .agg (.pair (.int .i64) (.pair (.int .u64) (.int .u64))), .agg (.pair (.int .u64) (.pair (.int .i64) (.pair (.int .u64) (.int .u64))))] b) : F8 b = some true :=
  F8_true (cv_of h.1) (cv_of h.2.1) (us_of h.2.2)
end Go.Proofs.Ytpgfkfmmnciblaa.R1
