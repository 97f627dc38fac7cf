/- Part of a proof: what the program's functions come to. -/
import Derived.Test.YtgdfhijgjjcnjaaDoorDGC
set_option linter.unusedVariables false
set_option linter.unusedSimpArgs false
namespace Go.Proofs.YtgdfhijgjjcnjaaDoor.R5
open Go Go.Fw Go.Proofs RB
set_option maxRecDepth 20000
def r57 : Rq := (5, (7, (0, (0, ([], (0, (0, (0, (0, ([], []))))))))))
theorem r57_ok : RqOk r57 where
  id := ⟨by decide, by decide⟩
  me := ⟨by decide, by decide⟩
  key := ⟨by decide, by decide⟩
  tok := ⟨⟨by decide, by decide⟩, by simp [r57], by decide, by decide⟩
  a := ⟨by decide, by decide⟩
  n := ⟨by decide, by decide⟩
  till := ⟨by decide, by decide⟩
  its := by simp [r57, Rq.its]
  cvs := by simp [r57, Rq.cvs]
  l1 := by simp [r57]
  l2 := by simp [r57, Rq.its]
  l3 := by simp [r57, Rq.cvs]
theorem r57_q : okQ r57 := ⟨by decide, by decide, by decide, by simp [r57]⟩
theorem r57_pr : (prQ r57).flatMap encR = [2, 1, 7] := by decide
theorem F7_eq : F7 () = some true := by
  unfold F7
  have := F12_eq r57_ok
  rw [if_pos r57_q, r57_pr] at this
  rw [show ((5, (7, (0, (0, ([], (0, (0, (0, (0, ([], [])))))))))) : Rq) = r57 from rfl, this]
  simp
def few (r : Rq) : Bool := decide (r.tok.2.1.length ≤ 20) && (decide (r.its.length ≤ 20) && decide (r.cvs.length ≤ 20))
theorem F8_eq (r : Rq) : F8 r = some (few r) := by
  unfold F8 few
  congr 1
  have e : ∀ n : Nat, decide ((n : Int) ≤ 20) = decide (n ≤ 20) := fun n => by rw [decide_eq_decide]; omega
  simp only [e]
  cases decide (r.2.2.2.2.1.length ≤ 20) <;> cases decide (r.2.2.2.2.2.2.2.2.2.1.length ≤ 20) <;> rfl
open Classical in
/-- How much it is about. -/
noncomputable def amt (r : Rq) : Int × Int := if okQ r then (if r.me = 1 then (r.n, 0) else if r.me = 2 then sumI r.its else (0, 0)) else (0, 1)
theorem F9_eq {r : Rq} (h : RqOk r) : F9 r = some (amt r) := by
  have hF10 := F10_eq h
  unfold F9 amt
  rw [show (r.1, (r.2.1, (r.2.2.1, (r.2.2.2.1, (r.2.2.2.2.1, (r.2.2.2.2.2.1, (r.2.2.2.2.2.2.1, (r.2.2.2.2.2.2.2.1, (r.2.2.2.2.2.2.2.2.1, (r.2.2.2.2.2.2.2.2.2.1, r.2.2.2.2.2.2.2.2.2.2)))))))))) = r from rfl, hF10]
  simp only [Option.bind_some, F11_eq h.l2 h.its]
  by_cases k : okQ r
  · by_cases h1 : r.2.1 = 1
    · simp [k, h1, Rq.me, Rq.n]
    · by_cases h2 : r.2.1 = 2
      · simp [k, h1, h2, Rq.me, Rq.its]
      · simp [k, h1, h2, Rq.me]
  · simp [k]
theorem okQ_pay {r : Rq} (k : okQ r) (h : r.me = 1) : 0 < r.n ∧ r.n ≤ 4611686018427387904 := by
  have h1 := k.1
  rw [okL_eq, h] at h1
  simp only [Bool.and_eq_true] at h1
  have h2 := h1.1.1.1.2
  rw [show decide (bitOp .and .i64 (whatM 1) 4 = 0) = false by decide] at h2
  simp only [cond_false, isN, h] at h2
  rw [show decide (bitOp .and .i64 (whatM 1) 64 = 0) = false by decide] at h2
  simp only [Bool.false_or, Bool.and_eq_true, decide_eq_true_eq, Bool.not_eq_true', decide_eq_false_iff_not] at h2
  omega
theorem okQ_batch {r : Rq} (k : okQ r) (h : r.me = 2) : (sumI r.its).2 = 0 := by
  have h1 := k.1
  rw [okL_eq, h] at h1
  simp only [Bool.and_eq_true] at h1
  have h2 := h1.1.2
  rw [show decide (bitOp .and .i64 (whatM 2) 16 = 0) = false by decide] at h2
  simpa using h2
theorem sumI_pos {l : List It} (hu : ∀ x ∈ l, U64 x.1 ∧ U64 x.2) (h : (sumI l).2 = 0) : 0 < (sumI l).1 := by
  obtain ⟨h1, _, h3, _, h5⟩ := sumI_len h
  rw [h5]
  cases l with
  | nil => exact absurd rfl h1
  | cons x r =>
    have ho := h3 x (by simp)
    have hx := (hu x (by simp)).2.1
    have hr := tot_nonneg (l := r) (fun y hy => (hu y (by simp [hy])).2.1)
    simp only [oddI, Bool.or_eq_false_iff, decide_eq_false_iff_not] at ho
    simp only [tot]
    omega
theorem F3_true {r : Rq} (h : RqOk r) : F3 r = some true := by
  have hF10 := F10_eq h
  unfold F3
  rw [show (r.1, (r.2.1, (r.2.2.1, (r.2.2.2.1, (r.2.2.2.2.1, (r.2.2.2.2.2.1, (r.2.2.2.2.2.2.1, (r.2.2.2.2.2.2.2.1, (r.2.2.2.2.2.2.2.2.1, (r.2.2.2.2.2.2.2.2.2.1, r.2.2.2.2.2.2.2.2.2.2)))))))))) = r from rfl]
  simp only [F7_eq, F8_eq, F9_eq h, hF10, Option.bind_some, Bool.not_true, cond_false, F11_eq h.l2 h.its]
  cases few r with
  | false => simp
  | true =>
    simp only [Bool.not_true, cond_false]
    unfold amt
    by_cases k : okQ r
    · by_cases h1 : r.2.1 = 1
      · have hp := okQ_pay k h1
        simp only [Rq.n] at hp
        simp [k, h1, Rq.me, Rq.n, hp]
      · by_cases h2 : r.2.1 = 2
        · have hb := okQ_batch k h2
          have hp := sumI_pos h.its hb
          simp only [Rq.its] at hb hp
          simp [k, h1, h2, Rq.me, Rq.its, hb, hp]
        · simp [k, h1, h2, Rq.me]
    · simp [k]
theorem pure3 (b : dens [.agg tRq]) (h : Goods [.agg tRq] b) : F3 b = some true := F3_true (rq_of h)
end Go.Proofs.YtgdfhijgjjcnjaaDoor.R5
