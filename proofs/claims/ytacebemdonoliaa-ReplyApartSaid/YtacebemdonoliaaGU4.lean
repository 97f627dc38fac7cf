/- Part of a proof: what the program's functions come to. -/
import Derived.Test.YtacebemdonoliaaGU3
set_option linter.unusedVariables false
set_option linter.unusedSimpArgs false
namespace Go.Proofs.Ytacebemdonoliaa.R4
open Go Go.Fw Go.Proofs RB
set_option maxRecDepth 20000
theorem just {i : Int} (h : U64 i) : RpOk (i, (0, (0, (0, (0, ([], ([], (0, ([], 0)))))))) ) ∧ okP (i, (0, (0, (0, (0, ([], ([], (0, ([], 0)))))))) ) ∧ rpB (i, (0, (0, (0, (0, ([], ([], (0, ([], 0)))))))) ) = encR (1, enc1 i) := by
  have z : U64 0 := ⟨by decide, by decide⟩
  refine ⟨⟨h, by simp, z, z, by simp, by simp, by simp, ⟨z, by simp, by simp⟩, by simp, by simp, by simp⟩, ⟨by simp, by simp, by simp, by simp, by simp, by simp, by simp, by simp⟩, ?_⟩
  simp [rpB, recs, opt, numd]
theorem F31_eq' : F31 () = some true := by
  obtain ⟨h1, h2, h3⟩ := just (i := 5) ⟨by decide, by decide⟩
  unfold F31
  rw [F33_eq h1, if_pos h2, h3]
  rfl
theorem F9_true {r : Rp} (h : RpOk r) : F9 r = some true := by
  obtain ⟨j1, j2, j3⟩ := just h.id
  have e1 := enc1_len r.1
  have e0 : 1 ≤ (enc1 r.1).length := by unfold enc1; simp
  have hl : (encR (1, enc1 r.1)).length = 2 + (enc1 r.1).length := encR_small (by simp only; omega) (by simp only; omega)
  unfold F9
  simp only [Prod.eta, F31_eq', Option.bind_some, Bool.not_true, cond_false]
  cases hf : F32 r with
  | none => unfold F32 at hf; simp at hf
  | some f =>
    simp only [Option.bind_some]
    cases f with
    | false => rfl
    | true =>
      simp only [Bool.not_true, cond_false, F33_eq h, F33_eq j1, Option.bind_some, if_pos j2, j3]
      have c1 : ¬ (11 : Int) < ((encR (1, enc1 r.1)).length : Int) := by omega
      have c2 : ¬ ((encR (1, enc1 r.1)).length : Int) < 3 := by omega
      simp only [decide_true, Bool.not_true, cond_false, c1, c2, decide_false]
      by_cases k : okP r
      · have hlen := recs_len k
        have hsplit : rpB r = encR (1, enc1 r.1) ++ ((recs r).drop 1).flatMap encR := by
          have : recs r = (1, enc1 r.1) :: (recs r).drop 1 := by unfold recs; simp
          unfold rpB
          conv => lhs; rw [this]
          rw [List.flatMap_cons]
        have hle : (encR (1, enc1 r.1)).length ≤ (rpB r).length := by rw [hsplit, List.length_append]; omega
        have hlen' : (rpB r).length ≤ 1299 := hlen
        simp only [k, if_true, decide_true, Bool.not_true, cond_false]
        have c3 : ((encR (1, enc1 r.1)).length : Int) ≤ ((rpB r).length : Int) := by omega
        have c4 : inb ((encR (1, enc1 r.1)).length : Int) ((rpB r).length + 1) = true := inb_true (by omega) (by omega)
        have c5 : ((rpB r).length : Int) ≤ 1300 := by omega
        have c6 : (rpB r).take (encR (1, enc1 r.1)).length = encR (1, enc1 r.1) := by rw [hsplit]; simp
        simp only [c3, decide_true, beq_self_eq_true, cond_true, c4, Int.toNat_natCast, c6, F18_eq, Option.bind_some, c5]
      · simp only [k, if_false, F34_eq h, Option.bind_some]
        simp
theorem F60_eq {a b : List Ev} (hl : a.length ≤ 4611686018427387904) : F60 (a, b) = some (decide (a = b)) := by
  unfold F60
  by_cases hn : a.length = b.length
  · have : (a.length : Int) = (b.length : Int) := by omega
    simp only [this, decide_true, Bool.not_true, cond_false]
    rw [← this]
    refine same_loop (t := .pair (.int .u64) (.pair (.int .i64) (.pair (.int .u64) (.int .u64)))) hl hn (G := fun x y K => K (decide (x.1 = y.1) && (decide (x.2.1 = y.2.1) && (decide (x.2.2.1 = y.2.2.1) && decide (x.2.2.2 = y.2.2.2))))) ?_
    intro i h1 h2 K
    congr 1
    rw [Bool.eq_iff_iff]
    simp only [Bool.and_eq_true, decide_eq_true_eq]
    constructor
    · rintro ⟨q1, q2, q3, q4⟩; exact Prod.ext q1 (Prod.ext q2 (Prod.ext q3 q4))
    · intro q; rw [q]; exact ⟨rfl, rfl, rfl, rfl⟩
  · have : ¬ (a.length : Int) = (b.length : Int) := by omega
    have hne : a ≠ b := fun h => hn (by rw [h])
    simp [this, hne]
theorem F59_eq {a b : List Int} (hl : a.length ≤ 4611686018427387904) : F59 (a, b) = some (decide (a = b)) := by
  unfold F59
  by_cases hn : a.length = b.length
  · have : (a.length : Int) = (b.length : Int) := by omega
    simp only [this, decide_true, Bool.not_true, cond_false]
    rw [← this]
    exact same_loop (t := .int .u64) hl hn (G := fun x y K => K (decide (x = y))) (fun i h1 h2 K => rfl)
  · have : ¬ (a.length : Int) = (b.length : Int) := by omega
    have hne : a ≠ b := fun h => hn (by rw [h])
    simp [this, hne]
theorem F35_eq {r o : Rp} (k : okP r) : ∃ b, F35 (r, o) = some b ∧ (b = true ↔ r = o) := by
  obtain ⟨i, e, a, n, st, ids, evs, tok⟩ := r
  obtain ⟨i', e', a', n', st', ids', evs', tok'⟩ := o
  have h1 := k.ids
  have h2 := k.evl
  have h3 := k.tok.1
  simp only at h1 h2 h3
  unfold F35
  simp only [Prod.eta, F59_eq (a := ids) (b := ids') (by omega), F60_eq (a := evs) (b := evs') (by omega), F54_eq (a := tok) (b := tok') (by omega), Option.bind_some]
  by_cases c1 : i = i'
  · by_cases c2 : e = e'
    · by_cases c3 : a = a'
      · by_cases c4 : n = n'
        · by_cases c5 : st = st'
          · by_cases c6 : ids = ids'
            · by_cases c7 : evs = evs'
              · exact ⟨decide (tok = tok'), by simp [c1, c2, c3, c4, c5, c6, c7], by simp [c1, c2, c3, c4, c5, c6, c7]⟩
              · exact ⟨false, by simp [c1, c2, c3, c4, c5, c6, c7], by simp [c7]⟩
            · exact ⟨false, by simp [c1, c2, c3, c4, c5, c6], by simp [c6]⟩
          · exact ⟨false, by simp [c1, c2, c3, c4, c5], by simp [c5]⟩
        · exact ⟨false, by simp [c1, c2, c3, c4], by simp [c4]⟩
      · exact ⟨false, by simp [c1, c2, c3], by simp [c3]⟩
    · exact ⟨false, by simp [c1, c2], by simp [c2]⟩
  · exact ⟨false, by simp [c1], by simp [c1]⟩
theorem F10_true {r o : Rp} (h : RpOk r) (ho : RpOk o) : F10 (r, o) = some true := by
  unfold F10
  simp only [Prod.eta, both_self, F31_eq', Option.bind_some, Bool.not_true, cond_false]
  cases hf : F32 r with
  | none => unfold F32 at hf; simp at hf
  | some f =>
    cases hg : F32 o with
    | none => unfold F32 at hg; simp at hg
    | some g =>
      simp only [Option.bind_some]
      cases f with
      | false => rfl
      | true =>
        cases g with
        | false => rfl
        | true =>
          simp only [Bool.not_true, cond_false, beq_self_eq_true, cond_true, F33_eq h, F33_eq ho, Option.bind_some]
          by_cases k : okP r
          · by_cases k2 : okP o
            · have l1 : (rpB r).length ≤ 1299 := recs_len k
              have l2 : 0 < (rpB r).length := by
                have : recs r = (1, enc1 r.1) :: (recs r).drop 1 := by unfold recs; simp
                unfold rpB
                rw [this, List.flatMap_cons, List.length_append]
                have := List.length_pos_iff.2 (encR_ne (1, enc1 r.1))
                omega
              have c1 : ((rpB r).length : Int) ≤ 4096 := by omega
              have c2 : (0 : Int) < ((rpB r).length : Int) := by omega
              obtain ⟨b, hb1, hb2⟩ := F35_eq (o := o) k
              have c3 : decide (rpB r = rpB o) = b := by
                rw [Bool.eq_iff_iff, decide_eq_true_eq, hb2]
                exact ⟨fun q => rpB_inj h ho k k2 q, fun q => by rw [q]⟩
              simp only [k, k2, if_true, decide_true, Bool.not_true, cond_false, F18_eq, hb1, Option.bind_some, c1, c2, c3, beq_self_eq_true, cond_true]
            · simp [k, k2]
          · simp [k]
theorem rp_of {r : Rp} (h : Fw.Good (.pair (.int .u64) (.pair (.int .i64) (.pair (.int .u64) (.pair (.int .u64) (.pair (.int .i64) (.pair (.slice 23 (.int .u64)) (.pair (.slice 81 (.pair (.int .u64) (.pair (.int .i64) (.pair (.int .u64) (.int .u64))))) (.pair (.int .u64) (.pair (.slice 95 (.pair (.int .i64) (.pair (.int .u64) (.int .u64)))) (.int .i64)))))))))) r) : RpOk r :=
  ⟨u64_of h.1, i64_of h.2.1, u64_of h.2.2.1, u64_of h.2.2.2.1, i64_of h.2.2.2.2.1, fun n hn => u64_of (h.2.2.2.2.2.1.2 n hn), fun x hx => ⟨u64_of (h.2.2.2.2.2.2.1.2 x hx).1, i64_of (h.2.2.2.2.2.2.1.2 x hx).2.1, u64_of (h.2.2.2.2.2.2.1.2 x hx).2.2.1, u64_of (h.2.2.2.2.2.2.1.2 x hx).2.2.2⟩,
    ⟨u64_of h.2.2.2.2.2.2.2.1, fun c hc => cv_of (h.2.2.2.2.2.2.2.2.1.2 c hc), i64_of h.2.2.2.2.2.2.2.2.2⟩, h.2.2.2.2.2.1.1, h.2.2.2.2.2.2.1.1, h.2.2.2.2.2.2.2.2.1.1⟩
theorem pure9 (b : dens [.agg (.pair (.int .u64) (.pair (.int .i64) (.pair (.int .u64) (.pair (.int .u64) (.pair (.int .i64) (.pair (.slice 23 (.int .u64)) (.pair (.slice 81 (.pair (.int .u64) (.pair (.int .i64) (.pair (.int .u64) (.int .u64))))) (.pair (.int .u64) (.pair (.slice 95 (.pair (.int .i64) (.pair (.int .u64) (.int .u64)))) (.int .i64))))))))))]) (h : Goods [.agg (.pair (.int .u64) (.pair (.int .i64) (.pair (.int .u64) (.pair (.int .u64) (.pair (.int .i64) (.pair (.slice 23 (.int .u64)) (.pair (.slice 81 (.pair (.int .u64) (.pair (.int .i64) (.pair (.int .u64) (.int .u64))))) (.pair (.int .u64) (.pair (.slice 95 (.pair (.int .i64) (.pair (.int .u64) (.int .u64)))) (.int .i64))))))))))] b) : F9 b = some true := F9_true (rp_of h)
theorem pure10 (b : dens [.agg (.pair (.int .u64) (.pair (.int .i64) (.pair (.int .u64) (.pair (.int .u64) (.pair (.int .i64) (.pair (.slice 23 (.int .u64)) (.pair (.slice 81 (.pair (.int .u64) (.pair (.int .i64) (.pair (.int .u64) (.int .u64))))) (.pair (.int .u64) (.pair (.slice 95 (.pair (.int .i64) (.pair (.int .u64) (.int .u64)))) (.int .i64)))))))))), .agg (.pair (.int .u64) (.pair (.int .i64) (.pair (.int .u64) (.pair (.int .u64) (.pair (.int .i64) (.pair (.slice 23 (.int .u64)) (.pair (.slice 81 (.pair (.int .u64) (.pair (.int .i64) (.pair (.int .u64) (.int .u64))))) (.pair (.int .u64) (.pair (.slice 95 (.pair (.int .i64) (.pair (.int .u64) (.int .u64)))) (.int .i64))))))))))]) (h : Goods [.agg (.pair (.int .u64) (.pair (.int .i64) (.pair (.int .u64) (.pair (.int .u64) (.pair (.int .i64) (.pair (.slice 23 (.int .u64)) (.pair (.slice 81 (.pair (.int .u64) (.pair (.int .i64) (.pair (.int .u64) (.int .u64))))) (.pair (.int .u64) (.pair (.slice 95 (.pair (.int .i64) (.pair (.int .u64) (.int .u64)))) (.int .i64)))))))))), .agg (.pair (.int .u64) (.pair (.int .i64) (.pair (.int .u64) (.pair (.int .u64) (.pair (.int .i64) (.pair (.slice 23 (.int .u64)) (.pair (.slice 81 (.pair (.int .u64) (.pair (.int .i64) (.pair (.int .u64) (.int .u64))))) (.pair (.int .u64) (.pair (.slice 95 (.pair (.int .i64) (.pair (.int .u64) (.int .u64)))) (.int .i64))))))))))] b) : F10 b = some true := F10_true (rp_of h.1) (rp_of h.2)
end Go.Proofs.Ytacebemdonoliaa.R4
