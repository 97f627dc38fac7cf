/- Part of a proof: what the program's functions come to. -/
import Derived.Test.YtacebemdonoliaaGT1
import Derived.Test.YtacebemdonoliaaGZ2
set_option linter.unusedVariables false
set_option linter.unusedSimpArgs false
namespace Go.Proofs.Ytacebemdonoliaa.R4
open Go Go.Fw Go.Proofs RB
theorem F20_live : F20 [(3, [7, 8])] = some ([3, 2, 7, 8], 0) := by
  unfold F20
  have ok : okT [(3, [7, 8])] := ⟨by simp, by simp, by simp [Sorted]⟩
  simp only [F19_eq, ok, if_true, Option.bind_some, both_self, decide_true, Bool.not_true, cond_false]
  refine lfp_intro 2 fun m hm => ?_
  obtain ⟨k, rfl⟩ := Nat.exists_eq_add_of_le hm
  rw [Nat.add_comm]
  have e : F26 [3, 2] = some [3, 2] := by
    rw [F26_eq (by intro n hn; simp at hn; omega) (by simp)]
    rfl
  simp (config := {decide := true}) [iter, e, rd, inb, LIM, IntKind.wrap, IntKind.signed, IntKind.bits, IntKind.min, IntKind.max]
theorem F13_eq' : F13 () = some true := by
  unfold F13
  simp [F20_live]
def bigV (r : Rec) : Bool := (decide (100 < (r.2.length : Int)) && decide ((r.2.length : Int) < 4096)) || decide (4100 < (r.2.length : Int))
theorem F14_eq (l : List Rec) (hl : l.length ≤ 9223372036854775807) : F14 l = some ((l.all fun r => !bigV r) && decide ((l.length : Int) ≤ 70)) := by
  unfold F14
  refine lfp_rule (fun x => ∃ i : Nat, x.2 = (i : Int) ∧ i ≤ l.length ∧ ((l.take i).all fun r => !bigV r) = true) (fun x => l.length - x.2.toNat)
    (fun _ => (l.all fun r => !bigV r) && decide ((l.length : Int) ≤ 70)) ?_ (false, 0) ⟨0, rfl, by omega, by simp⟩
  rintro ⟨q, i'⟩ ⟨i, hi', hi, hA⟩ rec hrec
  simp only at hi'
  subst hi'
  simp only
  by_cases hlt : i < l.length
  · have k1 : ((i : Int) < (l.length : Int)) := by omega
    simp only [k1, decide_true, cond_true, inb_true (Int.natCast_nonneg i) k1, rd_nat (t := tR) hlt]
    have e : (bif (bif decide (100 < (l[i].2.length : Int)) then decide ((l[i].2.length : Int) < 4096) else false) then true else decide (4100 < (l[i].2.length : Int))) = bigV l[i] := by
      unfold bigV
      cases decide (100 < (l[i].2.length : Int)) <;> cases decide ((l[i].2.length : Int) < 4096) <;> rfl
    rw [e]
    cases hb : bigV l[i] with
    | true =>
      simp only [cond_true, Option.some.injEq]
      symm
      rw [Bool.and_eq_false_iff]
      left
      rw [List.all_eq_false]
      exact ⟨l[i], List.getElem_mem hlt, by simp [hb]⟩
    | false =>
      simp only [cond_false]
      rw [wrap_i64 (n := (i : Int) + 1) (by omega) (by omega)]
      refine hrec _ ⟨i + 1, by simp, by omega, ?_⟩ (by simp only; omega)
      rw [List.take_succ_eq_append_getElem hlt, List.all_append, hA]
      simp [hb]
  · have k1 : ¬ ((i : Int) < (l.length : Int)) := by omega
    have : i = l.length := by omega
    subst this
    rw [List.take_length] at hA
    simp only [k1, decide_false, cond_false, hA, Bool.true_and]
open Classical in
/-- TlvOrder -/
theorem F3_true (l : List Rec) (x y : Rec) (hl : l.length ≤ 9223372036854775807) : F3 (l, x, y) = some true := by
  unfold F3
  simp only [F13_eq', Option.bind_some, Bool.not_true, cond_false, F14_eq l hl, F15_eq, Prod.eta]
  generalize hc : (bif (bif (bif (!((l.all fun r => !bigV r) && decide ((l.length : Int) ≤ 70))) then true else decide (100 < (x.2.length : Int))) then true else decide (100 < (y.2.length : Int))) then true else decide (x.1 = y.1)) = c
  cases c with
  | true => rfl
  | false =>
    simp only [Bool.cond_true_left, Bool.or_eq_false_iff, decide_eq_false_iff_not] at hc
    have hne : x.1 ≠ y.1 := hc.2
    have hx : x.2.length ≤ 4096 := by have := hc.1.1.2; omega
    have hy : y.2.length ≤ 4096 := by have := hc.1.2; omega
    simp only [cond_false]
    unfold withT
    by_cases ho : okT l
    · have h64 := ho.1
      simp only [ho, hx, hy, and_self, if_true]
      by_cases fx : fnd l x.1 = false ∧ l.length = 64
      · simp [fx]
      · by_cases fy : fnd l y.1 = false ∧ l.length = 64
        · simp [fx, fy]
        · have ok2 : ∀ z : Rec, z.2.length ≤ 4096 → ¬ (fnd l z.1 = false ∧ l.length = 64) → okT (ins l z) := by
            intro z hz hf
            refine ⟨?_, ?_, ins_sorted l z ho.2.2⟩
            · rw [ins_len]
              cases hq : fnd l z.1 with
              | true => simpa using h64
              | false => rw [hq] at hf; simp at hf; simp; omega
            · intro r hr
              rcases ins_mem l z r hr with rfl | hr
              · exact hz
              · exact ho.2.1 r hr
          have okx := ok2 x hx fx
          have oky := ok2 y hy fy
          simp only [fx, fy, if_false, decide_true, Bool.not_true, cond_false, okx, oky, and_self, if_true, fnd_ins l x y.1 (Ne.symm hne), fnd_ins l y x.1 hne, ins_comm l x y hne]
          rw [ins_len, ins_len]
          cases hqx : fnd l x.1 <;> cases hqy : fnd l y.1
          · simp only [Bool.false_eq_true, if_false, true_and]
            by_cases hn : l.length + 1 = 64
            · simp only [hn, if_true, decide_true, beq_self_eq_true, cond_true]
              rw [F16_eq (by simp)]; simp
            · simp only [hn, if_false, decide_true, beq_self_eq_true, cond_true]
              rw [F16_eq (by have := oky.1; have := (ok2 x hx fx).1; rw [← ins_comm l x y hne, ins_len, ins_len]; split <;> split <;> omega)]; simp
          all_goals
            have hn : ¬ (l.length = 64 ∧ (fnd l x.1 = false ∨ fnd l y.1 = false)) := by
              rintro ⟨hq, h2⟩; rw [hqx] at fx h2; rw [hqy] at fy h2; simp [hq] at fx fy h2
            rw [hqx, hqy] at hn
            simp only [Bool.false_eq_true, if_false, if_true, true_and, false_and, hn, and_false, Bool.true_eq_false, decide_true, beq_self_eq_true, cond_true, or_true, true_or, and_true] at hn ⊢
            try simp only [hn, if_false, decide_true, beq_self_eq_true, cond_true]
            rw [F16_eq (by have := oky.1; rw [ins_len]; split <;> omega)]; simp
    · simp [ho]
open Classical in
/-- TlvWith -/
theorem F4_true (l : List Rec) (x : Rec) (t : Int) (hl : l.length ≤ 9223372036854775807) : F4 (l, x, t) = some true := by
  unfold F4
  simp only [F13_eq', Option.bind_some, Bool.not_true, cond_false, F14_eq l hl, F15_eq, Prod.eta, F17_eq, F18_eq]
  generalize hc : (bif (!((l.all fun r => !bigV r) && decide ((l.length : Int) ≤ 70))) then true else decide (100 < (x.2.length : Int))) = c
  cases c with
  | true => rfl
  | false =>
    simp only [Bool.cond_true_left, Bool.or_eq_false_iff, decide_eq_false_iff_not] at hc
    have hx : x.2.length ≤ 4096 := by have := hc.2; omega
    simp only [cond_false]
    unfold withT
    by_cases ho : okT l
    · have h64 := ho.1
      simp only [ho, hx, and_self, if_true]
      by_cases fx : fnd l x.1 = false ∧ l.length = 64
      · simp [fx]
      · have hil : (ins l x).length ≤ 64 := by
          rw [ins_len]
          cases hq : fnd l x.1 with
          | true => simpa using h64
          | false => rw [hq] at fx; simp at fx; simp; omega
        have okx : okT (ins l x) := by
          refine ⟨hil, ?_, ins_sorted l x ho.2.2⟩
          intro r hr
          rcases ins_mem l x r hr with rfl | hr
          · exact hx
          · exact ho.2.1 r hr
        have e0 : F16 (ins l x, ins l x) = some true := by rw [F16_eq (by omega)]; simp
        simp only [fx, if_false, decide_true, Bool.not_true, cond_false, okx, and_self, if_true, fnd_ins_self, Bool.true_eq_false, false_and, ins_ins, findT, look_ins_self, beq_self_eq_true, cond_true, e0, F19_eq, Option.bind_some, ho]
        by_cases ht : t = x.1
        · subst ht; simp
        · rw [look_ins l x t ht]
          simp [ht]
    · simp [ho]
theorem pure3 (b : dens [.one (.slice 26 (.pair (.int .u64) (.slice 5 (.int .u8)))), .agg (.pair (.int .u64) (.slice 5 (.int .u8))), .agg (.pair (.int .u64) (.slice 5 (.int .u8)))])
    (h : Goods [.one (.slice 26 (.pair (.int .u64) (.slice 5 (.int .u8)))), .agg (.pair (.int .u64) (.slice 5 (.int .u8))), .agg (.pair (.int .u64) (.slice 5 (.int .u8)))] b) : F3 b = some true :=
  F3_true b.1 b.2.1 b.2.2 h.1.1
theorem pure4 (b : dens [.one (.slice 26 (.pair (.int .u64) (.slice 5 (.int .u8)))), .agg (.pair (.int .u64) (.slice 5 (.int .u8))), .one (.int .u64)])
    (h : Goods [.one (.slice 26 (.pair (.int .u64) (.slice 5 (.int .u8)))), .agg (.pair (.int .u64) (.slice 5 (.int .u8))), .one (.int .u64)] b) : F4 b = some true :=
  F4_true b.1 b.2.1 b.2.2 h.1.1
end Go.Proofs.Ytacebemdonoliaa.R4
