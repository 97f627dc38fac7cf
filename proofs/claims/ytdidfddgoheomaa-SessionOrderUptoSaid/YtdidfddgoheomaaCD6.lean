/- Part of a proof: what the program's functions come to. -/
import Derived.Test.YtdidfddgoheomaaCD5
set_option linter.unusedVariables false
set_option linter.unusedSimpArgs false
namespace Go.Proofs.Ytdidfddgoheomaa.R2
open Go Go.Fw Go.Proofs RB
def fr1 (f : List Int) : List Int := (putF f).1
theorem fr1_len (f : List Int) (h : f.length ≤ 100) : (fr1 f).length = f.length + 2 := by unfold fr1; rw [putF_ok (by omega)]; simp
theorem frs_len : ∀ (l : List (List Int)), (∀ f ∈ l, f.length ≤ 100) → (l.flatMap fr1).length ≤ 102 * l.length
  | [], _ => by simp
  | a :: r, h => by
    have h1 := fr1_len a (h a (by simp))
    have h2 := h a (by simp)
    have := frs_len r (fun f hf => h f (by simp [hf]))
    simp only [List.flatMap_cons, List.length_append, List.length_cons]; omega
def okFs (l : List (List Int)) : Bool := l.all fun f => decide (f.length ≤ 100)
theorem okFs_mem {l : List (List Int)} (h : okFs l = true) : ∀ f ∈ l, f.length ≤ 100 := by
  unfold okFs at h
  simpa using h
theorem F38_eq {l : List (List Int)} (hl : l.length ≤ 1048576) : F38 l = some (if okFs l = true then (l.flatMap fr1, true) else ([], false)) := by
  unfold F38
  refine lfp_rule (fun x => ∃ i : Nat, x.2.2.2 = (i : Int) ∧ i ≤ l.length ∧ okFs (l.take i) = true ∧ x.2.2.1 = (l.take i).flatMap fr1) (fun x => l.length - x.2.2.2.toNat)
    (fun _ => if okFs l = true then (l.flatMap fr1, true) else ([], false)) ?_ (([] : List Int), false, ([] : List Int), 0) ⟨0, rfl, by omega, by simp [okFs], by simp⟩
  rintro ⟨q, q2, acc, i'⟩ ⟨i, hi', hi, hA, hacc⟩ rec hrec
  simp only at hi' hacc
  subst hi'
  simp only
  by_cases hlt : i < l.length
  · have k1 : ((i : Int) < (l.length : Int)) := by omega
    simp only [k1, decide_true, cond_true, inb_true (Int.natCast_nonneg i) k1, rd_nat (t := .slice 5 (.int .u8)) hlt, F19_any, Option.bind_some]
    have hal := frs_len _ (okFs_mem hA)
    rw [List.length_take] at hal
    by_cases c : 100 < l[i].length
    · have c' : (100 : Int) < (l[i].length : Int) := by omega
      have hno : ¬ okFs l = true := fun h => by have := okFs_mem h _ (List.getElem_mem hlt); omega
      simp only [c', decide_true, hno]
      cases decide ((putF l[i]).2 = 0) <;> simp
    · have c' : ¬ (100 : Int) < (l[i].length : Int) := by omega
      have hp : (putF l[i]).2 = 0 := by rw [putF_ok (by omega)]
      have hfl := fr1_len l[i] (by omega)
      have k : (acc.length + (putF l[i]).1.length) * 1 ≤ LIM := by
        have : (putF l[i]).1.length = l[i].length + 2 := hfl
        rw [this, hacc]; unfold LIM; omega
      simp only [hp, c', decide_true, decide_false, Bool.not_true, cond_false, k, cond_true]
      rw [wrap_i64 (n := (i : Int) + 1) (by omega) (by omega)]
      refine hrec _ ⟨i + 1, by simp, by omega, ?_, ?_⟩ (by simp only; omega)
      · rw [List.take_succ_eq_append_getElem hlt]
        unfold okFs at hA ⊢
        rw [List.all_append, hA]
        simp; omega
      · rw [List.take_succ_eq_append_getElem hlt, List.flatMap_append, hacc]
        simp [fr1]
  · have k1 : ¬ ((i : Int) < (l.length : Int)) := by omega
    have : i = l.length := by omega
    subst this
    rw [List.take_length] at hA hacc
    simp only [k1, decide_false, cond_false, hA, if_true, hacc]
theorem ok_out (out : List Int) (h : out.length ≤ 16384) : OkS (true, ([], (false, ([], out)))) := ⟨by simp, h, by simp, by simp, by simp [chkR]⟩
/-- SessionTakes -/
theorem F9_true {l : List (List Int)} {a : List Int} (ha : Bytes a) (hl : l.length ≤ 1048576) : F9 (l, a) = some true := by
  unfold F9
  rw [show ((false, ([], (false, ([], [])))) : Ses) = nulS from rfl]
  simp only [both_self, Prod.eta, F26_eq, Option.bind_some, Bool.not_true, cond_false, F38_eq hl, up_nul, decide_true]
  by_cases hok : okFs l = true
  · simp only [hok, if_true, Bool.not_true, cond_false]
    by_cases h40 : 40 < l.length
    · have : (40 : Int) < (l.length : Int) := by omega
      simp only [this, decide_true, cond_true]
    · have : ¬ (40 : Int) < (l.length : Int) := by omega
      simp only [this, decide_false, cond_false]
      have hbe : Bytes ([] : List Int) := by intro n hn; simp at hn
      have hz : ([] : List (List Int)).length ≤ 9223372036854775807 := by simp
      refine lfp_rule (fun x => ∃ (i : Nat) (out : List Int), x.2.2.1 = (i : Int) ∧ i ≤ l.length ∧ x.2.2.2 = (true, ([], (false, ([], out)))) ∧ x.2.1 ++ out = (l.take i).flatMap fr1) (fun x => l.length - x.2.2.1.toNat)
        (fun _ => true) ?_ (false, ([] : List Int), 0, upS) ⟨0, [], rfl, by omega, rfl, by simp⟩
      rintro ⟨q, got, i', s⟩ ⟨i, out, hi', hi, hs, hgo⟩ rec hrec
      simp only at hi' hs hgo
      subst hi' hs
      simp only
      have htk := frs_len (l.take i) (fun f hf => okFs_mem hok f (List.mem_of_mem_take hf))
      rw [List.length_take] at htk
      have hgl : got.length + out.length ≤ 4080 := by rw [← List.length_append, hgo]; omega
      by_cases hlt : i < l.length
      · have k1 : ((i : Int) < (l.length : Int)) := by omega
        have hf100 := okFs_mem hok _ (List.getElem_mem hlt)
        have hfl := fr1_len l[i] hf100
        have hok1 := ok_out out (by omega)
        have hsay : sayS (true, ([], (false, ([], out)))) l[i] = ((true, ([], (false, ([], out ++ fr1 l[i])))), 0) := by
          unfold sayS
          rw [red_of hok1 rfl]
          have hp : (putF l[i]).2 = 0 := by rw [putF_ok (by omega)]
          have : ¬ 16384 < out.length + (putF l[i]).1.length := by
            have : (putF l[i]).1.length = l[i].length + 2 := hfl
            omega
          simp [hp, this, fr1]
        have hgo2 : got ++ (out ++ fr1 l[i]) = (l.take (i + 1)).flatMap fr1 := by
          rw [List.take_succ_eq_append_getElem hlt, List.flatMap_append, ← hgo]; simp
        have hnext : ∀ (got' out' : List Int), got' ++ out' = (l.take (i + 1)).flatMap fr1 → rec (q, got', IntKind.wrap .i64 ((i : Int) + 1), (true, ([], (false, ([], out'))))) = some true := by
          intro got' out' hgo3
          rw [wrap_i64 (n := (i : Int) + 1) (by omega) (by omega)]
          exact hrec _ ⟨i + 1, out', by simp, by omega, rfl, hgo3⟩ (by simp only; omega)
        simp only [k1, decide_true, cond_true, inb_true (Int.natCast_nonneg i) k1, rd_nat (t := .slice 5 (.int .u8)) hlt, F40_eq (s := (true, ([], (false, ([], out))))) hbe hz, hsay, Option.bind_some, Bool.not_true, cond_false]
        by_cases hla : i < a.length
        · have k2 : ((i : Int) < (a.length : Int)) := by omega
          have hby := ha _ (List.getElem_mem hla)
          have hok2 := ok_out (out ++ fr1 l[i]) (by rw [List.length_append, hfl]; omega)
          obtain ⟨n, hn⟩ : ∃ n : Nat, a[i] = (n : Int) := ⟨a[i].toNat, by have := hby.1; omega⟩
          have hn2 : n < 256 := by have := hby.2; omega
          have hw : IntKind.wrap .i64 (n : Int) = (n : Int) := wrap_i64 (by omega) (by omega)
          have ht : takeS (true, ([], (false, ([], out ++ fr1 l[i])))) n = ((out ++ fr1 l[i]).take n, (true, ([], (false, ([], (out ++ fr1 l[i]).drop n)))), 0) := by
            unfold takeS; rw [red_of hok2 rfl]; simp
          have h5 : ¬ (n : Int) < (((out ++ fr1 l[i]).take n).length : Int) := by rw [List.length_take]; omega
          have h6 : (got.length + ((out ++ fr1 l[i]).take n).length) * 1 ≤ LIM := by rw [List.length_take]; unfold LIM; omega
          simp only [k2, decide_true, cond_true, inb_true (Int.natCast_nonneg i) k2, rd_nat (t := .int .u8) hla, hn, hw, F41_eq (s := (true, ([], (false, ([], out ++ fr1 l[i]))))) (n := n) hbe hz, ht, Option.bind_some, Bool.not_true, beq_self_eq_true, h5, decide_false, cond_false, h6]
          exact hnext _ _ (by rw [List.append_assoc, List.take_append_drop]; exact hgo2)
        · have k2 : ¬ ((i : Int) < (a.length : Int)) := by omega
          simp only [k2, decide_false, cond_false]
          exact hnext _ _ hgo2
      · have k1 : ¬ ((i : Int) < (l.length : Int)) := by omega
        have : i = l.length := by omega
        subst this
        rw [List.take_length] at hgo
        have hok1 := ok_out out (by omega)
        have h41 : F41 ((true, ([], (false, ([], out)))), 16384) = some (takeS (true, ([], (false, ([], out)))) 16384) := F41_eq (n := 16384) hbe hz
        have ht : takeS (true, ([], (false, ([], out)))) 16384 = (out, (true, ([], (false, ([], [])))), 0) := by
          unfold takeS; rw [red_of hok1 rfl]
          simp only [ne_eq, not_true_eq_false, if_false]
          rw [List.take_of_length_le (by omega), List.drop_of_length_le (by omega)]
        have h6 : (got.length + out.length) * 1 ≤ LIM := by unfold LIM; omega
        simp only [k1, decide_false, cond_false, h41, ht, Option.bind_some, List.length_nil, h6, decide_true, cond_true, F23_eq, hgo]
        simp
  · simp only [hok, Bool.false_eq_true, if_false, Bool.not_false, cond_true]
end Go.Proofs.Ytdidfddgoheomaa.R2
