/- Part of a proof: what the program's functions come to. -/
import Derived.Test.YtcpcbeeghjigkaaOO1aw
set_option linter.unusedVariables false
set_option linter.unusedSimpArgs false
namespace Go.Proofs.Ytcpcbeeghjigkaa.R3
open Go Go.Fw Go.Proofs RB
set_option maxRecDepth 100000
theorem few_two (t o : Tok) : ∃ v, F33 [t, o] = some v ∧ (v = true → t.2.1.length ≤ 20 ∧ o.2.1.length ≤ 20) := by
  refine ⟨decide (t.2.1.length ≤ 20 ∧ o.2.1.length ≤ 20), ?_, by simp⟩
  unfold F33
  refine lfp_rule (fun (x : Bool × Int) => x.2 = 0 ∨ (x.2 = 1 ∧ t.2.1.length ≤ 20) ∨ (x.2 = 2 ∧ t.2.1.length ≤ 20 ∧ o.2.1.length ≤ 20)) (fun x => 2 - x.2.toNat) (fun _ => decide (t.2.1.length ≤ 20 ∧ o.2.1.length ≤ 20)) ?_ _ (.inl rfl)
  rintro ⟨q, i⟩ hx rec hrec
  simp only at hx
  have r0 : rd (.pair (.int .u64) (.pair (.slice 62 (.pair (.int .i64) (.pair (.int .u64) (.int .u64)))) (.int .i64))) [t, o] 0 = t := rfl
  have r1 : rd (.pair (.int .u64) (.pair (.slice 62 (.pair (.int .i64) (.pair (.int .u64) (.int .u64)))) (.int .i64))) [t, o] 1 = o := rfl
  rcases hx with rfl | ⟨rfl, h⟩ | ⟨rfl, h, h2⟩
  · simp only [List.length_cons, List.length_nil, show decide ((0 : Int) < ((0 + 1 + 1 : Nat) : Int)) = true from rfl, cond_true, show inb 0 (0 + 1 + 1) = true from rfl, r0]
    by_cases c : t.2.1.length ≤ 20
    · have : ¬ (20 : Int) < (t.2.1.length : Int) := by omega
      simp only [this, decide_false, cond_false]
      exact hrec _ (.inr (.inl ⟨rfl, c⟩)) (by simp only; decide)
    · have : (20 : Int) < (t.2.1.length : Int) := by omega
      simp [this, c]
  · simp only [List.length_cons, List.length_nil, show decide ((1 : Int) < ((0 + 1 + 1 : Nat) : Int)) = true from rfl, cond_true, show inb 1 (0 + 1 + 1) = true from rfl, r1]
    by_cases c : o.2.1.length ≤ 20
    · have : ¬ (20 : Int) < (o.2.1.length : Int) := by omega
      simp only [this, decide_false, cond_false]
      exact hrec _ (.inr (.inr ⟨rfl, h, c⟩)) (by simp only; decide)
    · have : (20 : Int) < (o.2.1.length : Int) := by omega
      simp [this, c]
  · simp [h, h2]
theorem putA_len (a : List Tm) (n : Tm) : (putA a n).1.length ≤ a.length + 1 := by
  unfold putA
  repeat' split
  all_goals simp
theorem mintA_len (a : List Tm) (root key : Int) : (mintA a root key).1.length ≤ a.length + 1 := by
  unfold mintA
  split
  · exact putA_len _ _
  · simp
theorem bindA_len (a : List Tm) (t : Tok) (c : Cv) : (bindA a t c).1.length ≤ a.length + 1 := by
  unfold bindA
  split
  · simp
  split
  · simp
  split
  · exact putA_len _ _
  · simp
theorem F9_true {a : List Tm} {t o : Tok} {root key : Int} {c : Cv} (ha : a.length ≤ 9223372036854775807) (ht : TokOk t) (ho : TokOk o) (hr : U64 root) (hc : CvOk c) : F9 (a, t, o, root, key, c) = some true := by
  obtain ⟨v, hv, hv2⟩ := few_two t o
  unfold F9
  simp (config := { maxSteps := 10000000 }) only [both_self]
  simp only [Prod.eta, F32_true, F15_eq ha, hv, Option.bind_some, Bool.not_true, cond_false]
  cases f1 : fewA a with
  | false => rfl
  | true =>
    cases v with
    | false => rfl
    | true =>
      obtain ⟨lt, lo⟩ := hv2 rfl
      have hf := f1
      unfold fewA at hf
      simp only [Bool.and_eq_true, decide_eq_true_eq, List.all_eq_true, Bool.not_eq_true', decide_eq_false_iff_not] at hf
      have la : a.length ≤ 80 := by have := hf.2; omega
      have lx : ∀ n ∈ a, n.2.2.length ≤ 4096 := fun n hn => by have := hf.1 n hn; omega
      have k3 : (([] : List Cv).length + t.2.1.length) * 24 ≤ LIM := by unfold LIM; simp; omega
      have m1 := mintA_len a root key
      have m2 := bindA_len a t c
      have m3 := (mintA_ok (a := a) (key := key) hr).2
      have m4 := (bindA_ok (a := a) ht hc).2
      simp only [Bool.not_true, beq_self_eq_true, cond_true, cond_false, F17_eq (show a.length ≤ 1048576 by omega) lx, Option.bind_some, Bool.or_true, k3, decide_true, F37_eq (a := a) (key := key) hr.1, F38_eq (a := a) (key := key) hr,
        F39_eq (a := a) ht (show t.2.1.length ≤ 9223372036854775807 by omega) hc, F40_eq (a := a) ht (show t.2.1.length ≤ 4611686018427387904 by omega) hc,
        F35_eq (a := a) (key := key) ht (show t.2.1.length ≤ 9223372036854775807 by omega), F41_eq (a := a) (key := key) ht (show t.2.1.length ≤ 4611686018427387904 by omega),
        F22_eq (a := (mintA a root key).1) (b := (mintA a root key).1) (by omega), F22_eq (a := (bindA a t c).1) (b := (bindA a t c).1) (by omega), F22_eq (a := a) (b := a) (by omega),
        F42_eq (a := (mintA a root key).2.1) (b := (mintA a root key).2.1) (by omega), F42_eq (a := (bindA a t c).2.1) (b := (bindA a t c).2.1) (by omega),
        F43_eq ht (show t.2.1.length ≤ 9223372036854775807 by omega), F44_eq ht (show t.2.1.length ≤ 4611686018427387904 by omega), F45_eq (a := t) (b := o) (by omega), F42_eq (a := t) (b := o) (by omega),
        List.nil_append, F72_eq' (a := t.2.1) (b := t.2.1) (by omega)]
      generalize (bindA a t c).2.1.2.1 = L at m4 ⊢
      refine lfp_rule (fun (x : Int × List Cv) => ∃ i : Nat, x.1 = (i : Int) ∧ i ≤ L.length ∧ x.2.length = L.length) (fun x => L.length - x.1.toNat) (fun _ => true) ?_ _ ⟨0, rfl, by omega, rfl⟩
      rintro ⟨i', m⟩ ⟨i, hi', hi, hm⟩ rec hrec
      simp only at hi' hm
      subst hi'
      simp only
      by_cases hlt : i < L.length
      · have k1 : ((i : Int) < (L.length : Int)) := by omega
        have k2 : ((i : Int) < (m.length : Int)) := by omega
        simp only [k1, decide_true, cond_true, inb_true (Int.natCast_nonneg i) k2]
        rw [RB.wrap_i64 (n := (i : Int) + 1) (by omega) (by omega)]
        exact hrec ((i : Int) + 1, _) ⟨i + 1, by simp, by omega, by simp [hm]⟩ (by simp only; omega)
      · have k1 : ¬ ((i : Int) < (L.length : Int)) := by omega
        simp only [k1, decide_false, cond_false]
theorem pure9 (b : dens [.agg (.slice 39 (.pair (.int .u64) (.pair (.int .i64) (.slice 5 (.int .u8))))), .agg (.pair (.int .u64) (.pair (.slice 62 (.pair (.int .i64) (.pair (.int .u64) (.int .u64)))) (.int .i64))), .agg (.pair (.int .u64) (.pair (.slice 62 (.pair (.int .i64) (.pair (.int .u64) (.int .u64)))) (.int .i64))), .one (.int .u64), .one (.int .u64), .agg (.pair (.int .i64) (.pair (.int .u64) (.int .u64)))])
    (h : Goods [.agg (.slice 39 (.pair (.int .u64) (.pair (.int .i64) (.slice 5 (.int .u8))))), .agg (.pair (.int .u64) (.pair (.slice 62 (.pair (.int .i64) (.pair (.int .u64) (.int .u64)))) (.int .i64))), .agg (.pair (.int .u64) (.pair (.slice 62 (.pair (.int .i64) (.pair (.int .u64) (.int .u64)))) (.int .i64))), .one (.int .u64), .one (.int .u64), .agg (.pair (.int .i64) (.pair (.int .u64) (.int .u64)))] b) : F9 b = some true :=
  F9_true h.1.1 (tok_of2 h.2.1) (tok_of2 h.2.2.1) (u64_of h.2.2.2.1) (cv_of h.2.2.2.2.2)
end Go.Proofs.Ytcpcbeeghjigkaa.R3
