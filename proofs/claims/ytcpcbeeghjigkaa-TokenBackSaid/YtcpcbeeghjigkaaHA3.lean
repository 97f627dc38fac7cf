/- Part of a proof: what the program's functions come to. -/
import Derived.Test.YtcpcbeeghjigkaaHA2
set_option linter.unusedVariables false
set_option linter.unusedSimpArgs false
namespace Go.Proofs.Ytcpcbeeghjigkaa.R3
open Go Go.Fw Go.Proofs RB
set_option maxRecDepth 20000
/-- Is none so? -/
theorem all_loop {t : Ty} {l : List t.den} (hl : l.length ≤ 9223372036854775807) (p : t.den → Bool) (c : Bool) :
    lfp (fun (rec1 : (Bool × Int) → Option Bool) (x1 : Bool × Int) =>
      bif decide (x1.2 < (l.length : Int)) then (
      bif inb x1.2 l.length then
      bif p (rd t l x1.2) then (some false) else (rec1 (x1.1, (IntKind.wrap .i64 (x1.2 + 1))))
      else none)
      else (some c)) (false, 0) = some ((l.all fun x => !p x) && c) := by
  refine lfp_rule (fun x => ∃ i : Nat, x.2 = (i : Int) ∧ i ≤ l.length ∧ ∀ j (h : j < l.length), j < i → p l[j] = false) (fun x => l.length - x.2.toNat) (fun _ => (l.all fun x => !p x) && c) ?_ (false, 0) ⟨0, rfl, by omega, fun j _ hj => by omega⟩
  rintro ⟨y, i'⟩ ⟨i, hi', hi, hp⟩ rec hrec
  simp only at hi'
  subst hi'
  simp only
  by_cases hlt : i < l.length
  · have k1 : ((i : Int) < (l.length : Int)) := by omega
    simp only [k1, decide_true, cond_true, inb_true (Int.natCast_nonneg i) k1, rd_nat hlt]
    cases hq : p l[i] with
    | true =>
      have : (l.all fun x => !p x) = false := by
        rw [List.all_eq_false]
        exact ⟨l[i], List.getElem_mem hlt, by simp [hq]⟩
      simp [this]
    | false =>
      simp only [cond_false]
      rw [RB.wrap_i64 (n := (i : Int) + 1) (by omega) (by omega)]
      refine hrec _ ⟨i + 1, by simp, by omega, fun j hj hji => ?_⟩ (by simp only; omega)
      by_cases hij : j = i
      · subst hij; exact hq
      · exact hp j hj (by omega)
  · have k1 : ¬ ((i : Int) < (l.length : Int)) := by omega
    simp only [k1, decide_false, cond_false]
    have : (l.all fun x => !p x) = true := by
      rw [List.all_eq_true]
      intro x hx
      obtain ⟨j, hj, rfl⟩ := List.getElem_of_mem hx
      simp [hp j hj (by omega)]
    simp [this]
def fewA (a : List Tm) : Bool := (a.all fun x => !decide (200 < (x.2.2.length : Int))) && decide ((a.length : Int) ≤ 80)
theorem F15_eq {a : List Tm} (h : a.length ≤ 9223372036854775807) : F15 a = some (fewA a) :=
  all_loop (t := tT) h (fun x => decide (200 < (x.2.2.length : Int))) (decide ((a.length : Int) ≤ 80))
def bigT (x : List Int) : Bool := bif (bif decide (200 < (x.length : Int)) then decide ((x.length : Int) ≤ 4096) else false) then true else decide (4100 < (x.length : Int))
def fewT (l : List (List Int)) : Bool := (l.all fun x => !bigT x) && decide ((l.length : Int) ≤ 12)
theorem F16_eq {l : List (List Int)} (h : l.length ≤ 9223372036854775807) : F16 l = some (fewT l) :=
  all_loop (t := .slice 5 (.int .u8)) h bigT (decide ((l.length : Int) ≤ 12))
theorem F27_eq {a b : List (List Int)} (hl : a.length ≤ 4611686018427387904) : F27 (a, b) = some (decide (a = b)) := by
  unfold F27
  by_cases hn : a.length = b.length
  · have : (a.length : Int) = (b.length : Int) := by omega
    simp only [this, decide_true, Bool.not_true, cond_false]
    rw [← this]
    exact same_loop (t := .slice 5 (.int .u8)) hl hn (G := fun x y K => (F50 (x, y)).bind K) (fun i h1 h2 K => rfl)
  · have : ¬ (a.length : Int) = (b.length : Int) := by omega
    have hne : a ≠ b := fun h => hn (by rw [h])
    simp [this, hne]
theorem F57_eq (a b : Tm) : F57 (a, b) = some (decide (a = b)) := by
  obtain ⟨a1, a2, a3⟩ := a
  obtain ⟨b1, b2, b3⟩ := b
  unfold F57 F87
  by_cases c1 : a1 = b1
  · by_cases c2 : a2 = b2
    · by_cases c3 : a3 = b3 <;> simp [c1, c2, c3]
    · simp [c1, c2]
  · simp [c1]
theorem F25_eq {a b : List Tm} (hl : a.length ≤ 4611686018427387904) : F25 (a, b) = some (decide (a = b)) := by
  have : F56057 (a, b, ()) = some (decide (a = b)) := by
    unfold F56057
    by_cases hn : a.length = b.length
    · have : (a.length : Int) = (b.length : Int) := by omega
      simp only [this, decide_true, Bool.not_true, cond_false]
      rw [← this]
      refine same_loop (t := tT) hl hn (G := fun x y K => (F57 (x, y)).bind K) (fun i h1 h2 K => ?_)
      rw [F57_eq]; rfl
    · have : ¬ (a.length : Int) = (b.length : Int) := by omega
      have hne : a ≠ b := fun h => hn (by rw [h])
      simp [this, hne]
  unfold F25
  simp only [this, Option.bind_some]
open Classical in
theorem F23_eq (a : List Tm) : F23 a = some (if valid a then 0 else 1) := by
  unfold F23
  simp only [F54_eq, Option.bind_some]
  by_cases h : valid a <;> simp [h]
theorem valid_nil : valid [] := ⟨by simp, fun i h => by simp at h⟩
theorem put_nil (k : Int) (t : List Int) (h : t.length ≤ 4096) : putA [] (k, (-1, t)) = ([(k, (-1, t))], 0, 0) := by
  unfold putA
  rw [if_neg (by rintro (q | q); exact q valid_nil; simp at q), if_neg (by simp only; omega), if_neg (by simp), if_neg (by simp)]
  rfl
theorem F14_true : F14 () = some true := by
  unfold F14
  simp only [F18_eq, Option.bind_some]
  have h1 := put_nil 7 [] (by simp)
  obtain ⟨_, _, h3, _, _, _, h7⟩ := putA_ok h1
  have hv := h7 ⟨by simp, fun q => by simp at q⟩
  rw [h1]
  simp only
  rw [putA_same hv h3]
  simp [ix]
theorem F4_true {a : List Tm} {k o : Int} {t u : List Int} {l m : List (List Int)} (ha : a.length ≤ 9223372036854775807) (hl : l.length ≤ 9223372036854775807) (hm : m.length ≤ 9223372036854775807) :
    F4 (a, k, o, t, u, l, m) = some true := by
  unfold F4
  simp only [F14_true, F15_eq ha, F16_eq hl, F16_eq hm, F16_eq (l := [t, u]) (by simp), Option.bind_some, Bool.not_true, cond_false]
  cases f1 : fewA a with
  | false => rfl
  | true =>
    cases f2 : fewT l with
    | false => rfl
    | true =>
      cases f3 : fewT m with
      | false => rfl
      | true =>
        have la : a.length ≤ 80 := by
          unfold fewA at f1; simp only [Bool.and_eq_true, decide_eq_true_eq] at f1; omega
        have ll : l.length ≤ 12 := by
          unfold fewT at f2; simp only [Bool.and_eq_true, decide_eq_true_eq] at f2; omega
        have lm : m.length ≤ 12 := by
          unfold fewT at f3; simp only [Bool.and_eq_true, decide_eq_true_eq] at f3; omega
        simp only [Bool.not_true, beq_self_eq_true, cond_true, F26_eq _ _ _ _ hl, F26_eq _ _ _ _ hm, Option.bind_some]
        cases f4 : fewT [t, u] with
        | false => rfl
        | true =>
          simp only [Bool.not_true, cond_false]
          rcases h1 : l.foldl nextA (putA a (k, (-1, t))) with ⟨b, x, e⟩
          simp only
          by_cases he : e = 0
          · subst he
            obtain ⟨va, vb, pb, lb, x', hx, hxl, hlk⟩ := made_root h1
            simp only [decide_true, Bool.not_true, cond_false]
            rcases h2 : m.foldl nextA (putA b (o, (-1, u))) with ⟨c, y, e2⟩
            simp only
            by_cases he2 : e2 = 0
            · subst he2
              obtain ⟨_, vc, pc, lc, y', hy, hyl, hlk2⟩ := made_root h2
              have hag := made_again vc (look_mono pc hlk)
              simp only [decide_true, Bool.not_true, cond_false, hag, hx, beq_self_eq_true, cond_true]
              have hcl : c.length ≤ 1000 := by omega
              simp only [F25_eq (a := c) (b := c) (by omega), Option.bind_some, decide_true, Bool.not_true, beq_self_eq_true, cond_true, F23_eq, vc, if_true, cond_false, F27_eq (a := l) (b := m) (by omega)]
              have w1 : IntKind.wrap .i64 ((a.length : Int) + 2) = (a.length : Int) + 2 := RB.wrap_i64 (by omega) (by omega)
              have w2 : IntKind.wrap .i64 ((a.length : Int) + 2 + (l.length : Int)) = (a.length : Int) + 2 + (l.length : Int) := RB.wrap_i64 (by omega) (by omega)
              have w3 : IntKind.wrap .i64 ((a.length : Int) + 2 + (l.length : Int) + (m.length : Int)) = (a.length : Int) + 2 + (l.length : Int) + (m.length : Int) := RB.wrap_i64 (by omega) (by omega)
              have w4 : ¬ (a.length : Int) + 2 + (l.length : Int) + (m.length : Int) < (c.length : Int) := by omega
              simp only [w1, w2, w3, w4, decide_false, cond_false, hy]
              have key : (x' : Int) = (y' : Int) ↔ k = o ∧ t = u ∧ l = m := by
                constructor
                · intro hxy
                  have : x' = y' := by omega
                  subst this
                  exact look_inj l.length l m x' (Nat.le_refl _) (look_mono pc hlk) hlk2
                · rintro ⟨rfl, rfl, rfl⟩
                  have := look_mono pc hlk
                  rw [hlk2] at this
                  simp only [Option.some.injEq] at this
                  omega
              by_cases q1 : k = o
              · by_cases q2 : t = u
                · by_cases q3 : l = m
                  · have := key.2 ⟨q1, q2, q3⟩
                    simp [q1, q2, q3, this]
                  · have : ¬ (x' : Int) = (y' : Int) := fun h => q3 (key.1 h).2.2
                    simp [q1, q2, q3, this]
                · have : ¬ (x' : Int) = (y' : Int) := fun h => q2 (key.1 h).2.1
                  simp [q1, q2, this]
              · have : ¬ (x' : Int) = (y' : Int) := fun h => q1 (key.1 h).1
                simp [q1, this]
            · simp [he2]
          · simp [he]
theorem pure4 (b : dens [.agg (.slice 39 (.pair (.int .u64) (.pair (.int .i64) (.slice 5 (.int .u8))))), .one (.int .u64), .one (.int .u64), .one (.slice 5 (.int .u8)), .one (.slice 5 (.int .u8)), .one (.slice 26 (.slice 5 (.int .u8))), .one (.slice 26 (.slice 5 (.int .u8)))]) (h : Goods [.agg (.slice 39 (.pair (.int .u64) (.pair (.int .i64) (.slice 5 (.int .u8))))), .one (.int .u64), .one (.int .u64), .one (.slice 5 (.int .u8)), .one (.slice 5 (.int .u8)), .one (.slice 26 (.slice 5 (.int .u8))), .one (.slice 26 (.slice 5 (.int .u8)))] b) : F4 b = some true := F4_true h.1.1 h.2.2.2.2.2.1.1 h.2.2.2.2.2.2.1
end Go.Proofs.Ytcpcbeeghjigkaa.R3
