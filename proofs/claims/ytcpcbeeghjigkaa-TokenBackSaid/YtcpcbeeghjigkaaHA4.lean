/- Part of a proof: what the program's functions come to. -/
import Derived.Test.YtcpcbeeghjigkaaHA3
set_option linter.unusedVariables false
set_option linter.unusedSimpArgs false
namespace Go.Proofs.Ytcpcbeeghjigkaa.R3
open Go Go.Fw Go.Proofs RB
set_option maxRecDepth 20000
/-! ### how a tag was made; where it is found -/
theorem wk_append (a : List Tm) (t : List Int) : ∀ (l : List (List Int)) (x z : Nat), wk a x l = some z → wk a x (l ++ [t]) = if (0, ((z : Int), t)) ∈ a then some (ix a (0, ((z : Int), t))) else none
  | [], x, z, h => by simp only [wk, Option.some.injEq] at h; subst h; simp only [List.nil_append, wk]
  | s :: r, x, z, h => by
    simp only [List.cons_append, wk] at h ⊢
    split at h
    · rename_i hm
      rw [if_pos hm]
      exact wk_append a t r _ _ h
    · simp at h
theorem wk_none (a : List Tm) (t : List Int) : ∀ (l : List (List Int)) (x : Nat), wk a x l = none → wk a x (l ++ [t]) = none
  | [], x, h => by simp [wk] at h
  | s :: r, x, h => by
    simp only [List.cons_append, wk] at h ⊢
    split at h
    · rename_i hm; rw [if_pos hm]; exact wk_none a t r _ h
    · rename_i hm; rw [if_neg hm]
theorem look_append {a : List Tm} {k : Int} {u t : List Int} {l : List (List Int)} {z : Nat} (h : look a k u l = some z) : look a k u (l ++ [t]) = if (0, ((z : Int), t)) ∈ a then some (ix a (0, ((z : Int), t))) else none := by
  unfold look at h ⊢
  split at h
  · rename_i hm; rw [if_pos hm]; exact wk_append a t l _ _ h
  · simp at h
theorem look_none {a : List Tm} {k : Int} {u t : List Int} {l : List (List Int)} (h : look a k u l = none) : look a k u (l ++ [t]) = none := by
  unfold look at h ⊢
  split at h
  · rename_i hm; rw [if_pos hm]; exact wk_none a t l _ h
  · rename_i hm; rw [if_neg hm]
theorem idx_loop {t : Ty} {l : List t.den} (hl : l.length ≤ 9223372036854775807) {p : t.den → Bool} {G : t.den → Option Bool} (hG : ∀ x ∈ l, G x = some (p x)) :
    ∃ r, lfp (fun (rec1 : (Int × Int) → Option Int) (x1 : Int × Int) =>
      bif decide (x1.2 < (l.length : Int)) then (
      bif inb x1.2 l.length then
      (G (rd t l x1.2)).bind fun r2 =>
      bif r2 then (some x1.2) else (rec1 (x1.1, (IntKind.wrap .i64 (x1.2 + 1))))
      else none)
      else (some (-1))) (0, 0) = some r ∧ decide (0 ≤ r) = l.any p := by
  let ans : Nat → Int := fun i => match (l.drop i).findIdx? p with | some j => ((i + j : Nat) : Int) | none => -1
  have hstep : ∀ i, (h : i < l.length) → p l[i] = false → ans i = ans (i + 1) := by
    intro i h hp
    simp only [ans]
    rw [List.drop_eq_getElem_cons h, List.findIdx?_cons, hp]
    simp only [Bool.false_eq_true, if_false]
    cases (l.drop (i + 1)).findIdx? p with
    | none => rfl
    | some j => simp only [Option.map_some]; congr 1; omega
  refine ⟨ans 0, lfp_rule (fun x => ∃ i : Nat, x.2 = (i : Int) ∧ i ≤ l.length) (fun x => l.length - x.2.toNat) (fun x => ans x.2.toNat) ?_ (0, 0) ⟨0, rfl, by omega⟩, ?_⟩
  · rintro ⟨y, i'⟩ ⟨i, hi', hi⟩ rec hrec
    simp only at hi'
    subst hi'
    simp only [Int.toNat_natCast]
    by_cases hlt : i < l.length
    · have k1 : ((i : Int) < (l.length : Int)) := by omega
      simp only [k1, decide_true, cond_true, inb_true (Int.natCast_nonneg i) k1, rd_nat hlt, hG _ (List.getElem_mem hlt), Option.bind_some]
      cases hp : p l[i] with
      | true =>
        simp only [cond_true, ans]
        rw [List.drop_eq_getElem_cons hlt, List.findIdx?_cons, hp]
        simp
      | false =>
        simp only [cond_false]
        rw [RB.wrap_i64 (n := (i : Int) + 1) (by omega) (by omega), hstep i hlt hp]
        have := hrec (y, (i : Int) + 1) ⟨i + 1, by simp, by omega⟩ (by simp only; omega)
        rw [this]
        simp only
        congr 2
    · have k1 : ¬ ((i : Int) < (l.length : Int)) := by omega
      simp only [k1, decide_false, cond_false, ans]
      rw [List.drop_eq_nil_of_le (by omega)]
      simp
  · simp only [ans, List.drop_zero]
    cases hf : l.findIdx? p with
    | none =>
      have : l.any p = false := by
        rw [List.any_eq_false]
        intro x hx
        have := List.findIdx?_eq_none_iff.1 hf x hx
        simp [this]
      rw [this]; simp
    | some j =>
      have : l.any p = true := by
        obtain ⟨h1, h2, _⟩ := List.findIdx?_eq_some_iff_getElem.1 hf
        exact List.any_eq_true.2 ⟨_, List.getElem_mem h1, h2⟩
      rw [this]; simp
def longT (t : List Int) : Bool := decide (4096 < (t.length : Int))
theorem F59_eq {l : List (List Int)} (hl : l.length ≤ 9223372036854775807) : F59058 (l, ()) = some (l.any longT) := by
  obtain ⟨r, h1, h2⟩ := idx_loop (t := .slice 5 (.int .u8)) (l := l) hl (p := longT) (G := F58) (fun x hx => rfl)
  have : F88058 (l, ()) = some r := h1
  unfold F59058
  simp only [this, Option.bind_some, h2]
open Classical in
noncomputable def findA (a : List Tm) (k : Int) (t : List Int) (l : List (List Int)) : Int × Int :=
  if ¬ valid a then (0, 1) else if longT t = true ∨ l.any longT = true then (0, 4) else match look a k t l with | some y => ((y : Int), 0) | none => (0, 5)
theorem F28_eq {a : List Tm} {k : Int} {t : List Int} {l : List (List Int)} (hl : l.length ≤ 9223372036854775807) : F28 (a, k, t, l) = some (findA a k t l) := by
  unfold F28 findA
  simp only [F54_eq, Option.bind_some, F59_eq hl]
  by_cases hv : valid a
  · simp only [hv, if_true, decide_true, Bool.not_true, cond_false, not_true_eq_false, if_false, F58, Option.bind_some]
    by_cases c1 : longT t = true
    · have c1' : (4096 : Int) < (t.length : Int) := by unfold longT at c1; simpa using c1
      simp [c1, c1']
    · have c1' : ¬ (4096 : Int) < (t.length : Int) := by unfold longT at c1; simpa using c1
      simp only [c1, c1', decide_false, beq_self_eq_true, cond_true, false_or]
      cases c2 : l.any longT with
      | true => simp
      | false =>
        simp only [cond_false, Bool.false_eq_true, or_self, if_false]
        refine lfp_rule (fun (x : Int × Bool × Int) => ∃ i : Nat, x.2.2 = (i : Int) ∧ i ≤ l.length ∧ (match look a k t (l.take i) with | some y => x.1 = (y : Int) ∧ x.2.1 = true | none => x.2.1 = false)) (fun x => l.length - x.2.2.toNat)
          (fun _ => (match look a k t l with | some y => ((y : Int), (0 : Int)) | none => ((0 : Int), (5 : Int)) : Int × Int)) ?_ ((mget kT (.int .i64) 0 (book 0 a) (k, (-1, t)) : Int), mhas kT (.int .i64) (book 0 a) (k, (-1, t)), (0 : Int)) ⟨0, rfl, by omega, ?_⟩
        · rintro ⟨at_, th, i'⟩ ⟨i, hi', hi, hst⟩ rec hrec
          simp only at hi' hst
          subst hi'
          simp only
          have stay : look a k t (l.take i) = none → look a k t l = none := by
            intro h
            have : ∀ n, i ≤ n → n ≤ l.length → look a k t (l.take n) = none := by
              intro n hn
              induction n with
              | zero => intro _; have : i = 0 := by omega
                        subst this; exact h
              | succ n ih =>
                intro hn2
                by_cases he : i = n + 1
                · subst he; exact h
                · rw [List.take_succ_eq_append_getElem (by omega)]
                  exact look_none (ih (by omega) (by omega))
            have := this l.length hi (Nat.le_refl _)
            rwa [List.take_length] at this
          by_cases hlt : i < l.length
          · have k1 : ((i : Int) < (l.length : Int)) := by omega
            simp only [k1, decide_true, cond_true, inb_true (Int.natCast_nonneg i) k1, rd_nat (t := .slice 5 (.int .u8)) hlt]
            cases hlk : look a k t (l.take i) with
            | none =>
              rw [hlk] at hst
              simp only at hst
              rw [stay hlk, hst]
              rfl
            | some y =>
              rw [hlk] at hst
              simp only at hst
              obtain ⟨rfl, rfl⟩ := hst
              simp only [Bool.not_true, cond_false, has_book]
              rw [RB.wrap_i64 (n := (i : Int) + 1) (by omega) (by omega)]
              refine hrec _ ⟨i + 1, by simp, by omega, ?_⟩ (by simp only; omega)
              rw [List.take_succ_eq_append_getElem hlt, look_append hlk]
              by_cases hm : (0, ((y : Int), l[i])) ∈ a
              · simp only [hm, if_true, decide_true, and_true]
                have := get_book _ _ 0 hm
                rw [this]; simp
              · simp [hm]
          · have k1 : ¬ ((i : Int) < (l.length : Int)) := by omega
            have hie : i = l.length := by omega
            simp only [k1, decide_false, cond_false]
            rw [hie, List.take_length] at hst
            cases hlk : look a k t l with
            | none => rw [hlk] at hst; simp only at hst; rw [hst]; rfl
            | some y => rw [hlk] at hst; simp only at hst; rw [hst.1, hst.2]; rfl
        · simp only [List.take_zero, look, wk, has_book]
          by_cases hm : (k, ((-1 : Int), t)) ∈ a
          · simp only [hm, if_true, decide_true, and_true]
            rw [get_book _ _ 0 hm]; simp
          · simp [hm]
  · simp [hv]
/-- Turned round. -/
theorem rev_loop {l : List (List Int)} (hl : l.length ≤ 9223372036854775807) {R : Type} (res : List (List Int) → Option R) (x : R) (hres : res l.reverse = some x) :
    lfp (fun (rec4 : (Int × Int × List (List Int)) → Option R) (x4 : Int × Int × List (List Int)) =>
      bif decide (x4.1 < x4.2.1) then (
      bif inb x4.2.1 x4.2.2.length then
      bif inb x4.1 x4.2.2.length then
      bif inb x4.1 x4.2.2.length then
      bif inb x4.2.1 (x4.2.2.set x4.1.toNat (rd (.slice 5 (.int .u8)) x4.2.2 x4.2.1)).length then
      rec4 ((IntKind.wrap .i64 (x4.1 + 1)), (IntKind.wrap .i64 (x4.2.1 - 1)), ((x4.2.2.set x4.1.toNat (rd (.slice 5 (.int .u8)) x4.2.2 x4.2.1)).set x4.2.1.toNat (rd (.slice 5 (.int .u8)) x4.2.2 x4.1)))
      else none
      else none
      else none
      else none)
      else (res x4.2.2)) (0, (IntKind.wrap .i64 ((l.length : Int) - 1)), l) = some x := by
  rw [RB.wrap_i64 (n := (l.length : Int) - 1) (by omega) (by omega)]
  refine lfp_rule (fun (y : Int × Int × List (List Int)) => ∃ i : Nat, y.1 = (i : Int) ∧ y.2.1 = (l.length : Int) - 1 - (i : Int) ∧ y.2.2.length = l.length ∧ (i : Int) ≤ (l.length : Int) - 1 - (i : Int) + 1 ∧
      ∀ k : Nat, k < l.length → y.2.2[k]? = if k < i ∨ l.length - 1 - i < k then l[l.length - 1 - k]? else l[k]?) (fun y => l.length - y.1.toNat) (fun _ => x) ?_ _ ⟨0, rfl, by simp, rfl, by omega, fun k hk => by
        rw [if_neg (by omega)]⟩
  rintro ⟨i', j', y⟩ ⟨i, hi', hj', hy, hij, hk⟩ rec hrec
  simp only at hi' hj' hy hk
  subst hi'
  simp only
  by_cases hlt : (i : Int) < j'
  · have hjn : j' = ((l.length - 1 - i : Nat) : Int) := by omega
    generalize hjj : l.length - 1 - i = j at hjn hk
    subst hjn
    have ki : i < y.length := by omega
    have kj : j < y.length := by omega
    simp only [hlt, decide_true, cond_true, inb_true (Int.natCast_nonneg i) (show (i : Int) < (y.length : Int) by omega), inb_true (Int.natCast_nonneg j) (show (j : Int) < (y.length : Int) by omega), Int.toNat_natCast, List.length_set,
      rd_nat (t := .slice 5 (.int .u8)) ki, rd_nat (t := .slice 5 (.int .u8)) kj]
    rw [RB.wrap_i64 (n := (i : Int) + 1) (by omega) (by omega), RB.wrap_i64 (n := (j : Int) - 1) (by omega) (by omega)]
    have yi : y[i]? = l[i]? := by rw [hk i (by omega), if_neg (by omega)]
    have yj : y[j]? = l[j]? := by rw [hk j (by omega), if_neg (by omega)]
    refine hrec _ ⟨i + 1, by simp, by first | omega | (simp only; omega), by simp [hy], by first | omega | (simp only; omega), fun k hkl => ?_⟩ (by simp only; omega)
    simp only
    rw [List.getElem?_set, List.getElem?_set, List.length_set]
    by_cases q1 : j = k
    · subst q1
      rw [if_pos rfl, if_pos kj, if_pos (by omega), ← List.getElem?_eq_getElem ki, yi]
      congr 1; omega
    · rw [if_neg q1]
      by_cases q2 : i = k
      · subst q2
        rw [if_pos rfl, if_pos ki, if_pos (by omega), ← List.getElem?_eq_getElem kj, yj]
        congr 1; omega
      · rw [if_neg q2, hk k hkl]
        by_cases q3 : k < i ∨ j < k
        · rw [if_pos q3, if_pos (by omega)]
        · rw [if_neg q3, if_neg (by omega)]
  · simp only [hlt, decide_false, cond_false]
    have : y = l.reverse := by
      apply List.ext_getElem?
      intro k
      by_cases hkl : k < l.length
      · rw [hk k hkl, List.getElem?_reverse hkl]
        by_cases q : k < i ∨ l.length - 1 - i < k
        · rw [if_pos q]
        · rw [if_neg q]
          have : k = l.length - 1 - k := by omega
          rw [← this]
      · rw [List.getElem?_eq_none (by omega), List.getElem?_eq_none (by simp; omega)]
    rw [this, hres]
end Go.Proofs.Ytcpcbeeghjigkaa.R3
