/- Part of a proof: what the program's functions come to. -/
import Derived.Test.YtcpcbeeghjigkaaHA4
set_option linter.unusedVariables false
set_option linter.unusedSimpArgs false
namespace Go.Proofs.Ytcpcbeeghjigkaa.R3
open Go Go.Fw Go.Proofs RB
set_option maxRecDepth 20000
/-- Up from a tag: the key at the root, the texts on the way. -/
def tr (a : List Tm) : Nat → Int → Int × List (List Int)
  | 0, _ => (0, [])
  | f + 1, x => if x < 0 then (0, []) else
    match a[x.toNat]? with
    | some n => (if n.2.1 < 0 then n.1 else (tr a f n.2.1).1, n.2.2 :: (tr a f n.2.1).2)
    | none => (0, [])
theorem up_lt {a : List Tm} (h : valid a) {x : Nat} (hx : x < a.length) : -1 ≤ a[x].2.1 ∧ a[x].2.1 < x := by
  have := (h.ok x hx).2.1
  rw [List.length_take] at this
  omega
theorem tr_fuel {a : List Tm} (h : valid a) : ∀ (f : Nat) (x : Int), -1 ≤ x → x < a.length → (x + 1).toNat ≤ f → tr a f x = tr a (x + 1).toNat x
  | 0, x, h1, h2, hf => by rw [show (x + 1).toNat = 0 by omega]
  | f + 1, x, h1, h2, hf => by
    by_cases hx : x < 0
    · have : (x + 1).toNat = 0 := by omega
      rw [this]
      simp [tr, hx]
    · obtain ⟨n, rfl⟩ : ∃ n : Nat, x = n := ⟨x.toNat, by omega⟩
      have e : ((n : Int) + 1).toNat = n + 1 := by omega
      rw [e]
      have hn : n < a.length := by omega
      have hu := up_lt h hn
      simp only [tr, hx, if_false, Int.toNat_natCast, List.getElem?_eq_getElem hn]
      have q1 := tr_fuel h f a[n].2.1 hu.1 (by omega) (by omega)
      have q2 : tr a n a[n].2.1 = tr a (a[n].2.1 + 1).toNat a[n].2.1 := by
        by_cases hz : n ≤ f
        · exact tr_fuel h n a[n].2.1 hu.1 (by omega) (by omega)
        · omega
      rw [q1, q2]
termination_by f => f
theorem ix_at {a : List Tm} (h : valid a) {x : Nat} (hx : x < a.length) : ix a a[x] = x := by
  have hm : a[x] ∈ a := List.getElem_mem hx
  have h1 := ix_lt hm
  have h2 := ix_get hm
  rw [List.getElem?_eq_getElem h1] at h2
  simp only [Option.some.injEq] at h2
  rcases Nat.lt_trichotomy (ix a a[x]) x with hlt | he | hgt
  · exfalso
    refine (h.ok x hx).1 ?_
    rw [List.mem_take_iff_getElem]
    exact ⟨ix a a[x], by omega, h2⟩
  · exact he
  · exfalso
    refine (h.ok _ h1).1 ?_
    rw [h2, List.mem_take_iff_getElem]
    exact ⟨x, by omega, rfl⟩
def trN (a : List Tm) (x : Int) : Int × List (List Int) := tr a (x + 1).toNat x
theorem trN_neg {a : List Tm} {x : Int} (h : x < 0) : trN a x = (0, []) := by
  unfold trN
  rw [show (x + 1).toNat = 0 by omega]
  rfl
theorem trN_step {a : List Tm} (h : valid a) {x : Nat} (hx : x < a.length) : trN a x = (if a[x].2.1 < 0 then a[x].1 else (trN a a[x].2.1).1, a[x].2.2 :: (trN a a[x].2.1).2) := by
  have hu := up_lt h hx
  unfold trN
  rw [show ((x : Int) + 1).toNat = x + 1 by omega, tr, if_neg (by omega)]
  simp only [Int.toNat_natCast, List.getElem?_eq_getElem hx]
  rw [tr_fuel h x a[x].2.1 hu.1 (by omega) (by omega)]
theorem trN_look {a : List Tm} (h : valid a) : ∀ (n x : Nat) (hx : x < a.length), x ≤ n → ∃ t ts, (trN a x).2.reverse = t :: ts ∧ look a (trN a x).1 t ts = some x := by
  intro n
  induction n with
  | zero =>
    intro x hx hn
    have hu := up_lt h hx
    have hneg : a[x].2.1 < 0 := by omega
    rw [trN_step h hx, if_pos hneg, trN_neg hneg]
    refine ⟨a[x].2.2, [], by simp, ?_⟩
    have hm : (a[x].1, ((-1 : Int), a[x].2.2)) = a[x] := Prod.ext rfl (Prod.ext (by simp only; omega) rfl)
    unfold look
    rw [hm, if_pos (List.getElem_mem hx), ix_at h hx]
    rfl
  | succ n ih =>
    intro x hx hn
    have hu := up_lt h hx
    rw [trN_step h hx]
    by_cases hneg : a[x].2.1 < 0
    · rw [if_pos hneg, trN_neg hneg]
      refine ⟨a[x].2.2, [], by simp, ?_⟩
      have hm : (a[x].1, ((-1 : Int), a[x].2.2)) = a[x] := Prod.ext rfl (Prod.ext (by simp only; omega) rfl)
      unfold look
      rw [hm, if_pos (List.getElem_mem hx), ix_at h hx]
      rfl
    · obtain ⟨z, hz⟩ : ∃ z : Nat, a[x].2.1 = z := ⟨a[x].2.1.toNat, by omega⟩
      rw [if_neg hneg, hz]
      have hzl : z < a.length := by omega
      obtain ⟨t, ts, h1, h2⟩ := ih z hzl (by omega)
      refine ⟨t, ts ++ [a[x].2.2], by simp [h1], ?_⟩
      rw [look_append h2]
      have hk := (h.ok x hx).2.2.1 (by omega)
      have hm : ((0 : Int), ((z : Int), a[x].2.2)) = a[x] := Prod.ext hk.symm (Prod.ext hz.symm rfl)
      rw [hm, if_pos (List.getElem_mem hx), ix_at h hx]
open Classical in
noncomputable def pathA (a : List Tm) (x : Int) : Int × List (List Int) × Int :=
  if ¬ valid a ∨ x < 0 ∨ (a.length : Int) ≤ x then (0, [], 1) else ((trN a x).1, (trN a x).2.reverse, 0)
theorem F30_eq (a : List Tm) (x : Int) : F30 (a, x) = some (pathA a x) := by
  unfold F30 pathA
  simp only [F54_eq, Option.bind_some, both_self]
  by_cases hv : valid a
  · have hlen := hv.len
    by_cases c1 : x < 0
    · simp [hv, c1]
    by_cases c2 : (a.length : Int) ≤ x
    · simp [hv, c1, c2]
    simp only [hv, c1, c2, if_true, decide_true, decide_false, Bool.not_true, cond_false, not_true_eq_false, or_self, if_false]
    refine lfp_rule (fun (y : Int × Int × List (List Int)) => -1 ≤ y.1 ∧ y.1 < a.length ∧ (y.2.2.length : Int) + (y.1 + 1) ≤ a.length) (fun y => (y.1 + 1).toNat)
      (fun y => (if y.1 < 0 then y.2.1 else (trN a y.1).1, (y.2.2 ++ (trN a y.1).2).reverse, 0)) ?_ (x, 0, []) ⟨by simp only; omega, by simp only; omega, by simp; omega⟩ |>.trans ?_
    · rintro ⟨y, k, l⟩ ⟨h1, h2, h3⟩ rec hrec
      simp only at h1 h2 h3
      simp only
      by_cases hy : y = -1
      · have hneg : y < 0 := by omega
        simp only [hy, decide_true, Bool.not_true, cond_false]
        rw [if_pos (by omega), trN_neg (a := a) (x := -1) (by omega), List.append_nil]
        exact rev_loop (l := l) (by omega) (fun m => some (k, m, (0 : Int))) _ rfl
      · obtain ⟨n, rfl⟩ : ∃ n : Nat, y = n := ⟨y.toNat, by omega⟩
        have hn : n < a.length := by omega
        have hu := up_lt hv hn
        have ht := hv.text _ (List.getElem_mem hn)
        have k3 : (l.length + 1) * 24 ≤ LIM := by unfold LIM; omega
        simp only [hy, decide_false, Bool.not_false, cond_true, inb_true (Int.natCast_nonneg n) h2, rd_nat (t := tT) hn, F60_eq (l := a[n].2.2) (by omega), Option.bind_some, k3, decide_true]
        rw [hrec _ ⟨hu.1, by simp only; omega, by simp; omega⟩ (by simp only; omega)]
        simp only [show ¬ ((n : Int) < 0) by omega, if_false]
        rw [trN_step hv hn]
        by_cases hneg : a[n].2.1 < 0
        · simp only [hneg, if_true, trN_neg hneg]
          simp
        · simp only [hneg, if_false]
          simp
    · simp only [c1, if_false, List.nil_append]
  · simp [hv]
end Go.Proofs.Ytcpcbeeghjigkaa.R3
