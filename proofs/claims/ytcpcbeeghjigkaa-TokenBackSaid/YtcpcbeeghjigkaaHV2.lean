/- Part of a proof: what the program's functions come to. -/
import Derived.Test.YtcpcbeeghjigkaaHV1
set_option linter.unusedVariables false
set_option linter.unusedSimpArgs false
namespace Go.Proofs.Ytcpcbeeghjigkaa.R3
open Go Go.Fw Go.Proofs
theorem rd_get {t : Ty} {l : List t.den} {i : Int} (h0 : 0 ≤ i) (h1 : i < l.length) : ∃ (h : i.toNat < l.length), rd t l i = l[i.toNat] := by
  have h : i.toNat < l.length := by omega
  exact ⟨h, by unfold rd; rw [List.getD_eq_getElem?_getD, List.getElem?_eq_getElem h]; rfl⟩
theorem inb_true {i : Int} {n : Nat} (h0 : 0 ≤ i) (h1 : i < n) : inb i n = true := by simp [inb, h0, h1]
/-- The bytes' loop. -/
theorem inner {n : Int} (hn : 0 ≤ n) {B : (List Int × Int → Option (List Int)) → List Int × Int → Option (List Int)} {r : List Int → Option (List Int)} {acc : List Int} {res : List Int} (hacc : acc.length ≤ 1000000)
    (hr : r (acc ++ dig n (wid n)) = some res)
    (hB : B = fun rec4 x4 =>
      bif decide (x4.2 < (wid n : Int)) then (
      (F90 (fst n)).bind fun r5 =>
      bif decide (0 ≤ (IntKind.wrap .i64 (8 * (IntKind.wrap .i64 ((IntKind.wrap .i64 (r5 - 1)) - x4.2))))) then
      bif decide ((x4.1.length + 1) * 1 ≤ LIM) then
      rec4 ((x4.1 ++ ([(IntKind.wrap .u8 (n / 2 ^ (min (IntKind.wrap .i64 (8 * (IntKind.wrap .i64 ((IntKind.wrap .i64 (r5 - 1)) - x4.2)))).toNat 64)))])), (IntKind.wrap .i64 (x4.2 + 1)))
      else none
      else none)
      else (r x4.1)) : lfp B (acc, 0) = some res := by
  subst hB
  have hw := wid_le n
  refine lfp_rule (fun x => ∃ i : Nat, x.2 = (i : Int) ∧ i ≤ wid n ∧ x.1.length = acc.length + i ∧ x.1 ++ dig n (wid n - i) = acc ++ dig n (wid n)) (fun x => wid n - x.2.toNat) (fun _ => res) ?_ (acc, 0) ⟨0, rfl, by omega, rfl, rfl⟩
  rintro ⟨y, i'⟩ ⟨i, rfl, hi, hl, he⟩ rec hrec
  simp only at hl he ⊢
  by_cases hlt : i < wid n
  · have h1 : ((i : Int) < (wid n : Int)) := by omega
    obtain ⟨k, hk⟩ : ∃ k, wid n - i = k + 1 := ⟨wid n - i - 1, by omega⟩
    have hk2 : (IntKind.wrap .i64 ((IntKind.wrap .i64 ((wid n : Int) - 1)) - (i : Int))) = k := by
      rw [wrap_i64 (n := (wid n : Int) - 1) (by omega) (by omega), wrap_i64 (by omega) (by omega)]; omega
    have hk3 : IntKind.wrap .i64 (8 * (k : Int)) = 8 * k := wrap_i64 (by omega) (by omega)
    have hlen : (y.length + 1) * 1 ≤ LIM := by unfold LIM; omega
    have hmin : min (8 * (k : Int)).toNat 64 = 8 * k := by omega
    simp only [h1, decide_true, cond_true, F90_eq hn, Option.bind_some, hk2, hk3, hlen, hmin, wrap_u8]
    rw [show decide (0 ≤ 8 * (k : Int)) = true by simp; omega, cond_true]
    rw [wrap_i64 (n := (i : Int) + 1) (by omega) (by omega)]
    refine hrec _ ⟨i + 1, by simp, by omega, by simp; omega, ?_⟩ ?_
    · rw [← he, hk]
      simp only [dig, List.append_assoc, List.singleton_append]
      rw [show wid n - (i + 1) = k by omega]
    · simp only; omega
  · have h1 : ¬ ((i : Int) < (wid n : Int)) := by omega
    simp only [h1, decide_false, cond_false]
    have : wid n - i = 0 := by omega
    rw [this] at he
    simp only [dig, List.append_nil] at he
    rw [he, hr]
/-- bigsize.Put -/
theorem F62_eq {l : List Int} (h : ∀ n ∈ l, 0 ≤ n) (hl : l.length ≤ 100000) : F62 l = some (l.flatMap enc1) := by
  unfold F62
  have elen : ∀ n, (enc1 n).length ≤ 9 := fun n => by have := wid_le n; simp [enc1, dig_len]; omega
  have flen : ∀ m : List Int, (m.flatMap enc1).length ≤ 9 * m.length := by
    intro m
    induction m with
    | nil => simp
    | cons a m ih => rw [List.flatMap_cons, List.length_append, List.length_cons]; have := elen a; omega
  refine lfp_rule (fun x => ∃ i : Nat, x.2 = (i : Int) ∧ i ≤ l.length ∧ x.1 = (l.take i).flatMap enc1) (fun x => l.length - x.2.toNat) (fun _ => l.flatMap enc1) ?_ (([] : List Int), 0) ⟨0, rfl, by omega, rfl⟩
  rintro ⟨y, i'⟩ ⟨i, rfl, hi, rfl⟩ rec hrec
  simp only
  by_cases hlt : i < l.length
  · have h1 : ((i : Int) < (l.length : Int)) := by omega
    obtain ⟨hh, hrd⟩ := rd_get (t := .int .u64) (l := l) (i := i) (by omega) h1
    have hn : 0 ≤ rd (.int .u64) l i := by rw [hrd]; exact h _ (List.getElem_mem _)
    have hlen : (((l.take i).flatMap enc1).length + 1) * 1 ≤ LIM := by
      have := flen (l.take i)
      rw [List.length_take] at this
      unfold LIM; omega
    simp only [h1, decide_true, cond_true, inb_true (Int.natCast_nonneg i) h1, F89_eq hn, Option.bind_some, hlen, F90_eq hn]
    refine inner hn (r := fun z => rec (z, IntKind.wrap .i64 ((i : Int) + 1))) ?_ ?_ (by simp only [F90_eq hn, Option.bind_some])
    · have := flen (l.take i)
      rw [List.length_take] at this
      rw [List.length_append, List.length_singleton]; omega
    · rw [wrap_i64 (n := (i : Int) + 1) (by omega) (by omega)]
      refine hrec _ ⟨i + 1, by simp, by omega, ?_⟩ (by simp only; omega)
      simp only
      rw [List.take_add_one, List.getElem?_eq_getElem hlt, Option.toList_some, List.flatMap_append, List.flatMap_singleton]
      simp only [enc1, List.append_assoc, List.singleton_append]
      have : rd (.int .u64) l i = l[i] := by rw [hrd]; simp
      rw [this]
  · have h1 : ¬ ((i : Int) < (l.length : Int)) := by omega
    simp only [h1, decide_false, cond_false]
    rw [List.take_of_length_le (by omega)]
end Go.Proofs.Ytcpcbeeghjigkaa.R3
