/- Part of a proof: what the program's functions come to. -/
import Derived.Test.YtcpcbeeghjigkaaLH
import Derived.Test.YtcpcbeeghjigkaaHB0
import Derived.Test.YtcpcbeeghjigkaaFwRow
set_option linter.unusedVariables false
set_option linter.unusedSimpArgs false
namespace Go.Proofs.Ytcpcbeeghjigkaa.R3
open Go Go.Fw Go.Proofs RB
set_option maxRecDepth 20000
/-! ### arenas -/
abbrev Tm := Int × (Int × List Int)
abbrev kT : Ty := .pair (.int .u64) (.pair (.int .i64) .str)
abbrev tT : Ty := .pair (.int .u64) (.pair (.int .i64) (.slice 5 (.int .u8)))
theorem eqK (k e : Tm) : eqb kT k e = decide (k = e) := by
  rw [Bool.eq_iff_iff]
  simp only [eqb, Bool.and_eq_true, decide_eq_true_eq]
  constructor
  · rintro ⟨h1, h2, h3⟩; exact Prod.ext h1 (Prod.ext h2 h3)
  · intro h; rw [h]; exact ⟨rfl, rfl, rfl⟩
def book : Nat → List Tm → List (Tm × Int)
  | _, [] => []
  | i, x :: r => (x, (i : Int)) :: book (i + 1) r
def ix : List Tm → Tm → Nat
  | [], _ => 0
  | x :: r, k => if k = x then 0 else ix r k + 1
theorem ix_lt : ∀ {a : List Tm} {k : Tm}, k ∈ a → ix a k < a.length
  | [], k, h => by simp at h
  | x :: r, k, h => by
    simp only [ix]
    split
    · simp
    · rename_i hne
      have := ix_lt (a := r) (k := k) ((List.mem_cons.1 h).resolve_left hne)
      simp; omega
theorem ix_get : ∀ {a : List Tm} {k : Tm}, k ∈ a → a[ix a k]? = some k
  | [], k, h => by simp at h
  | x :: r, k, h => by
    simp only [ix]
    split
    · rename_i he; simp [he]
    · rename_i hne
      simpa using ix_get (a := r) (k := k) ((List.mem_cons.1 h).resolve_left hne)
theorem ix_append : ∀ {a : List Tm} {k : Tm} (b : List Tm), k ∈ a → ix (a ++ b) k = ix a k
  | [], k, _, h => by simp at h
  | x :: r, k, b, h => by
    simp only [List.cons_append, ix]
    split
    · rfl
    · rename_i hne
      rw [ix_append b ((List.mem_cons.1 h).resolve_left hne)]
theorem ix_new : ∀ {a : List Tm} {k : Tm}, k ∉ a → ix (a ++ [k]) k = a.length
  | [], k, h => by simp [ix]
  | x :: r, k, h => by
    simp only [List.mem_cons, not_or] at h
    simp only [List.cons_append, ix, if_neg h.1, ix_new h.2, List.length_cons]
theorem has_book (k : Tm) : ∀ (a : List Tm) (i : Nat), mhas kT (.int .i64) (book i a) k = decide (k ∈ a)
  | [], i => by simp [book, mhas]
  | x :: r, i => by
    simp only [book, mhas, eqK, has_book k r (i + 1), List.mem_cons]
    by_cases h : k = x <;> simp [h]
theorem get_book (k : Tm) : ∀ (a : List Tm) (i : Nat), k ∈ a → mget kT (.int .i64) 0 (book i a) k = ((i + ix a k : Nat) : Int)
  | [], i, h => by simp at h
  | x :: r, i, h => by
    simp only [book, mget, eqK, ix]
    by_cases hx : k = x
    · simp [hx]
    · simp only [hx, decide_false, cond_false, if_false]
      rw [get_book k r (i + 1) ((List.mem_cons.1 h).resolve_left hx)]
      show ((i + 1 + ix r k : Nat) : Int) = ((i + (ix r k + 1) : Nat) : Int)
      omega
theorem put_book (k : Tm) (v : Int) : ∀ (a : List Tm) (i : Nat), k ∉ a → mput kT (.int .i64) (book i a) k v = book i a ++ [(k, v)]
  | [], i, h => by simp [book, mput]
  | x :: r, i, h => by
    simp only [List.mem_cons, not_or] at h
    simp only [book, mput, eqK, h.1, decide_false, cond_false, put_book k v r (i + 1) h.2, List.cons_append]
theorem book_snoc (x : Tm) : ∀ (a : List Tm) (i : Nat), book i (a ++ [x]) = book i a ++ [(x, ((i + a.length : Nat) : Int))]
  | [], i => by simp [book]
  | y :: r, i => by
    simp only [List.cons_append, book, book_snoc x r (i + 1), List.length_cons]
    rw [show i + 1 + r.length = i + (r.length + 1) by omega]
/-- A node may stand at i behind these. -/
def ok1 (pre : List Tm) (n : Tm) : Prop := n ∉ pre ∧ (-1 ≤ n.2.1 ∧ n.2.1 < pre.length) ∧ (-1 < n.2.1 → n.1 = 0) ∧ n.2.2.length ≤ 4096
instance (pre : List Tm) (n : Tm) : Decidable (ok1 pre n) := by unfold ok1; infer_instance
structure valid (a : List Tm) : Prop where
  len : a.length ≤ 1048576
  ok : ∀ i (h : i < a.length), ok1 (a.take i) a[i]
open Classical in
theorem F54_eq (a : List Tm) : F54 a = some (if valid a then (book 0 a, 0) else ([], 1)) := by
  unfold F54
  by_cases hl : 1048576 < a.length
  · have h1 : (1048576 : Int) < (a.length : Int) := by omega
    have hn : ¬ valid a := fun h => by have := h.len; omega
    simp [h1, hn]
  · have h1 : ¬ (1048576 : Int) < (a.length : Int) := by omega
    simp only [h1, decide_false, cond_false]
    refine lfp_rule (fun (x : Int × Int × List (Tm × Int)) => ∃ i : Nat, x.2.1 = (i : Int) ∧ i ≤ a.length ∧ x.2.2 = book 0 (a.take i) ∧ ∀ j (h : j < a.length), j < i → ok1 (a.take j) a[j]) (fun x => a.length - x.2.1.toNat)
      (fun _ => if valid a then (book 0 a, 0) else ([], 1)) ?_ ((0 : Int), (0 : Int), ([] : List (Tm × Int))) ⟨0, rfl, by omega, rfl, fun j _ hj => by omega⟩
    rintro ⟨u, i', acc⟩ ⟨i, hi', hi, hacc, hok⟩ rec hrec
    simp only at hi' hacc
    subst hi'
    simp only
    by_cases hlt : i < a.length
    · have k1 : ((i : Int) < (a.length : Int)) := by omega
      have hbad : ¬ ok1 (a.take i) a[i] → ¬ valid a := fun h hv => h (hv.ok i hlt)
      have hpl : (a.take i).length = i := by rw [List.length_take]; omega
      simp only [k1, decide_true, cond_true, inb_true (Int.natCast_nonneg i) k1, rd_nat (t := tT) hlt, F84, Option.bind_some, Prod.eta, hacc, has_book]
      by_cases c1 : a[i] ∈ a.take i
      · have : ¬ valid a := hbad fun h => h.1 c1
        simp [c1, this]
      by_cases c2 : a[i].2.1 < -1
      · have : ¬ valid a := hbad fun h => by have := h.2.1; omega
        simp [c1, c2, this]
      by_cases c3 : (i : Int) ≤ a[i].2.1
      · have : ¬ valid a := hbad fun h => by have := h.2.1; omega
        simp [c1, c2, c3, this]
      by_cases c4 : -1 < a[i].2.1 ∧ a[i].1 ≠ 0
      · have : ¬ valid a := hbad fun h => c4.2 (h.2.2.1 c4.1)
        simp [c1, c2, c3, c4.1, c4.2, this]
      by_cases c5 : (4096 : Int) < (a[i].2.2.length : Int)
      · have : ¬ valid a := hbad fun h => by have := h.2.2.2; omega
        have c4' : (bif decide (-1 < a[i].2.1) then !decide (a[i].1 = 0) else false) = false := by
          by_cases q : -1 < a[i].2.1
          · have : a[i].1 = 0 := Classical.byContradiction fun h => c4 ⟨q, h⟩
            simp [q, this]
          · simp [q]
        simp only [c1, c2, c3, c4', c5, decide_true, decide_false, cond_true, cond_false, this, if_false]
        rfl
      have c4' : (bif decide (-1 < a[i].2.1) then !decide (a[i].1 = 0) else false) = false := by
        by_cases q : -1 < a[i].2.1
        · have : a[i].1 = 0 := Classical.byContradiction fun h => c4 ⟨q, h⟩
          simp [q, this]
        · simp [q]
      simp only [c1, c2, c3, c4', c5, decide_true, decide_false, cond_true, cond_false, beq_self_eq_true]
      rw [RB.wrap_i64 (n := (i : Int) + 1) (by omega) (by omega), put_book _ _ _ _ c1]
      refine hrec _ ⟨i + 1, by simp, by omega, ?_, fun j hj hji => ?_⟩ (by simp only; omega)
      · simp only
        rw [List.take_succ_eq_append_getElem hlt, book_snoc, hpl]
        simp
      · by_cases hij : j = i
        · subst hij
          refine ⟨c1, ⟨by omega, by rw [hpl]; omega⟩, fun q => ?_, by omega⟩
          exact Classical.byContradiction fun h => c4 ⟨q, h⟩
        · exact hok j hj (by omega)
    · have k1 : ¬ ((i : Int) < (a.length : Int)) := by omega
      have hie : i = a.length := by omega
      have hv : valid a := ⟨by omega, fun j hj => hok j hj (by omega)⟩
      simp only [k1, decide_false, cond_false, hv, if_true]
      rw [hacc, hie, List.take_length]
theorem F60_eq {l : List Int} (h : l.length ≤ 1000000) : F60 l = some l := by
  unfold F60
  have : (([] : List Int).length + l.length) * 1 ≤ LIM := by unfold LIM; simp; omega
  simp only [this, decide_true, cond_true, List.nil_append]
  cases l with
  | nil => simp [both_self]
  | cons x r => simp
theorem F86_eq {l : List Tm} (h : l.length ≤ 2000000) : F86 l = some l := by
  unfold F86
  have : (([] : List Tm).length + l.length) * 40 ≤ LIM := by unfold LIM; simp; omega
  simp only [this, decide_true, cond_true, List.nil_append]
  cases l with
  | nil => simp [both_self]
  | cons x r => simp
theorem clone_loop {l : List Tm} (hl : l.length ≤ 2000000) (ht : ∀ n ∈ l, n.2.2.length ≤ 4096) {R : Type} (res : List Tm → Option R) (x : R) (hres : res l = some x) :
    lfp (fun (rec4 : (Int × List Tm) → Option R) (x4 : Int × List Tm) =>
      bif decide (x4.1 < (l.length : Int)) then (
      bif inb x4.1 x4.2.length then
      (F60 (((rd tT x4.2 x4.1).2).2)).bind fun r5 =>
      bif inb x4.1 x4.2.length then
      rec4 ((IntKind.wrap .i64 (x4.1 + 1)), (x4.2.set x4.1.toNat ((rd tT x4.2 x4.1).1, (((rd tT x4.2 x4.1).2).1, r5))))
      else none
      else none)
      else res x4.2) (0, l) = some x := by
  refine lfp_rule (fun (y : Int × List Tm) => ∃ i : Nat, y.1 = (i : Int) ∧ i ≤ l.length ∧ y.2 = l) (fun y => l.length - y.1.toNat) (fun _ => x) ?_ _ ⟨0, rfl, by omega, rfl⟩
  rintro ⟨i', y⟩ ⟨i, hi', hi, hy⟩ rec hrec
  simp only at hi' hy
  subst hi'
  subst hy
  simp only
  by_cases hlt : i < y.length
  · have k1 : ((i : Int) < (y.length : Int)) := by omega
    have hx := ht _ (List.getElem_mem hlt)
    simp only [k1, decide_true, cond_true, inb_true (Int.natCast_nonneg i) k1, rd_nat (t := tT) hlt, F60_eq (l := y[i].2.2) (by omega), Option.bind_some, Prod.eta, Int.toNat_natCast, List.set_getElem_self]
    rw [RB.wrap_i64 (n := (i : Int) + 1) (by omega) (by omega)]
    exact hrec _ ⟨i + 1, by simp, by omega, rfl⟩ (by simp only; omega)
  · have k1 : ¬ ((i : Int) < (y.length : Int)) := by omega
    simp only [k1, decide_false, cond_false, hres]
open Classical in
noncomputable def putA (a : List Tm) (n : Tm) : List Tm × Int × Int :=
  if ¬ valid a ∨ (a.length : Int) ≤ n.2.1 then ([], 0, 1) else if 4096 < n.2.2.length then ([], 0, 4) else if n ∈ a then (a, (ix a n : Int), 0) else
    if a.length = 1048576 then ([], 0, 7) else (a ++ [n], (a.length : Int), 0)
theorem valid.text {a : List Tm} (h : valid a) : ∀ n ∈ a, n.2.2.length ≤ 4096 := by
  intro n hn
  obtain ⟨i, hi, rfl⟩ := List.getElem_of_mem hn
  exact (h.ok i hi).2.2.2
theorem F51_eq (a : List Tm) (n : Tm) : F51 (a, n) = some (putA a n) := by
  unfold F51 putA
  simp only [Prod.eta, F54_eq, Option.bind_some]
  by_cases hv : valid a
  · by_cases c1 : (a.length : Int) ≤ n.2.1
    · simp [hv, c1]
    · have hlen := hv.len
      simp only [hv, c1, if_true, not_true_eq_false, false_or, if_false, decide_true, Bool.not_true, cond_false, decide_false]
      by_cases c2 : 4096 < n.2.2.length
      · have c2' : (4096 : Int) < (n.2.2.length : Int) := by omega
        simp [c2, c2']
      · have c2' : ¬ (4096 : Int) < (n.2.2.length : Int) := by omega
        simp only [c2, c2', decide_false, cond_false, if_false, F84, Option.bind_some, Prod.eta, has_book]
        by_cases c3 : n ∈ a
        · simp only [c3, decide_true, Bool.not_true, cond_false, if_true, F86_eq (l := a) (by omega), Option.bind_some, both_self, get_book _ _ _ c3, Nat.zero_add]
          exact clone_loop (by omega) hv.text (fun l => some (l, (ix a n : Int), 0)) _ rfl
        · simp only [c3, decide_false, Bool.not_false, cond_true, if_false]
          by_cases c4 : a.length = 1048576
          · have c4' : (a.length : Int) = 1048576 := by omega
            simp [c4, c4']
          · have c4' : ¬ (a.length : Int) = 1048576 := by omega
            have k1 : inb (a.length : Int) (a.length + 1) = true := inb_true (by omega) (by omega)
            have k2 : ((a.take a.length).length + 1) * 40 ≤ LIM := by rw [List.take_length]; unfold LIM; omega
            simp only [c4, c4', decide_false, decide_true, cond_false, if_false, both_self, k1, Bool.and_self, cond_true, Int.toNat_natCast, k2, List.take_length]
            have k3 : (a.length + 1) * 40 ≤ LIM := by unfold LIM; omega
            simp only [k3, decide_true, cond_true, F86_eq (l := a ++ [n]) (by simp; omega), Option.bind_some]
            exact clone_loop (l := a ++ [n]) (by simp; omega) (fun x hx => by
              rcases List.mem_append.1 hx with hx | hx
              · exact hv.text x hx
              · simp only [List.mem_singleton] at hx; subst hx; omega) (fun l => some (l, (a.length : Int), 0)) _ rfl
  · simp [hv]
end Go.Proofs.Ytcpcbeeghjigkaa.R3
