/- Part of a proof: what the program's functions come to. -/
import Derived.Test.YtcpcbeeghjigkaaLP
import Derived.Test.YtcpcbeeghjigkaaPB0
import Derived.Test.YtcpcbeeghjigkaaFwRow
set_option linter.unusedVariables false
set_option linter.unusedSimpArgs false
namespace Go.Proofs.Ytcpcbeeghjigkaa.R3
open Go Go.Fw Go.Proofs RB
set_option maxRecDepth 20000
/-! ### arenas -/
abbrev Tm := Int × (Int × List Int)
abbrev kT : Ty := .pair (.int .u64) (.pair (.int .i64) .str)
abbrev tT : Ty := .pair (.int .u64) (.pair (.int .i64) (.slice 5 (.int .u8)))
theorem eqK (k e : Tm) : eqb kT k e = decide (k = e) := by
  rw [Bool.eq_iff_iff]
  simp only [eqb, Bool.and_eq_true, decide_eq_true_eq]
  constructor
  · rintro ⟨h1, h2, h3⟩; exact Prod.ext h1 (Prod.ext h2 h3)
  · intro h; rw [h]; exact ⟨rfl, rfl, rfl⟩
def book : Nat → List Tm → List (Tm × Int)
  | _, [] => []
  | i, x :: r => (x, (i : Int)) :: book (i + 1) r
def ix : List Tm → Tm → Nat
  | [], _ => 0
  | x :: r, k => if k = x then 0 else ix r k + 1
theorem ix_lt : ∀ {a : List Tm} {k : Tm}, k ∈ a → ix a k < a.length
  | [], k, h => by simp at h
  | x :: r, k, h => by
    simp only [ix]
    split
    · simp
    · rename_i hne
      have := ix_lt (a := r) (k := k) ((List.mem_cons.1 h).resolve_left hne)
      simp; omega
theorem ix_get : ∀ {a : List Tm} {k : Tm}, k ∈ a → a[ix a k]? = some k
  | [], k, h => by simp at h
  | x :: r, k, h => by
    simp only [ix]
    split
    · rename_i he; simp [he]
    · rename_i hne
      simpa using ix_get (a := r) (k := k) ((List.mem_cons.1 h).resolve_left hne)
theorem ix_append : ∀ {a : List Tm} {k : Tm} (b : List Tm), k ∈ a → ix (a ++ b) k = ix a k
  | [], k, _, h => by simp at h
  | x :: r, k, b, h => by
    simp only [List.cons_append, ix]
    split
    · rfl
    · rename_i hne
      rw [ix_append b ((List.mem_cons.1 h).resolve_left hne)]
theorem ix_new : ∀ {a : List Tm} {k : Tm}, k ∉ a → ix (a ++ [k]) k = a.length
  | [], k, h => by simp [ix]
  | x :: r, k, h => by
    simp only [List.mem_cons, not_or] at h
    simp only [List.cons_append, ix, if_neg h.1, ix_new h.2, List.length_cons]
theorem has_book (k : Tm) : ∀ (a : List Tm) (i : Nat), mhas kT (.int .i64) (book i a) k = decide (k ∈ a)
  | [], i => by simp [book, mhas]
  | x :: r, i => by
    simp only [book, mhas, eqK, has_book k r (i + 1), List.mem_cons]
    by_cases h : k = x <;> simp [h]
theorem get_book (k : Tm) : ∀ (a : List Tm) (i : Nat), k ∈ a → mget kT (.int .i64) 0 (book i a) k = ((i + ix a k : Nat) : Int)
  | [], i, h => by simp at h
  | x :: r, i, h => by
    simp only [book, mget, eqK, ix]
    by_cases hx : k = x
    · simp [hx]
    · simp only [hx, decide_false, cond_false, if_false]
      rw [get_book k r (i + 1) ((List.mem_cons.1 h).resolve_left hx)]
      show ((i + 1 + ix r k : Nat) : Int) = ((i + (ix r k + 1) : Nat) : Int)
      omega
theorem put_book (k : Tm) (v : Int) : ∀ (a : List Tm) (i : Nat), k ∉ a → mput kT (.int .i64) (book i a) k v = book i a ++ [(k, v)]
  | [], i, h => by simp [book, mput]
  | x :: r, i, h => by
    simp only [List.mem_cons, not_or] at h
    simp only [book, mput, eqK, h.1, decide_false, cond_false, put_book k v r (i + 1) h.2, List.cons_append]
theorem book_snoc (x : Tm) : ∀ (a : List Tm) (i : Nat), book i (a ++ [x]) = book i a ++ [(x, ((i + a.length : Nat) : Int))]
  | [], i => by simp [book]
  | y :: r, i => by
    simp only [List.cons_append, book, book_snoc x r (i + 1), List.length_cons]
    rw [show i + 1 + r.length = i + (r.length + 1) by omega]
/-- A node may stand at i behind these. -/
def ok1 (pre : List Tm) (n : Tm) : Prop := n ∉ pre ∧ (-1 ≤ n.2.1 ∧ n.2.1 < pre.length) ∧ (-1 < n.2.1 → n.1 = 0) ∧ n.2.2.length ≤ 4096
instance (pre : List Tm) (n : Tm) : Decidable (ok1 pre n) := by unfold ok1; infer_instance
structure valid (a : List Tm) : Prop where
  len : a.length ≤ 1048576
  ok : ∀ i (h : i < a.length), ok1 (a.take i) a[i]
open Classical in
theorem F54_eq (a : List Tm) : F54 a = some (if valid a then (book 0 a, 0) else ([], 1)) := by
  unfold F54
  by_cases hl : 1048576 < a.length
  · have h1 : (1048576 : Int) < (a.length : Int) := by omega
    have hn : ¬ valid a := fun h => by have := h.len; omega
    simp [h1, hn]
  · have h1 : ¬ (1048576 : Int) < (a.length : Int) := by omega
    simp only [h1, decide_false, cond_false]
    refine lfp_rule (fun (x : Int × Int × List (Tm × Int)) => ∃ i : Nat, x.2.1 = (i : Int) ∧ i ≤ a.length ∧ x.2.2 = book 0 (a.take i) ∧ ∀ j (h : j < a.length), j < i → ok1 (a.take j) a[j]) (fun x => a.length - x.2.1.toNat)
      (fun _ => if valid a then (book 0 a, 0) else ([], 1)) ?_ ((0 : Int), (0 : Int), ([] : List (Tm × Int))) ⟨0, rfl, by omega, rfl, fun j _ hj => by omega⟩
    rintro ⟨u, i', acc⟩ ⟨i, hi', hi, hacc, hok⟩ rec hrec
    simp only at hi' hacc
    subst hi'
    simp only
    by_cases hlt : i < a.length
    · have k1 : ((i : Int) < (a.length : Int)) := by omega
      have hbad : ¬ ok1 (a.take i) a[i] → ¬ valid a := fun h hv => h (hv.ok i hlt)
      have hpl : (a.take i).length = i := by rw [List.length_take]; omega
      simp only [k1, decide_true, cond_true, inb_true (Int.natCast_nonneg i) k1, rd_nat (t := tT) hlt, F84, Option.bind_some, Prod.eta, hacc, has_book]
      by_cases c1 : a[i] ∈ a.take i
      · have : ¬ valid a := hbad fun h => h.1 c1
        simp [c1, this]
      by_cases c2 : a[i].2.1 < -1
      · have : ¬ valid a := hbad fun h => by have := h.2.1; omega
        simp [c1, c2, this]
      by_cases c3 : (i : Int) ≤ a[i].2.1
      · have : ¬ valid a := hbad fun h => by have := h.2.1; omega
        simp [c1, c2, c3, this]
      by_cases c4 : -1 < a[i].2.1 ∧ a[i].1 ≠ 0
      · have : ¬ valid a := hbad fun h => c4.2 (h.2.2.1 c4.1)
        simp [c1, c2, c3, c4.1, c4.2, this]
      by_cases c5 : (4096 : Int) < (a[i].2.2.length : Int)
      · have : ¬ valid a := hbad fun h => by have := h.2.2.2; omega
        have c4' : (bif decide (-1 < a[i].2.1) then !decide (a[i].1 = 0) else false) = false := by
          by_cases q : -1 < a[i].2.1
          · have : a[i].1 = 0 := Classical.byContradiction fun h => c4 ⟨q, h⟩
            simp [q, this]
          · simp [q]
        simp only [c1, c2, c3, c4', c5, decide_true, decide_false, cond_true, cond_false, this, if_false]
        rfl
      have c4' : (bif decide (-1 < a[i].2.1) then !decide (a[i].1 = 0) else false) = false := by
        by_cases q : -1 < a[i].2.1
        · have : a[i].1 = 0 := Classical.byContradiction fun h => c4 ⟨q, h⟩
          simp [q, this]
        · simp [q]
      simp only [c1, c2, c3, c4', c5, decide_true, decide_false, cond_true, cond_false, beq_self_eq_true]
      rw [RB.wrap_i64 (n := (i : Int) + 1) (by omega) (by omega), put_book _ _ _ _ c1]
      refine hrec _ ⟨i + 1, by simp, by omega, ?_, fun j hj hji => ?_⟩ (by simp only; omega)
      · simp only
        rw [List.take_succ_eq_append_getElem hlt, book_snoc, hpl]
        simp
      · by_cases hij : j = i
        · subst hij
          refine ⟨c1, ⟨by omega, by rw [hpl]; omega⟩, fun q => ?_, by omega⟩
          exact Classical.byContradiction fun h => c4 ⟨q, h⟩
        · exact hok j hj (by omega)
    · have k1 : ¬ ((i : Int) < (a.length : Int)) := by omega
      have hie : i = a.length := by omega
      have hv : valid a := ⟨by omega, fun j hj => hok j hj (by omega)⟩
      simp only [k1, decide_false, cond_false, hv, if_true]
      rw [hacc, hie, List.take_length]
theorem F60_eq {l : List Int} (h : l.length ≤ 1000000) : F60 l = some l := by
  unfold F60
  have : (([] : List Int).length + l.length) * 1 ≤ LIM := by unfold LIM; simp; omega
  simp only [this, decide_true, cond_true, List.nil_append]
  cases l with
  | nil => simp [both_self]
  | cons x r => simp
theorem F86_eq {l : List Tm} (h : l.length ≤ 2000000) : F86 l = some l := by
  unfold F86
  have : (([] : List Tm).length + l.length) * 40 ≤ LIM := by unfold LIM; simp; omega
  simp only [this, decide_true, cond_true, List.nil_append]
  cases l with
  | nil => simp [both_self]
  | cons x r => simp
theorem clone_loop {l : List Tm} (hl : l.length ≤ 2000000) (ht : ∀ n ∈ l, n.2.2.length ≤ 4096) {R : Type} (res : List Tm → Option R) (x : R) (hres : res l = some x) :
    lfp (fun (rec4 : (Int × (List Tm × Nat)) → Option R) (x4 : Int × (List Tm × Nat)) =>
      bif decide (x4.1 < (l.length : Int)) then (
      bif inb x4.1 x4.2.1.length then
      (F60 (((rd tT x4.2.1 x4.1).2).2)).bind fun r5 =>
      bif inb x4.1 x4.2.1.length then
      bif decide (x4.1.toNat = x4.2.2) then
      rec4 ((IntKind.wrap .i64 (x4.1 + 1)), ((x4.2.1.set x4.1.toNat ((rd tT x4.2.1 x4.1).1, (((rd tT x4.2.1 x4.1).2).1, r5))), x4.2.2 + 1))
      else none
      else none
      else none)
      else (
      bif decide (x4.2.1.length ≤ x4.2.2) then
      res x4.2.1
      else none)) (0, (l, 0)) = some x := by
  refine lfp_rule (fun (y : Int × (List Tm × Nat)) => ∃ i : Nat, y.1 = (i : Int) ∧ i ≤ l.length ∧ y.2.1 = l ∧ y.2.2 = i) (fun y => l.length - y.1.toNat) (fun _ => x) ?_ _ ⟨0, rfl, by omega, rfl, rfl⟩
  rintro ⟨i', y, n⟩ ⟨i, hi', hi, hy, hn⟩ rec hrec
  simp only at hi' hy hn
  subst hi'
  subst hy
  rw [hn]
  simp only
  by_cases hlt : i < y.length
  · have k1 : ((i : Int) < (y.length : Int)) := by omega
    have hx := ht _ (List.getElem_mem hlt)
    simp only [k1, decide_true, cond_true, inb_true (Int.natCast_nonneg i) k1, rd_nat (t := tT) hlt, F60_eq (l := y[i].2.2) (by omega), Option.bind_some, Prod.eta, Int.toNat_natCast, List.set_getElem_self]
    rw [RB.wrap_i64 (n := (i : Int) + 1) (by omega) (by omega)]
    exact hrec _ ⟨i + 1, by simp, by omega, rfl, rfl⟩ (by simp only; omega)
  · have k1 : ¬ ((i : Int) < (y.length : Int)) := by omega
    have k2 : y.length ≤ i := by omega
    simp only [k1, k2, decide_false, decide_true, cond_false, cond_true, hres]
open Classical in
noncomputable def putA (a : List Tm) (n : Tm) : List Tm × Int × Int :=
  if ¬ valid a ∨ (a.length : Int) ≤ n.2.1 then ([], 0, 1) else if 4096 < n.2.2.length then ([], 0, 4) else if n ∈ a then (a, (ix a n : Int), 0) else
    if a.length = 1048576 then ([], 0, 7) else (a ++ [n], (a.length : Int), 0)
theorem valid.text {a : List Tm} (h : valid a) : ∀ n ∈ a, n.2.2.length ≤ 4096 := by
  intro n hn
  obtain ⟨i, hi, rfl⟩ := List.getElem_of_mem hn
  exact (h.ok i hi).2.2.2
theorem F51_eq (a : List Tm) (n : Tm) : F51 (a, n) = some (putA a n) := by
  unfold F51 putA
  simp only [Prod.eta, F54_eq, Option.bind_some]
  by_cases hv : valid a
  · by_cases c1 : (a.length : Int) ≤ n.2.1
    · simp [hv, c1]
    · have hlen := hv.len
      simp only [hv, c1, if_true, not_true_eq_false, false_or, if_false, decide_true, Bool.not_true, cond_false, decide_false]
      by_cases c2 : 4096 < n.2.2.length
      · have c2' : (4096 : Int) < (n.2.2.length : Int) := by omega
        simp [c2, c2']
      · have c2' : ¬ (4096 : Int) < (n.2.2.length : Int) := by omega
        simp only [c2, c2', decide_false, cond_false, if_false, F84, Option.bind_some, Prod.eta, has_book]
        by_cases c3 : n ∈ a
        · simp only [c3, decide_true, Bool.not_true, cond_false, if_true, F86_eq (l := a) (by omega), Option.bind_some, both_self, get_book _ _ _ c3, Nat.zero_add]
          exact clone_loop (by omega) hv.text (fun l => some (l, (ix a n : Int), 0)) _ rfl
        · simp only [c3, decide_false, Bool.not_false, cond_true, if_false]
          by_cases c4 : a.length = 1048576
          · have c4' : (a.length : Int) = 1048576 := by omega
            simp [c4, c4']
          · have c4' : ¬ (a.length : Int) = 1048576 := by omega
            have k1 : inb (a.length : Int) (a.length + 1) = true := inb_true (by omega) (by omega)
            have k2 : ((a.take a.length).length + 1) * 40 ≤ LIM := by rw [List.take_length]; unfold LIM; omega
            simp only [c4, c4', decide_false, decide_true, cond_false, if_false, both_self, k1, Bool.and_self, cond_true, Int.toNat_natCast, k2, List.take_length]
            have k3 : (a.length + 1) * 40 ≤ LIM := by unfold LIM; omega
            simp only [k3, decide_true, cond_true, F86_eq (l := a ++ [n]) (by simp; omega), Option.bind_some]
            exact clone_loop (l := a ++ [n]) (by simp; omega) (fun x hx => by
              rcases List.mem_append.1 hx with hx | hx
              · exact hv.text x hx
              · simp only [List.mem_singleton] at hx; subst hx; omega) (fun l => some (l, (a.length : Int), 0)) _ rfl
  · simp [hv]
end Go.Proofs.Ytcpcbeeghjigkaa.R3
namespace Go.Proofs.Ytcpcbeeghjigkaa.R3
open Go Go.Fw Go.Proofs RB
set_option maxRecDepth 20000
/-! ### what tags come to: plain -/
theorem valid.snoc {a : List Tm} {n : Tm} (h : valid a) (hn : n ∉ a) (hu : -1 ≤ n.2.1 ∧ n.2.1 < a.length) (hk : -1 < n.2.1 → n.1 = 0) (ht : n.2.2.length ≤ 4096) (hl : a.length ≠ 1048576) : valid (a ++ [n]) := by
  refine ⟨by have := h.len; simp; omega, fun i hi => ?_⟩
  simp only [List.length_append, List.length_singleton] at hi
  by_cases hlt : i < a.length
  · have e1 : (a ++ [n]).take i = a.take i := by rw [List.take_append_of_le_length (by omega)]
    have e2 : (a ++ [n])[i]'(by simp; omega) = a[i] := List.getElem_append_left hlt
    rw [e1, e2]
    exact h.ok i hlt
  · have : i = a.length := by omega
    subst this
    have e1 : (a ++ [n]).take a.length = a := by simp
    have e2 : (a ++ [n])[a.length]'(by simp) = n := by simp
    rw [e1, e2]
    exact ⟨hn, hu, hk, ht⟩
theorem putA_ok {a b : List Tm} {n : Tm} {x : Int} (h : putA a n = (b, x, 0)) : valid a ∧ n.2.1 < a.length ∧ n ∈ b ∧ x = (ix b n : Int) ∧ a <+: b ∧ b.length ≤ a.length + 1 ∧ ((-1 ≤ n.2.1 ∧ (-1 < n.2.1 → n.1 = 0)) → valid b) := by
  unfold putA at h
  by_cases h1 : ¬ valid a ∨ (a.length : Int) ≤ n.2.1
  · rw [if_pos h1] at h; simp at h
  · rw [if_neg h1] at h
    have hv : valid a := Classical.byContradiction fun q => h1 (.inl q)
    have hu : n.2.1 < a.length := by
      have : ¬ (a.length : Int) ≤ n.2.1 := fun q => h1 (.inr q)
      omega
    by_cases h2 : 4096 < n.2.2.length
    · rw [if_pos h2] at h; simp at h
    · rw [if_neg h2] at h
      by_cases h3 : n ∈ a
      · rw [if_pos h3] at h
        simp only [Prod.mk.injEq, and_true] at h
        obtain ⟨rfl, rfl⟩ := h
        exact ⟨hv, hu, h3, rfl, List.prefix_refl _, by omega, fun _ => hv⟩
      · rw [if_neg h3] at h
        by_cases h4 : a.length = 1048576
        · rw [if_pos h4] at h; simp at h
        · rw [if_neg h4] at h
          simp only [Prod.mk.injEq, and_true] at h
          obtain ⟨rfl, rfl⟩ := h
          exact ⟨hv, hu, by simp, by rw [ix_new h3], List.prefix_append _ _, by simp, fun q => hv.snoc h3 ⟨q.1, hu⟩ q.2 (by omega) h4⟩
theorem putA_same {a : List Tm} {n : Tm} (hv : valid a) (hn : n ∈ a) : putA a n = (a, (ix a n : Int), 0) := by
  have ht := hv.text n hn
  obtain ⟨i, hi, he⟩ := List.getElem_of_mem hn
  have hk := (hv.ok i hi).2.1
  rw [he, List.length_take] at hk
  unfold putA
  rw [if_neg (by rintro (q | q); exact q hv; omega), if_neg (by omega), if_pos hn]
noncomputable def nextA (s : List Tm × Int × Int) (t : List Int) : List Tm × Int × Int :=
  if s.2.2 = 0 then (if s.2.1 < 0 then ([], 0, 1) else putA s.1 (0, (s.2.1, t))) else s
theorem F18_eq (a : List Tm) (k : Int) (t : List Int) : F18 (a, k, t) = some (putA a (k, (-1, t))) := by
  unfold F18; simp only [F51_eq, Option.bind_some]
theorem F20_eq (a : List Tm) (g : Int) (t : List Int) : F20 (a, g, t) = some (if g < 0 then ([], 0, 1) else putA a (0, (g, t))) := by
  unfold F20
  by_cases h : g < 0
  · simp [h]
  · simp only [h, decide_false, cond_false, F51_eq, Option.bind_some, if_false]
theorem F26_eq (a : List Tm) (k : Int) (t : List Int) (l : List (List Int)) (hl : l.length ≤ 9223372036854775807) :
    F26 (a, k, t, l) = some ((l.foldl nextA (putA a (k, (-1, t)))).1, (l.foldl nextA (putA a (k, (-1, t)))).2.1, decide ((l.foldl nextA (putA a (k, (-1, t)))).2.2 = 0)) := by
  unfold F26
  simp only [F18_eq, Option.bind_some]
  generalize putA a (k, (-1, t)) = s0
  refine lfp_rule (fun (x : Int × Int × Int × List Tm) => ∃ i : Nat, x.2.2.1 = (i : Int) ∧ i ≤ l.length ∧ (x.2.2.2, x.1, x.2.1) = (l.take i).foldl nextA s0) (fun x => l.length - x.2.2.1.toNat)
    (fun _ => ((l.foldl nextA s0).1, (l.foldl nextA s0).2.1, decide ((l.foldl nextA s0).2.2 = 0))) ?_ _ ⟨0, rfl, by omega, by simp⟩
  rintro ⟨g, e, i', b⟩ ⟨i, hi', hi, hst⟩ rec hrec
  simp only at hi' hst
  subst hi'
  simp only
  by_cases hlt : i < l.length
  · have k1 : ((i : Int) < (l.length : Int)) := by omega
    have hstep : (l.take (i + 1)).foldl nextA s0 = nextA (b, g, e) l[i] := by
      rw [List.take_succ_eq_append_getElem hlt, List.foldl_append, ← hst]; rfl
    simp only [k1, decide_true, cond_true, inb_true (Int.natCast_nonneg i) k1, rd_nat (t := .slice 5 (.int .u8)) hlt, F20_eq, Option.bind_some]
    rw [RB.wrap_i64 (n := (i : Int) + 1) (by omega) (by omega)]
    by_cases he : e = 0
    · simp only [he, decide_true, cond_true]
      refine hrec _ ⟨i + 1, by simp, by omega, ?_⟩ (by simp only; omega)
      rw [hstep]
      simp only [nextA, he, if_true]
    · simp only [he, decide_false, cond_false]
      refine hrec _ ⟨i + 1, by simp, by omega, ?_⟩ (by simp only; omega)
      rw [hstep]
      simp only [nextA, he, if_false]
  · have k1 : ¬ ((i : Int) < (l.length : Int)) := by omega
    have hie : i = l.length := by omega
    simp only [k1, decide_false, cond_false]
    rw [hie, List.take_length] at hst
    rw [← hst]
/-- From a tag, by texts. -/
def wk (a : List Tm) : Nat → List (List Int) → Option Nat
  | x, [] => some x
  | x, t :: r => if (0, ((x : Int), t)) ∈ a then wk a (ix a (0, ((x : Int), t))) r else none
def look (a : List Tm) (k : Int) (t : List Int) (l : List (List Int)) : Option Nat := if (k, ((-1 : Int), t)) ∈ a then wk a (ix a (k, (-1, t))) l else none
theorem pre_ix {a b : List Tm} {n : Tm} (h : a <+: b) (hn : n ∈ a) : n ∈ b ∧ ix b n = ix a n := by
  obtain ⟨c, rfl⟩ := h
  exact ⟨List.mem_append_left _ hn, ix_append c hn⟩
theorem wk_mono {a b : List Tm} (h : a <+: b) : ∀ (l : List (List Int)) (x y : Nat), wk a x l = some y → wk b x l = some y
  | [], _, _, he => he
  | t :: r, x, y, he => by
    simp only [wk] at he ⊢
    split at he
    · rename_i hm
      obtain ⟨h1, h2⟩ := pre_ix h hm
      rw [if_pos h1, h2]
      exact wk_mono h r _ _ he
    · simp at he
theorem look_mono {a b : List Tm} (h : a <+: b) {k : Int} {t : List Int} {l : List (List Int)} {y : Nat} (he : look a k t l = some y) : look b k t l = some y := by
  unfold look at he ⊢
  split at he
  · rename_i hm
    obtain ⟨h1, h2⟩ := pre_ix h hm
    rw [if_pos h1, h2]
    exact wk_mono h l _ _ he
  · simp at he
theorem next_err : ∀ (l : List (List Int)) (s : List Tm × Int × Int), s.2.2 ≠ 0 → l.foldl nextA s = s
  | [], _, _ => rfl
  | t :: r, s, h => by
    rw [List.foldl_cons, show nextA s t = s by simp [nextA, h]]
    exact next_err r s h
theorem made_spec : ∀ (l : List (List Int)) (a : List Tm) (x : Nat), valid a → x < a.length → ∀ b y, l.foldl nextA (a, (x : Int), 0) = (b, y, 0) →
    valid b ∧ a <+: b ∧ b.length ≤ a.length + l.length ∧ ∃ y' : Nat, y = (y' : Int) ∧ y' < b.length ∧ wk b x l = some y'
  | [], a, x, hv, hx, b, y, h => by
    simp only [List.foldl_nil, Prod.mk.injEq, and_true] at h
    obtain ⟨rfl, rfl⟩ := h
    exact ⟨hv, List.prefix_refl _, by simp, x, rfl, hx, rfl⟩
  | t :: r, a, x, hv, hx, b, y, h => by
    rw [List.foldl_cons] at h
    have hn : nextA (a, (x : Int), 0) t = putA a (0, ((x : Int), t)) := by
      simp only [nextA, if_true]
      rw [if_neg (by omega)]
    rw [hn] at h
    rcases hp : putA a (0, ((x : Int), t)) with ⟨b1, y1, e1⟩
    rw [hp] at h
    by_cases he : e1 = 0
    · subst he
      obtain ⟨_, _, h3, h4, h5, h6, h7⟩ := putA_ok hp
      have hv1 : valid b1 := h7 ⟨by simp only; omega, fun _ => rfl⟩
      subst h4
      obtain ⟨g1, g2, g3, y', g4, g5, g6⟩ := made_spec r b1 _ hv1 (ix_lt h3) b y h
      obtain ⟨q1, q2⟩ := pre_ix g2 h3
      refine ⟨g1, h5.trans g2, by simp; omega, y', g4, g5, ?_⟩
      simp only [wk]
      rw [if_pos q1, q2]
      exact g6
    · rw [next_err r _ he] at h
      simp only [Prod.mk.injEq] at h
      exact absurd h.2.2 he
theorem made_same : ∀ (l : List (List Int)) (a : List Tm) (x y : Nat), valid a → wk a x l = some y → l.foldl nextA (a, (x : Int), 0) = (a, (y : Int), 0)
  | [], a, x, y, hv, h => by simp only [wk, Option.some.injEq] at h; subst h; rfl
  | t :: r, a, x, y, hv, h => by
    simp only [wk] at h
    split at h
    · rename_i hm
      have hn : nextA (a, (x : Int), 0) t = putA a (0, ((x : Int), t)) := by
        simp only [nextA, if_true]
        rw [if_neg (by omega)]
      rw [List.foldl_cons, hn, putA_same hv hm]
      exact made_same r a _ y hv h
    · simp at h
theorem made_root {a b : List Tm} {k : Int} {t : List Int} {l : List (List Int)} {y : Int} (h : l.foldl nextA (putA a (k, (-1, t))) = (b, y, 0)) :
    valid a ∧ valid b ∧ a <+: b ∧ b.length ≤ a.length + 1 + l.length ∧ ∃ y' : Nat, y = (y' : Int) ∧ y' < b.length ∧ look b k t l = some y' := by
  rcases hp : putA a (k, (-1, t)) with ⟨b1, y1, e1⟩
  rw [hp] at h
  by_cases he : e1 = 0
  · subst he
    obtain ⟨h1, _, h3, h4, h5, h6, h7⟩ := putA_ok hp
    have hv1 : valid b1 := h7 ⟨by simp, fun q => by simp at q⟩
    subst h4
    obtain ⟨g1, g2, g3, y', g4, g5, g6⟩ := made_spec l b1 _ hv1 (ix_lt h3) b y h
    obtain ⟨q1, q2⟩ := pre_ix g2 h3
    refine ⟨h1, g1, h5.trans g2, by omega, y', g4, g5, ?_⟩
    unfold look
    rw [if_pos q1, q2]
    exact g6
  · rw [next_err l _ he] at h
    simp only [Prod.mk.injEq] at h
    exact absurd h.2.2 he
theorem made_again {a : List Tm} {k : Int} {t : List Int} {l : List (List Int)} {y : Nat} (hv : valid a) (h : look a k t l = some y) : l.foldl nextA (putA a (k, (-1, t))) = (a, (y : Int), 0) := by
  unfold look at h
  split at h
  · rename_i hm
    rw [putA_same hv hm]
    exact made_same l a _ y hv h
  · simp at h
theorem wk_snoc (a : List Tm) (t : List Int) : ∀ (l : List (List Int)) (x y : Nat), wk a x (l ++ [t]) = some y → ∃ z, wk a x l = some z ∧ (0, ((z : Int), t)) ∈ a ∧ y = ix a (0, ((z : Int), t))
  | [], x, y, h => by
    simp only [List.nil_append, wk] at h
    split at h
    · rename_i hm
      simp only [Option.some.injEq] at h
      exact ⟨x, rfl, hm, h.symm⟩
    · simp at h
  | s :: r, x, y, h => by
    simp only [List.cons_append, wk] at h ⊢
    split at h
    · rename_i hm
      rw [if_pos hm]
      exact wk_snoc a t r _ _ h
    · simp at h
theorem look_snoc {a : List Tm} {k : Int} {t s : List Int} {l : List (List Int)} {y : Nat} (h : look a k t (l ++ [s]) = some y) : ∃ z, look a k t l = some z ∧ a[y]? = some (0, ((z : Int), s)) := by
  unfold look at h ⊢
  split at h
  · rename_i hm
    obtain ⟨z, h1, h2, h3⟩ := wk_snoc a s l _ _ h
    exact ⟨z, by rw [if_pos hm]; exact h1, by rw [h3]; exact ix_get h2⟩
  · simp at h
theorem look_root {a : List Tm} {k : Int} {t : List Int} {y : Nat} (h : look a k t [] = some y) : a[y]? = some (k, (-1, t)) := by
  unfold look at h
  split at h
  · rename_i hm
    simp only [wk, Option.some.injEq] at h
    rw [← h]; exact ix_get hm
  · simp at h
/-- THE STAGE'S: a tag tells its key, and all its texts. -/
theorem look_inj {a : List Tm} {k k' : Int} {t t' : List Int} : ∀ (n : Nat) (l l' : List (List Int)) (y : Nat), l.length ≤ n → look a k t l = some y → look a k' t' l' = some y → k = k' ∧ t = t' ∧ l = l' := by
  intro n
  induction n with
  | zero =>
    intro l l' y hn h h'
    have hl : l = [] := List.length_eq_zero_iff.1 (by omega)
    subst hl
    have h1 := look_root h
    rcases List.eq_nil_or_concat l' with rfl | ⟨m, s, rfl⟩
    · have h2 := look_root h'
      rw [h1] at h2
      simp only [Option.some.injEq, Prod.mk.injEq, true_and] at h2
      exact ⟨h2.1, h2.2, rfl⟩
    · obtain ⟨z, _, h2⟩ := look_snoc (by simpa using h')
      rw [h1] at h2
      simp only [Option.some.injEq, Prod.mk.injEq] at h2
      omega
  | succ n ih =>
    intro l l' y hn h h'
    rcases List.eq_nil_or_concat l with rfl | ⟨m, s, rfl⟩
    · have h1 := look_root h
      rcases List.eq_nil_or_concat l' with rfl | ⟨m', s', rfl⟩
      · have h2 := look_root h'
        rw [h1] at h2
        simp only [Option.some.injEq, Prod.mk.injEq, true_and] at h2
        exact ⟨h2.1, h2.2, rfl⟩
      · obtain ⟨z, _, h2⟩ := look_snoc (by simpa using h')
        rw [h1] at h2
        simp only [Option.some.injEq, Prod.mk.injEq] at h2
        omega
    · obtain ⟨z, g1, g2⟩ := look_snoc (by simpa using h)
      rcases List.eq_nil_or_concat l' with rfl | ⟨m', s', rfl⟩
      · have h2 := look_root h'
        rw [g2] at h2
        simp only [Option.some.injEq, Prod.mk.injEq] at h2
        omega
      · obtain ⟨z', g3, g4⟩ := look_snoc (by simpa using h')
        rw [g2] at g4
        simp only [Option.some.injEq, Prod.mk.injEq, true_and] at g4
        have hz : z = z' := by omega
        subst hz
        have hm : m.length ≤ n := by simp at hn; omega
        obtain ⟨e1, e2, e3⟩ := ih m m' z hm g1 g3
        exact ⟨e1, e2, by rw [e3, g4.2]⟩
end Go.Proofs.Ytcpcbeeghjigkaa.R3
namespace Go.Proofs.Ytcpcbeeghjigkaa.R3
open Go Go.Fw Go.Proofs RB
set_option maxRecDepth 20000
/-- Is none so? -/
theorem all_loop {t : Ty} {l : List t.den} (hl : l.length ≤ 9223372036854775807) (p : t.den → Bool) (c : Bool) :
    lfp (fun (rec1 : (Bool × Int) → Option Bool) (x1 : Bool × Int) =>
      bif decide (x1.2 < (l.length : Int)) then (
      bif inb x1.2 l.length then
      bif p (rd t l x1.2) then (some false) else (rec1 (x1.1, (IntKind.wrap .i64 (x1.2 + 1))))
      else none)
      else (some c)) (false, 0) = some ((l.all fun x => !p x) && c) := by
  refine lfp_rule (fun x => ∃ i : Nat, x.2 = (i : Int) ∧ i ≤ l.length ∧ ∀ j (h : j < l.length), j < i → p l[j] = false) (fun x => l.length - x.2.toNat) (fun _ => (l.all fun x => !p x) && c) ?_ (false, 0) ⟨0, rfl, by omega, fun j _ hj => by omega⟩
  rintro ⟨y, i'⟩ ⟨i, hi', hi, hp⟩ rec hrec
  simp only at hi'
  subst hi'
  simp only
  by_cases hlt : i < l.length
  · have k1 : ((i : Int) < (l.length : Int)) := by omega
    simp only [k1, decide_true, cond_true, inb_true (Int.natCast_nonneg i) k1, rd_nat hlt]
    cases hq : p l[i] with
    | true =>
      have : (l.all fun x => !p x) = false := by
        rw [List.all_eq_false]
        exact ⟨l[i], List.getElem_mem hlt, by simp [hq]⟩
      simp [this]
    | false =>
      simp only [cond_false]
      rw [RB.wrap_i64 (n := (i : Int) + 1) (by omega) (by omega)]
      refine hrec _ ⟨i + 1, by simp, by omega, fun j hj hji => ?_⟩ (by simp only; omega)
      by_cases hij : j = i
      · subst hij; exact hq
      · exact hp j hj (by omega)
  · have k1 : ¬ ((i : Int) < (l.length : Int)) := by omega
    simp only [k1, decide_false, cond_false]
    have : (l.all fun x => !p x) = true := by
      rw [List.all_eq_true]
      intro x hx
      obtain ⟨j, hj, rfl⟩ := List.getElem_of_mem hx
      simp [hp j hj (by omega)]
    simp [this]
def fewA (a : List Tm) : Bool := (a.all fun x => !decide (200 < (x.2.2.length : Int))) && decide ((a.length : Int) ≤ 80)
theorem F15_eq {a : List Tm} (h : a.length ≤ 9223372036854775807) : F15 a = some (fewA a) :=
  all_loop (t := tT) h (fun x => decide (200 < (x.2.2.length : Int))) (decide ((a.length : Int) ≤ 80))
def bigT (x : List Int) : Bool := bif (bif decide (200 < (x.length : Int)) then decide ((x.length : Int) ≤ 4096) else false) then true else decide (4100 < (x.length : Int))
def fewT (l : List (List Int)) : Bool := (l.all fun x => !bigT x) && decide ((l.length : Int) ≤ 12)
theorem F16_eq {l : List (List Int)} (h : l.length ≤ 9223372036854775807) : F16 l = some (fewT l) :=
  all_loop (t := .slice 5 (.int .u8)) h bigT (decide ((l.length : Int) ≤ 12))
theorem F27_eq {a b : List (List Int)} (hl : a.length ≤ 4611686018427387904) : F27 (a, b) = some (decide (a = b)) := by
  unfold F27
  by_cases hn : a.length = b.length
  · have : (a.length : Int) = (b.length : Int) := by omega
    simp only [this, decide_true, Bool.not_true, cond_false]
    rw [← this]
    exact same_loop (t := .slice 5 (.int .u8)) hl hn (G := fun x y K => (F50 (x, y)).bind K) (fun i h1 h2 K => rfl)
  · have : ¬ (a.length : Int) = (b.length : Int) := by omega
    have hne : a ≠ b := fun h => hn (by rw [h])
    simp [this, hne]
theorem F57_eq (a b : Tm) : F57 (a, b) = some (decide (a = b)) := by
  obtain ⟨a1, a2, a3⟩ := a
  obtain ⟨b1, b2, b3⟩ := b
  unfold F57 F87
  by_cases c1 : a1 = b1
  · by_cases c2 : a2 = b2
    · by_cases c3 : a3 = b3 <;> simp [c1, c2, c3]
    · simp [c1, c2]
  · simp [c1]
theorem F25_eq {a b : List Tm} (hl : a.length ≤ 4611686018427387904) : F25 (a, b) = some (decide (a = b)) := by
  have : F56057 (a, b, ()) = some (decide (a = b)) := by
    unfold F56057
    by_cases hn : a.length = b.length
    · have : (a.length : Int) = (b.length : Int) := by omega
      simp only [this, decide_true, Bool.not_true, cond_false]
      rw [← this]
      refine same_loop (t := tT) hl hn (G := fun x y K => (F57 (x, y)).bind K) (fun i h1 h2 K => ?_)
      rw [F57_eq]; rfl
    · have : ¬ (a.length : Int) = (b.length : Int) := by omega
      have hne : a ≠ b := fun h => hn (by rw [h])
      simp [this, hne]
  unfold F25
  simp only [this, Option.bind_some]
open Classical in
theorem F23_eq (a : List Tm) : F23 a = some (if valid a then 0 else 1) := by
  unfold F23
  simp only [F54_eq, Option.bind_some]
  by_cases h : valid a <;> simp [h]
theorem valid_nil : valid [] := ⟨by simp, fun i h => by simp at h⟩
theorem put_nil (k : Int) (t : List Int) (h : t.length ≤ 4096) : putA [] (k, (-1, t)) = ([(k, (-1, t))], 0, 0) := by
  unfold putA
  rw [if_neg (by rintro (q | q); exact q valid_nil; simp at q), if_neg (by simp only; omega), if_neg (by simp), if_neg (by simp)]
  rfl
theorem F14_true : F14 () = some true := by
  unfold F14
  simp only [F18_eq, Option.bind_some]
  have h1 := put_nil 7 [] (by simp)
  obtain ⟨_, _, h3, _, _, _, h7⟩ := putA_ok h1
  have hv := h7 ⟨by simp, fun q => by simp at q⟩
  rw [h1]
  simp only
  rw [putA_same hv h3]
  simp [ix]
end Go.Proofs.Ytcpcbeeghjigkaa.R3
namespace Go.Proofs.Ytcpcbeeghjigkaa.R3
open Go Go.Fw Go.Proofs RB
set_option maxRecDepth 20000
/-! ### how a tag was made; where it is found -/
theorem wk_append (a : List Tm) (t : List Int) : ∀ (l : List (List Int)) (x z : Nat), wk a x l = some z → wk a x (l ++ [t]) = if (0, ((z : Int), t)) ∈ a then some (ix a (0, ((z : Int), t))) else none
  | [], x, z, h => by simp only [wk, Option.some.injEq] at h; subst h; simp only [List.nil_append, wk]
  | s :: r, x, z, h => by
    simp only [List.cons_append, wk] at h ⊢
    split at h
    · rename_i hm
      rw [if_pos hm]
      exact wk_append a t r _ _ h
    · simp at h
theorem wk_none (a : List Tm) (t : List Int) : ∀ (l : List (List Int)) (x : Nat), wk a x l = none → wk a x (l ++ [t]) = none
  | [], x, h => by simp [wk] at h
  | s :: r, x, h => by
    simp only [List.cons_append, wk] at h ⊢
    split at h
    · rename_i hm; rw [if_pos hm]; exact wk_none a t r _ h
    · rename_i hm; rw [if_neg hm]
theorem look_append {a : List Tm} {k : Int} {u t : List Int} {l : List (List Int)} {z : Nat} (h : look a k u l = some z) : look a k u (l ++ [t]) = if (0, ((z : Int), t)) ∈ a then some (ix a (0, ((z : Int), t))) else none := by
  unfold look at h ⊢
  split at h
  · rename_i hm; rw [if_pos hm]; exact wk_append a t l _ _ h
  · simp at h
theorem look_none {a : List Tm} {k : Int} {u t : List Int} {l : List (List Int)} (h : look a k u l = none) : look a k u (l ++ [t]) = none := by
  unfold look at h ⊢
  split at h
  · rename_i hm; rw [if_pos hm]; exact wk_none a t l _ h
  · rename_i hm; rw [if_neg hm]
theorem idx_loop {t : Ty} {l : List t.den} (hl : l.length ≤ 9223372036854775807) {p : t.den → Bool} {G : t.den → Option Bool} (hG : ∀ x ∈ l, G x = some (p x)) :
    ∃ r, lfp (fun (rec1 : (Int × Int) → Option Int) (x1 : Int × Int) =>
      bif decide (x1.2 < (l.length : Int)) then (
      bif inb x1.2 l.length then
      (G (rd t l x1.2)).bind fun r2 =>
      bif r2 then (some x1.2) else (rec1 (x1.1, (IntKind.wrap .i64 (x1.2 + 1))))
      else none)
      else (some (-1))) (0, 0) = some r ∧ decide (0 ≤ r) = l.any p := by
  let ans : Nat → Int := fun i => match (l.drop i).findIdx? p with | some j => ((i + j : Nat) : Int) | none => -1
  have hstep : ∀ i, (h : i < l.length) → p l[i] = false → ans i = ans (i + 1) := by
    intro i h hp
    simp only [ans]
    rw [List.drop_eq_getElem_cons h, List.findIdx?_cons, hp]
    simp only [Bool.false_eq_true, if_false]
    cases (l.drop (i + 1)).findIdx? p with
    | none => rfl
    | some j => simp only [Option.map_some]; congr 1; omega
  refine ⟨ans 0, lfp_rule (fun x => ∃ i : Nat, x.2 = (i : Int) ∧ i ≤ l.length) (fun x => l.length - x.2.toNat) (fun x => ans x.2.toNat) ?_ (0, 0) ⟨0, rfl, by omega⟩, ?_⟩
  · rintro ⟨y, i'⟩ ⟨i, hi', hi⟩ rec hrec
    simp only at hi'
    subst hi'
    simp only [Int.toNat_natCast]
    by_cases hlt : i < l.length
    · have k1 : ((i : Int) < (l.length : Int)) := by omega
      simp only [k1, decide_true, cond_true, inb_true (Int.natCast_nonneg i) k1, rd_nat hlt, hG _ (List.getElem_mem hlt), Option.bind_some]
      cases hp : p l[i] with
      | true =>
        simp only [cond_true, ans]
        rw [List.drop_eq_getElem_cons hlt, List.findIdx?_cons, hp]
        simp
      | false =>
        simp only [cond_false]
        rw [RB.wrap_i64 (n := (i : Int) + 1) (by omega) (by omega), hstep i hlt hp]
        have := hrec (y, (i : Int) + 1) ⟨i + 1, by simp, by omega⟩ (by simp only; omega)
        rw [this]
        simp only
        congr 2
    · have k1 : ¬ ((i : Int) < (l.length : Int)) := by omega
      simp only [k1, decide_false, cond_false, ans]
      rw [List.drop_eq_nil_of_le (by omega)]
      simp
  · simp only [ans, List.drop_zero]
    cases hf : l.findIdx? p with
    | none =>
      have : l.any p = false := by
        rw [List.any_eq_false]
        intro x hx
        have := List.findIdx?_eq_none_iff.1 hf x hx
        simp [this]
      rw [this]; simp
    | some j =>
      have : l.any p = true := by
        obtain ⟨h1, h2, _⟩ := List.findIdx?_eq_some_iff_getElem.1 hf
        exact List.any_eq_true.2 ⟨_, List.getElem_mem h1, h2⟩
      rw [this]; simp
def longT (t : List Int) : Bool := decide (4096 < (t.length : Int))
theorem F59_eq {l : List (List Int)} (hl : l.length ≤ 9223372036854775807) : F59058 (l, ()) = some (l.any longT) := by
  obtain ⟨r, h1, h2⟩ := idx_loop (t := .slice 5 (.int .u8)) (l := l) hl (p := longT) (G := F58) (fun x hx => rfl)
  have : F88058 (l, ()) = some r := h1
  unfold F59058
  simp only [this, Option.bind_some, h2]
open Classical in
noncomputable def findA (a : List Tm) (k : Int) (t : List Int) (l : List (List Int)) : Int × Int :=
  if ¬ valid a then (0, 1) else if longT t = true ∨ l.any longT = true then (0, 4) else match look a k t l with | some y => ((y : Int), 0) | none => (0, 5)
theorem F28_eq {a : List Tm} {k : Int} {t : List Int} {l : List (List Int)} (hl : l.length ≤ 9223372036854775807) : F28 (a, k, t, l) = some (findA a k t l) := by
  unfold F28 findA
  simp only [F54_eq, Option.bind_some, F59_eq hl]
  by_cases hv : valid a
  · simp only [hv, if_true, decide_true, Bool.not_true, cond_false, not_true_eq_false, if_false, F58, Option.bind_some]
    by_cases c1 : longT t = true
    · have c1' : (4096 : Int) < (t.length : Int) := by unfold longT at c1; simpa using c1
      simp [c1, c1']
    · have c1' : ¬ (4096 : Int) < (t.length : Int) := by unfold longT at c1; simpa using c1
      simp only [c1, c1', decide_false, beq_self_eq_true, cond_true, false_or]
      cases c2 : l.any longT with
      | true => simp
      | false =>
        simp only [cond_false, Bool.false_eq_true, or_self, if_false]
        refine lfp_rule (fun (x : Int × Bool × Int) => ∃ i : Nat, x.2.2 = (i : Int) ∧ i ≤ l.length ∧ (match look a k t (l.take i) with | some y => x.1 = (y : Int) ∧ x.2.1 = true | none => x.2.1 = false)) (fun x => l.length - x.2.2.toNat)
          (fun _ => (match look a k t l with | some y => ((y : Int), (0 : Int)) | none => ((0 : Int), (5 : Int)) : Int × Int)) ?_ ((mget kT (.int .i64) 0 (book 0 a) (k, (-1, t)) : Int), mhas kT (.int .i64) (book 0 a) (k, (-1, t)), (0 : Int)) ⟨0, rfl, by omega, ?_⟩
        · rintro ⟨at_, th, i'⟩ ⟨i, hi', hi, hst⟩ rec hrec
          simp only at hi' hst
          subst hi'
          simp only
          have stay : look a k t (l.take i) = none → look a k t l = none := by
            intro h
            have : ∀ n, i ≤ n → n ≤ l.length → look a k t (l.take n) = none := by
              intro n hn
              induction n with
              | zero => intro _; have : i = 0 := by omega
                        subst this; exact h
              | succ n ih =>
                intro hn2
                by_cases he : i = n + 1
                · subst he; exact h
                · rw [List.take_succ_eq_append_getElem (by omega)]
                  exact look_none (ih (by omega) (by omega))
            have := this l.length hi (Nat.le_refl _)
            rwa [List.take_length] at this
          by_cases hlt : i < l.length
          · have k1 : ((i : Int) < (l.length : Int)) := by omega
            simp only [k1, decide_true, cond_true, inb_true (Int.natCast_nonneg i) k1, rd_nat (t := .slice 5 (.int .u8)) hlt]
            cases hlk : look a k t (l.take i) with
            | none =>
              rw [hlk] at hst
              simp only at hst
              rw [stay hlk, hst]
              rfl
            | some y =>
              rw [hlk] at hst
              simp only at hst
              obtain ⟨rfl, rfl⟩ := hst
              simp only [Bool.not_true, cond_false, has_book]
              rw [RB.wrap_i64 (n := (i : Int) + 1) (by omega) (by omega)]
              refine hrec _ ⟨i + 1, by simp, by omega, ?_⟩ (by simp only; omega)
              rw [List.take_succ_eq_append_getElem hlt, look_append hlk]
              by_cases hm : (0, ((y : Int), l[i])) ∈ a
              · simp only [hm, if_true, decide_true, and_true]
                have := get_book _ _ 0 hm
                rw [this]; simp
              · simp [hm]
          · have k1 : ¬ ((i : Int) < (l.length : Int)) := by omega
            have hie : i = l.length := by omega
            simp only [k1, decide_false, cond_false]
            rw [hie, List.take_length] at hst
            cases hlk : look a k t l with
            | none => rw [hlk] at hst; simp only at hst; rw [hst]; rfl
            | some y => rw [hlk] at hst; simp only at hst; rw [hst.1, hst.2]; rfl
        · simp only [List.take_zero, look, wk, has_book]
          by_cases hm : (k, ((-1 : Int), t)) ∈ a
          · simp only [hm, if_true, decide_true, and_true]
            rw [get_book _ _ 0 hm]; simp
          · simp [hm]
  · simp [hv]
/-- Turned round. -/
theorem rev_loop {l : List (List Int)} (hl : l.length ≤ 9223372036854775807) {R : Type} (res : List (List Int) → Option R) (x : R) (hres : res l.reverse = some x) :
    lfp (fun (rec4 : (Int × Int × List (List Int)) → Option R) (x4 : Int × Int × List (List Int)) =>
      bif decide (x4.1 < x4.2.1) then (
      bif inb x4.2.1 x4.2.2.length then
      bif inb x4.1 x4.2.2.length then
      bif inb x4.1 x4.2.2.length then
      bif inb x4.2.1 (x4.2.2.set x4.1.toNat (rd (.slice 5 (.int .u8)) x4.2.2 x4.2.1)).length then
      rec4 ((IntKind.wrap .i64 (x4.1 + 1)), (IntKind.wrap .i64 (x4.2.1 - 1)), ((x4.2.2.set x4.1.toNat (rd (.slice 5 (.int .u8)) x4.2.2 x4.2.1)).set x4.2.1.toNat (rd (.slice 5 (.int .u8)) x4.2.2 x4.1)))
      else none
      else none
      else none
      else none)
      else (res x4.2.2)) (0, (IntKind.wrap .i64 ((l.length : Int) - 1)), l) = some x := by
  rw [RB.wrap_i64 (n := (l.length : Int) - 1) (by omega) (by omega)]
  refine lfp_rule (fun (y : Int × Int × List (List Int)) => ∃ i : Nat, y.1 = (i : Int) ∧ y.2.1 = (l.length : Int) - 1 - (i : Int) ∧ y.2.2.length = l.length ∧ (i : Int) ≤ (l.length : Int) - 1 - (i : Int) + 1 ∧
      ∀ k : Nat, k < l.length → y.2.2[k]? = if k < i ∨ l.length - 1 - i < k then l[l.length - 1 - k]? else l[k]?) (fun y => l.length - y.1.toNat) (fun _ => x) ?_ _ ⟨0, rfl, by simp, rfl, by omega, fun k hk => by
        rw [if_neg (by omega)]⟩
  rintro ⟨i', j', y⟩ ⟨i, hi', hj', hy, hij, hk⟩ rec hrec
  simp only at hi' hj' hy hk
  subst hi'
  simp only
  by_cases hlt : (i : Int) < j'
  · have hjn : j' = ((l.length - 1 - i : Nat) : Int) := by omega
    generalize hjj : l.length - 1 - i = j at hjn hk
    subst hjn
    have ki : i < y.length := by omega
    have kj : j < y.length := by omega
    simp only [hlt, decide_true, cond_true, inb_true (Int.natCast_nonneg i) (show (i : Int) < (y.length : Int) by omega), inb_true (Int.natCast_nonneg j) (show (j : Int) < (y.length : Int) by omega), Int.toNat_natCast, List.length_set,
      rd_nat (t := .slice 5 (.int .u8)) ki, rd_nat (t := .slice 5 (.int .u8)) kj]
    rw [RB.wrap_i64 (n := (i : Int) + 1) (by omega) (by omega), RB.wrap_i64 (n := (j : Int) - 1) (by omega) (by omega)]
    have yi : y[i]? = l[i]? := by rw [hk i (by omega), if_neg (by omega)]
    have yj : y[j]? = l[j]? := by rw [hk j (by omega), if_neg (by omega)]
    refine hrec _ ⟨i + 1, by simp, by first | omega | (simp only; omega), by simp [hy], by first | omega | (simp only; omega), fun k hkl => ?_⟩ (by simp only; omega)
    simp only
    rw [List.getElem?_set, List.getElem?_set, List.length_set]
    by_cases q1 : j = k
    · subst q1
      rw [if_pos rfl, if_pos kj, if_pos (by omega), ← List.getElem?_eq_getElem ki, yi]
      congr 1; omega
    · rw [if_neg q1]
      by_cases q2 : i = k
      · subst q2
        rw [if_pos rfl, if_pos ki, if_pos (by omega), ← List.getElem?_eq_getElem kj, yj]
        congr 1; omega
      · rw [if_neg q2, hk k hkl]
        by_cases q3 : k < i ∨ j < k
        · rw [if_pos q3, if_pos (by omega)]
        · rw [if_neg q3, if_neg (by omega)]
  · simp only [hlt, decide_false, cond_false]
    have : y = l.reverse := by
      apply List.ext_getElem?
      intro k
      by_cases hkl : k < l.length
      · rw [hk k hkl, List.getElem?_reverse hkl]
        by_cases q : k < i ∨ l.length - 1 - i < k
        · rw [if_pos q]
        · rw [if_neg q]
          have : k = l.length - 1 - k := by omega
          rw [← this]
      · rw [List.getElem?_eq_none (by omega), List.getElem?_eq_none (by simp; omega)]
    rw [this, hres]
end Go.Proofs.Ytcpcbeeghjigkaa.R3
namespace Go.Proofs.Ytcpcbeeghjigkaa.R3
open Go Go.Fw Go.Proofs RB
set_option maxRecDepth 20000
/-- Up from a tag: the key at the root, the texts on the way. -/
def tr (a : List Tm) : Nat → Int → Int × List (List Int)
  | 0, _ => (0, [])
  | f + 1, x => if x < 0 then (0, []) else
    match a[x.toNat]? with
    | some n => (if n.2.1 < 0 then n.1 else (tr a f n.2.1).1, n.2.2 :: (tr a f n.2.1).2)
    | none => (0, [])
theorem up_lt {a : List Tm} (h : valid a) {x : Nat} (hx : x < a.length) : -1 ≤ a[x].2.1 ∧ a[x].2.1 < x := by
  have := (h.ok x hx).2.1
  rw [List.length_take] at this
  omega
theorem tr_fuel {a : List Tm} (h : valid a) : ∀ (f : Nat) (x : Int), -1 ≤ x → x < a.length → (x + 1).toNat ≤ f → tr a f x = tr a (x + 1).toNat x
  | 0, x, h1, h2, hf => by rw [show (x + 1).toNat = 0 by omega]
  | f + 1, x, h1, h2, hf => by
    by_cases hx : x < 0
    · have : (x + 1).toNat = 0 := by omega
      rw [this]
      simp [tr, hx]
    · obtain ⟨n, rfl⟩ : ∃ n : Nat, x = n := ⟨x.toNat, by omega⟩
      have e : ((n : Int) + 1).toNat = n + 1 := by omega
      rw [e]
      have hn : n < a.length := by omega
      have hu := up_lt h hn
      simp only [tr, hx, if_false, Int.toNat_natCast, List.getElem?_eq_getElem hn]
      have q1 := tr_fuel h f a[n].2.1 hu.1 (by omega) (by omega)
      have q2 : tr a n a[n].2.1 = tr a (a[n].2.1 + 1).toNat a[n].2.1 := by
        by_cases hz : n ≤ f
        · exact tr_fuel h n a[n].2.1 hu.1 (by omega) (by omega)
        · omega
      rw [q1, q2]
termination_by f => f
theorem ix_at {a : List Tm} (h : valid a) {x : Nat} (hx : x < a.length) : ix a a[x] = x := by
  have hm : a[x] ∈ a := List.getElem_mem hx
  have h1 := ix_lt hm
  have h2 := ix_get hm
  rw [List.getElem?_eq_getElem h1] at h2
  simp only [Option.some.injEq] at h2
  rcases Nat.lt_trichotomy (ix a a[x]) x with hlt | he | hgt
  · exfalso
    refine (h.ok x hx).1 ?_
    rw [List.mem_take_iff_getElem]
    exact ⟨ix a a[x], by omega, h2⟩
  · exact he
  · exfalso
    refine (h.ok _ h1).1 ?_
    rw [h2, List.mem_take_iff_getElem]
    exact ⟨x, by omega, rfl⟩
def trN (a : List Tm) (x : Int) : Int × List (List Int) := tr a (x + 1).toNat x
theorem trN_neg {a : List Tm} {x : Int} (h : x < 0) : trN a x = (0, []) := by
  unfold trN
  rw [show (x + 1).toNat = 0 by omega]
  rfl
theorem trN_step {a : List Tm} (h : valid a) {x : Nat} (hx : x < a.length) : trN a x = (if a[x].2.1 < 0 then a[x].1 else (trN a a[x].2.1).1, a[x].2.2 :: (trN a a[x].2.1).2) := by
  have hu := up_lt h hx
  unfold trN
  rw [show ((x : Int) + 1).toNat = x + 1 by omega, tr, if_neg (by omega)]
  simp only [Int.toNat_natCast, List.getElem?_eq_getElem hx]
  rw [tr_fuel h x a[x].2.1 hu.1 (by omega) (by omega)]
theorem trN_look {a : List Tm} (h : valid a) : ∀ (n x : Nat) (hx : x < a.length), x ≤ n → ∃ t ts, (trN a x).2.reverse = t :: ts ∧ look a (trN a x).1 t ts = some x := by
  intro n
  induction n with
  | zero =>
    intro x hx hn
    have hu := up_lt h hx
    have hneg : a[x].2.1 < 0 := by omega
    rw [trN_step h hx, if_pos hneg, trN_neg hneg]
    refine ⟨a[x].2.2, [], by simp, ?_⟩
    have hm : (a[x].1, ((-1 : Int), a[x].2.2)) = a[x] := Prod.ext rfl (Prod.ext (by simp only; omega) rfl)
    unfold look
    rw [hm, if_pos (List.getElem_mem hx), ix_at h hx]
    rfl
  | succ n ih =>
    intro x hx hn
    have hu := up_lt h hx
    rw [trN_step h hx]
    by_cases hneg : a[x].2.1 < 0
    · rw [if_pos hneg, trN_neg hneg]
      refine ⟨a[x].2.2, [], by simp, ?_⟩
      have hm : (a[x].1, ((-1 : Int), a[x].2.2)) = a[x] := Prod.ext rfl (Prod.ext (by simp only; omega) rfl)
      unfold look
      rw [hm, if_pos (List.getElem_mem hx), ix_at h hx]
      rfl
    · obtain ⟨z, hz⟩ : ∃ z : Nat, a[x].2.1 = z := ⟨a[x].2.1.toNat, by omega⟩
      rw [if_neg hneg, hz]
      have hzl : z < a.length := by omega
      obtain ⟨t, ts, h1, h2⟩ := ih z hzl (by omega)
      refine ⟨t, ts ++ [a[x].2.2], by simp [h1], ?_⟩
      rw [look_append h2]
      have hk := (h.ok x hx).2.2.1 (by omega)
      have hm : ((0 : Int), ((z : Int), a[x].2.2)) = a[x] := Prod.ext hk.symm (Prod.ext hz.symm rfl)
      rw [hm, if_pos (List.getElem_mem hx), ix_at h hx]
open Classical in
noncomputable def pathA (a : List Tm) (x : Int) : Int × List (List Int) × Int :=
  if ¬ valid a ∨ x < 0 ∨ (a.length : Int) ≤ x then (0, [], 1) else ((trN a x).1, (trN a x).2.reverse, 0)
theorem F30_eq (a : List Tm) (x : Int) : F30 (a, x) = some (pathA a x) := by
  unfold F30 pathA
  simp only [F54_eq, Option.bind_some, both_self]
  by_cases hv : valid a
  · have hlen := hv.len
    by_cases c1 : x < 0
    · simp [hv, c1]
    by_cases c2 : (a.length : Int) ≤ x
    · simp [hv, c1, c2]
    simp only [hv, c1, c2, if_true, decide_true, decide_false, Bool.not_true, cond_false, not_true_eq_false, or_self, if_false]
    refine lfp_rule (fun (y : Int × Int × List (List Int)) => -1 ≤ y.1 ∧ y.1 < a.length ∧ (y.2.2.length : Int) + (y.1 + 1) ≤ a.length) (fun y => (y.1 + 1).toNat)
      (fun y => (if y.1 < 0 then y.2.1 else (trN a y.1).1, (y.2.2 ++ (trN a y.1).2).reverse, 0)) ?_ (x, 0, []) ⟨by simp only; omega, by simp only; omega, by simp; omega⟩ |>.trans ?_
    · rintro ⟨y, k, l⟩ ⟨h1, h2, h3⟩ rec hrec
      simp only at h1 h2 h3
      simp only
      by_cases hy : y = -1
      · have hneg : y < 0 := by omega
        simp only [hy, decide_true, Bool.not_true, cond_false]
        rw [if_pos (by omega), trN_neg (a := a) (x := -1) (by omega), List.append_nil]
        exact rev_loop (l := l) (by omega) (fun m => some (k, m, (0 : Int))) _ rfl
      · obtain ⟨n, rfl⟩ : ∃ n : Nat, y = n := ⟨y.toNat, by omega⟩
        have hn : n < a.length := by omega
        have hu := up_lt hv hn
        have ht := hv.text _ (List.getElem_mem hn)
        have k3 : (l.length + 1) * 24 ≤ LIM := by unfold LIM; omega
        simp only [hy, decide_false, Bool.not_false, cond_true, inb_true (Int.natCast_nonneg n) h2, rd_nat (t := tT) hn, F60_eq (l := a[n].2.2) (by omega), Option.bind_some, k3, decide_true]
        rw [hrec _ ⟨hu.1, by simp only; omega, by simp; omega⟩ (by simp only; omega)]
        simp only [show ¬ ((n : Int) < 0) by omega, if_false]
        rw [trN_step hv hn]
        by_cases hneg : a[n].2.1 < 0
        · simp only [hneg, if_true, trN_neg hneg]
          simp
        · simp only [hneg, if_false]
          simp
    · simp only [c1, if_false, List.nil_append]
  · simp [hv]
end Go.Proofs.Ytcpcbeeghjigkaa.R3
namespace Go.Proofs.Ytcpcbeeghjigkaa.R3
open Go Go.Fw Go.Proofs RB
set_option maxRecDepth 20000
theorem putA_err {a b : List Tm} {n : Tm} {x e : Int} (h : putA a n = (b, x, e)) (he : e ≠ 0) : b = [] ∧ x = 0 := by
  unfold putA at h
  split at h
  · simp only [Prod.mk.injEq] at h; exact ⟨h.1.symm, h.2.1.symm⟩
  · split at h
    · simp only [Prod.mk.injEq] at h; exact ⟨h.1.symm, h.2.1.symm⟩
    · split at h
      · simp only [Prod.mk.injEq] at h; exact absurd h.2.2.symm he
      · split at h
        · simp only [Prod.mk.injEq] at h; exact ⟨h.1.symm, h.2.1.symm⟩
        · simp only [Prod.mk.injEq] at h; exact absurd h.2.2.symm he
theorem look_mem {a : List Tm} (h : valid a) {k : Int} {t : List Int} {l : List (List Int)} {y : Nat} : ∀ (n : Nat) (l : List (List Int)) (y : Nat), l.length ≤ n → look a k t l = some y → longT t = false ∧ l.any longT = false ∧ y < a.length := by
  have short : ∀ {y : Nat} {m : Tm}, a[y]? = some m → longT m.2.2 = false ∧ y < a.length := by
    intro y m hm
    obtain ⟨hy, rfl⟩ := List.getElem?_eq_some_iff.1 hm
    have := h.text _ (List.getElem_mem hy)
    exact ⟨by unfold longT; simp; omega, hy⟩
  intro n
  induction n with
  | zero =>
    intro l y hn hl
    have : l = [] := List.length_eq_zero_iff.1 (by omega)
    subst this
    have := short (look_root hl)
    exact ⟨this.1, rfl, this.2⟩
  | succ n ih =>
    intro l y hn hl
    rcases List.eq_nil_or_concat l with rfl | ⟨m, s, rfl⟩
    · have := short (look_root hl)
      exact ⟨this.1, rfl, this.2⟩
    · obtain ⟨z, h1, h2⟩ := look_snoc (by simpa using hl)
      have hs := short h2
      have hm : m.length ≤ n := by simp at hn; omega
      obtain ⟨g1, g2, _⟩ := ih m z hm h1
      exact ⟨g1, by simp [g2, hs.1], hs.2⟩
theorem findA_of {a : List Tm} (h : valid a) {k : Int} {t : List Int} {l : List (List Int)} {y : Nat} (hl : look a k t l = some y) : findA a k t l = ((y : Int), 0) := by
  obtain ⟨h1, h2, _⟩ := look_mem (l := l) (y := y) h l.length l y (Nat.le_refl _) hl
  unfold findA
  rw [if_neg (by simpa using h), if_neg (by simp [h1, h2]), hl]
theorem F7_true {a : List Tm} {g : Int} {t : List Int} (ha : a.length ≤ 9223372036854775807) : F7 (a, g, t) = some true := by
  unfold F7
  simp only [both_self, F14_true, F15_eq ha, F16_eq (l := [t]) (by simp), Option.bind_some, Bool.not_true, cond_false]
  cases f1 : fewA a with
  | false => rfl
  | true =>
    cases f2 : fewT [t] with
    | false => rfl
    | true =>
      have la : a.length ≤ 80 := by
        unfold fewA at f1; simp only [Bool.and_eq_true, decide_eq_true_eq] at f1; omega
      simp only [Bool.not_true, beq_self_eq_true, cond_true, cond_false, F20_eq, Option.bind_some]
      by_cases hg : g < 0
      · simp [hg]
      · simp only [hg, if_false]
        rcases hp : putA a (0, (g, t)) with ⟨b, x, e⟩
        simp only
        by_cases he : e = 0
        · subst he
          obtain ⟨va, hu, hm, hx, hpre, hbl, hvb⟩ := putA_ok hp
          have vb : valid b := hvb ⟨by simp only; omega, fun _ => rfl⟩
          simp only at hu
          obtain ⟨n, rfl⟩ : ∃ n : Nat, g = n := ⟨g.toNat, by omega⟩
          have hn : n < a.length := by omega
          have hlen2 : a.length ≤ b.length := hpre.length_le
          have hxl : ix b (0, ((n : Int), t)) < b.length := ix_lt hm
          have hget := ix_get hm
          generalize hxx : ix b (0, ((n : Int), t)) = y at hx hxl hget
          subst hx
          have hby : b[y] = (0, ((n : Int), t)) := by rw [List.getElem?_eq_getElem hxl] at hget; simpa using hget
          have hyn : n < y := by
            have := up_lt vb hxl
            rw [hby] at this
            simp only at this
            omega
          have w1 : IntKind.wrap .i64 ((a.length : Int) + 1) = (a.length : Int) + 1 := RB.wrap_i64 (by omega) (by omega)
          have hnew : b.length = a.length + 1 → y = a.length := by
            intro hb
            by_cases hya : y < a.length
            · exfalso
              obtain ⟨c, rfl⟩ := hpre
              have hma : (0, ((n : Int), t)) ∈ a := by
                rw [← hby, List.getElem_append_left hya]
                exact List.getElem_mem hya
              have := putA_same va hma
              rw [this] at hp
              simp only [Prod.mk.injEq] at hp
              have := congrArg List.length hp.1
              omega
            · omega
          have hpath : pathA a (n : Int) = ((trN a n).1, (trN a n).2.reverse, 0) := by
            unfold pathA
            rw [if_neg (by rintro (q | q | q); exact q va; omega; omega)]
          obtain ⟨u, us, hrev, hlk⟩ := trN_look va n n hn (Nat.le_refl _)
          have hlk2 : look b (trN a n).1 u (us ++ [t]) = some y := by
            rw [look_append (look_mono hpre hlk), if_pos hm, hxx]
          have hf := findA_of vb hlk2
          have c1 : ¬ (b.length : Int) < (a.length : Int) := by omega
          have c2 : ¬ (a.length : Int) + 1 < (b.length : Int) := by omega
          have c3 : ¬ (y : Int) < 0 := by omega
          have c4 : ¬ (b.length : Int) ≤ (y : Int) := by omega
          have c5 : ¬ (y : Int) ≤ (n : Int) := by omega
          have c6 : (bif decide ((b.length : Int) = (a.length : Int) + 1) then !decide ((y : Int) = (a.length : Int)) else false) = false := by
            by_cases q : (b.length : Int) = (a.length : Int) + 1
            · have := hnew (by omega)
              simp [this]
            · simp [q]
          have hus : us.length ≤ 80 := by
            have h1 := look_mem (l := us) (y := n) va us.length us n (Nat.le_refl _) hlk
            have : ∀ (m : Nat) (l : List (List Int)) (z : Nat), l.length ≤ m → look a (trN a n).1 u l = some z → l.length ≤ z := by
              intro m
              induction m with
              | zero => intro l z hl _; omega
              | succ m ih =>
                intro l z hl h
                rcases List.eq_nil_or_concat l with rfl | ⟨l', s, rfl⟩
                · simp
                · obtain ⟨q, h3, h4⟩ := look_snoc (by simpa using h)
                  have := ih l' q (by simp at hl; omega) h3
                  obtain ⟨hz, he⟩ := List.getElem?_eq_some_iff.1 h4
                  have := up_lt va hz
                  rw [he] at this
                  simp only at this
                  simp
                  omega
            have := this us.length us n (Nat.le_refl _) hlk
            omega
          have k1 : (([] : List (List Int)).length + us.length) * 24 ≤ LIM := by unfold LIM; simp; omega
          have k2 : ((([] : List (List Int)) ++ us).length + 1) * 24 ≤ LIM := by unfold LIM; simp; omega
          have htake : b.take a.length = a := by
            obtain ⟨c, rfl⟩ := hpre
            simp
          have hr0 : rd (.slice 5 (.int .u8)) (u :: us) 0 = u := rfl
          have hdrop : List.drop ((1 : Int).toNat) (u :: us) = us := rfl
          have ki : inb 0 (u :: us).length = true := inb_true (by omega) (by simp)
          have kj : inb 1 ((u :: us).length + 1) = true := inb_true (by omega) (by simp; omega)
          have kl : inb (a.length : Int) (b.length + 1) = true := inb_true (by omega) (by omega)
          simp only [w1, c1, c2, c3, c4, c5, c6, decide_true, decide_false, Bool.not_true, cond_false, beq_self_eq_true, cond_true, F30_eq, hpath, Option.bind_some, hrev, hr0, hdrop, ki, kj, Bool.or_true, k1, k2, List.nil_append,
            F28_eq (a := b) (k := (trN a n).1) (t := u) (l := us ++ [t]) (by simp; omega), hf, kl, Int.toNat_natCast, htake, F25_eq (a := a) (b := a) (by omega)]
          have kz : decide (((u :: us).length : Int) = 0) = false := by simp; omega
          have k2' : (us.length + 1) * 24 ≤ LIM := by unfold LIM; omega
          simp only [kz, cond_false, k2', decide_true, cond_true]
        · obtain ⟨rfl, rfl⟩ := putA_err hp he
          simp [he]
theorem pure7 (b : dens [.agg (.slice 39 (.pair (.int .u64) (.pair (.int .i64) (.slice 5 (.int .u8))))), .one (.int .i64), .one (.slice 5 (.int .u8))]) (h : Goods [.agg (.slice 39 (.pair (.int .u64) (.pair (.int .i64) (.slice 5 (.int .u8))))), .one (.int .i64), .one (.slice 5 (.int .u8))] b) : F7 b = some true := F7_true h.1.1
end Go.Proofs.Ytcpcbeeghjigkaa.R3
namespace Go.Proofs.Ytcpcbeeghjigkaa.R3
open Go Go.Fw Go.Proofs RB
set_option maxRecDepth 20000
theorem trN_len {a : List Tm} (h : valid a) : ∀ (n x : Nat) (hx : x < a.length), x ≤ n → (trN a x).2.length ≤ x + 1 := by
  intro n
  induction n with
  | zero =>
    intro x hx hn
    have hu := up_lt h hx
    rw [trN_step h hx, trN_neg (x := a[x].2.1) (by omega)]
    simp
  | succ n ih =>
    intro x hx hn
    have hu := up_lt h hx
    rw [trN_step h hx]
    by_cases hneg : a[x].2.1 < 0
    · rw [trN_neg hneg]; simp
    · obtain ⟨z, hz⟩ : ∃ z : Nat, a[x].2.1 = z := ⟨a[x].2.1.toNat, by omega⟩
      rw [hz]
      have := ih z (by omega) (by omega)
      simp only [List.length_cons]
      omega
end Go.Proofs.Ytcpcbeeghjigkaa.R3
