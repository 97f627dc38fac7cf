/- Part of a proof: what the program's functions come to. -/
import Derived.Test.YtcpcbeeghjigkaaLK
import Derived.Test.YtcpcbeeghjigkaaKB0
import Derived.Test.YtcpcbeeghjigkaaFwRow
set_option linter.unusedVariables false
set_option linter.unusedSimpArgs false
namespace Go.Proofs.Ytcpcbeeghjigkaa.R3
open Go Go.Fw Go.Proofs RB
set_option maxRecDepth 20000
/-! ### arenas -/
abbrev Tm := Int × (Int × List Int)
abbrev kT : Ty := .pair (.int .u64) (.pair (.int .i64) .str)
abbrev tT : Ty := .pair (.int .u64) (.pair (.int .i64) (.slice 5 (.int .u8)))
theorem eqK (k e : Tm) : eqb kT k e = decide (k = e) := by
  rw [Bool.eq_iff_iff]
  simp only [eqb, Bool.and_eq_true, decide_eq_true_eq]
  constructor
  · rintro ⟨h1, h2, h3⟩; exact Prod.ext h1 (Prod.ext h2 h3)
  · intro h; rw [h]; exact ⟨rfl, rfl, rfl⟩
def book : Nat → List Tm → List (Tm × Int)
  | _, [] => []
  | i, x :: r => (x, (i : Int)) :: book (i + 1) r
def ix : List Tm → Tm → Nat
  | [], _ => 0
  | x :: r, k => if k = x then 0 else ix r k + 1
theorem ix_lt : ∀ {a : List Tm} {k : Tm}, k ∈ a → ix a k < a.length
  | [], k, h => by simp at h
  | x :: r, k, h => by
    simp only [ix]
    split
    · simp
    · rename_i hne
      have := ix_lt (a := r) (k := k) ((List.mem_cons.1 h).resolve_left hne)
      simp; omega
theorem ix_get : ∀ {a : List Tm} {k : Tm}, k ∈ a → a[ix a k]? = some k
  | [], k, h => by simp at h
  | x :: r, k, h => by
    simp only [ix]
    split
    · rename_i he; simp [he]
    · rename_i hne
      simpa using ix_get (a := r) (k := k) ((List.mem_cons.1 h).resolve_left hne)
theorem ix_append : ∀ {a : List Tm} {k : Tm} (b : List Tm), k ∈ a → ix (a ++ b) k = ix a k
  | [], k, _, h => by simp at h
  | x :: r, k, b, h => by
    simp only [List.cons_append, ix]
    split
    · rfl
    · rename_i hne
      rw [ix_append b ((List.mem_cons.1 h).resolve_left hne)]
theorem ix_new : ∀ {a : List Tm} {k : Tm}, k ∉ a → ix (a ++ [k]) k = a.length
  | [], k, h => by simp [ix]
  | x :: r, k, h => by
    simp only [List.mem_cons, not_or] at h
    simp only [List.cons_append, ix, if_neg h.1, ix_new h.2, List.length_cons]
theorem has_book (k : Tm) : ∀ (a : List Tm) (i : Nat), mhas kT (.int .i64) (book i a) k = decide (k ∈ a)
  | [], i => by simp [book, mhas]
  | x :: r, i => by
    simp only [book, mhas, eqK, has_book k r (i + 1), List.mem_cons]
    by_cases h : k = x <;> simp [h]
theorem get_book (k : Tm) : ∀ (a : List Tm) (i : Nat), k ∈ a → mget kT (.int .i64) 0 (book i a) k = ((i + ix a k : Nat) : Int)
  | [], i, h => by simp at h
  | x :: r, i, h => by
    simp only [book, mget, eqK, ix]
    by_cases hx : k = x
    · simp [hx]
    · simp only [hx, decide_false, cond_false, if_false]
      rw [get_book k r (i + 1) ((List.mem_cons.1 h).resolve_left hx)]
      show ((i + 1 + ix r k : Nat) : Int) = ((i + (ix r k + 1) : Nat) : Int)
      omega
theorem put_book (k : Tm) (v : Int) : ∀ (a : List Tm) (i : Nat), k ∉ a → mput kT (.int .i64) (book i a) k v = book i a ++ [(k, v)]
  | [], i, h => by simp [book, mput]
  | x :: r, i, h => by
    simp only [List.mem_cons, not_or] at h
    simp only [book, mput, eqK, h.1, decide_false, cond_false, put_book k v r (i + 1) h.2, List.cons_append]
theorem book_snoc (x : Tm) : ∀ (a : List Tm) (i : Nat), book i (a ++ [x]) = book i a ++ [(x, ((i + a.length : Nat) : Int))]
  | [], i => by simp [book]
  | y :: r, i => by
    simp only [List.cons_append, book, book_snoc x r (i + 1), List.length_cons]
    rw [show i + 1 + r.length = i + (r.length + 1) by omega]
/-- A node may stand at i behind these. -/
def ok1 (pre : List Tm) (n : Tm) : Prop := n ∉ pre ∧ (-1 ≤ n.2.1 ∧ n.2.1 < pre.length) ∧ (-1 < n.2.1 → n.1 = 0) ∧ n.2.2.length ≤ 4096
instance (pre : List Tm) (n : Tm) : Decidable (ok1 pre n) := by unfold ok1; infer_instance
structure valid (a : List Tm) : Prop where
  len : a.length ≤ 1048576
  ok : ∀ i (h : i < a.length), ok1 (a.take i) a[i]
open Classical in
theorem F54_eq (a : List Tm) : F54 a = some (if valid a then (book 0 a, 0) else ([], 1)) := by
  unfold F54
  by_cases hl : 1048576 < a.length
  · have h1 : (1048576 : Int) < (a.length : Int) := by omega
    have hn : ¬ valid a := fun h => by have := h.len; omega
    simp [h1, hn]
  · have h1 : ¬ (1048576 : Int) < (a.length : Int) := by omega
    simp only [h1, decide_false, cond_false]
    refine lfp_rule (fun (x : Int × Int × List (Tm × Int)) => ∃ i : Nat, x.2.1 = (i : Int) ∧ i ≤ a.length ∧ x.2.2 = book 0 (a.take i) ∧ ∀ j (h : j < a.length), j < i → ok1 (a.take j) a[j]) (fun x => a.length - x.2.1.toNat)
      (fun _ => if valid a then (book 0 a, 0) else ([], 1)) ?_ ((0 : Int), (0 : Int), ([] : List (Tm × Int))) ⟨0, rfl, by omega, rfl, fun j _ hj => by omega⟩
    rintro ⟨u, i', acc⟩ ⟨i, hi', hi, hacc, hok⟩ rec hrec
    simp only at hi' hacc
    subst hi'
    simp only
    by_cases hlt : i < a.length
    · have k1 : ((i : Int) < (a.length : Int)) := by omega
      have hbad : ¬ ok1 (a.take i) a[i] → ¬ valid a := fun h hv => h (hv.ok i hlt)
      have hpl : (a.take i).length = i := by rw [List.length_take]; omega
      simp only [k1, decide_true, cond_true, inb_true (Int.natCast_nonneg i) k1, rd_nat (t := tT) hlt, F84, Option.bind_some, Prod.eta, hacc, has_book]
      by_cases c1 : a[i] ∈ a.take i
      · have : ¬ valid a := hbad fun h => h.1 c1
        simp [c1, this]
      by_cases c2 : a[i].2.1 < -1
      · have : ¬ valid a := hbad fun h => by have := h.2.1; omega
        simp [c1, c2, this]
      by_cases c3 : (i : Int) ≤ a[i].2.1
      · have : ¬ valid a := hbad fun h => by have := h.2.1; omega
        simp [c1, c2, c3, this]
      by_cases c4 : -1 < a[i].2.1 ∧ a[i].1 ≠ 0
      · have : ¬ valid a := hbad fun h => c4.2 (h.2.2.1 c4.1)
        simp [c1, c2, c3, c4.1, c4.2, this]
      by_cases c5 : (4096 : Int) < (a[i].2.2.length : Int)
      · have : ¬ valid a := hbad fun h => by have := h.2.2.2; omega
        have c4' : (bif decide (-1 < a[i].2.1) then !decide (a[i].1 = 0) else false) = false := by
          by_cases q : -1 < a[i].2.1
          · have : a[i].1 = 0 := Classical.byContradiction fun h => c4 ⟨q, h⟩
            simp [q, this]
          · simp [q]
        simp only [c1, c2, c3, c4', c5, decide_true, decide_false, cond_true, cond_false, this, if_false]
        rfl
      have c4' : (bif decide (-1 < a[i].2.1) then !decide (a[i].1 = 0) else false) = false := by
        by_cases q : -1 < a[i].2.1
        · have : a[i].1 = 0 := Classical.byContradiction fun h => c4 ⟨q, h⟩
          simp [q, this]
        · simp [q]
      simp only [c1, c2, c3, c4', c5, decide_true, decide_false, cond_true, cond_false, beq_self_eq_true]
      rw [RB.wrap_i64 (n := (i : Int) + 1) (by omega) (by omega), put_book _ _ _ _ c1]
      refine hrec _ ⟨i + 1, by simp, by omega, ?_, fun j hj hji => ?_⟩ (by simp only; omega)
      · simp only
        rw [List.take_succ_eq_append_getElem hlt, book_snoc, hpl]
        simp
      · by_cases hij : j = i
        · subst hij
          refine ⟨c1, ⟨by omega, by rw [hpl]; omega⟩, fun q => ?_, by omega⟩
          exact Classical.byContradiction fun h => c4 ⟨q, h⟩
        · exact hok j hj (by omega)
    · have k1 : ¬ ((i : Int) < (a.length : Int)) := by omega
      have hie : i = a.length := by omega
      have hv : valid a := ⟨by omega, fun j hj => hok j hj (by omega)⟩
      simp only [k1, decide_false, cond_false, hv, if_true]
      rw [hacc, hie, List.take_length]
theorem F60_eq {l : List Int} (h : l.length ≤ 1000000) : F60 l = some l := by
  unfold F60
  have : (([] : List Int).length + l.length) * 1 ≤ LIM := by unfold LIM; simp; omega
  simp only [this, decide_true, cond_true, List.nil_append]
  cases l with
  | nil => simp [both_self]
  | cons x r => simp
theorem F86_eq {l : List Tm} (h : l.length ≤ 2000000) : F86 l = some l := by
  unfold F86
  have : (([] : List Tm).length + l.length) * 40 ≤ LIM := by unfold LIM; simp; omega
  simp only [this, decide_true, cond_true, List.nil_append]
  cases l with
  | nil => simp [both_self]
  | cons x r => simp
theorem clone_loop {l : List Tm} (hl : l.length ≤ 2000000) (ht : ∀ n ∈ l, n.2.2.length ≤ 4096) {R : Type} (res : List Tm → Option R) (x : R) (hres : res l = some x) :
    lfp (fun (rec4 : (Int × (List Tm × Nat)) → Option R) (x4 : Int × (List Tm × Nat)) =>
      bif decide (x4.1 < (l.length : Int)) then (
      bif inb x4.1 x4.2.1.length then
      (F60 (((rd tT x4.2.1 x4.1).2).2)).bind fun r5 =>
      bif inb x4.1 x4.2.1.length then
      bif decide (x4.1.toNat = x4.2.2) then
      rec4 ((IntKind.wrap .i64 (x4.1 + 1)), ((x4.2.1.set x4.1.toNat ((rd tT x4.2.1 x4.1).1, (((rd tT x4.2.1 x4.1).2).1, r5))), x4.2.2 + 1))
      else none
      else none
      else none)
      else (
      bif decide (x4.2.1.length ≤ x4.2.2) then
      res x4.2.1
      else none)) (0, (l, 0)) = some x := by
  refine lfp_rule (fun (y : Int × (List Tm × Nat)) => ∃ i : Nat, y.1 = (i : Int) ∧ i ≤ l.length ∧ y.2.1 = l ∧ y.2.2 = i) (fun y => l.length - y.1.toNat) (fun _ => x) ?_ _ ⟨0, rfl, by omega, rfl, rfl⟩
  rintro ⟨i', y, n⟩ ⟨i, hi', hi, hy, hn⟩ rec hrec
  simp only at hi' hy hn
  subst hi'
  subst hy
  rw [hn]
  simp only
  by_cases hlt : i < y.length
  · have k1 : ((i : Int) < (y.length : Int)) := by omega
    have hx := ht _ (List.getElem_mem hlt)
    simp only [k1, decide_true, cond_true, inb_true (Int.natCast_nonneg i) k1, rd_nat (t := tT) hlt, F60_eq (l := y[i].2.2) (by omega), Option.bind_some, Prod.eta, Int.toNat_natCast, List.set_getElem_self]
    rw [RB.wrap_i64 (n := (i : Int) + 1) (by omega) (by omega)]
    exact hrec _ ⟨i + 1, by simp, by omega, rfl, rfl⟩ (by simp only; omega)
  · have k1 : ¬ ((i : Int) < (y.length : Int)) := by omega
    have k2 : y.length ≤ i := by omega
    simp only [k1, k2, decide_false, decide_true, cond_false, cond_true, hres]
open Classical in
noncomputable def putA (a : List Tm) (n : Tm) : List Tm × Int × Int :=
  if ¬ valid a ∨ (a.length : Int) ≤ n.2.1 then ([], 0, 1) else if 4096 < n.2.2.length then ([], 0, 4) else if n ∈ a then (a, (ix a n : Int), 0) else
    if a.length = 1048576 then ([], 0, 7) else (a ++ [n], (a.length : Int), 0)
theorem valid.text {a : List Tm} (h : valid a) : ∀ n ∈ a, n.2.2.length ≤ 4096 := by
  intro n hn
  obtain ⟨i, hi, rfl⟩ := List.getElem_of_mem hn
  exact (h.ok i hi).2.2.2
theorem F51_eq (a : List Tm) (n : Tm) : F51 (a, n) = some (putA a n) := by
  unfold F51 putA
  simp only [Prod.eta, F54_eq, Option.bind_some]
  by_cases hv : valid a
  · by_cases c1 : (a.length : Int) ≤ n.2.1
    · simp [hv, c1]
    · have hlen := hv.len
      simp only [hv, c1, if_true, not_true_eq_false, false_or, if_false, decide_true, Bool.not_true, cond_false, decide_false]
      by_cases c2 : 4096 < n.2.2.length
      · have c2' : (4096 : Int) < (n.2.2.length : Int) := by omega
        simp [c2, c2']
      · have c2' : ¬ (4096 : Int) < (n.2.2.length : Int) := by omega
        simp only [c2, c2', decide_false, cond_false, if_false, F84, Option.bind_some, Prod.eta, has_book]
        by_cases c3 : n ∈ a
        · simp only [c3, decide_true, Bool.not_true, cond_false, if_true, F86_eq (l := a) (by omega), Option.bind_some, both_self, get_book _ _ _ c3, Nat.zero_add]
          exact clone_loop (by omega) hv.text (fun l => some (l, (ix a n : Int), 0)) _ rfl
        · simp only [c3, decide_false, Bool.not_false, cond_true, if_false]
          by_cases c4 : a.length = 1048576
          · have c4' : (a.length : Int) = 1048576 := by omega
            simp [c4, c4']
          · have c4' : ¬ (a.length : Int) = 1048576 := by omega
            have k1 : inb (a.length : Int) (a.length + 1) = true := inb_true (by omega) (by omega)
            have k2 : ((a.take a.length).length + 1) * 40 ≤ LIM := by rw [List.take_length]; unfold LIM; omega
            simp only [c4, c4', decide_false, decide_true, cond_false, if_false, both_self, k1, Bool.and_self, cond_true, Int.toNat_natCast, k2, List.take_length]
            have k3 : (a.length + 1) * 40 ≤ LIM := by unfold LIM; omega
            simp only [k3, decide_true, cond_true, F86_eq (l := a ++ [n]) (by simp; omega), Option.bind_some]
            exact clone_loop (l := a ++ [n]) (by simp; omega) (fun x hx => by
              rcases List.mem_append.1 hx with hx | hx
              · exact hv.text x hx
              · simp only [List.mem_singleton] at hx; subst hx; omega) (fun l => some (l, (a.length : Int), 0)) _ rfl
  · simp [hv]
end Go.Proofs.Ytcpcbeeghjigkaa.R3
namespace Go.Proofs.Ytcpcbeeghjigkaa.R3
open Go Go.Fw Go.Proofs RB
set_option maxRecDepth 20000
/-! ### what tags come to: plain -/
theorem valid.snoc {a : List Tm} {n : Tm} (h : valid a) (hn : n ∉ a) (hu : -1 ≤ n.2.1 ∧ n.2.1 < a.length) (hk : -1 < n.2.1 → n.1 = 0) (ht : n.2.2.length ≤ 4096) (hl : a.length ≠ 1048576) : valid (a ++ [n]) := by
  refine ⟨by have := h.len; simp; omega, fun i hi => ?_⟩
  simp only [List.length_append, List.length_singleton] at hi
  by_cases hlt : i < a.length
  · have e1 : (a ++ [n]).take i = a.take i := by rw [List.take_append_of_le_length (by omega)]
    have e2 : (a ++ [n])[i]'(by simp; omega) = a[i] := List.getElem_append_left hlt
    rw [e1, e2]
    exact h.ok i hlt
  · have : i = a.length := by omega
    subst this
    have e1 : (a ++ [n]).take a.length = a := by simp
    have e2 : (a ++ [n])[a.length]'(by simp) = n := by simp
    rw [e1, e2]
    exact ⟨hn, hu, hk, ht⟩
theorem putA_ok {a b : List Tm} {n : Tm} {x : Int} (h : putA a n = (b, x, 0)) : valid a ∧ n.2.1 < a.length ∧ n ∈ b ∧ x = (ix b n : Int) ∧ a <+: b ∧ b.length ≤ a.length + 1 ∧ ((-1 ≤ n.2.1 ∧ (-1 < n.2.1 → n.1 = 0)) → valid b) := by
  unfold putA at h
  by_cases h1 : ¬ valid a ∨ (a.length : Int) ≤ n.2.1
  · rw [if_pos h1] at h; simp at h
  · rw [if_neg h1] at h
    have hv : valid a := Classical.byContradiction fun q => h1 (.inl q)
    have hu : n.2.1 < a.length := by
      have : ¬ (a.length : Int) ≤ n.2.1 := fun q => h1 (.inr q)
      omega
    by_cases h2 : 4096 < n.2.2.length
    · rw [if_pos h2] at h; simp at h
    · rw [if_neg h2] at h
      by_cases h3 : n ∈ a
      · rw [if_pos h3] at h
        simp only [Prod.mk.injEq, and_true] at h
        obtain ⟨rfl, rfl⟩ := h
        exact ⟨hv, hu, h3, rfl, List.prefix_refl _, by omega, fun _ => hv⟩
      · rw [if_neg h3] at h
        by_cases h4 : a.length = 1048576
        · rw [if_pos h4] at h; simp at h
        · rw [if_neg h4] at h
          simp only [Prod.mk.injEq, and_true] at h
          obtain ⟨rfl, rfl⟩ := h
          exact ⟨hv, hu, by simp, by rw [ix_new h3], List.prefix_append _ _, by simp, fun q => hv.snoc h3 ⟨q.1, hu⟩ q.2 (by omega) h4⟩
theorem putA_same {a : List Tm} {n : Tm} (hv : valid a) (hn : n ∈ a) : putA a n = (a, (ix a n : Int), 0) := by
  have ht := hv.text n hn
  obtain ⟨i, hi, he⟩ := List.getElem_of_mem hn
  have hk := (hv.ok i hi).2.1
  rw [he, List.length_take] at hk
  unfold putA
  rw [if_neg (by rintro (q | q); exact q hv; omega), if_neg (by omega), if_pos hn]
noncomputable def nextA (s : List Tm × Int × Int) (t : List Int) : List Tm × Int × Int :=
  if s.2.2 = 0 then (if s.2.1 < 0 then ([], 0, 1) else putA s.1 (0, (s.2.1, t))) else s
theorem F18_eq (a : List Tm) (k : Int) (t : List Int) : F18 (a, k, t) = some (putA a (k, (-1, t))) := by
  unfold F18; simp only [F51_eq, Option.bind_some]
theorem F20_eq (a : List Tm) (g : Int) (t : List Int) : F20 (a, g, t) = some (if g < 0 then ([], 0, 1) else putA a (0, (g, t))) := by
  unfold F20
  by_cases h : g < 0
  · simp [h]
  · simp only [h, decide_false, cond_false, F51_eq, Option.bind_some, if_false]
/-- From a tag, by texts. -/
def wk (a : List Tm) : Nat → List (List Int) → Option Nat
  | x, [] => some x
  | x, t :: r => if (0, ((x : Int), t)) ∈ a then wk a (ix a (0, ((x : Int), t))) r else none
def look (a : List Tm) (k : Int) (t : List Int) (l : List (List Int)) : Option Nat := if (k, ((-1 : Int), t)) ∈ a then wk a (ix a (k, (-1, t))) l else none
theorem pre_ix {a b : List Tm} {n : Tm} (h : a <+: b) (hn : n ∈ a) : n ∈ b ∧ ix b n = ix a n := by
  obtain ⟨c, rfl⟩ := h
  exact ⟨List.mem_append_left _ hn, ix_append c hn⟩
theorem wk_mono {a b : List Tm} (h : a <+: b) : ∀ (l : List (List Int)) (x y : Nat), wk a x l = some y → wk b x l = some y
  | [], _, _, he => he
  | t :: r, x, y, he => by
    simp only [wk] at he ⊢
    split at he
    · rename_i hm
      obtain ⟨h1, h2⟩ := pre_ix h hm
      rw [if_pos h1, h2]
      exact wk_mono h r _ _ he
    · simp at he
theorem look_mono {a b : List Tm} (h : a <+: b) {k : Int} {t : List Int} {l : List (List Int)} {y : Nat} (he : look a k t l = some y) : look b k t l = some y := by
  unfold look at he ⊢
  split at he
  · rename_i hm
    obtain ⟨h1, h2⟩ := pre_ix h hm
    rw [if_pos h1, h2]
    exact wk_mono h l _ _ he
  · simp at he
theorem next_err : ∀ (l : List (List Int)) (s : List Tm × Int × Int), s.2.2 ≠ 0 → l.foldl nextA s = s
  | [], _, _ => rfl
  | t :: r, s, h => by
    rw [List.foldl_cons, show nextA s t = s by simp [nextA, h]]
    exact next_err r s h
theorem made_spec : ∀ (l : List (List Int)) (a : List Tm) (x : Nat), valid a → x < a.length → ∀ b y, l.foldl nextA (a, (x : Int), 0) = (b, y, 0) →
    valid b ∧ a <+: b ∧ b.length ≤ a.length + l.length ∧ ∃ y' : Nat, y = (y' : Int) ∧ y' < b.length ∧ wk b x l = some y'
  | [], a, x, hv, hx, b, y, h => by
    simp only [List.foldl_nil, Prod.mk.injEq, and_true] at h
    obtain ⟨rfl, rfl⟩ := h
    exact ⟨hv, List.prefix_refl _, by simp, x, rfl, hx, rfl⟩
  | t :: r, a, x, hv, hx, b, y, h => by
    rw [List.foldl_cons] at h
    have hn : nextA (a, (x : Int), 0) t = putA a (0, ((x : Int), t)) := by
      simp only [nextA, if_true]
      rw [if_neg (by omega)]
    rw [hn] at h
    rcases hp : putA a (0, ((x : Int), t)) with ⟨b1, y1, e1⟩
    rw [hp] at h
    by_cases he : e1 = 0
    · subst he
      obtain ⟨_, _, h3, h4, h5, h6, h7⟩ := putA_ok hp
      have hv1 : valid b1 := h7 ⟨by simp only; omega, fun _ => rfl⟩
      subst h4
      obtain ⟨g1, g2, g3, y', g4, g5, g6⟩ := made_spec r b1 _ hv1 (ix_lt h3) b y h
      obtain ⟨q1, q2⟩ := pre_ix g2 h3
      refine ⟨g1, h5.trans g2, by simp; omega, y', g4, g5, ?_⟩
      simp only [wk]
      rw [if_pos q1, q2]
      exact g6
    · rw [next_err r _ he] at h
      simp only [Prod.mk.injEq] at h
      exact absurd h.2.2 he
theorem made_same : ∀ (l : List (List Int)) (a : List Tm) (x y : Nat), valid a → wk a x l = some y → l.foldl nextA (a, (x : Int), 0) = (a, (y : Int), 0)
  | [], a, x, y, hv, h => by simp only [wk, Option.some.injEq] at h; subst h; rfl
  | t :: r, a, x, y, hv, h => by
    simp only [wk] at h
    split at h
    · rename_i hm
      have hn : nextA (a, (x : Int), 0) t = putA a (0, ((x : Int), t)) := by
        simp only [nextA, if_true]
        rw [if_neg (by omega)]
      rw [List.foldl_cons, hn, putA_same hv hm]
      exact made_same r a _ y hv h
    · simp at h
theorem made_root {a b : List Tm} {k : Int} {t : List Int} {l : List (List Int)} {y : Int} (h : l.foldl nextA (putA a (k, (-1, t))) = (b, y, 0)) :
    valid a ∧ valid b ∧ a <+: b ∧ b.length ≤ a.length + 1 + l.length ∧ ∃ y' : Nat, y = (y' : Int) ∧ y' < b.length ∧ look b k t l = some y' := by
  rcases hp : putA a (k, (-1, t)) with ⟨b1, y1, e1⟩
  rw [hp] at h
  by_cases he : e1 = 0
  · subst he
    obtain ⟨h1, _, h3, h4, h5, h6, h7⟩ := putA_ok hp
    have hv1 : valid b1 := h7 ⟨by simp, fun q => by simp at q⟩
    subst h4
    obtain ⟨g1, g2, g3, y', g4, g5, g6⟩ := made_spec l b1 _ hv1 (ix_lt h3) b y h
    obtain ⟨q1, q2⟩ := pre_ix g2 h3
    refine ⟨h1, g1, h5.trans g2, by omega, y', g4, g5, ?_⟩
    unfold look
    rw [if_pos q1, q2]
    exact g6
  · rw [next_err l _ he] at h
    simp only [Prod.mk.injEq] at h
    exact absurd h.2.2 he
theorem made_again {a : List Tm} {k : Int} {t : List Int} {l : List (List Int)} {y : Nat} (hv : valid a) (h : look a k t l = some y) : l.foldl nextA (putA a (k, (-1, t))) = (a, (y : Int), 0) := by
  unfold look at h
  split at h
  · rename_i hm
    rw [putA_same hv hm]
    exact made_same l a _ y hv h
  · simp at h
theorem wk_snoc (a : List Tm) (t : List Int) : ∀ (l : List (List Int)) (x y : Nat), wk a x (l ++ [t]) = some y → ∃ z, wk a x l = some z ∧ (0, ((z : Int), t)) ∈ a ∧ y = ix a (0, ((z : Int), t))
  | [], x, y, h => by
    simp only [List.nil_append, wk] at h
    split at h
    · rename_i hm
      simp only [Option.some.injEq] at h
      exact ⟨x, rfl, hm, h.symm⟩
    · simp at h
  | s :: r, x, y, h => by
    simp only [List.cons_append, wk] at h ⊢
    split at h
    · rename_i hm
      rw [if_pos hm]
      exact wk_snoc a t r _ _ h
    · simp at h
theorem look_snoc {a : List Tm} {k : Int} {t s : List Int} {l : List (List Int)} {y : Nat} (h : look a k t (l ++ [s]) = some y) : ∃ z, look a k t l = some z ∧ a[y]? = some (0, ((z : Int), s)) := by
  unfold look at h ⊢
  split at h
  · rename_i hm
    obtain ⟨z, h1, h2, h3⟩ := wk_snoc a s l _ _ h
    exact ⟨z, by rw [if_pos hm]; exact h1, by rw [h3]; exact ix_get h2⟩
  · simp at h
theorem look_root {a : List Tm} {k : Int} {t : List Int} {y : Nat} (h : look a k t [] = some y) : a[y]? = some (k, (-1, t)) := by
  unfold look at h
  split at h
  · rename_i hm
    simp only [wk, Option.some.injEq] at h
    rw [← h]; exact ix_get hm
  · simp at h
/-- THE STAGE'S: a tag tells its key, and all its texts. -/
theorem look_inj {a : List Tm} {k k' : Int} {t t' : List Int} : ∀ (n : Nat) (l l' : List (List Int)) (y : Nat), l.length ≤ n → look a k t l = some y → look a k' t' l' = some y → k = k' ∧ t = t' ∧ l = l' := by
  intro n
  induction n with
  | zero =>
    intro l l' y hn h h'
    have hl : l = [] := List.length_eq_zero_iff.1 (by omega)
    subst hl
    have h1 := look_root h
    rcases List.eq_nil_or_concat l' with rfl | ⟨m, s, rfl⟩
    · have h2 := look_root h'
      rw [h1] at h2
      simp only [Option.some.injEq, Prod.mk.injEq, true_and] at h2
      exact ⟨h2.1, h2.2, rfl⟩
    · obtain ⟨z, _, h2⟩ := look_snoc (by simpa using h')
      rw [h1] at h2
      simp only [Option.some.injEq, Prod.mk.injEq] at h2
      omega
  | succ n ih =>
    intro l l' y hn h h'
    rcases List.eq_nil_or_concat l with rfl | ⟨m, s, rfl⟩
    · have h1 := look_root h
      rcases List.eq_nil_or_concat l' with rfl | ⟨m', s', rfl⟩
      · have h2 := look_root h'
        rw [h1] at h2
        simp only [Option.some.injEq, Prod.mk.injEq, true_and] at h2
        exact ⟨h2.1, h2.2, rfl⟩
      · obtain ⟨z, _, h2⟩ := look_snoc (by simpa using h')
        rw [h1] at h2
        simp only [Option.some.injEq, Prod.mk.injEq] at h2
        omega
    · obtain ⟨z, g1, g2⟩ := look_snoc (by simpa using h)
      rcases List.eq_nil_or_concat l' with rfl | ⟨m', s', rfl⟩
      · have h2 := look_root h'
        rw [g2] at h2
        simp only [Option.some.injEq, Prod.mk.injEq] at h2
        omega
      · obtain ⟨z', g3, g4⟩ := look_snoc (by simpa using h')
        rw [g2] at g4
        simp only [Option.some.injEq, Prod.mk.injEq, true_and] at g4
        have hz : z = z' := by omega
        subst hz
        have hm : m.length ≤ n := by simp at hn; omega
        obtain ⟨e1, e2, e3⟩ := ih m m' z hm g1 g3
        exact ⟨e1, e2, by rw [e3, g4.2]⟩
end Go.Proofs.Ytcpcbeeghjigkaa.R3
namespace Go.Proofs.Ytcpcbeeghjigkaa.R3
open Go Go.Fw Go.Proofs RB
set_option maxRecDepth 20000
/-- Is none so? -/
theorem all_loop {t : Ty} {l : List t.den} (hl : l.length ≤ 9223372036854775807) (p : t.den → Bool) (c : Bool) :
    lfp (fun (rec1 : (Bool × Int) → Option Bool) (x1 : Bool × Int) =>
      bif decide (x1.2 < (l.length : Int)) then (
      bif inb x1.2 l.length then
      bif p (rd t l x1.2) then (some false) else (rec1 (x1.1, (IntKind.wrap .i64 (x1.2 + 1))))
      else none)
      else (some c)) (false, 0) = some ((l.all fun x => !p x) && c) := by
  refine lfp_rule (fun x => ∃ i : Nat, x.2 = (i : Int) ∧ i ≤ l.length ∧ ∀ j (h : j < l.length), j < i → p l[j] = false) (fun x => l.length - x.2.toNat) (fun _ => (l.all fun x => !p x) && c) ?_ (false, 0) ⟨0, rfl, by omega, fun j _ hj => by omega⟩
  rintro ⟨y, i'⟩ ⟨i, hi', hi, hp⟩ rec hrec
  simp only at hi'
  subst hi'
  simp only
  by_cases hlt : i < l.length
  · have k1 : ((i : Int) < (l.length : Int)) := by omega
    simp only [k1, decide_true, cond_true, inb_true (Int.natCast_nonneg i) k1, rd_nat hlt]
    cases hq : p l[i] with
    | true =>
      have : (l.all fun x => !p x) = false := by
        rw [List.all_eq_false]
        exact ⟨l[i], List.getElem_mem hlt, by simp [hq]⟩
      simp [this]
    | false =>
      simp only [cond_false]
      rw [RB.wrap_i64 (n := (i : Int) + 1) (by omega) (by omega)]
      refine hrec _ ⟨i + 1, by simp, by omega, fun j hj hji => ?_⟩ (by simp only; omega)
      by_cases hij : j = i
      · subst hij; exact hq
      · exact hp j hj (by omega)
  · have k1 : ¬ ((i : Int) < (l.length : Int)) := by omega
    simp only [k1, decide_false, cond_false]
    have : (l.all fun x => !p x) = true := by
      rw [List.all_eq_true]
      intro x hx
      obtain ⟨j, hj, rfl⟩ := List.getElem_of_mem hx
      simp [hp j hj (by omega)]
    simp [this]
def fewA (a : List Tm) : Bool := (a.all fun x => !decide (200 < (x.2.2.length : Int))) && decide ((a.length : Int) ≤ 80)
theorem F15_eq {a : List Tm} (h : a.length ≤ 9223372036854775807) : F15 a = some (fewA a) :=
  all_loop (t := tT) h (fun x => decide (200 < (x.2.2.length : Int))) (decide ((a.length : Int) ≤ 80))
def bigT (x : List Int) : Bool := bif (bif decide (200 < (x.length : Int)) then decide ((x.length : Int) ≤ 4096) else false) then true else decide (4100 < (x.length : Int))
def fewT (l : List (List Int)) : Bool := (l.all fun x => !bigT x) && decide ((l.length : Int) ≤ 12)
theorem F16_eq {l : List (List Int)} (h : l.length ≤ 9223372036854775807) : F16 l = some (fewT l) :=
  all_loop (t := .slice 5 (.int .u8)) h bigT (decide ((l.length : Int) ≤ 12))
theorem F57_eq (a b : Tm) : F57 (a, b) = some (decide (a = b)) := by
  obtain ⟨a1, a2, a3⟩ := a
  obtain ⟨b1, b2, b3⟩ := b
  unfold F57 F87
  by_cases c1 : a1 = b1
  · by_cases c2 : a2 = b2
    · by_cases c3 : a3 = b3 <;> simp [c1, c2, c3]
    · simp [c1, c2]
  · simp [c1]
theorem F25_eq {a b : List Tm} (hl : a.length ≤ 4611686018427387904) : F25 (a, b) = some (decide (a = b)) := by
  have : F56057 (a, b, ()) = some (decide (a = b)) := by
    unfold F56057
    by_cases hn : a.length = b.length
    · have : (a.length : Int) = (b.length : Int) := by omega
      simp only [this, decide_true, Bool.not_true, cond_false]
      rw [← this]
      refine same_loop (t := tT) hl hn (G := fun x y K => (F57 (x, y)).bind K) (fun i h1 h2 K => ?_)
      rw [F57_eq]; rfl
    · have : ¬ (a.length : Int) = (b.length : Int) := by omega
      have hne : a ≠ b := fun h => hn (by rw [h])
      simp [this, hne]
  unfold F25
  simp only [this, Option.bind_some]
open Classical in
theorem F23_eq (a : List Tm) : F23 a = some (if valid a then 0 else 1) := by
  unfold F23
  simp only [F54_eq, Option.bind_some]
  by_cases h : valid a <;> simp [h]
theorem valid_nil : valid [] := ⟨by simp, fun i h => by simp at h⟩
theorem put_nil (k : Int) (t : List Int) (h : t.length ≤ 4096) : putA [] (k, (-1, t)) = ([(k, (-1, t))], 0, 0) := by
  unfold putA
  rw [if_neg (by rintro (q | q); exact q valid_nil; simp at q), if_neg (by simp only; omega), if_neg (by simp), if_neg (by simp)]
  rfl
theorem F14_true : F14 () = some true := by
  unfold F14
  simp only [F18_eq, Option.bind_some]
  have h1 := put_nil 7 [] (by simp)
  obtain ⟨_, _, h3, _, _, _, h7⟩ := putA_ok h1
  have hv := h7 ⟨by simp, fun q => by simp at q⟩
  rw [h1]
  simp only
  rw [putA_same hv h3]
  simp [ix]
end Go.Proofs.Ytcpcbeeghjigkaa.R3
namespace Go.Proofs.Ytcpcbeeghjigkaa.R3
open Go Go.Fw Go.Proofs RB
set_option maxRecDepth 20000
/-! ### the document's answer -/
theorem F53_eq (a b : Tm) : F53 (a, b) = some (decide (a = b)) := by
  obtain ⟨a1, a2, a3⟩ := a
  obtain ⟨b1, b2, b3⟩ := b
  unfold F53 F50
  by_cases c1 : a1 = b1
  · by_cases c2 : a2 = b2
    · by_cases c3 : a3 = b3 <;> simp [c1, c2, c3]
    · simp [c1, c2]
  · simp [c1]
theorem ix_skip : ∀ (pre : List Tm) (n : Tm) (post : List Tm), n ∉ pre → ix (pre ++ n :: post) n = pre.length
  | [], n, post, _ => by simp [ix]
  | x :: r, n, post, h => by
    simp only [List.mem_cons, not_or] at h
    simp only [List.cons_append, ix, if_neg h.1, ix_skip r n post h.2, List.length_cons]
theorem ix_first {a : List Tm} {i : Nat} (h : i < a.length) (hn : a[i] ∉ a.take i) : ix a a[i] = i := by
  have h1 : a = a.take i ++ a[i] :: a.drop (i + 1) := by rw [← List.drop_eq_getElem_cons h, List.take_append_drop]
  have h2 := ix_skip (a.take i) a[i] (a.drop (i + 1)) hn
  rw [← h1, List.length_take] at h2
  omega
theorem ix_early {a : List Tm} {i : Nat} {n : Tm} (hn : n ∈ a.take i) : ix a n < i := by
  have h1 := ix_append (a.drop i) hn
  rw [List.take_append_drop] at h1
  have h2 := ix_lt hn
  rw [List.length_take] at h2
  omega
def plc (a : List Tm) (n : Tm) : Int := if n ∈ a then (ix a n : Int) else -1
theorem F55_eq {a : List Tm} {n : Tm} (hl : a.length ≤ 9223372036854775807) : F55 (a, n) = some (plc a n) := by
  unfold F55
  refine lfp_rule (fun (x : Int × Int) => ∃ i : Nat, x.2 = (i : Int) ∧ i ≤ a.length ∧ n ∉ a.take i) (fun x => a.length - x.2.toNat) (fun _ => plc a n) ?_ (0, 0) ⟨0, rfl, by omega, by simp⟩
  rintro ⟨u, i'⟩ ⟨i, hi', hi, hn⟩ rec hrec
  simp only at hi'
  subst hi'
  simp only
  by_cases hlt : i < a.length
  · have k1 : ((i : Int) < (a.length : Int)) := by omega
    simp only [k1, decide_true, cond_true, inb_true (Int.natCast_nonneg i) k1, rd_nat (t := tT) hlt, Prod.eta, F53_eq, Option.bind_some]
    by_cases he : a[i] = n
    · subst he
      simp only [decide_true, cond_true]
      unfold plc
      rw [if_pos (List.getElem_mem hlt), ix_first hlt hn]
    · simp only [he, decide_false, cond_false]
      rw [RB.wrap_i64 (n := (i : Int) + 1) (by omega) (by omega)]
      refine hrec _ ⟨i + 1, by simp, by omega, ?_⟩ (by simp only; omega)
      rw [List.take_succ_eq_append_getElem hlt]
      simp only [List.mem_append, List.mem_singleton, not_or]
      exact ⟨hn, fun h => he h.symm⟩
  · have k1 : ¬ ((i : Int) < (a.length : Int)) := by omega
    simp only [k1, decide_false, cond_false]
    rw [List.take_of_length_le (by omega)] at hn
    unfold plc
    rw [if_neg hn]
open Classical in
theorem F24_eq (a : List Tm) : F24 a = some (if valid a then 0 else 1) := by
  unfold F24
  by_cases hl : 1048576 < a.length
  · have h1 : (1048576 : Int) < (a.length : Int) := by omega
    have hn : ¬ valid a := fun h => by have := h.len; omega
    simp [h1, hn]
  · have h1 : ¬ (1048576 : Int) < (a.length : Int) := by omega
    simp only [h1, decide_false, cond_false]
    refine lfp_rule (fun (x : Int × Int) => ∃ i : Nat, x.2 = (i : Int) ∧ i ≤ a.length ∧ ∀ j (h : j < a.length), j < i → ok1 (a.take j) a[j]) (fun x => a.length - x.2.toNat)
      (fun _ => if valid a then 0 else 1) ?_ ((0 : Int), (0 : Int)) ⟨0, rfl, by omega, fun j _ hj => by omega⟩
    rintro ⟨u, i'⟩ ⟨i, hi', hi, hok⟩ rec hrec
    simp only at hi'
    subst hi'
    simp only
    by_cases hlt : i < a.length
    · have k1 : ((i : Int) < (a.length : Int)) := by omega
      have hbad : ¬ ok1 (a.take i) a[i] → ¬ valid a := fun h hv => h (hv.ok i hlt)
      have hpl : (a.take i).length = i := by rw [List.length_take]; omega
      simp only [k1, decide_true, cond_true, inb_true (Int.natCast_nonneg i) k1, rd_nat (t := tT) hlt, Prod.eta, F55_eq (a := a) (n := a[i]) (by omega), Option.bind_some]
      by_cases c2 : a[i].2.1 < -1
      · have : ¬ valid a := hbad fun h => by have := h.2.1; omega
        simp [c2, this]
      by_cases c3 : (i : Int) ≤ a[i].2.1
      · have : ¬ valid a := hbad fun h => by have := h.2.1; omega
        simp [c2, c3, this]
      by_cases c4 : 0 ≤ a[i].2.1 ∧ a[i].1 ≠ 0
      · have : ¬ valid a := hbad fun h => c4.2 (h.2.2.1 (by omega))
        simp [c2, c3, c4.1, c4.2, this]
      have c4' : (bif decide (0 ≤ a[i].2.1) then !decide (a[i].1 = 0) else false) = false := by
        by_cases q : 0 ≤ a[i].2.1
        · have : a[i].1 = 0 := Classical.byContradiction fun h => c4 ⟨q, h⟩
          simp [q, this]
        · simp [q]
      by_cases c5 : (4096 : Int) < (a[i].2.2.length : Int)
      · have : ¬ valid a := hbad fun h => by have := h.2.2.2; omega
        simp only [c2, c3, c4', c5, decide_true, decide_false, cond_true, cond_false, this, if_false]
        rfl
      simp only [c2, c3, c4', c5, decide_true, decide_false, cond_true, cond_false, beq_self_eq_true]
      have hpm : plc a a[i] = (ix a a[i] : Int) := by unfold plc; rw [if_pos (List.getElem_mem hlt)]
      by_cases c1 : a[i] ∈ a.take i
      · have hv : ¬ valid a := hbad fun h => h.1 c1
        have := ix_early c1
        have hd : plc a a[i] < (i : Int) := by rw [hpm]; omega
        simp only [hd, decide_true, cond_true, hv, if_false]
      · have := ix_first hlt c1
        have hd : ¬ plc a a[i] < (i : Int) := by rw [hpm]; omega
        simp only [hd, decide_false, cond_false]
        rw [RB.wrap_i64 (n := (i : Int) + 1) (by omega) (by omega)]
        refine hrec _ ⟨i + 1, by simp, by omega, fun j hj hji => ?_⟩ (by simp only; omega)
        by_cases hij : j = i
        · subst hij
          refine ⟨c1, ⟨by omega, by rw [hpl]; omega⟩, fun q => ?_, by omega⟩
          exact Classical.byContradiction fun h => c4 ⟨by omega, h⟩
        · exact hok j hj (by omega)
    · have k1 : ¬ ((i : Int) < (a.length : Int)) := by omega
      have hv : valid a := ⟨by omega, fun j hj => hok j hj (by omega)⟩
      simp only [k1, decide_false, cond_false, hv, if_true]
def at_ (o : Option Nat) : Int := match o with | some y => (y : Int) | none => -1
end Go.Proofs.Ytcpcbeeghjigkaa.R3
namespace Go.Proofs.Ytcpcbeeghjigkaa.R3
open Go Go.Fw Go.Proofs RB
set_option maxRecDepth 20000
theorem F22_eq {a b : List Tm} (hl : a.length ≤ 4611686018427387904) : F22 (a, b) = some (decide (a = b)) := by
  unfold F22
  by_cases hn : a.length = b.length
  · have : (a.length : Int) = (b.length : Int) := by omega
    simp only [this, decide_true, Bool.not_true, cond_false]
    rw [← this]
    refine lfp_rule (fun (x : Bool × Int) => ∃ i : Nat, x.2 = (i : Int) ∧ i ≤ a.length ∧ a.take i = b.take i) (fun x => a.length - x.2.toNat) (fun _ => decide (a = b)) ?_ (false, 0) ⟨0, rfl, by omega, rfl⟩
    rintro ⟨y, i'⟩ ⟨i, hi', hi, he⟩ rec hrec
    simp only at hi'
    subst hi'
    simp only
    by_cases hlt : i < a.length
    · have hlb : i < b.length := by omega
      have k1 : ((i : Int) < (a.length : Int)) := by omega
      have k2 : ((i : Int) < (b.length : Int)) := by omega
      simp only [k1, decide_true, cond_true, inb_true (Int.natCast_nonneg i) k1, inb_true (Int.natCast_nonneg i) k2, rd_nat (t := tT) hlt, rd_nat (t := tT) hlb, Prod.eta, F53_eq, Option.bind_some, both_self]
      by_cases c : a[i] = b[i]
      · simp only [c, decide_true, Bool.not_true, cond_false]
        rw [RB.wrap_i64 (n := (i : Int) + 1) (by omega) (by omega)]
        refine hrec _ ⟨i + 1, by simp, by omega, ?_⟩ (by simp only; omega)
        rw [List.take_succ_eq_append_getElem hlt, List.take_succ_eq_append_getElem hlb, he, c]
      · have hne : a ≠ b := fun h => c (by subst h; rfl)
        simp [c, hne]
    · have k1 : ¬ ((i : Int) < (a.length : Int)) := by omega
      have hab : a = b := by
        have h1 : a.take i = a := List.take_of_length_le (by omega)
        have h2 : b.take i = b := List.take_of_length_le (by omega)
        rw [← h1, ← h2, he]
      have hd : decide (a = b) = true := decide_eq_true hab
      simp only [k1, decide_false, cond_false, hd]
  · have : ¬ (a.length : Int) = (b.length : Int) := by omega
    have hne : a ≠ b := fun h => hn (by rw [h])
    simp [this, hne]
theorem F17_eq {a : List Tm} (hl : a.length ≤ 1048576) (ht : ∀ n ∈ a, n.2.2.length ≤ 4096) : F17 a = some a := by
  unfold F17
  simp only [both_self]
  refine lfp_rule (fun (x : Int × List Tm × (Unit × Unit)) => ∃ i : Nat, x.1 = (i : Int) ∧ i ≤ a.length ∧ x.2.1 = a.take i) (fun x => a.length - x.1.toNat) (fun _ => a) ?_ _ ⟨0, rfl, by omega, rfl⟩
  rintro ⟨i', acc, u⟩ ⟨i, hi', hi, he⟩ rec hrec
  simp only at hi' he
  subst hi'; subst he
  simp only
  by_cases hlt : i < a.length
  · have k1 : ((i : Int) < (a.length : Int)) := by omega
    have hti := ht _ (List.getElem_mem hlt)
    have k3 : (([] : List Int).length + a[i].2.2.length) * 1 ≤ LIM := by unfold LIM; simp; omega
    have k4 : ((a.take i).length + 1) * 40 ≤ LIM := by rw [List.length_take]; unfold LIM; omega
    simp only [k1, decide_true, cond_true, inb_true (Int.natCast_nonneg i) k1, rd_nat (t := tT) hlt, Bool.or_true, k3, k4, List.nil_append, Prod.eta]
    rw [RB.wrap_i64 (n := (i : Int) + 1) (by omega) (by omega)]
    refine hrec ((i : Int) + 1, _, _) ⟨i + 1, by simp, by omega, ?_⟩ (by simp only; omega)
    rw [List.take_succ_eq_append_getElem hlt]
  · have k1 : ¬ ((i : Int) < (a.length : Int)) := by omega
    simp only [k1, decide_false, cond_false, List.take_of_length_le (show a.length ≤ i by omega)]
theorem F52_eq {a : List Tm} {n : Tm} (hu : -1 ≤ n.2.1) : F52 (a, n) = some (putA a n) := by
  unfold F52 putA
  simp only [Prod.eta, F24_eq, Option.bind_some, both_self]
  by_cases hv : valid a
  · have hlen := hv.len
    by_cases c1 : (a.length : Int) ≤ n.2.1
    · simp [hv, c1]
    · have cu : ¬ n.2.1 < -1 := by omega
      by_cases c2 : 4096 < n.2.2.length
      · have c2' : (4096 : Int) < (n.2.2.length : Int) := by omega
        simp [hv, c1, cu, c2, c2']
      · have c2' : ¬ (4096 : Int) < (n.2.2.length : Int) := by omega
        simp only [hv, if_true, decide_true, Bool.not_true, c1, cu, decide_false, cond_false, c2', F17_eq hlen hv.text, Option.bind_some, F55_eq (a := a) (n := n) (by omega), not_true_eq_false, false_or, if_false, c2]
        by_cases c3 : n ∈ a
        · have : plc a n = (ix a n : Int) := by unfold plc; rw [if_pos c3]
          rw [if_pos c3, this]
          have h0 : (0 : Int) ≤ (ix a n : Int) := by omega
          simp only [h0, decide_true, cond_true]
        · have : plc a n = -1 := by unfold plc; rw [if_neg c3]
          rw [if_neg c3, this]
          simp only [show decide ((0 : Int) ≤ -1) = false from rfl, cond_false]
          by_cases c4 : a.length = 1048576
          · have c4' : (a.length : Int) = 1048576 := by omega
            rw [if_pos c4]
            have hd := decide_eq_true c4'
            simp only [hd, cond_true]
          · have c4' : ¬ (a.length : Int) = 1048576 := by omega
            have k3 : (([] : List Int).length + n.2.2.length) * 1 ≤ LIM := by unfold LIM; simp; omega
            have k4 : (a.length + 1) * 40 ≤ LIM := by unfold LIM; omega
            rw [if_neg c4]
            simp only [c4', decide_false, cond_false, Bool.or_true, cond_true, k3, k4, decide_true, List.nil_append, Prod.eta, List.length_append, List.length_singleton]
            rw [RB.wrap_i64 (by omega) (by omega)]
            congr 3
            omega
  · simp [hv]
end Go.Proofs.Ytcpcbeeghjigkaa.R3
