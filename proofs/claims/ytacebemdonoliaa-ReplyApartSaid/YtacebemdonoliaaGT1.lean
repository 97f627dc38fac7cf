/- Part of a proof: what the program's functions come to. -/
import Derived.Test.YtacebemdonoliaaLG
import Derived.Test.YtacebemdonoliaaGB0
import Derived.Test.YtacebemdonoliaaFwRow
set_option linter.unusedVariables false
set_option linter.unusedSimpArgs false
namespace Go.Proofs.Ytacebemdonoliaa.R4
open Go Go.Fw Go.Proofs RB
abbrev Rec := Int × List Int
def pos : List Rec → Int → Nat
  | [], _ => 0
  | a :: r, t => if a.1 < t then pos r t + 1 else 0
def fnd : List Rec → Int → Bool
  | [], _ => false
  | a :: r, t => if a.1 < t then fnd r t else decide (a.1 = t)
def look : List Rec → Int → Option (List Int)
  | [], _ => none
  | a :: r, t => if a.1 < t then look r t else if a.1 = t then some a.2 else none
def ins : List Rec → Rec → List Rec
  | [], x => [x]
  | a :: r, x => if a.1 < x.1 then a :: ins r x else if a.1 = x.1 then x :: r else x :: a :: r
def Sorted (l : List Rec) : Prop := l.Pairwise (fun a b => a.1 < b.1)
def okT (l : List Rec) : Prop := l.length ≤ 64 ∧ (∀ r ∈ l, r.2.length ≤ 4096) ∧ Sorted l
theorem pos_le : ∀ (l : List Rec) (t : Int), pos l t ≤ l.length
  | [], _ => by simp [pos]
  | a :: r, t => by simp only [pos]; split; have := pos_le r t; simp; omega; simp
theorem pos_lt : ∀ (l : List Rec) (t : Int) (j : Nat) (h : j < l.length), j < pos l t → l[j].1 < t
  | [], _, _, h, _ => by simp at h
  | a :: r, t, j, h, hj => by
    simp only [pos] at hj
    split at hj
    · cases j with
      | zero => assumption
      | succ j => simp only [List.getElem_cons_succ]; exact pos_lt r t j (by simpa using h) (by omega)
    · omega
theorem pos_ge : ∀ (l : List Rec) (t : Int) (j : Nat) (h : j < l.length), Sorted l → pos l t ≤ j → t ≤ l[j].1
  | [], _, _, h, _, _ => by simp at h
  | a :: r, t, j, h, hs, hj => by
    obtain ⟨h1, h2⟩ := List.pairwise_cons.1 hs
    simp only [pos] at hj
    split at hj
    · cases j with
      | zero => omega
      | succ j => simp only [List.getElem_cons_succ]; exact pos_ge r t j (by simpa using h) h2 (by omega)
    · rename_i hn
      cases j with
      | zero => simp only [List.getElem_cons_zero]; omega
      | succ j =>
        simp only [List.getElem_cons_succ]
        have hj' : j < r.length := by simpa using h
        have := h1 r[j] (List.getElem_mem hj')
        omega
theorem fnd_at : ∀ (l : List Rec) (t : Int) (h : pos l t < l.length), fnd l t = decide (l[pos l t].1 = t)
  | [], _, h => by simp at h
  | a :: r, t, h => by
    by_cases c : a.1 < t
    · have e : pos (a :: r) t = pos r t + 1 := by simp [pos, c]
      have h' : pos r t < r.length := by rw [e] at h; simpa using h
      simp only [fnd, c, if_true, fnd_at r t h', e, List.getElem_cons_succ]
    · have e : pos (a :: r) t = 0 := by simp [pos, c]
      simp only [fnd, c, if_false, e, List.getElem_cons_zero]
theorem fnd_end : ∀ (l : List Rec) (t : Int), pos l t = l.length → fnd l t = false
  | [], _, _ => rfl
  | a :: r, t, h => by
    by_cases c : a.1 < t
    · simp only [pos, c, if_true, List.length_cons] at h
      simp only [fnd, c, if_true]; exact fnd_end r t (by omega)
    · simp [pos, c] at h
theorem look_at : ∀ (l : List Rec) (t : Int), look l t = if h : pos l t < l.length then (if l[pos l t].1 = t then some l[pos l t].2 else none) else none
  | [], _ => by simp [look]
  | a :: r, t => by
    by_cases c : a.1 < t
    · have e : pos (a :: r) t = pos r t + 1 := by simp [pos, c]
      simp only [look, c, if_true, look_at r t, e, List.length_cons, Nat.add_lt_add_iff_right, List.getElem_cons_succ]
    · have e : pos (a :: r) t = 0 := by simp [pos, c]
      simp [look, c, e]
theorem ins_eq : ∀ (l : List Rec) (x : Rec), ins l x = (l.take (pos l x.1) ++ [x]) ++ l.drop (pos l x.1 + (if fnd l x.1 then 1 else 0))
  | [], x => by simp [ins, pos, fnd]
  | a :: r, x => by
    by_cases c : a.1 < x.1
    · simp only [ins, pos, fnd, c, if_true, ins_eq r x, List.take_succ_cons, List.cons_append]
      rw [show pos r x.1 + 1 + (if fnd r x.1 = true then 1 else 0) = (pos r x.1 + (if fnd r x.1 = true then 1 else 0)) + 1 by omega, List.drop_succ_cons]
    · by_cases c2 : a.1 = x.1
      · simp [ins, pos, fnd, c2]
      · simp [ins, pos, fnd, c, c2]
theorem ins_len : ∀ (l : List Rec) (x : Rec), (ins l x).length = if fnd l x.1 then l.length else l.length + 1
  | [], x => by simp [ins, fnd]
  | a :: r, x => by
    by_cases c : a.1 < x.1
    · simp only [ins, fnd, c, if_true, List.length_cons, ins_len r x]; split <;> omega
    · by_cases c2 : a.1 = x.1
      · simp [ins, fnd, c2]
      · simp [ins, fnd, c, c2]
theorem ins_mem : ∀ (l : List Rec) (x y : Rec), y ∈ ins l x → y = x ∨ y ∈ l
  | [], x, y, h => by simp [ins] at h; exact .inl h
  | a :: r, x, y, h => by
    simp only [ins] at h
    split at h
    · rcases List.mem_cons.1 h with h | h
      · exact .inr (by simp [h])
      · rcases ins_mem r x y h with h | h
        · exact .inl h
        · exact .inr (List.mem_cons_of_mem _ h)
    · split at h
      · rcases List.mem_cons.1 h with h | h
        · exact .inl h
        · exact .inr (List.mem_cons_of_mem _ h)
      · rcases List.mem_cons.1 h with h | h
        · exact .inl h
        · exact .inr h
theorem ins_sorted : ∀ (l : List Rec) (x : Rec), Sorted l → Sorted (ins l x)
  | [], x, _ => by simp [ins, Sorted]
  | a :: r, x, h => by
    obtain ⟨h1, h2⟩ := List.pairwise_cons.1 h
    simp only [ins]
    split
    · rename_i c
      refine List.pairwise_cons.2 ⟨fun y hy => ?_, ins_sorted r x h2⟩
      rcases ins_mem r x y hy with rfl | hy
      · exact c
      · exact h1 y hy
    · split
      · rename_i c c2
        exact List.pairwise_cons.2 ⟨fun y hy => by have := h1 y hy; omega, h2⟩
      · rename_i c c2
        refine List.pairwise_cons.2 ⟨fun y hy => ?_, h⟩
        rcases List.mem_cons.1 hy with rfl | hy
        · omega
        · have := h1 y hy; omega
theorem fnd_ins_self : ∀ (l : List Rec) (x : Rec), fnd (ins l x) x.1 = true
  | [], x => by simp [ins, fnd]
  | a :: r, x => by
    simp only [ins]
    split
    · rename_i c; simp only [fnd, c, if_true]; exact fnd_ins_self r x
    · split
      · simp [fnd]
      · simp [fnd]
theorem fnd_ins : ∀ (l : List Rec) (x : Rec) (t : Int), t ≠ x.1 → fnd (ins l x) t = fnd l t
  | [], x, t, h => by simp [ins, fnd]; intro _; omega
  | a :: r, x, t, h => by
    simp only [ins]
    split
    · simp only [fnd, fnd_ins r x t h]
    · split
      · rename_i c c2
        simp only [fnd]
        rw [c2]
      · rename_i c c2
        simp only [fnd]
        by_cases q : x.1 < t
        · simp [q]
        · have h1 : ¬ a.1 < t := by omega
          have h2 : ¬ a.1 = t := by omega
          have h3 : ¬ x.1 = t := fun q => h q.symm
          simp [q, h1, h2, h3]
theorem look_ins_self : ∀ (l : List Rec) (x : Rec), look (ins l x) x.1 = some x.2
  | [], x => by simp [ins, look]
  | a :: r, x => by
    simp only [ins]
    split
    · rename_i c; simp only [look, c, if_true]; exact look_ins_self r x
    · split
      · simp [look]
      · simp [look]
theorem look_ins : ∀ (l : List Rec) (x : Rec) (t : Int), t ≠ x.1 → look (ins l x) t = look l t
  | [], x, t, h => by simp [ins, look]; intro _; omega
  | a :: r, x, t, h => by
    simp only [ins]
    split
    · simp only [look, look_ins r x t h]
    · split
      · rename_i c c2
        simp only [look]
        rw [c2]
        have : ¬ x.1 = t := fun q => h q.symm
        simp [this]
      · rename_i c c2
        simp only [look]
        by_cases q : x.1 < t
        · simp [q]
        · have h1 : ¬ a.1 < t := by omega
          have h2 : ¬ a.1 = t := by omega
          have h3 : ¬ x.1 = t := fun q => h q.symm
          simp [q, h1, h2, h3]
theorem ins_ins : ∀ (l : List Rec) (x : Rec), ins (ins l x) x = ins l x
  | [], x => by simp [ins]
  | a :: r, x => by
    by_cases c : a.1 < x.1
    · simp only [ins, c, if_true, ins_ins r x]
    · by_cases c2 : a.1 = x.1
      · simp [ins, c2]
      · simp [ins, c, c2]
theorem ins_comm : ∀ (l : List Rec) (x y : Rec), x.1 ≠ y.1 → ins (ins l x) y = ins (ins l y) x
  | [], x, y, h => by
    by_cases c : x.1 < y.1
    · have c2 : ¬ y.1 < x.1 := by omega
      simp [ins, c, c2, Ne.symm h]
    · have c2 : y.1 < x.1 := by omega
      simp [ins, c, c2, h]
  | a :: r, x, y, h => by
    have hne : ¬ y.1 = x.1 := fun q => h q.symm
    by_cases c1 : a.1 < x.1
    · by_cases c2 : a.1 < y.1
      · simp only [ins, c1, c2, if_true, ins_comm r x y h]
      · by_cases c3 : a.1 = y.1
        · have d1 : y.1 < x.1 := by omega
          simp [ins, c1, c3, d1]
        · have d1 : y.1 < x.1 := by omega
          simp [ins, c1, c2, c3, d1]
    · by_cases c3 : a.1 = x.1
      · by_cases c2 : x.1 < y.1
        · have d : a.1 < y.1 := by omega
          simp [ins, c3, c2]
        · have d : ¬ a.1 < y.1 := by omega
          have d2 : ¬ a.1 = y.1 := by omega
          have d3 : y.1 < x.1 := by omega
          simp [ins, c3, c2, h, d3]
      · by_cases c2 : a.1 < y.1
        · have d : x.1 < y.1 := by omega
          simp [ins, c1, c3, c2, d]
        · by_cases c4 : a.1 = y.1
          · have d : x.1 < y.1 := by omega
            have d2 : ¬ y.1 < x.1 := by omega
            simp [ins, c1, c3, c4, d, d2, hne]
          · by_cases c5 : x.1 < y.1
            · have d2 : ¬ y.1 < x.1 := by omega
              simp [ins, c1, c3, c2, c4, c5, d2, hne]
            · have d2 : y.1 < x.1 := by omega
              simp [ins, c1, c3, c2, c4, c5, d2, h]
theorem F42_eq (x : Rec) (t : Int) : F42 (x, t) = some (if x.1 < t then -1 else if t < x.1 then 1 else 0) := by
  unfold F42 F69 F86
  by_cases h : x.1 < t
  · simp [h]
  · by_cases h2 : t < x.1 <;> simp [h, h2]
theorem F43_eq {l : List Int} (h : l.length ≤ 1000000) : F43 l = some l := by
  unfold F43
  have k : (([] : List Int).length + l.length) * 1 ≤ LIM := by unfold LIM; simp; omega
  simp only [k, decide_true, cond_true, List.nil_append]
  cases l with
  | nil => simp [both_self]
  | cons a r => rfl
theorem sorted_of : ∀ (l : List Rec), (∀ j (h : j + 1 < l.length), l[j].1 < l[j + 1].1) → Sorted l
  | [], _ => List.Pairwise.nil
  | [a], _ => by simp [Sorted]
  | a :: b :: r, h => by
    have ih := sorted_of (b :: r) (fun j hj => h (j + 1) (by simpa using hj))
    refine List.pairwise_cons.2 ⟨fun y hy => ?_, ih⟩
    have h0 : a.1 < b.1 := h 0 (by simp)
    rcases List.mem_cons.1 hy with rfl | hy
    · exact h0
    · have := (List.pairwise_cons.1 ih).1 y hy
      omega
abbrev tR : Ty := .pair (.int .u64) (.slice 5 (.int .u8))
open Classical in
theorem F19_eq (l : List Rec) : F19 l = some (if okT l then 0 else 1) := by
  unfold F19
  by_cases h64 : 64 < l.length
  · have : (64 : Int) < (l.length : Int) := by omega
    have hn : ¬ okT l := fun h => by have := h.1; omega
    simp [this, hn]
  · have : ¬ (64 : Int) < (l.length : Int) := by omega
    simp only [this, decide_false, cond_false, both_self]
    refine lfp_rule (fun x => ∃ i : Nat, x.2 = (i : Int) ∧ i ≤ l.length ∧ (∀ j (h : j < l.length), j < i → l[j].2.length ≤ 4096) ∧ (∀ j (h : j + 1 < l.length), j + 1 < i → l[j].1 < l[j + 1].1)) (fun x => l.length - x.2.toNat)
      (fun _ => if okT l then 0 else 1) ?_ (0, 0) ⟨0, rfl, by omega, by intro j _ hj; omega, by intro j _ hj; omega⟩
    rintro ⟨q, i'⟩ ⟨i, hi', hi, hV, hS⟩ rec hrec
    simp only at hi'
    subst hi'
    simp only
    by_cases hlt : i < l.length
    · have k1 : ((i : Int) < (l.length : Int)) := by omega
      simp only [k1, decide_true, cond_true, inb_true (Int.natCast_nonneg i) k1, rd_nat (t := tR) hlt]
      have next : l[i].2.length ≤ 4096 → (∀ h : 0 < i, l[i - 1].1 < l[i].1) → rec (q, IntKind.wrap .i64 ((i : Int) + 1)) = some (if okT l then 0 else 1) := by
        intro h1 h2
        rw [wrap_i64 (n := (i : Int) + 1) (by omega) (by omega)]
        refine hrec _ ⟨i + 1, by simp, by omega, fun j hj hji => ?_, fun j hj hji => ?_⟩ (by simp only; omega)
        · by_cases hje : j = i
          · subst hje; exact h1
          · exact hV j hj (by omega)
        · by_cases hje : j + 1 = i
          · have := h2 (by omega)
            subst hje
            exact this
          · exact hS j hj (by omega)
      by_cases c1 : 4096 < l[i].2.length
      · have : (4096 : Int) < (l[i].2.length : Int) := by omega
        have hn : ¬ okT l := fun h => by have := h.2.1 _ (List.getElem_mem hlt); omega
        simp [this, hn]
      · have c1' : ¬ (4096 : Int) < (l[i].2.length : Int) := by omega
        simp only [c1', decide_false, beq_self_eq_true, cond_true]
        by_cases c2 : 0 < i
        · have c2' : (0 : Int) < (i : Int) := by omega
          have hw : IntKind.wrap .i64 ((i : Int) - 1) = ((i - 1 : Nat) : Int) := by rw [wrap_i64 (by omega) (by omega)]; omega
          have hi1 : i - 1 < l.length := by omega
          have k2 : inb ((i - 1 : Nat) : Int) l.length = true := inb_true (by omega) (by omega)
          simp only [c2', decide_true, beq_self_eq_true, cond_true, hw, k2, rd_nat (t := tR) hi1, F42_eq, Option.bind_some]
          by_cases c3 : l[i - 1].1 < l[i].1
          · simp only [c3, if_true, show decide ((0 : Int) ≤ -1) = false from rfl, cond_false]
            exact next (by omega) (fun _ => c3)
          · have hn : ¬ okT l := fun h => by
              have := List.pairwise_iff_getElem.1 h.2.2 (i - 1) i hi1 hlt (by omega)
              exact c3 this
            have : decide ((0 : Int) ≤ (if l[i].1 < l[i - 1].1 then 1 else 0)) = true := by split <;> rfl
            simp only [c3, if_false, this, cond_true, hn]
        · have c2' : ¬ (0 : Int) < (i : Int) := by omega
          simp only [c2', decide_false, show (false == true) = false from rfl, cond_false]
          exact next (by omega) (fun h => absurd h c2)
    · have k1 : ¬ ((i : Int) < (l.length : Int)) := by omega
      have hok : okT l := by
        refine ⟨by omega, fun r hr => ?_, sorted_of l fun j hj => hS j hj (by omega)⟩
        obtain ⟨j, hj, rfl⟩ := List.getElem_of_mem hr
        exact hV j hj (by omega)
      simp only [k1, decide_false, cond_false, hok, if_true]
theorem F41_eq {l : List Rec} (t : Int) (hs : Sorted l) (hl : l.length ≤ 1000000) : F41042 (l, t, ()) = some ((pos l t : Int), fnd l t) := by
  unfold F41042
  have hp := pos_le l t
  refine lfp_rule (fun x => ∃ i j : Nat, x.1 = (i : Int) ∧ x.2 = (j : Int) ∧ i ≤ pos l t ∧ pos l t ≤ j ∧ j ≤ l.length) (fun x => x.2.toNat - x.1.toNat) (fun _ => ((pos l t : Int), fnd l t)) ?_ (0, (l.length : Int)) ⟨0, l.length, rfl, rfl, by omega, hp, by omega⟩
  rintro ⟨i', j'⟩ ⟨i, j, hi', hj', h1, h2, h3⟩ rec hrec
  simp only at hi' hj'
  subst hi'; subst hj'
  simp only
  by_cases hlt : (i : Int) < (j : Int)
  · have hm : IntKind.wrap .i64 ((IntKind.wrap .u64 (IntKind.wrap .i64 ((i : Int) + (j : Int)))) / 2 ^ (min (1 : Int).toNat 64)) = (((i + j) / 2 : Nat) : Int) := by
      rw [wrap_i64 (n := (i : Int) + j) (by omega) (by omega), wrap_u64 (by omega) (by omega), show (2 : Int) ^ (min (1 : Int).toNat 64) = 2 from rfl, wrap_i64 (by omega) (by omega)]
      omega
    have hml : (i + j) / 2 < l.length := by omega
    have k1 : inb (((i + j) / 2 : Nat) : Int) l.length = true := inb_true (by omega) (by omega)
    simp only [hlt, decide_true, cond_true, hm, k1, rd_nat (t := tR) hml, F42_eq, Option.bind_some]
    by_cases c : l[(i + j) / 2].1 < t
    · simp only [c, if_true, show decide ((-1 : Int) < 0) = true from rfl, cond_true]
      rw [wrap_i64 (n := (((i + j) / 2 : Nat) : Int) + 1) (by omega) (by omega)]
      refine hrec _ ⟨(i + j) / 2 + 1, j, by simp, rfl, ?_, h2, h3⟩ (by simp only; omega)
      apply Classical.byContradiction
      intro hn
      have := pos_ge l t ((i + j) / 2) hml hs (by omega)
      omega
    · have : decide ((if t < l[(i + j) / 2].1 then (1 : Int) else 0) < 0) = false := by split <;> rfl
      simp only [c, if_false, this, cond_false]
      refine hrec _ ⟨i, (i + j) / 2, rfl, rfl, h1, ?_, by omega⟩ (by simp only; omega)
      apply Classical.byContradiction
      intro hn
      have := pos_lt l t ((i + j) / 2) hml (by omega)
      exact c this
  · have he : i = pos l t := by omega
    subst he
    simp only [hlt, decide_false, cond_false]
    by_cases c : pos l t < l.length
    · have c' : ((pos l t : Nat) : Int) < (l.length : Int) := by omega
      have k1 : inb ((pos l t : Nat) : Int) l.length = true := inb_true (by omega) c'
      simp only [c', decide_true, beq_self_eq_true, cond_true, k1, rd_nat (t := tR) c, F42_eq, Option.bind_some, fnd_at l t c, Option.some.injEq, Prod.mk.injEq, true_and]
      have := pos_ge l t (pos l t) c hs (Nat.le_refl _)
      by_cases c2 : l[pos l t].1 = t
      · simp [c2]
      · have c3 : ¬ l[pos l t].1 < t := by omega
        have c4 : t < l[pos l t].1 := by omega
        simp [c2, c3, c4]
    · have c' : ¬ ((pos l t : Nat) : Int) < (l.length : Int) := by omega
      have := fnd_end l t (by omega)
      simp [c', this]
open Classical in
noncomputable def findT (l : List Rec) (t : Int) : List Int × Int := if okT l then (match look l t with | some v => (v, 0) | none => ([], 5)) else ([], 1)
theorem F17_eq (l : List Rec) (t : Int) : F17 (l, t) = some (findT l t) := by
  unfold F17 findT
  simp only [F19_eq, Option.bind_some]
  by_cases h : okT l
  · have h1 := h.1
    simp only [h, if_true, decide_true, Bool.not_true, cond_false, F41_eq t h.2.2 (by omega), Option.bind_some]
    rw [look_at]
    by_cases c : pos l t < l.length
    · rw [fnd_at l t c]
      by_cases c2 : l[pos l t].1 = t
      · have k1 : inb ((pos l t : Nat) : Int) l.length = true := inb_true (by omega) (by omega)
        have hv := h.2.1 _ (List.getElem_mem c)
        simp only [c2, decide_true, Bool.not_true, cond_false, k1, cond_true, rd_nat (t := tR) c, F43_eq (l := l[pos l t].2) (by omega), Option.bind_some, c, dite_true, if_true]
      · simp [c, c2]
    · have := pos_le l t
      have := fnd_end l t (by omega)
      simp [c, this]
  · simp [h]
theorem clone_loop {l : List Rec} (hV : ∀ r ∈ l, r.2.length ≤ 1000000) (hl : l.length ≤ 1000000) :
    lfp (fun (rec3 : (Int × List (Int × List Int)) → Option ((List (Int × List Int)) × Int)) (x3 : Int × List (Int × List Int)) =>
      bif decide (x3.1 < (l.length : Int)) then (
      bif inb x3.1 x3.2.length then
      (F43 ((rd (.pair (.int .u64) (.slice 5 (.int .u8))) x3.2 x3.1).2)).bind fun r4 =>
      bif inb x3.1 x3.2.length then
      rec3 ((IntKind.wrap .i64 (x3.1 + 1)), (x3.2.set x3.1.toNat ((rd (.pair (.int .u64) (.slice 5 (.int .u8))) x3.2 x3.1).1, r4)))
      else none
      else none)
      else (
      some (x3.2, 0))) (0, l) = some (l, 0) := by
  refine lfp_rule (fun x => ∃ i : Nat, x.1 = (i : Int) ∧ i ≤ l.length ∧ x.2 = l) (fun x => l.length - x.1.toNat) (fun _ => (l, 0)) ?_ (0, l) ⟨0, rfl, by omega, rfl⟩
  rintro ⟨i', l'⟩ ⟨i, hi', hi, hl'⟩ rec hrec
  simp only at hi' hl'
  subst hi'
  rw [hl']
  simp only
  by_cases hlt : i < l.length
  · have k1 : ((i : Int) < (l.length : Int)) := by omega
    have hv := hV _ (List.getElem_mem hlt)
    simp only [k1, decide_true, cond_true, inb_true (Int.natCast_nonneg i) k1, rd_nat (t := tR) hlt, F43_eq hv, Option.bind_some]
    rw [wrap_i64 (n := (i : Int) + 1) (by omega) (by omega)]
    refine hrec _ ⟨i + 1, by simp, by omega, ?_⟩ (by simp only; omega)
    simp only [Int.toNat_natCast]
    exact List.set_getElem_self hlt
  · have k1 : ¬ ((i : Int) < (l.length : Int)) := by omega
    simp only [k1, decide_false, cond_false]
open Classical in
noncomputable def withT (l : List Rec) (x : Rec) : List Rec × Int :=
  if okT l ∧ x.2.length ≤ 4096 then (if fnd l x.1 = false ∧ l.length = 64 then ([], 7) else (ins l x, 0)) else ([], 1)
theorem F15_eq (l : List Rec) (x : Rec) : F15 (l, x) = some (withT l x) := by
  unfold F15 withT
  simp only [F19_eq, Option.bind_some, Prod.eta]
  by_cases h : okT l
  · have hlen := h.1
    by_cases hx : 4096 < x.2.length
    · have h1 : (4096 : Int) < (x.2.length : Int) := by omega
      have h2 : ¬ x.2.length ≤ 4096 := by omega
      simp [h, h1, h2]
    · have h1 : ¬ (4096 : Int) < (x.2.length : Int) := by omega
      have h2 : x.2.length ≤ 4096 := by omega
      simp only [h, if_true, decide_true, Bool.not_true, cond_false, h1, decide_false, F41_eq x.1 h.2.2 (by omega), Option.bind_some, h2, and_self]
      have hp := pos_le l x.1
      have hall : ∀ r ∈ ins l x, r.2.length ≤ 1000000 := fun r hr => by
        rcases ins_mem l x r hr with rfl | hr
        · omega
        · have := h.2.1 r hr; omega
      have hil : (ins l x).length ≤ 1000000 := by rw [ins_len]; split <;> omega
      have hcl := clone_loop hall hil
      have ie := ins_eq l x
      have k1 : inb ((pos l x.1 : Nat) : Int) (l.length + 1) = true := inb_true (by omega) (by omega)
      have k2 : ((l.take (pos l x.1)).length + 1) * 32 ≤ LIM := by rw [List.length_take]; unfold LIM; omega
      cases hf : fnd l x.1 with
      | true =>
        have hpl : pos l x.1 < l.length := by
          apply Classical.byContradiction; intro hn
          have := fnd_end l x.1 (by omega)
          rw [hf] at this; simp at this
        rw [hf] at ie
        simp only [if_true] at ie
        have hw : IntKind.wrap .i64 (((pos l x.1 : Nat) : Int) + 1) = ((pos l x.1 + 1 : Nat) : Int) := by rw [wrap_i64 (by omega) (by omega)]; simp
        have k3 : inb ((pos l x.1 + 1 : Nat) : Int) (l.length + 1) = true := inb_true (by omega) (by omega)
        have k4 : ((l.take (pos l x.1) ++ [x]).length + (l.drop (pos l x.1 + 1)).length) * 32 ≤ LIM := by
          simp only [List.length_append, List.length_take, List.length_drop, List.length_cons, List.length_nil]; unfold LIM; omega
        simp only [Bool.not_true, cond_false, k1, decide_true, Bool.and_self, cond_true, Int.toNat_natCast, k2, hw, k3, k4, ← ie, hcl]
        simp
      | false =>
        rw [hf] at ie
        simp only [Bool.false_eq_true, if_false, Nat.add_zero] at ie
        by_cases h64 : l.length = 64
        · have : (l.length : Int) = 64 := by omega
          simp [this, h64]
        · have : ¬ (l.length : Int) = 64 := by omega
          have k4 : ((l.take (pos l x.1) ++ [x]).length + (l.drop (pos l x.1)).length) * 32 ≤ LIM := by
            simp only [List.length_append, List.length_take, List.length_drop, List.length_cons, List.length_nil]; unfold LIM; omega
          simp only [Bool.not_false, cond_true, this, decide_false, cond_false, k1, decide_true, Bool.and_self, Int.toNat_natCast, k2, k4, ← ie, hcl, h64, and_false, if_false]
  · simp [h]
theorem F45_eq (a b : Rec) : F45 (a, b) = some (decide (a = b)) := by
  obtain ⟨x, p⟩ := a
  obtain ⟨y, q⟩ := b
  unfold F45 F64
  by_cases h : x = y
  · subst h
    by_cases h2 : p = q <;> simp [h2]
  · simp [h]
theorem F16_eq {a b : List Rec} (hl : a.length ≤ 4611686018427387904) : F16 (a, b) = some (decide (a = b)) := by
  have : F44045 (a, b, ()) = some (decide (a = b)) := by
    unfold F44045
    simp only
    by_cases hn : a.length = b.length
    · have e0 : (a.length : Int) = (b.length : Int) := by omega
      simp only [e0, decide_true, Bool.not_true, cond_false]
      rw [← e0]
      exact same_loop (t := tR) (a := a) (b := b) hl hn (G := fun x y K => (F45 (x, y)).bind K) (fun i h1 h2 K => by simp only [F45_eq, Option.bind_some])
    · have e0 : ¬ (a.length : Int) = (b.length : Int) := by omega
      simp only [e0, decide_false, Bool.not_false, cond_true, Option.some.injEq]
      symm; rw [decide_eq_false_iff_not]
      intro hab; subst hab; exact hn rfl
  unfold F16
  simp only [this, Option.bind_some]
theorem F18_eq (a b : List Int) : F18 (a, b) = some (decide (a = b)) := rfl
end Go.Proofs.Ytacebemdonoliaa.R4
