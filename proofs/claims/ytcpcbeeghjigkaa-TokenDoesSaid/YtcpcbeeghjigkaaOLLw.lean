/- Part of a proof: what the program's functions come to. -/
import Derived.Test.YtcpcbeeghjigkaaOKKw
set_option linter.unusedVariables false
set_option linter.unusedSimpArgs false
namespace Go.Proofs.Ytcpcbeeghjigkaa.R3
open Go Go.Fw Go.Proofs RB
set_option maxRecDepth 20000
abbrev Rec := Int × List Int
def pos : List Rec → Int → Nat
  | [], _ => 0
  | a :: r, t => if a.1 < t then pos r t + 1 else 0
def fnd : List Rec → Int → Bool
  | [], _ => false
  | a :: r, t => if a.1 < t then fnd r t else decide (a.1 = t)
def lookR : List Rec → Int → Option (List Int)
  | [], _ => none
  | a :: r, t => if a.1 < t then lookR r t else if a.1 = t then some a.2 else none
def Sorted (l : List Rec) : Prop := l.Pairwise (fun a b => a.1 < b.1)
def okT (l : List Rec) : Prop := l.length ≤ 64 ∧ (∀ r ∈ l, r.2.length ≤ 4096) ∧ Sorted l
theorem pos_le : ∀ (l : List Rec) (t : Int), pos l t ≤ l.length
  | [], _ => by simp [pos]
  | a :: r, t => by simp only [pos]; split; have := pos_le r t; simp; omega; simp
theorem pos_lt : ∀ (l : List Rec) (t : Int) (j : Nat) (h : j < l.length), j < pos l t → l[j].1 < t
  | [], _, _, h, _ => by simp at h
  | a :: r, t, j, h, hj => by
    simp only [pos] at hj
    split at hj
    · cases j with
      | zero => assumption
      | succ j => simp only [List.getElem_cons_succ]; exact pos_lt r t j (by simpa using h) (by omega)
    · omega
theorem pos_ge : ∀ (l : List Rec) (t : Int) (j : Nat) (h : j < l.length), Sorted l → pos l t ≤ j → t ≤ l[j].1
  | [], _, _, h, _, _ => by simp at h
  | a :: r, t, j, h, hs, hj => by
    obtain ⟨h1, h2⟩ := List.pairwise_cons.1 hs
    simp only [pos] at hj
    split at hj
    · cases j with
      | zero => omega
      | succ j => simp only [List.getElem_cons_succ]; exact pos_ge r t j (by simpa using h) h2 (by omega)
    · rename_i hn
      cases j with
      | zero => simp only [List.getElem_cons_zero]; omega
      | succ j =>
        simp only [List.getElem_cons_succ]
        have hj' : j < r.length := by simpa using h
        have := h1 r[j] (List.getElem_mem hj')
        omega
theorem fnd_at : ∀ (l : List Rec) (t : Int) (h : pos l t < l.length), fnd l t = decide (l[pos l t].1 = t)
  | [], _, h => by simp at h
  | a :: r, t, h => by
    by_cases c : a.1 < t
    · have e : pos (a :: r) t = pos r t + 1 := by simp [pos, c]
      have h' : pos r t < r.length := by rw [e] at h; simpa using h
      simp only [fnd, c, if_true, fnd_at r t h', e, List.getElem_cons_succ]
    · have e : pos (a :: r) t = 0 := by simp [pos, c]
      simp only [fnd, c, if_false, e, List.getElem_cons_zero]
theorem fnd_end : ∀ (l : List Rec) (t : Int), pos l t = l.length → fnd l t = false
  | [], _, _ => rfl
  | a :: r, t, h => by
    by_cases c : a.1 < t
    · simp only [pos, c, if_true, List.length_cons] at h
      simp only [fnd, c, if_true]; exact fnd_end r t (by omega)
    · simp [pos, c] at h
theorem lookR_at : ∀ (l : List Rec) (t : Int), lookR l t = if h : pos l t < l.length then (if l[pos l t].1 = t then some l[pos l t].2 else none) else none
  | [], _ => by simp [lookR]
  | a :: r, t => by
    by_cases c : a.1 < t
    · have e : pos (a :: r) t = pos r t + 1 := by simp [pos, c]
      simp only [lookR, c, if_true, lookR_at r t, e, List.length_cons, Nat.add_lt_add_iff_right, List.getElem_cons_succ]
    · have e : pos (a :: r) t = 0 := by simp [pos, c]
      simp [lookR, c, e]
theorem F99_eq (x : Rec) (t : Int) : F99 (x, t) = some (if x.1 < t then -1 else if t < x.1 then 1 else 0) := by
  unfold F99 F105 F107
  by_cases h : x.1 < t
  · simp [h]
  · by_cases h2 : t < x.1 <;> simp [h, h2]
theorem sorted_of : ∀ (l : List Rec), (∀ j (h : j + 1 < l.length), l[j].1 < l[j + 1].1) → Sorted l
  | [], _ => List.Pairwise.nil
  | [a], _ => by simp [Sorted]
  | a :: b :: r, h => by
    have ih := sorted_of (b :: r) (fun j hj => h (j + 1) (by simpa using hj))
    refine List.pairwise_cons.2 ⟨fun y hy => ?_, ih⟩
    have h0 : a.1 < b.1 := h 0 (by simp)
    rcases List.mem_cons.1 hy with rfl | hy
    · exact h0
    · have := (List.pairwise_cons.1 ih).1 y hy
      omega
abbrev tR : Ty := .pair (.int .u64) (.slice 5 (.int .u8))
open Classical in
theorem F95_eq (l : List Rec) : F95 l = some (if okT l then 0 else 1) := by
  unfold F95
  by_cases h64 : 64 < l.length
  · have : (64 : Int) < (l.length : Int) := by omega
    have hn : ¬ okT l := fun h => by have := h.1; omega
    simp [this, hn]
  · have : ¬ (64 : Int) < (l.length : Int) := by omega
    simp only [this, decide_false, cond_false, both_self]
    refine lfp_rule (fun x => ∃ i : Nat, x.2 = (i : Int) ∧ i ≤ l.length ∧ (∀ j (h : j < l.length), j < i → l[j].2.length ≤ 4096) ∧ (∀ j (h : j + 1 < l.length), j + 1 < i → l[j].1 < l[j + 1].1)) (fun x => l.length - x.2.toNat)
      (fun _ => if okT l then 0 else 1) ?_ (0, 0) ⟨0, rfl, by omega, by intro j _ hj; omega, by intro j _ hj; omega⟩
    rintro ⟨q, i'⟩ ⟨i, hi', hi, hV, hS⟩ rec hrec
    simp only at hi'
    subst hi'
    simp only
    by_cases hlt : i < l.length
    · have k1 : ((i : Int) < (l.length : Int)) := by omega
      simp only [k1, decide_true, cond_true, inb_true (Int.natCast_nonneg i) k1, rd_nat (t := tR) hlt]
      have next : l[i].2.length ≤ 4096 → (∀ h : 0 < i, l[i - 1].1 < l[i].1) → rec (q, IntKind.wrap .i64 ((i : Int) + 1)) = some (if okT l then 0 else 1) := by
        intro h1 h2
        rw [wrap_i64 (n := (i : Int) + 1) (by omega) (by omega)]
        refine hrec _ ⟨i + 1, by simp, by omega, fun j hj hji => ?_, fun j hj hji => ?_⟩ (by simp only; omega)
        · by_cases hje : j = i
          · subst hje; exact h1
          · exact hV j hj (by omega)
        · by_cases hje : j + 1 = i
          · have := h2 (by omega)
            subst hje
            exact this
          · exact hS j hj (by omega)
      by_cases c1 : 4096 < l[i].2.length
      · have : (4096 : Int) < (l[i].2.length : Int) := by omega
        have hn : ¬ okT l := fun h => by have := h.2.1 _ (List.getElem_mem hlt); omega
        simp [this, hn]
      · have c1' : ¬ (4096 : Int) < (l[i].2.length : Int) := by omega
        simp only [c1', decide_false, beq_self_eq_true, cond_true]
        by_cases c2 : 0 < i
        · have c2' : (0 : Int) < (i : Int) := by omega
          have hw : IntKind.wrap .i64 ((i : Int) - 1) = ((i - 1 : Nat) : Int) := by rw [wrap_i64 (by omega) (by omega)]; omega
          have hi1 : i - 1 < l.length := by omega
          have k2 : inb ((i - 1 : Nat) : Int) l.length = true := inb_true (by omega) (by omega)
          simp only [c2', decide_true, beq_self_eq_true, cond_true, hw, k2, rd_nat (t := tR) hi1, F99_eq, Option.bind_some]
          by_cases c3 : l[i - 1].1 < l[i].1
          · simp only [c3, if_true, show decide ((0 : Int) ≤ -1) = false from rfl, cond_false]
            exact next (by omega) (fun _ => c3)
          · have hn : ¬ okT l := fun h => by
              have := List.pairwise_iff_getElem.1 h.2.2 (i - 1) i hi1 hlt (by omega)
              exact c3 this
            have : decide ((0 : Int) ≤ (if l[i].1 < l[i - 1].1 then 1 else 0)) = true := by split <;> rfl
            simp only [c3, if_false, this, cond_true, hn]
        · have c2' : ¬ (0 : Int) < (i : Int) := by omega
          simp only [c2', decide_false, show (false == true) = false from rfl, cond_false]
          exact next (by omega) (fun h => absurd h c2)
    · have k1 : ¬ ((i : Int) < (l.length : Int)) := by omega
      have hok : okT l := by
        refine ⟨by omega, fun r hr => ?_, sorted_of l fun j hj => hS j hj (by omega)⟩
        obtain ⟨j, hj, rfl⟩ := List.getElem_of_mem hr
        exact hV j hj (by omega)
      simp only [k1, decide_false, cond_false, hok, if_true]
theorem F100_eq {l : List Rec} (t : Int) (hs : Sorted l) (hl : l.length ≤ 1000000) : F100099 (l, t, ()) = some ((pos l t : Int), fnd l t) := by
  unfold F100099
  have hp := pos_le l t
  refine lfp_rule (fun x => ∃ i j : Nat, x.1 = (i : Int) ∧ x.2 = (j : Int) ∧ i ≤ pos l t ∧ pos l t ≤ j ∧ j ≤ l.length) (fun x => x.2.toNat - x.1.toNat) (fun _ => ((pos l t : Int), fnd l t)) ?_ (0, (l.length : Int)) ⟨0, l.length, rfl, rfl, by omega, hp, by omega⟩
  rintro ⟨i', j'⟩ ⟨i, j, hi', hj', h1, h2, h3⟩ rec hrec
  simp only at hi' hj'
  subst hi'; subst hj'
  simp only
  by_cases hlt : (i : Int) < (j : Int)
  · have hm : IntKind.wrap .i64 ((IntKind.wrap .u64 (IntKind.wrap .i64 ((i : Int) + (j : Int)))) / 2 ^ (min (1 : Int).toNat 64)) = (((i + j) / 2 : Nat) : Int) := by
      rw [wrap_i64 (n := (i : Int) + j) (by omega) (by omega), wrap_u64 (by omega) (by omega), show (2 : Int) ^ (min (1 : Int).toNat 64) = 2 from rfl, wrap_i64 (by omega) (by omega)]
      omega
    have hml : (i + j) / 2 < l.length := by omega
    have k1 : inb (((i + j) / 2 : Nat) : Int) l.length = true := inb_true (by omega) (by omega)
    simp only [hlt, decide_true, cond_true, hm, k1, rd_nat (t := tR) hml, F99_eq, Option.bind_some]
    by_cases c : l[(i + j) / 2].1 < t
    · simp only [c, if_true, show decide ((-1 : Int) < 0) = true from rfl, cond_true]
      rw [wrap_i64 (n := (((i + j) / 2 : Nat) : Int) + 1) (by omega) (by omega)]
      refine hrec _ ⟨(i + j) / 2 + 1, j, by simp, rfl, ?_, h2, h3⟩ (by simp only; omega)
      apply Classical.byContradiction
      intro hn
      have := pos_ge l t ((i + j) / 2) hml hs (by omega)
      omega
    · have : decide ((if t < l[(i + j) / 2].1 then (1 : Int) else 0) < 0) = false := by split <;> rfl
      simp only [c, if_false, this, cond_false]
      refine hrec _ ⟨i, (i + j) / 2, rfl, rfl, h1, ?_, by omega⟩ (by simp only; omega)
      apply Classical.byContradiction
      intro hn
      have := pos_lt l t ((i + j) / 2) hml (by omega)
      exact c this
  · have he : i = pos l t := by omega
    subst he
    simp only [hlt, decide_false, cond_false]
    by_cases c : pos l t < l.length
    · have c' : ((pos l t : Nat) : Int) < (l.length : Int) := by omega
      have k1 : inb ((pos l t : Nat) : Int) l.length = true := inb_true (by omega) c'
      simp only [c', decide_true, beq_self_eq_true, cond_true, k1, rd_nat (t := tR) c, F99_eq, Option.bind_some, fnd_at l t c, Option.some.injEq, Prod.mk.injEq, true_and]
      have := pos_ge l t (pos l t) c hs (Nat.le_refl _)
      by_cases c2 : l[pos l t].1 = t
      · simp [c2]
      · have c3 : ¬ l[pos l t].1 < t := by omega
        have c4 : t < l[pos l t].1 := by omega
        simp [c2, c3, c4]
    · have c' : ¬ ((pos l t : Nat) : Int) < (l.length : Int) := by omega
      have := fnd_end l t (by omega)
      simp [c', this]
open Classical in
noncomputable def findT (l : List Rec) (t : Int) : List Int × Int := if okT l then (match lookR l t with | some v => (v, 0) | none => ([], 5)) else ([], 1)
theorem F76_eq (l : List Rec) (t : Int) : F76 (l, t) = some (findT l t) := by
  unfold F76 findT
  simp only [F95_eq, Option.bind_some]
  by_cases h : okT l
  · have h1 := h.1
    simp only [h, if_true, decide_true, Bool.not_true, cond_false, F100_eq t h.2.2 (by omega), Option.bind_some]
    rw [lookR_at]
    by_cases c : pos l t < l.length
    · rw [fnd_at l t c]
      by_cases c2 : l[pos l t].1 = t
      · have k1 : inb ((pos l t : Nat) : Int) l.length = true := inb_true (by omega) (by omega)
        have hv := h.2.1 _ (List.getElem_mem c)
        simp only [c2, decide_true, Bool.not_true, cond_false, k1, cond_true, rd_nat (t := tR) c, F60_eq (l := l[pos l t].2) (by omega), Option.bind_some, c, dite_true, if_true]
      · simp [c, c2]
    · have := pos_le l t
      have := fnd_end l t (by omega)
      simp [c, this]
  · simp [h]
def Bs (l : List Int) : Prop := ∀ n ∈ l, Byte n
def OkV (r : Rec) : Prop := (0 ≤ r.1 ∧ r.1 < 18446744073709551616) ∧ Bs r.2
def encR (r : Rec) : List Int := enc1 r.1 ++ (enc1 (r.2.length : Int) ++ r.2)
theorem encR_len (r : Rec) (h : r.2.length ≤ 4096) : (encR r).length ≤ 4114 := by
  have h1 := enc1_len r.1
  have h2 := enc1_len (r.2.length : Int)
  simp only [encR, List.length_append]; omega
theorem encs_len : ∀ (l : List Rec), (∀ r ∈ l, r.2.length ≤ 4096) → (l.flatMap encR).length ≤ 4114 * l.length
  | [], _ => by simp
  | a :: r, h => by
    have h1 := encR_len a (h a (by simp))
    have := encs_len r (fun x hx => h x (by simp [hx]))
    simp only [List.flatMap_cons, List.length_append, List.length_cons]; omega
theorem F62_two {t n : Int} (h0 : 0 ≤ t) (h1 : 0 ≤ n) : F62 [t, n] = some (enc1 t ++ enc1 n) := by
  rw [F62_eq (by intro x hx; simp only [List.mem_cons, List.not_mem_nil, or_false] at hx; rcases hx with rfl | rfl <;> assumption) (by simp)]
  simp
open Classical in
noncomputable def putT (l : List Rec) : List Int × Int := if okT l then (if 65535 < (l.flatMap encR).length then ([], 4) else (l.flatMap encR, 0)) else ([], 1)
theorem F73_eq {l : List Rec} (hv : ∀ r ∈ l, OkV r) : F73 l = some (putT l) := by
  unfold F73 putT
  simp only [both_self, F95_eq, Option.bind_some]
  by_cases ho : okT l
  · have h64 := ho.1
    simp only [ho, if_true, decide_true, Bool.not_true, cond_false]
    refine lfp_rule (fun x => ∃ i : Nat, x.2 = (i : Int) ∧ i ≤ l.length ∧ x.1 = (l.take i).flatMap encR) (fun x => l.length - x.2.toNat)
      (fun _ => if 65535 < (l.flatMap encR).length then ([], 4) else (l.flatMap encR, 0)) ?_ (([] : List Int), 0) ⟨0, rfl, by omega, by simp⟩
    rintro ⟨acc, i'⟩ ⟨i, hi', hi, hacc⟩ rec hrec
    simp only at hi' hacc
    subst hi'
    simp only
    by_cases hlt : i < l.length
    · have k1 : ((i : Int) < (l.length : Int)) := by omega
      have hr := hv _ (List.getElem_mem hlt)
      have hV := ho.2.1 _ (List.getElem_mem hlt)
      have hal := encs_len (l.take i) (fun r hr => ho.2.1 r (List.mem_of_mem_take hr))
      rw [List.length_take] at hal
      have e1 := enc1_len l[i].1
      have e2 := enc1_len (l[i].2.length : Int)
      have k3 : (acc.length + (enc1 l[i].1 ++ enc1 (l[i].2.length : Int)).length) * 1 ≤ LIM := by
        rw [hacc, List.length_append]; unfold LIM; omega
      have k4 : ((acc ++ (enc1 l[i].1 ++ enc1 (l[i].2.length : Int))).length + l[i].2.length) * 1 ≤ LIM := by
        rw [hacc, List.length_append, List.length_append]; unfold LIM; omega
      have hw : IntKind.wrap .u64 (l[i].2.length : Int) = (l[i].2.length : Int) := RB.wrap_u64 (by omega) (by omega)
      simp only [k1, decide_true, cond_true, inb_true (Int.natCast_nonneg i) k1, rd_nat (t := tR) hlt, hw, F62_two hr.1.1 (Int.natCast_nonneg l[i].2.length), Option.bind_some, k3, k4]
      rw [RB.wrap_i64 (n := (i : Int) + 1) (by omega) (by omega)]
      refine hrec _ ⟨i + 1, by simp, by omega, ?_⟩ (by simp only; omega)
      rw [List.take_succ_eq_append_getElem hlt, List.flatMap_append, hacc]
      simp [encR]
    · have k1 : ¬ ((i : Int) < (l.length : Int)) := by omega
      have : i = l.length := by omega
      subst this
      rw [List.take_length] at hacc
      subst hacc
      simp only [k1, decide_false, cond_false]
      by_cases h : 65535 < (l.flatMap encR).length
      · have h' : (65535 : Int) < ((l.flatMap encR).length : Int) := by omega
        simp only [h, h', decide_true, cond_true, if_true]
      · have h' : ¬ (65535 : Int) < ((l.flatMap encR).length : Int) := by omega
        simp only [h, h', decide_false, cond_false, if_false]
  · simp [ho]
def lastT (acc : List Rec) : Int := match acc.getLast? with | some r => r.1 | none => -1
def goT (acc : List Rec) (b : List Int) : List Rec × Int :=
  if b = [] then (acc, 0) else if acc.length = 64 then ([], 4) else
  if (get1 b).2.2 ≠ 0 then ([], (get1 b).2.2) else
  if ¬ lastT acc < (get1 b).1 then ([], 2) else
  if (get1 (b.drop (get1 b).2.1.toNat)).2.2 ≠ 0 then ([], (get1 (b.drop (get1 b).2.1.toNat)).2.2) else
  if 4096 < (get1 (b.drop (get1 b).2.1.toNat)).1 then ([], 4) else
  if (((b.drop (get1 b).2.1.toNat).drop (get1 (b.drop (get1 b).2.1.toNat)).2.1.toNat).length : Int) < (get1 (b.drop (get1 b).2.1.toNat)).1 then ([], 3) else
  if h : (((b.drop (get1 b).2.1.toNat).drop (get1 (b.drop (get1 b).2.1.toNat)).2.1.toNat).drop (get1 (b.drop (get1 b).2.1.toNat)).1.toNat).length < b.length then
    goT (acc ++ [((get1 b).1, ((b.drop (get1 b).2.1.toNat).drop (get1 (b.drop (get1 b).2.1.toNat)).2.1.toNat).take (get1 (b.drop (get1 b).2.1.toNat)).1.toNat)])
      (((b.drop (get1 b).2.1.toNat).drop (get1 (b.drop (get1 b).2.1.toNat)).2.1.toNat).drop (get1 (b.drop (get1 b).2.1.toNat)).1.toNat)
  else ([], 0)
  termination_by b.length
  decreasing_by exact h
theorem get1_cases {b : List Int} (h : Bs b) : ((get1 b).2.2 = 0 ∧ (0 ≤ (get1 b).1 ∧ (get1 b).1 < 18446744073709551616) ∧ inb (get1 b).2.1 (b.length + 1) = true ∧ enc1 (get1 b).1 ++ b.drop (get1 b).2.1.toNat = b ∧ (b.drop (get1 b).2.1.toNat).length < b.length) ∨
    ((get1 b).2.2 ≠ 0 ∧ (get1 b).1 = 0 ∧ (get1 b).2.1 = 0) := by
  rcases get1_ok h (y := (get1 b).1) (m := (get1 b).2.1) (e := (get1 b).2.2) rfl with ⟨h1, h2, h3, h4, h5, h6⟩ | ⟨h1, h2, h3⟩
  · left
    refine ⟨h1, ⟨h2, h3⟩, RB.inb_true (by omega) (by omega), by rw [h6]; exact List.take_append_drop _ _, ?_⟩
    rw [List.length_drop]; omega
  · right; exact ⟨h1, h2, h3⟩
theorem bs_drop {b : List Int} (h : Bs b) (k : Nat) : Bs (b.drop k) := fun n hn => h n (List.mem_of_mem_drop hn)
end Go.Proofs.Ytcpcbeeghjigkaa.R3
namespace Go.Proofs.Ytcpcbeeghjigkaa.R3
open Go Go.Fw Go.Proofs RB
set_option maxRecDepth 20000
theorem lastT_get {acc : List Rec} (h : 0 < acc.length) : lastT acc = (acc[acc.length - 1]'(by omega)).1 := by
  unfold lastT
  rw [List.getLast?_eq_getElem?, List.getElem?_eq_getElem (by omega)]
noncomputable def getT (b : List Int) : List Rec × Int := if 65535 < b.length then ([], 4) else goT [] b
theorem F75_eq {b : List Int} (hb : Bs b) : F75 b = some (getT b) := by
  unfold F75 getT
  by_cases hl : 65535 < b.length
  · have hl' : (65535 : Int) < (b.length : Int) := by omega
    simp only [hl, hl', decide_true, cond_true, if_true]
    refine lfp_intro 1 fun m hm => ?_
    obtain ⟨k, rfl⟩ := Nat.exists_eq_add_of_le hm
    rw [Nat.add_comm]
    simp only [iter, show decide ((4 : Int) = 0) = false from rfl, cond_false, Bool.not_false, cond_true]
  · have hl' : ¬ (65535 : Int) < (b.length : Int) := by omega
    simp only [hl, hl', decide_false, cond_false, if_false]
    refine lfp_rule (fun x => Bs x.2.1 ∧ x.1.length ≤ 64 ∧ x.2.1.length ≤ 65535) (fun x => 2 * x.2.1.length + (if x.2.2 = 0 then 1 else 0))
      (fun x => if x.2.2 ≠ 0 then ([], x.2.2) else goT x.1 x.2.1) ?_ ([], (b, 0)) ⟨hb, by simp, by simp only; omega⟩
    rintro ⟨acc, b, e⟩ ⟨hb, ha, hl⟩ rec hrec
    simp only at hb ha hl hrec ⊢
    by_cases he : e = 0
    · subst he
      by_cases hbn : b = []
      · subst hbn
        simp [goT]
      · have hpos : 0 < b.length := List.length_pos_iff.2 hbn
        have hpos' : (0 : Int) < (b.length : Int) := by omega
        have hwb : ¬ IntKind.wrap .u64 (b.length : Int) < 0 := by rw [RB.wrap_u64 (by omega) (by omega)]; omega
        have stop : ∀ (b' : List Int) (e' : Int), e' ≠ 0 → b'.length ≤ b.length → Bs b' → rec (acc, (b', e')) = some ([], e') := by
          intro b' e' h1 h2 h3
          have := hrec (acc, (b', e')) ⟨h3, ha, by simp only; omega⟩ (by simp only [h1, if_false, if_true]; omega)
          rw [this]; simp only [ne_eq, h1, not_false_eq_true, if_true]
        simp only [ne_eq, not_true_eq_false, if_false, decide_true, cond_true, hpos']
        rw [goT, if_neg hbn]
        have hcf : ∀ q : Bool, (bif q then false else false) = false := fun q => by cases q <;> rfl
        have hin00 : inb 0 (b.length + 1) = true := RB.inb_true (by omega) (by omega)
        have hidx : 0 < acc.length → (if IntKind.wrap .i64 ((acc.length : Int) - 1) < 0 then 0 else IntKind.wrap .i64 ((acc.length : Int) - 1)) = ((acc.length - 1 : Nat) : Int) := by
          intro h; rw [RB.wrap_i64 (by omega) (by omega), if_neg (by omega)]; omega
        have hinl : 0 < acc.length → inb ((acc.length - 1 : Nat) : Int) acc.length = true := fun h => RB.inb_true (by omega) (by omega)
        have hwbd : decide (IntKind.wrap .u64 (b.length : Int) < 0) = false := decide_eq_false hwb
        by_cases ha0 : 0 < acc.length
        · have ha0d : decide ((0 : Int) < (acc.length : Int)) = true := decide_eq_true (by omega)
          have hla : acc.length - 1 < acc.length := by omega
          by_cases h64 : acc.length = 64
          · have d64 : decide ((acc.length : Int) = 64) = true := decide_eq_true (by omega)
            rw [if_pos h64]
            simp only [d64, cond_true, ha0d, beq_self_eq_true, hidx ha0, hinl ha0, rd_nat (t := tR) hla, Prod.eta, F99_eq, Option.bind_some, hcf, cond_false]
            exact stop b 4 (by decide) (Nat.le_refl _) hb
          · have d64 : decide ((acc.length : Int) = 64) = false := decide_eq_false (by omega)
            rw [if_neg h64]
            simp only [d64, cond_false, Bool.not_true, F101_eq hb (by omega), Option.bind_some]
            rcases get1_cases hb with ⟨g1, g2, g3, g4, g5⟩ | ⟨g1, g2, g3⟩
            · have gd : decide ((get1 b).2.2 = 0) = true := decide_eq_true g1
              rw [if_neg (show ¬ ((get1 b).2.2 ≠ 0) from fun h => h g1)]
              simp only [g3, cond_true, ha0d, beq_self_eq_true, hidx ha0, hinl ha0, rd_nat (t := tR) hla, F99_eq, Option.bind_some, gd, lastT_get ha0, Bool.not_true, cond_false]
              by_cases hlt : (acc[acc.length - 1]).1 < (get1 b).1
              · simp only [hlt, if_true, show decide ((0 : Int) ≤ -1) = false from rfl, cond_false, not_true_eq_false, if_false]
                have hb1 := bs_drop hb (get1 b).2.1.toNat
                have hb1l : (b.drop (get1 b).2.1.toNat).length ≤ 65535 := by omega
                generalize hB1 : b.drop (get1 b).2.1.toNat = b1 at *
                rcases get1_cases hb1 with ⟨p1, p2, p3, p4, p5⟩ | ⟨p1, p2, p3⟩
                · have pd : decide ((get1 b1).2.2 = 0) = true := decide_eq_true p1
                  rw [if_neg (show ¬ ((get1 b1).2.2 ≠ 0) from fun h => h p1)]
                  simp only [F101_eq hb1 (by omega), Option.bind_some, p3, cond_true, pd, hcf, cond_false]
                  have hb2 := bs_drop hb1 (get1 b1).2.1.toNat
                  generalize hB2 : b1.drop (get1 b1).2.1.toNat = b2 at *
                  have hw2 : IntKind.wrap .u64 (b2.length : Int) = (b2.length : Int) := RB.wrap_u64 (by omega) (by omega)
                  rw [hw2]
                  by_cases c1 : 4096 < (get1 b1).1
                  · simp only [c1, decide_true, cond_true, if_true]
                    exact stop b2 4 (by decide) (by omega) hb2
                  · by_cases c2 : (b2.length : Int) < (get1 b1).1
                    · simp only [c1, c2, decide_true, decide_false, cond_true, cond_false, if_true, if_false]
                      exact stop b2 3 (by decide) (by omega) hb2
                    · have hin : inb (get1 b1).1 (b2.length + 1) = true := RB.inb_true p2.1 (by omega)
                      have htl : (b2.take (get1 b1).1.toNat).length ≤ 1000000 := by rw [List.length_take]; omega
                      have hlim : (acc.length + 1) * 32 ≤ LIM := by unfold LIM; omega
                      have hsh : (b2.drop (get1 b1).1.toNat).length < b.length := by rw [List.length_drop]; omega
                      have hsh2 : (b2.drop (get1 b1).1.toNat).length ≤ 65535 := by omega
                      simp only [c1, c2, decide_false, cond_false, if_false, hin, cond_true, F60_eq htl, Option.bind_some, hlim, decide_true, hsh, dite_true, p1]
                      rw [hrec (acc ++ [((get1 b).1, b2.take (get1 b1).1.toNat)], (b2.drop (get1 b1).1.toNat, 0)) ⟨bs_drop hb2 _, by simp only [List.length_append, List.length_singleton]; omega, hsh2⟩ (by simp only [if_true]; omega)]
                      simp only [ne_eq, not_true_eq_false, if_false]
                · have pd : decide ((get1 b1).2.2 = 0) = false := decide_eq_false p1
                  rw [if_pos p1]
                  have hin0 : inb 0 (b1.length + 1) = true := RB.inb_true (by omega) (by omega)
                  simp only [F101_eq hb1 (by omega), Option.bind_some, p3, hin0, cond_true, pd, hcf, cond_false, Int.toNat_zero, List.drop_zero]
                  exact stop b1 _ p1 (by omega) hb1
              · have hge : decide ((0 : Int) ≤ (if (get1 b).1 < (acc[acc.length - 1]).1 then 1 else 0)) = true := by split <;> rfl
                simp only [hlt, if_false, hge, cond_true, hcf, cond_false, not_false_eq_true, if_true]
                exact stop _ 2 (by decide) (by omega) (bs_drop hb _)
            · have gd : decide ((get1 b).2.2 = 0) = false := decide_eq_false g1
              rw [if_pos g1]
              simp only [g3, hin00, cond_true, ha0d, beq_self_eq_true, hidx ha0, hinl ha0, rd_nat (t := tR) hla, F99_eq, Option.bind_some, gd, hcf, cond_false, Bool.not_false, Int.toNat_zero, List.drop_zero]
              exact stop b _ g1 (Nat.le_refl _) hb
        · have ha0d : decide ((0 : Int) < (acc.length : Int)) = false := decide_eq_false (by omega)
          have hacc : acc = [] := List.length_eq_zero_iff.1 (by omega)
          subst hacc
          rw [if_neg (show ¬ ([] : List Rec).length = 64 by simp)]
          have d64 : decide (((([] : List Rec).length : Nat) : Int) = 64) = false := rfl
          have ha0d2 : decide ((0 : Int) < ((([] : List Rec).length : Nat) : Int)) = false := rfl
          simp only [d64, cond_false, Bool.not_true, F101_eq hb (by omega), Option.bind_some]
          rcases get1_cases hb with ⟨g1, g2, g3, g4, g5⟩ | ⟨g1, g2, g3⟩
          · have gd : decide ((get1 b).2.2 = 0) = true := decide_eq_true g1
            rw [if_neg (show ¬ ((get1 b).2.2 ≠ 0) from fun h => h g1), if_neg (show ¬ ¬ lastT [] < (get1 b).1 from fun h => h (by show (-1 : Int) < _; omega))]
            simp only [g3, cond_true, ha0d2, show ((false == true) = false) from rfl, gd, Bool.not_true, cond_false]
            skip
            have hb1 := bs_drop hb (get1 b).2.1.toNat
            have hb1l : (b.drop (get1 b).2.1.toNat).length ≤ 65535 := by omega
            generalize hB1 : b.drop (get1 b).2.1.toNat = b1 at *
            rcases get1_cases hb1 with ⟨p1, p2, p3, p4, p5⟩ | ⟨p1, p2, p3⟩
            · have pd : decide ((get1 b1).2.2 = 0) = true := decide_eq_true p1
              rw [if_neg (show ¬ ((get1 b1).2.2 ≠ 0) from fun h => h p1)]
              simp only [F101_eq hb1 (by omega), Option.bind_some, p3, cond_true, pd, hcf, cond_false]
              have hb2 := bs_drop hb1 (get1 b1).2.1.toNat
              generalize hB2 : b1.drop (get1 b1).2.1.toNat = b2 at *
              have hw2 : IntKind.wrap .u64 (b2.length : Int) = (b2.length : Int) := RB.wrap_u64 (by omega) (by omega)
              rw [hw2]
              by_cases c1 : 4096 < (get1 b1).1
              · simp only [c1, decide_true, cond_true, if_true]
                exact stop b2 4 (by decide) (by omega) hb2
              · by_cases c2 : (b2.length : Int) < (get1 b1).1
                · simp only [c1, c2, decide_true, decide_false, cond_true, cond_false, if_true, if_false]
                  exact stop b2 3 (by decide) (by omega) hb2
                · have hin : inb (get1 b1).1 (b2.length + 1) = true := RB.inb_true p2.1 (by omega)
                  have htl : (b2.take (get1 b1).1.toNat).length ≤ 1000000 := by rw [List.length_take]; omega
                  have hlim : (([] : List Rec).length + 1) * 32 ≤ LIM := by unfold LIM; omega
                  have hsh : (b2.drop (get1 b1).1.toNat).length < b.length := by rw [List.length_drop]; omega
                  have hsh2 : (b2.drop (get1 b1).1.toNat).length ≤ 65535 := by omega
                  simp only [c1, c2, decide_false, cond_false, if_false, hin, cond_true, F60_eq htl, Option.bind_some, hlim, decide_true, hsh, dite_true, p1]
                  rw [hrec (([] : List Rec) ++ [((get1 b).1, b2.take (get1 b1).1.toNat)], (b2.drop (get1 b1).1.toNat, 0)) ⟨bs_drop hb2 _, by simp only [List.length_append, List.length_singleton]; omega, hsh2⟩ (by simp only [if_true]; omega)]
                  simp only [ne_eq, not_true_eq_false, if_false]
            · have pd : decide ((get1 b1).2.2 = 0) = false := decide_eq_false p1
              rw [if_pos p1]
              have hin0 : inb 0 (b1.length + 1) = true := RB.inb_true (by omega) (by omega)
              simp only [F101_eq hb1 (by omega), Option.bind_some, p3, hin0, cond_true, pd, hcf, cond_false, Int.toNat_zero, List.drop_zero]
              exact stop b1 _ p1 (by omega) hb1
          · have gd : decide ((get1 b).2.2 = 0) = false := decide_eq_false g1
            rw [if_pos g1]
            simp only [g3, hin00, cond_true, ha0d2, show ((false == true) = false) from rfl, gd, hcf, cond_false, Bool.not_false, Int.toNat_zero, List.drop_zero]
            exact stop b _ g1 (Nat.le_refl _) hb
    · have he' : decide (e = 0) = false := decide_eq_false he
      simp only [he', cond_false, Bool.not_false, cond_true]
      rw [if_pos he]
theorem drop_enc (n : Int) (m : List Int) : (enc1 n ++ m).drop ((wid n : Int) + 1).toNat = m := by
  have : (enc1 n).length = ((wid n : Int) + 1).toNat := by simp only [enc1, List.length_cons, dig_len]; omega
  rw [← this, List.drop_left]
theorem enc1_ne (n : Int) (m : List Int) : enc1 n ++ m ≠ [] := by simp [enc1]
theorem lastT_lt {acc : List Rec} {r : Rec} {l : List Rec} (h : Sorted (acc ++ r :: l)) (h0 : 0 ≤ r.1) : lastT acc < r.1 := by
  by_cases ha : 0 < acc.length
  · rw [lastT_get ha]
    exact (List.pairwise_append.1 h).2.2 _ (List.getElem_mem _) r (by simp)
  · have : acc = [] := List.length_eq_zero_iff.1 (by omega)
    subst this
    show (-1 : Int) < _
    omega
theorem goT_nil (acc : List Rec) : goT acc [] = (acc, 0) := by rw [goT]; simp
theorem goT_enc : ∀ (l acc : List Rec), (∀ r ∈ l, OkV r ∧ r.2.length ≤ 4096) → Sorted (acc ++ l) → (acc ++ l).length ≤ 64 → goT acc (l.flatMap encR) = (acc ++ l, 0)
  | [], acc, _, _, _ => by simp [goT_nil]
  | r :: l, acc, hv, hs, hlen => by
    have hr := hv r (by simp)
    have ih := goT_enc l (acc ++ [r]) (fun x hx => hv x (by simp [hx])) (by simpa using hs) (by simpa using hlen)
    have hb : (r :: l).flatMap encR = enc1 r.1 ++ (enc1 (r.2.length : Int) ++ (r.2 ++ l.flatMap encR)) := by simp [encR]
    rw [hb]
    have h1 := get1_enc hr.1.1.1 hr.1.1.2 (enc1 (r.2.length : Int) ++ (r.2 ++ l.flatMap encR))
    have h2 := get1_enc (n := (r.2.length : Int)) (by omega) (by omega) (r.2 ++ l.flatMap encR)
    have hlen' : ¬ acc.length = 64 := by simp only [List.length_append, List.length_cons] at hlen; omega
    rw [goT, if_neg (enc1_ne _ _), if_neg hlen']
    simp only [h1, drop_enc, h2, ne_eq, not_true_eq_false, if_false, lastT_lt hs hr.1.1.1, Int.toNat_natCast, List.take_left, List.drop_left]
    have c1 : ¬ (4096 : Int) < (r.2.length : Int) := by omega
    have c2 : ¬ ((r.2 ++ l.flatMap encR).length : Int) < (r.2.length : Int) := by rw [List.length_append]; omega
    have c3 : (l.flatMap encR).length < (enc1 r.1 ++ (enc1 (r.2.length : Int) ++ (r.2 ++ l.flatMap encR))).length := by
      simp only [List.length_append, enc1, List.length_cons]; omega
    simp only [c1, c2, if_false, c3, dite_true]
    show goT (acc ++ [r]) (l.flatMap encR) = _
    rw [ih]
    simp
theorem goT_ok : ∀ (n : Nat) (b : List Int) (acc m : List Rec), b.length ≤ n → Bs b → Sorted acc → acc.length ≤ 64 → goT acc b = (m, 0) →
    ∃ m', m = acc ++ m' ∧ b = m'.flatMap encR ∧ (∀ r ∈ m', OkV r ∧ r.2.length ≤ 4096) ∧ Sorted m ∧ m.length ≤ 64 := by
  intro n
  induction n with
  | zero =>
    intro b acc m hn hb hs hl h
    have : b = [] := List.length_eq_zero_iff.1 (by omega)
    subst this
    rw [goT_nil] at h
    simp only [Prod.mk.injEq, and_true] at h
    subst h
    exact ⟨[], by simp, by simp, by simp, hs, hl⟩
  | succ n ih =>
    intro b acc m hn hb hs hl h
    rw [goT] at h
    by_cases hbn : b = []
    · subst hbn
      rw [if_pos rfl] at h
      simp only [Prod.mk.injEq, and_true] at h
      subst h
      exact ⟨[], by simp, by simp, by simp, hs, hl⟩
    · rw [if_neg hbn] at h
      by_cases h64 : acc.length = 64
      · rw [if_pos h64] at h; simp at h
      · rw [if_neg h64] at h
        rcases get1_cases hb with ⟨g1, g2, g3, g4, g5⟩ | ⟨g1, g2, g3⟩
        · rw [if_neg (show ¬ ((get1 b).2.2 ≠ 0) from fun q => q g1)] at h
          by_cases hlt : lastT acc < (get1 b).1
          · rw [if_neg (show ¬ ¬ lastT acc < (get1 b).1 from fun q => q hlt)] at h
            have hb1 := bs_drop hb (get1 b).2.1.toNat
            generalize hB1 : b.drop (get1 b).2.1.toNat = b1 at *
            rcases get1_cases hb1 with ⟨p1, p2, p3, p4, p5⟩ | ⟨p1, p2, p3⟩
            · rw [if_neg (show ¬ ((get1 b1).2.2 ≠ 0) from fun q => q p1)] at h
              have hb2 := bs_drop hb1 (get1 b1).2.1.toNat
              generalize hB2 : b1.drop (get1 b1).2.1.toNat = b2 at *
              by_cases c1 : 4096 < (get1 b1).1
              · rw [if_pos c1] at h; simp at h
              · rw [if_neg c1] at h
                by_cases c2 : (b2.length : Int) < (get1 b1).1
                · rw [if_pos c2] at h; simp at h
                · rw [if_neg c2] at h
                  have c3 : (b2.drop (get1 b1).1.toNat).length < b.length := by rw [List.length_drop]; omega
                  rw [dif_pos c3] at h
                  have htl : ((b2.take (get1 b1).1.toNat).length : Int) = (get1 b1).1 := by rw [List.length_take]; omega
                  have hs' : Sorted (acc ++ [((get1 b).1, b2.take (get1 b1).1.toNat)]) := by
                    refine List.pairwise_append.2 ⟨hs, by simp, fun x hx y hy => ?_⟩
                    simp only [List.mem_singleton] at hy
                    subst hy
                    obtain ⟨j, hj, rfl⟩ := List.getElem_of_mem hx
                    have ha : 0 < acc.length := by omega
                    rw [lastT_get ha] at hlt
                    by_cases hje : j = acc.length - 1
                    · subst hje; exact hlt
                    · have := List.pairwise_iff_getElem.1 hs j (acc.length - 1) hj (by omega) (by omega)
                      simp only; omega
                  obtain ⟨m', hm, hbm, hv, hsm, hlm⟩ := ih _ _ _ (by omega) (bs_drop hb2 _) hs' (by simp only [List.length_append, List.length_singleton]; omega) h
                  refine ⟨((get1 b).1, b2.take (get1 b1).1.toNat) :: m', by rw [hm]; simp, ?_, ?_, hsm, hlm⟩
                  · rw [List.flatMap_cons, ← hbm]
                    simp only [encR]
                    rw [htl]
                    simp only [List.append_assoc, List.take_append_drop, p4, g4]
                  · intro r hr
                    rcases List.mem_cons.1 hr with rfl | hr
                    · exact ⟨⟨g2, fun x hx => hb2 x (List.mem_of_mem_take hx)⟩, by simp only; omega⟩
                    · exact hv r hr
            · rw [if_pos p1] at h
              simp only [Prod.mk.injEq] at h
              exact absurd h.2 p1
          · rw [if_pos hlt] at h; simp at h
        · rw [if_pos g1] at h
          simp only [Prod.mk.injEq] at h
          exact absurd h.2 g1
theorem encs_bytes {l : List Rec} (h : ∀ r ∈ l, OkV r) : Bs (l.flatMap encR) := by
  intro n hn
  obtain ⟨r, hr, hnr⟩ := List.mem_flatMap.1 hn
  have := h r hr
  simp only [encR, List.mem_append] at hnr
  rcases hnr with hnr | hnr | hnr
  · exact enc1_byte this.1.1 n hnr
  · exact enc1_byte (by omega) n hnr
  · exact this.2 n hnr
theorem putT_bad {l : List Rec} (h : (putT l).2 ≠ 0) : (putT l).1 = [] := by
  unfold putT at h ⊢
  by_cases ho : okT l
  · rw [if_pos ho] at h ⊢
    by_cases hl : 65535 < (l.flatMap encR).length
    · rw [if_pos hl]
    · rw [if_neg hl] at h; simp at h
  · rw [if_neg ho]
theorem getT_ok {b : List Int} {m : List Rec} (hb : Bs b) (h : getT b = (m, 0)) : (∀ r ∈ m, OkV r) ∧ okT m ∧ putT m = (b, 0) := by
  unfold getT at h
  by_cases hl : 65535 < b.length
  · rw [if_pos hl] at h; simp at h
  · rw [if_neg hl] at h
    obtain ⟨m', hm, hbm, hv, hs, hlen⟩ := goT_ok _ b [] m (Nat.le_refl _) hb (by simp [Sorted]) (by simp) h
    rw [List.nil_append] at hm
    subst hm
    have ho : okT m := ⟨hlen, fun r hr => (hv r hr).2, hs⟩
    refine ⟨fun r hr => (hv r hr).1, ho, ?_⟩
    unfold putT
    rw [if_pos ho, ← hbm, if_neg hl]
end Go.Proofs.Ytcpcbeeghjigkaa.R3
namespace Go.Proofs.Ytcpcbeeghjigkaa.R3
open Go Go.Fw Go.Proofs RB
set_option maxRecDepth 20000
/-- The elements, each with its number's type. -/
def numd {α : Type} (f : α → List Int) : Nat → List α → List Rec
  | _, [] => []
  | i, x :: r => (((16 + i : Nat) : Int), f x) :: numd f (i + 1) r
theorem numd_len {α : Type} (f : α → List Int) : ∀ (l : List α) (i : Nat), (numd f i l).length = l.length
  | [], _ => rfl
  | x :: r, i => by simp [numd, numd_len f r]
theorem numd_snoc {α : Type} (f : α → List Int) : ∀ (l : List α) (i : Nat) (x : α), numd f i (l ++ [x]) = numd f i l ++ [(((16 + (i + l.length) : Nat) : Int), f x)]
  | [], i, x => by simp [numd]
  | y :: r, i, x => by
    rw [List.cons_append, numd, numd, numd_snoc f r (i + 1) x, List.cons_append, List.length_cons, show i + 1 + r.length = i + (r.length + 1) by omega]
theorem numd_mem {α : Type} (f : α → List Int) : ∀ (l : List α) (i : Nat) (q : Rec), q ∈ numd f i l → (∃ x ∈ l, q.2 = f x) ∧ 16 ≤ q.1 ∧ q.1 < 16 + i + l.length
  | [], i, q, h => by simp [numd] at h
  | y :: r, i, q, h => by
    rcases List.mem_cons.1 h with rfl | h
    · refine ⟨⟨y, by simp, rfl⟩, ?_, ?_⟩ <;> simp only [List.length_cons] <;> omega
    · obtain ⟨⟨x, hx, h1⟩, h2, h3⟩ := numd_mem f r (i + 1) q h
      refine ⟨⟨x, List.mem_cons_of_mem _ hx, h1⟩, h2, ?_⟩
      simp only [List.length_cons]; omega
theorem numd_sorted {α : Type} (f : α → List Int) : ∀ (l : List α) (i : Nat), Sorted (numd f i l) ∧ ∀ q ∈ numd f i l, (16 + i : Int) ≤ q.1
  | [], i => ⟨by simp [numd, Sorted], by simp [numd]⟩
  | y :: r, i => by
    obtain ⟨h1, h2⟩ := numd_sorted f r (i + 1)
    refine ⟨List.pairwise_cons.2 ⟨fun q hq => ?_, h1⟩, fun q hq => ?_⟩
    · have := h2 q hq; simp only; omega
    · rcases List.mem_cons.1 hq with rfl | hq
      · simp only; omega
      · have := h2 q hq; omega
def tokR (t : Tok) : List Rec := (1, enc1 t.1) :: (2, enc1 t.2.2) :: numd encC 0 t.2.1
theorem tokR_okV {t : Tok} (h : TokOk t) (hk : okK t) : ∀ r ∈ tokR t, OkV r := by
  intro r hr
  unfold tokR at hr
  have h16 := hk.1
  rcases List.mem_cons.1 hr with rfl | hr
  · exact ⟨⟨by simp only; omega, by simp only; omega⟩, enc1_byte h.1.1⟩
  rcases List.mem_cons.1 hr with rfl | hr
  · exact ⟨⟨by simp only; omega, by simp only; omega⟩, enc1_byte hk.2.1.1⟩
  obtain ⟨⟨c, hc, h1⟩, h2, h3⟩ := numd_mem encC _ _ _ hr
  refine ⟨⟨by omega, by omega⟩, ?_⟩
  rw [h1]
  exact encC_byte (h.2.1 c hc) (hk.2.2 c hc)
theorem tokR_okT {t : Tok} (hk : okK t) : okT (tokR t) := by
  have h16 := hk.1
  refine ⟨by simp [tokR, numd_len]; omega, fun r hr => ?_, ?_⟩
  · unfold tokR at hr
    rcases List.mem_cons.1 hr with rfl | hr
    · have := enc1_len t.1; simp only; omega
    rcases List.mem_cons.1 hr with rfl | hr
    · have := enc1_len t.2.2; simp only; omega
    obtain ⟨⟨c, hc, h1⟩, _⟩ := numd_mem encC _ _ _ hr
    have := encC_len c
    rw [h1]; omega
  · obtain ⟨h1, h2⟩ := numd_sorted encC t.2.1 0
    refine List.pairwise_cons.2 ⟨fun q hq => ?_, List.pairwise_cons.2 ⟨fun q hq => ?_, h1⟩⟩
    · rcases List.mem_cons.1 hq with rfl | hq
      · simp only; omega
      · have := h2 q hq; simp only; omega
    · have := h2 q hq; simp only; omega
theorem small_enc {n : Int} (h1 : n < 253) : enc1 n = [n] := by
  unfold enc1 fst wid
  simp [h1, dig]
theorem encR_small {r : Rec} (ht : r.1 < 253) (hv : r.2.length < 253) : (encR r).length = 2 + r.2.length := by
  unfold encR
  rw [small_enc ht, small_enc (by omega)]
  simp; omega
theorem tok_len {t : Tok} (hk : okK t) : ((tokR t).flatMap encR).length ≤ 486 := by
  have h16 := hk.1
  have hn : ∀ (l : List Cv) (i : Nat), i + l.length ≤ 16 → ((numd encC i l).flatMap encR).length ≤ 29 * l.length := by
    intro l
    induction l with
    | nil => intro i _; simp [numd]
    | cons c r ih =>
      intro i hi
      rw [List.length_cons] at hi
      have h1 := ih (i + 1) (by omega)
      have h2 := encC_len c
      have h3 := encR_small (r := (((16 + i : Nat) : Int), encC c)) (by simp only; omega) (by simp only; omega)
      rw [numd, List.flatMap_cons, List.length_append, h3, List.length_cons]
      simp only
      omega
  have h1 := enc1_len t.1
  have h2 := enc1_len t.2.2
  have h3 := hn t.2.1 0 (by omega)
  have e1 := encR_small (r := ((1 : Int), enc1 t.1)) (by simp only; omega) (by simp only; omega)
  have e2 := encR_small (r := ((2 : Int), enc1 t.2.2)) (by simp only; omega) (by simp only; omega)
  unfold tokR
  rw [List.flatMap_cons, List.length_append, List.flatMap_cons, List.length_append, e1, e2]
  simp only
  omega
def tokB (t : Tok) : List Int := (tokR t).flatMap encR
theorem putT_tok {t : Tok} (hk : okK t) : putT (tokR t) = (tokB t, 0) := by
  unfold putT
  have := tok_len hk
  rw [if_pos (tokR_okT hk), if_neg (by omega)]
  rfl
open Classical in
theorem F46_eq {t : Tok} (h : TokOk t) (hl : t.2.1.length ≤ 9223372036854775807) : F46 t = some (if okK t then (tokB t, 0) else ([], 1)) := by
  unfold F46
  simp only [Prod.eta, F43_eq h hl, Option.bind_some]
  by_cases hk : okK t
  · have hw : IntKind.wrap .u64 t.2.2 = t.2.2 := small_u64 hk.2.1.1 hk.2.1.2
    have h16 := hk.1
    simp only [hk, if_true, decide_true, Bool.not_true, cond_false, hw, F62_one h.1.1, F62_one hk.2.1.1, F63_eq h hk, Option.bind_some, both_self]
    refine lfp_rule (fun (x : List Rec × Int) => ∃ i : Nat, x.2 = (i : Int) ∧ i ≤ t.2.1.length ∧ x.1 = [(1, enc1 t.1), (2, enc1 t.2.2)] ++ numd encC 0 (t.2.1.take i)) (fun x => t.2.1.length - x.2.toNat) (fun _ => (tokB t, 0)) ?_ _ ⟨0, rfl, by omega, by simp [numd]⟩
    rintro ⟨y, i'⟩ ⟨i, hi', hi, hy⟩ rec hrec
    simp only at hi' hy
    subst hi'
    simp only [List.length_map]
    by_cases hlt : i < t.2.1.length
    · have k1 : ((i : Int) < (t.2.1.length : Int)) := by omega
      have hlm : i < (t.2.1.map encC).length := by simpa using hlt
      have hyl : y.length = 2 + i := by rw [hy]; simp [numd_len]; omega
      have k3 : (y.length + 1) * 32 ≤ LIM := by unfold LIM; omega
      simp only [k1, decide_true, cond_true, inb_true (Int.natCast_nonneg i) k1, rd_nat (t := .slice 5 (.int .u8)) hlm, k3]
      rw [small_u64 (n := (i : Int)) (by omega) (by omega), small_u64 (n := 16 + (i : Int)) (by omega) (by omega), RB.wrap_i64 (n := (i : Int) + 1) (by omega) (by omega)]
      refine hrec _ ⟨i + 1, by simp, by omega, ?_⟩ (by simp only; omega)
      rw [hy, List.take_succ_eq_append_getElem hlt, numd_snoc, List.append_assoc]
      simp only [List.length_take, List.getElem_map]
      congr 3
      rw [Nat.min_eq_left (by omega)]
      simp
    · have k1 : ¬ ((i : Int) < (t.2.1.length : Int)) := by omega
      have hie : i = t.2.1.length := by omega
      simp only [k1, decide_false, cond_false]
      have hyt : y = tokR t := by rw [hy, hie, List.take_length]; rfl
      rw [hyt, F73_eq (tokR_okV h hk), putT_tok hk]
      rfl
  · simp [hk]
theorem encR_ne (r : Rec) : encR r ≠ [] := by unfold encR enc1; simp
theorem encR_inj {r s : Rec} {X Y : List Int} (hr : OkV r) (hs : OkV s) (lr : r.2.length ≤ 4096) (ls : s.2.length ≤ 4096) (h : encR r ++ X = encR s ++ Y) : r = s ∧ X = Y := by
  unfold encR at h
  rw [List.append_assoc, List.append_assoc, List.append_assoc, List.append_assoc] at h
  obtain ⟨h1, h2⟩ := enc1_inj hr.1 hs.1 h
  obtain ⟨h3, h4⟩ := enc1_inj (a := (r.2.length : Int)) (b := (s.2.length : Int)) ⟨by omega, by omega⟩ ⟨by omega, by omega⟩ h2
  obtain ⟨h5, h6⟩ := List.append_inj h4 (by omega)
  exact ⟨Prod.ext h1 h5, h6⟩
theorem encs_inj : ∀ {l m : List Rec}, (∀ r ∈ l, OkV r ∧ r.2.length ≤ 4096) → (∀ r ∈ m, OkV r ∧ r.2.length ≤ 4096) → l.flatMap encR = m.flatMap encR → l = m
  | [], [], _, _, _ => rfl
  | [], b :: m, _, _, h => by simp only [List.flatMap_nil, List.flatMap_cons] at h; exact absurd (List.append_eq_nil_iff.1 h.symm).1 (encR_ne _)
  | a :: l, [], _, _, h => by simp only [List.flatMap_nil, List.flatMap_cons] at h; exact absurd (List.append_eq_nil_iff.1 h).1 (encR_ne _)
  | a :: l, b :: m, hl, hm, h => by
    rw [List.flatMap_cons, List.flatMap_cons] at h
    have ha := hl a (by simp)
    have hb := hm b (by simp)
    obtain ⟨h1, h2⟩ := encR_inj ha.1 hb.1 ha.2 hb.2 h
    rw [h1, encs_inj (fun n hn => hl n (List.mem_cons_of_mem _ hn)) (fun n hn => hm n (List.mem_cons_of_mem _ hn)) h2]
theorem numd_inj {α : Type} {f : α → List Int} : ∀ {l m : List α} {i : Nat}, (∀ x ∈ l, ∀ y ∈ m, f x = f y → x = y) → numd f i l = numd f i m → l = m
  | [], [], _, _, _ => rfl
  | [], _ :: _, _, _, h => by simp [numd] at h
  | _ :: _, [], _, _, h => by simp [numd] at h
  | x :: l, y :: m, i, hf, h => by
    simp only [numd, List.cons.injEq, Prod.mk.injEq, true_and] at h
    rw [hf x (by simp) y (by simp) h.1, numd_inj (fun a ha b hb => hf a (List.mem_cons_of_mem _ ha) b (List.mem_cons_of_mem _ hb)) h.2]
theorem tokB_inj {t u : Tok} (ht : TokOk t) (hu : TokOk u) (kt : okK t) (ku : okK u) (h : tokB t = tokB u) : t = u := by
  have := encs_inj (fun r hr => ⟨tokR_okV ht kt r hr, (tokR_okT kt).2.1 r hr⟩) (fun r hr => ⟨tokR_okV hu ku r hr, (tokR_okT ku).2.1 r hr⟩) h
  simp only [tokR, List.cons.injEq, Prod.mk.injEq, true_and] at this
  have h1 := kt.2.1
  have h2 := ku.2.1
  refine Prod.ext (enc1_inj0 ht.1 hu.1 this.1) (Prod.ext ?_ (enc1_inj0 ⟨h1.1, by omega⟩ ⟨h2.1, by omega⟩ this.2.1))
  exact numd_inj (fun x hx y hy hxy => encC_inj (ht.2.1 x hx) (hu.2.1 y hy) (kt.2.2 x hx) (ku.2.2 y hy) hxy) this.2.2
def fin (c : Cv) (rest : List Int) : Cv × Int := if rest ≠ [] ∨ chk c ≠ 0 then ((0, (0, 0)), 2) else (c, 0)
def getC2 (n a : Int) (b : List Int) : Cv × Int := if (get1 b).2.2 ≠ 0 then ((0, (0, 0)), (get1 b).2.2) else fin (n, (a, (get1 b).1)) (b.drop (get1 b).2.1.toNat)
def getC1 (n : Int) (b : List Int) : Cv × Int := if (get1 b).2.2 ≠ 0 then ((0, (0, 0)), (get1 b).2.2) else
  if n = 4 then getC2 n (get1 b).1 (b.drop (get1 b).2.1.toNat) else fin (n, ((get1 b).1, 0)) (b.drop (get1 b).2.1.toNat)
def getC (b : List Int) : Cv × Int := if (get1 b).2.2 ≠ 0 then ((0, (0, 0)), (get1 b).2.2) else
  if (get1 b).1 < 1 ∨ 5 < (get1 b).1 then ((0, (0, 0)), 2) else getC1 (get1 b).1 (b.drop (get1 b).2.1.toNat)
theorem pos_len (r : List Int) : decide ((0 : Int) < (r.length : Int)) = decide (r ≠ []) := by
  cases r with
  | nil => rfl
  | cons a r => rw [decide_eq_true (by simp only [List.length_cons]; omega), decide_eq_true (by simp)]
theorem fin_form (c : Cv) (rest : List Int) : (bif (decide (rest ≠ []) == false) then (bif (!decide (chk c = 0)) then some (((0, (0, 0)), 2) : Cv × Int) else some (c, 0)) else some ((0, (0, 0)), 2)) = some (fin c rest) := by
  unfold fin
  by_cases r0 : rest = []
  · by_cases ck : chk c = 0 <;> simp [r0, ck]
  · simp [r0]
theorem small5_i64 {n : Int} (h0 : 1 ≤ n) (h1 : n ≤ 5) : IntKind.wrap .i64 n = n := wrap_i64 (by omega) (by omega)
theorem small5_u64 {n : Int} (h0 : 1 ≤ n) (h1 : n ≤ 5) : IntKind.wrap .u64 n = n := wrap_u64 (by omega) (by omega)
/-- What reading one comes to. -/
theorem get1_casesQ {b : List Int} (h : ∀ n ∈ b, Byte n) : ((get1 b).2.2 = 0 ∧ U64 (get1 b).1 ∧ inb (get1 b).2.1 (b.length + 1) = true ∧ enc1 (get1 b).1 ++ b.drop (get1 b).2.1.toNat = b ∧ (b.drop (get1 b).2.1.toNat).length < b.length) ∨ ((get1 b).2.2 ≠ 0 ∧ decide ((get1 b).2.2 = 0) = false) := by
  rcases get1_ok h (y := (get1 b).1) (m := (get1 b).2.1) (e := (get1 b).2.2) rfl with ⟨h1, h2, h3, h4, h5, h6⟩ | ⟨h1, _⟩
  · left
    refine ⟨h1, ⟨h2, h3⟩, inb_true (by omega) (by omega), by rw [h6]; exact List.take_append_drop _ _, ?_⟩
    rw [List.length_drop]; omega
  · right; exact ⟨h1, decide_eq_false h1⟩
theorem drop_byte {b : List Int} (h : ∀ n ∈ b, Byte n) (k : Nat) : ∀ n ∈ b.drop k, Byte n := fun n hn => h n (List.mem_of_mem_drop hn)
theorem cv_small {k a b : Int} (h0 : 1 ≤ k) (h1 : k ≤ 5) (ha : U64 a) (hb : U64 b) : CvOk (k, (a, b)) := ⟨⟨by simp only; omega, by simp only; omega⟩, ha, hb⟩
theorem u64_0 : U64 0 := ⟨by omega, by omega⟩
def post28 (x : List Int × Int × Int × Int × List Int) : Cv × Int :=
  if x.2.2.2.1 = 0 then getC x.1 else if x.2.2.2.1 = 1 then getC1 (x.2.2.2.2.getD 0 0) x.1 else
  if x.2.2.2.1 = 2 then (if x.2.2.2.2.getD 0 0 = 4 then getC2 (x.2.2.2.2.getD 0 0) (x.2.2.2.2.getD 1 0) x.1 else fin (x.2.2.2.2.getD 0 0, (x.2.2.2.2.getD 1 0, 0)) x.1) else
  fin (x.2.2.2.2.getD 0 0, (x.2.2.2.2.getD 1 0, x.2.2.2.2.getD 2 0)) x.1
theorem F79_eq {b : List Int} (h : ∀ n ∈ b, Byte n) (hl : b.length ≤ 4611686018427387904) : F79 b = some (getC b) := by
  unfold F79
  refine (lfp_rule (fun x => (∀ n ∈ x.1, Byte n) ∧ x.1.length ≤ 4611686018427387904 ∧
    ((x.2.2.2.1 = 0 ∧ x.2.2.1 = 2 ∧ x.2.2.2.2 = [0, 0, 0]) ∨
     (∃ n, 1 ≤ n ∧ n ≤ 5 ∧ x.2.2.2.1 = 1 ∧ x.2.2.1 = (if n = 4 then 3 else 2) ∧ x.2.2.2.2 = [n, 0, 0]) ∨
     (∃ n a, 1 ≤ n ∧ n ≤ 5 ∧ U64 a ∧ x.2.2.2.1 = 2 ∧ x.2.2.1 = (if n = 4 then 3 else 2) ∧ x.2.2.2.2 = [n, a, 0]) ∨
     (∃ a c, U64 a ∧ U64 c ∧ x.2.2.2.1 = 3 ∧ x.2.2.1 = 3 ∧ x.2.2.2.2 = [4, a, c]))) (fun x => 3 - x.2.2.2.1.toNat) post28 ?_ (b, (0 : Int), (2 : Int), (0 : Int), [0, 0, 0]) ⟨h, hl, .inl ⟨rfl, rfl, rfl⟩⟩).trans (by simp [post28])
  rintro ⟨b, q, many, i, arr⟩ ⟨hb, hlen, hx⟩ rec hrec
  simp only at hb hlen hx
  have fin_ok : ∀ (n a c : Int), 1 ≤ n → n ≤ 5 → U64 a → U64 c → i = many → arr = [n, a, c] → (many = 2 ∨ many = 3) →
      (bif inb 0 3 then bif inb 1 3 then bif inb 2 3 then
        bif (decide (0 < (b.length : Int)) == false) then (
        (F69 ((IntKind.wrap .i64 (rd (.int .u64) arr 0)), ((rd (.int .u64) arr 1), (rd (.int .u64) arr 2)))).bind fun r3 =>
        bif (!decide (r3 = 0)) then some (((0, (0, 0)), 2) : Cv × Int)
        else some (((IntKind.wrap .i64 (rd (.int .u64) arr 0)), ((rd (.int .u64) arr 1), (rd (.int .u64) arr 2))), 0))
        else some ((0, (0, 0)), 2)
        else none else none else none) = some (fin (n, (a, c)) b) := by
    intro n a c hn hn2 ha hc hi harr hm
    subst harr
    have r0 : rd (.int .u64) [n, a, c] 0 = n := rfl
    have r1 : rd (.int .u64) [n, a, c] 1 = a := rfl
    have r2 : rd (.int .u64) [n, a, c] 2 = c := rfl
    rw [r0, r1, r2, small5_i64 hn hn2, F69_eq (cv_small hn hn2 ha hc)]
    simp only [show inb 0 3 = true from rfl, show inb 1 3 = true from rfl, show inb 2 3 = true from rfl, cond_true, pos_len, Option.bind_some]
    exact fin_form _ _
  rcases hx with ⟨hi, hm, harr⟩ | ⟨n, hn, hn2, hi, hm, harr⟩ | ⟨n, a, hn, hn2, ha, hi, hm, harr⟩ | ⟨a, c, ha, hc, hi, hm, harr⟩
  · subst hi; subst hm; subst harr
    simp only [show decide ((0 : Int) < 2) = true from rfl, cond_true, F101_eq hb hlen, Option.bind_some, post28, if_true, getC, decide_true, beq_self_eq_true, Bool.true_eq]
    rcases get1_casesQ hb with ⟨e0, hy, hin, hs, hlt⟩ | ⟨e0, e1⟩
    · simp only [e0, decide_true, Bool.not_true, cond_false, ne_eq, not_true_eq_false, if_false]
      by_cases q1 : (get1 b).1 < 1
      · simp [q1]
      by_cases q2 : 5 < (get1 b).1
      · simp [q2]
      simp only [q1, q2, decide_false, cond_false, or_self, if_false, hin, cond_true, show inb 0 3 = true from rfl]
      have h2 := drop_byte hb (get1 b).2.1.toNat
      have w1 : IntKind.wrap .i64 ((0 : Int) + 1) = 1 := by decide
      have w2 : IntKind.wrap .i64 ((2 : Int) + 1) = 3 := by decide
      have hset : ([0, 0, 0] : List Int).set (Int.toNat 0) (get1 b).1 = [(get1 b).1, 0, 0] := rfl
      by_cases q4 : (get1 b).1 = 4
      · simp only [q4, decide_true, cond_true, w1, w2]
        rw [← q4, hset, hrec (b.drop (get1 b).2.1.toNat, q, 3, 1, [(get1 b).1, 0, 0]) ⟨h2, by simp only; omega, .inr (.inl ⟨_, by omega, by omega, rfl, by simp [q4], rfl⟩)⟩ (by simp)]
        simp [post28]
      · simp only [q4, decide_false, cond_false, w1]
        rw [hset, hrec (b.drop (get1 b).2.1.toNat, q, 2, 1, [(get1 b).1, 0, 0]) ⟨h2, by simp only; omega, .inr (.inl ⟨_, by omega, by omega, rfl, by simp [q4], rfl⟩)⟩ (by simp)]
        simp [post28]
    · simp only [e1, decide_false, Bool.not_false, cond_true, e0, ne_eq, not_false_eq_true, if_true]
  · subst hi; subst harr
    have k1 : decide ((1 : Int) < many) = true := by rw [hm]; split <;> rfl
    simp only [k1, cond_true, F101_eq hb hlen, Option.bind_some, post28, getC1, show ¬ ((1 : Int) = 0) by omega, if_false, if_true, decide_false, List.getD_cons_zero, show (false == true) = false from rfl, cond_false]
    rcases get1_casesQ hb with ⟨e0, hy, hin, hs, hlt⟩ | ⟨e0, e1⟩
    · simp only [e0, decide_true, Bool.not_true, cond_false, ne_eq, not_true_eq_false, if_false, hin, cond_true, show inb 1 3 = true from rfl]
      have h2 := drop_byte hb (get1 b).2.1.toNat
      have w1 : IntKind.wrap .i64 ((1 : Int) + 1) = 2 := by decide
      have hset : ([n, 0, 0] : List Int).set (Int.toNat 1) (get1 b).1 = [n, (get1 b).1, 0] := rfl
      rw [w1, hset, hrec (b.drop (get1 b).2.1.toNat, q, many, 2, [n, (get1 b).1, 0]) ⟨h2, by simp only; omega, .inr (.inr (.inl ⟨n, _, by omega, by omega, hy, rfl, hm, rfl⟩))⟩ (by simp)]
      simp [post28]
    · simp only [e1, decide_false, Bool.not_false, cond_true, e0, ne_eq, not_false_eq_true, if_true]
  · subst hi
    by_cases q4 : n = 4
    · subst q4
      simp only [if_true] at hm
      subst hm; subst harr
      simp only [show decide ((2 : Int) < 3) = true from rfl, cond_true, F101_eq hb hlen, Option.bind_some, post28, getC2, show ¬ ((2 : Int) = 0) by omega, show ¬ ((2 : Int) = 1) by omega, if_false, if_true, decide_false, List.getD_cons_zero, List.getD_cons_succ, show (false == true) = false from rfl, cond_false]
      rcases get1_casesQ hb with ⟨e0, hy, hin, hs, hlt⟩ | ⟨e0, e1⟩
      · simp only [e0, decide_true, Bool.not_true, cond_false, ne_eq, not_true_eq_false, if_false, hin, cond_true, show inb 2 3 = true from rfl]
        have h2 := drop_byte hb (get1 b).2.1.toNat
        have w1 : IntKind.wrap .i64 ((2 : Int) + 1) = 3 := by decide
        have hset : ([4, a, 0] : List Int).set (Int.toNat 2) (get1 b).1 = [4, a, (get1 b).1] := rfl
        rw [w1, hset, hrec (b.drop (get1 b).2.1.toNat, q, 3, 3, [4, a, (get1 b).1]) ⟨h2, by simp only; omega, .inr (.inr (.inr ⟨a, _, ha, hy, rfl, rfl, rfl⟩))⟩ (by simp)]
        simp [post28]
      · simp only [e1, decide_false, Bool.not_false, cond_true, e0, ne_eq, not_false_eq_true, if_true]
    · rw [if_neg q4] at hm
      have f := fin_ok n a 0 hn hn2 ha u64_0 hm.symm harr (.inl hm)
      subst hm
      simp only [show decide ((2 : Int) < 2) = false from rfl, cond_false]
      refine f.trans ?_
      subst harr
      simp [post28, q4]
  · have f := fin_ok 4 a c (by omega) (by omega) ha hc (by omega) harr (.inr hm)
    subst hi; subst hm
    simp only [show decide ((3 : Int) < 3) = false from rfl, cond_false]
    refine f.trans ?_
    subst harr
    simp [post28]
theorem getC_enc {c : Cv} (hc : CvOk c) (h : chk c = 0) (m : List Int) : getC (encC c ++ m) = if m = [] then (c, 0) else ((0, (0, 0)), 2) := by
  have k := chk_kind h
  obtain ⟨n, a, b⟩ := c
  have hn : U64 n := ⟨by simp only at k; omega, by simp only at k; omega⟩
  have ha : U64 a := hc.2.1
  have hb : U64 b := hc.2.2
  simp only at k
  unfold getC encC
  simp only [List.append_assoc, get1_enc hn.1 hn.2, drop_enc, getC1, get1_enc ha.1 ha.2]
  have k1 : ¬ (n < 1 ∨ 5 < n) := by omega
  simp only [ne_eq, not_true_eq_false, if_false, k1]
  by_cases h4 : n = 4
  · subst h4
    simp only [if_true, getC2, get1_enc hb.1 hb.2, drop_enc, not_true_eq_false, if_false, fin, h]
    by_cases hm : m = [] <;> simp [hm]
  · simp only [h4, if_false, fin, List.nil_append]
    have : b = 0 := k.2.2.2.1 h4
    subst this
    by_cases hm : m = [] <;> simp [hm, h]
theorem getC_ok {b : List Int} (hb : ∀ n ∈ b, Byte n) {d : Cv} (h : getC b = (d, 0)) : chk d = 0 ∧ CvOk d ∧ encC d = b := by
  unfold getC at h
  rcases get1_casesQ hb with ⟨e0, hy, hi, hs, hlt⟩ | ⟨e0, e1⟩
  · rw [if_neg (fun hh => hh e0)] at h
    split at h
    · simp at h
    · rename_i q
      unfold getC1 at h
      have h2 := drop_byte hb (get1 b).2.1.toNat
      rcases get1_casesQ h2 with ⟨e0', hy', hi', hs', hlt'⟩ | ⟨e0', e1'⟩
      · rw [if_neg (fun hh => hh e0')] at h
        have h3 := drop_byte h2 (get1 (b.drop (get1 b).2.1.toNat)).2.1.toNat
        split at h
        · rename_i q4
          unfold getC2 at h
          rcases get1_casesQ h3 with ⟨e0'', hy'', hi'', hs'', hlt''⟩ | ⟨e0'', e1''⟩
          · rw [if_neg (fun hh => hh e0'')] at h
            unfold fin at h
            split at h
            · simp at h
            · rename_i hf
              simp only [ne_eq, not_or, Classical.not_not] at hf
              simp only [Prod.mk.injEq, and_true] at h
              subst h
              refine ⟨hf.2, cv_small (by omega) (by omega) hy' hy'', ?_⟩
              rw [hf.1, List.append_nil] at hs''
              simp only [encC, q4, if_true]
              rw [hs'', hs', ← q4, hs]
          · rw [if_pos e0''] at h
            simp only [Prod.mk.injEq] at h
            exact absurd h.2 e0''
        · rename_i q4
          unfold fin at h
          split at h
          · simp at h
          · rename_i hf
            simp only [ne_eq, not_or, Classical.not_not] at hf
            simp only [Prod.mk.injEq, and_true] at h
            subst h
            refine ⟨hf.2, cv_small (by omega) (by omega) hy' u64_0, ?_⟩
            rw [hf.1, List.append_nil] at hs'
            simp only [encC, q4, if_false, List.append_nil]
            rw [hs', hs]
      · rw [if_pos e0'] at h
        simp only [Prod.mk.injEq] at h
        exact absurd h.2 e0'
  · rw [if_pos e0] at h
    simp only [Prod.mk.injEq] at h
    exact absurd h.2 e0
end Go.Proofs.Ytcpcbeeghjigkaa.R3
