/- Part of a proof: what the program's functions come to. -/
import Derived.Test.YtcpcbeeghjigkaaHK3
set_option linter.unusedVariables false
set_option linter.unusedSimpArgs false
namespace Go.Proofs.Ytcpcbeeghjigkaa.R3
open Go Go.Fw Go.Proofs RB
set_option maxRecDepth 20000
abbrev Rec := Int × List Int
def pos : List Rec → Int → Nat
  | [], _ => 0
  | a :: r, t => if a.1 < t then pos r t + 1 else 0
def fnd : List Rec → Int → Bool
  | [], _ => false
  | a :: r, t => if a.1 < t then fnd r t else decide (a.1 = t)
def lookR : List Rec → Int → Option (List Int)
  | [], _ => none
  | a :: r, t => if a.1 < t then lookR r t else if a.1 = t then some a.2 else none
def Sorted (l : List Rec) : Prop := l.Pairwise (fun a b => a.1 < b.1)
def okT (l : List Rec) : Prop := l.length ≤ 64 ∧ (∀ r ∈ l, r.2.length ≤ 4096) ∧ Sorted l
theorem pos_le : ∀ (l : List Rec) (t : Int), pos l t ≤ l.length
  | [], _ => by simp [pos]
  | a :: r, t => by simp only [pos]; split; have := pos_le r t; simp; omega; simp
theorem pos_lt : ∀ (l : List Rec) (t : Int) (j : Nat) (h : j < l.length), j < pos l t → l[j].1 < t
  | [], _, _, h, _ => by simp at h
  | a :: r, t, j, h, hj => by
    simp only [pos] at hj
    split at hj
    · cases j with
      | zero => assumption
      | succ j => simp only [List.getElem_cons_succ]; exact pos_lt r t j (by simpa using h) (by omega)
    · omega
theorem pos_ge : ∀ (l : List Rec) (t : Int) (j : Nat) (h : j < l.length), Sorted l → pos l t ≤ j → t ≤ l[j].1
  | [], _, _, h, _, _ => by simp at h
  | a :: r, t, j, h, hs, hj => by
    obtain ⟨h1, h2⟩ := List.pairwise_cons.1 hs
    simp only [pos] at hj
    split at hj
    · cases j with
      | zero => omega
      | succ j => simp only [List.getElem_cons_succ]; exact pos_ge r t j (by simpa using h) h2 (by omega)
    · rename_i hn
      cases j with
      | zero => simp only [List.getElem_cons_zero]; omega
      | succ j =>
        simp only [List.getElem_cons_succ]
        have hj' : j < r.length := by simpa using h
        have := h1 r[j] (List.getElem_mem hj')
        omega
theorem fnd_at : ∀ (l : List Rec) (t : Int) (h : pos l t < l.length), fnd l t = decide (l[pos l t].1 = t)
  | [], _, h => by simp at h
  | a :: r, t, h => by
    by_cases c : a.1 < t
    · have e : pos (a :: r) t = pos r t + 1 := by simp [pos, c]
      have h' : pos r t < r.length := by rw [e] at h; simpa using h
      simp only [fnd, c, if_true, fnd_at r t h', e, List.getElem_cons_succ]
    · have e : pos (a :: r) t = 0 := by simp [pos, c]
      simp only [fnd, c, if_false, e, List.getElem_cons_zero]
theorem fnd_end : ∀ (l : List Rec) (t : Int), pos l t = l.length → fnd l t = false
  | [], _, _ => rfl
  | a :: r, t, h => by
    by_cases c : a.1 < t
    · simp only [pos, c, if_true, List.length_cons] at h
      simp only [fnd, c, if_true]; exact fnd_end r t (by omega)
    · simp [pos, c] at h
theorem lookR_at : ∀ (l : List Rec) (t : Int), lookR l t = if h : pos l t < l.length then (if l[pos l t].1 = t then some l[pos l t].2 else none) else none
  | [], _ => by simp [lookR]
  | a :: r, t => by
    by_cases c : a.1 < t
    · have e : pos (a :: r) t = pos r t + 1 := by simp [pos, c]
      simp only [lookR, c, if_true, lookR_at r t, e, List.length_cons, Nat.add_lt_add_iff_right, List.getElem_cons_succ]
    · have e : pos (a :: r) t = 0 := by simp [pos, c]
      simp [lookR, c, e]
theorem F99_eq (x : Rec) (t : Int) : F99 (x, t) = some (if x.1 < t then -1 else if t < x.1 then 1 else 0) := by
  unfold F99 F105 F107
  by_cases h : x.1 < t
  · simp [h]
  · by_cases h2 : t < x.1 <;> simp [h, h2]
theorem sorted_of : ∀ (l : List Rec), (∀ j (h : j + 1 < l.length), l[j].1 < l[j + 1].1) → Sorted l
  | [], _ => List.Pairwise.nil
  | [a], _ => by simp [Sorted]
  | a :: b :: r, h => by
    have ih := sorted_of (b :: r) (fun j hj => h (j + 1) (by simpa using hj))
    refine List.pairwise_cons.2 ⟨fun y hy => ?_, ih⟩
    have h0 : a.1 < b.1 := h 0 (by simp)
    rcases List.mem_cons.1 hy with rfl | hy
    · exact h0
    · have := (List.pairwise_cons.1 ih).1 y hy
      omega
abbrev tR : Ty := .pair (.int .u64) (.slice 5 (.int .u8))
open Classical in
theorem F95_eq (l : List Rec) : F95 l = some (if okT l then 0 else 1) := by
  unfold F95
  by_cases h64 : 64 < l.length
  · have : (64 : Int) < (l.length : Int) := by omega
    have hn : ¬ okT l := fun h => by have := h.1; omega
    simp [this, hn]
  · have : ¬ (64 : Int) < (l.length : Int) := by omega
    simp only [this, decide_false, cond_false, both_self]
    refine lfp_rule (fun x => ∃ i : Nat, x.2 = (i : Int) ∧ i ≤ l.length ∧ (∀ j (h : j < l.length), j < i → l[j].2.length ≤ 4096) ∧ (∀ j (h : j + 1 < l.length), j + 1 < i → l[j].1 < l[j + 1].1)) (fun x => l.length - x.2.toNat)
      (fun _ => if okT l then 0 else 1) ?_ (0, 0) ⟨0, rfl, by omega, by intro j _ hj; omega, by intro j _ hj; omega⟩
    rintro ⟨q, i'⟩ ⟨i, hi', hi, hV, hS⟩ rec hrec
    simp only at hi'
    subst hi'
    simp only
    by_cases hlt : i < l.length
    · have k1 : ((i : Int) < (l.length : Int)) := by omega
      simp only [k1, decide_true, cond_true, inb_true (Int.natCast_nonneg i) k1, rd_nat (t := tR) hlt]
      have next : l[i].2.length ≤ 4096 → (∀ h : 0 < i, l[i - 1].1 < l[i].1) → rec (q, IntKind.wrap .i64 ((i : Int) + 1)) = some (if okT l then 0 else 1) := by
        intro h1 h2
        rw [wrap_i64 (n := (i : Int) + 1) (by omega) (by omega)]
        refine hrec _ ⟨i + 1, by simp, by omega, fun j hj hji => ?_, fun j hj hji => ?_⟩ (by simp only; omega)
        · by_cases hje : j = i
          · subst hje; exact h1
          · exact hV j hj (by omega)
        · by_cases hje : j + 1 = i
          · have := h2 (by omega)
            subst hje
            exact this
          · exact hS j hj (by omega)
      by_cases c1 : 4096 < l[i].2.length
      · have : (4096 : Int) < (l[i].2.length : Int) := by omega
        have hn : ¬ okT l := fun h => by have := h.2.1 _ (List.getElem_mem hlt); omega
        simp [this, hn]
      · have c1' : ¬ (4096 : Int) < (l[i].2.length : Int) := by omega
        simp only [c1', decide_false, beq_self_eq_true, cond_true]
        by_cases c2 : 0 < i
        · have c2' : (0 : Int) < (i : Int) := by omega
          have hw : IntKind.wrap .i64 ((i : Int) - 1) = ((i - 1 : Nat) : Int) := by rw [wrap_i64 (by omega) (by omega)]; omega
          have hi1 : i - 1 < l.length := by omega
          have k2 : inb ((i - 1 : Nat) : Int) l.length = true := inb_true (by omega) (by omega)
          simp only [c2', decide_true, beq_self_eq_true, cond_true, hw, k2, rd_nat (t := tR) hi1, F99_eq, Option.bind_some]
          by_cases c3 : l[i - 1].1 < l[i].1
          · simp only [c3, if_true, show decide ((0 : Int) ≤ -1) = false from rfl, cond_false]
            exact next (by omega) (fun _ => c3)
          · have hn : ¬ okT l := fun h => by
              have := List.pairwise_iff_getElem.1 h.2.2 (i - 1) i hi1 hlt (by omega)
              exact c3 this
            have : decide ((0 : Int) ≤ (if l[i].1 < l[i - 1].1 then 1 else 0)) = true := by split <;> rfl
            simp only [c3, if_false, this, cond_true, hn]
        · have c2' : ¬ (0 : Int) < (i : Int) := by omega
          simp only [c2', decide_false, show (false == true) = false from rfl, cond_false]
          exact next (by omega) (fun h => absurd h c2)
    · have k1 : ¬ ((i : Int) < (l.length : Int)) := by omega
      have hok : okT l := by
        refine ⟨by omega, fun r hr => ?_, sorted_of l fun j hj => hS j hj (by omega)⟩
        obtain ⟨j, hj, rfl⟩ := List.getElem_of_mem hr
        exact hV j hj (by omega)
      simp only [k1, decide_false, cond_false, hok, if_true]
theorem F100_eq {l : List Rec} (t : Int) (hs : Sorted l) (hl : l.length ≤ 1000000) : F100099 (l, t, ()) = some ((pos l t : Int), fnd l t) := by
  unfold F100099
  have hp := pos_le l t
  refine lfp_rule (fun x => ∃ i j : Nat, x.1 = (i : Int) ∧ x.2 = (j : Int) ∧ i ≤ pos l t ∧ pos l t ≤ j ∧ j ≤ l.length) (fun x => x.2.toNat - x.1.toNat) (fun _ => ((pos l t : Int), fnd l t)) ?_ (0, (l.length : Int)) ⟨0, l.length, rfl, rfl, by omega, hp, by omega⟩
  rintro ⟨i', j'⟩ ⟨i, j, hi', hj', h1, h2, h3⟩ rec hrec
  simp only at hi' hj'
  subst hi'; subst hj'
  simp only
  by_cases hlt : (i : Int) < (j : Int)
  · have hm : IntKind.wrap .i64 ((IntKind.wrap .u64 (IntKind.wrap .i64 ((i : Int) + (j : Int)))) / 2 ^ (min (1 : Int).toNat 64)) = (((i + j) / 2 : Nat) : Int) := by
      rw [wrap_i64 (n := (i : Int) + j) (by omega) (by omega), wrap_u64 (by omega) (by omega), show (2 : Int) ^ (min (1 : Int).toNat 64) = 2 from rfl, wrap_i64 (by omega) (by omega)]
      omega
    have hml : (i + j) / 2 < l.length := by omega
    have k1 : inb (((i + j) / 2 : Nat) : Int) l.length = true := inb_true (by omega) (by omega)
    simp only [hlt, decide_true, cond_true, hm, k1, rd_nat (t := tR) hml, F99_eq, Option.bind_some]
    by_cases c : l[(i + j) / 2].1 < t
    · simp only [c, if_true, show decide ((-1 : Int) < 0) = true from rfl, cond_true]
      rw [wrap_i64 (n := (((i + j) / 2 : Nat) : Int) + 1) (by omega) (by omega)]
      refine hrec _ ⟨(i + j) / 2 + 1, j, by simp, rfl, ?_, h2, h3⟩ (by simp only; omega)
      apply Classical.byContradiction
      intro hn
      have := pos_ge l t ((i + j) / 2) hml hs (by omega)
      omega
    · have : decide ((if t < l[(i + j) / 2].1 then (1 : Int) else 0) < 0) = false := by split <;> rfl
      simp only [c, if_false, this, cond_false]
      refine hrec _ ⟨i, (i + j) / 2, rfl, rfl, h1, ?_, by omega⟩ (by simp only; omega)
      apply Classical.byContradiction
      intro hn
      have := pos_lt l t ((i + j) / 2) hml (by omega)
      exact c this
  · have he : i = pos l t := by omega
    subst he
    simp only [hlt, decide_false, cond_false]
    by_cases c : pos l t < l.length
    · have c' : ((pos l t : Nat) : Int) < (l.length : Int) := by omega
      have k1 : inb ((pos l t : Nat) : Int) l.length = true := inb_true (by omega) c'
      simp only [c', decide_true, beq_self_eq_true, cond_true, k1, rd_nat (t := tR) c, F99_eq, Option.bind_some, fnd_at l t c, Option.some.injEq, Prod.mk.injEq, true_and]
      have := pos_ge l t (pos l t) c hs (Nat.le_refl _)
      by_cases c2 : l[pos l t].1 = t
      · simp [c2]
      · have c3 : ¬ l[pos l t].1 < t := by omega
        have c4 : t < l[pos l t].1 := by omega
        simp [c2, c3, c4]
    · have c' : ¬ ((pos l t : Nat) : Int) < (l.length : Int) := by omega
      have := fnd_end l t (by omega)
      simp [c', this]
open Classical in
noncomputable def findT (l : List Rec) (t : Int) : List Int × Int := if okT l then (match lookR l t with | some v => (v, 0) | none => ([], 5)) else ([], 1)
theorem F76_eq (l : List Rec) (t : Int) : F76 (l, t) = some (findT l t) := by
  unfold F76 findT
  simp only [F95_eq, Option.bind_some]
  by_cases h : okT l
  · have h1 := h.1
    simp only [h, if_true, decide_true, Bool.not_true, cond_false, F100_eq t h.2.2 (by omega), Option.bind_some]
    rw [lookR_at]
    by_cases c : pos l t < l.length
    · rw [fnd_at l t c]
      by_cases c2 : l[pos l t].1 = t
      · have k1 : inb ((pos l t : Nat) : Int) l.length = true := inb_true (by omega) (by omega)
        have hv := h.2.1 _ (List.getElem_mem c)
        simp only [c2, decide_true, Bool.not_true, cond_false, k1, cond_true, rd_nat (t := tR) c, F60_eq (l := l[pos l t].2) (by omega), Option.bind_some, c, dite_true, if_true]
      · simp [c, c2]
    · have := pos_le l t
      have := fnd_end l t (by omega)
      simp [c, this]
  · simp [h]
def Bs (l : List Int) : Prop := ∀ n ∈ l, Byte n
def OkV (r : Rec) : Prop := (0 ≤ r.1 ∧ r.1 < 18446744073709551616) ∧ Bs r.2
def encR (r : Rec) : List Int := enc1 r.1 ++ (enc1 (r.2.length : Int) ++ r.2)
theorem encR_len (r : Rec) (h : r.2.length ≤ 4096) : (encR r).length ≤ 4114 := by
  have h1 := enc1_len r.1
  have h2 := enc1_len (r.2.length : Int)
  simp only [encR, List.length_append]; omega
theorem encs_len : ∀ (l : List Rec), (∀ r ∈ l, r.2.length ≤ 4096) → (l.flatMap encR).length ≤ 4114 * l.length
  | [], _ => by simp
  | a :: r, h => by
    have h1 := encR_len a (h a (by simp))
    have := encs_len r (fun x hx => h x (by simp [hx]))
    simp only [List.flatMap_cons, List.length_append, List.length_cons]; omega
theorem F62_two {t n : Int} (h0 : 0 ≤ t) (h1 : 0 ≤ n) : F62 [t, n] = some (enc1 t ++ enc1 n) := by
  rw [F62_eq (by intro x hx; simp only [List.mem_cons, List.not_mem_nil, or_false] at hx; rcases hx with rfl | rfl <;> assumption) (by simp)]
  simp
open Classical in
noncomputable def putT (l : List Rec) : List Int × Int := if okT l then (if 65535 < (l.flatMap encR).length then ([], 4) else (l.flatMap encR, 0)) else ([], 1)
theorem F73_eq {l : List Rec} (hv : ∀ r ∈ l, OkV r) : F73 l = some (putT l) := by
  unfold F73 putT
  simp only [both_self, F95_eq, Option.bind_some]
  by_cases ho : okT l
  · have h64 := ho.1
    simp only [ho, if_true, decide_true, Bool.not_true, cond_false]
    refine lfp_rule (fun x => ∃ i : Nat, x.2 = (i : Int) ∧ i ≤ l.length ∧ x.1 = (l.take i).flatMap encR) (fun x => l.length - x.2.toNat)
      (fun _ => if 65535 < (l.flatMap encR).length then ([], 4) else (l.flatMap encR, 0)) ?_ (([] : List Int), 0) ⟨0, rfl, by omega, by simp⟩
    rintro ⟨acc, i'⟩ ⟨i, hi', hi, hacc⟩ rec hrec
    simp only at hi' hacc
    subst hi'
    simp only
    by_cases hlt : i < l.length
    · have k1 : ((i : Int) < (l.length : Int)) := by omega
      have hr := hv _ (List.getElem_mem hlt)
      have hV := ho.2.1 _ (List.getElem_mem hlt)
      have hal := encs_len (l.take i) (fun r hr => ho.2.1 r (List.mem_of_mem_take hr))
      rw [List.length_take] at hal
      have e1 := enc1_len l[i].1
      have e2 := enc1_len (l[i].2.length : Int)
      have k3 : (acc.length + (enc1 l[i].1 ++ enc1 (l[i].2.length : Int)).length) * 1 ≤ LIM := by
        rw [hacc, List.length_append]; unfold LIM; omega
      have k4 : ((acc ++ (enc1 l[i].1 ++ enc1 (l[i].2.length : Int))).length + l[i].2.length) * 1 ≤ LIM := by
        rw [hacc, List.length_append, List.length_append]; unfold LIM; omega
      have hw : IntKind.wrap .u64 (l[i].2.length : Int) = (l[i].2.length : Int) := RB.wrap_u64 (by omega) (by omega)
      simp only [k1, decide_true, cond_true, inb_true (Int.natCast_nonneg i) k1, rd_nat (t := tR) hlt, hw, F62_two hr.1.1 (Int.natCast_nonneg l[i].2.length), Option.bind_some, k3, k4]
      rw [RB.wrap_i64 (n := (i : Int) + 1) (by omega) (by omega)]
      refine hrec _ ⟨i + 1, by simp, by omega, ?_⟩ (by simp only; omega)
      rw [List.take_succ_eq_append_getElem hlt, List.flatMap_append, hacc]
      simp [encR]
    · have k1 : ¬ ((i : Int) < (l.length : Int)) := by omega
      have : i = l.length := by omega
      subst this
      rw [List.take_length] at hacc
      subst hacc
      simp only [k1, decide_false, cond_false]
      by_cases h : 65535 < (l.flatMap encR).length
      · have h' : (65535 : Int) < ((l.flatMap encR).length : Int) := by omega
        simp only [h, h', decide_true, cond_true, if_true]
      · have h' : ¬ (65535 : Int) < ((l.flatMap encR).length : Int) := by omega
        simp only [h, h', decide_false, cond_false, if_false]
  · simp [ho]
def lastT (acc : List Rec) : Int := match acc.getLast? with | some r => r.1 | none => -1
def goT (acc : List Rec) (b : List Int) : List Rec × Int :=
  if b = [] then (acc, 0) else if acc.length = 64 then ([], 4) else
  if (get1 b).2.2 ≠ 0 then ([], (get1 b).2.2) else
  if ¬ lastT acc < (get1 b).1 then ([], 2) else
  if (get1 (b.drop (get1 b).2.1.toNat)).2.2 ≠ 0 then ([], (get1 (b.drop (get1 b).2.1.toNat)).2.2) else
  if 4096 < (get1 (b.drop (get1 b).2.1.toNat)).1 then ([], 4) else
  if (((b.drop (get1 b).2.1.toNat).drop (get1 (b.drop (get1 b).2.1.toNat)).2.1.toNat).length : Int) < (get1 (b.drop (get1 b).2.1.toNat)).1 then ([], 3) else
  if h : (((b.drop (get1 b).2.1.toNat).drop (get1 (b.drop (get1 b).2.1.toNat)).2.1.toNat).drop (get1 (b.drop (get1 b).2.1.toNat)).1.toNat).length < b.length then
    goT (acc ++ [((get1 b).1, ((b.drop (get1 b).2.1.toNat).drop (get1 (b.drop (get1 b).2.1.toNat)).2.1.toNat).take (get1 (b.drop (get1 b).2.1.toNat)).1.toNat)])
      (((b.drop (get1 b).2.1.toNat).drop (get1 (b.drop (get1 b).2.1.toNat)).2.1.toNat).drop (get1 (b.drop (get1 b).2.1.toNat)).1.toNat)
  else ([], 0)
  termination_by b.length
  decreasing_by exact h
theorem get1_cases {b : List Int} (h : Bs b) : ((get1 b).2.2 = 0 ∧ (0 ≤ (get1 b).1 ∧ (get1 b).1 < 18446744073709551616) ∧ inb (get1 b).2.1 (b.length + 1) = true ∧ enc1 (get1 b).1 ++ b.drop (get1 b).2.1.toNat = b ∧ (b.drop (get1 b).2.1.toNat).length < b.length) ∨
    ((get1 b).2.2 ≠ 0 ∧ (get1 b).1 = 0 ∧ (get1 b).2.1 = 0) := by
  rcases get1_ok h (y := (get1 b).1) (m := (get1 b).2.1) (e := (get1 b).2.2) rfl with ⟨h1, h2, h3, h4, h5, h6⟩ | ⟨h1, h2, h3⟩
  · left
    refine ⟨h1, ⟨h2, h3⟩, RB.inb_true (by omega) (by omega), by rw [h6]; exact List.take_append_drop _ _, ?_⟩
    rw [List.length_drop]; omega
  · right; exact ⟨h1, h2, h3⟩
theorem bs_drop {b : List Int} (h : Bs b) (k : Nat) : Bs (b.drop k) := fun n hn => h n (List.mem_of_mem_drop hn)
end Go.Proofs.Ytcpcbeeghjigkaa.R3
