/- Part of a proof: what the program's functions come to. -/
import Derived.Test.YtacebemdonoliaaGT2
import Derived.Test.YtacebemdonoliaaGZ9
set_option linter.unusedVariables false
set_option linter.unusedSimpArgs false
namespace Go.Proofs.Ytacebemdonoliaa.R4
open Go Go.Fw Go.Proofs RB
set_option maxRecDepth 20000
def Bs (l : List Int) : Prop := ∀ n ∈ l, Byte n
def OkV (r : Rec) : Prop := (0 ≤ r.1 ∧ r.1 < 18446744073709551616) ∧ Bs r.2
def encR (r : Rec) : List Int := enc1 r.1 ++ (enc1 (r.2.length : Int) ++ r.2)
theorem enc1_len (n : Int) : (enc1 n).length ≤ 9 := by
  have : wid n ≤ 8 := by unfold wid; (repeat' split) <;> omega
  simp only [enc1, List.length_cons, dig_len]; omega
theorem encR_len (r : Rec) (h : r.2.length ≤ 4096) : (encR r).length ≤ 4114 := by
  have h1 := enc1_len r.1
  have h2 := enc1_len (r.2.length : Int)
  simp only [encR, List.length_append]; omega
theorem encs_len : ∀ (l : List Rec), (∀ r ∈ l, r.2.length ≤ 4096) → (l.flatMap encR).length ≤ 4114 * l.length
  | [], _ => by simp
  | a :: r, h => by
    have h1 := encR_len a (h a (by simp))
    have := encs_len r (fun x hx => h x (by simp [hx]))
    simp only [List.flatMap_cons, List.length_append, List.length_cons]; omega
theorem F26_two {t n : Int} (h0 : 0 ≤ t) (h1 : 0 ≤ n) : F26 [t, n] = some (enc1 t ++ enc1 n) := by
  rw [F26_eq (by intro x hx; simp only [List.mem_cons, List.not_mem_nil, or_false] at hx; rcases hx with rfl | rfl <;> assumption) (by simp)]
  simp
open Classical in
noncomputable def putT (l : List Rec) : List Int × Int := if okT l then (if 65535 < (l.flatMap encR).length then ([], 4) else (l.flatMap encR, 0)) else ([], 1)
theorem F20_eq {l : List Rec} (hv : ∀ r ∈ l, OkV r) : F20 l = some (putT l) := by
  unfold F20 putT
  simp only [both_self, F19_eq, Option.bind_some]
  by_cases ho : okT l
  · have h64 := ho.1
    simp only [ho, if_true, decide_true, Bool.not_true, cond_false]
    refine lfp_rule (fun x => ∃ i : Nat, x.2 = (i : Int) ∧ i ≤ l.length ∧ x.1 = (l.take i).flatMap encR) (fun x => l.length - x.2.toNat)
      (fun _ => if 65535 < (l.flatMap encR).length then ([], 4) else (l.flatMap encR, 0)) ?_ (([] : List Int), 0) ⟨0, rfl, by omega, by simp⟩
    rintro ⟨acc, i'⟩ ⟨i, hi', hi, hacc⟩ rec hrec
    simp only at hi' hacc
    subst hi'
    simp only
    by_cases hlt : i < l.length
    · have k1 : ((i : Int) < (l.length : Int)) := by omega
      have hr := hv _ (List.getElem_mem hlt)
      have hV := ho.2.1 _ (List.getElem_mem hlt)
      have hal := encs_len (l.take i) (fun r hr => ho.2.1 r (List.mem_of_mem_take hr))
      rw [List.length_take] at hal
      have e1 := enc1_len l[i].1
      have e2 := enc1_len (l[i].2.length : Int)
      have k3 : (acc.length + (enc1 l[i].1 ++ enc1 (l[i].2.length : Int)).length) * 1 ≤ LIM := by
        rw [hacc, List.length_append]; unfold LIM; omega
      have k4 : ((acc ++ (enc1 l[i].1 ++ enc1 (l[i].2.length : Int))).length + l[i].2.length) * 1 ≤ LIM := by
        rw [hacc, List.length_append, List.length_append]; unfold LIM; omega
      have hw : IntKind.wrap .u64 (l[i].2.length : Int) = (l[i].2.length : Int) := RB.wrap_u64 (by omega) (by omega)
      simp only [k1, decide_true, cond_true, inb_true (Int.natCast_nonneg i) k1, rd_nat (t := tR) hlt, hw, F26_two hr.1.1 (Int.natCast_nonneg l[i].2.length), Option.bind_some, k3, k4]
      rw [RB.wrap_i64 (n := (i : Int) + 1) (by omega) (by omega)]
      refine hrec _ ⟨i + 1, by simp, by omega, ?_⟩ (by simp only; omega)
      rw [List.take_succ_eq_append_getElem hlt, List.flatMap_append, hacc]
      simp [encR]
    · have k1 : ¬ ((i : Int) < (l.length : Int)) := by omega
      have : i = l.length := by omega
      subst this
      rw [List.take_length] at hacc
      subst hacc
      simp only [k1, decide_false, cond_false]
      by_cases h : 65535 < (l.flatMap encR).length
      · have h' : (65535 : Int) < ((l.flatMap encR).length : Int) := by omega
        simp only [h, h', decide_true, cond_true, if_true]
      · have h' : ¬ (65535 : Int) < ((l.flatMap encR).length : Int) := by omega
        simp only [h, h', decide_false, cond_false, if_false]
  · simp [ho]
def lastT (acc : List Rec) : Int := match acc.getLast? with | some r => r.1 | none => -1
def goT (acc : List Rec) (b : List Int) : List Rec × Int :=
  if b = [] then (acc, 0) else if acc.length = 64 then ([], 4) else
  if (get1 b).2.2 ≠ 0 then ([], (get1 b).2.2) else
  if ¬ lastT acc < (get1 b).1 then ([], 2) else
  if (get1 (b.drop (get1 b).2.1.toNat)).2.2 ≠ 0 then ([], (get1 (b.drop (get1 b).2.1.toNat)).2.2) else
  if 4096 < (get1 (b.drop (get1 b).2.1.toNat)).1 then ([], 4) else
  if (((b.drop (get1 b).2.1.toNat).drop (get1 (b.drop (get1 b).2.1.toNat)).2.1.toNat).length : Int) < (get1 (b.drop (get1 b).2.1.toNat)).1 then ([], 3) else
  if h : (((b.drop (get1 b).2.1.toNat).drop (get1 (b.drop (get1 b).2.1.toNat)).2.1.toNat).drop (get1 (b.drop (get1 b).2.1.toNat)).1.toNat).length < b.length then
    goT (acc ++ [((get1 b).1, ((b.drop (get1 b).2.1.toNat).drop (get1 (b.drop (get1 b).2.1.toNat)).2.1.toNat).take (get1 (b.drop (get1 b).2.1.toNat)).1.toNat)])
      (((b.drop (get1 b).2.1.toNat).drop (get1 (b.drop (get1 b).2.1.toNat)).2.1.toNat).drop (get1 (b.drop (get1 b).2.1.toNat)).1.toNat)
  else ([], 0)
  termination_by b.length
  decreasing_by exact h
theorem get1_cases {b : List Int} (h : Bs b) : ((get1 b).2.2 = 0 ∧ (0 ≤ (get1 b).1 ∧ (get1 b).1 < 18446744073709551616) ∧ inb (get1 b).2.1 (b.length + 1) = true ∧ enc1 (get1 b).1 ++ b.drop (get1 b).2.1.toNat = b ∧ (b.drop (get1 b).2.1.toNat).length < b.length) ∨
    ((get1 b).2.2 ≠ 0 ∧ (get1 b).1 = 0 ∧ (get1 b).2.1 = 0) := by
  rcases get1_ok h (y := (get1 b).1) (m := (get1 b).2.1) (e := (get1 b).2.2) rfl with ⟨h1, h2, h3, h4, h5, h6⟩ | ⟨h1, h2, h3⟩
  · left
    refine ⟨h1, ⟨h2, h3⟩, RB.inb_true (by omega) (by omega), by rw [h6]; exact List.take_append_drop _ _, ?_⟩
    rw [List.length_drop]; omega
  · right; exact ⟨h1, h2, h3⟩
theorem bs_drop {b : List Int} (h : Bs b) (k : Nat) : Bs (b.drop k) := fun n hn => h n (List.mem_of_mem_drop hn)
end Go.Proofs.Ytacebemdonoliaa.R4
