/- Part of a proof: what the program's functions come to. -/
import Derived.Test.YtdidfddgoheomaaLC
import Derived.Test.YtdidfddgoheomaaCB0
set_option linter.unusedVariables false
set_option linter.unusedSimpArgs false
namespace Go.Proofs.Ytdidfddgoheomaa.R2
open Go Go.Fw Go.Proofs RB
/-- How many octets a frame tells of. -/
def hlen : List Int → Int
  | a :: c :: _ => 256 * a + c
  | _ => 0
def Bytes (l : List Int) : Prop := ∀ n ∈ l, Byte n
theorem hlen_nonneg {l : List Int} (h : Bytes l) : 0 ≤ hlen l ∧ hlen l ≤ 65535 := by
  unfold hlen
  split
  · rename_i a c r
    have h1 := h a (by simp)
    have h2 := h c (by simp)
    unfold Byte at h1 h2
    omega
  · omega
theorem F44_eq {l : List Int} (h : Bytes l) : F44 l = some (if l.length < 2 then (2, false) else (2 + hlen l, true)) := by
  unfold F44
  match l, h with
  | [], _ => rfl
  | [a], _ => simp
  | a :: c :: r, h =>
    have h1 := h a (by simp)
    have h2 := h c (by simp)
    have r0 : rd (.int .u8) (a :: c :: r) 0 = a := rfl
    have r1 : rd (.int .u8) (a :: c :: r) 1 = c := rfl
    unfold Byte at h1 h2
    have k1 : ¬ ((a :: c :: r).length : Int) < 2 := by simp only [List.length_cons]; omega
    have k2 : ¬ (a :: c :: r).length < 2 := by simp only [List.length_cons]; omega
    have k3 : inb 0 (a :: c :: r).length = true := inb_true (by omega) (by simp only [List.length_cons]; omega)
    have k4 : inb 1 (a :: c :: r).length = true := inb_true (by omega) (by simp only [List.length_cons]; omega)
    simp only [k1, decide_false, cond_false, k3, k4, cond_true, r0, r1, k2, if_false, hlen]
    rw [show (2 : Int) ^ (min (8 : Int).toNat 64) = 256 from rfl, wrap_i64 (n := a) (by omega) (by omega), wrap_i64 (n := a * 256) (by omega) (by omega), wrap_i64 (n := 2 + a * 256) (by omega) (by omega), wrap_i64 (n := c) (by omega) (by omega), wrap_i64 (by omega) (by omega)]
    simp only [Option.some.injEq, Prod.mk.injEq, and_true]; omega
abbrev Rdr := List Int × Bool
def chkR (r : Rdr) : Int := if (r.2 = true ∧ r.1 ≠ []) ∨ (2 ≤ r.1.length ∧ (4096 < hlen r.1 ∨ 2 + hlen r.1 ≤ r.1.length)) then 1 else 0
theorem F14_eq {r : Rdr} (h : Bytes r.1) : F14 r = some (chkR r) := by
  obtain ⟨l, bad⟩ := r
  simp only at h
  unfold F14 chkR
  have hh := hlen_nonneg h
  simp only [F44_eq h, Option.bind_some]
  by_cases h0 : bad = true ∧ l ≠ []
  · have h00 := List.length_pos_iff.2 h0.2
    have : (0 : Int) < (l.length : Int) := by omega
    simp [h0.1, h0.2, this, h00]
  · have hb : ((bif bad then decide ((0 : Int) < (l.length : Int)) else false) == false) = true := by
      cases bad with
      | false => rfl
      | true =>
        have : l = [] := by simpa using h0
        subst this; rfl
    simp only [hb, cond_true, h0, false_or]
    by_cases h2 : l.length < 2
    · have : ¬ 2 ≤ l.length := by omega
      simp [h2, this]
    · have h3 : 2 ≤ l.length := by omega
      simp only [h2, if_false, beq_self_eq_true, cond_true, h3, true_and]
      by_cases h4 : 4096 < hlen l
      · have : 4098 < 2 + hlen l := by omega
        simp [h4, this]
      · have : ¬ 4098 < 2 + hlen l := by omega
        by_cases h5 : 2 + hlen l ≤ l.length <;> simp [h4, h5, this]
theorem F55_eq {n : Int} (h0 : 0 ≤ n) (h1 : n ≤ 1099511627776) : F55999 ((), n) = some [] := by
  unfold F55999
  have k1 : ¬ n < 0 := by omega
  have k2 : IntKind.wrap .i64 ((([] : List Int).length : Int) - (([] : List Int).length : Int)) = 0 := by decide
  have k3 : IntKind.wrap .i64 (n - 0) = n := by rw [Int.sub_zero]; exact wrap_i64 (by omega) (by omega)
  simp only [k1, decide_false, cond_false, k2, k3]
  by_cases h : 0 < n
  · have k4 : n.toNat * 1 ≤ LIM := by unfold LIM; omega
    have k5 : inb (([] : List Int).length : Int) (([] : List Int).length + 1) = true := rfl
    have k6 : inb (([] : List Int).length : Int) ((List.replicate n.toNat (0 : Int)).length + 1) = true := inb_true (by simp) (by simp; omega)
    simp only [h, decide_true, cond_true, k5, k4, Bool.and_self, k6]
    rfl
  · simp [h]
theorem F43_two {a b : List Int} (ha : a.length + b.length ≤ 1000000) : F43 [a, b] = some (a ++ b) := by
  unfold F43
  refine lfp_rule (fun (x : Int × Int) => (x.2 = 0 ∧ x.1 = 0) ∨ (x.2 = 1 ∧ x.1 = (a.length : Int)) ∨ (x.2 = 2 ∧ x.1 = (a.length : Int) + (b.length : Int))) (fun x => 2 - x.2.toNat) (fun _ => a ++ b) ?_ (0, 0) (.inl ⟨rfl, rfl⟩)
  have r0 : rd (.slice 5 (.int .u8)) [a, b] 0 = a := rfl
  have r1 : rd (.slice 5 (.int .u8)) [a, b] 1 = b := rfl
  rintro ⟨s, i⟩ (⟨rfl, rfl⟩ | ⟨rfl, rfl⟩ | ⟨rfl, rfl⟩) rec hrec
  · have k : ¬ (a.length : Int) < 0 := by omega
    simp only [List.length_cons, List.length_nil, show decide ((0 : Int) < ((0 + 1 + 1 : Nat) : Int)) = true from rfl, cond_true, show inb 0 (0 + 1 + 1) = true from rfl, r0, Int.zero_add]
    rw [wrap_i64 (n := (a.length : Int)) (by omega) (by omega), show IntKind.wrap .i64 1 = 1 by decide]
    simp only [k, decide_false, cond_false]
    exact hrec _ (.inr (.inl ⟨rfl, rfl⟩)) (by simp)
  · have k : ¬ (a.length : Int) + b.length < 0 := by omega
    simp only [List.length_cons, List.length_nil, show decide ((1 : Int) < ((0 + 1 + 1 : Nat) : Int)) = true from rfl, cond_true, show inb 1 (0 + 1 + 1) = true from rfl, r1]
    rw [wrap_i64 (n := (a.length : Int) + b.length) (by omega) (by omega), show IntKind.wrap .i64 (1 + 1) = 2 by decide]
    simp only [k, decide_false, cond_false]
    exact hrec _ (.inr (.inr ⟨rfl, rfl⟩)) (by simp)
  · simp only [List.length_cons, List.length_nil, show decide ((2 : Int) < ((0 + 1 + 1 : Nat) : Int)) = false from rfl, cond_false]
    rw [F55_eq (by omega) (by omega)]
    simp only [Option.bind_some]
    refine lfp_rule (fun x => (x.2 = 0 ∧ x.1 = []) ∨ (x.2 = 1 ∧ x.1 = a) ∨ (x.2 = 2 ∧ x.1 = a ++ b)) (fun x => 2 - x.2.toNat) (fun _ => a ++ b) ?_ (([] : List Int), (0 : Int)) (.inl ⟨rfl, rfl⟩)
    rintro ⟨s, i⟩ (⟨h1, h2⟩ | ⟨h1, h2⟩ | ⟨h1, h2⟩) rec hrec <;> (simp only at h1 h2; rw [h1, h2])
    · have k : (([] : List Int).length + a.length) * 1 ≤ LIM := by unfold LIM; simp; omega
      simp only [show decide ((0 : Int) < ((0 + 1 + 1 : Nat) : Int)) = true from rfl, cond_true, show inb 0 (0 + 1 + 1) = true from rfl, r0, k, decide_true, List.nil_append, Int.zero_add]
      rw [show IntKind.wrap .i64 1 = 1 by decide]
      exact hrec _ (.inr (.inl ⟨rfl, rfl⟩)) (by simp [h1])
    · have k : (a.length + b.length) * 1 ≤ LIM := by unfold LIM; omega
      simp only [show decide ((1 : Int) < ((0 + 1 + 1 : Nat) : Int)) = true from rfl, cond_true, show inb 1 (0 + 1 + 1) = true from rfl, r1, k, decide_true]
      rw [show IntKind.wrap .i64 (1 + 1) = 2 by decide]
      exact hrec _ (.inr (.inr ⟨rfl, rfl⟩)) (by simp [h1])
    · simp only [show decide ((2 : Int) < ((0 + 1 + 1 : Nat) : Int)) = false from rfl, cond_false]
theorem F45_eq {l : List Int} (h : l.length ≤ 1000000) : F45 l = some l := by
  unfold F45
  have k : (([] : List Int).length + l.length) * 1 ≤ LIM := by unfold LIM; simp; omega
  simp only [k, decide_true, cond_true, List.nil_append]
  cases l with
  | nil => simp [both_self]
  | cons a r => rfl
/-- What octets come to. -/
def parse (out : List (List Int)) (l : List Int) : Rdr × List (List Int) :=
  if l.length < 2 then ((l, false), out) else if 4096 < hlen l then (([], true), out) else if (l.length : Int) < 2 + hlen l then ((l, false), out) else
  if h : 0 ≤ hlen l ∧ 2 ≤ l.length then parse (out ++ [(l.take (2 + hlen l).toNat).drop 2]) (l.drop (2 + hlen l).toNat) else ((l, false), out)
  termination_by l.length
  decreasing_by rw [List.length_drop]; omega
def feedS (r : Rdr) (b : List Int) : Rdr × List (List Int) × Int :=
  if chkR r ≠ 0 then (([], false), [], 1) else if 65535 < b.length then (([], false), [], 4) else if r.2 = true then (r, [], 0) else ((parse [] (r.1 ++ b)).1, (parse [] (r.1 ++ b)).2, 0)
theorem bytes_append {a b : List Int} (ha : Bytes a) (hb : Bytes b) : Bytes (a ++ b) := fun n hn => (List.mem_append.1 hn).elim (ha n) (hb n)
theorem bytes_drop {l : List Int} (h : Bytes l) (k : Nat) : Bytes (l.drop k) := fun n hn => h n (List.mem_of_mem_drop hn)
theorem bytes_take {l : List Int} (h : Bytes l) (k : Nat) : Bytes (l.take k) := fun n hn => h n (List.mem_of_mem_take hn)
theorem F13_eq {r : Rdr} {b : List Int} (hr : Bytes r.1) (hb : Bytes b) (hl : r.1.length ≤ 100000) : F13 (r, b) = some (feedS r b) := by
  unfold F13 feedS
  simp only [Prod.eta, F14_eq hr, Option.bind_some]
  by_cases h1 : chkR r = 0
  · simp only [h1, decide_true, Bool.not_true, cond_false, ne_eq, not_true_eq_false, if_false]
    by_cases h2 : 65535 < b.length
    · have : (65535 : Int) < (b.length : Int) := by omega
      simp [h2, this]
    · have : ¬ (65535 : Int) < (b.length : Int) := by omega
      simp only [this, decide_false, cond_false, h2, if_false]
      cases hbad : r.2 with
      | true => simp
      | false =>
        simp only [cond_false, Bool.false_eq_true, if_false, F43_two (a := r.1) (b := b) (by omega), Option.bind_some]
        refine (lfp_rule (fun x => Bytes x.2.2.2 ∧ x.2.2.2.length + x.2.2.1.length ≤ 200000) (fun x => x.2.2.2.length) (fun x => ((parse x.2.2.1 x.2.2.2).1, (parse x.2.2.1 x.2.2.2).2, 0)) ?_ (([] : List (List Int)), (0 : Int), ([] : List (List Int)), r.1 ++ b) ⟨bytes_append hr hb, by simp; omega⟩)
        rintro ⟨q1, q2, out, l⟩ ⟨hb2, hlen2⟩ rec hrec
        simp only at hb2 hlen2 ⊢
        have hh := hlen_nonneg hb2
        simp only [F44_eq hb2, Option.bind_some]
        rw [parse]
        by_cases c1 : l.length < 2
        · simp [c1, F45_eq (l := l) (by omega)]
        · simp only [c1, if_false, cond_true]
          by_cases c2 : 4096 < hlen l
          · have : 4098 < 2 + hlen l := by omega
            simp [c2, this]
          · have : ¬ 4098 < 2 + hlen l := by omega
            simp only [this, decide_false, cond_false, Bool.not_true, c2, if_false]
            by_cases c3 : (l.length : Int) < 2 + hlen l
            · simp [c3, F45_eq (l := l) (by omega)]
            · have k1 : inb (2 + hlen l) (l.length + 1) = true := inb_true (by omega) (by omega)
              have k2 : decide ((2 : Int) ≤ 2 + hlen l) = true := decide_eq_true (by omega)
              have k3 : ((l.take (2 + hlen l).toNat).drop ((2 : Int).toNat)).length ≤ 1000000 := by simp only [List.length_drop, List.length_take]; omega
              have k4 : (out.length + 1) * 24 ≤ LIM := by unfold LIM; omega
              have k5 : 0 ≤ hlen l ∧ 2 ≤ l.length := ⟨hh.1, by omega⟩
              have k6 : decide ((0 : Nat) ≤ 2) = true := rfl
              simp only [c3, decide_false, cond_false, k1, k2, k6, Bool.and_self, cond_true, F45_eq k3, Option.bind_some, k4, decide_true, if_false, k5, and_self, dite_true]
              have hlt : (l.drop (2 + hlen l).toNat).length < l.length := by rw [List.length_drop]; omega
              refine (hrec (q1, q2, out ++ [(l.take (2 + hlen l).toNat).drop ((2 : Int).toNat)], l.drop (2 + hlen l).toNat) ⟨bytes_drop hb2 _, ?_⟩ hlt).trans rfl
              simp only [List.length_append, List.length_drop, List.length_cons, List.length_nil]; omega
  · simp [h1]
end Go.Proofs.Ytdidfddgoheomaa.R2
