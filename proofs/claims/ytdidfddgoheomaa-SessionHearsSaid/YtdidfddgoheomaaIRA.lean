/- Part of a proof: what the program's functions come to. -/
import Derived.Test.YtdidfddgoheomaaLI
import Derived.Test.YtdidfddgoheomaaIB0
import Derived.Test.YtdidfddgoheomaaFwRow
set_option linter.unusedVariables false
set_option linter.unusedSimpArgs false
namespace Go.Proofs.Ytdidfddgoheomaa.R2
open Go Go.Fw Go.Proofs RB
/-- How many octets a frame tells of. -/
def hlen : List Int → Int
  | a :: c :: _ => 256 * a + c
  | _ => 0
def Bytes (l : List Int) : Prop := ∀ n ∈ l, Byte n
theorem hlen_nonneg {l : List Int} (h : Bytes l) : 0 ≤ hlen l ∧ hlen l ≤ 65535 := by
  unfold hlen
  split
  · rename_i a c r
    have h1 := h a (by simp)
    have h2 := h c (by simp)
    unfold Byte at h1 h2
    omega
  · omega
theorem F44_eq {l : List Int} (h : Bytes l) : F44 l = some (if l.length < 2 then (2, false) else (2 + hlen l, true)) := by
  unfold F44
  match l, h with
  | [], _ => rfl
  | [a], _ => simp
  | a :: c :: r, h =>
    have h1 := h a (by simp)
    have h2 := h c (by simp)
    have r0 : rd (.int .u8) (a :: c :: r) 0 = a := rfl
    have r1 : rd (.int .u8) (a :: c :: r) 1 = c := rfl
    unfold Byte at h1 h2
    have k1 : ¬ ((a :: c :: r).length : Int) < 2 := by simp only [List.length_cons]; omega
    have k2 : ¬ (a :: c :: r).length < 2 := by simp only [List.length_cons]; omega
    have k3 : inb 0 (a :: c :: r).length = true := inb_true (by omega) (by simp only [List.length_cons]; omega)
    have k4 : inb 1 (a :: c :: r).length = true := inb_true (by omega) (by simp only [List.length_cons]; omega)
    simp only [k1, decide_false, cond_false, k3, k4, cond_true, r0, r1, k2, if_false, hlen]
    rw [show (2 : Int) ^ (min (8 : Int).toNat 64) = 256 from rfl, wrap_i64 (n := a) (by omega) (by omega), wrap_i64 (n := a * 256) (by omega) (by omega), wrap_i64 (n := 2 + a * 256) (by omega) (by omega), wrap_i64 (n := c) (by omega) (by omega), wrap_i64 (by omega) (by omega)]
    simp only [Option.some.injEq, Prod.mk.injEq, and_true]; omega
abbrev Rdr := List Int × Bool
def chkR (r : Rdr) : Int := if (r.2 = true ∧ r.1 ≠ []) ∨ (2 ≤ r.1.length ∧ (4096 < hlen r.1 ∨ 2 + hlen r.1 ≤ r.1.length)) then 1 else 0
theorem F14_eq {r : Rdr} (h : Bytes r.1) : F14 r = some (chkR r) := by
  obtain ⟨l, bad⟩ := r
  simp only at h
  unfold F14 chkR
  have hh := hlen_nonneg h
  simp only [F44_eq h, Option.bind_some]
  by_cases h0 : bad = true ∧ l ≠ []
  · have h00 := List.length_pos_iff.2 h0.2
    have : (0 : Int) < (l.length : Int) := by omega
    simp [h0.1, h0.2, this, h00]
  · have hb : ((bif bad then decide ((0 : Int) < (l.length : Int)) else false) == false) = true := by
      cases bad with
      | false => rfl
      | true =>
        have : l = [] := by simpa using h0
        subst this; rfl
    simp only [hb, cond_true, h0, false_or]
    by_cases h2 : l.length < 2
    · have : ¬ 2 ≤ l.length := by omega
      simp [h2, this]
    · have h3 : 2 ≤ l.length := by omega
      simp only [h2, if_false, beq_self_eq_true, cond_true, h3, true_and]
      by_cases h4 : 4096 < hlen l
      · have : 4098 < 2 + hlen l := by omega
        simp [h4, this]
      · have : ¬ 4098 < 2 + hlen l := by omega
        by_cases h5 : 2 + hlen l ≤ l.length <;> simp [h4, h5, this]
theorem F55_eq {n : Int} (h0 : 0 ≤ n) (h1 : n ≤ 1099511627776) : F55999 ((), n) = some [] := by
  unfold F55999
  have k1 : ¬ n < 0 := by omega
  have k2 : IntKind.wrap .i64 ((([] : List Int).length : Int) - (([] : List Int).length : Int)) = 0 := by decide
  have k3 : IntKind.wrap .i64 (n - 0) = n := by rw [Int.sub_zero]; exact wrap_i64 (by omega) (by omega)
  simp only [k1, decide_false, cond_false, k2, k3]
  by_cases h : 0 < n
  · have k4 : n.toNat * 1 ≤ LIM := by unfold LIM; omega
    have k5 : inb (([] : List Int).length : Int) (([] : List Int).length + 1) = true := rfl
    have k6 : inb (([] : List Int).length : Int) ((List.replicate n.toNat (0 : Int)).length + 1) = true := inb_true (by simp) (by simp; omega)
    simp only [h, decide_true, cond_true, k5, k4, Bool.and_self, k6]
    rfl
  · simp [h]
theorem F43_two {a b : List Int} (ha : a.length + b.length ≤ 1000000) : F43 [a, b] = some (a ++ b) := by
  unfold F43
  refine lfp_rule (fun (x : Int × Int) => (x.2 = 0 ∧ x.1 = 0) ∨ (x.2 = 1 ∧ x.1 = (a.length : Int)) ∨ (x.2 = 2 ∧ x.1 = (a.length : Int) + (b.length : Int))) (fun x => 2 - x.2.toNat) (fun _ => a ++ b) ?_ (0, 0) (.inl ⟨rfl, rfl⟩)
  have r0 : rd (.slice 5 (.int .u8)) [a, b] 0 = a := rfl
  have r1 : rd (.slice 5 (.int .u8)) [a, b] 1 = b := rfl
  rintro ⟨s, i⟩ (⟨rfl, rfl⟩ | ⟨rfl, rfl⟩ | ⟨rfl, rfl⟩) rec hrec
  · have k : ¬ (a.length : Int) < 0 := by omega
    simp only [List.length_cons, List.length_nil, show decide ((0 : Int) < ((0 + 1 + 1 : Nat) : Int)) = true from rfl, cond_true, show inb 0 (0 + 1 + 1) = true from rfl, r0, Int.zero_add]
    rw [wrap_i64 (n := (a.length : Int)) (by omega) (by omega), show IntKind.wrap .i64 1 = 1 by decide]
    simp only [k, decide_false, cond_false]
    exact hrec _ (.inr (.inl ⟨rfl, rfl⟩)) (by simp)
  · have k : ¬ (a.length : Int) + b.length < 0 := by omega
    simp only [List.length_cons, List.length_nil, show decide ((1 : Int) < ((0 + 1 + 1 : Nat) : Int)) = true from rfl, cond_true, show inb 1 (0 + 1 + 1) = true from rfl, r1]
    rw [wrap_i64 (n := (a.length : Int) + b.length) (by omega) (by omega), show IntKind.wrap .i64 (1 + 1) = 2 by decide]
    simp only [k, decide_false, cond_false]
    exact hrec _ (.inr (.inr ⟨rfl, rfl⟩)) (by simp)
  · simp only [List.length_cons, List.length_nil, show decide ((2 : Int) < ((0 + 1 + 1 : Nat) : Int)) = false from rfl, cond_false]
    rw [F55_eq (by omega) (by omega)]
    simp only [Option.bind_some]
    refine lfp_rule (fun x => (x.2 = 0 ∧ x.1 = []) ∨ (x.2 = 1 ∧ x.1 = a) ∨ (x.2 = 2 ∧ x.1 = a ++ b)) (fun x => 2 - x.2.toNat) (fun _ => a ++ b) ?_ (([] : List Int), (0 : Int)) (.inl ⟨rfl, rfl⟩)
    rintro ⟨s, i⟩ (⟨h1, h2⟩ | ⟨h1, h2⟩ | ⟨h1, h2⟩) rec hrec <;> (simp only at h1 h2; rw [h1, h2])
    · have k : (([] : List Int).length + a.length) * 1 ≤ LIM := by unfold LIM; simp; omega
      simp only [show decide ((0 : Int) < ((0 + 1 + 1 : Nat) : Int)) = true from rfl, cond_true, show inb 0 (0 + 1 + 1) = true from rfl, r0, k, decide_true, List.nil_append, Int.zero_add]
      rw [show IntKind.wrap .i64 1 = 1 by decide]
      exact hrec _ (.inr (.inl ⟨rfl, rfl⟩)) (by simp [h1])
    · have k : (a.length + b.length) * 1 ≤ LIM := by unfold LIM; omega
      simp only [show decide ((1 : Int) < ((0 + 1 + 1 : Nat) : Int)) = true from rfl, cond_true, show inb 1 (0 + 1 + 1) = true from rfl, r1, k, decide_true]
      rw [show IntKind.wrap .i64 (1 + 1) = 2 by decide]
      exact hrec _ (.inr (.inr ⟨rfl, rfl⟩)) (by simp [h1])
    · simp only [show decide ((2 : Int) < ((0 + 1 + 1 : Nat) : Int)) = false from rfl, cond_false]
theorem F45_eq {l : List Int} (h : l.length ≤ 1000000) : F45 l = some l := by
  unfold F45
  have k : (([] : List Int).length + l.length) * 1 ≤ LIM := by unfold LIM; simp; omega
  simp only [k, decide_true, cond_true, List.nil_append]
  cases l with
  | nil => simp [both_self]
  | cons a r => rfl
/-- What octets come to. -/
def parse (out : List (List Int)) (l : List Int) : Rdr × List (List Int) :=
  if l.length < 2 then ((l, false), out) else if 4096 < hlen l then (([], true), out) else if (l.length : Int) < 2 + hlen l then ((l, false), out) else
  if h : 0 ≤ hlen l ∧ 2 ≤ l.length then parse (out ++ [(l.take (2 + hlen l).toNat).drop 2]) (l.drop (2 + hlen l).toNat) else ((l, false), out)
  termination_by l.length
  decreasing_by rw [List.length_drop]; omega
def feedS (r : Rdr) (b : List Int) : Rdr × List (List Int) × Int :=
  if chkR r ≠ 0 then (([], false), [], 1) else if 65535 < b.length then (([], false), [], 4) else if r.2 = true then (r, [], 0) else ((parse [] (r.1 ++ b)).1, (parse [] (r.1 ++ b)).2, 0)
theorem bytes_append {a b : List Int} (ha : Bytes a) (hb : Bytes b) : Bytes (a ++ b) := fun n hn => (List.mem_append.1 hn).elim (ha n) (hb n)
theorem bytes_drop {l : List Int} (h : Bytes l) (k : Nat) : Bytes (l.drop k) := fun n hn => h n (List.mem_of_mem_drop hn)
theorem bytes_take {l : List Int} (h : Bytes l) (k : Nat) : Bytes (l.take k) := fun n hn => h n (List.mem_of_mem_take hn)
theorem F13_eq {r : Rdr} {b : List Int} (hr : Bytes r.1) (hb : Bytes b) (hl : r.1.length ≤ 100000) : F13 (r, b) = some (feedS r b) := by
  unfold F13 feedS
  simp only [Prod.eta, F14_eq hr, Option.bind_some]
  by_cases h1 : chkR r = 0
  · simp only [h1, decide_true, Bool.not_true, cond_false, ne_eq, not_true_eq_false, if_false]
    by_cases h2 : 65535 < b.length
    · have : (65535 : Int) < (b.length : Int) := by omega
      simp [h2, this]
    · have : ¬ (65535 : Int) < (b.length : Int) := by omega
      simp only [this, decide_false, cond_false, h2, if_false]
      cases hbad : r.2 with
      | true =>
        have hnil : r.1 = [] := by
          apply Classical.byContradiction
          intro q
          unfold chkR at h1
          rw [if_pos (.inl ⟨hbad, q⟩)] at h1
          simp at h1
        have hr0 : r = ([], true) := Prod.ext hnil hbad
        subst hr0
        simp
      | false =>
        simp only [cond_false, Bool.false_eq_true, if_false, F43_two (a := r.1) (b := b) (by omega), Option.bind_some]
        refine (lfp_rule (fun x => Bytes x.2.2.2 ∧ x.2.2.2.length + x.2.2.1.length ≤ 200000) (fun x => x.2.2.2.length) (fun x => ((parse x.2.2.1 x.2.2.2).1, (parse x.2.2.1 x.2.2.2).2, 0)) ?_ (([] : List (List Int)), (0 : Int), ([] : List (List Int)), r.1 ++ b) ⟨bytes_append hr hb, by simp; omega⟩)
        rintro ⟨q1, q2, out, l⟩ ⟨hb2, hlen2⟩ rec hrec
        simp only at hb2 hlen2 ⊢
        have hh := hlen_nonneg hb2
        simp only [F44_eq hb2, Option.bind_some]
        rw [parse]
        by_cases c1 : l.length < 2
        · simp [c1, F45_eq (l := l) (by omega)]
        · simp only [c1, if_false, cond_true]
          by_cases c2 : 4096 < hlen l
          · have : 4098 < 2 + hlen l := by omega
            simp [c2, this]
          · have : ¬ 4098 < 2 + hlen l := by omega
            simp only [this, decide_false, cond_false, Bool.not_true, c2, if_false]
            by_cases c3 : (l.length : Int) < 2 + hlen l
            · simp [c3, F45_eq (l := l) (by omega)]
            · have k1 : inb (2 + hlen l) (l.length + 1) = true := inb_true (by omega) (by omega)
              have k2 : decide ((2 : Int) ≤ 2 + hlen l) = true := decide_eq_true (by omega)
              have k3 : ((l.take (2 + hlen l).toNat).drop ((2 : Int).toNat)).length ≤ 1000000 := by simp only [List.length_drop, List.length_take]; omega
              have k4 : (out.length + 1) * 24 ≤ LIM := by unfold LIM; omega
              have k5 : 0 ≤ hlen l ∧ 2 ≤ l.length := ⟨hh.1, by omega⟩
              have k6 : decide ((0 : Nat) ≤ 2) = true := rfl
              simp only [c3, decide_false, cond_false, k1, k2, k6, Bool.and_self, cond_true, F45_eq k3, Option.bind_some, k4, decide_true, if_false, k5, and_self, dite_true]
              have hlt : (l.drop (2 + hlen l).toNat).length < l.length := by rw [List.length_drop]; omega
              refine (hrec (q1, q2, out ++ [(l.take (2 + hlen l).toNat).drop ((2 : Int).toNat)], l.drop (2 + hlen l).toNat) ⟨bytes_drop hb2 _, ?_⟩ hlt).trans rfl
              simp only [List.length_append, List.length_drop, List.length_cons, List.length_nil]; omega
  · simp [h1]
end Go.Proofs.Ytdidfddgoheomaa.R2
namespace Go.Proofs.Ytdidfddgoheomaa.R2
open Go Go.Fw Go.Proofs RB
theorem hlen_app {l m : List Int} (h : 2 ≤ l.length) : hlen (l ++ m) = hlen l := by
  match l, h with
  | a :: c :: r, _ => rfl
theorem parse_nil (out : List (List Int)) : parse out [] = (([], false), out) := by rw [parse]; simp
theorem parse_out : ∀ (n : Nat) (l : List Int) (out : List (List Int)), l.length ≤ n → parse out l = ((parse [] l).1, out ++ (parse [] l).2) := by
  intro n
  induction n with
  | zero =>
    intro l out h
    have : l = [] := List.length_eq_zero_iff.1 (by omega)
    subst this
    simp [parse_nil]
  | succ n ih =>
    intro l out h
    rw [parse]
    conv => rhs; rw [parse]
    by_cases c1 : l.length < 2
    · simp [c1]
    · by_cases c2 : 4096 < hlen l
      · simp [c1, c2]
      · by_cases c3 : (l.length : Int) < 2 + hlen l
        · simp [c1, c2, c3]
        · by_cases c4 : 0 ≤ hlen l ∧ 2 ≤ l.length
          · have hlt : (l.drop (2 + hlen l).toNat).length ≤ n := by rw [List.length_drop]; omega
            simp only [c1, c2, c3, c4, if_false, and_self, dite_true, List.nil_append]
            rw [ih _ (out ++ _) hlt, ih _ [_] hlt]
            simp
          · simp [c1, c2, c3, c4]
def feedR (s : Rdr × List (List Int)) (b : List Int) : Rdr × List (List Int) := if s.1.2 = true then s else parse s.2 (s.1.1 ++ b)
theorem parse_append : ∀ (n : Nat) (l m : List Int) (out : List (List Int)), l.length ≤ n → Bytes l → parse out (l ++ m) = feedR (parse out l) m := by
  intro n
  induction n with
  | zero =>
    intro l m out h hb
    have : l = [] := List.length_eq_zero_iff.1 (by omega)
    subst this
    conv => rhs; rw [parse]
    simp [feedR]
  | succ n ih =>
    intro l m out h hb
    have hh := hlen_nonneg hb
    conv => rhs; rw [parse]
    by_cases c1 : l.length < 2
    · simp [c1, feedR]
    · have ha : hlen (l ++ m) = hlen l := hlen_app (by omega)
      by_cases c2 : 4096 < hlen l
      · simp only [c1, c2, if_false, if_true, feedR]
        rw [parse]
        have : ¬ (l ++ m).length < 2 := by simp; omega
        simp only [this, if_false, ha, c2, if_true]
      · by_cases c3 : (l.length : Int) < 2 + hlen l
        · simp [c1, c2, c3, feedR]
        · have c4 : 0 ≤ hlen l ∧ 2 ≤ l.length := ⟨hh.1, by omega⟩
          have hlt : (l.drop (2 + hlen l).toNat).length ≤ n := by rw [List.length_drop]; omega
          simp only [c1, c2, c3, c4, if_false, and_self, dite_true]
          rw [parse]
          have d1 : ¬ (l ++ m).length < 2 := by simp; omega
          have d3 : ¬ ((l ++ m).length : Int) < 2 + hlen l := by simp; omega
          have d4 : 0 ≤ hlen l ∧ 2 ≤ (l ++ m).length := ⟨hh.1, by simp; omega⟩
          simp only [d1, ha, c2, d3, d4, if_false, and_self, dite_true]
          rw [List.take_append_of_le_length (by omega), List.drop_append_of_le_length (by omega)]
          exact ih _ m _ hlt (bytes_drop hb _)
/-- What is left is a reader that may be. -/
theorem parse_chk : ∀ (n : Nat) (l : List Int) (out : List (List Int)), l.length ≤ n → Bytes l → chkR (parse out l).1 = 0 ∧ Bytes (parse out l).1.1 ∧ (parse out l).1.1.length + (parse out l).2.length ≤ l.length + out.length := by
  intro n
  induction n with
  | zero =>
    intro l out h hb
    have : l = [] := List.length_eq_zero_iff.1 (by omega)
    subst this
    rw [parse]; simp [chkR]; exact hb
  | succ n ih =>
    intro l out h hb
    have hh := hlen_nonneg hb
    rw [parse]
    by_cases c1 : l.length < 2
    · have : ¬ 2 ≤ l.length := by omega
      simp [c1, chkR, this]; exact hb
    · by_cases c2 : 4096 < hlen l
      · simp only [c1, c2, if_false, if_true]
        exact ⟨by simp [chkR], fun n hn => by simp at hn, by simp⟩
      · by_cases c3 : (l.length : Int) < 2 + hlen l
        · have c5 : ¬ (2 + hlen l ≤ (l.length : Int)) := by omega
          simp only [c1, c2, c3, if_false, if_true]
          exact ⟨by simp [chkR, c2, c5], hb, by omega⟩
        · have c4 : 0 ≤ hlen l ∧ 2 ≤ l.length := ⟨hh.1, by omega⟩
          have hlt : (l.drop (2 + hlen l).toNat).length ≤ n := by rw [List.length_drop]; omega
          simp only [c1, c2, c3, c4, if_false, and_self, dite_true]
          obtain ⟨i1, i2, i3⟩ := ih (l.drop (2 + hlen l).toNat) (out ++ [(l.take (2 + hlen l).toNat).drop 2]) hlt (bytes_drop hb _)
          refine ⟨i1, i2, Nat.le_trans i3 ?_⟩
          simp only [List.length_drop, List.length_append, List.length_cons, List.length_nil]; omega
theorem chk_stays {r : Rdr} (h : chkR r = 0) (hb : r.2 = false) (out : List (List Int)) : parse out r.1 = ((r.1, false), out) := by
  unfold chkR at h
  split at h
  · simp at h
  · rename_i q
    rw [parse]
    by_cases c1 : r.1.length < 2
    · simp [c1]
    · have c2 : ¬ 4096 < hlen r.1 := by omega
      have c3 : (r.1.length : Int) < 2 + hlen r.1 := by omega
      simp [c1, c2, c3]
theorem chk_bad {r : Rdr} (h : chkR r = 0) (hb : r.2 = true) : r = ([], true) := by
  unfold chkR at h
  split at h
  · simp at h
  · rename_i q
    obtain ⟨l, bad⟩ := r
    simp only at hb q
    subst hb
    have : l = [] := by
      cases l with
      | nil => rfl
      | cons a r => exact absurd (.inl ⟨rfl, by simp⟩) q
    rw [this]
/-- frame.Put -/
def putF (b : List Int) : List Int × Int := if 4096 < b.length then ([], 4) else ([(b.length : Int) / 256, (b.length : Int) % 256] ++ b, 0)
theorem F19_eq {b : List Int} (hl : b.length ≤ 1000000) : F19 b = some (putF b) := by
  unfold F19 putF
  by_cases h : 4096 < b.length
  · have : (4096 : Int) < (b.length : Int) := by omega
    simp [h, this]
  · have h0 : ¬ (4096 : Int) < (b.length : Int) := by omega
    simp only [h0, decide_false, cond_false, h, if_false]
    rw [wrap_i64 (n := 2 + (b.length : Int)) (by omega) (by omega)]
    have hn : (2 + (b.length : Int)).toNat = b.length + 2 := by omega
    have k1 : (b.length + 2) * 1 ≤ LIM := by unfold LIM; omega
    have k2 : decide ((0 : Int) ≤ 2 + (b.length : Int)) = true := decide_eq_true (by omega)
    have hrep : (List.replicate (b.length + 2) (0 : Int)) = 0 :: 0 :: List.replicate b.length 0 := rfl
    rw [hn, hrep]
    have e256 : (2 : Int) ^ (min (8 : Int).toNat 64) = 256 := rfl
    rw [e256, wrap_u8, wrap_u8]
    have hset : (((0 : Int) :: 0 :: List.replicate b.length 0).set ((0 : Int).toNat) ((b.length : Int) / 256 % 256)).set ((1 : Int).toNat) ((b.length : Int) % 256) = ((b.length : Int) / 256 % 256) :: ((b.length : Int) % 256) :: List.replicate b.length 0 := rfl
    have hset1 : ((0 : Int) :: 0 :: List.replicate b.length 0).set ((0 : Int).toNat) ((b.length : Int) / 256 % 256) = ((b.length : Int) / 256 % 256) :: 0 :: List.replicate b.length 0 := rfl
    rw [hset, hset1]
    have k3 : inb 0 ((0 : Int) :: 0 :: List.replicate b.length 0).length = true := inb_true (by omega) (by simp only [List.length_cons]; omega)
    have k4 : inb 1 (((b.length : Int) / 256 % 256) :: 0 :: List.replicate b.length 0).length = true := inb_true (by omega) (by simp only [List.length_cons]; omega)
    have k5 : inb 2 (b.length + 2 + 1) = true := inb_true (by omega) (by omega)
    have hL : ((((b.length : Int) / 256 % 256) :: ((b.length : Int) % 256) :: List.replicate b.length 0).length) = b.length + 2 := by simp
    have k6 : decide (b.length ≤ b.length + 2 - ((2 : Int).toNat)) = true := decide_eq_true (by omega)
    have k7 : decide ((2 : Int).toNat + (b.length + 2 - ((2 : Int).toNat)) ≤ b.length + 2) = true := decide_eq_true (by omega)
    simp only [k2, k1, decide_true, Bool.and_self, cond_true, k3, k4, k5, hL, k6, k7, Option.some.injEq, Prod.mk.injEq, and_true]
    have t1 : (((b.length : Int) / 256 % 256) :: ((b.length : Int) % 256) :: List.replicate b.length 0).take ((2 : Int).toNat) = [(b.length : Int) / 256 % 256, (b.length : Int) % 256] := rfl
    have t2 : (((b.length : Int) / 256 % 256) :: ((b.length : Int) % 256) :: List.replicate b.length 0).drop ((2 : Int).toNat + b.length) = [] := by
      apply List.drop_of_length_le; simp; omega
    rw [t1, t2]
    have : (b.length : Int) / 256 % 256 = (b.length : Int) / 256 := by omega
    rw [this]
    simp
theorem F12_eq : F12 () = some true := by
  unfold F12
  rw [F19_eq (b := [104, 105]) (by simp)]
  decide
theorem F23_eq (a b : List Int) : F23 (a, b) = some (decide (a = b)) := rfl
theorem F17_eq {a b : List (List Int)} (hl : a.length ≤ 4611686018427387904) : F17 (a, b) = some (decide (a = b)) := by
  unfold F17
  simp only
  by_cases hn : a.length = b.length
  · have e0 : (a.length : Int) = (b.length : Int) := by omega
    simp only [e0, decide_true, Bool.not_true, cond_false]
    rw [← e0]
    exact same_loop (t := .slice 5 (.int .u8)) (a := a) (b := b) hl hn (G := fun x y K => (F23 (x, y)).bind K) (fun i h1 h2 K => rfl)
  · have e0 : ¬ (a.length : Int) = (b.length : Int) := by omega
    simp only [e0, decide_false, Bool.not_false, cond_true, Option.some.injEq]
    symm; rw [decide_eq_false_iff_not]
    intro hab; subst hab; exact hn rfl
def wants (r : Rdr) : Int × Int := if chkR r ≠ 0 ∨ r.2 = true then (0, chkR r) else ((if r.1.length < 2 then 2 else 2 + hlen r.1) - r.1.length, 0)
theorem F18_eq {r : Rdr} (h : Bytes r.1) (hl : r.1.length ≤ 1000000) : F18 r = some (wants r) := by
  unfold F18 wants
  have hh := hlen_nonneg h
  simp only [Prod.eta, F14_eq h, F44_eq h, Option.bind_some]
  by_cases h1 : chkR r = 0
  · cases hb : r.2 with
    | true => simp [h1]
    | false =>
      by_cases h2 : r.1.length < 2
      · simp [h1, h2]; rw [wrap_i64 (by omega) (by omega)]
      · simp [h1, h2]; rw [wrap_i64 (by omega) (by omega)]
  · simp [h1]
theorem F16_eq (a b : Rdr) : F16 (a, b) = some (decide (a = b)) := by
  obtain ⟨x, p⟩ := a
  obtain ⟨y, q⟩ := b
  unfold F16 F46
  by_cases h : p = q
  · subst h
    by_cases h2 : x = y <;> simp [h2]
  · have : (p == q) = false := by simpa using h
    simp [this, h]
theorem rdr_of {r : Rdr} (h : Fw.Good (.pair (.slice 5 (.int .u8)) .bool) r) : Bytes r.1 := fun n hn => byte_of (h.1.2 n hn)
theorem bs_of {l : List Int} (h : Fw.Good (.slice 5 (.int .u8)) l) : Bytes l := fun n hn => byte_of (h.2 n hn)
end Go.Proofs.Ytdidfddgoheomaa.R2
