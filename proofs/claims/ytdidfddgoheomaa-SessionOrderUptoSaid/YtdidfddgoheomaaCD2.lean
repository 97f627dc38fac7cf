/- Part of a proof: what the program's functions come to. -/
import Derived.Test.YtdidfddgoheomaaCD1
import Derived.Test.YtdidfddgoheomaaFwRow
set_option linter.unusedVariables false
set_option linter.unusedSimpArgs false
namespace Go.Proofs.Ytdidfddgoheomaa.R2
open Go Go.Fw Go.Proofs RB
theorem hlen_app {l m : List Int} (h : 2 ≤ l.length) : hlen (l ++ m) = hlen l := by
  match l, h with
  | a :: c :: r, _ => rfl
theorem parse_nil (out : List (List Int)) : parse out [] = (([], false), out) := by rw [parse]; simp
theorem parse_out : ∀ (n : Nat) (l : List Int) (out : List (List Int)), l.length ≤ n → parse out l = ((parse [] l).1, out ++ (parse [] l).2) := by
  intro n
  induction n with
  | zero =>
    intro l out h
    have : l = [] := List.length_eq_zero_iff.1 (by omega)
    subst this
    simp [parse_nil]
  | succ n ih =>
    intro l out h
    rw [parse]
    conv => rhs; rw [parse]
    by_cases c1 : l.length < 2
    · simp [c1]
    · by_cases c2 : 4096 < hlen l
      · simp [c1, c2]
      · by_cases c3 : (l.length : Int) < 2 + hlen l
        · simp [c1, c2, c3]
        · by_cases c4 : 0 ≤ hlen l ∧ 2 ≤ l.length
          · have hlt : (l.drop (2 + hlen l).toNat).length ≤ n := by rw [List.length_drop]; omega
            simp only [c1, c2, c3, c4, if_false, and_self, dite_true, List.nil_append]
            rw [ih _ (out ++ _) hlt, ih _ [_] hlt]
            simp
          · simp [c1, c2, c3, c4]
def feedR (s : Rdr × List (List Int)) (b : List Int) : Rdr × List (List Int) := if s.1.2 = true then s else parse s.2 (s.1.1 ++ b)
theorem parse_append : ∀ (n : Nat) (l m : List Int) (out : List (List Int)), l.length ≤ n → Bytes l → parse out (l ++ m) = feedR (parse out l) m := by
  intro n
  induction n with
  | zero =>
    intro l m out h hb
    have : l = [] := List.length_eq_zero_iff.1 (by omega)
    subst this
    conv => rhs; rw [parse]
    simp [feedR]
  | succ n ih =>
    intro l m out h hb
    have hh := hlen_nonneg hb
    conv => rhs; rw [parse]
    by_cases c1 : l.length < 2
    · simp [c1, feedR]
    · have ha : hlen (l ++ m) = hlen l := hlen_app (by omega)
      by_cases c2 : 4096 < hlen l
      · simp only [c1, c2, if_false, if_true, feedR]
        rw [parse]
        have : ¬ (l ++ m).length < 2 := by simp; omega
        simp only [this, if_false, ha, c2, if_true]
      · by_cases c3 : (l.length : Int) < 2 + hlen l
        · simp [c1, c2, c3, feedR]
        · have c4 : 0 ≤ hlen l ∧ 2 ≤ l.length := ⟨hh.1, by omega⟩
          have hlt : (l.drop (2 + hlen l).toNat).length ≤ n := by rw [List.length_drop]; omega
          simp only [c1, c2, c3, c4, if_false, and_self, dite_true]
          rw [parse]
          have d1 : ¬ (l ++ m).length < 2 := by simp; omega
          have d3 : ¬ ((l ++ m).length : Int) < 2 + hlen l := by simp; omega
          have d4 : 0 ≤ hlen l ∧ 2 ≤ (l ++ m).length := ⟨hh.1, by simp; omega⟩
          simp only [d1, ha, c2, d3, d4, if_false, and_self, dite_true]
          rw [List.take_append_of_le_length (by omega), List.drop_append_of_le_length (by omega)]
          exact ih _ m _ hlt (bytes_drop hb _)
/-- What is left is a reader that may be. -/
theorem parse_chk : ∀ (n : Nat) (l : List Int) (out : List (List Int)), l.length ≤ n → Bytes l → chkR (parse out l).1 = 0 ∧ Bytes (parse out l).1.1 ∧ (parse out l).1.1.length + (parse out l).2.length ≤ l.length + out.length := by
  intro n
  induction n with
  | zero =>
    intro l out h hb
    have : l = [] := List.length_eq_zero_iff.1 (by omega)
    subst this
    rw [parse]; simp [chkR]; exact hb
  | succ n ih =>
    intro l out h hb
    have hh := hlen_nonneg hb
    rw [parse]
    by_cases c1 : l.length < 2
    · have : ¬ 2 ≤ l.length := by omega
      simp [c1, chkR, this]; exact hb
    · by_cases c2 : 4096 < hlen l
      · simp only [c1, c2, if_false, if_true]
        exact ⟨by simp [chkR], fun n hn => by simp at hn, by simp⟩
      · by_cases c3 : (l.length : Int) < 2 + hlen l
        · have c5 : ¬ (2 + hlen l ≤ (l.length : Int)) := by omega
          simp only [c1, c2, c3, if_false, if_true]
          exact ⟨by simp [chkR, c2, c5], hb, by omega⟩
        · have c4 : 0 ≤ hlen l ∧ 2 ≤ l.length := ⟨hh.1, by omega⟩
          have hlt : (l.drop (2 + hlen l).toNat).length ≤ n := by rw [List.length_drop]; omega
          simp only [c1, c2, c3, c4, if_false, and_self, dite_true]
          obtain ⟨i1, i2, i3⟩ := ih (l.drop (2 + hlen l).toNat) (out ++ [(l.take (2 + hlen l).toNat).drop 2]) hlt (bytes_drop hb _)
          refine ⟨i1, i2, Nat.le_trans i3 ?_⟩
          simp only [List.length_drop, List.length_append, List.length_cons, List.length_nil]; omega
theorem chk_stays {r : Rdr} (h : chkR r = 0) (hb : r.2 = false) (out : List (List Int)) : parse out r.1 = ((r.1, false), out) := by
  unfold chkR at h
  split at h
  · simp at h
  · rename_i q
    rw [parse]
    by_cases c1 : r.1.length < 2
    · simp [c1]
    · have c2 : ¬ 4096 < hlen r.1 := by omega
      have c3 : (r.1.length : Int) < 2 + hlen r.1 := by omega
      simp [c1, c2, c3]
theorem chk_bad {r : Rdr} (h : chkR r = 0) (hb : r.2 = true) : r = ([], true) := by
  unfold chkR at h
  split at h
  · simp at h
  · rename_i q
    obtain ⟨l, bad⟩ := r
    simp only at hb q
    subst hb
    have : l = [] := by
      cases l with
      | nil => rfl
      | cons a r => exact absurd (.inl ⟨rfl, by simp⟩) q
    rw [this]
/-- frame.Put -/
def putF (b : List Int) : List Int × Int := if 4096 < b.length then ([], 4) else ([(b.length : Int) / 256, (b.length : Int) % 256] ++ b, 0)
theorem F19_eq {b : List Int} (hl : b.length ≤ 1000000) : F19 b = some (putF b) := by
  unfold F19 putF
  by_cases h : 4096 < b.length
  · have : (4096 : Int) < (b.length : Int) := by omega
    simp [h, this]
  · have h0 : ¬ (4096 : Int) < (b.length : Int) := by omega
    simp only [h0, decide_false, cond_false, h, if_false]
    rw [wrap_i64 (n := 2 + (b.length : Int)) (by omega) (by omega)]
    have hn : (2 + (b.length : Int)).toNat = b.length + 2 := by omega
    have k1 : (b.length + 2) * 1 ≤ LIM := by unfold LIM; omega
    have k2 : decide ((0 : Int) ≤ 2 + (b.length : Int)) = true := decide_eq_true (by omega)
    have hrep : (List.replicate (b.length + 2) (0 : Int)) = 0 :: 0 :: List.replicate b.length 0 := rfl
    rw [hn, hrep]
    have e256 : (2 : Int) ^ (min (8 : Int).toNat 64) = 256 := rfl
    rw [e256, wrap_u8, wrap_u8]
    have hset : (((0 : Int) :: 0 :: List.replicate b.length 0).set ((0 : Int).toNat) ((b.length : Int) / 256 % 256)).set ((1 : Int).toNat) ((b.length : Int) % 256) = ((b.length : Int) / 256 % 256) :: ((b.length : Int) % 256) :: List.replicate b.length 0 := rfl
    have hset1 : ((0 : Int) :: 0 :: List.replicate b.length 0).set ((0 : Int).toNat) ((b.length : Int) / 256 % 256) = ((b.length : Int) / 256 % 256) :: 0 :: List.replicate b.length 0 := rfl
    rw [hset, hset1]
    have k3 : inb 0 ((0 : Int) :: 0 :: List.replicate b.length 0).length = true := inb_true (by omega) (by simp only [List.length_cons]; omega)
    have k4 : inb 1 (((b.length : Int) / 256 % 256) :: 0 :: List.replicate b.length 0).length = true := inb_true (by omega) (by simp only [List.length_cons]; omega)
    have k5 : inb 2 (b.length + 2 + 1) = true := inb_true (by omega) (by omega)
    have hL : ((((b.length : Int) / 256 % 256) :: ((b.length : Int) % 256) :: List.replicate b.length 0).length) = b.length + 2 := by simp
    have k6 : decide (b.length ≤ b.length + 2 - ((2 : Int).toNat)) = true := decide_eq_true (by omega)
    have k7 : decide ((2 : Int).toNat + (b.length + 2 - ((2 : Int).toNat)) ≤ b.length + 2) = true := decide_eq_true (by omega)
    simp only [k2, k1, decide_true, Bool.and_self, cond_true, k3, k4, k5, hL, k6, k7, Option.some.injEq, Prod.mk.injEq, and_true]
    have t1 : (((b.length : Int) / 256 % 256) :: ((b.length : Int) % 256) :: List.replicate b.length 0).take ((2 : Int).toNat) = [(b.length : Int) / 256 % 256, (b.length : Int) % 256] := rfl
    have t2 : (((b.length : Int) / 256 % 256) :: ((b.length : Int) % 256) :: List.replicate b.length 0).drop ((2 : Int).toNat + b.length) = [] := by
      apply List.drop_of_length_le; simp; omega
    rw [t1, t2]
    have : (b.length : Int) / 256 % 256 = (b.length : Int) / 256 := by omega
    rw [this]
    simp
theorem F12_eq : F12 () = some true := by
  unfold F12
  rw [F19_eq (b := [104, 105]) (by simp)]
  decide
theorem F23_eq (a b : List Int) : F23 (a, b) = some (decide (a = b)) := rfl
theorem F17_eq {a b : List (List Int)} (hl : a.length ≤ 4611686018427387904) : F17 (a, b) = some (decide (a = b)) := by
  unfold F17
  simp only
  by_cases hn : a.length = b.length
  · have e0 : (a.length : Int) = (b.length : Int) := by omega
    simp only [e0, decide_true, Bool.not_true, cond_false]
    rw [← e0]
    exact same_loop (t := .slice 5 (.int .u8)) (a := a) (b := b) hl hn (G := fun x y K => (F23 (x, y)).bind K) (fun i h1 h2 K => rfl)
  · have e0 : ¬ (a.length : Int) = (b.length : Int) := by omega
    simp only [e0, decide_false, Bool.not_false, cond_true, Option.some.injEq]
    symm; rw [decide_eq_false_iff_not]
    intro hab; subst hab; exact hn rfl
def wants (r : Rdr) : Int × Int := if chkR r ≠ 0 ∨ r.2 = true then (0, chkR r) else ((if r.1.length < 2 then 2 else 2 + hlen r.1) - r.1.length, 0)
theorem F18_eq {r : Rdr} (h : Bytes r.1) (hl : r.1.length ≤ 1000000) : F18 r = some (wants r) := by
  unfold F18 wants
  have hh := hlen_nonneg h
  simp only [Prod.eta, F14_eq h, F44_eq h, Option.bind_some]
  by_cases h1 : chkR r = 0
  · cases hb : r.2 with
    | true => simp [h1]
    | false =>
      by_cases h2 : r.1.length < 2
      · simp [h1, h2]; rw [wrap_i64 (by omega) (by omega)]
      · simp [h1, h2]; rw [wrap_i64 (by omega) (by omega)]
  · simp [h1]
theorem F16_eq (a b : Rdr) : F16 (a, b) = some (decide (a = b)) := by
  obtain ⟨x, p⟩ := a
  obtain ⟨y, q⟩ := b
  unfold F16 F46
  by_cases h : p = q
  · subst h
    by_cases h2 : x = y <;> simp [h2]
  · have : (p == q) = false := by simpa using h
    simp [this, h]
/-- FrameWants -/
theorem F4_true {r : Rdr} {b : List Int} (hr : Bytes r.1) (hb : Bytes b) : F4 (r, b) = some true := by
  unfold F4
  simp only [F12_eq, Option.bind_some, Bool.not_true, cond_false, Prod.eta]
  by_cases h1 : 200 < r.1.length
  · have : (200 : Int) < (r.1.length : Int) := by omega
    simp [this]
  by_cases h2 : 5000 < b.length
  · have : (5000 : Int) < (b.length : Int) := by omega
    simp [this]
  have g1 : ¬ (200 : Int) < (r.1.length : Int) := by omega
  have g2 : ¬ (5000 : Int) < (b.length : Int) := by omega
  have hh := hlen_nonneg hr
  simp only [g1, g2, decide_false, cond_false, F18_eq hr (by omega), Option.bind_some, both_self]
  unfold wants
  by_cases c0 : chkR r = 0
  · cases hbad : r.2 with
    | true => simp [c0]
    | false =>
      simp only [c0, ne_eq, not_true_eq_false, Bool.false_eq_true, or_self, if_false, decide_true, Bool.not_true, cond_false]
      have hst := chk_stays c0 hbad []
      have hck := c0
      unfold chkR at hck
      have nb : ¬ ((r.2 = true ∧ r.1 ≠ []) ∨ 2 ≤ r.1.length ∧ (4096 < hlen r.1 ∨ 2 + hlen r.1 ≤ (r.1.length : Int))) := by
        intro hq; rw [if_pos hq] at hck; simp at hck
      generalize hN : ((if r.1.length < 2 then (2 : Int) else 2 + hlen r.1) - (r.1.length : Int)) = N
      have hN1 : 1 ≤ N := by rw [← hN]; split <;> omega
      have n1 : ¬ N < 1 := by omega
      simp only [n1, decide_false, cond_false]
      by_cases hlt : (b.length : Int) < N
      · simp only [hlt, decide_true, cond_true, F13_eq hr hb (by omega), Option.bind_some]
        have hfeed : feedS r b = ((r.1 ++ b, false), [], 0) := by
          unfold feedS
          have : ¬ 65535 < b.length := by omega
          simp only [c0, ne_eq, not_true_eq_false, if_false, this, hbad, Bool.false_eq_true]
          rw [parse]
          by_cases e1 : (r.1 ++ b).length < 2
          · simp only [e1, if_true]
          · by_cases e2 : r.1.length < 2
            · rw [if_pos e2] at hN; simp at e1; omega
            · rw [if_neg e2] at hN
              have ha : hlen (r.1 ++ b) = hlen r.1 := hlen_app (by omega)
              have e3 : ¬ 4096 < hlen r.1 := by omega
              have e4 : ((r.1 ++ b).length : Int) < 2 + hlen r.1 := by simp; omega
              simp only [e1, if_false, ha, e3, e4, if_true]
        have hchk : chkR (r.1 ++ b, false) = 0 := by
          have := (parse_chk _ (r.1 ++ b) [] (Nat.le_refl _) (bytes_append hr hb)).1
          unfold feedS at hfeed
          have h5 : ¬ 65535 < b.length := by omega
          simp only [c0, ne_eq, not_true_eq_false, if_false, h5, hbad, Bool.false_eq_true] at hfeed
          have h6 := congrArg Prod.fst hfeed
          simp only at h6
          rw [h6] at this
          exact this
        have hlr : (r.1 ++ b).length ≤ 1000000 := by simp; omega
        rw [hfeed]
        simp only [F18_eq (r := (r.1 ++ b, false)) (bytes_append hr hb) hlr, Option.bind_some]
        unfold wants
        simp only [hchk, ne_eq, not_true_eq_false, Bool.false_eq_true, or_self, if_false]
        rw [wrap_i64 (n := N - (b.length : Int)) (by omega) (by omega)]
        have hfin : (if (r.1 ++ b).length < 2 then (2 : Int) else 2 + hlen (r.1 ++ b)) - ((r.1 ++ b).length : Int) = N - (b.length : Int) := by
          by_cases e2 : r.1.length < 2
          · rw [if_pos e2] at hN
            have : (r.1 ++ b).length < 2 := by simp; omega
            rw [if_pos this]; simp; omega
          · rw [if_neg e2] at hN
            have : ¬ (r.1 ++ b).length < 2 := by simp; omega
            rw [if_neg this, hlen_app (by omega)]; simp; omega
        rw [hfin]
        simp
      · have hin : inb N (b.length + 1) = true := inb_true (by omega) (by omega)
        have hbt : Bytes (b.take N.toNat) := bytes_take hb _
        simp only [hlt, decide_false, cond_false, hin, cond_true, F13_eq hr hbt (by omega), Option.bind_some, both_self]
        have hlt2 : (b.take N.toNat).length = N.toNat := by rw [List.length_take]; omega
        have hfeed : feedS r (b.take N.toNat) = ((parse [] (r.1 ++ b.take N.toNat)).1, (parse [] (r.1 ++ b.take N.toNat)).2, 0) := by
          unfold feedS
          have : ¬ 65535 < (b.take N.toNat).length := by omega
          simp only [c0, ne_eq, not_true_eq_false, if_false, this, hbad, Bool.false_eq_true]
        rw [hfeed]
        have hall : Bytes (r.1 ++ b.take N.toNat) := bytes_append hr hbt
        have hh2 := hlen_nonneg hall
        have htot : (r.1 ++ b.take N.toNat).length = r.1.length + N.toNat := by rw [List.length_append, hlt2]
        generalize hA : r.1 ++ b.take N.toNat = A at *
        rw [parse]
        by_cases e2 : r.1.length < 2
        · rw [if_pos e2] at hN
          have d1 : A.length = 2 := by omega
          have d2 : ¬ A.length < 2 := by omega
          by_cases d3 : 4096 < hlen A
          · simp [d2, d3]
          · by_cases d4 : (A.length : Int) < 2 + hlen A
            · simp only [d2, d3, d4, if_false, if_true]
              simp [d1]
            · have d5 : 0 ≤ hlen A ∧ 2 ≤ A.length := ⟨hh2.1, by omega⟩
              have d6 : A.drop (2 + hlen A).toNat = [] := by apply List.drop_of_length_le; omega
              simp only [d2, d3, d4, d5, if_false, and_self, dite_true, d6]
              rw [parse]; simp
        · rw [if_neg e2] at hN
          have ha : hlen A = hlen r.1 := by rw [← hA]; exact hlen_app (by omega)
          have d2 : ¬ A.length < 2 := by omega
          have d3 : ¬ 4096 < hlen A := by omega
          have d4 : ¬ (A.length : Int) < 2 + hlen A := by omega
          have d5 : 0 ≤ hlen A ∧ 2 ≤ A.length := ⟨hh2.1, by omega⟩
          have d6 : A.drop (2 + hlen A).toNat = [] := by apply List.drop_of_length_le; omega
          simp only [d2, d3, d4, d5, if_false, and_self, dite_true, d6]
          rw [parse]; simp
  · simp [c0]
/-- FrameBad -/
theorem F6_true {b more : List Int} {n : Int} (hb : Bytes b) (hm : Bytes more) (hn : 0 ≤ n ∧ n < 65536) : F6 (b, n, more) = some true := by
  unfold F6
  simp only [F12_eq, Option.bind_some, Bool.not_true, cond_false]
  by_cases h1 : 300 < b.length
  · have : (300 : Int) < (b.length : Int) := by omega
    simp [this]
  by_cases h2 : 300 < more.length
  · have : (300 : Int) < (more.length : Int) := by omega
    simp [this]
  by_cases h3 : n ≤ 4096
  · have g1 : ¬ (300 : Int) < (b.length : Int) := by omega
    have g2 : ¬ (300 : Int) < (more.length : Int) := by omega
    simp [g1, g2, h3]
  have g1 : ¬ (300 : Int) < (b.length : Int) := by omega
  have g2 : ¬ (300 : Int) < (more.length : Int) := by omega
  have hput : putF b = ([(b.length : Int) / 256, (b.length : Int) % 256] ++ b, 0) := by unfold putF; rw [if_neg (by omega)]
  have e1 : IntKind.wrap .u8 (n / 2 ^ (min (8 : Int).toNat 16)) = n / 256 := by
    rw [wrap_u8, show (2 : Int) ^ (min (8 : Int).toNat 16) = 256 from rfl]; omega
  simp only [g1, g2, h3, decide_false, cond_false, F19_eq (b := b) (by omega), hput, Option.bind_some, e1, wrap_u8]
  have k1 : (([(b.length : Int) / 256, (b.length : Int) % 256] ++ b).length + 2) * 1 ≤ LIM := by unfold LIM; simp; omega
  have k2 : (([(b.length : Int) / 256, (b.length : Int) % 256] ++ b ++ [n / 256, n % 256]).length + more.length) * 1 ≤ LIM := by unfold LIM; simp; omega
  have hbytes : Bytes ([(b.length : Int) / 256, (b.length : Int) % 256] ++ b ++ [n / 256, n % 256] ++ more) := by
    refine bytes_append (bytes_append (bytes_append ?_ hb) ?_) hm
    · intro x hx
      simp only [List.mem_cons, List.not_mem_nil, or_false] at hx
      rcases hx with rfl | rfl <;> exact ⟨by omega, by omega⟩
    · intro x hx
      simp only [List.mem_cons, List.not_mem_nil, or_false] at hx
      rcases hx with rfl | rfl <;> exact ⟨by omega, by omega⟩
  simp only [k1, k2, decide_true, cond_true, F13_eq (r := ([], false)) (fun x hx => by simp at hx) hbytes (by simp), Option.bind_some]
  have hfeed : feedS ([], false) ([(b.length : Int) / 256, (b.length : Int) % 256] ++ b ++ [n / 256, n % 256] ++ more) = (([], true), [b], 0) := by
    unfold feedS
    have c0 : chkR ([], false) = 0 := by simp [chkR]
    have c1 : ¬ 65535 < ([(b.length : Int) / 256, (b.length : Int) % 256] ++ b ++ [n / 256, n % 256] ++ more).length := by simp; omega
    simp only [c0, ne_eq, not_true_eq_false, if_false, c1, Bool.false_eq_true, List.nil_append]
    have hp : parse [] ([(b.length : Int) / 256, (b.length : Int) % 256] ++ b ++ [n / 256, n % 256] ++ more) = (([], true), [b]) := by
      have hA : ([(b.length : Int) / 256, (b.length : Int) % 256] ++ b ++ [n / 256, n % 256] ++ more) = ((b.length : Int) / 256) :: ((b.length : Int) % 256) :: (b ++ ((n / 256) :: (n % 256) :: more)) := by simp
      rw [hA, parse]
      have hh : hlen (((b.length : Int) / 256) :: ((b.length : Int) % 256) :: (b ++ ((n / 256) :: (n % 256) :: more))) = b.length := by simp only [hlen]; omega
      have d1 : ¬ (((b.length : Int) / 256) :: ((b.length : Int) % 256) :: (b ++ ((n / 256) :: (n % 256) :: more))).length < 2 := by simp
      have d2 : ¬ (4096 : Int) < (b.length : Int) := by omega
      have d3 : ¬ (((((b.length : Int) / 256) :: ((b.length : Int) % 256) :: (b ++ ((n / 256) :: (n % 256) :: more))).length : Nat) : Int) < 2 + (b.length : Int) := by simp; omega
      have d4 : (0 : Int) ≤ (b.length : Int) ∧ 2 ≤ (((b.length : Int) / 256) :: ((b.length : Int) % 256) :: (b ++ ((n / 256) :: (n % 256) :: more))).length := ⟨by omega, by simp⟩
      simp only [hh, d1, d2, d3, d4, if_false, and_self, dite_true, List.nil_append]
      have ht : (2 + (b.length : Int)).toNat = b.length + 1 + 1 := by omega
      have t1 : ((((b.length : Int) / 256) :: ((b.length : Int) % 256) :: (b ++ ((n / 256) :: (n % 256) :: more))).take (2 + (b.length : Int)).toNat).drop 2 = b := by rw [ht]; simp
      have t2 : (((b.length : Int) / 256) :: ((b.length : Int) % 256) :: (b ++ ((n / 256) :: (n % 256) :: more))).drop (2 + (b.length : Int)).toNat = (n / 256) :: (n % 256) :: more := by rw [ht]; simp
      rw [t1, t2, parse]
      have hh2 : hlen ((n / 256) :: (n % 256) :: more) = n := by simp only [hlen]; omega
      have d5 : ¬ ((n / 256) :: (n % 256) :: more).length < 2 := by simp
      have d6 : 4096 < n := by omega
      simp [hh2, d5, d6]
    rw [hp]
  rw [hfeed]
  have hb0 : Bytes (([], true) : Rdr).1 := fun x hx => by simp at hx
  have c0 : chkR ([], true) = 0 := by simp [chkR]
  have hfeed2 : feedS ([], true) more = (([], true), [], 0) := by
    unfold feedS
    have : ¬ 65535 < more.length := by omega
    simp [c0, this]
  have hwants : wants ([], true) = (0, 0) := by unfold wants; simp [c0]
  simp only [decide_true, List.length_cons, List.length_nil, F13_eq hb0 hm (by simp), F18_eq hb0 (by simp), Option.bind_some, hfeed2, hwants, F16_eq]
  have rr : rd (.slice 5 (.int .u8)) [b] 0 = b := rfl
  simp only [rr, F23_eq]
  simp [inb]
/-- FrameCut -/
theorem F15_eq {r : Rdr} {b cuts : List Int} (c0 : chkR r = 0) (hr : Bytes r.1) (hb : Bytes b) (hc : Bytes cuts) (hl : r.1.length + b.length ≤ 60000) (hcl : cuts.length ≤ 100000) :
    F15 (r, b, cuts) = some ((feedR (r, []) b).1, (feedR (r, []) b).2, true) := by
  unfold F15
  simp only [both_self, Prod.eta]
  refine (lfp_rule (fun (x : List Int × List (List Int) × Bool × List (List Int) × Int × (List Int × Bool)) => (∃ i : Nat, x.2.2.2.2.1 = (i : Int) ∧ i ≤ 1000000000 ∧ (i ≤ cuts.length + 1)) ∧ chkR x.2.2.2.2.2 = 0 ∧ Bytes x.2.2.2.2.2.1 ∧ Bytes x.1 ∧ x.2.2.2.2.2.1.length + x.1.length + x.2.2.2.1.length ≤ 60000 ∧ (x.1 = [] ∨ x.2.2.2.2.1 ≤ (cuts.length : Int)) ∧ feedR (x.2.2.2.2.2, x.2.2.2.1) x.1 = feedR (r, []) b)
    (fun x => (cuts.length + 1 - x.2.2.2.2.1.toNat)) (fun _ => ((feedR (r, []) b).1, (feedR (r, []) b).2, true)) ?_ (b, ([] : List (List Int)), false, ([] : List (List Int)), (0 : Int), r) ⟨⟨0, rfl, by omega, by omega⟩, c0, hr, hb, by simp only [List.length_nil]; omega, .inr (by simp only; omega), rfl⟩)
  rintro ⟨l, q1, q2, out, i', s⟩ ⟨⟨i, hi, hi2, hi3⟩, k0, k1, k2, k3, k4, k5⟩ rec hrec
  simp only at hi k0 k1 k2 k3 k4 k5
  subst hi
  simp only
  by_cases hl0 : l = []
  · subst hl0
    have hfin : feedR (s, out) [] = (s, out) := by
      unfold feedR
      cases hb : s.2 with
      | true => simp
      | false =>
        simp only [Bool.false_eq_true, if_false, List.append_nil]
        rw [chk_stays k0 hb]
        obtain ⟨s1, s2⟩ := s
        simp only at hb
        subst hb; rfl
    rw [hfin] at k5
    simp [← k5]
  · have hpos := List.length_pos_iff.2 hl0
    have g0 : (0 : Int) < (l.length : Int) := by omega
    have hi4 : (i : Int) ≤ (cuts.length : Int) := k4.resolve_left hl0
    simp only [g0, decide_true, cond_true]
    have step : ∀ (n : Int), 0 ≤ n → n ≤ l.length → ((i : Int) < cuts.length ∨ n = l.length) →
        ((F13 (s, l.take n.toNat)).bind fun r2 =>
          bif (!decide (r2.2.2 = 0)) then some (s, ([] : List (List Int)), false) else
          bif decide ((out.length + r2.2.1.length) * 24 ≤ LIM) then
          bif inb n (l.length + 1) then
          rec (l.drop n.toNat, q1, q2, (out ++ r2.2.1), (IntKind.wrap .i64 ((i : Int) + 1)), r2.1)
          else none else none) = some ((feedR (r, []) b).1, (feedR (r, []) b).2, true) := by
      intro n n0 n1 n2
      have hbt := bytes_take k2 n.toNat
      have hlt : (l.take n.toNat).length = n.toNat := by rw [List.length_take]; omega
      rw [F13_eq k1 hbt (by omega)]
      have hin : inb n (l.length + 1) = true := inb_true n0 (by omega)
      have hpc := parse_chk _ (s.1 ++ l.take n.toNat) [] (Nat.le_refl _) (bytes_append k1 hbt)
      have hlen : (s.1 ++ l.take n.toNat).length = s.1.length + n.toNat := by rw [List.length_append, hlt]
      have hf : feedS s (l.take n.toNat) = ((feedR (s, []) (l.take n.toNat)).1, (feedR (s, []) (l.take n.toNat)).2, 0) := by
        unfold feedS feedR
        have : ¬ 65535 < (l.take n.toNat).length := by omega
        simp only [k0, ne_eq, not_true_eq_false, if_false, this]
        cases hb : s.2 <;> simp
      have hprop : chkR (feedR (s, []) (l.take n.toNat)).1 = 0 ∧ Bytes (feedR (s, []) (l.take n.toNat)).1.1 ∧ (feedR (s, []) (l.take n.toNat)).1.1.length + (feedR (s, []) (l.take n.toNat)).2.length ≤ s.1.length + n.toNat := by
        unfold feedR
        cases hb : s.2 with
        | true =>
          show chkR s = 0 ∧ Bytes s.1 ∧ s.1.length + 0 ≤ s.1.length + n.toNat
          exact ⟨k0, k1, by omega⟩
        | false =>
          simp only [Bool.false_eq_true, if_false]
          exact ⟨hpc.1, hpc.2.1, by have := hpc.2.2; simp only [List.length_nil] at this; omega⟩
      have hcomp : feedR ((feedR (s, []) (l.take n.toNat)).1, out ++ (feedR (s, []) (l.take n.toNat)).2) (l.drop n.toNat) = feedR (s, out) l := by
        cases hb : s.2 with
        | true => simp [feedR, hb]
        | false =>
          have e1 : feedR (s, []) (l.take n.toNat) = parse [] (s.1 ++ l.take n.toNat) := by simp [feedR, hb]
          have e2 : feedR (s, out) l = parse out (s.1 ++ l) := by simp [feedR, hb]
          rw [e1, e2]
          have e3 : s.1 ++ l = (s.1 ++ l.take n.toNat) ++ l.drop n.toNat := by rw [List.append_assoc, List.take_append_drop]
          rw [e3, parse_append _ (s.1 ++ l.take n.toNat) _ out (Nat.le_refl _) (bytes_append k1 hbt), parse_out _ (s.1 ++ l.take n.toNat) out (Nat.le_refl _)]
      have hL : (out.length + (feedR (s, []) (l.take n.toNat)).2.length) * 24 ≤ LIM := by unfold LIM; omega
      rw [hf]
      simp only [Option.bind_some, decide_true, Bool.not_true, cond_false, hL, cond_true, hin]
      rw [wrap_i64 (n := (i : Int) + 1) (by omega) (by omega)]
      refine hrec _ ⟨⟨i + 1, by simp, by omega, by omega⟩, hprop.1, hprop.2.1, bytes_drop k2 _, ?_, ?_, ?_⟩ (by simp only; omega)
      · simp only [List.length_drop, List.length_append]; omega
      · rcases n2 with n2 | n2
        · right; simp only; omega
        · left; simp only; apply List.drop_of_length_le; omega
      · simp only
        rw [hcomp]; exact k5
    by_cases hic : (i : Int) < (cuts.length : Int)
    · have hic2 : i < cuts.length := by omega
      have hby : Byte cuts[i] := hc _ (List.getElem_mem _)
      have hin : inb (i : Int) cuts.length = true := inb_true (by omega) hic
      simp only [hic, decide_true, cond_true, hin, rd_nat (t := .int .u8) hic2]
      have hb1 := hby.1
      have hb2 := hby.2
      rw [wrap_i64 (n := cuts[i]) (by omega) (by omega)]
      generalize hM : (if cuts[i] < (l.length : Int) then cuts[i] else (l.length : Int)) = M
      have hM0 : 0 ≤ M ∧ M ≤ l.length := by rw [← hM]; split <;> omega
      have hin2 : inb M (l.length + 1) = true := inb_true hM0.1 (by omega)
      simp only [hin2, cond_true]
      have := step M hM0.1 hM0.2 (.inl hic)
      simp only [hin2, cond_true] at this
      exact this
    · simp only [hic, decide_false, cond_false]
      have hin2 : inb (l.length : Int) (l.length + 1) = true := inb_true (by omega) (by omega)
      simp only [hin2, cond_true]
      have := step (l.length : Int) (by omega) (by omega) (.inr rfl)
      simp only [hin2, cond_true] at this
      exact this
theorem F3_true {r : Rdr} {b cuts : List Int} (hr : Bytes r.1) (hb : Bytes b) (hc : Bytes cuts) : F3 (r, b, cuts) = some true := by
  unfold F3
  simp only [F12_eq, Option.bind_some, Bool.not_true, cond_false, Prod.eta]
  by_cases h1 : 200 < r.1.length
  · have : (200 : Int) < (r.1.length : Int) := by omega
    simp [this]
  by_cases h2 : 2000 < b.length
  · have : (2000 : Int) < (b.length : Int) := by omega
    simp [this]
  by_cases h3 : 300 < cuts.length
  · have : (300 : Int) < (cuts.length : Int) := by omega
    simp [this]
  have g1 : ¬ (200 : Int) < (r.1.length : Int) := by omega
  have g2 : ¬ (2000 : Int) < (b.length : Int) := by omega
  have g3 : ¬ (300 : Int) < (cuts.length : Int) := by omega
  simp only [g1, g2, g3, decide_false, cond_false, F13_eq hr hb (by omega), Option.bind_some]
  by_cases c0 : chkR r = 0
  · have hf : feedS r b = ((feedR (r, []) b).1, (feedR (r, []) b).2, 0) := by
      unfold feedS feedR
      have : ¬ 65535 < b.length := by omega
      simp only [c0, ne_eq, not_true_eq_false, if_false, this]
      cases hbad : r.2 <;> simp
    have hprop : chkR (feedR (r, []) b).1 = 0 ∧ Bytes (feedR (r, []) b).1.1 ∧ (feedR (r, []) b).2.length ≤ 4000 := by
      unfold feedR
      cases hbad : r.2 with
      | true => simp; exact ⟨c0, hr⟩
      | false =>
        have hpc := parse_chk _ (r.1 ++ b) [] (Nat.le_refl _) (bytes_append hr hb)
        simp only [Bool.false_eq_true, if_false]
        refine ⟨hpc.1, hpc.2.1, ?_⟩
        have := hpc.2.2
        simp only [List.length_append, List.length_nil] at this
        omega
    rw [hf]
    simp only [decide_true, Bool.not_true, cond_false, F15_eq c0 hr hb hc (by omega) (by omega), Option.bind_some, beq_self_eq_true, cond_true, F16_eq, F17_eq (a := (feedR (r, []) b).2) (b := (feedR (r, []) b).2) (by omega), F14_eq hprop.2.1, hprop.1]
    by_cases hb0 : (b.length : Int) = 0 <;> simp [hb0]
  · have hf : feedS r b = (([], false), [], 1) := by unfold feedS; simp [c0]
    have h1 : chkR r = 1 := by unfold chkR at c0 ⊢; split <;> simp_all
    rw [hf]
    simp [F14_eq hr, h1]
theorem rdr_of {r : Rdr} (h : Fw.Good (.pair (.slice 5 (.int .u8)) .bool) r) : Bytes r.1 := fun n hn => byte_of (h.1.2 n hn)
theorem bs_of {l : List Int} (h : Fw.Good (.slice 5 (.int .u8)) l) : Bytes l := fun n hn => byte_of (h.2 n hn)
theorem pure3 (b : dens [.agg (.pair (.slice 5 (.int .u8)) .bool), .one (.slice 5 (.int .u8)), .one (.slice 5 (.int .u8))]) (h : Goods [.agg (.pair (.slice 5 (.int .u8)) .bool), .one (.slice 5 (.int .u8)), .one (.slice 5 (.int .u8))] b) : F3 b = some true :=
  F3_true (rdr_of h.1) (bs_of h.2.1) (bs_of h.2.2)
theorem pure4 (b : dens [.agg (.pair (.slice 5 (.int .u8)) .bool), .one (.slice 5 (.int .u8))]) (h : Goods [.agg (.pair (.slice 5 (.int .u8)) .bool), .one (.slice 5 (.int .u8))] b) : F4 b = some true :=
  F4_true (rdr_of h.1) (bs_of h.2)
theorem pure6 (b : dens [.one (.slice 5 (.int .u8)), .one (.int .u16), .one (.slice 5 (.int .u8))]) (h : Goods [.one (.slice 5 (.int .u8)), .one (.int .u16), .one (.slice 5 (.int .u8))] b) : F6 b = some true :=
  F6_true (bs_of h.1) (bs_of h.2.2) (u16_of h.2.1)
end Go.Proofs.Ytdidfddgoheomaa.R2
