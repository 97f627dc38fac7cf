/- Part of a proof: what the program's functions come to. -/
import Derived.Test.YtacebemdonoliaaFT5
set_option linter.unusedVariables false
set_option linter.unusedSimpArgs false
namespace Go.Proofs.Ytacebemdonoliaa.R4
open Go Go.Fw Go.Proofs RB
set_option maxRecDepth 20000
theorem goT_step {r : Rec} {acc : List Rec} (x : List Int) (hr : OkV r) (h4 : r.2.length ≤ 4096) (hl : acc.length < 64) (hlt : lastT acc < r.1) : goT acc (encR r ++ x) = goT (acc ++ [r]) x := by
  have hb : encR r ++ x = enc1 r.1 ++ (enc1 (r.2.length : Int) ++ (r.2 ++ x)) := by simp [encR]
  rw [hb]
  have h1 := get1_enc hr.1.1 hr.1.2 (enc1 (r.2.length : Int) ++ (r.2 ++ x))
  have h2 := get1_enc (n := (r.2.length : Int)) (by omega) (by omega) (r.2 ++ x)
  rw [goT, if_neg (enc1_ne _ _), if_neg (by omega)]
  simp only [h1, drop_enc, h2, ne_eq, not_true_eq_false, if_false, hlt, Int.toNat_natCast, List.take_left, List.drop_left]
  have c1 : ¬ (4096 : Int) < (r.2.length : Int) := by omega
  have c2 : ¬ ((r.2 ++ x).length : Int) < (r.2.length : Int) := by rw [List.length_append]; omega
  have c3 : x.length < (enc1 r.1 ++ (enc1 (r.2.length : Int) ++ (r.2 ++ x))).length := by
    simp only [List.length_append, enc1, List.length_cons]; omega
  simp only [c1, c2, if_false, c3, dite_true]
theorem goT_app : ∀ (l acc : List Rec) (x : List Int), (∀ r ∈ l, OkV r ∧ r.2.length ≤ 4096) → Sorted (acc ++ l) → (acc ++ l).length ≤ 64 → goT acc (l.flatMap encR ++ x) = goT (acc ++ l) x
  | [], acc, x, _, _, _ => by simp
  | r :: l, acc, x, hv, hs, hlen => by
    have hr := hv r (by simp)
    have ih := goT_app l (acc ++ [r]) x (fun y hy => hv y (by simp [hy])) (by simpa using hs) (by simpa using hlen)
    rw [List.flatMap_cons, List.append_assoc, goT_step _ hr.1 hr.2 (by simp only [List.length_append, List.length_cons] at hlen; omega) (lastT_lt hs hr.1.1.1), ih]
    simp
theorem get1_short {t : Int} (h0 : 0 ≤ t) {k : Nat} (hk : k < (enc1 t).length) : get1 ((enc1 t).take k) = (0, 0, 3) := by
  cases k with
  | zero => rfl
  | succ k =>
    have hw : wd (fst t) = wid t := (wid_of_fst h0 rfl).symm
    simp only [enc1, List.length_cons, dig_len] at hk
    simp only [enc1, List.take_succ_cons, get1, hw]
    rw [if_pos (by rw [List.length_take, dig_len]; omega)]
theorem take_app {a b : List Int} {k : Nat} (h : a.length ≤ k) : (a ++ b).take k = a ++ b.take (k - a.length) := by
  rw [List.take_append, List.take_of_length_le h]
/-- A record cut off. -/
theorem goT_part {r : Rec} {acc : List Rec} {k : Nat} (hr : OkV r) (h4 : r.2.length ≤ 4096) (hl : acc.length < 64) (hlt : lastT acc < r.1) (h0 : 0 < k) (hk : k < (encR r).length) : goT acc ((encR r).take k) = ([], 3) := by
  have hne : (encR r).take k ≠ [] := by
    intro h
    have := congrArg List.length h
    rw [List.length_take, List.length_nil] at this
    omega
  rw [goT, if_neg hne, if_neg (by omega)]
  unfold encR at hk ⊢
  by_cases c1 : k < (enc1 r.1).length
  · rw [List.take_append_of_le_length (by omega), get1_short hr.1.1 c1]
    simp
  · rw [take_app (by omega)]
    have h1 := get1_enc hr.1.1 hr.1.2 ((enc1 (r.2.length : Int) ++ r.2).take (k - (enc1 r.1).length))
    simp only [h1, drop_enc, ne_eq, not_true_eq_false, if_false, hlt]
    rw [List.length_append, List.length_append] at hk
    generalize hj : k - (enc1 r.1).length = j
    by_cases c2 : j < (enc1 (r.2.length : Int)).length
    · rw [List.take_append_of_le_length (by omega), get1_short (by omega) c2]
      simp
    · rw [take_app (by omega)]
      have h2 := get1_enc (n := (r.2.length : Int)) (by omega) (by omega) (r.2.take (j - (enc1 (r.2.length : Int)).length))
      have c3 : ¬ (4096 : Int) < (r.2.length : Int) := by omega
      have c4 : ((r.2.take (j - (enc1 (r.2.length : Int)).length)).length : Int) < (r.2.length : Int) := by rw [List.length_take]; omega
      simp only [h2, drop_enc, ne_eq, not_true_eq_false, if_false, c3, c4, if_true]
theorem goT_cut : ∀ (l acc : List Rec) (k : Nat), (∀ r ∈ l, OkV r ∧ r.2.length ≤ 4096) → Sorted (acc ++ l) → (acc ++ l).length ≤ 64 → k < (l.flatMap encR).length →
    (∃ j, j < l.length ∧ goT acc ((l.flatMap encR).take k) = (acc ++ l.take j, 0)) ∨ goT acc ((l.flatMap encR).take k) = ([], 3)
  | [], acc, k, _, _, _, hk => by simp at hk
  | r :: l, acc, k, hv, hs, hlen, hk => by
    have hr := hv r (by simp)
    have ha : acc.length < 64 := by simp only [List.length_append, List.length_cons] at hlen; omega
    have hlt := lastT_lt hs hr.1.1.1
    rw [List.flatMap_cons] at hk ⊢
    by_cases h0 : k = 0
    · subst h0
      left
      exact ⟨0, by simp, by simp [goT_nil]⟩
    · by_cases c : k < (encR r).length
      · right
        rw [List.take_append_of_le_length (by omega)]
        exact goT_part hr.1 hr.2 ha hlt (by omega) c
      · rw [take_app (by omega), goT_step _ hr.1 hr.2 ha hlt]
        rw [List.length_append] at hk
        rcases goT_cut l (acc ++ [r]) (k - (encR r).length) (fun y hy => hv y (by simp [hy])) (by simpa using hs) (by simpa using hlen) (by omega) with ⟨j, hj, he⟩ | he
        · left
          exact ⟨j + 1, by simp; omega, by rw [he]; simp⟩
        · right; exact he
theorem big_count : ∀ (l : List Rec), (∀ r ∈ l, bigV r = false) → (∀ r ∈ l, r.2.length ≤ 4096) → ∃ k : Nat, k ≤ l.length ∧ 4098 * k ≤ (l.flatMap encR).length ∧ (l.flatMap encR).length ≤ 4114 * k + 118 * (l.length - k)
  | [], _, _ => ⟨0, by simp, by simp, by simp⟩
  | r :: l, h, h4 => by
    obtain ⟨k, h1, h2, h3⟩ := big_count l (fun x hx => h x (by simp [hx])) (fun x hx => h4 x (by simp [hx]))
    have hr := h r (by simp)
    have hr4 := h4 r (by simp)
    have e1 := enc1_len r.1
    have e2 := enc1_len (r.2.length : Int)
    have e3 : 1 ≤ (enc1 r.1).length := by simp only [enc1, List.length_cons]; omega
    have e4 : 1 ≤ (enc1 (r.2.length : Int)).length := by simp only [enc1, List.length_cons]; omega
    have el : (encR r).length = (enc1 r.1).length + ((enc1 (r.2.length : Int)).length + r.2.length) := by simp [encR]
    unfold bigV at hr
    simp only [Bool.or_eq_false_iff, Bool.and_eq_false_iff, decide_eq_false_iff_not] at hr
    rw [List.flatMap_cons, List.length_append, List.length_cons, el]
    by_cases c : 100 < r.2.length
    · have : r.2.length = 4096 := by
        rcases hr.1 with q | q <;> omega
      exact ⟨k + 1, by omega, by omega, by omega⟩
    · exact ⟨k, by omega, by omega, by omega⟩
open Classical in
/-- TlvCut -/
theorem F7_true {l : List Rec} {cut : Int} {r : Rec} (hv : ∀ r ∈ l, OkV r) (hr : OkV r) (hl : l.length ≤ 9223372036854775807) : F7 (l, cut, r) = some true := by
  unfold F7
  simp only [both_self, F13_eq', Option.bind_some, Bool.not_true, cond_false, F14_eq l hl, F20_eq hv, Bool.or_true, cond_true]
  generalize hc : (bif
            bif
                bif !((l.all fun r => !bigV r) && decide ((l.length : Int) ≤ 70)) then true
                else !decide ((putT l).2 = 0) then
              true
            else decide (20 < (l.length : Int)) then
          true
        else decide (100 < (r.2.length : Int))) = c
  cases c with
  | true => rfl
  | false =>
    simp only [cond_false]
    simp only [Bool.cond_true_left, Bool.or_eq_false_iff, Bool.not_eq_false', Bool.and_eq_true, decide_eq_true_eq, decide_eq_false_iff_not] at hc
    obtain ⟨⟨⟨⟨hbig, h70⟩, hp⟩, h20⟩, h100⟩ := hc
    have hlen : l.length ≤ 20 := by omega
    have ho : okT l := by
      apply Classical.byContradiction; intro hn
      unfold putT at hp; rw [if_neg hn] at hp; simp at hp
    have hput : putT l = (l.flatMap encR, 0) := by
      unfold putT at hp ⊢
      rw [if_pos ho] at hp ⊢
      by_cases q : 65535 < (l.flatMap encR).length
      · rw [if_pos q] at hp; simp at hp
      · rw [if_neg q]
    have hel : (l.flatMap encR).length ≤ 65535 := by
      unfold putT at hp
      rw [if_pos ho] at hp
      apply Classical.byContradiction; intro hn
      rw [if_pos (by omega)] at hp; simp at hp
    have hel2 : (l.flatMap encR).length ≤ 62300 := by
      obtain ⟨k, k1, k2, k3⟩ := big_count l (fun x hx => by have := List.all_eq_true.1 hbig x hx; simpa using this) ho.2.1
      omega
    have hvv : ∀ x ∈ l, OkV x ∧ x.2.length ≤ 4096 := fun x hx => ⟨hv x hx, ho.2.1 x hx⟩
    have hEb := encs_bytes hv
    rw [hput]
    simp only
    have e16 : ∀ m : List Rec, m.length ≤ 64 → F16 (m, m) = some true := fun m hm => by rw [F16_eq (by omega)]; simp
    have hwl : IntKind.wrap .u64 (r.2.length : Int) = (r.2.length : Int) := RB.wrap_u64 (by omega) (by omega)
    have e1 := enc1_len r.1
    have e2 := enc1_len (r.2.length : Int)
    have l1 : (([] : List Int).length + (l.flatMap encR).length) * 1 ≤ LIM := by unfold LIM; simp only [List.length_nil]; omega
    have l2 : ((([] : List Int) ++ l.flatMap encR).length + (enc1 r.1 ++ enc1 (r.2.length : Int)).length) * 1 ≤ LIM := by unfold LIM; simp only [List.length_append, List.length_nil]; omega
    have l3 : ((([] : List Int) ++ l.flatMap encR ++ (enc1 r.1 ++ enc1 (r.2.length : Int))).length + r.2.length) * 1 ≤ LIM := by unfold LIM; simp only [List.length_append, List.length_nil]; omega
    have hmore : F22 (([] : List Int) ++ l.flatMap encR ++ (enc1 r.1 ++ enc1 (r.2.length : Int)) ++ r.2) = some (if lastT l < r.1 then (l ++ [r], 0) else ([], 2)) := by
      have he : ([] : List Int) ++ l.flatMap encR ++ (enc1 r.1 ++ enc1 (r.2.length : Int)) ++ r.2 = l.flatMap encR ++ encR r := by simp [encR]
      rw [he]
      have hb : Bs (l.flatMap encR ++ encR r) := by
        intro n hn
        rcases List.mem_append.1 hn with hn | hn
        · exact hEb n hn
        · exact encs_bytes (l := [r]) (by simpa using hr) n (by simpa using hn)
      rw [F22_eq hb]
      unfold getT
      have hrl : (encR r).length ≤ 118 := by simp only [encR, List.length_append]; omega
      rw [if_neg (by rw [List.length_append]; omega), goT_app l [] (encR r) hvv (by simpa using ho.2.2) (by simpa using ho.1), List.nil_append]
      by_cases q : lastT l < r.1
      · rw [if_pos q]
        have := goT_step (r := r) (acc := l) [] hr (by omega) (by omega) q
        rw [List.append_nil] at this
        rw [this, goT_nil]
      · rw [if_neg q, goT, if_neg (by simp [encR, enc1]), if_neg (by omega)]
        have h1 := get1_enc hr.1.1 hr.1.2 (enc1 (r.2.length : Int) ++ r.2)
        unfold encR
        simp only [h1, ne_eq, not_true_eq_false, if_false, q, not_false_eq_true, if_true]
    have hcutr : ∀ k : Nat, k < (l.flatMap encR).length → (∃ j, j < l.length ∧ F22 ((l.flatMap encR).take k) = some (l.take j, 0)) ∨ F22 ((l.flatMap encR).take k) = some ([], 3) := by
      intro k hk
      have hb : Bs ((l.flatMap encR).take k) := fun n hn => hEb n (List.mem_of_mem_take hn)
      rw [F22_eq hb]
      unfold getT
      rw [if_neg (by rw [List.length_take]; omega)]
      rcases goT_cut l [] k hvv (by simpa using ho.2.2) (by simpa using ho.1) hk with ⟨j, hj, he⟩ | he
      · left; exact ⟨j, hj, by rw [he]; simp⟩
      · right; rw [he]
    by_cases hz : l.length = 0
    · have hz' : decide ((l.length : Int) = 0) = true := decide_eq_true (by omega)
      have hlz : l = [] := List.length_eq_zero_iff.1 hz
      have hcz : (bif decide (0 ≤ cut) then decide (cut < (((l.flatMap encR).length : Nat) : Int)) else false) = false := by
        subst hlz
        by_cases q : 0 ≤ cut
        · have : ¬ cut < 0 := by omega
          simp [q, this]
        · simp [q]
      simp only [hcz, cond_false, hz', cond_true]
    · have hz' : decide ((l.length : Int) = 0) = false := decide_eq_false (by omega)
      have hix : IntKind.wrap .i64 ((l.length : Int) - 1) = ((l.length - 1 : Nat) : Int) := by rw [RB.wrap_i64 (by omega) (by omega)]; omega
      have hix2 : IntKind.wrap .i64 ((l.length : Int) + 1) = ((l.length + 1 : Nat) : Int) := by rw [RB.wrap_i64 (by omega) (by omega)]; simp
      have hla : l.length - 1 < l.length := by omega
      have hin : inb ((l.length - 1 : Nat) : Int) l.length = true := RB.inb_true (by omega) (by omega)
      have hlast := lastT_get (acc := l) (by omega)
      have hfin : ∀ q : List Rec × Int, q = (if lastT l < r.1 then (l ++ [r], 0) else ([], 2)) → (bif decide (r.1 ≤ (l[l.length - 1]).1) then
           some (bif decide (q.2 = 2) then decide ((q.1.length : Int) = 0) else false)
          else some (bif decide (q.2 = 0) then decide ((q.1.length : Int) = ((l.length + 1 : Nat) : Int)) else false)) = some true := by
        rintro q rfl
        rw [hlast]
        by_cases c : (l[l.length - 1]).1 < r.1
        · have : ¬ r.1 ≤ (l[l.length - 1]).1 := by omega
          simp [c, this]
        · have : r.1 ≤ (l[l.length - 1]).1 := by omega
          simp [c, this]
      by_cases hcu : 0 ≤ cut ∧ cut < ((l.flatMap encR).length : Int)
      · have hcz : (bif decide (0 ≤ cut) then decide (cut < (((l.flatMap encR).length : Nat) : Int)) else false) = true := by simp only [hcu.1, hcu.2, decide_true, cond_true]
        have hic : inb cut ((l.flatMap encR).length + 1) = true := RB.inb_true hcu.1 (by omega)
        rcases hcutr cut.toNat (by omega) with ⟨j, hj, he⟩ | he
        · have hjl : (l.take j).length = j := by rw [List.length_take]; omega
          have hd : decide ((l.length : Int) ≤ ((l.take j).length : Int)) = false := decide_eq_false (by omega)
          have hij : inb ((l.take j).length : Int) (l.length + 1) = true := RB.inb_true (by omega) (by omega)
          have htt : l.take ((l.take j).length : Int).toNat = l.take j := by rw [Int.toNat_natCast, hjl]
          simp only [hcz, hic, cond_true, he, Option.bind_some, decide_true, Bool.not_true, show ((false == true) = false) from rfl, cond_false, beq_self_eq_true, hd, show ((false == false) = true) from rfl, hij, htt, e16 (l.take j) (by omega), hz', l1, l2, l3, hwl, F26_two hr.1.1 (Int.natCast_nonneg r.2.length), hmore, hix, hix2, hin, rd_nat (t := tR) hla]
          exact hfin _ rfl
        · simp only [hcz, hic, cond_true, he, Option.bind_some, show decide ((3 : Int) = 0) = false from rfl, Bool.not_false, show ((true == true) = true) from rfl, show decide (((([] : List Rec).length : Nat) : Int) = 0) = true from rfl, decide_true, Bool.not_true, show ((false == false) = true) from rfl, show ((false == true) = false) from rfl, cond_false, hz', l1, l2, l3, hwl, F26_two hr.1.1 (Int.natCast_nonneg r.2.length), hmore, hix, hix2, hin, rd_nat (t := tR) hla]
          exact hfin _ rfl
      · have hcz : (bif decide (0 ≤ cut) then decide (cut < (((l.flatMap encR).length : Nat) : Int)) else false) = false := by
          by_cases q : 0 ≤ cut
          · have : ¬ cut < ((l.flatMap encR).length : Int) := fun h => hcu ⟨q, h⟩
            simp only [q, this, decide_true, decide_false, cond_true]
          · simp only [q, decide_false, cond_false]
        simp only [hcz, cond_false, hz', l1, l2, l3, decide_true, cond_true, hwl, F26_two hr.1.1 (Int.natCast_nonneg r.2.length), Option.bind_some, hmore, hix, hix2, hin, rd_nat (t := tR) hla]
        exact hfin _ rfl
theorem pure7 (b : dens [.one (.slice 26 (.pair (.int .u64) (.slice 5 (.int .u8)))), .one (.int .i64), .agg (.pair (.int .u64) (.slice 5 (.int .u8)))]) (h : Goods [.one (.slice 26 (.pair (.int .u64) (.slice 5 (.int .u8)))), .one (.int .i64), .agg (.pair (.int .u64) (.slice 5 (.int .u8)))] b) : F7 b = some true :=
  F7_true (recs_of h.1).1 ⟨u64_of h.2.2.1, fun n hn => byte_of (h.2.2.2.2 n hn)⟩ (recs_of h.1).2
end Go.Proofs.Ytacebemdonoliaa.R4
