/- Part of a proof: what the program's functions come to. -/
import Derived.Test.YtcpcbeeghjigkaaOAVw
set_option linter.unusedVariables false
set_option linter.unusedSimpArgs false
namespace Go.Proofs.Ytcpcbeeghjigkaa.R3
open Go Go.Fw Go.Proofs RB
set_option maxRecDepth 20000
/-! ### the document's answer -/
theorem F53_eq (a b : Tm) : F53 (a, b) = some (decide (a = b)) := by
  obtain ⟨a1, a2, a3⟩ := a
  obtain ⟨b1, b2, b3⟩ := b
  unfold F53 F50
  by_cases c1 : a1 = b1
  · by_cases c2 : a2 = b2
    · by_cases c3 : a3 = b3 <;> simp [c1, c2, c3]
    · simp [c1, c2]
  · simp [c1]
theorem ix_skip : ∀ (pre : List Tm) (n : Tm) (post : List Tm), n ∉ pre → ix (pre ++ n :: post) n = pre.length
  | [], n, post, _ => by simp [ix]
  | x :: r, n, post, h => by
    simp only [List.mem_cons, not_or] at h
    simp only [List.cons_append, ix, if_neg h.1, ix_skip r n post h.2, List.length_cons]
theorem ix_first {a : List Tm} {i : Nat} (h : i < a.length) (hn : a[i] ∉ a.take i) : ix a a[i] = i := by
  have h1 : a = a.take i ++ a[i] :: a.drop (i + 1) := by rw [← List.drop_eq_getElem_cons h, List.take_append_drop]
  have h2 := ix_skip (a.take i) a[i] (a.drop (i + 1)) hn
  rw [← h1, List.length_take] at h2
  omega
theorem ix_early {a : List Tm} {i : Nat} {n : Tm} (hn : n ∈ a.take i) : ix a n < i := by
  have h1 := ix_append (a.drop i) hn
  rw [List.take_append_drop] at h1
  have h2 := ix_lt hn
  rw [List.length_take] at h2
  omega
def plc (a : List Tm) (n : Tm) : Int := if n ∈ a then (ix a n : Int) else -1
theorem F55_eq {a : List Tm} {n : Tm} (hl : a.length ≤ 9223372036854775807) : F55 (a, n) = some (plc a n) := by
  unfold F55
  refine lfp_rule (fun (x : Int × Int) => ∃ i : Nat, x.2 = (i : Int) ∧ i ≤ a.length ∧ n ∉ a.take i) (fun x => a.length - x.2.toNat) (fun _ => plc a n) ?_ (0, 0) ⟨0, rfl, by omega, by simp⟩
  rintro ⟨u, i'⟩ ⟨i, hi', hi, hn⟩ rec hrec
  simp only at hi'
  subst hi'
  simp only
  by_cases hlt : i < a.length
  · have k1 : ((i : Int) < (a.length : Int)) := by omega
    simp only [k1, decide_true, cond_true, inb_true (Int.natCast_nonneg i) k1, rd_nat (t := tT) hlt, Prod.eta, F53_eq, Option.bind_some]
    by_cases he : a[i] = n
    · subst he
      simp only [decide_true, cond_true]
      unfold plc
      rw [if_pos (List.getElem_mem hlt), ix_first hlt hn]
    · simp only [he, decide_false, cond_false]
      rw [RB.wrap_i64 (n := (i : Int) + 1) (by omega) (by omega)]
      refine hrec _ ⟨i + 1, by simp, by omega, ?_⟩ (by simp only; omega)
      rw [List.take_succ_eq_append_getElem hlt]
      simp only [List.mem_append, List.mem_singleton, not_or]
      exact ⟨hn, fun h => he h.symm⟩
  · have k1 : ¬ ((i : Int) < (a.length : Int)) := by omega
    simp only [k1, decide_false, cond_false]
    rw [List.take_of_length_le (by omega)] at hn
    unfold plc
    rw [if_neg hn]
open Classical in
theorem F24_eq (a : List Tm) : F24 a = some (if valid a then 0 else 1) := by
  unfold F24
  by_cases hl : 1048576 < a.length
  · have h1 : (1048576 : Int) < (a.length : Int) := by omega
    have hn : ¬ valid a := fun h => by have := h.len; omega
    simp [h1, hn]
  · have h1 : ¬ (1048576 : Int) < (a.length : Int) := by omega
    simp only [h1, decide_false, cond_false]
    refine lfp_rule (fun (x : Int × Int) => ∃ i : Nat, x.2 = (i : Int) ∧ i ≤ a.length ∧ ∀ j (h : j < a.length), j < i → ok1 (a.take j) a[j]) (fun x => a.length - x.2.toNat)
      (fun _ => if valid a then 0 else 1) ?_ ((0 : Int), (0 : Int)) ⟨0, rfl, by omega, fun j _ hj => by omega⟩
    rintro ⟨u, i'⟩ ⟨i, hi', hi, hok⟩ rec hrec
    simp only at hi'
    subst hi'
    simp only
    by_cases hlt : i < a.length
    · have k1 : ((i : Int) < (a.length : Int)) := by omega
      have hbad : ¬ ok1 (a.take i) a[i] → ¬ valid a := fun h hv => h (hv.ok i hlt)
      have hpl : (a.take i).length = i := by rw [List.length_take]; omega
      simp only [k1, decide_true, cond_true, inb_true (Int.natCast_nonneg i) k1, rd_nat (t := tT) hlt, Prod.eta, F55_eq (a := a) (n := a[i]) (by omega), Option.bind_some]
      by_cases c2 : a[i].2.1 < -1
      · have : ¬ valid a := hbad fun h => by have := h.2.1; omega
        simp [c2, this]
      by_cases c3 : (i : Int) ≤ a[i].2.1
      · have : ¬ valid a := hbad fun h => by have := h.2.1; omega
        simp [c2, c3, this]
      by_cases c4 : 0 ≤ a[i].2.1 ∧ a[i].1 ≠ 0
      · have : ¬ valid a := hbad fun h => c4.2 (h.2.2.1 (by omega))
        simp [c2, c3, c4.1, c4.2, this]
      have c4' : (bif decide (0 ≤ a[i].2.1) then !decide (a[i].1 = 0) else false) = false := by
        by_cases q : 0 ≤ a[i].2.1
        · have : a[i].1 = 0 := Classical.byContradiction fun h => c4 ⟨q, h⟩
          simp [q, this]
        · simp [q]
      by_cases c5 : (4096 : Int) < (a[i].2.2.length : Int)
      · have : ¬ valid a := hbad fun h => by have := h.2.2.2; omega
        simp only [c2, c3, c4', c5, decide_true, decide_false, cond_true, cond_false, this, if_false]
        rfl
      simp only [c2, c3, c4', c5, decide_true, decide_false, cond_true, cond_false, beq_self_eq_true]
      have hpm : plc a a[i] = (ix a a[i] : Int) := by unfold plc; rw [if_pos (List.getElem_mem hlt)]
      by_cases c1 : a[i] ∈ a.take i
      · have hv : ¬ valid a := hbad fun h => h.1 c1
        have := ix_early c1
        have hd : plc a a[i] < (i : Int) := by rw [hpm]; omega
        simp only [hd, decide_true, cond_true, hv, if_false]
      · have := ix_first hlt c1
        have hd : ¬ plc a a[i] < (i : Int) := by rw [hpm]; omega
        simp only [hd, decide_false, cond_false]
        rw [RB.wrap_i64 (n := (i : Int) + 1) (by omega) (by omega)]
        refine hrec _ ⟨i + 1, by simp, by omega, fun j hj hji => ?_⟩ (by simp only; omega)
        by_cases hij : j = i
        · subst hij
          refine ⟨c1, ⟨by omega, by rw [hpl]; omega⟩, fun q => ?_, by omega⟩
          exact Classical.byContradiction fun h => c4 ⟨by omega, h⟩
        · exact hok j hj (by omega)
    · have k1 : ¬ ((i : Int) < (a.length : Int)) := by omega
      have hv : valid a := ⟨by omega, fun j hj => hok j hj (by omega)⟩
      simp only [k1, decide_false, cond_false, hv, if_true]
def at_ (o : Option Nat) : Int := match o with | some y => (y : Int) | none => -1
theorem long_loop {l : List (List Int)} (hl : l.length ≤ 1000000) {R : Type} (e : R) (o : Option R) (r : R) (hr : (if l.any longT = true then some e else o) = some r) :
    lfp (fun (rec2 : (Int × Int × Int) → Option R) (x2 : Int × Int × Int) =>
      bif decide (x2.2.2 < (l.length : Int)) then (
      bif inb x2.2.2 l.length then
      bif decide (4096 < ((rd (.slice 5 (.int .u8)) l x2.2.2).length : Int)) then (some e) else (rec2 (x2.1, x2.2.1, (IntKind.wrap .i64 (x2.2.2 + 1))))
      else none)
      else o) (0, 0, 0) = some r := by
  refine lfp_rule (fun (x : Int × Int × Int) => ∃ i : Nat, x.2.2 = (i : Int) ∧ i ≤ l.length ∧ ∀ j (h : j < l.length), j < i → longT l[j] = false) (fun x => l.length - x.2.2.toNat) (fun _ => r) ?_ (0, 0, 0) ⟨0, rfl, by omega, fun j _ hj => by omega⟩
  rintro ⟨u, v, i'⟩ ⟨i, hi', hi, hok⟩ rec hrec
  simp only at hi'
  subst hi'
  simp only
  by_cases hlt : i < l.length
  · have k1 : ((i : Int) < (l.length : Int)) := by omega
    simp only [k1, decide_true, cond_true, inb_true (Int.natCast_nonneg i) k1, rd_nat (t := .slice 5 (.int .u8)) hlt]
    by_cases c : (4096 : Int) < (l[i].length : Int)
    · have : l.any longT = true := List.any_eq_true.2 ⟨l[i], List.getElem_mem hlt, by unfold longT; simpa using c⟩
      rw [if_pos this] at hr
      simp only [c, decide_true, cond_true, hr]
    · simp only [c, decide_false, cond_false]
      rw [RB.wrap_i64 (n := (i : Int) + 1) (by omega) (by omega)]
      refine hrec _ ⟨i + 1, by simp, by omega, fun j hj hji => ?_⟩ (by simp only; omega)
      by_cases hij : j = i
      · subst hij; unfold longT; simpa using c
      · exact hok j hj (by omega)
  · have k1 : ¬ ((i : Int) < (l.length : Int)) := by omega
    have : ¬ l.any longT = true := by
      rw [Bool.not_eq_true, List.any_eq_false]
      intro x hx
      obtain ⟨j, hj, rfl⟩ := List.getElem_of_mem hx
      simp [hok j hj (by omega)]
    rw [if_neg this] at hr
    simp only [k1, decide_false, cond_false, hr]
theorem F29_eq {a : List Tm} {k : Int} {t : List Int} {l : List (List Int)} (hl : l.length ≤ 1000) : F29 (a, k, t, l) = some (findA a k t l) := by
  unfold F29 findA
  simp only [F24_eq, Option.bind_some]
  by_cases hv : valid a
  · have hal := hv.len
    have k0 : ([t].length + l.length) * 24 ≤ LIM := by unfold LIM; simp; omega
    simp only [hv, if_true, decide_true, Bool.not_true, cond_false, not_true_eq_false, if_false, k0, cond_true]
    refine long_loop (l := [t] ++ l) (by simp; omega) ((0 : Int), (4 : Int)) _ _ ?_
    by_cases c : longT t = true ∨ l.any longT = true
    · rw [if_pos (by simpa using c), if_pos c]
    · rw [if_neg (by simpa using c), if_neg c]
      simp only [F55_eq (a := a) (n := (k, ((-1 : Int), t))) (by omega), Option.bind_some]
      refine lfp_rule (fun (x : Int × Int) => ∃ i : Nat, x.2 = (i : Int) ∧ i ≤ l.length ∧ x.1 = at_ (look a k t (l.take i))) (fun x => l.length - x.2.toNat)
        (fun _ => (match look a k t l with | some y => ((y : Int), (0 : Int)) | none => ((0 : Int), (5 : Int)) : Int × Int)) ?_ ((plc a (k, ((-1 : Int), t))), (0 : Int)) ⟨0, rfl, by omega, ?_⟩
      · rintro ⟨p, i'⟩ ⟨i, hi', hi, hst⟩ rec hrec
        simp only at hi' hst
        subst hi'
        simp only
        by_cases hlt : i < l.length
        · have k1 : ((i : Int) < (l.length : Int)) := by omega
          simp only [k1, decide_true, cond_true, inb_true (Int.natCast_nonneg i) k1, rd_nat (t := .slice 5 (.int .u8)) hlt, F55_eq (a := a) (n := (0, (p, l[i]))) (by omega), Option.bind_some]
          rw [RB.wrap_i64 (n := (i : Int) + 1) (by omega) (by omega)]
          cases hlk : look a k t (l.take i) with
          | none =>
            rw [hlk] at hst
            have hp : ¬ 0 ≤ p := by rw [hst]; unfold at_; simp
            simp only [hp, decide_false, cond_false]
            refine hrec _ ⟨i + 1, by simp, by omega, ?_⟩ (by simp only; omega)
            rw [List.take_succ_eq_append_getElem hlt, look_none hlk]
            exact hst
          | some y =>
            rw [hlk] at hst
            have hp : p = (y : Int) := hst
            subst hp
            simp only [show (0 : Int) ≤ (y : Int) by omega, decide_true, cond_true]
            refine hrec _ ⟨i + 1, by simp, by omega, ?_⟩ (by simp only; omega)
            rw [List.take_succ_eq_append_getElem hlt, look_append hlk]
            unfold plc
            by_cases hm : (0, ((y : Int), l[i])) ∈ a
            · simp [hm, at_]
            · simp [hm, at_]
        · have k1 : ¬ ((i : Int) < (l.length : Int)) := by omega
          have hie : i = l.length := by omega
          rw [hie, List.take_length] at hst
          simp only [k1, decide_false, cond_false]
          cases hlk : look a k t l with
          | none =>
            rw [hlk] at hst
            have hp : p < 0 := by rw [hst]; unfold at_; simp
            simp only [hp, decide_true, cond_true]
          | some y =>
            rw [hlk] at hst
            have hp : ¬ p < 0 := by rw [hst]; unfold at_; simp
            simp only [hp, decide_false, cond_false]
            rw [hst]; rfl
      · simp only [List.take_zero, look, wk, plc]
        by_cases hm : (k, ((-1 : Int), t)) ∈ a
        · simp [hm, at_]
        · simp [hm, at_]
  · simp [hv]
theorem trN_len {a : List Tm} (h : valid a) : ∀ (n x : Nat) (hx : x < a.length), x ≤ n → (trN a x).2.length ≤ x + 1 := by
  intro n
  induction n with
  | zero =>
    intro x hx hn
    have hu := up_lt h hx
    rw [trN_step h hx, trN_neg (x := a[x].2.1) (by omega)]
    simp
  | succ n ih =>
    intro x hx hn
    have hu := up_lt h hx
    rw [trN_step h hx]
    by_cases hneg : a[x].2.1 < 0
    · rw [trN_neg hneg]; simp
    · obtain ⟨z, hz⟩ : ∃ z : Nat, a[x].2.1 = z := ⟨a[x].2.1.toNat, by omega⟩
      rw [hz]
      have := ih z (by omega) (by omega)
      simp only [List.length_cons]
      omega
theorem F31_eq (a : List Tm) (x : Int) : F31 (a, x) = some (pathA a x) := by
  unfold F31
  refine lfp_rule (fun (y : List Tm × Int) => y.1 = a) (fun y => (y.2 + 1).toNat) (fun y => pathA a y.2) ?_ (a, x) rfl
  rintro ⟨_, y⟩ rfl rec hrec
  rename_i a
  unfold B31
  simp only [F24_eq, Option.bind_some]
  unfold pathA
  by_cases hv : valid a
  · have hlen := hv.len
    by_cases c1 : y < 0
    · simp [hv, c1]
    by_cases c2 : (a.length : Int) ≤ y
    · simp [hv, c1, c2]
    obtain ⟨n, rfl⟩ : ∃ n : Nat, y = n := ⟨y.toNat, by omega⟩
    have hn : n < a.length := by omega
    have hu := up_lt hv hn
    have ht := hv.text _ (List.getElem_mem hn)
    have k3 : (([] : List Int).length + a[n].2.2.length) * 1 ≤ LIM := by unfold LIM; simp; omega
    simp only [hv, c1, c2, if_true, decide_true, decide_false, Bool.not_true, cond_false, not_true_eq_false, or_self, if_false, inb_true (Int.natCast_nonneg n) (show (n : Int) < (a.length : Int) by omega), cond_true, rd_nat (t := tT) hn, Bool.or_true, k3, List.nil_append]
    rw [trN_step hv hn]
    by_cases hneg : a[n].2.1 < 0
    · simp only [hneg, decide_true, cond_true, if_true, trN_neg hneg]
      simp
    · obtain ⟨z, hz⟩ : ∃ z : Nat, a[n].2.1 = z := ⟨a[n].2.1.toNat, by omega⟩
      simp only [hneg, decide_false, cond_false, if_false]
      rw [hrec (a, a[n].2.1) rfl (by show (a[n].2.1 + 1).toNat < ((n : Int) + 1).toNat; omega)]
      have hzl : z < a.length := by omega
      have hl := trN_len hv z z hzl (Nat.le_refl _)
      unfold pathA
      have hb : ¬ (¬ valid a ∨ a[n].2.1 < 0 ∨ (a.length : Int) ≤ a[n].2.1) := by
        rintro (q | q | q)
        · exact q hv
        · exact hneg q
        · omega
      rw [if_neg hb]
      have k4 : ((trN a a[n].2.1).2.reverse.length + 1) * 24 ≤ LIM := by rw [hz, List.length_reverse]; unfold LIM; omega
      simp only [Option.bind_some, k4, decide_true, cond_true, List.reverse_cons]
  · simp [hv]
theorem F5_true {a : List Tm} {k : Int} {t : List Int} {l : List (List Int)} {g : Int} (ha : a.length ≤ 9223372036854775807) (hl : l.length ≤ 9223372036854775807) : F5 (a, k, t, l, g) = some true := by
  unfold F5
  simp only [F14_true, F15_eq ha, F16_eq hl, F16_eq (l := [t]) (by simp), Option.bind_some, Bool.not_true, cond_false]
  cases f1 : fewA a with
  | false => rfl
  | true =>
    cases f2 : fewT l with
    | false => rfl
    | true =>
      cases f3 : fewT [t] with
      | false => rfl
      | true =>
        have ll : l.length ≤ 12 := by
          unfold fewT at f2; simp only [Bool.and_eq_true, decide_eq_true_eq] at f2; omega
        have la : a.length ≤ 80 := by
          unfold fewA at f1; simp only [Bool.and_eq_true, decide_eq_true_eq] at f1; omega
        have hpl : (pathA a g).2.1.length ≤ 1000000 := by
          unfold pathA
          split
          · simp
          · rename_i hh
            have hv : valid a := Classical.byContradiction fun q => hh (.inl q)
            have h1 : ¬ g < 0 := fun q => hh (.inr (.inl q))
            have h2 : ¬ (a.length : Int) ≤ g := fun q => hh (.inr (.inr q))
            obtain ⟨n, rfl⟩ : ∃ n : Nat, g = n := ⟨g.toNat, by omega⟩
            have := trN_len hv n n (by omega) (Nat.le_refl _)
            simp only [List.length_reverse]
            omega
        simp only [Bool.not_true, beq_self_eq_true, cond_true, cond_false, F28_eq hl, F29_eq (a := a) (k := k) (t := t) (l := l) (by omega), F30_eq, F31_eq, Option.bind_some, decide_true, F27_eq (a := (pathA a g).2.1) (b := (pathA a g).2.1) (by omega)]
theorem pure5 (b : dens [.agg (.slice 39 (.pair (.int .u64) (.pair (.int .i64) (.slice 5 (.int .u8))))), .one (.int .u64), .one (.slice 5 (.int .u8)), .one (.slice 26 (.slice 5 (.int .u8))), .one (.int .i64)])
    (h : Goods [.agg (.slice 39 (.pair (.int .u64) (.pair (.int .i64) (.slice 5 (.int .u8))))), .one (.int .u64), .one (.slice 5 (.int .u8)), .one (.slice 26 (.slice 5 (.int .u8))), .one (.int .i64)] b) : F5 b = some true := F5_true h.1.1 h.2.2.2.1.1
end Go.Proofs.Ytcpcbeeghjigkaa.R3
