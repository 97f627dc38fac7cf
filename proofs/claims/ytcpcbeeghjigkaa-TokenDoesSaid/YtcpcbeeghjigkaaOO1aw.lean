/- Part of a proof: what the program's functions come to. -/
import Derived.Test.YtcpcbeeghjigkaaOMNw
import Derived.Test.YtcpcbeeghjigkaaOA7aw
set_option linter.unusedVariables false
set_option linter.unusedSimpArgs false
namespace Go.Proofs.Ytcpcbeeghjigkaa.R3
open Go Go.Fw Go.Proofs RB
set_option maxRecDepth 20000
theorem F22_eq {a b : List Tm} (hl : a.length ≤ 4611686018427387904) : F22 (a, b) = some (decide (a = b)) := by
  unfold F22
  by_cases hn : a.length = b.length
  · have : (a.length : Int) = (b.length : Int) := by omega
    simp only [this, decide_true, Bool.not_true, cond_false]
    rw [← this]
    refine lfp_rule (fun (x : Bool × Int) => ∃ i : Nat, x.2 = (i : Int) ∧ i ≤ a.length ∧ a.take i = b.take i) (fun x => a.length - x.2.toNat) (fun _ => decide (a = b)) ?_ (false, 0) ⟨0, rfl, by omega, rfl⟩
    rintro ⟨y, i'⟩ ⟨i, hi', hi, he⟩ rec hrec
    simp only at hi'
    subst hi'
    simp only
    by_cases hlt : i < a.length
    · have hlb : i < b.length := by omega
      have k1 : ((i : Int) < (a.length : Int)) := by omega
      have k2 : ((i : Int) < (b.length : Int)) := by omega
      simp only [k1, decide_true, cond_true, inb_true (Int.natCast_nonneg i) k1, inb_true (Int.natCast_nonneg i) k2, rd_nat (t := tT) hlt, rd_nat (t := tT) hlb, Prod.eta, F53_eq, Option.bind_some, both_self]
      by_cases c : a[i] = b[i]
      · simp only [c, decide_true, Bool.not_true, cond_false]
        rw [RB.wrap_i64 (n := (i : Int) + 1) (by omega) (by omega)]
        refine hrec _ ⟨i + 1, by simp, by omega, ?_⟩ (by simp only; omega)
        rw [List.take_succ_eq_append_getElem hlt, List.take_succ_eq_append_getElem hlb, he, c]
      · have hne : a ≠ b := fun h => c (by subst h; rfl)
        simp [c, hne]
    · have k1 : ¬ ((i : Int) < (a.length : Int)) := by omega
      have hab : a = b := by
        have h1 : a.take i = a := List.take_of_length_le (by omega)
        have h2 : b.take i = b := List.take_of_length_le (by omega)
        rw [← h1, ← h2, he]
      have hd : decide (a = b) = true := decide_eq_true hab
      simp only [k1, decide_false, cond_false, hd]
  · have : ¬ (a.length : Int) = (b.length : Int) := by omega
    have hne : a ≠ b := fun h => hn (by rw [h])
    simp [this, hne]
theorem F17_eq {a : List Tm} (hl : a.length ≤ 1048576) (ht : ∀ n ∈ a, n.2.2.length ≤ 4096) : F17 a = some a := by
  unfold F17
  simp only [both_self]
  refine lfp_rule (fun (x : Int × List Tm × (Unit × Unit)) => ∃ i : Nat, x.1 = (i : Int) ∧ i ≤ a.length ∧ x.2.1 = a.take i) (fun x => a.length - x.1.toNat) (fun _ => a) ?_ _ ⟨0, rfl, by omega, rfl⟩
  rintro ⟨i', acc, u⟩ ⟨i, hi', hi, he⟩ rec hrec
  simp only at hi' he
  subst hi'; subst he
  simp only
  by_cases hlt : i < a.length
  · have k1 : ((i : Int) < (a.length : Int)) := by omega
    have hti := ht _ (List.getElem_mem hlt)
    have k3 : (([] : List Int).length + a[i].2.2.length) * 1 ≤ LIM := by unfold LIM; simp; omega
    have k4 : ((a.take i).length + 1) * 40 ≤ LIM := by rw [List.length_take]; unfold LIM; omega
    simp only [k1, decide_true, cond_true, inb_true (Int.natCast_nonneg i) k1, rd_nat (t := tT) hlt, Bool.or_true, k3, k4, List.nil_append, Prod.eta]
    rw [RB.wrap_i64 (n := (i : Int) + 1) (by omega) (by omega)]
    refine hrec ((i : Int) + 1, _, _) ⟨i + 1, by simp, by omega, ?_⟩ (by simp only; omega)
    rw [List.take_succ_eq_append_getElem hlt]
  · have k1 : ¬ ((i : Int) < (a.length : Int)) := by omega
    simp only [k1, decide_false, cond_false, List.take_of_length_le (show a.length ≤ i by omega)]
theorem F52_eq {a : List Tm} {n : Tm} (hu : -1 ≤ n.2.1) : F52 (a, n) = some (putA a n) := by
  unfold F52 putA
  simp only [Prod.eta, F24_eq, Option.bind_some, both_self]
  by_cases hv : valid a
  · have hlen := hv.len
    by_cases c1 : (a.length : Int) ≤ n.2.1
    · simp [hv, c1]
    · have cu : ¬ n.2.1 < -1 := by omega
      by_cases c2 : 4096 < n.2.2.length
      · have c2' : (4096 : Int) < (n.2.2.length : Int) := by omega
        simp [hv, c1, cu, c2, c2']
      · have c2' : ¬ (4096 : Int) < (n.2.2.length : Int) := by omega
        simp only [hv, if_true, decide_true, Bool.not_true, c1, cu, decide_false, cond_false, c2', F17_eq hlen hv.text, Option.bind_some, F55_eq (a := a) (n := n) (by omega), not_true_eq_false, false_or, if_false, c2]
        by_cases c3 : n ∈ a
        · have : plc a n = (ix a n : Int) := by unfold plc; rw [if_pos c3]
          rw [if_pos c3, this]
          have h0 : (0 : Int) ≤ (ix a n : Int) := by omega
          simp only [h0, decide_true, cond_true]
        · have : plc a n = -1 := by unfold plc; rw [if_neg c3]
          rw [if_neg c3, this]
          simp only [show decide ((0 : Int) ≤ -1) = false from rfl, cond_false]
          by_cases c4 : a.length = 1048576
          · have c4' : (a.length : Int) = 1048576 := by omega
            rw [if_pos c4]
            have hd := decide_eq_true c4'
            simp only [hd, cond_true]
          · have c4' : ¬ (a.length : Int) = 1048576 := by omega
            have k3 : (([] : List Int).length + n.2.2.length) * 1 ≤ LIM := by unfold LIM; simp; omega
            have k4 : (a.length + 1) * 40 ≤ LIM := by unfold LIM; omega
            rw [if_neg c4]
            simp only [c4', decide_false, cond_false, Bool.or_true, cond_true, k3, k4, decide_true, List.nil_append, Prod.eta, List.length_append, List.length_singleton]
            rw [RB.wrap_i64 (by omega) (by omega)]
            congr 3
            omega
  · simp [hv]
theorem F38_eq {a : List Tm} {root key : Int} (hr : U64 root) : F38 (a, root, key) = some (mintA a root key) := by
  unfold F38 mintA
  have h19 : F19 (a, key, enc1 root) = some (putA a (key, (-1, enc1 root))) := by
    unfold F19
    simp only [F52_eq (a := a) (n := (key, ((-1 : Int), enc1 root))) (by simp), Option.bind_some]
  simp only [both_self, F64_one hr, h19, Option.bind_some]
  by_cases h : (putA a (key, (-1, enc1 root))).2.2 = 0
  · simp [h]
  · simp [h]
theorem F40_eq {a : List Tm} {t : Tok} {c : Cv} (ht : TokOk t) (hl : t.2.1.length ≤ 4611686018427387904) (hc : CvOk c) : F40 (a, t, c) = some (bindA a t c) := by
  unfold F40 bindA
  simp only [both_self, Prod.eta, F67_eq hc, F44_eq ht hl, F24_eq, Option.bind_some]
  by_cases h1 : chk c = 0
  · have hp : putC c = (encC c, 0) := by unfold putC; rw [if_pos h1]
    by_cases h2 : okK t
    · by_cases h3 : valid a
      · have h16 := h2.1
        by_cases h4 : t.2.1.length = 16
        · have h4' : (t.2.1.length : Int) = 16 := by omega
          simp [hp, h1, h2, h3, h4, h4']
        · have h4' : ¬ (t.2.1.length : Int) = 16 := by omega
          have hneg : ¬ t.2.2 < 0 := by have := h2.2.1.1; omega
          have h21 : F21 (a, t.2.2, encC c) = some (putA a (0, (t.2.2, encC c))) := by
            unfold F21
            simp only [hneg, decide_false, cond_false, F52_eq (a := a) (n := ((0 : Int), (t.2.2, encC c))) (by simp only; omega), Option.bind_some]
          have k3 : (([] : List Cv).length + t.2.1.length) * 24 ≤ LIM := by unfold LIM; simp; omega
          have k4 : (t.2.1.length + 1) * 24 ≤ LIM := by unfold LIM; omega
          by_cases h5 : (putA a (0, (t.2.2, encC c))).2.2 = 0
          · simp only [hp, h1, h2, h3, h4, h4', h21, h5, Option.bind_some, decide_true, decide_false, Bool.not_true, cond_false, cond_true, if_true, if_false, Bool.or_true, k3, k4, List.nil_append, beq_self_eq_true, ne_eq, not_true_eq_false, or_self]
          · simp [hp, h1, h2, h3, h4, h4', h21, h5]
      · simp [hp, h1, h2, h3]
    · simp [hp, h1, h2]
  · have hp : (putC c).2 = 1 := by unfold putC; rw [if_neg h1]
    simp [hp, h1]
theorem F41_eq {a : List Tm} {key : Int} {t : Tok} (ht : TokOk t) (hl : t.2.1.length ≤ 4611686018427387904) : F41 (a, key, t) = some (verA a key t) := by
  unfold F41 verA
  simp only [both_self, Prod.eta, F44_eq ht hl, F24_eq, Option.bind_some]
  by_cases h2 : okK t
  · by_cases h3 : valid a
    · have h16 := h2.1
      simp only [h2, h3, if_true, decide_true, Bool.not_true, beq_self_eq_true, cond_true, cond_false, not_true_eq_false, or_self, if_false]
      refine lfp_rule (fun (x : List (List Int) × Int) => ∃ i : Nat, x.2 = (i : Int) ∧ i ≤ t.2.1.length ∧ x.1 = (t.2.1.take i).map encC) (fun x => t.2.1.length - x.2.toNat) (fun _ => (decide (findA a key (enc1 t.1) (t.2.1.map encC) = (t.2.2, 0)), 0)) ?_ (([] : List (List Int)), 0) ⟨0, rfl, by omega, by simp⟩
      rintro ⟨y, i'⟩ ⟨i, hi', hi, hy⟩ rec hrec
      simp only at hi' hy
      subst hi'; subst hy
      simp only
      by_cases hlt : i < t.2.1.length
      · have k1 : ((i : Int) < (t.2.1.length : Int)) := by omega
        have hc := ht.2.1 _ (List.getElem_mem hlt)
        have hck := h2.2.2 _ (List.getElem_mem hlt)
        have hput : putC t.2.1[i] = (encC t.2.1[i], 0) := by unfold putC; rw [if_pos hck]
        have k3 : (((t.2.1.take i).map encC).length + 1) * 24 ≤ LIM := by rw [List.length_map, List.length_take]; unfold LIM; omega
        simp only [k1, decide_true, cond_true, inb_true (Int.natCast_nonneg i) k1, rd_nat (t := tC) hlt, Prod.eta, F67_eq hc, hput, Option.bind_some, k3]
        rw [RB.wrap_i64 (n := (i : Int) + 1) (by omega) (by omega)]
        refine hrec (_, (i : Int) + 1) ⟨i + 1, by simp, by omega, ?_⟩ (by simp only; omega)
        rw [List.take_succ_eq_append_getElem hlt, List.map_append]
        rfl
      · have k1 : ¬ ((i : Int) < (t.2.1.length : Int)) := by omega
        simp only [k1, decide_false, cond_false, List.take_of_length_le (show t.2.1.length ≤ i by omega), F64_one ht.1, Option.bind_some,
          F29_eq (a := a) (k := key) (t := enc1 t.1) (l := t.2.1.map encC) (by rw [List.length_map]; omega)]
        rcases findA a key (enc1 t.1) (t.2.1.map encC) with ⟨r, e⟩
        by_cases e0 : e = 0
        · subst e0; simp
        · simp [e0]
    · simp [h2, h3]
  · simp [h2]
end Go.Proofs.Ytcpcbeeghjigkaa.R3
