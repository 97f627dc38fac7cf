/- Part of a proof: what the program's functions come to. -/
import Derived.Test.YtpgfkfmmnciblaaGQ1
set_option linter.unusedVariables false
set_option linter.unusedSimpArgs false
namespace Go.Proofs.Ytpgfkfmmnciblaa.R1
open Go Go.Fw Go.Proofs
theorem bitS_nat (a i : Nat) : bitS (a : Int) (i : Int) = a.testBit i := by
  unfold bitS
  rw [Nat.testBit_eq_decide_div_mod_eq]
  congr 1
  rw [Int.toNat_natCast, eq_iff_iff]
  constructor
  · intro h
    have : ((a / 2 ^ i % 2 : Nat) : Int) = 1 := by simpa using h
    omega
  · intro h
    have : ((a / 2 ^ i % 2 : Nat) : Int) = 1 := by omega
    simpa using this
theorem andNot_iff {a b : Int} (ha : 0 ≤ a ∧ a ≤ 65535) (hb : 0 ≤ b ∧ b ≤ 65535) : bitOp .andNot .u64 a b = 0 ↔ ∀ i : Nat, i < 16 → bitS a i = true → bitS b i = true := by
  obtain ⟨a, rfl⟩ := Int.eq_ofNat_of_zero_le ha.1
  obtain ⟨b, rfl⟩ := Int.eq_ofNat_of_zero_le hb.1
  have ha2 : a < 2 ^ 16 := by omega
  have hb2 : b < 2 ^ 16 := by omega
  have e : bitOp .andNot .u64 (a : Int) (b : Int) = ((BitVec.ofNat 64 a &&& ~~~ BitVec.ofNat 64 b).toNat : Int) := by
    show IntKind.wrap .u64 ((BitVec.ofInt 64 (a : Int) &&& ~~~ BitVec.ofInt 64 (b : Int)).toNat : Int) = _
    rw [BitVec.ofInt_natCast, BitVec.ofInt_natCast]
    exact wrap_u64 (by omega) (by have := (BitVec.ofNat 64 a &&& ~~~ BitVec.ofNat 64 b).isLt; omega)
  rw [e]
  have e2 : (((BitVec.ofNat 64 a &&& ~~~ BitVec.ofNat 64 b).toNat : Int) = 0) ↔ (BitVec.ofNat 64 a &&& ~~~ BitVec.ofNat 64 b) = 0#64 := by
    constructor
    · intro h; apply BitVec.eq_of_toNat_eq; simp only [BitVec.toNat_ofNat]; omega
    · intro h; rw [h]; rfl
  rw [e2]
  have big : ∀ (n i : Nat), n < 2 ^ 16 → 16 ≤ i → n.testBit i = false := fun n i hn hi => Nat.testBit_lt_two_pow (Nat.lt_of_lt_of_le hn (Nat.pow_le_pow_right (by omega) hi))
  constructor
  · intro h i hi h1
    rw [bitS_nat] at h1 ⊢
    have := congrArg (fun v => v.getLsbD i) h
    simp only [BitVec.getLsbD_and, BitVec.getLsbD_not, BitVec.getLsbD_ofNat, BitVec.getLsbD_zero, decide_eq_true (show i < 64 by omega), h1, Bool.true_and] at this
    simpa using this
  · intro h
    apply BitVec.eq_of_getLsbD_eq
    intro i hi
    by_cases h16 : i < 16
    · have := h i h16
      rw [bitS_nat, bitS_nat] at this
      cases q : a.testBit i with
      | false => simp only [BitVec.getLsbD_and, BitVec.getLsbD_not, BitVec.getLsbD_ofNat, BitVec.getLsbD_zero, Nat.zero_testBit, hi, decide_true, q, Bool.true_and, Bool.false_and]
      | true => simp only [BitVec.getLsbD_and, BitVec.getLsbD_not, BitVec.getLsbD_ofNat, BitVec.getLsbD_zero, Nat.zero_testBit, hi, decide_true, q, this q, Bool.true_and, Bool.not_true]
    · simp only [BitVec.getLsbD_and, BitVec.getLsbD_not, BitVec.getLsbD_ofNat, BitVec.getLsbD_zero, Nat.zero_testBit, hi, decide_true, big a i ha2 (by omega), Bool.true_and, Bool.false_and, Bool.and_false]
theorem bits_eq {a b : Int} (ha : 0 ≤ a ∧ a ≤ 65535) (hb : 0 ≤ b ∧ b ≤ 65535) (h1 : ∀ i : Nat, i < 16 → bitS a i = true → bitS b i = true) (h2 : ∀ i : Nat, i < 16 → bitS b i = true → bitS a i = true) : a = b := by
  obtain ⟨a, rfl⟩ := Int.eq_ofNat_of_zero_le ha.1
  obtain ⟨b, rfl⟩ := Int.eq_ofNat_of_zero_le hb.1
  have ha2 : a < 2 ^ 16 := by omega
  have hb2 : b < 2 ^ 16 := by omega
  congr 1
  apply Nat.eq_of_testBit_eq
  intro i
  by_cases h16 : i < 16
  · have p := h1 i h16
    have q := h2 i h16
    rw [bitS_nat, bitS_nat] at p q
    cases x : a.testBit i <;> cases y : b.testBit i <;> simp_all
  · rw [Nat.testBit_lt_two_pow (Nat.lt_of_lt_of_le ha2 (Nat.pow_le_pow_right (by omega) (by omega))), Nat.testBit_lt_two_pow (Nat.lt_of_lt_of_le hb2 (Nat.pow_le_pow_right (by omega) (by omega)))]
def tight (c d : Cv) : Bool := if c.1 = 2 then decide (bitOp .andNot .u64 c.2.1 d.2.1 = 0) else if c.1 = 5 then decide (c.2.1 = d.2.1) else decide (c.2.1 ≤ d.2.1)
def tight1 (c d : Cv) : Bool × Int := if chk c = 0 ∧ chk d = 0 ∧ c.1 = d.1 ∧ c.2.2 = d.2.2 then (tight c d, 0) else (false, 1)
theorem F26_eq {c d : Cv} (hc : CvOk c) (hd : CvOk d) : F26 (c, d) = some (tight1 c d) := by
  unfold F26 tight1
  have e1 := F30_eq hc
  have e2 := F30_eq hd
  obtain ⟨k, a, b⟩ := c
  obtain ⟨k', a', b'⟩ := d
  simp only [e1, e2, Option.bind_some]
  by_cases h1 : chk (k, a, b) = 0
  · by_cases h2 : chk (k', a', b') = 0
    · by_cases h3 : k = k'
      · by_cases h4 : b = b'
        · subst h3; subst h4
          by_cases k2 : k = 2
          · subst k2; simp [h1, h2, tight]
          by_cases k5 : k = 5
          · subst k5; simp [h1, h2, tight]
          simp [h1, h2, tight, k2, k5]
        · simp [h1, h2, h3, h4]
      · simp [h1, h2, h3]
    · simp [h1, h2]
  · simp [h1]
theorem F34_eq {c d : Cv} (hc : CvOk c) (hd : CvOk d) : F34 (c, d) = some (tight1 c d) := by
  unfold F34 tight1
  have e1 := F35_eq hc
  have e2 := F35_eq hd
  obtain ⟨k, a, b⟩ := c
  obtain ⟨k', a', b'⟩ := d
  simp only [e1, e2, Option.bind_some]
  by_cases h1 : chk (k, a, b) = 0
  · by_cases h2 : chk (k', a', b') = 0
    · by_cases h3 : k = k'
      · by_cases h4 : b = b'
        · subst h3; subst h4
          by_cases k2 : k = 2
          · subst k2
            have q1 := (chk_kind h1).2.2.1 rfl
            have q2 := (chk_kind h2).2.2.1 rfl
            simp only at q1 q2
            have ha : U64 a := hc.2.1
            have ha' : U64 a' := hd.2.1
            simp only [h1, h2, decide_true, Bool.not_true, beq_self_eq_true, cond_true, cond_false, and_self, if_true, tight]
            have hiff := andNot_iff (a := a) (b := a') ⟨ha.1, q1⟩ ⟨ha'.1, q2⟩
            refine lfp_rule (fun x => ∃ i : Nat, x.2.2 = (i : Int) ∧ i ≤ 16 ∧ ∀ j : Nat, j < i → bitS a j = true → bitS a' j = true) (fun x => 16 - x.2.2.toNat) (fun _ => (decide (bitOp .andNot .u64 a a' = 0), 0)) ?_ (false, (0 : Int), (0 : Int)) ⟨0, rfl, by omega, by intro j hj; omega⟩
            rintro ⟨v1, v2, i'⟩ ⟨i, rfl, hi, hall⟩ rec hrec
            simp only
            by_cases hlt : i < 16
            · have k1 : (i : Int) < 16 := by omega
              simp only [k1, decide_true, cond_true, F43_eq ha (m := (i : Int)) (by omega) (by omega), F43_eq ha' (m := (i : Int)) (by omega) (by omega), Option.bind_some]
              rw [wrap_i64 (n := (i : Int) + 1) (by omega) (by omega)]
              have next : (bitS a i = true → bitS a' i = true) → rec (v1, v2, (i : Int) + 1) = some (decide (bitOp .andNot .u64 a a' = 0), 0) := fun hb => by
                refine hrec _ ⟨i + 1, by simp, by omega, fun j hj => ?_⟩ (by simp only; omega)
                by_cases hji : j = i
                · subst hji; exact hb
                · exact hall j (by omega)
              cases x : bitS a i with
              | false => simp only [beq_iff_eq, Bool.false_eq_true, cond_false, show (false == true) = false from rfl]; exact next (by simp [x])
              | true =>
                cases y : bitS a' i with
                | true => simp only [beq_self_eq_true, cond_true, Bool.not_true, cond_false]; exact next (fun _ => y)
                | false =>
                  simp only [beq_self_eq_true, cond_true, Bool.not_false]
                  have : ¬ bitOp .andNot .u64 a a' = 0 := fun h => by have := hiff.1 h i hlt x; rw [y] at this; simp at this
                  rw [decide_eq_false this]
            · have k1 : ¬ (i : Int) < 16 := by omega
              simp only [k1, decide_false, cond_false]
              rw [decide_eq_true (hiff.2 fun j hj => hall j (by omega))]
          by_cases k5 : k = 5
          · subst k5; simp [h1, h2, tight]
          simp [h1, h2, tight, k2, k5]
        · simp [h1, h2, h3, h4]
      · simp [h1, h2, h3]
    · simp [h1, h2]
  · simp [h1]
theorem F23_eq : F23 () = some true := by
  unfold F23
  rw [F25_eq (c := (1, (9, 0))) (u := (9, (0, (0, 0)))) (by simp [CvOk, U64]) (by simp [UsOk, U64]), F25_eq (c := (1, (9, 0))) (u := (10, (0, (0, 0)))) (by simp [CvOk, U64]) (by simp [UsOk, U64])]
  simp [holds1, chk, may, holds]
theorem F8_true {c d : Cv} {u : Us} (hc : CvOk c) (hd : CvOk d) (hu : UsOk u) : F8 (c, d, u) = some true := by
  unfold F8
  have e1 := F26_eq hc hd
  have e2 := F26_eq hd hc
  have e3 := F25_eq hc hu
  have e4 := F25_eq hd hu
  obtain ⟨k, a, b⟩ := c
  obtain ⟨k', a', b'⟩ := d
  simp only [F23_eq, Prod.eta, e1, e2, e3, e4, Option.bind_some, Bool.not_true, cond_false]
  unfold tight1 holds1
  by_cases h1 : chk (k, a, b) = 0
  · by_cases h2 : chk (k', a', b') = 0
    · by_cases h3 : k = k'
      · by_cases h4 : b = b'
        · subst h3; subst h4
          have p1 := chk_kind h1
          have p2 := chk_kind h2
          have ha : U64 a := hc.2.1
          have ha' : U64 a' := hd.2.1
          simp only at p1 p2
          simp only [h1, h2, true_and, and_self, if_true, decide_true, Bool.not_true, cond_false]
          by_cases hm : may u = true
          · have m1 := may_kind hm
            simp only [hm, if_true, decide_true, Bool.not_true, beq_self_eq_true, cond_true, tight, holds, Bool.true_and, Bool.and_true]
            by_cases k2 : k = 2
            · subst k2
              have i1 := andNot_iff (a := a) (b := a') ⟨ha.1, p1.2.2.1 rfl⟩ ⟨ha'.1, p2.2.2.1 rfl⟩
              have i2 := andNot_iff (a := a') (b := a) ⟨ha'.1, p2.2.2.1 rfl⟩ ⟨ha.1, p1.2.2.1 rfl⟩
              obtain ⟨mm, hmm⟩ : ∃ mm : Nat, u.2.1 = (mm : Int) := ⟨u.2.1.toNat, by omega⟩
              simp only [hmm, show ¬ ((2 : Int) = 1) by omega, if_false, if_true]
              by_cases x1 : bitOp .andNot .u64 a a' = 0
              · by_cases x2 : bitOp .andNot .u64 a' a = 0
                · have : a = a' := bits_eq ⟨ha.1, p1.2.2.1 rfl⟩ ⟨ha'.1, p2.2.2.1 rfl⟩ (i1.1 x1) (i2.1 x2)
                  subst this
                  cases y1 : bitS a mm <;> simp [x1, y1]
                · have ne : a ≠ a' := by intro he; subst he; exact x2 x1
                  have z := i1.1 x1 mm (by omega)
                  cases y1 : bitS a mm <;> cases y2 : bitS a' mm <;> simp [x1, x2, ne, y1, y2] <;> simp [y1, y2] at z
              · by_cases x2 : bitOp .andNot .u64 a' a = 0
                · have ne : a ≠ a' := by intro he; subst he; exact x1 x2
                  have z := i2.1 x2 mm (by omega)
                  cases y1 : bitS a mm <;> cases y2 : bitS a' mm <;> simp [x1, x2, ne, y1, y2] <;> simp [y1, y2] at z
                · have ne : a ≠ a' := by intro he; subst he; exact x1 (i1.2 fun i _ h => h)
                  simp [x1, x2, ne]
            by_cases k5 : k = 5
            · subst k5
              by_cases he : a = a'
              · subst he
                by_cases y : u.2.2.2 = a <;> simp [y]
              · have he' : ¬ a' = a := fun h => he h.symm
                simp [he, he']
            by_cases k1 : k = 1
            · subst k1
              by_cases x1 : a ≤ a'
              · by_cases x2 : a' ≤ a
                · have : a = a' := by omega
                  subst this
                  by_cases y : u.1 ≤ a <;> simp [y]
                · have ne : a ≠ a' := by omega
                  by_cases y : u.1 ≤ a
                  · have : u.1 ≤ a' := by omega
                    simp [x1, x2, ne, y, this]
                  · simp [x1, x2, ne, y]
              · have x2 : a' ≤ a := by omega
                have ne : a ≠ a' := by omega
                by_cases y : u.1 ≤ a'
                · have : u.1 ≤ a := by omega
                  simp [x1, x2, ne, y, this]
                · simp [x1, x2, ne, y]
            · simp only [k1, k2, k5, if_false]
              by_cases x1 : a ≤ a'
              · by_cases x2 : a' ≤ a
                · have : a = a' := by omega
                  subst this
                  by_cases y : u.2.2.1 ≤ a <;> simp [y]
                · have ne : a ≠ a' := by omega
                  by_cases y : u.2.2.1 ≤ a
                  · have : u.2.2.1 ≤ a' := by omega
                    simp [x1, x2, ne, y, this]
                  · simp [x1, x2, ne, y]
              · have x2 : a' ≤ a := by omega
                have ne : a ≠ a' := by omega
                by_cases y : u.2.2.1 ≤ a'
                · have : u.2.2.1 ≤ a := by omega
                  simp [x1, x2, ne, y, this]
                · simp [x1, x2, ne, y]
          · have hm' : may u = false := by simpa using hm
            simp only [hm', Bool.false_eq_true, if_false, decide_true, Bool.not_true, beq_self_eq_true, cond_true]
            by_cases k2 : k = 2
            · subst k2
              have i1 := andNot_iff (a := a) (b := a') ⟨ha.1, p1.2.2.1 rfl⟩ ⟨ha'.1, p2.2.2.1 rfl⟩
              have i2 := andNot_iff (a := a') (b := a) ⟨ha'.1, p2.2.2.1 rfl⟩ ⟨ha.1, p1.2.2.1 rfl⟩
              by_cases x1 : bitOp .andNot .u64 a a' = 0
              · by_cases x2 : bitOp .andNot .u64 a' a = 0
                · have : a = a' := bits_eq ⟨ha.1, p1.2.2.1 rfl⟩ ⟨ha'.1, p2.2.2.1 rfl⟩ (i1.1 x1) (i2.1 x2)
                  subst this
                  simp [tight, x1]
                · have ne : a ≠ a' := by intro he; subst he; exact x2 x1
                  simp [tight, x1, x2, ne]
              · have ne : a ≠ a' := by intro he; subst he; exact x1 (i1.2 fun i _ h => h)
                simp [tight, x1, ne]
            by_cases k5 : k = 5
            · subst k5
              by_cases he : a = a'
              · subst he; simp [tight]
              · have he' : ¬ a' = a := fun h => he h.symm
                simp [tight, he, he']
            · simp only [tight, k2, k5, if_false]
              by_cases x1 : a ≤ a'
              · by_cases x2 : a' ≤ a
                · have : a = a' := by omega
                  subst this; simp
                · have ne : a ≠ a' := by omega
                  simp [x1, x2, ne]
              · have ne : a ≠ a' := by omega
                simp [x1, ne]
        · have h4' : ¬ b' = b := fun h => h4 h.symm
          simp [h1, h2, h3, h4, h4']
      · have h3' : ¬ k' = k := fun h => h3 h.symm
        simp [h1, h2, h3, h3']
    · simp [h1, h2]
  · simp [h1]
end Go.Proofs.Ytpgfkfmmnciblaa.R1
