/- Part of a proof: what the program's functions come to. -/
import Derived.Test.YtacebemdonoliaaFT3
set_option linter.unusedVariables false
set_option linter.unusedSimpArgs false
namespace Go.Proofs.Ytacebemdonoliaa.R4
open Go Go.Fw Go.Proofs RB
theorem lastT_get {acc : List Rec} (h : 0 < acc.length) : lastT acc = (acc[acc.length - 1]'(by omega)).1 := by
  unfold lastT
  rw [List.getLast?_eq_getElem?, List.getElem?_eq_getElem (by omega)]
noncomputable def getT (b : List Int) : List Rec × Int := if 65535 < b.length then ([], 4) else goT [] b
theorem F22_eq {b : List Int} (hb : Bs b) : F22 b = some (getT b) := by
  unfold F22 getT
  by_cases hl : 65535 < b.length
  · have hl' : (65535 : Int) < (b.length : Int) := by omega
    simp only [hl, hl', decide_true, cond_true, if_true]
    refine lfp_intro 1 fun m hm => ?_
    obtain ⟨k, rfl⟩ := Nat.exists_eq_add_of_le hm
    rw [Nat.add_comm]
    simp only [iter, show decide ((4 : Int) = 0) = false from rfl, cond_false, Bool.not_false, cond_true]
  · have hl' : ¬ (65535 : Int) < (b.length : Int) := by omega
    simp only [hl, hl', decide_false, cond_false, if_false]
    refine lfp_rule (fun x => Bs x.2.1 ∧ x.1.length ≤ 64 ∧ x.2.1.length ≤ 65535) (fun x => 2 * x.2.1.length + (if x.2.2 = 0 then 1 else 0))
      (fun x => if x.2.2 ≠ 0 then ([], x.2.2) else goT x.1 x.2.1) ?_ ([], (b, 0)) ⟨hb, by simp, by simp only; omega⟩
    rintro ⟨acc, b, e⟩ ⟨hb, ha, hl⟩ rec hrec
    simp only at hb ha hl hrec ⊢
    by_cases he : e = 0
    · subst he
      by_cases hbn : b = []
      · subst hbn
        simp [goT]
      · have hpos : 0 < b.length := List.length_pos_iff.2 hbn
        have hpos' : (0 : Int) < (b.length : Int) := by omega
        have hwb : ¬ IntKind.wrap .u64 (b.length : Int) < 0 := by rw [RB.wrap_u64 (by omega) (by omega)]; omega
        have stop : ∀ (b' : List Int) (e' : Int), e' ≠ 0 → b'.length ≤ b.length → Bs b' → rec (acc, (b', e')) = some ([], e') := by
          intro b' e' h1 h2 h3
          have := hrec (acc, (b', e')) ⟨h3, ha, by simp only; omega⟩ (by simp only [h1, if_false, if_true]; omega)
          rw [this]; simp only [ne_eq, h1, not_false_eq_true, if_true]
        simp only [ne_eq, not_true_eq_false, if_false, decide_true, cond_true, hpos']
        rw [goT, if_neg hbn]
        have hcf : ∀ q : Bool, (bif q then false else false) = false := fun q => by cases q <;> rfl
        have hin00 : inb 0 (b.length + 1) = true := RB.inb_true (by omega) (by omega)
        have hidx : 0 < acc.length → (if IntKind.wrap .i64 ((acc.length : Int) - 1) < 0 then 0 else IntKind.wrap .i64 ((acc.length : Int) - 1)) = ((acc.length - 1 : Nat) : Int) := by
          intro h; rw [RB.wrap_i64 (by omega) (by omega), if_neg (by omega)]; omega
        have hinl : 0 < acc.length → inb ((acc.length - 1 : Nat) : Int) acc.length = true := fun h => RB.inb_true (by omega) (by omega)
        have hwbd : decide (IntKind.wrap .u64 (b.length : Int) < 0) = false := decide_eq_false hwb
        by_cases ha0 : 0 < acc.length
        · have ha0d : decide ((0 : Int) < (acc.length : Int)) = true := decide_eq_true (by omega)
          have hla : acc.length - 1 < acc.length := by omega
          by_cases h64 : acc.length = 64
          · have d64 : decide ((acc.length : Int) = 64) = true := decide_eq_true (by omega)
            rw [if_pos h64]
            simp only [d64, cond_true, ha0d, beq_self_eq_true, hidx ha0, hinl ha0, rd_nat (t := tR) hla, Prod.eta, F42_eq, Option.bind_some, hcf, cond_false]
            exact stop b 4 (by decide) (Nat.le_refl _) hb
          · have d64 : decide ((acc.length : Int) = 64) = false := decide_eq_false (by omega)
            rw [if_neg h64]
            simp only [d64, cond_false, Bool.not_true, F52_eq hb (by omega), Option.bind_some]
            rcases get1_cases hb with ⟨g1, g2, g3, g4, g5⟩ | ⟨g1, g2, g3⟩
            · have gd : decide ((get1 b).2.2 = 0) = true := decide_eq_true g1
              rw [if_neg (show ¬ ((get1 b).2.2 ≠ 0) from fun h => h g1)]
              simp only [g3, cond_true, ha0d, beq_self_eq_true, hidx ha0, hinl ha0, rd_nat (t := tR) hla, F42_eq, Option.bind_some, gd, lastT_get ha0, Bool.not_true, cond_false]
              by_cases hlt : (acc[acc.length - 1]).1 < (get1 b).1
              · simp only [hlt, if_true, show decide ((0 : Int) ≤ -1) = false from rfl, cond_false, not_true_eq_false, if_false]
                have hb1 := bs_drop hb (get1 b).2.1.toNat
                have hb1l : (b.drop (get1 b).2.1.toNat).length ≤ 65535 := by omega
                generalize hB1 : b.drop (get1 b).2.1.toNat = b1 at *
                rcases get1_cases hb1 with ⟨p1, p2, p3, p4, p5⟩ | ⟨p1, p2, p3⟩
                · have pd : decide ((get1 b1).2.2 = 0) = true := decide_eq_true p1
                  rw [if_neg (show ¬ ((get1 b1).2.2 ≠ 0) from fun h => h p1)]
                  simp only [F52_eq hb1 (by omega), Option.bind_some, p3, cond_true, pd, hcf, cond_false]
                  have hb2 := bs_drop hb1 (get1 b1).2.1.toNat
                  generalize hB2 : b1.drop (get1 b1).2.1.toNat = b2 at *
                  have hw2 : IntKind.wrap .u64 (b2.length : Int) = (b2.length : Int) := RB.wrap_u64 (by omega) (by omega)
                  rw [hw2]
                  by_cases c1 : 4096 < (get1 b1).1
                  · simp only [c1, decide_true, cond_true, if_true]
                    exact stop b2 4 (by decide) (by omega) hb2
                  · by_cases c2 : (b2.length : Int) < (get1 b1).1
                    · simp only [c1, c2, decide_true, decide_false, cond_true, cond_false, if_true, if_false]
                      exact stop b2 3 (by decide) (by omega) hb2
                    · have hin : inb (get1 b1).1 (b2.length + 1) = true := RB.inb_true p2.1 (by omega)
                      have htl : (b2.take (get1 b1).1.toNat).length ≤ 1000000 := by rw [List.length_take]; omega
                      have hlim : (acc.length + 1) * 32 ≤ LIM := by unfold LIM; omega
                      have hsh : (b2.drop (get1 b1).1.toNat).length < b.length := by rw [List.length_drop]; omega
                      have hsh2 : (b2.drop (get1 b1).1.toNat).length ≤ 65535 := by omega
                      simp only [c1, c2, decide_false, cond_false, if_false, hin, cond_true, F43_eq htl, Option.bind_some, hlim, decide_true, hsh, dite_true, p1]
                      rw [hrec (acc ++ [((get1 b).1, b2.take (get1 b1).1.toNat)], (b2.drop (get1 b1).1.toNat, 0)) ⟨bs_drop hb2 _, by simp only [List.length_append, List.length_singleton]; omega, hsh2⟩ (by simp only [if_true]; omega)]
                      simp only [ne_eq, not_true_eq_false, if_false]
                · have pd : decide ((get1 b1).2.2 = 0) = false := decide_eq_false p1
                  rw [if_pos p1]
                  have hin0 : inb 0 (b1.length + 1) = true := RB.inb_true (by omega) (by omega)
                  simp only [F52_eq hb1 (by omega), Option.bind_some, p3, hin0, cond_true, pd, hcf, cond_false, Int.toNat_zero, List.drop_zero]
                  exact stop b1 _ p1 (by omega) hb1
              · have hge : decide ((0 : Int) ≤ (if (get1 b).1 < (acc[acc.length - 1]).1 then 1 else 0)) = true := by split <;> rfl
                simp only [hlt, if_false, hge, cond_true, hcf, cond_false, not_false_eq_true, if_true]
                exact stop _ 2 (by decide) (by omega) (bs_drop hb _)
            · have gd : decide ((get1 b).2.2 = 0) = false := decide_eq_false g1
              rw [if_pos g1]
              simp only [g3, hin00, cond_true, ha0d, beq_self_eq_true, hidx ha0, hinl ha0, rd_nat (t := tR) hla, F42_eq, Option.bind_some, gd, hcf, cond_false, Bool.not_false, Int.toNat_zero, List.drop_zero]
              exact stop b _ g1 (Nat.le_refl _) hb
        · have ha0d : decide ((0 : Int) < (acc.length : Int)) = false := decide_eq_false (by omega)
          have hacc : acc = [] := List.length_eq_zero_iff.1 (by omega)
          subst hacc
          rw [if_neg (show ¬ ([] : List Rec).length = 64 by simp)]
          have d64 : decide (((([] : List Rec).length : Nat) : Int) = 64) = false := rfl
          have ha0d2 : decide ((0 : Int) < ((([] : List Rec).length : Nat) : Int)) = false := rfl
          simp only [d64, cond_false, Bool.not_true, F52_eq hb (by omega), Option.bind_some]
          rcases get1_cases hb with ⟨g1, g2, g3, g4, g5⟩ | ⟨g1, g2, g3⟩
          · have gd : decide ((get1 b).2.2 = 0) = true := decide_eq_true g1
            rw [if_neg (show ¬ ((get1 b).2.2 ≠ 0) from fun h => h g1), if_neg (show ¬ ¬ lastT [] < (get1 b).1 from fun h => h (by show (-1 : Int) < _; omega))]
            simp only [g3, cond_true, ha0d2, show ((false == true) = false) from rfl, gd, Bool.not_true, cond_false]
            skip
            have hb1 := bs_drop hb (get1 b).2.1.toNat
            have hb1l : (b.drop (get1 b).2.1.toNat).length ≤ 65535 := by omega
            generalize hB1 : b.drop (get1 b).2.1.toNat = b1 at *
            rcases get1_cases hb1 with ⟨p1, p2, p3, p4, p5⟩ | ⟨p1, p2, p3⟩
            · have pd : decide ((get1 b1).2.2 = 0) = true := decide_eq_true p1
              rw [if_neg (show ¬ ((get1 b1).2.2 ≠ 0) from fun h => h p1)]
              simp only [F52_eq hb1 (by omega), Option.bind_some, p3, cond_true, pd, hcf, cond_false]
              have hb2 := bs_drop hb1 (get1 b1).2.1.toNat
              generalize hB2 : b1.drop (get1 b1).2.1.toNat = b2 at *
              have hw2 : IntKind.wrap .u64 (b2.length : Int) = (b2.length : Int) := RB.wrap_u64 (by omega) (by omega)
              rw [hw2]
              by_cases c1 : 4096 < (get1 b1).1
              · simp only [c1, decide_true, cond_true, if_true]
                exact stop b2 4 (by decide) (by omega) hb2
              · by_cases c2 : (b2.length : Int) < (get1 b1).1
                · simp only [c1, c2, decide_true, decide_false, cond_true, cond_false, if_true, if_false]
                  exact stop b2 3 (by decide) (by omega) hb2
                · have hin : inb (get1 b1).1 (b2.length + 1) = true := RB.inb_true p2.1 (by omega)
                  have htl : (b2.take (get1 b1).1.toNat).length ≤ 1000000 := by rw [List.length_take]; omega
                  have hlim : (([] : List Rec).length + 1) * 32 ≤ LIM := by unfold LIM; omega
                  have hsh : (b2.drop (get1 b1).1.toNat).length < b.length := by rw [List.length_drop]; omega
                  have hsh2 : (b2.drop (get1 b1).1.toNat).length ≤ 65535 := by omega
                  simp only [c1, c2, decide_false, cond_false, if_false, hin, cond_true, F43_eq htl, Option.bind_some, hlim, decide_true, hsh, dite_true, p1]
                  rw [hrec (([] : List Rec) ++ [((get1 b).1, b2.take (get1 b1).1.toNat)], (b2.drop (get1 b1).1.toNat, 0)) ⟨bs_drop hb2 _, by simp only [List.length_append, List.length_singleton]; omega, hsh2⟩ (by simp only [if_true]; omega)]
                  simp only [ne_eq, not_true_eq_false, if_false]
            · have pd : decide ((get1 b1).2.2 = 0) = false := decide_eq_false p1
              rw [if_pos p1]
              have hin0 : inb 0 (b1.length + 1) = true := RB.inb_true (by omega) (by omega)
              simp only [F52_eq hb1 (by omega), Option.bind_some, p3, hin0, cond_true, pd, hcf, cond_false, Int.toNat_zero, List.drop_zero]
              exact stop b1 _ p1 (by omega) hb1
          · have gd : decide ((get1 b).2.2 = 0) = false := decide_eq_false g1
            rw [if_pos g1]
            simp only [g3, hin00, cond_true, ha0d2, show ((false == true) = false) from rfl, gd, hcf, cond_false, Bool.not_false, Int.toNat_zero, List.drop_zero]
            exact stop b _ g1 (Nat.le_refl _) hb
    · have he' : decide (e = 0) = false := decide_eq_false he
      simp only [he', cond_false, Bool.not_false, cond_true]
      rw [if_pos he]
end Go.Proofs.Ytacebemdonoliaa.R4
