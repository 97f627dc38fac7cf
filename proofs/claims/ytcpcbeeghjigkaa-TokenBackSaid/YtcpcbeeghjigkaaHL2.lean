/- Part of a proof: what the program's functions come to. -/
import Derived.Test.YtcpcbeeghjigkaaHL1
set_option linter.unusedVariables false
set_option linter.unusedSimpArgs false
namespace Go.Proofs.Ytcpcbeeghjigkaa.R3
open Go Go.Fw Go.Proofs RB
set_option maxRecDepth 20000
theorem lastT_get {acc : List Rec} (h : 0 < acc.length) : lastT acc = (acc[acc.length - 1]'(by omega)).1 := by
  unfold lastT
  rw [List.getLast?_eq_getElem?, List.getElem?_eq_getElem (by omega)]
noncomputable def getT (b : List Int) : List Rec × Int := if 65535 < b.length then ([], 4) else goT [] b
theorem F75_eq {b : List Int} (hb : Bs b) : F75 b = some (getT b) := by
  unfold F75 getT
  by_cases hl : 65535 < b.length
  · have hl' : (65535 : Int) < (b.length : Int) := by omega
    simp only [hl, hl', decide_true, cond_true, if_true]
    refine lfp_intro 1 fun m hm => ?_
    obtain ⟨k, rfl⟩ := Nat.exists_eq_add_of_le hm
    rw [Nat.add_comm]
    simp only [iter, show decide ((4 : Int) = 0) = false from rfl, cond_false, Bool.not_false, cond_true]
  · have hl' : ¬ (65535 : Int) < (b.length : Int) := by omega
    simp only [hl, hl', decide_false, cond_false, if_false]
    refine lfp_rule (fun x => Bs x.2.1 ∧ x.1.length ≤ 64 ∧ x.2.1.length ≤ 65535) (fun x => 2 * x.2.1.length + (if x.2.2 = 0 then 1 else 0))
      (fun x => if x.2.2 ≠ 0 then ([], x.2.2) else goT x.1 x.2.1) ?_ ([], (b, 0)) ⟨hb, by simp, by simp only; omega⟩
    rintro ⟨acc, b, e⟩ ⟨hb, ha, hl⟩ rec hrec
    simp only at hb ha hl hrec ⊢
    by_cases he : e = 0
    · subst he
      by_cases hbn : b = []
      · subst hbn
        simp [goT]
      · have hpos : 0 < b.length := List.length_pos_iff.2 hbn
        have hpos' : (0 : Int) < (b.length : Int) := by omega
        have hwb : ¬ IntKind.wrap .u64 (b.length : Int) < 0 := by rw [RB.wrap_u64 (by omega) (by omega)]; omega
        have stop : ∀ (b' : List Int) (e' : Int), e' ≠ 0 → b'.length ≤ b.length → Bs b' → rec (acc, (b', e')) = some ([], e') := by
          intro b' e' h1 h2 h3
          have := hrec (acc, (b', e')) ⟨h3, ha, by simp only; omega⟩ (by simp only [h1, if_false, if_true]; omega)
          rw [this]; simp only [ne_eq, h1, not_false_eq_true, if_true]
        simp only [ne_eq, not_true_eq_false, if_false, decide_true, cond_true, hpos']
        rw [goT, if_neg hbn]
        have hcf : ∀ q : Bool, (bif q then false else false) = false := fun q => by cases q <;> rfl
        have hin00 : inb 0 (b.length + 1) = true := RB.inb_true (by omega) (by omega)
        have hidx : 0 < acc.length → (if IntKind.wrap .i64 ((acc.length : Int) - 1) < 0 then 0 else IntKind.wrap .i64 ((acc.length : Int) - 1)) = ((acc.length - 1 : Nat) : Int) := by
          intro h; rw [RB.wrap_i64 (by omega) (by omega), if_neg (by omega)]; omega
        have hinl : 0 < acc.length → inb ((acc.length - 1 : Nat) : Int) acc.length = true := fun h => RB.inb_true (by omega) (by omega)
        have hwbd : decide (IntKind.wrap .u64 (b.length : Int) < 0) = false := decide_eq_false hwb
        by_cases ha0 : 0 < acc.length
        · have ha0d : decide ((0 : Int) < (acc.length : Int)) = true := decide_eq_true (by omega)
          have hla : acc.length - 1 < acc.length := by omega
          by_cases h64 : acc.length = 64
          · have d64 : decide ((acc.length : Int) = 64) = true := decide_eq_true (by omega)
            rw [if_pos h64]
            simp only [d64, cond_true, ha0d, beq_self_eq_true, hidx ha0, hinl ha0, rd_nat (t := tR) hla, Prod.eta, F99_eq, Option.bind_some, hcf, cond_false]
            exact stop b 4 (by decide) (Nat.le_refl _) hb
          · have d64 : decide ((acc.length : Int) = 64) = false := decide_eq_false (by omega)
            rw [if_neg h64]
            simp only [d64, cond_false, Bool.not_true, F101_eq hb (by omega), Option.bind_some]
            rcases get1_cases hb with ⟨g1, g2, g3, g4, g5⟩ | ⟨g1, g2, g3⟩
            · have gd : decide ((get1 b).2.2 = 0) = true := decide_eq_true g1
              rw [if_neg (show ¬ ((get1 b).2.2 ≠ 0) from fun h => h g1)]
              simp only [g3, cond_true, ha0d, beq_self_eq_true, hidx ha0, hinl ha0, rd_nat (t := tR) hla, F99_eq, Option.bind_some, gd, lastT_get ha0, Bool.not_true, cond_false]
              by_cases hlt : (acc[acc.length - 1]).1 < (get1 b).1
              · simp only [hlt, if_true, show decide ((0 : Int) ≤ -1) = false from rfl, cond_false, not_true_eq_false, if_false]
                have hb1 := bs_drop hb (get1 b).2.1.toNat
                have hb1l : (b.drop (get1 b).2.1.toNat).length ≤ 65535 := by omega
                generalize hB1 : b.drop (get1 b).2.1.toNat = b1 at *
                rcases get1_cases hb1 with ⟨p1, p2, p3, p4, p5⟩ | ⟨p1, p2, p3⟩
                · have pd : decide ((get1 b1).2.2 = 0) = true := decide_eq_true p1
                  rw [if_neg (show ¬ ((get1 b1).2.2 ≠ 0) from fun h => h p1)]
                  simp only [F101_eq hb1 (by omega), Option.bind_some, p3, cond_true, pd, hcf, cond_false]
                  have hb2 := bs_drop hb1 (get1 b1).2.1.toNat
                  generalize hB2 : b1.drop (get1 b1).2.1.toNat = b2 at *
                  have hw2 : IntKind.wrap .u64 (b2.length : Int) = (b2.length : Int) := RB.wrap_u64 (by omega) (by omega)
                  rw [hw2]
                  by_cases c1 : 4096 < (get1 b1).1
                  · simp only [c1, decide_true, cond_true, if_true]
                    exact stop b2 4 (by decide) (by omega) hb2
                  · by_cases c2 : (b2.length : Int) < (get1 b1).1
                    · simp only [c1, c2, decide_true, decide_false, cond_true, cond_false, if_true, if_false]
                      exact stop b2 3 (by decide) (by omega) hb2
                    · have hin : inb (get1 b1).1 (b2.length + 1) = true := RB.inb_true p2.1 (by omega)
                      have htl : (b2.take (get1 b1).1.toNat).length ≤ 1000000 := by rw [List.length_take]; omega
                      have hlim : (acc.length + 1) * 32 ≤ LIM := by unfold LIM; omega
                      have hsh : (b2.drop (get1 b1).1.toNat).length < b.length := by rw [List.length_drop]; omega
                      have hsh2 : (b2.drop (get1 b1).1.toNat).length ≤ 65535 := by omega
                      simp only [c1, c2, decide_false, cond_false, if_false, hin, cond_true, F60_eq htl, Option.bind_some, hlim, decide_true, hsh, dite_true, p1]
                      rw [hrec (acc ++ [((get1 b).1, b2.take (get1 b1).1.toNat)], (b2.drop (get1 b1).1.toNat, 0)) ⟨bs_drop hb2 _, by simp only [List.length_append, List.length_singleton]; omega, hsh2⟩ (by simp only [if_true]; omega)]
                      simp only [ne_eq, not_true_eq_false, if_false]
                · have pd : decide ((get1 b1).2.2 = 0) = false := decide_eq_false p1
                  rw [if_pos p1]
                  have hin0 : inb 0 (b1.length + 1) = true := RB.inb_true (by omega) (by omega)
                  simp only [F101_eq hb1 (by omega), Option.bind_some, p3, hin0, cond_true, pd, hcf, cond_false, Int.toNat_zero, List.drop_zero]
                  exact stop b1 _ p1 (by omega) hb1
              · have hge : decide ((0 : Int) ≤ (if (get1 b).1 < (acc[acc.length - 1]).1 then 1 else 0)) = true := by split <;> rfl
                simp only [hlt, if_false, hge, cond_true, hcf, cond_false, not_false_eq_true, if_true]
                exact stop _ 2 (by decide) (by omega) (bs_drop hb _)
            · have gd : decide ((get1 b).2.2 = 0) = false := decide_eq_false g1
              rw [if_pos g1]
              simp only [g3, hin00, cond_true, ha0d, beq_self_eq_true, hidx ha0, hinl ha0, rd_nat (t := tR) hla, F99_eq, Option.bind_some, gd, hcf, cond_false, Bool.not_false, Int.toNat_zero, List.drop_zero]
              exact stop b _ g1 (Nat.le_refl _) hb
        · have ha0d : decide ((0 : Int) < (acc.length : Int)) = false := decide_eq_false (by omega)
          have hacc : acc = [] := List.length_eq_zero_iff.1 (by omega)
          subst hacc
          rw [if_neg (show ¬ ([] : List Rec).length = 64 by simp)]
          have d64 : decide (((([] : List Rec).length : Nat) : Int) = 64) = false := rfl
          have ha0d2 : decide ((0 : Int) < ((([] : List Rec).length : Nat) : Int)) = false := rfl
          simp only [d64, cond_false, Bool.not_true, F101_eq hb (by omega), Option.bind_some]
          rcases get1_cases hb with ⟨g1, g2, g3, g4, g5⟩ | ⟨g1, g2, g3⟩
          · have gd : decide ((get1 b).2.2 = 0) = true := decide_eq_true g1
            rw [if_neg (show ¬ ((get1 b).2.2 ≠ 0) from fun h => h g1), if_neg (show ¬ ¬ lastT [] < (get1 b).1 from fun h => h (by show (-1 : Int) < _; omega))]
            simp only [g3, cond_true, ha0d2, show ((false == true) = false) from rfl, gd, Bool.not_true, cond_false]
            skip
            have hb1 := bs_drop hb (get1 b).2.1.toNat
            have hb1l : (b.drop (get1 b).2.1.toNat).length ≤ 65535 := by omega
            generalize hB1 : b.drop (get1 b).2.1.toNat = b1 at *
            rcases get1_cases hb1 with ⟨p1, p2, p3, p4, p5⟩ | ⟨p1, p2, p3⟩
            · have pd : decide ((get1 b1).2.2 = 0) = true := decide_eq_true p1
              rw [if_neg (show ¬ ((get1 b1).2.2 ≠ 0) from fun h => h p1)]
              simp only [F101_eq hb1 (by omega), Option.bind_some, p3, cond_true, pd, hcf, cond_false]
              have hb2 := bs_drop hb1 (get1 b1).2.1.toNat
              generalize hB2 : b1.drop (get1 b1).2.1.toNat = b2 at *
              have hw2 : IntKind.wrap .u64 (b2.length : Int) = (b2.length : Int) := RB.wrap_u64 (by omega) (by omega)
              rw [hw2]
              by_cases c1 : 4096 < (get1 b1).1
              · simp only [c1, decide_true, cond_true, if_true]
                exact stop b2 4 (by decide) (by omega) hb2
              · by_cases c2 : (b2.length : Int) < (get1 b1).1
                · simp only [c1, c2, decide_true, decide_false, cond_true, cond_false, if_true, if_false]
                  exact stop b2 3 (by decide) (by omega) hb2
                · have hin : inb (get1 b1).1 (b2.length + 1) = true := RB.inb_true p2.1 (by omega)
                  have htl : (b2.take (get1 b1).1.toNat).length ≤ 1000000 := by rw [List.length_take]; omega
                  have hlim : (([] : List Rec).length + 1) * 32 ≤ LIM := by unfold LIM; omega
                  have hsh : (b2.drop (get1 b1).1.toNat).length < b.length := by rw [List.length_drop]; omega
                  have hsh2 : (b2.drop (get1 b1).1.toNat).length ≤ 65535 := by omega
                  simp only [c1, c2, decide_false, cond_false, if_false, hin, cond_true, F60_eq htl, Option.bind_some, hlim, decide_true, hsh, dite_true, p1]
                  rw [hrec (([] : List Rec) ++ [((get1 b).1, b2.take (get1 b1).1.toNat)], (b2.drop (get1 b1).1.toNat, 0)) ⟨bs_drop hb2 _, by simp only [List.length_append, List.length_singleton]; omega, hsh2⟩ (by simp only [if_true]; omega)]
                  simp only [ne_eq, not_true_eq_false, if_false]
            · have pd : decide ((get1 b1).2.2 = 0) = false := decide_eq_false p1
              rw [if_pos p1]
              have hin0 : inb 0 (b1.length + 1) = true := RB.inb_true (by omega) (by omega)
              simp only [F101_eq hb1 (by omega), Option.bind_some, p3, hin0, cond_true, pd, hcf, cond_false, Int.toNat_zero, List.drop_zero]
              exact stop b1 _ p1 (by omega) hb1
          · have gd : decide ((get1 b).2.2 = 0) = false := decide_eq_false g1
            rw [if_pos g1]
            simp only [g3, hin00, cond_true, ha0d2, show ((false == true) = false) from rfl, gd, hcf, cond_false, Bool.not_false, Int.toNat_zero, List.drop_zero]
            exact stop b _ g1 (Nat.le_refl _) hb
    · have he' : decide (e = 0) = false := decide_eq_false he
      simp only [he', cond_false, Bool.not_false, cond_true]
      rw [if_pos he]
theorem drop_enc (n : Int) (m : List Int) : (enc1 n ++ m).drop ((wid n : Int) + 1).toNat = m := by
  have : (enc1 n).length = ((wid n : Int) + 1).toNat := by simp only [enc1, List.length_cons, dig_len]; omega
  rw [← this, List.drop_left]
theorem enc1_ne (n : Int) (m : List Int) : enc1 n ++ m ≠ [] := by simp [enc1]
theorem lastT_lt {acc : List Rec} {r : Rec} {l : List Rec} (h : Sorted (acc ++ r :: l)) (h0 : 0 ≤ r.1) : lastT acc < r.1 := by
  by_cases ha : 0 < acc.length
  · rw [lastT_get ha]
    exact (List.pairwise_append.1 h).2.2 _ (List.getElem_mem _) r (by simp)
  · have : acc = [] := List.length_eq_zero_iff.1 (by omega)
    subst this
    show (-1 : Int) < _
    omega
theorem goT_nil (acc : List Rec) : goT acc [] = (acc, 0) := by rw [goT]; simp
theorem goT_enc : ∀ (l acc : List Rec), (∀ r ∈ l, OkV r ∧ r.2.length ≤ 4096) → Sorted (acc ++ l) → (acc ++ l).length ≤ 64 → goT acc (l.flatMap encR) = (acc ++ l, 0)
  | [], acc, _, _, _ => by simp [goT_nil]
  | r :: l, acc, hv, hs, hlen => by
    have hr := hv r (by simp)
    have ih := goT_enc l (acc ++ [r]) (fun x hx => hv x (by simp [hx])) (by simpa using hs) (by simpa using hlen)
    have hb : (r :: l).flatMap encR = enc1 r.1 ++ (enc1 (r.2.length : Int) ++ (r.2 ++ l.flatMap encR)) := by simp [encR]
    rw [hb]
    have h1 := get1_enc hr.1.1.1 hr.1.1.2 (enc1 (r.2.length : Int) ++ (r.2 ++ l.flatMap encR))
    have h2 := get1_enc (n := (r.2.length : Int)) (by omega) (by omega) (r.2 ++ l.flatMap encR)
    have hlen' : ¬ acc.length = 64 := by simp only [List.length_append, List.length_cons] at hlen; omega
    rw [goT, if_neg (enc1_ne _ _), if_neg hlen']
    simp only [h1, drop_enc, h2, ne_eq, not_true_eq_false, if_false, lastT_lt hs hr.1.1.1, Int.toNat_natCast, List.take_left, List.drop_left]
    have c1 : ¬ (4096 : Int) < (r.2.length : Int) := by omega
    have c2 : ¬ ((r.2 ++ l.flatMap encR).length : Int) < (r.2.length : Int) := by rw [List.length_append]; omega
    have c3 : (l.flatMap encR).length < (enc1 r.1 ++ (enc1 (r.2.length : Int) ++ (r.2 ++ l.flatMap encR))).length := by
      simp only [List.length_append, enc1, List.length_cons]; omega
    simp only [c1, c2, if_false, c3, dite_true]
    show goT (acc ++ [r]) (l.flatMap encR) = _
    rw [ih]
    simp
theorem goT_ok : ∀ (n : Nat) (b : List Int) (acc m : List Rec), b.length ≤ n → Bs b → Sorted acc → acc.length ≤ 64 → goT acc b = (m, 0) →
    ∃ m', m = acc ++ m' ∧ b = m'.flatMap encR ∧ (∀ r ∈ m', OkV r ∧ r.2.length ≤ 4096) ∧ Sorted m ∧ m.length ≤ 64 := by
  intro n
  induction n with
  | zero =>
    intro b acc m hn hb hs hl h
    have : b = [] := List.length_eq_zero_iff.1 (by omega)
    subst this
    rw [goT_nil] at h
    simp only [Prod.mk.injEq, and_true] at h
    subst h
    exact ⟨[], by simp, by simp, by simp, hs, hl⟩
  | succ n ih =>
    intro b acc m hn hb hs hl h
    rw [goT] at h
    by_cases hbn : b = []
    · subst hbn
      rw [if_pos rfl] at h
      simp only [Prod.mk.injEq, and_true] at h
      subst h
      exact ⟨[], by simp, by simp, by simp, hs, hl⟩
    · rw [if_neg hbn] at h
      by_cases h64 : acc.length = 64
      · rw [if_pos h64] at h; simp at h
      · rw [if_neg h64] at h
        rcases get1_cases hb with ⟨g1, g2, g3, g4, g5⟩ | ⟨g1, g2, g3⟩
        · rw [if_neg (show ¬ ((get1 b).2.2 ≠ 0) from fun q => q g1)] at h
          by_cases hlt : lastT acc < (get1 b).1
          · rw [if_neg (show ¬ ¬ lastT acc < (get1 b).1 from fun q => q hlt)] at h
            have hb1 := bs_drop hb (get1 b).2.1.toNat
            generalize hB1 : b.drop (get1 b).2.1.toNat = b1 at *
            rcases get1_cases hb1 with ⟨p1, p2, p3, p4, p5⟩ | ⟨p1, p2, p3⟩
            · rw [if_neg (show ¬ ((get1 b1).2.2 ≠ 0) from fun q => q p1)] at h
              have hb2 := bs_drop hb1 (get1 b1).2.1.toNat
              generalize hB2 : b1.drop (get1 b1).2.1.toNat = b2 at *
              by_cases c1 : 4096 < (get1 b1).1
              · rw [if_pos c1] at h; simp at h
              · rw [if_neg c1] at h
                by_cases c2 : (b2.length : Int) < (get1 b1).1
                · rw [if_pos c2] at h; simp at h
                · rw [if_neg c2] at h
                  have c3 : (b2.drop (get1 b1).1.toNat).length < b.length := by rw [List.length_drop]; omega
                  rw [dif_pos c3] at h
                  have htl : ((b2.take (get1 b1).1.toNat).length : Int) = (get1 b1).1 := by rw [List.length_take]; omega
                  have hs' : Sorted (acc ++ [((get1 b).1, b2.take (get1 b1).1.toNat)]) := by
                    refine List.pairwise_append.2 ⟨hs, by simp, fun x hx y hy => ?_⟩
                    simp only [List.mem_singleton] at hy
                    subst hy
                    obtain ⟨j, hj, rfl⟩ := List.getElem_of_mem hx
                    have ha : 0 < acc.length := by omega
                    rw [lastT_get ha] at hlt
                    by_cases hje : j = acc.length - 1
                    · subst hje; exact hlt
                    · have := List.pairwise_iff_getElem.1 hs j (acc.length - 1) hj (by omega) (by omega)
                      simp only; omega
                  obtain ⟨m', hm, hbm, hv, hsm, hlm⟩ := ih _ _ _ (by omega) (bs_drop hb2 _) hs' (by simp only [List.length_append, List.length_singleton]; omega) h
                  refine ⟨((get1 b).1, b2.take (get1 b1).1.toNat) :: m', by rw [hm]; simp, ?_, ?_, hsm, hlm⟩
                  · rw [List.flatMap_cons, ← hbm]
                    simp only [encR]
                    rw [htl]
                    simp only [List.append_assoc, List.take_append_drop, p4, g4]
                  · intro r hr
                    rcases List.mem_cons.1 hr with rfl | hr
                    · exact ⟨⟨g2, fun x hx => hb2 x (List.mem_of_mem_take hx)⟩, by simp only; omega⟩
                    · exact hv r hr
            · rw [if_pos p1] at h
              simp only [Prod.mk.injEq] at h
              exact absurd h.2 p1
          · rw [if_pos hlt] at h; simp at h
        · rw [if_pos g1] at h
          simp only [Prod.mk.injEq] at h
          exact absurd h.2 g1
theorem encs_bytes {l : List Rec} (h : ∀ r ∈ l, OkV r) : Bs (l.flatMap encR) := by
  intro n hn
  obtain ⟨r, hr, hnr⟩ := List.mem_flatMap.1 hn
  have := h r hr
  simp only [encR, List.mem_append] at hnr
  rcases hnr with hnr | hnr | hnr
  · exact enc1_byte this.1.1 n hnr
  · exact enc1_byte (by omega) n hnr
  · exact this.2 n hnr
theorem putT_bad {l : List Rec} (h : (putT l).2 ≠ 0) : (putT l).1 = [] := by
  unfold putT at h ⊢
  by_cases ho : okT l
  · rw [if_pos ho] at h ⊢
    by_cases hl : 65535 < (l.flatMap encR).length
    · rw [if_pos hl]
    · rw [if_neg hl] at h; simp at h
  · rw [if_neg ho]
theorem getT_ok {b : List Int} {m : List Rec} (hb : Bs b) (h : getT b = (m, 0)) : (∀ r ∈ m, OkV r) ∧ okT m ∧ putT m = (b, 0) := by
  unfold getT at h
  by_cases hl : 65535 < b.length
  · rw [if_pos hl] at h; simp at h
  · rw [if_neg hl] at h
    obtain ⟨m', hm, hbm, hv, hs, hlen⟩ := goT_ok _ b [] m (Nat.le_refl _) hb (by simp [Sorted]) (by simp) h
    rw [List.nil_append] at hm
    subst hm
    have ho : okT m := ⟨hlen, fun r hr => (hv r hr).2, hs⟩
    refine ⟨fun r hr => (hv r hr).1, ho, ?_⟩
    unfold putT
    rw [if_pos ho, ← hbm, if_neg hl]
end Go.Proofs.Ytcpcbeeghjigkaa.R3
