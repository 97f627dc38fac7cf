/- Part of a proof: what the program's functions come to. -/
import Derived.Test.YtcpcbeeghjigkaaPQE
set_option linter.unusedVariables false
set_option linter.unusedSimpArgs false
namespace Go.Proofs.Ytcpcbeeghjigkaa.R3
open Go Go.Fw Go.Proofs RB
set_option maxRecDepth 20000
theorem path_of {a : List Tm} (h : valid a) {k : Int} {u : List Int} {us : List (List Int)} {y : Nat} (hy : y < a.length) (hl : look a k u us = some y) : pathA a (y : Int) = (k, u :: us, 0) := by
  obtain ⟨t, ts, h1, h2⟩ := trN_look h y y hy (Nat.le_refl _)
  obtain ⟨e1, e2, e3⟩ := look_inj ts.length ts us y (Nat.le_refl _) h2 hl
  unfold pathA
  rw [if_neg (by rintro (q | q | q); exact q h; omega; omega), h1, e1, e2, e3]
theorem F6_true {a : List Tm} {g : Int} {t : List Int} (ha : a.length ≤ 9223372036854775807) : F6 (a, g, t) = some true := by
  unfold F6
  simp only [both_self, F14_true, F15_eq ha, F16_eq (l := [t]) (by simp), Option.bind_some, Bool.not_true, cond_false]
  cases f1 : fewA a with
  | false => rfl
  | true =>
    cases f2 : fewT [t] with
    | false => rfl
    | true =>
      have la : a.length ≤ 80 := by
        unfold fewA at f1; simp only [Bool.and_eq_true, decide_eq_true_eq] at f1; omega
      simp only [Bool.not_true, beq_self_eq_true, cond_true, cond_false, F30_eq, Option.bind_some]
      by_cases hbad : ¬ valid a ∨ g < 0 ∨ (a.length : Int) ≤ g
      · have : pathA a g = (0, [], 1) := by unfold pathA; rw [if_pos hbad]
        simp [this]
      · have va : valid a := Classical.byContradiction fun q => hbad (.inl q)
        have hg0 : ¬ g < 0 := fun q => hbad (.inr (.inl q))
        have hgl : ¬ (a.length : Int) ≤ g := fun q => hbad (.inr (.inr q))
        obtain ⟨n, rfl⟩ : ∃ n : Nat, g = n := ⟨g.toNat, by omega⟩
        have hn : n < a.length := by omega
        obtain ⟨u, us, hrev, hlk⟩ := trN_look va n n hn (Nat.le_refl _)
        have hlen := trN_len va n n hn (Nat.le_refl _)
        have husl : (u :: us).length ≤ 81 := by rw [← hrev, List.length_reverse]; omega
        have hus : us.length ≤ 80 := by simp only [List.length_cons] at husl; omega
        generalize hk : (trN a n).1 = k at hlk
        have hpath : pathA a (n : Int) = (k, u :: us, 0) := path_of va hn hlk
        have hfind := findA_of va hlk
        have hmade := made_again va hlk
        have hr0 : rd (.slice 5 (.int .u8)) (u :: us) 0 = u := rfl
        have hdrop : List.drop ((1 : Int).toNat) (u :: us) = us := rfl
        have ki : inb 0 (u :: us).length = true := inb_true (by omega) (by simp)
        have kj : inb 1 ((u :: us).length + 1) = true := inb_true (by omega) (by simp; omega)
        have kz : decide (((u :: us).length : Int) = 0) = false := by simp; omega
        have kn : ¬ (n : Int) < 0 := by omega
        have klim : ((u :: us).length + 1) * 24 ≤ LIM := by unfold LIM; omega
        simp only [hpath, decide_true, Bool.not_true, cond_false, kz, ki, kj, cond_true, hr0, hdrop, F28_eq (a := a) (k := k) (t := u) (l := us) (by omega), hfind, F26_eq a k u us (by omega), hmade, Option.bind_some, beq_self_eq_true, F25_eq (a := a) (b := a) (by omega), F20_eq, kn, if_false]
        rcases hp : putA a (0, ((n : Int), t)) with ⟨b, x, e⟩
        simp only
        by_cases he : e = 0
        · subst he
          obtain ⟨vv, hu, hm, hx, hpre, hbl, hvb⟩ := putA_ok hp
          have vb : valid b := hvb ⟨by simp only; omega, fun _ => rfl⟩
          have hlen2 : a.length ≤ b.length := hpre.length_le
          have hxl : ix b (0, ((n : Int), t)) < b.length := ix_lt hm
          generalize hxx : ix b (0, ((n : Int), t)) = y at hx hxl
          subst hx
          have hlk1 : look b k u us = some n := look_mono hpre hlk
          have hlk2 : look b k u (us ++ [t]) = some y := by
            rw [look_append hlk1, if_pos hm, hxx]
          have hp1 : pathA b (n : Int) = (k, u :: us, 0) := path_of vb (by omega) hlk1
          have hp2 : pathA b (y : Int) = (k, u :: (us ++ [t]), 0) := path_of vb hxl hlk2
          have htake : b.take a.length = a := by
            obtain ⟨c, rfl⟩ := hpre
            simp
          have kl : inb (a.length : Int) (b.length + 1) = true := inb_true (by omega) (by omega)
          have kab : (a.length : Int) ≤ (b.length : Int) := by omega
          simp only [hp1, hp2, decide_true, Bool.not_true, cond_false, cond_true, Option.bind_some, beq_self_eq_true, F27_eq (a := u :: us) (b := u :: us) (by omega), klim, List.cons_append, F27_eq (a := u :: (us ++ [t])) (b := u :: (us ++ [t])) (by simp only [List.length_cons, List.length_append, List.length_nil]; omega), kab, kl, Int.toNat_natCast, htake, F25_eq (a := a) (b := a) (by omega)]
        · have ht : (4096 : Int) < (t.length : Int) := by
            unfold putA at hp
            rw [if_neg (by rintro (q | q); exact q va; simp only at q; omega)] at hp
            by_cases q : 4096 < t.length
            · omega
            · rw [if_neg (by simpa using q)] at hp
              split at hp
              · simp only [Prod.mk.injEq] at hp; exact absurd hp.2.2.symm he
              · rw [if_neg (by omega)] at hp
                simp only [Prod.mk.injEq] at hp; exact absurd hp.2.2.symm he
          simp [he, ht]
theorem pure6 (b : dens [.agg (.slice 39 (.pair (.int .u64) (.pair (.int .i64) (.slice 5 (.int .u8))))), .one (.int .i64), .one (.slice 5 (.int .u8))]) (h : Goods [.agg (.slice 39 (.pair (.int .u64) (.pair (.int .i64) (.slice 5 (.int .u8))))), .one (.int .i64), .one (.slice 5 (.int .u8))] b) : F6 b = some true := F6_true h.1.1
end Go.Proofs.Ytcpcbeeghjigkaa.R3
