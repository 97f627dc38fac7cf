/- Part of a proof: what the program's functions come to. -/
import Derived.Test.YtcpcbeeghjigkaaHA5
set_option linter.unusedVariables false
set_option linter.unusedSimpArgs false
namespace Go.Proofs.Ytcpcbeeghjigkaa.R3
open Go Go.Fw Go.Proofs RB
set_option maxRecDepth 20000
theorem putA_err {a b : List Tm} {n : Tm} {x e : Int} (h : putA a n = (b, x, e)) (he : e ≠ 0) : b = [] ∧ x = 0 := by
  unfold putA at h
  split at h
  · simp only [Prod.mk.injEq] at h; exact ⟨h.1.symm, h.2.1.symm⟩
  · split at h
    · simp only [Prod.mk.injEq] at h; exact ⟨h.1.symm, h.2.1.symm⟩
    · split at h
      · simp only [Prod.mk.injEq] at h; exact absurd h.2.2.symm he
      · split at h
        · simp only [Prod.mk.injEq] at h; exact ⟨h.1.symm, h.2.1.symm⟩
        · simp only [Prod.mk.injEq] at h; exact absurd h.2.2.symm he
theorem look_mem {a : List Tm} (h : valid a) {k : Int} {t : List Int} {l : List (List Int)} {y : Nat} : ∀ (n : Nat) (l : List (List Int)) (y : Nat), l.length ≤ n → look a k t l = some y → longT t = false ∧ l.any longT = false ∧ y < a.length := by
  have short : ∀ {y : Nat} {m : Tm}, a[y]? = some m → longT m.2.2 = false ∧ y < a.length := by
    intro y m hm
    obtain ⟨hy, rfl⟩ := List.getElem?_eq_some_iff.1 hm
    have := h.text _ (List.getElem_mem hy)
    exact ⟨by unfold longT; simp; omega, hy⟩
  intro n
  induction n with
  | zero =>
    intro l y hn hl
    have : l = [] := List.length_eq_zero_iff.1 (by omega)
    subst this
    have := short (look_root hl)
    exact ⟨this.1, rfl, this.2⟩
  | succ n ih =>
    intro l y hn hl
    rcases List.eq_nil_or_concat l with rfl | ⟨m, s, rfl⟩
    · have := short (look_root hl)
      exact ⟨this.1, rfl, this.2⟩
    · obtain ⟨z, h1, h2⟩ := look_snoc (by simpa using hl)
      have hs := short h2
      have hm : m.length ≤ n := by simp at hn; omega
      obtain ⟨g1, g2, _⟩ := ih m z hm h1
      exact ⟨g1, by simp [g2, hs.1], hs.2⟩
theorem findA_of {a : List Tm} (h : valid a) {k : Int} {t : List Int} {l : List (List Int)} {y : Nat} (hl : look a k t l = some y) : findA a k t l = ((y : Int), 0) := by
  obtain ⟨h1, h2, _⟩ := look_mem (l := l) (y := y) h l.length l y (Nat.le_refl _) hl
  unfold findA
  rw [if_neg (by simpa using h), if_neg (by simp [h1, h2]), hl]
theorem F7_true {a : List Tm} {g : Int} {t : List Int} (ha : a.length ≤ 9223372036854775807) : F7 (a, g, t) = some true := by
  unfold F7
  simp only [both_self, F14_true, F15_eq ha, F16_eq (l := [t]) (by simp), Option.bind_some, Bool.not_true, cond_false]
  cases f1 : fewA a with
  | false => rfl
  | true =>
    cases f2 : fewT [t] with
    | false => rfl
    | true =>
      have la : a.length ≤ 80 := by
        unfold fewA at f1; simp only [Bool.and_eq_true, decide_eq_true_eq] at f1; omega
      simp only [Bool.not_true, beq_self_eq_true, cond_true, cond_false, F20_eq, Option.bind_some]
      by_cases hg : g < 0
      · simp [hg]
      · simp only [hg, if_false]
        rcases hp : putA a (0, (g, t)) with ⟨b, x, e⟩
        simp only
        by_cases he : e = 0
        · subst he
          obtain ⟨va, hu, hm, hx, hpre, hbl, hvb⟩ := putA_ok hp
          have vb : valid b := hvb ⟨by simp only; omega, fun _ => rfl⟩
          simp only at hu
          obtain ⟨n, rfl⟩ : ∃ n : Nat, g = n := ⟨g.toNat, by omega⟩
          have hn : n < a.length := by omega
          have hlen2 : a.length ≤ b.length := hpre.length_le
          have hxl : ix b (0, ((n : Int), t)) < b.length := ix_lt hm
          have hget := ix_get hm
          generalize hxx : ix b (0, ((n : Int), t)) = y at hx hxl hget
          subst hx
          have hby : b[y] = (0, ((n : Int), t)) := by rw [List.getElem?_eq_getElem hxl] at hget; simpa using hget
          have hyn : n < y := by
            have := up_lt vb hxl
            rw [hby] at this
            simp only at this
            omega
          have w1 : IntKind.wrap .i64 ((a.length : Int) + 1) = (a.length : Int) + 1 := RB.wrap_i64 (by omega) (by omega)
          have hnew : b.length = a.length + 1 → y = a.length := by
            intro hb
            by_cases hya : y < a.length
            · exfalso
              obtain ⟨c, rfl⟩ := hpre
              have hma : (0, ((n : Int), t)) ∈ a := by
                rw [← hby, List.getElem_append_left hya]
                exact List.getElem_mem hya
              have := putA_same va hma
              rw [this] at hp
              simp only [Prod.mk.injEq] at hp
              have := congrArg List.length hp.1
              omega
            · omega
          have hpath : pathA a (n : Int) = ((trN a n).1, (trN a n).2.reverse, 0) := by
            unfold pathA
            rw [if_neg (by rintro (q | q | q); exact q va; omega; omega)]
          obtain ⟨u, us, hrev, hlk⟩ := trN_look va n n hn (Nat.le_refl _)
          have hlk2 : look b (trN a n).1 u (us ++ [t]) = some y := by
            rw [look_append (look_mono hpre hlk), if_pos hm, hxx]
          have hf := findA_of vb hlk2
          have c1 : ¬ (b.length : Int) < (a.length : Int) := by omega
          have c2 : ¬ (a.length : Int) + 1 < (b.length : Int) := by omega
          have c3 : ¬ (y : Int) < 0 := by omega
          have c4 : ¬ (b.length : Int) ≤ (y : Int) := by omega
          have c5 : ¬ (y : Int) ≤ (n : Int) := by omega
          have c6 : (bif decide ((b.length : Int) = (a.length : Int) + 1) then !decide ((y : Int) = (a.length : Int)) else false) = false := by
            by_cases q : (b.length : Int) = (a.length : Int) + 1
            · have := hnew (by omega)
              simp [this]
            · simp [q]
          have hus : us.length ≤ 80 := by
            have h1 := look_mem (l := us) (y := n) va us.length us n (Nat.le_refl _) hlk
            have : ∀ (m : Nat) (l : List (List Int)) (z : Nat), l.length ≤ m → look a (trN a n).1 u l = some z → l.length ≤ z := by
              intro m
              induction m with
              | zero => intro l z hl _; omega
              | succ m ih =>
                intro l z hl h
                rcases List.eq_nil_or_concat l with rfl | ⟨l', s, rfl⟩
                · simp
                · obtain ⟨q, h3, h4⟩ := look_snoc (by simpa using h)
                  have := ih l' q (by simp at hl; omega) h3
                  obtain ⟨hz, he⟩ := List.getElem?_eq_some_iff.1 h4
                  have := up_lt va hz
                  rw [he] at this
                  simp only at this
                  simp
                  omega
            have := this us.length us n (Nat.le_refl _) hlk
            omega
          have k1 : (([] : List (List Int)).length + us.length) * 24 ≤ LIM := by unfold LIM; simp; omega
          have k2 : ((([] : List (List Int)) ++ us).length + 1) * 24 ≤ LIM := by unfold LIM; simp; omega
          have htake : b.take a.length = a := by
            obtain ⟨c, rfl⟩ := hpre
            simp
          have hr0 : rd (.slice 5 (.int .u8)) (u :: us) 0 = u := rfl
          have hdrop : List.drop ((1 : Int).toNat) (u :: us) = us := rfl
          have ki : inb 0 (u :: us).length = true := inb_true (by omega) (by simp)
          have kj : inb 1 ((u :: us).length + 1) = true := inb_true (by omega) (by simp; omega)
          have kl : inb (a.length : Int) (b.length + 1) = true := inb_true (by omega) (by omega)
          simp only [w1, c1, c2, c3, c4, c5, c6, decide_true, decide_false, Bool.not_true, cond_false, beq_self_eq_true, cond_true, F30_eq, hpath, Option.bind_some, hrev, hr0, hdrop, ki, kj, Bool.or_true, k1, k2, List.nil_append,
            F28_eq (a := b) (k := (trN a n).1) (t := u) (l := us ++ [t]) (by simp; omega), hf, kl, Int.toNat_natCast, htake, F25_eq (a := a) (b := a) (by omega)]
          have kz : decide (((u :: us).length : Int) = 0) = false := by simp; omega
          have k2' : (us.length + 1) * 24 ≤ LIM := by unfold LIM; omega
          simp only [kz, cond_false, k2', decide_true, cond_true]
        · obtain ⟨rfl, rfl⟩ := putA_err hp he
          simp [he]
theorem pure7 (b : dens [.agg (.slice 39 (.pair (.int .u64) (.pair (.int .i64) (.slice 5 (.int .u8))))), .one (.int .i64), .one (.slice 5 (.int .u8))]) (h : Goods [.agg (.slice 39 (.pair (.int .u64) (.pair (.int .i64) (.slice 5 (.int .u8))))), .one (.int .i64), .one (.slice 5 (.int .u8))] b) : F7 b = some true := F7_true h.1.1
end Go.Proofs.Ytcpcbeeghjigkaa.R3
