/- Part of a proof: what the program's functions come to. -/
import Derived.Test.YtcpcbeeghjigkaaHK2
set_option linter.unusedVariables false
set_option linter.unusedSimpArgs false
namespace Go.Proofs.Ytcpcbeeghjigkaa.R3
open Go Go.Fw Go.Proofs RB
set_option maxRecDepth 20000
/-! ### whether a token is right -/
theorem long_enc (n : Int) : longT (enc1 n) = false := by
  have := enc1_len n
  unfold longT; simp; omega
theorem long_encs (l : List Cv) : (l.map encC).any longT = false := by
  rw [List.any_eq_false]
  intro x hx
  obtain ⟨c, _, rfl⟩ := List.mem_map.1 hx
  have := encC_len c
  unfold longT; simp; omega
theorem findA_iff {a : List Tm} (h : valid a) (k r : Int) (l : List Cv) (g : Int) : findA a k (enc1 r) (l.map encC) = (g, 0) ↔ ∃ y : Nat, g = (y : Int) ∧ look a k (enc1 r) (l.map encC) = some y := by
  unfold findA
  rw [if_neg (by simpa using h), if_neg (by rw [long_enc, long_encs]; simp)]
  cases look a k (enc1 r) (l.map encC) with
  | none => simp
  | some y =>
    simp only [Prod.mk.injEq, and_true, Option.some.injEq]
    constructor
    · intro h; exact ⟨y, h.symm, rfl⟩
    · rintro ⟨z, h1, h2⟩; omega
open Classical in
theorem verA_eq {a : List Tm} {key : Int} {t : Tok} (hv : valid a) (hk : okK t) : verA a key t = (decide (∃ y : Nat, t.2.2 = (y : Int) ∧ look a key (enc1 t.1) (t.2.1.map encC) = some y), 0) := by
  unfold verA
  rw [if_neg (by rintro (q | q); exact q hk; exact q hv)]
  simp only [findA_iff hv]
theorem verA_bad {a : List Tm} {key : Int} {t : Tok} (hk : ¬ okK t) : verA a key t = (false, 1) := by
  unfold verA
  rw [if_pos (.inl hk)]
theorem okK_mk {root : Int} {l : List Cv} {y : Nat} {b : List Tm} (hb : valid b) (hy : y < b.length) (hc : ∀ c ∈ l, chk c = 0) (hl : l.length ≤ 16) : okK (root, (l, (y : Int))) := by
  have := hb.len
  exact ⟨hl, by simp only; omega, hc⟩
theorem tokOk_mk {root : Int} {l : List Cv} {y : Nat} {b : List Tm} (hr : U64 root) (hb : valid b) (hy : y < b.length) (hc : ∀ c ∈ l, CvOk c) : TokOk (root, (l, (y : Int))) := by
  have := hb.len
  exact ⟨hr, hc, by simp only; omega⟩
theorem F33_some (t : Tok) : ∃ f, F33 [t] = some f := by
  have := all_loop (t := .pair (.int .u64) (.pair (.slice 62 (.pair (.int .i64) (.pair (.int .u64) (.int .u64)))) (.int .i64))) (l := [t]) (by simp) (fun x => decide (20 < (x.2.1.length : Int))) true
  exact ⟨_, this⟩
theorem F32_true : F32 () = some true := by
  unfold F32
  have z : U64 5 := ⟨by decide, by decide⟩
  have hp := put_nil 9 (enc1 5) (by have := enc1_len 5; omega)
  obtain ⟨_, _, hm, hx, _, _, hvb⟩ := putA_ok hp
  have hv := hvb ⟨by simp, fun q => by simp at q⟩
  have hmint : mintA [] 5 9 = ([(9, (-1, enc1 5))], (5, ([], 0)), 0) := by unfold mintA; simp [hp]
  have hk : okK (5, ([], 0)) := ⟨by simp, by simp, by simp⟩
  have ht : TokOk (5, ([], 0)) := ⟨z, by simp, by simp⟩
  have l9 : look [(9, ((-1 : Int), enc1 5))] 9 (enc1 5) (([] : List Cv).map encC) = some 0 := by
    unfold look
    rw [if_pos (by simp)]
    simp [wk, ix]
  have l8 : look [(9, ((-1 : Int), enc1 5))] 8 (enc1 5) (([] : List Cv).map encC) = none := by
    unfold look
    rw [if_neg (by simp)]
  have v9 : verA [(9, ((-1 : Int), enc1 5))] 9 (5, ([], 0)) = (true, 0) := by
    rw [verA_eq hv hk]
    simp only [Prod.mk.injEq, and_true, decide_eq_true_eq]
    exact ⟨0, rfl, l9⟩
  have v8 : verA [(9, ((-1 : Int), enc1 5))] 8 (5, ([], 0)) = (false, 0) := by
    rw [verA_eq hv hk]
    simp only [Prod.mk.injEq, and_true, decide_eq_false_iff_not]
    rintro ⟨y, _, h2⟩
    rw [l8] at h2
    simp at h2
  simp only [F37_eq z.1, hmint, Option.bind_some, F35_eq ht (by simp : (([] : List Cv).length ≤ 9223372036854775807)), v9, v8]
  rfl
/-- THE STAGE'S: in an arena that has what was bound. -/
theorem right_core {c : List Tm} {root key other : Int} {l : List Cv} {t : Tok} {y : Nat} (hc : valid c) (hlk : look c key (enc1 root) (l.map encC) = some y) (hr : U64 root) (hl : ∀ x ∈ l, CvOk x) (ht : TokOk t) (htl : t.2.1.length ≤ 9223372036854775807)
    (hcl : ∀ x ∈ l, chk x = 0) (h16 : l.length ≤ 16) :
    verA c key (root, (l, (y : Int))) = (true, 0) ∧ verA c other (root, (l, (y : Int))) = (decide (other = key), 0) ∧
    ((verA c key (t.1, (t.2.1, (y : Int)))).2 = 0 → (verA c key (t.1, (t.2.1, (y : Int)))).1 = (decide (t.1 = root) && decide (t.2.1 = l))) ∧
    ((verA c key (root, (l, t.2.2))).2 = 0 → (verA c key (root, (l, t.2.2))).1 = decide (t.2.2 = (y : Int))) := by
  obtain ⟨_, _, hy⟩ := look_mem (l := l.map encC) (y := y) hc _ (l.map encC) y (Nat.le_refl _) hlk
  have hk : okK (root, (l, (y : Int))) := okK_mk hc hy hcl h16
  have hll : ∀ x ∈ l, CvOk x ∧ chk x = 0 := fun x hx => ⟨hl x hx, hcl x hx⟩
  refine ⟨?_, ?_, fun h => ?_, fun h => ?_⟩
  · rw [verA_eq hc hk]
    simp only [Prod.mk.injEq, and_true, decide_eq_true_eq]
    exact ⟨y, rfl, hlk⟩
  · rw [verA_eq hc hk]
    simp only [Prod.mk.injEq, and_true, decide_eq_decide]
    constructor
    · rintro ⟨z, h1, h2⟩
      have : y = z := by omega
      subst this
      exact (look_inj _ _ _ y (Nat.le_refl _) h2 hlk).1
    · rintro rfl; exact ⟨y, rfl, hlk⟩
  · by_cases hk2 : okK (t.1, (t.2.1, (y : Int)))
    · rw [verA_eq hc hk2]
      rw [Bool.eq_iff_iff]
      simp only [decide_eq_true_eq, Bool.and_eq_true]
      constructor
      · rintro ⟨z, h1, h2⟩
        have : y = z := by omega
        subst this
        obtain ⟨_, e2, e3⟩ := look_inj _ _ _ y (Nat.le_refl _) h2 hlk
        exact ⟨enc1_inj0 ht.1 hr e2, maps_inj (fun x hx => ⟨ht.2.1 x hx, hk2.2.2 x hx⟩) hll e3⟩
      · rintro ⟨e1, e2⟩
        refine ⟨y, rfl, ?_⟩
        rw [e1, e2]; exact hlk
    · rw [verA_bad hk2] at h; simp at h
  · by_cases hk2 : okK (root, (l, t.2.2))
    · rw [verA_eq hc hk2]
      simp only [decide_eq_decide]
      constructor
      · rintro ⟨z, h1, h2⟩
        rw [hlk] at h2
        simp only [Option.some.injEq] at h2
        subst h2; exact h1
      · intro h1; exact ⟨y, h1, hlk⟩
    · rw [verA_bad hk2] at h; simp at h
end Go.Proofs.Ytcpcbeeghjigkaa.R3
