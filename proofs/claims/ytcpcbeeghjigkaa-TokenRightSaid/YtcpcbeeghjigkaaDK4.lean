/- Part of a proof: what the program's functions come to. -/
import Derived.Test.YtcpcbeeghjigkaaDK3
set_option linter.unusedVariables false
set_option linter.unusedSimpArgs false
namespace Go.Proofs.Ytcpcbeeghjigkaa.R3
open Go Go.Fw Go.Proofs RB
set_option maxRecDepth 20000
theorem F8_true {a : List Tm} {root key o : Int} {l : List Cv} {t : Tok} (ha : a.length ≤ 9223372036854775807) (hr : U64 root) (hll : l.length ≤ 9223372036854775807) (hl : ∀ c ∈ l, CvOk c) (ht : TokOk t) (htl : t.2.1.length ≤ 9223372036854775807) :
    F8 (a, root, key, l, t, o) = some true := by
  obtain ⟨f3, hf3⟩ := F33_some t
  unfold F8
  simp only [Prod.eta, F32_true, F15_eq ha, hf3, Option.bind_some, Bool.not_true, cond_false]
  cases fewA a with
  | false => rfl
  | true =>
    by_cases c1 : (16 : Int) < (l.length : Int)
    · simp [c1]
    · simp only [c1, decide_false, Bool.not_true, cond_false, beq_self_eq_true, cond_true]
      cases f3 with
      | false => rfl
      | true =>
        simp only [Bool.not_true, cond_false, F34_eq (a := a) (key := key) hr hll hl, Option.bind_some]
        rcases h1 : boundA a root key l with ⟨b, u, e⟩
        simp only
        by_cases he : e = 0
        · subst he
          obtain ⟨va, vb, pb, lb, y, rfl, hlk, hcl, h16⟩ := boundA_ok h1
          simp only [decide_true, Bool.not_true, cond_false, F34_eq (a := b) (key := o) ht.1 htl ht.2.1, Option.bind_some]
          rcases h2 : boundA b t.1 o t.2.1 with ⟨b2, u2, e2⟩
          simp only
          by_cases he2 : e2 = 0
          · subst he2
            obtain ⟨_, vC, pC, _⟩ := boundA_ok h2
            have hC := look_mono pC hlk
            simp only [decide_true, Bool.not_true, cond_false]
            have hyl := (look_mem (l := l.map encC) (y := y) vC _ (l.map encC) y (Nat.le_refl _) hC).2.2
            obtain ⟨v1, v2, v3, v4⟩ := right_core (other := o) (t := t) vC hC hr hl ht htl hcl h16
            have tk1 : TokOk (root, (l, (y : Int))) := tokOk_mk hr vC hyl hl
            have tk2 : TokOk (t.1, (t.2.1, (y : Int))) := tokOk_mk ht.1 vC hyl ht.2.1
            have tk3 : TokOk (root, (l, t.2.2)) := ⟨hr, hl, ht.2.2⟩
            simp only [F35_eq (a := b2) (key := key) tk1 (show l.length ≤ 9223372036854775807 by omega), F35_eq (a := b2) (key := o) tk1 (show l.length ≤ 9223372036854775807 by omega), F35_eq (a := b2) (key := key) tk2 htl, F35_eq (a := b2) (key := key) tk3 (show l.length ≤ 9223372036854775807 by omega), v1, v2, Option.bind_some,
              decide_true, Bool.not_true, cond_false, cond_true, beq_self_eq_true, F72_eq' (a := l) (b := l) (by omega)]
            have w4 : (bif (!decide ((verA b2 key (root, (l, t.2.2))).2 = 0)) then true else ((verA b2 key (root, (l, t.2.2))).1 == decide (t.2.2 = (y : Int)))) = true := by
              by_cases q : (verA b2 key (root, (l, t.2.2))).2 = 0
              · simp [q, v4 q]
              · simp [q]
            simp only [w4]
            have hkk : (verA b2 key (t.1, (t.2.1, (y : Int)))).2 = 0 → okK (t.1, (t.2.1, (y : Int))) := fun q => Classical.byContradiction fun h => by rw [verA_bad h] at q; simp at q
            generalize verA b2 key (t.1, (t.2.1, (y : Int))) = w3 at v3 hkk ⊢
            by_cases q : w3.2 = 0
            · have hk := hkk q
              have ht16 : t.2.1.length ≤ 16 := hk.1
              by_cases e1 : t.1 = root
              · by_cases e2 : t.2.1 = l
                · simp [q, v3 q, e1, e2, v1, F72_eq' (a := l) (b := l) (by omega)]
                · simp [q, v3 q, e1, e2, F72_eq' (a := t.2.1) (b := l) (by omega)]
              · simp [q, v3 q, e1]
            · simp [q]
          · have vC := vb
            have hC := hlk
            simp only [he2, decide_false, Bool.not_false, cond_true]
            have hyl := (look_mem (l := l.map encC) (y := y) vC _ (l.map encC) y (Nat.le_refl _) hC).2.2
            obtain ⟨v1, v2, v3, v4⟩ := right_core (other := o) (t := t) vC hC hr hl ht htl hcl h16
            have tk1 : TokOk (root, (l, (y : Int))) := tokOk_mk hr vC hyl hl
            have tk2 : TokOk (t.1, (t.2.1, (y : Int))) := tokOk_mk ht.1 vC hyl ht.2.1
            have tk3 : TokOk (root, (l, t.2.2)) := ⟨hr, hl, ht.2.2⟩
            simp only [F35_eq (a := b) (key := key) tk1 (show l.length ≤ 9223372036854775807 by omega), F35_eq (a := b) (key := o) tk1 (show l.length ≤ 9223372036854775807 by omega), F35_eq (a := b) (key := key) tk2 htl, F35_eq (a := b) (key := key) tk3 (show l.length ≤ 9223372036854775807 by omega), v1, v2, Option.bind_some,
              decide_true, Bool.not_true, cond_false, cond_true, beq_self_eq_true, F72_eq' (a := l) (b := l) (by omega)]
            have w4 : (bif (!decide ((verA b key (root, (l, t.2.2))).2 = 0)) then true else ((verA b key (root, (l, t.2.2))).1 == decide (t.2.2 = (y : Int)))) = true := by
              by_cases q : (verA b key (root, (l, t.2.2))).2 = 0
              · simp [q, v4 q]
              · simp [q]
            simp only [w4]
            have hkk : (verA b key (t.1, (t.2.1, (y : Int)))).2 = 0 → okK (t.1, (t.2.1, (y : Int))) := fun q => Classical.byContradiction fun h => by rw [verA_bad h] at q; simp at q
            generalize verA b key (t.1, (t.2.1, (y : Int))) = w3 at v3 hkk ⊢
            by_cases q : w3.2 = 0
            · have hk := hkk q
              have ht16 : t.2.1.length ≤ 16 := hk.1
              by_cases e1 : t.1 = root
              · by_cases e2 : t.2.1 = l
                · simp [q, v3 q, e1, e2, v1, F72_eq' (a := l) (b := l) (by omega)]
                · simp [q, v3 q, e1, e2, F72_eq' (a := t.2.1) (b := l) (by omega)]
              · simp [q, v3 q, e1]
            · simp [q]
        · simp [he]
theorem tok_of {t : Tok} (h : Fw.Good (.pair (.int .u64) (.pair (.slice 62 (.pair (.int .i64) (.pair (.int .u64) (.int .u64)))) (.int .i64))) t) : TokOk t ∧ t.2.1.length ≤ 9223372036854775807 := ⟨⟨u64_of h.1, fun c hc => cv_of (h.2.1.2 c hc), i64_of h.2.2⟩, h.2.1.1⟩
theorem pure8 (b : dens [.agg (.slice 39 (.pair (.int .u64) (.pair (.int .i64) (.slice 5 (.int .u8))))), .one (.int .u64), .one (.int .u64), .one (.slice 62 (.pair (.int .i64) (.pair (.int .u64) (.int .u64)))), .agg (.pair (.int .u64) (.pair (.slice 62 (.pair (.int .i64) (.pair (.int .u64) (.int .u64)))) (.int .i64))), .one (.int .u64)]) (h : Goods [.agg (.slice 39 (.pair (.int .u64) (.pair (.int .i64) (.slice 5 (.int .u8))))), .one (.int .u64), .one (.int .u64), .one (.slice 62 (.pair (.int .i64) (.pair (.int .u64) (.int .u64)))), .agg (.pair (.int .u64) (.pair (.slice 62 (.pair (.int .i64) (.pair (.int .u64) (.int .u64)))) (.int .i64))), .one (.int .u64)] b) : F8 b = some true :=
  F8_true h.1.1 (u64_of h.2.1) h.2.2.2.1.1 (fun c hc => cv_of (h.2.2.2.1.2 c hc)) (tok_of h.2.2.2.2.1).1 (tok_of h.2.2.2.2.1).2
end Go.Proofs.Ytcpcbeeghjigkaa.R3
