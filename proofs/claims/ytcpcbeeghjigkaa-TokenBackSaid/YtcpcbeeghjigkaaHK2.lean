/- Part of a proof: what the program's functions come to. -/
import Derived.Test.YtcpcbeeghjigkaaHK1
set_option linter.unusedVariables false
set_option linter.unusedSimpArgs false
namespace Go.Proofs.Ytcpcbeeghjigkaa.R3
open Go Go.Fw Go.Proofs RB
set_option maxRecDepth 20000
/-! ### tokens in an arena -/
abbrev Zero : Tok := (0, ([], 0))
noncomputable def mintA (a : List Tm) (root key : Int) : List Tm × Tok × Int :=
  if (putA a (key, (-1, enc1 root))).2.2 = 0 then ((putA a (key, (-1, enc1 root))).1, (root, ([], (putA a (key, (-1, enc1 root))).2.1)), 0) else ([], Zero, (putA a (key, (-1, enc1 root))).2.2)
theorem F37_eq {a : List Tm} {root key : Int} (hr : 0 ≤ root) : F37 (a, root, key) = some (mintA a root key) := by
  unfold F37 mintA
  simp only [both_self, F62_one hr, F18_eq, Option.bind_some]
  by_cases h : (putA a (key, (-1, enc1 root))).2.2 = 0
  · simp [h]
  · simp [h]
open Classical in
noncomputable def bindA (a : List Tm) (t : Tok) (c : Cv) : List Tm × Tok × Int :=
  if chk c ≠ 0 ∨ ¬ okK t ∨ ¬ valid a then ([], Zero, 1) else if t.2.1.length = 16 then ([], Zero, 7) else
    if (putA a (0, (t.2.2, encC c))).2.2 = 0 then ((putA a (0, (t.2.2, encC c))).1, (t.1, (t.2.1 ++ [c], (putA a (0, (t.2.2, encC c))).2.1)), 0) else ([], Zero, (putA a (0, (t.2.2, encC c))).2.2)
theorem F39_eq {a : List Tm} {t : Tok} {c : Cv} (ht : TokOk t) (hl : t.2.1.length ≤ 9223372036854775807) (hc : CvOk c) : F39 (a, t, c) = some (bindA a t c) := by
  unfold F39 bindA
  simp only [both_self, Prod.eta, F65_eq hc, F43_eq ht hl, F23_eq, Option.bind_some]
  by_cases h1 : chk c = 0
  · by_cases h2 : okK t
    · by_cases h3 : valid a
      · have h16 := h2.1
        have hneg : ¬ t.2.2 < 0 := by have := h2.2.1; omega
        simp only [putC, h1, h2, h3, if_true, decide_true, Bool.not_true, beq_self_eq_true, cond_true, cond_false, not_true_eq_false, ne_eq, or_self, if_false, F20_eq, hneg, Option.bind_some]
        by_cases h4 : t.2.1.length = 16
        · simp [h4]
        · have h4' : ¬ (t.2.1.length : Int) = 16 := by omega
          have k1 : inb (t.2.1.length : Int) (t.2.1.length + 1) = true := inb_true (by omega) (by omega)
          have k2 : (t.2.1.length + 1) * 24 ≤ LIM := by unfold LIM; omega
          simp only [h4, h4', decide_false, cond_false, if_false]
          by_cases h5 : (putA a (0, (t.2.2, encC c))).2.2 = 0
          · simp only [h5, decide_true, Bool.not_true, cond_false, k1, Bool.and_self, cond_true, Int.toNat_natCast, List.take_length, k2, if_true]
          · simp [h5]
      · simp [putC, h1, h2, h3]
    · simp [putC, h1, h2]
  · rcases chk_01 c with h | h
    · exact absurd h h1
    · simp [putC, h]
open Classical in
noncomputable def verA (a : List Tm) (key : Int) (t : Tok) : Bool × Int :=
  if ¬ okK t ∨ ¬ valid a then (false, 1) else (decide (findA a key (enc1 t.1) (t.2.1.map encC) = (t.2.2, 0)), 0)
theorem F35_eq {a : List Tm} {key : Int} {t : Tok} (ht : TokOk t) (hl : t.2.1.length ≤ 9223372036854775807) : F35 (a, key, t) = some (verA a key t) := by
  unfold F35 verA
  simp only [both_self, Prod.eta, F43_eq ht hl, F23_eq, Option.bind_some]
  by_cases h2 : okK t
  · by_cases h3 : valid a
    · have h16 := h2.1
      simp only [h2, h3, if_true, decide_true, Bool.not_true, beq_self_eq_true, cond_true, cond_false, not_true_eq_false, or_self, if_false, F62_one ht.1.1, F63_eq ht h2, F28_eq (a := a) (k := key) (t := enc1 t.1) (l := t.2.1.map encC) (by simp; omega), Option.bind_some]
      rcases findA a key (enc1 t.1) (t.2.1.map encC) with ⟨f1, f2⟩
      simp only [Prod.mk.injEq]
      by_cases q2 : f2 = 0
      · by_cases q1 : f1 = t.2.2 <;> simp [q1, q2]
      · simp [q2]
    · simp [h2, h3]
  · simp [h2]
theorem F72_eq' {a b : List Cv} (hl : a.length ≤ 4611686018427387904) : F36 (a, b) = some (decide (a = b)) := by
  unfold F36
  by_cases hn : a.length = b.length
  · have : (a.length : Int) = (b.length : Int) := by omega
    simp only [this, decide_true, Bool.not_true, cond_false]
    rw [← this]
    refine same_loop (t := .pair (.int .i64) (.pair (.int .u64) (.int .u64))) hl hn (G := fun x y K => K (decide (x.1 = y.1) && (decide (x.2.1 = y.2.1) && decide (x.2.2 = y.2.2)))) ?_
    intro i h1 h2 K
    congr 1
    rw [Bool.eq_iff_iff]
    simp only [Bool.and_eq_true, decide_eq_true_eq]
    constructor
    · rintro ⟨q1, q2, q3⟩; exact Prod.ext q1 (Prod.ext q2 q3)
    · intro q; rw [q]; exact ⟨rfl, rfl, rfl⟩
  · have : ¬ (a.length : Int) = (b.length : Int) := by omega
    have hne : a ≠ b := fun h => hn (by rw [h])
    simp [this, hne]
noncomputable def stepB (s : List Tm × Tok × Int) (c : Cv) : List Tm × Tok × Int := if s.2.2 = 0 then bindA s.1 s.2.1 c else s
/-- A token that came of binding is well formed. -/
theorem bindA_ok {a : List Tm} {t : Tok} {c : Cv} (ht : TokOk t) (hc : CvOk c) : TokOk (bindA a t c).2.1 ∧ (bindA a t c).2.1.2.1.length ≤ 16 := by
  have z : TokOk Zero ∧ Zero.2.1.length ≤ 16 := ⟨⟨⟨by decide, by decide⟩, by simp, by simp⟩, by simp⟩
  unfold bindA
  split
  · exact z
  · split
    · exact z
    · rename_i h1 h2
      have hk : okK t := Classical.byContradiction fun q => h1 (.inr (.inl q))
      split
      · rename_i h3
        refine ⟨⟨ht.1, fun d hd => ?_, ?_⟩, ?_⟩
        · simp only [List.mem_append, List.mem_singleton] at hd
          rcases hd with hd | rfl
          · exact ht.2.1 d hd
          · exact hc
        · rcases hp : putA a (0, (t.2.2, encC c)) with ⟨b, x, e⟩
          rw [hp] at h3
          simp only at h3
          subst h3
          obtain ⟨va, _, hm, hx, _, hbl, _⟩ := putA_ok hp
          have := ix_lt hm
          have := va.len
          simp only
          omega
        · have := hk.1
          simp only [List.length_append, List.length_singleton]
          omega
      · exact z
theorem mintA_ok {a : List Tm} {root key : Int} (hr : U64 root) : TokOk (mintA a root key).2.1 ∧ (mintA a root key).2.1.2.1.length ≤ 16 := by
  unfold mintA
  split
  · rename_i h3
    refine ⟨⟨hr, by simp, ?_⟩, by simp⟩
    rcases hp : putA a (key, (-1, enc1 root)) with ⟨b, x, e⟩
    rw [hp] at h3
    simp only at h3
    subst h3
    obtain ⟨va, _, hm, hx, _, hbl, _⟩ := putA_ok hp
    have := ix_lt hm
    have := va.len
    simp only
    omega
  · exact ⟨⟨⟨by show (0 : Int) ≤ 0; omega, by show (0 : Int) < 18446744073709551616; omega⟩, by simp, by simp⟩, by simp⟩
theorem fold_ok : ∀ (l : List Cv) (s : List Tm × Tok × Int), (∀ c ∈ l, CvOk c) → TokOk s.2.1 → s.2.1.2.1.length ≤ 16 → TokOk (l.foldl stepB s).2.1 ∧ (l.foldl stepB s).2.1.2.1.length ≤ 16
  | [], s, _, h1, h2 => ⟨h1, h2⟩
  | c :: r, s, hl, h1, h2 => by
    rw [List.foldl_cons]
    have : TokOk (stepB s c).2.1 ∧ (stepB s c).2.1.2.1.length ≤ 16 := by
      unfold stepB
      split
      · exact bindA_ok h1 (hl c (by simp))
      · exact ⟨h1, h2⟩
    exact fold_ok r _ (fun d hd => hl d (List.mem_cons_of_mem _ hd)) this.1 this.2
noncomputable def boundA (a : List Tm) (root key : Int) (l : List Cv) : List Tm × Tok × Int := l.foldl stepB (mintA a root key)
theorem F34_eq {a : List Tm} {root key : Int} {l : List Cv} (hr : U64 root) (hl : l.length ≤ 9223372036854775807) (hc : ∀ c ∈ l, CvOk c) :
    F34 (a, root, key, l) = some ((boundA a root key l).1, (boundA a root key l).2.1, decide ((boundA a root key l).2.2 = 0)) := by
  unfold F34 boundA
  simp only [both_self, Prod.eta, F37_eq hr.1, Option.bind_some]
  have hm := mintA_ok (a := a) (key := key) hr
  generalize mintA a root key = s0 at hm
  refine lfp_rule (fun (x : Int × Int × Tok × List Tm) => ∃ i : Nat, x.2.1 = (i : Int) ∧ i ≤ l.length ∧ (x.2.2.2, x.2.2.1, x.1) = (l.take i).foldl stepB s0) (fun x => l.length - x.2.1.toNat)
    (fun _ => ((l.foldl stepB s0).1, (l.foldl stepB s0).2.1, decide ((l.foldl stepB s0).2.2 = 0))) ?_ (s0.2.2, (0 : Int), s0.2.1, s0.1) ⟨0, rfl, by omega, by simp⟩
  rintro ⟨e, i', t, b⟩ ⟨i, hi', hi, hst⟩ rec hrec
  simp only at hi' hst
  subst hi'
  simp only
  have hok := fold_ok (l.take i) s0 (fun c hc' => hc c (List.mem_of_mem_take hc')) hm.1 hm.2
  rw [← hst] at hok
  simp only at hok
  by_cases hlt : i < l.length
  · have k1 : ((i : Int) < (l.length : Int)) := by omega
    have hstep : (l.take (i + 1)).foldl stepB s0 = stepB (b, t, e) l[i] := by
      rw [List.take_succ_eq_append_getElem hlt, List.foldl_append, ← hst]; rfl
    simp only [k1, decide_true, cond_true, inb_true (Int.natCast_nonneg i) k1, rd_nat (t := .pair (.int .i64) (.pair (.int .u64) (.int .u64))) hlt, Prod.eta, F39_eq hok.1 (by omega : t.2.1.length ≤ 9223372036854775807) (hc _ (List.getElem_mem hlt)), Option.bind_some]
    rw [RB.wrap_i64 (n := (i : Int) + 1) (by omega) (by omega)]
    by_cases he : e = 0
    · simp only [he, decide_true, cond_true]
      refine hrec _ ⟨i + 1, by simp, by omega, ?_⟩ (by simp only; omega)
      rw [hstep]
      simp only [stepB, he, if_true]
    · simp only [he, decide_false, cond_false]
      refine hrec _ ⟨i + 1, by simp, by omega, ?_⟩ (by simp only; omega)
      rw [hstep]
      simp only [stepB, he, if_false]
  · have k1 : ¬ ((i : Int) < (l.length : Int)) := by omega
    have hie : i = l.length := by omega
    simp only [k1, decide_false, cond_false]
    rw [hie, List.take_length] at hst
    rw [← hst]
/-! ### what binding comes to -/
theorem bind_err : ∀ (l : List Cv) (s : List Tm × Tok × Int), s.2.2 ≠ 0 → l.foldl stepB s = s
  | [], _, _ => rfl
  | c :: r, s, h => by
    rw [List.foldl_cons, show stepB s c = s by simp [stepB, h]]
    exact bind_err r s h
theorem bound_spec (root key : Int) : ∀ (l : List Cv) (a : List Tm) (L : List Cv) (x : Nat), valid a → look a key (enc1 root) (L.map encC) = some x → (∀ c ∈ L, chk c = 0) → L.length ≤ 16 →
    ∀ b u, l.foldl stepB (a, (root, (L, (x : Int))), 0) = (b, u, 0) →
    valid b ∧ a <+: b ∧ b.length ≤ a.length + l.length ∧ ∃ y : Nat, u = (root, (L ++ l, (y : Int))) ∧ look b key (enc1 root) ((L ++ l).map encC) = some y ∧ (∀ c ∈ L ++ l, chk c = 0) ∧ (L ++ l).length ≤ 16
  | [], a, L, x, hv, hlk, hc, h16, b, u, h => by
    simp only [List.foldl_nil, Prod.mk.injEq, and_true] at h
    obtain ⟨rfl, rfl⟩ := h
    exact ⟨hv, List.prefix_refl _, by simp, x, by simp, by simpa using hlk, by simpa using hc, by simpa using h16⟩
  | c :: r, a, L, x, hv, hlk, hc, h16, b, u, h => by
    rw [List.foldl_cons] at h
    have hs : stepB (a, (root, (L, (x : Int))), 0) c = bindA a (root, (L, (x : Int))) c := by simp [stepB]
    rw [hs] at h
    unfold bindA at h
    by_cases h1 : chk c ≠ 0 ∨ ¬ okK (root, (L, (x : Int))) ∨ ¬ valid a
    · rw [if_pos h1, bind_err r _ (by simp)] at h; simp at h
    · rw [if_neg h1] at h
      have hcc : chk c = 0 := Classical.byContradiction fun q => h1 (.inl q)
      by_cases h2 : L.length = 16
      · rw [if_pos h2, bind_err r _ (by simp)] at h; simp at h
      · rw [if_neg h2] at h
        simp only at h
        rcases hp : putA a (0, ((x : Int), encC c)) with ⟨b1, x1, e1⟩
        rw [hp] at h
        simp only at h
        by_cases h3 : e1 = 0
        · subst h3
          rw [if_pos rfl] at h
          obtain ⟨_, _, hm, hx1, hpre, hbl, hvb⟩ := putA_ok hp
          have hv1 : valid b1 := hvb ⟨by simp only; omega, fun _ => rfl⟩
          subst hx1
          have hlk1 : look b1 key (enc1 root) ((L ++ [c]).map encC) = some (ix b1 (0, ((x : Int), encC c))) := by
            rw [List.map_append, List.map_singleton, look_append (look_mono hpre hlk), if_pos hm]
          obtain ⟨g1, g2, g3, y, g4, g5, g6, g7⟩ := bound_spec root key r b1 (L ++ [c]) _ hv1 hlk1 (by
            intro d hd
            simp only [List.mem_append, List.mem_singleton] at hd
            rcases hd with hd | rfl
            · exact hc d hd
            · exact hcc) (by simp; omega) b u h
          refine ⟨g1, hpre.trans g2, by simp; omega, y, ?_, ?_, ?_, ?_⟩
          · rw [g4]; simp
          · rw [List.append_assoc] at g5; exact g5
          · rw [List.append_assoc] at g6; exact g6
          · rw [List.append_assoc] at g7; exact g7
        · rw [if_neg h3, bind_err r _ h3] at h
          simp only [Prod.mk.injEq] at h
          exact absurd h.2.2 h3
theorem boundA_ok {a b : List Tm} {root key : Int} {l : List Cv} {u : Tok} (h : boundA a root key l = (b, u, 0)) :
    valid a ∧ valid b ∧ a <+: b ∧ b.length ≤ a.length + 1 + l.length ∧ ∃ y : Nat, u = (root, (l, (y : Int))) ∧ look b key (enc1 root) (l.map encC) = some y ∧ (∀ c ∈ l, chk c = 0) ∧ l.length ≤ 16 := by
  unfold boundA mintA at h
  rcases hp : putA a (key, (-1, enc1 root)) with ⟨b1, x1, e1⟩
  rw [hp] at h
  simp only at h
  by_cases he : e1 = 0
  · subst he
    rw [if_pos rfl] at h
    obtain ⟨va, _, hm, hx1, hpre, hbl, hvb⟩ := putA_ok hp
    have hv1 : valid b1 := hvb ⟨by simp, fun q => by simp at q⟩
    subst hx1
    have hlk : look b1 key (enc1 root) (([] : List Cv).map encC) = some (ix b1 (key, (-1, enc1 root))) := by
      unfold look
      rw [if_pos hm]
      rfl
    obtain ⟨g1, g2, g3, y, g4, g5, g6, g7⟩ := bound_spec root key l b1 [] _ hv1 hlk (by simp) (by simp) b u h
    exact ⟨va, g1, hpre.trans g2, by omega, y, by simpa using g4, by simpa using g5, by simpa using g6, by simpa using g7⟩
  · rw [if_neg he, bind_err l _ he] at h
    simp only [Prod.mk.injEq] at h
    exact absurd h.2.2 he
theorem maps_inj : ∀ {l m : List Cv}, (∀ c ∈ l, CvOk c ∧ chk c = 0) → (∀ c ∈ m, CvOk c ∧ chk c = 0) → l.map encC = m.map encC → l = m
  | [], [], _, _, _ => rfl
  | [], _ :: _, _, _, h => by simp at h
  | _ :: _, [], _, _, h => by simp at h
  | c :: l, d :: m, hl, hm, h => by
    simp only [List.map_cons, List.cons.injEq] at h
    have h1 := hl c (by simp)
    have h2 := hm d (by simp)
    rw [encC_inj h1.1 h2.1 h1.2 h2.2 h.1, maps_inj (fun x hx => hl x (List.mem_cons_of_mem _ hx)) (fun x hx => hm x (List.mem_cons_of_mem _ hx)) h.2]
end Go.Proofs.Ytcpcbeeghjigkaa.R3
