/- Part of a proof: what the program's functions come to. -/
import Derived.Test.YtcpcbeeghjigkaaOAVw
set_option linter.unusedVariables false
set_option linter.unusedSimpArgs false
namespace Go.Proofs.Ytcpcbeeghjigkaa.R3
open Go Go.Fw Go.Proofs RB
set_option maxRecDepth 20000
theorem enc1_len (n : Int) : (enc1 n).length ≤ 9 := by
  have : wid n ≤ 8 := by unfold wid; (repeat' split) <;> omega
  simp [enc1, dig_len]; omega
/-! ### caveats -/
abbrev Cv := Int × (Int × Int)
def CvOk (c : Cv) : Prop := (-9223372036854775808 ≤ c.1 ∧ c.1 ≤ 9223372036854775807) ∧ U64 c.2.1 ∧ U64 c.2.2
theorem cv_of {c : Cv} (h : Fw.Good (.pair (.int .i64) (.pair (.int .u64) (.int .u64))) c) : CvOk c := ⟨i64_of h.1, u64_of h.2.1, u64_of h.2.2⟩
theorem F104_one (a : Int) : F104 [a] = some a := by
  unfold F104
  simp only [List.length_singleton]
  refine (lfp_rule (fun x => x = (a, 1)) (fun _ => 0) (fun _ => a) ?_ (a, 1) rfl)
  rintro x rfl rec hrec
  simp
theorem F93_one (a : Int) : F93 [a] = some (if 4611686018427387904 < a then 1 else 0) := by
  unfold F93
  simp only [List.length_singleton, F104_one, Option.bind_some]
  by_cases h : 4611686018427387904 < a
  · simp [h]
  · simp [h]
/-- May a caveat be? -/
def chk (c : Cv) : Int := if (c.1 < 1 ∨ 5 < c.1) ∨ (c.1 = 2 ∧ 65535 < c.2.1) ∨ ((c.1 = 3 ∨ c.1 = 4) ∧ 4611686018427387904 < c.2.1) ∨ (c.1 ≠ 4 ∧ c.2.2 ≠ 0) then 1 else 0
theorem chk_01 (c : Cv) : chk c = 0 ∨ chk c = 1 := by unfold chk; split <;> simp
theorem F69_eq {c : Cv} (h : CvOk c) : F69 c = some (chk c) := by
  obtain ⟨k, a, b⟩ := c
  obtain ⟨hk, ha, hb⟩ := h
  simp only at hk ha hb
  unfold F69 chk
  simp only [F93_one, Option.bind_some]
  by_cases h4 : k = 4
  · subst h4; simp
  by_cases h3 : k = 3
  · subst h3
    by_cases q : 4611686018427387904 < a
    · simp [q]
    · by_cases q2 : b = 0 <;> simp [q, q2]
  by_cases h2 : k = 2
  · subst h2
    have e : (2 : Int) ^ (min (16 : Int).toNat 64) = 65536 := by decide
    have e2 : (0 < a / 65536) ↔ 65535 < a := by have := ha.1; omega
    by_cases q : 65535 < a
    · simp [e, e2, q]
    · by_cases q2 : b = 0 <;> simp [e, e2, q, q2]
  by_cases h1 : k = 1
  · subst h1
    by_cases q2 : b = 0 <;> simp [q2]
  by_cases h5 : k = 5
  · subst h5
    by_cases q2 : b = 0 <;> simp [q2]
  have : k < 1 ∨ 5 < k := by omega
  simp [h1, h2, h3, h4, h5, this]
theorem chk_kind {c : Cv} (h : chk c = 0) : 1 ≤ c.1 ∧ c.1 ≤ 5 ∧ (c.1 = 2 → c.2.1 ≤ 65535) ∧ (c.1 ≠ 4 → c.2.2 = 0) ∧ (c.1 = 3 ∨ c.1 = 4 → c.2.1 ≤ 4611686018427387904) := by
  unfold chk at h
  split at h
  · simp at h
  · rename_i q; omega
theorem small_u64 {n : Int} (h0 : 0 ≤ n) (h1 : n ≤ 1048576) : IntKind.wrap .u64 n = n := RB.wrap_u64 (by omega) (by omega)
def encC (c : Cv) : List Int := enc1 c.1 ++ (enc1 c.2.1 ++ (if c.1 = 4 then enc1 c.2.2 else []))
def putC (c : Cv) : List Int × Int := if chk c = 0 then (encC c, 0) else ([], 1)
theorem F65_eq {c : Cv} (hc : CvOk c) : F65 c = some (putC c) := by
  unfold F65 putC
  simp only [Prod.eta, F69_eq hc, Option.bind_some]
  by_cases h : chk c = 0
  · have k := chk_kind h
    have hw : IntKind.wrap .u64 c.1 = c.1 := small_u64 (by omega) (by omega)
    have h1 := hc.2.1.1
    have h2 := hc.2.2.1
    by_cases h4 : c.1 = 4
    · simp only [h, h4, decide_true, Bool.not_true, cond_false, if_true, encC]
      rw [small_u64 (n := 4) (by omega) (by omega), F62_eq (by intro n hn; simp at hn; omega) (by simp)]
      simp
    · simp only [h, h4, decide_true, decide_false, Bool.not_true, Bool.not_false, cond_true, cond_false, if_true, if_false, encC]
      rw [hw, F62_eq (by intro n hn; simp at hn; omega) (by simp)]
      simp [inb]
  · rcases chk_01 c with h0 | h0
    · exact absurd h0 h
    · simp [h0]
theorem encC_byte {c : Cv} (hc : CvOk c) (h : chk c = 0) : ∀ d ∈ encC c, Byte d := by
  have k := chk_kind h
  intro d hd
  unfold encC at hd
  rcases List.mem_append.1 hd with hd | hd
  · exact enc1_byte (by omega) d hd
  rcases List.mem_append.1 hd with hd | hd
  · exact enc1_byte hc.2.1.1 d hd
  · split at hd
    · exact enc1_byte hc.2.2.1 d hd
    · simp at hd
theorem encC_len (c : Cv) : (encC c).length ≤ 27 := by
  have h1 := enc1_len c.1
  have h2 := enc1_len c.2.1
  have h3 := enc1_len c.2.2
  unfold encC
  rw [List.length_append, List.length_append]
  split
  · omega
  · simp only [List.length_nil]; omega
theorem F68_eq {c : Cv} (h : CvOk c) : F68 c = some (decide (chk c ≠ 0)) := by
  unfold F68
  simp only [Prod.eta, F69_eq h, Option.bind_some]
  by_cases q : chk c = 0 <;> simp [q]
theorem F77_eq {l : List Cv} (hl : l.length ≤ 9223372036854775807) (h : ∀ c ∈ l, CvOk c) : F70068 (l, ()) = some (l.any fun c => decide (chk c ≠ 0)) := by
  obtain ⟨r, h1, h2⟩ := idx_loop (t := .pair (.int .i64) (.pair (.int .u64) (.int .u64))) (l := l) hl (p := fun c => decide (chk c ≠ 0)) (G := F68) (fun x hx => F68_eq (h x hx))
  have : F94068 (l, ()) = some r := h1
  unfold F70068
  simp only [this, Option.bind_some, h2]
/-! ### tokens -/
abbrev Tok := Int × (List Cv × Int)
def TokOk (t : Tok) : Prop := U64 t.1 ∧ (∀ c ∈ t.2.1, CvOk c) ∧ (-9223372036854775808 ≤ t.2.2 ∧ t.2.2 ≤ 9223372036854775807)
def okK (t : Tok) : Prop := t.2.1.length ≤ 16 ∧ (0 ≤ t.2.2 ∧ t.2.2 ≤ 1048576) ∧ ∀ c ∈ t.2.1, chk c = 0
open Classical in
theorem F43_eq {t : Tok} (h : TokOk t) (hl : t.2.1.length ≤ 9223372036854775807) : F43 t = some (if okK t then 0 else 1) := by
  unfold F43
  simp only [F77_eq hl h.2.1, Option.bind_some]
  by_cases h1 : 16 < t.2.1.length
  · have : (16 : Int) < (t.2.1.length : Int) := by omega
    have hn : ¬ okK t := fun h => by have := h.1; omega
    simp [this, hn]
  have k1 : ¬ (16 : Int) < (t.2.1.length : Int) := by omega
  by_cases h2 : t.2.2 < 0
  · have hn : ¬ okK t := fun h => by have := h.2.1; omega
    simp [k1, h2, hn]
  by_cases h3 : 1048576 < t.2.2
  · have hn : ¬ okK t := fun h => by have := h.2.1; omega
    simp [k1, h2, h3, hn]
  cases ha : t.2.1.any fun c => decide (chk c ≠ 0) with
  | true =>
    obtain ⟨c, hc, h4⟩ := List.any_eq_true.1 ha
    have hn : ¬ okK t := fun h => by have := h.2.2 c hc; simp [this] at h4
    simp [k1, h2, h3, hn]
  | false =>
    have hn : okK t := ⟨by omega, by omega, fun c hc => by
      have := List.any_eq_false.1 ha c hc
      simpa using this⟩
    simp [k1, h2, h3, hn]
theorem F63_eq {t : Tok} (h : TokOk t) (hk : okK t) : F63 t = some (t.2.1.map encC) := by
  have h16 := hk.1
  unfold F63
  have hL : t.2.1.length * 24 ≤ LIM := by unfold LIM; omega
  simp only [Int.natCast_nonneg, decide_true, Bool.and_self, hL, cond_true, Int.toNat_natCast]
  refine lfp_rule (fun (x : Int × List (List Int)) => ∃ i : Nat, x.1 = (i : Int) ∧ i ≤ t.2.1.length ∧ x.2 = (t.2.1.take i).map encC ++ List.replicate (t.2.1.length - i) []) (fun x => t.2.1.length - x.1.toNat) (fun _ => t.2.1.map encC) ?_ ((0 : Int), List.replicate t.2.1.length ([] : List Int)) ⟨0, rfl, by omega, by simp⟩
  rintro ⟨i', y⟩ ⟨i, hi', hi, hy⟩ rec hrec
  simp only at hi' hy
  subst hi'
  simp only
  by_cases hlt : i < t.2.1.length
  · have k1 : ((i : Int) < (t.2.1.length : Int)) := by omega
    have hylen : y.length = t.2.1.length := by rw [hy]; simp; omega
    have k2 : ((i : Int) < (y.length : Int)) := by omega
    have hc := h.2.1 _ (List.getElem_mem hlt)
    have hk0 := hk.2.2 _ (List.getElem_mem hlt)
    simp only [k1, decide_true, cond_true, inb_true (Int.natCast_nonneg i) k1, inb_true (Int.natCast_nonneg i) k2, rd_nat (t := .pair (.int .i64) (.pair (.int .u64) (.int .u64))) hlt, Prod.eta, F65_eq hc, Option.bind_some, putC, hk0, if_true, Int.toNat_natCast]
    rw [RB.wrap_i64 (n := (i : Int) + 1) (by omega) (by omega)]
    refine hrec _ ⟨i + 1, by simp, by omega, ?_⟩ (by simp only; omega)
    rw [hy, List.set_append_right _ _ (by simp; omega)]
    have e1 : i - ((t.2.1.take i).map encC).length = 0 := by simp; omega
    rw [e1, List.take_succ_eq_append_getElem hlt, List.map_append, List.append_assoc]
    congr 1
    obtain ⟨n, hn⟩ : ∃ n, t.2.1.length - i = n + 1 := ⟨t.2.1.length - i - 1, by omega⟩
    rw [hn, show t.2.1.length - (i + 1) = n by omega, List.replicate_succ]
    simp
  · have k1 : ¬ ((i : Int) < (t.2.1.length : Int)) := by omega
    have : i = t.2.1.length := by omega
    simp only [k1, decide_false, cond_false]
    rw [hy, this]; simp
theorem F62_one {n : Int} (h : 0 ≤ n) : F62 [n] = some (enc1 n) := by
  rw [F62_eq (by intro x hx; simp only [List.mem_cons, List.not_mem_nil, or_false] at hx; subst hx; exact h) (by simp)]
  simp
theorem enc1_inj {a b : Int} {X Y : List Int} (ha : U64 a) (hb : U64 b) (h : enc1 a ++ X = enc1 b ++ Y) : a = b ∧ X = Y := by
  have g1 := get1_enc ha.1 ha.2 X
  have g2 := get1_enc hb.1 hb.2 Y
  rw [h, g2] at g1
  simp only [Prod.mk.injEq] at g1
  have hab : a = b := g1.1.symm
  subst hab
  exact ⟨rfl, List.append_cancel_left h⟩
theorem enc1_inj0 {a b : Int} (ha : U64 a) (hb : U64 b) (h : enc1 a = enc1 b) : a = b :=
  (enc1_inj (X := []) (Y := []) ha hb (by simpa using h)).1
theorem enc1_ne' (n : Int) : enc1 n ≠ [] := by unfold enc1; simp
theorem encC_inj {c d : Cv} (hc : CvOk c) (hd : CvOk d) (kc : chk c = 0) (kd : chk d = 0) (h : encC c = encC d) : c = d := by
  have k1 := chk_kind kc
  have k2 := chk_kind kd
  unfold encC at h
  obtain ⟨h1, h2⟩ := enc1_inj (a := c.1) (b := d.1) ⟨by omega, by omega⟩ ⟨by omega, by omega⟩ h
  obtain ⟨h3, h4⟩ := enc1_inj hc.2.1 hd.2.1 h2
  refine Prod.ext h1 (Prod.ext h3 ?_)
  by_cases h5 : c.1 = 4
  · rw [if_pos h5, if_pos (by omega)] at h4
    exact enc1_inj0 hc.2.2 hd.2.2 h4
  · rw [k1.2.2.2.1 h5, k2.2.2.2.1 (by omega)]
theorem F72_eq {a b : List Cv} (hl : a.length ≤ 4611686018427387904) : F72 (a, b) = some (decide (a = b)) := by
  unfold F72
  by_cases hn : a.length = b.length
  · have : (a.length : Int) = (b.length : Int) := by omega
    simp only [this, decide_true, Bool.not_true, cond_false]
    rw [← this]
    refine same_loop (t := .pair (.int .i64) (.pair (.int .u64) (.int .u64))) hl hn (G := fun x y K => K (decide (x.1 = y.1) && (decide (x.2.1 = y.2.1) && decide (x.2.2 = y.2.2)))) ?_
    intro i h1 h2 K
    congr 1
    rw [Bool.eq_iff_iff]
    simp only [Bool.and_eq_true, decide_eq_true_eq]
    constructor
    · rintro ⟨q1, q2, q3⟩; exact Prod.ext q1 (Prod.ext q2 q3)
    · intro q; rw [q]; exact ⟨rfl, rfl, rfl⟩
  · have : ¬ (a.length : Int) = (b.length : Int) := by omega
    have hne : a ≠ b := fun h => hn (by rw [h])
    simp [this, hne]
theorem F45_eq {a b : Tok} (hl : a.2.1.length ≤ 4611686018427387904) : F45 (a, b) = some (decide (a = b)) := by
  obtain ⟨a1, a2, a3⟩ := a
  obtain ⟨b1, b2, b3⟩ := b
  unfold F45
  simp only [F72_eq hl, Option.bind_some]
  by_cases c1 : a1 = b1
  · by_cases c2 : a3 = b3
    · by_cases c3 : a2 = b2 <;> simp [c1, c2, c3]
    · simp [c1, c2]
  · simp [c1]
end Go.Proofs.Ytcpcbeeghjigkaa.R3
namespace Go.Proofs.Ytcpcbeeghjigkaa.R3
open Go Go.Fw Go.Proofs RB
set_option maxRecDepth 20000
/-! ### tokens in an arena -/
abbrev Zero : Tok := (0, ([], 0))
noncomputable def mintA (a : List Tm) (root key : Int) : List Tm × Tok × Int :=
  if (putA a (key, (-1, enc1 root))).2.2 = 0 then ((putA a (key, (-1, enc1 root))).1, (root, ([], (putA a (key, (-1, enc1 root))).2.1)), 0) else ([], Zero, (putA a (key, (-1, enc1 root))).2.2)
theorem F37_eq {a : List Tm} {root key : Int} (hr : 0 ≤ root) : F37 (a, root, key) = some (mintA a root key) := by
  unfold F37 mintA
  simp only [both_self, F62_one hr, F18_eq, Option.bind_some]
  by_cases h : (putA a (key, (-1, enc1 root))).2.2 = 0
  · simp [h]
  · simp [h]
open Classical in
noncomputable def bindA (a : List Tm) (t : Tok) (c : Cv) : List Tm × Tok × Int :=
  if chk c ≠ 0 ∨ ¬ okK t ∨ ¬ valid a then ([], Zero, 1) else if t.2.1.length = 16 then ([], Zero, 7) else
    if (putA a (0, (t.2.2, encC c))).2.2 = 0 then ((putA a (0, (t.2.2, encC c))).1, (t.1, (t.2.1 ++ [c], (putA a (0, (t.2.2, encC c))).2.1)), 0) else ([], Zero, (putA a (0, (t.2.2, encC c))).2.2)
theorem F39_eq {a : List Tm} {t : Tok} {c : Cv} (ht : TokOk t) (hl : t.2.1.length ≤ 9223372036854775807) (hc : CvOk c) : F39 (a, t, c) = some (bindA a t c) := by
  unfold F39 bindA
  simp only [both_self, Prod.eta, F65_eq hc, F43_eq ht hl, F23_eq, Option.bind_some]
  by_cases h1 : chk c = 0
  · by_cases h2 : okK t
    · by_cases h3 : valid a
      · have h16 := h2.1
        have hneg : ¬ t.2.2 < 0 := by have := h2.2.1; omega
        simp only [putC, h1, h2, h3, if_true, decide_true, Bool.not_true, beq_self_eq_true, cond_true, cond_false, not_true_eq_false, ne_eq, or_self, if_false, F20_eq, hneg, Option.bind_some]
        by_cases h4 : t.2.1.length = 16
        · simp [h4]
        · have h4' : ¬ (t.2.1.length : Int) = 16 := by omega
          have k1 : inb (t.2.1.length : Int) (t.2.1.length + 1) = true := inb_true (by omega) (by omega)
          have k2 : (t.2.1.length + 1) * 24 ≤ LIM := by unfold LIM; omega
          simp only [h4, h4', decide_false, cond_false, if_false]
          by_cases h5 : (putA a (0, (t.2.2, encC c))).2.2 = 0
          · simp only [h5, decide_true, Bool.not_true, cond_false, k1, Bool.and_self, cond_true, Int.toNat_natCast, List.take_length, k2, if_true]
          · simp [h5]
      · simp [putC, h1, h2, h3]
    · simp [putC, h1, h2]
  · rcases chk_01 c with h | h
    · exact absurd h h1
    · simp [putC, h]
open Classical in
noncomputable def verA (a : List Tm) (key : Int) (t : Tok) : Bool × Int :=
  if ¬ okK t ∨ ¬ valid a then (false, 1) else (decide (findA a key (enc1 t.1) (t.2.1.map encC) = (t.2.2, 0)), 0)
theorem F35_eq {a : List Tm} {key : Int} {t : Tok} (ht : TokOk t) (hl : t.2.1.length ≤ 9223372036854775807) : F35 (a, key, t) = some (verA a key t) := by
  unfold F35 verA
  simp only [both_self, Prod.eta, F43_eq ht hl, F23_eq, Option.bind_some]
  by_cases h2 : okK t
  · by_cases h3 : valid a
    · have h16 := h2.1
      simp only [h2, h3, if_true, decide_true, Bool.not_true, beq_self_eq_true, cond_true, cond_false, not_true_eq_false, or_self, if_false, F62_one ht.1.1, F63_eq ht h2, F28_eq (a := a) (k := key) (t := enc1 t.1) (l := t.2.1.map encC) (by simp; omega), Option.bind_some]
      rcases findA a key (enc1 t.1) (t.2.1.map encC) with ⟨f1, f2⟩
      simp only [Prod.mk.injEq]
      by_cases q2 : f2 = 0
      · by_cases q1 : f1 = t.2.2 <;> simp [q1, q2]
      · simp [q2]
    · simp [h2, h3]
  · simp [h2]
theorem F72_eq' {a b : List Cv} (hl : a.length ≤ 4611686018427387904) : F36 (a, b) = some (decide (a = b)) := by
  unfold F36
  by_cases hn : a.length = b.length
  · have : (a.length : Int) = (b.length : Int) := by omega
    simp only [this, decide_true, Bool.not_true, cond_false]
    rw [← this]
    refine same_loop (t := .pair (.int .i64) (.pair (.int .u64) (.int .u64))) hl hn (G := fun x y K => K (decide (x.1 = y.1) && (decide (x.2.1 = y.2.1) && decide (x.2.2 = y.2.2)))) ?_
    intro i h1 h2 K
    congr 1
    rw [Bool.eq_iff_iff]
    simp only [Bool.and_eq_true, decide_eq_true_eq]
    constructor
    · rintro ⟨q1, q2, q3⟩; exact Prod.ext q1 (Prod.ext q2 q3)
    · intro q; rw [q]; exact ⟨rfl, rfl, rfl⟩
  · have : ¬ (a.length : Int) = (b.length : Int) := by omega
    have hne : a ≠ b := fun h => hn (by rw [h])
    simp [this, hne]
noncomputable def stepB (s : List Tm × Tok × Int) (c : Cv) : List Tm × Tok × Int := if s.2.2 = 0 then bindA s.1 s.2.1 c else s
/-- A token that came of binding is well formed. -/
theorem bindA_ok {a : List Tm} {t : Tok} {c : Cv} (ht : TokOk t) (hc : CvOk c) : TokOk (bindA a t c).2.1 ∧ (bindA a t c).2.1.2.1.length ≤ 16 := by
  have z : TokOk Zero ∧ Zero.2.1.length ≤ 16 := ⟨⟨⟨by decide, by decide⟩, by simp, by simp⟩, by simp⟩
  unfold bindA
  split
  · exact z
  · split
    · exact z
    · rename_i h1 h2
      have hk : okK t := Classical.byContradiction fun q => h1 (.inr (.inl q))
      split
      · rename_i h3
        refine ⟨⟨ht.1, fun d hd => ?_, ?_⟩, ?_⟩
        · simp only [List.mem_append, List.mem_singleton] at hd
          rcases hd with hd | rfl
          · exact ht.2.1 d hd
          · exact hc
        · rcases hp : putA a (0, (t.2.2, encC c)) with ⟨b, x, e⟩
          rw [hp] at h3
          simp only at h3
          subst h3
          obtain ⟨va, _, hm, hx, _, hbl, _⟩ := putA_ok hp
          have := ix_lt hm
          have := va.len
          simp only
          omega
        · have := hk.1
          simp only [List.length_append, List.length_singleton]
          omega
      · exact z
theorem mintA_ok {a : List Tm} {root key : Int} (hr : U64 root) : TokOk (mintA a root key).2.1 ∧ (mintA a root key).2.1.2.1.length ≤ 16 := by
  unfold mintA
  split
  · rename_i h3
    refine ⟨⟨hr, by simp, ?_⟩, by simp⟩
    rcases hp : putA a (key, (-1, enc1 root)) with ⟨b, x, e⟩
    rw [hp] at h3
    simp only at h3
    subst h3
    obtain ⟨va, _, hm, hx, _, hbl, _⟩ := putA_ok hp
    have := ix_lt hm
    have := va.len
    simp only
    omega
  · exact ⟨⟨⟨by show (0 : Int) ≤ 0; omega, by show (0 : Int) < 18446744073709551616; omega⟩, by simp, by simp⟩, by simp⟩
theorem fold_ok : ∀ (l : List Cv) (s : List Tm × Tok × Int), (∀ c ∈ l, CvOk c) → TokOk s.2.1 → s.2.1.2.1.length ≤ 16 → TokOk (l.foldl stepB s).2.1 ∧ (l.foldl stepB s).2.1.2.1.length ≤ 16
  | [], s, _, h1, h2 => ⟨h1, h2⟩
  | c :: r, s, hl, h1, h2 => by
    rw [List.foldl_cons]
    have : TokOk (stepB s c).2.1 ∧ (stepB s c).2.1.2.1.length ≤ 16 := by
      unfold stepB
      split
      · exact bindA_ok h1 (hl c (by simp))
      · exact ⟨h1, h2⟩
    exact fold_ok r _ (fun d hd => hl d (List.mem_cons_of_mem _ hd)) this.1 this.2
noncomputable def boundA (a : List Tm) (root key : Int) (l : List Cv) : List Tm × Tok × Int := l.foldl stepB (mintA a root key)
theorem bind_err : ∀ (l : List Cv) (s : List Tm × Tok × Int), s.2.2 ≠ 0 → l.foldl stepB s = s
  | [], _, _ => rfl
  | c :: r, s, h => by
    rw [List.foldl_cons, show stepB s c = s by simp [stepB, h]]
    exact bind_err r s h
theorem bound_spec (root key : Int) : ∀ (l : List Cv) (a : List Tm) (L : List Cv) (x : Nat), valid a → look a key (enc1 root) (L.map encC) = some x → (∀ c ∈ L, chk c = 0) → L.length ≤ 16 →
    ∀ b u, l.foldl stepB (a, (root, (L, (x : Int))), 0) = (b, u, 0) →
    valid b ∧ a <+: b ∧ b.length ≤ a.length + l.length ∧ ∃ y : Nat, u = (root, (L ++ l, (y : Int))) ∧ look b key (enc1 root) ((L ++ l).map encC) = some y ∧ (∀ c ∈ L ++ l, chk c = 0) ∧ (L ++ l).length ≤ 16
  | [], a, L, x, hv, hlk, hc, h16, b, u, h => by
    simp only [List.foldl_nil, Prod.mk.injEq, and_true] at h
    obtain ⟨rfl, rfl⟩ := h
    exact ⟨hv, List.prefix_refl _, by simp, x, by simp, by simpa using hlk, by simpa using hc, by simpa using h16⟩
  | c :: r, a, L, x, hv, hlk, hc, h16, b, u, h => by
    rw [List.foldl_cons] at h
    have hs : stepB (a, (root, (L, (x : Int))), 0) c = bindA a (root, (L, (x : Int))) c := by simp [stepB]
    rw [hs] at h
    unfold bindA at h
    by_cases h1 : chk c ≠ 0 ∨ ¬ okK (root, (L, (x : Int))) ∨ ¬ valid a
    · rw [if_pos h1, bind_err r _ (by simp)] at h; simp at h
    · rw [if_neg h1] at h
      have hcc : chk c = 0 := Classical.byContradiction fun q => h1 (.inl q)
      by_cases h2 : L.length = 16
      · rw [if_pos h2, bind_err r _ (by simp)] at h; simp at h
      · rw [if_neg h2] at h
        simp only at h
        rcases hp : putA a (0, ((x : Int), encC c)) with ⟨b1, x1, e1⟩
        rw [hp] at h
        simp only at h
        by_cases h3 : e1 = 0
        · subst h3
          rw [if_pos rfl] at h
          obtain ⟨_, _, hm, hx1, hpre, hbl, hvb⟩ := putA_ok hp
          have hv1 : valid b1 := hvb ⟨by simp only; omega, fun _ => rfl⟩
          subst hx1
          have hlk1 : look b1 key (enc1 root) ((L ++ [c]).map encC) = some (ix b1 (0, ((x : Int), encC c))) := by
            rw [List.map_append, List.map_singleton, look_append (look_mono hpre hlk), if_pos hm]
          obtain ⟨g1, g2, g3, y, g4, g5, g6, g7⟩ := bound_spec root key r b1 (L ++ [c]) _ hv1 hlk1 (by
            intro d hd
            simp only [List.mem_append, List.mem_singleton] at hd
            rcases hd with hd | rfl
            · exact hc d hd
            · exact hcc) (by simp; omega) b u h
          refine ⟨g1, hpre.trans g2, by simp; omega, y, ?_, ?_, ?_, ?_⟩
          · rw [g4]; simp
          · rw [List.append_assoc] at g5; exact g5
          · rw [List.append_assoc] at g6; exact g6
          · rw [List.append_assoc] at g7; exact g7
        · rw [if_neg h3, bind_err r _ h3] at h
          simp only [Prod.mk.injEq] at h
          exact absurd h.2.2 h3
theorem boundA_ok {a b : List Tm} {root key : Int} {l : List Cv} {u : Tok} (h : boundA a root key l = (b, u, 0)) :
    valid a ∧ valid b ∧ a <+: b ∧ b.length ≤ a.length + 1 + l.length ∧ ∃ y : Nat, u = (root, (l, (y : Int))) ∧ look b key (enc1 root) (l.map encC) = some y ∧ (∀ c ∈ l, chk c = 0) ∧ l.length ≤ 16 := by
  unfold boundA mintA at h
  rcases hp : putA a (key, (-1, enc1 root)) with ⟨b1, x1, e1⟩
  rw [hp] at h
  simp only at h
  by_cases he : e1 = 0
  · subst he
    rw [if_pos rfl] at h
    obtain ⟨va, _, hm, hx1, hpre, hbl, hvb⟩ := putA_ok hp
    have hv1 : valid b1 := hvb ⟨by simp, fun q => by simp at q⟩
    subst hx1
    have hlk : look b1 key (enc1 root) (([] : List Cv).map encC) = some (ix b1 (key, (-1, enc1 root))) := by
      unfold look
      rw [if_pos hm]
      rfl
    obtain ⟨g1, g2, g3, y, g4, g5, g6, g7⟩ := bound_spec root key l b1 [] _ hv1 hlk (by simp) (by simp) b u h
    exact ⟨va, g1, hpre.trans g2, by omega, y, by simpa using g4, by simpa using g5, by simpa using g6, by simpa using g7⟩
  · rw [if_neg he, bind_err l _ he] at h
    simp only [Prod.mk.injEq] at h
    exact absurd h.2.2 he
theorem maps_inj : ∀ {l m : List Cv}, (∀ c ∈ l, CvOk c ∧ chk c = 0) → (∀ c ∈ m, CvOk c ∧ chk c = 0) → l.map encC = m.map encC → l = m
  | [], [], _, _, _ => rfl
  | [], _ :: _, _, _, h => by simp at h
  | _ :: _, [], _, _, h => by simp at h
  | c :: l, d :: m, hl, hm, h => by
    simp only [List.map_cons, List.cons.injEq] at h
    have h1 := hl c (by simp)
    have h2 := hm d (by simp)
    rw [encC_inj h1.1 h2.1 h1.2 h2.2 h.1, maps_inj (fun x hx => hl x (List.mem_cons_of_mem _ hx)) (fun x hx => hm x (List.mem_cons_of_mem _ hx)) h.2]
end Go.Proofs.Ytcpcbeeghjigkaa.R3
namespace Go.Proofs.Ytcpcbeeghjigkaa.R3
open Go Go.Fw Go.Proofs RB
set_option maxRecDepth 20000
/-! ### whether a token is right -/
theorem long_enc (n : Int) : longT (enc1 n) = false := by
  have := enc1_len n
  unfold longT; simp; omega
theorem long_encs (l : List Cv) : (l.map encC).any longT = false := by
  rw [List.any_eq_false]
  intro x hx
  obtain ⟨c, _, rfl⟩ := List.mem_map.1 hx
  have := encC_len c
  unfold longT; simp; omega
theorem findA_iff {a : List Tm} (h : valid a) (k r : Int) (l : List Cv) (g : Int) : findA a k (enc1 r) (l.map encC) = (g, 0) ↔ ∃ y : Nat, g = (y : Int) ∧ look a k (enc1 r) (l.map encC) = some y := by
  unfold findA
  rw [if_neg (by simpa using h), if_neg (by rw [long_enc, long_encs]; simp)]
  cases look a k (enc1 r) (l.map encC) with
  | none => simp
  | some y =>
    simp only [Prod.mk.injEq, and_true, Option.some.injEq]
    constructor
    · intro h; exact ⟨y, h.symm, rfl⟩
    · rintro ⟨z, h1, h2⟩; omega
open Classical in
theorem verA_eq {a : List Tm} {key : Int} {t : Tok} (hv : valid a) (hk : okK t) : verA a key t = (decide (∃ y : Nat, t.2.2 = (y : Int) ∧ look a key (enc1 t.1) (t.2.1.map encC) = some y), 0) := by
  unfold verA
  rw [if_neg (by rintro (q | q); exact q hk; exact q hv)]
  simp only [findA_iff hv]
theorem verA_bad {a : List Tm} {key : Int} {t : Tok} (hk : ¬ okK t) : verA a key t = (false, 1) := by
  unfold verA
  rw [if_pos (.inl hk)]
theorem okK_mk {root : Int} {l : List Cv} {y : Nat} {b : List Tm} (hb : valid b) (hy : y < b.length) (hc : ∀ c ∈ l, chk c = 0) (hl : l.length ≤ 16) : okK (root, (l, (y : Int))) := by
  have := hb.len
  exact ⟨hl, by simp only; omega, hc⟩
theorem tokOk_mk {root : Int} {l : List Cv} {y : Nat} {b : List Tm} (hr : U64 root) (hb : valid b) (hy : y < b.length) (hc : ∀ c ∈ l, CvOk c) : TokOk (root, (l, (y : Int))) := by
  have := hb.len
  exact ⟨hr, hc, by simp only; omega⟩
theorem F33_some (t : Tok) : ∃ f, F33 [t] = some f := by
  have := all_loop (t := .pair (.int .u64) (.pair (.slice 62 (.pair (.int .i64) (.pair (.int .u64) (.int .u64)))) (.int .i64))) (l := [t]) (by simp) (fun x => decide (20 < (x.2.1.length : Int))) true
  exact ⟨_, this⟩
theorem F32_true : F32 () = some true := by
  unfold F32
  have z : U64 5 := ⟨by decide, by decide⟩
  have hp := put_nil 9 (enc1 5) (by have := enc1_len 5; omega)
  obtain ⟨_, _, hm, hx, _, _, hvb⟩ := putA_ok hp
  have hv := hvb ⟨by simp, fun q => by simp at q⟩
  have hmint : mintA [] 5 9 = ([(9, (-1, enc1 5))], (5, ([], 0)), 0) := by unfold mintA; simp [hp]
  have hk : okK (5, ([], 0)) := ⟨by simp, by simp, by simp⟩
  have ht : TokOk (5, ([], 0)) := ⟨z, by simp, by simp⟩
  have l9 : look [(9, ((-1 : Int), enc1 5))] 9 (enc1 5) (([] : List Cv).map encC) = some 0 := by
    unfold look
    rw [if_pos (by simp)]
    simp [wk, ix]
  have l8 : look [(9, ((-1 : Int), enc1 5))] 8 (enc1 5) (([] : List Cv).map encC) = none := by
    unfold look
    rw [if_neg (by simp)]
  have v9 : verA [(9, ((-1 : Int), enc1 5))] 9 (5, ([], 0)) = (true, 0) := by
    rw [verA_eq hv hk]
    simp only [Prod.mk.injEq, and_true, decide_eq_true_eq]
    exact ⟨0, rfl, l9⟩
  have v8 : verA [(9, ((-1 : Int), enc1 5))] 8 (5, ([], 0)) = (false, 0) := by
    rw [verA_eq hv hk]
    simp only [Prod.mk.injEq, and_true, decide_eq_false_iff_not]
    rintro ⟨y, _, h2⟩
    rw [l8] at h2
    simp at h2
  simp only [F37_eq z.1, hmint, Option.bind_some, F35_eq ht (by simp : (([] : List Cv).length ≤ 9223372036854775807)), v9, v8]
  rfl
/-- THE STAGE'S: in an arena that has what was bound. -/
theorem right_core {c : List Tm} {root key other : Int} {l : List Cv} {t : Tok} {y : Nat} (hc : valid c) (hlk : look c key (enc1 root) (l.map encC) = some y) (hr : U64 root) (hl : ∀ x ∈ l, CvOk x) (ht : TokOk t) (htl : t.2.1.length ≤ 9223372036854775807)
    (hcl : ∀ x ∈ l, chk x = 0) (h16 : l.length ≤ 16) :
    verA c key (root, (l, (y : Int))) = (true, 0) ∧ verA c other (root, (l, (y : Int))) = (decide (other = key), 0) ∧
    ((verA c key (t.1, (t.2.1, (y : Int)))).2 = 0 → (verA c key (t.1, (t.2.1, (y : Int)))).1 = (decide (t.1 = root) && decide (t.2.1 = l))) ∧
    ((verA c key (root, (l, t.2.2))).2 = 0 → (verA c key (root, (l, t.2.2))).1 = decide (t.2.2 = (y : Int))) := by
  obtain ⟨_, _, hy⟩ := look_mem (l := l.map encC) (y := y) hc _ (l.map encC) y (Nat.le_refl _) hlk
  have hk : okK (root, (l, (y : Int))) := okK_mk hc hy hcl h16
  have hll : ∀ x ∈ l, CvOk x ∧ chk x = 0 := fun x hx => ⟨hl x hx, hcl x hx⟩
  refine ⟨?_, ?_, fun h => ?_, fun h => ?_⟩
  · rw [verA_eq hc hk]
    simp only [Prod.mk.injEq, and_true, decide_eq_true_eq]
    exact ⟨y, rfl, hlk⟩
  · rw [verA_eq hc hk]
    simp only [Prod.mk.injEq, and_true, decide_eq_decide]
    constructor
    · rintro ⟨z, h1, h2⟩
      have : y = z := by omega
      subst this
      exact (look_inj _ _ _ y (Nat.le_refl _) h2 hlk).1
    · rintro rfl; exact ⟨y, rfl, hlk⟩
  · by_cases hk2 : okK (t.1, (t.2.1, (y : Int)))
    · rw [verA_eq hc hk2]
      rw [Bool.eq_iff_iff]
      simp only [decide_eq_true_eq, Bool.and_eq_true]
      constructor
      · rintro ⟨z, h1, h2⟩
        have : y = z := by omega
        subst this
        obtain ⟨_, e2, e3⟩ := look_inj _ _ _ y (Nat.le_refl _) h2 hlk
        exact ⟨enc1_inj0 ht.1 hr e2, maps_inj (fun x hx => ⟨ht.2.1 x hx, hk2.2.2 x hx⟩) hll e3⟩
      · rintro ⟨e1, e2⟩
        refine ⟨y, rfl, ?_⟩
        rw [e1, e2]; exact hlk
    · rw [verA_bad hk2] at h; simp at h
  · by_cases hk2 : okK (root, (l, t.2.2))
    · rw [verA_eq hc hk2]
      simp only [decide_eq_decide]
      constructor
      · rintro ⟨z, h1, h2⟩
        rw [hlk] at h2
        simp only [Option.some.injEq] at h2
        subst h2; exact h1
      · intro h1; exact ⟨y, h1, hlk⟩
    · rw [verA_bad hk2] at h; simp at h
end Go.Proofs.Ytcpcbeeghjigkaa.R3
