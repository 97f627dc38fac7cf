/- Part of a proof: what the program's functions come to. -/
import Derived.Test.YtcpcbeeghjigkaaHA6
import Derived.Test.YtcpcbeeghjigkaaHV9
set_option linter.unusedVariables false
set_option linter.unusedSimpArgs false
namespace Go.Proofs.Ytcpcbeeghjigkaa.R3
open Go Go.Fw Go.Proofs RB
set_option maxRecDepth 20000
theorem enc1_len (n : Int) : (enc1 n).length ≤ 9 := by
  have : wid n ≤ 8 := by unfold wid; (repeat' split) <;> omega
  simp [enc1, dig_len]; omega
/-! ### caveats -/
abbrev Cv := Int × (Int × Int)
def CvOk (c : Cv) : Prop := (-9223372036854775808 ≤ c.1 ∧ c.1 ≤ 9223372036854775807) ∧ U64 c.2.1 ∧ U64 c.2.2
theorem cv_of {c : Cv} (h : Fw.Good (.pair (.int .i64) (.pair (.int .u64) (.int .u64))) c) : CvOk c := ⟨i64_of h.1, u64_of h.2.1, u64_of h.2.2⟩
theorem F104_one (a : Int) : F104 [a] = some a := by
  unfold F104
  simp only [List.length_singleton]
  refine (lfp_rule (fun x => x = (a, 1)) (fun _ => 0) (fun _ => a) ?_ (a, 1) rfl)
  rintro x rfl rec hrec
  simp
theorem F93_one (a : Int) : F93 [a] = some (if 4611686018427387904 < a then 1 else 0) := by
  unfold F93
  simp only [List.length_singleton, F104_one, Option.bind_some]
  by_cases h : 4611686018427387904 < a
  · simp [h]
  · simp [h]
/-- May a caveat be? -/
def chk (c : Cv) : Int := if (c.1 < 1 ∨ 5 < c.1) ∨ (c.1 = 2 ∧ 65535 < c.2.1) ∨ ((c.1 = 3 ∨ c.1 = 4) ∧ 4611686018427387904 < c.2.1) ∨ (c.1 ≠ 4 ∧ c.2.2 ≠ 0) then 1 else 0
theorem chk_01 (c : Cv) : chk c = 0 ∨ chk c = 1 := by unfold chk; split <;> simp
theorem F69_eq {c : Cv} (h : CvOk c) : F69 c = some (chk c) := by
  obtain ⟨k, a, b⟩ := c
  obtain ⟨hk, ha, hb⟩ := h
  simp only at hk ha hb
  unfold F69 chk
  simp only [F93_one, Option.bind_some]
  by_cases h4 : k = 4
  · subst h4; simp
  by_cases h3 : k = 3
  · subst h3
    by_cases q : 4611686018427387904 < a
    · simp [q]
    · by_cases q2 : b = 0 <;> simp [q, q2]
  by_cases h2 : k = 2
  · subst h2
    have e : (2 : Int) ^ (min (16 : Int).toNat 64) = 65536 := by decide
    have e2 : (0 < a / 65536) ↔ 65535 < a := by have := ha.1; omega
    by_cases q : 65535 < a
    · simp [e, e2, q]
    · by_cases q2 : b = 0 <;> simp [e, e2, q, q2]
  by_cases h1 : k = 1
  · subst h1
    by_cases q2 : b = 0 <;> simp [q2]
  by_cases h5 : k = 5
  · subst h5
    by_cases q2 : b = 0 <;> simp [q2]
  have : k < 1 ∨ 5 < k := by omega
  simp [h1, h2, h3, h4, h5, this]
theorem chk_kind {c : Cv} (h : chk c = 0) : 1 ≤ c.1 ∧ c.1 ≤ 5 ∧ (c.1 = 2 → c.2.1 ≤ 65535) ∧ (c.1 ≠ 4 → c.2.2 = 0) ∧ (c.1 = 3 ∨ c.1 = 4 → c.2.1 ≤ 4611686018427387904) := by
  unfold chk at h
  split at h
  · simp at h
  · rename_i q; omega
theorem small_u64 {n : Int} (h0 : 0 ≤ n) (h1 : n ≤ 1048576) : IntKind.wrap .u64 n = n := RB.wrap_u64 (by omega) (by omega)
def encC (c : Cv) : List Int := enc1 c.1 ++ (enc1 c.2.1 ++ (if c.1 = 4 then enc1 c.2.2 else []))
def putC (c : Cv) : List Int × Int := if chk c = 0 then (encC c, 0) else ([], 1)
theorem F65_eq {c : Cv} (hc : CvOk c) : F65 c = some (putC c) := by
  unfold F65 putC
  simp only [Prod.eta, F69_eq hc, Option.bind_some]
  by_cases h : chk c = 0
  · have k := chk_kind h
    have hw : IntKind.wrap .u64 c.1 = c.1 := small_u64 (by omega) (by omega)
    have h1 := hc.2.1.1
    have h2 := hc.2.2.1
    by_cases h4 : c.1 = 4
    · simp only [h, h4, decide_true, Bool.not_true, cond_false, if_true, encC]
      rw [small_u64 (n := 4) (by omega) (by omega), F62_eq (by intro n hn; simp at hn; omega) (by simp)]
      simp
    · simp only [h, h4, decide_true, decide_false, Bool.not_true, Bool.not_false, cond_true, cond_false, if_true, if_false, encC]
      rw [hw, F62_eq (by intro n hn; simp at hn; omega) (by simp)]
      simp [inb]
  · rcases chk_01 c with h0 | h0
    · exact absurd h0 h
    · simp [h0]
theorem encC_byte {c : Cv} (hc : CvOk c) (h : chk c = 0) : ∀ d ∈ encC c, Byte d := by
  have k := chk_kind h
  intro d hd
  unfold encC at hd
  rcases List.mem_append.1 hd with hd | hd
  · exact enc1_byte (by omega) d hd
  rcases List.mem_append.1 hd with hd | hd
  · exact enc1_byte hc.2.1.1 d hd
  · split at hd
    · exact enc1_byte hc.2.2.1 d hd
    · simp at hd
theorem encC_len (c : Cv) : (encC c).length ≤ 27 := by
  have h1 := enc1_len c.1
  have h2 := enc1_len c.2.1
  have h3 := enc1_len c.2.2
  unfold encC
  rw [List.length_append, List.length_append]
  split
  · omega
  · simp only [List.length_nil]; omega
theorem F68_eq {c : Cv} (h : CvOk c) : F68 c = some (decide (chk c ≠ 0)) := by
  unfold F68
  simp only [Prod.eta, F69_eq h, Option.bind_some]
  by_cases q : chk c = 0 <;> simp [q]
theorem F77_eq {l : List Cv} (hl : l.length ≤ 9223372036854775807) (h : ∀ c ∈ l, CvOk c) : F70068 (l, ()) = some (l.any fun c => decide (chk c ≠ 0)) := by
  obtain ⟨r, h1, h2⟩ := idx_loop (t := .pair (.int .i64) (.pair (.int .u64) (.int .u64))) (l := l) hl (p := fun c => decide (chk c ≠ 0)) (G := F68) (fun x hx => F68_eq (h x hx))
  have : F94068 (l, ()) = some r := h1
  unfold F70068
  simp only [this, Option.bind_some, h2]
/-! ### tokens -/
abbrev Tok := Int × (List Cv × Int)
def TokOk (t : Tok) : Prop := U64 t.1 ∧ (∀ c ∈ t.2.1, CvOk c) ∧ (-9223372036854775808 ≤ t.2.2 ∧ t.2.2 ≤ 9223372036854775807)
def okK (t : Tok) : Prop := t.2.1.length ≤ 16 ∧ (0 ≤ t.2.2 ∧ t.2.2 ≤ 1048576) ∧ ∀ c ∈ t.2.1, chk c = 0
open Classical in
theorem F43_eq {t : Tok} (h : TokOk t) (hl : t.2.1.length ≤ 9223372036854775807) : F43 t = some (if okK t then 0 else 1) := by
  unfold F43
  simp only [F77_eq hl h.2.1, Option.bind_some]
  by_cases h1 : 16 < t.2.1.length
  · have : (16 : Int) < (t.2.1.length : Int) := by omega
    have hn : ¬ okK t := fun h => by have := h.1; omega
    simp [this, hn]
  have k1 : ¬ (16 : Int) < (t.2.1.length : Int) := by omega
  by_cases h2 : t.2.2 < 0
  · have hn : ¬ okK t := fun h => by have := h.2.1; omega
    simp [k1, h2, hn]
  by_cases h3 : 1048576 < t.2.2
  · have hn : ¬ okK t := fun h => by have := h.2.1; omega
    simp [k1, h2, h3, hn]
  cases ha : t.2.1.any fun c => decide (chk c ≠ 0) with
  | true =>
    obtain ⟨c, hc, h4⟩ := List.any_eq_true.1 ha
    have hn : ¬ okK t := fun h => by have := h.2.2 c hc; simp [this] at h4
    simp [k1, h2, h3, hn]
  | false =>
    have hn : okK t := ⟨by omega, by omega, fun c hc => by
      have := List.any_eq_false.1 ha c hc
      simpa using this⟩
    simp [k1, h2, h3, hn]
theorem F63_eq {t : Tok} (h : TokOk t) (hk : okK t) : F63 t = some (t.2.1.map encC) := by
  have h16 := hk.1
  unfold F63
  have hL : t.2.1.length * 24 ≤ LIM := by unfold LIM; omega
  simp only [Int.natCast_nonneg, decide_true, Bool.and_self, hL, cond_true, Int.toNat_natCast]
  refine lfp_rule (fun (x : Int × List (List Int)) => ∃ i : Nat, x.1 = (i : Int) ∧ i ≤ t.2.1.length ∧ x.2 = (t.2.1.take i).map encC ++ List.replicate (t.2.1.length - i) []) (fun x => t.2.1.length - x.1.toNat) (fun _ => t.2.1.map encC) ?_ ((0 : Int), List.replicate t.2.1.length ([] : List Int)) ⟨0, rfl, by omega, by simp⟩
  rintro ⟨i', y⟩ ⟨i, hi', hi, hy⟩ rec hrec
  simp only at hi' hy
  subst hi'
  simp only
  by_cases hlt : i < t.2.1.length
  · have k1 : ((i : Int) < (t.2.1.length : Int)) := by omega
    have hylen : y.length = t.2.1.length := by rw [hy]; simp; omega
    have k2 : ((i : Int) < (y.length : Int)) := by omega
    have hc := h.2.1 _ (List.getElem_mem hlt)
    have hk0 := hk.2.2 _ (List.getElem_mem hlt)
    simp only [k1, decide_true, cond_true, inb_true (Int.natCast_nonneg i) k1, inb_true (Int.natCast_nonneg i) k2, rd_nat (t := .pair (.int .i64) (.pair (.int .u64) (.int .u64))) hlt, Prod.eta, F65_eq hc, Option.bind_some, putC, hk0, if_true, Int.toNat_natCast]
    rw [RB.wrap_i64 (n := (i : Int) + 1) (by omega) (by omega)]
    refine hrec _ ⟨i + 1, by simp, by omega, ?_⟩ (by simp only; omega)
    rw [hy, List.set_append_right _ _ (by simp; omega)]
    have e1 : i - ((t.2.1.take i).map encC).length = 0 := by simp; omega
    rw [e1, List.take_succ_eq_append_getElem hlt, List.map_append, List.append_assoc]
    congr 1
    obtain ⟨n, hn⟩ : ∃ n, t.2.1.length - i = n + 1 := ⟨t.2.1.length - i - 1, by omega⟩
    rw [hn, show t.2.1.length - (i + 1) = n by omega, List.replicate_succ]
    simp
  · have k1 : ¬ ((i : Int) < (t.2.1.length : Int)) := by omega
    have : i = t.2.1.length := by omega
    simp only [k1, decide_false, cond_false]
    rw [hy, this]; simp
theorem F62_one {n : Int} (h : 0 ≤ n) : F62 [n] = some (enc1 n) := by
  rw [F62_eq (by intro x hx; simp only [List.mem_cons, List.not_mem_nil, or_false] at hx; subst hx; exact h) (by simp)]
  simp
theorem enc1_inj {a b : Int} {X Y : List Int} (ha : U64 a) (hb : U64 b) (h : enc1 a ++ X = enc1 b ++ Y) : a = b ∧ X = Y := by
  have g1 := get1_enc ha.1 ha.2 X
  have g2 := get1_enc hb.1 hb.2 Y
  rw [h, g2] at g1
  simp only [Prod.mk.injEq] at g1
  have hab : a = b := g1.1.symm
  subst hab
  exact ⟨rfl, List.append_cancel_left h⟩
theorem enc1_inj0 {a b : Int} (ha : U64 a) (hb : U64 b) (h : enc1 a = enc1 b) : a = b :=
  (enc1_inj (X := []) (Y := []) ha hb (by simpa using h)).1
theorem enc1_ne' (n : Int) : enc1 n ≠ [] := by unfold enc1; simp
theorem encC_inj {c d : Cv} (hc : CvOk c) (hd : CvOk d) (kc : chk c = 0) (kd : chk d = 0) (h : encC c = encC d) : c = d := by
  have k1 := chk_kind kc
  have k2 := chk_kind kd
  unfold encC at h
  obtain ⟨h1, h2⟩ := enc1_inj (a := c.1) (b := d.1) ⟨by omega, by omega⟩ ⟨by omega, by omega⟩ h
  obtain ⟨h3, h4⟩ := enc1_inj hc.2.1 hd.2.1 h2
  refine Prod.ext h1 (Prod.ext h3 ?_)
  by_cases h5 : c.1 = 4
  · rw [if_pos h5, if_pos (by omega)] at h4
    exact enc1_inj0 hc.2.2 hd.2.2 h4
  · rw [k1.2.2.2.1 h5, k2.2.2.2.1 (by omega)]
theorem F72_eq {a b : List Cv} (hl : a.length ≤ 4611686018427387904) : F72 (a, b) = some (decide (a = b)) := by
  unfold F72
  by_cases hn : a.length = b.length
  · have : (a.length : Int) = (b.length : Int) := by omega
    simp only [this, decide_true, Bool.not_true, cond_false]
    rw [← this]
    refine same_loop (t := .pair (.int .i64) (.pair (.int .u64) (.int .u64))) hl hn (G := fun x y K => K (decide (x.1 = y.1) && (decide (x.2.1 = y.2.1) && decide (x.2.2 = y.2.2)))) ?_
    intro i h1 h2 K
    congr 1
    rw [Bool.eq_iff_iff]
    simp only [Bool.and_eq_true, decide_eq_true_eq]
    constructor
    · rintro ⟨q1, q2, q3⟩; exact Prod.ext q1 (Prod.ext q2 q3)
    · intro q; rw [q]; exact ⟨rfl, rfl, rfl⟩
  · have : ¬ (a.length : Int) = (b.length : Int) := by omega
    have hne : a ≠ b := fun h => hn (by rw [h])
    simp [this, hne]
theorem F45_eq {a b : Tok} (hl : a.2.1.length ≤ 4611686018427387904) : F45 (a, b) = some (decide (a = b)) := by
  obtain ⟨a1, a2, a3⟩ := a
  obtain ⟨b1, b2, b3⟩ := b
  unfold F45
  simp only [F72_eq hl, Option.bind_some]
  by_cases c1 : a1 = b1
  · by_cases c2 : a3 = b3
    · by_cases c3 : a2 = b2 <;> simp [c1, c2, c3]
    · simp [c1, c2]
  · simp [c1]
end Go.Proofs.Ytcpcbeeghjigkaa.R3
