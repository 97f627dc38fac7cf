/- Part of a proof: what the program's functions come to. -/
import Derived.Test.YtgdfhijgjjcnjaaDoorDXAg
set_option linter.unusedVariables false
set_option linter.unusedSimpArgs false
namespace Go.Proofs.YtgdfhijgjjcnjaaDoor.R5
open Go Go.Fw Go.Proofs RB
set_option maxRecDepth 20000
/-! ### caveats -/
abbrev Cv := Int × (Int × Int)
def CvOk (c : Cv) : Prop := (-9223372036854775808 ≤ c.1 ∧ c.1 ≤ 9223372036854775807) ∧ U64 c.2.1 ∧ U64 c.2.2
theorem cv_of {c : Cv} (h : Fw.Good (.pair (.int .i64) (.pair (.int .u64) (.int .u64))) c) : CvOk c := ⟨i64_of h.1, u64_of h.2.1, u64_of h.2.2⟩
theorem F36_one (a : Int) : F36 [a] = some a := by
  unfold F36
  simp only [List.length_singleton]
  refine (lfp_rule (fun x => x = (a, 1)) (fun _ => 0) (fun _ => a) ?_ (a, 1) rfl)
  rintro x rfl rec hrec
  simp
theorem F20_one (a : Int) : F20 [a] = some (if 4611686018427387904 < a then 1 else 0) := by
  unfold F20
  simp only [List.length_singleton, F36_one, Option.bind_some]
  by_cases h : 4611686018427387904 < a
  · simp [h]
  · simp [h]
/-- May a caveat be? -/
def chk (c : Cv) : Int := if (c.1 < 1 ∨ 5 < c.1) ∨ (c.1 = 2 ∧ 65535 < c.2.1) ∨ ((c.1 = 3 ∨ c.1 = 4) ∧ 4611686018427387904 < c.2.1) ∨ (c.1 ≠ 4 ∧ c.2.2 ≠ 0) then 1 else 0
theorem chk_01 (c : Cv) : chk c = 0 ∨ chk c = 1 := by unfold chk; split <;> simp
theorem F19_eq {c : Cv} (h : CvOk c) : F19 c = some (chk c) := by
  obtain ⟨k, a, b⟩ := c
  obtain ⟨hk, ha, hb⟩ := h
  simp only at hk ha hb
  unfold F19 chk
  simp only [F20_one, Option.bind_some]
  by_cases h4 : k = 4
  · subst h4; simp
  by_cases h3 : k = 3
  · subst h3
    by_cases q : 4611686018427387904 < a
    · simp [q]
    · by_cases q2 : b = 0 <;> simp [q, q2]
  by_cases h2 : k = 2
  · subst h2
    have e : (2 : Int) ^ (min (16 : Int).toNat 64) = 65536 := by decide
    have e2 : (0 < a / 65536) ↔ 65535 < a := by have := ha.1; omega
    by_cases q : 65535 < a
    · simp [e, e2, q]
    · by_cases q2 : b = 0 <;> simp [e, e2, q, q2]
  by_cases h1 : k = 1
  · subst h1
    by_cases q2 : b = 0 <;> simp [q2]
  by_cases h5 : k = 5
  · subst h5
    by_cases q2 : b = 0 <;> simp [q2]
  have : k < 1 ∨ 5 < k := by omega
  simp [h1, h2, h3, h4, h5, this]
theorem chk_kind {c : Cv} (h : chk c = 0) : 1 ≤ c.1 ∧ c.1 ≤ 5 ∧ (c.1 = 2 → c.2.1 ≤ 65535) ∧ (c.1 ≠ 4 → c.2.2 = 0) ∧ (c.1 = 3 ∨ c.1 = 4 → c.2.1 ≤ 4611686018427387904) := by
  unfold chk at h
  split at h
  · simp at h
  · rename_i q; omega
theorem small_u64 {n : Int} (h0 : 0 ≤ n) (h1 : n ≤ 1048576) : IntKind.wrap .u64 n = n := RB.wrap_u64 (by omega) (by omega)
def encC (c : Cv) : List Int := enc1 c.1 ++ (enc1 c.2.1 ++ (if c.1 = 4 then enc1 c.2.2 else []))
def putC (c : Cv) : List Int × Int := if chk c = 0 then (encC c, 0) else ([], 1)
theorem F43_eq {c : Cv} (hc : CvOk c) : F43 c = some (putC c) := by
  unfold F43 putC
  simp only [Prod.eta, F19_eq hc, Option.bind_some]
  by_cases h : chk c = 0
  · have k := chk_kind h
    have hw : IntKind.wrap .u64 c.1 = c.1 := small_u64 (by omega) (by omega)
    have h1 := hc.2.1.1
    have h2 := hc.2.2.1
    by_cases h4 : c.1 = 4
    · simp only [h, h4, decide_true, Bool.not_true, cond_false, if_true, encC]
      rw [small_u64 (n := 4) (by omega) (by omega), F42_eq (by intro n hn; simp at hn; omega) (by simp)]
      simp
    · simp only [h, h4, decide_true, decide_false, Bool.not_true, Bool.not_false, cond_true, cond_false, if_true, if_false, encC]
      rw [hw, F42_eq (by intro n hn; simp at hn; omega) (by simp)]
      simp [inb]
  · rcases chk_01 c with h0 | h0
    · exact absurd h0 h
    · simp [h0]
theorem encC_byte {c : Cv} (hc : CvOk c) (h : chk c = 0) : ∀ d ∈ encC c, Byte d := by
  have k := chk_kind h
  intro d hd
  unfold encC at hd
  rcases List.mem_append.1 hd with hd | hd
  · exact enc1_byte (by omega) d hd
  rcases List.mem_append.1 hd with hd | hd
  · exact enc1_byte hc.2.1.1 d hd
  · split at hd
    · exact enc1_byte hc.2.2.1 d hd
    · simp at hd
theorem encC_len (c : Cv) : (encC c).length ≤ 27 := by
  have h1 := enc1_len c.1
  have h2 := enc1_len c.2.1
  have h3 := enc1_len c.2.2
  unfold encC
  rw [List.length_append, List.length_append]
  split
  · omega
  · simp only [List.length_nil]; omega
theorem F38_eq {c : Cv} (h : CvOk c) : F38 c = some (decide (chk c ≠ 0)) := by
  unfold F38
  simp only [Prod.eta, F19_eq h, Option.bind_some]
  by_cases q : chk c = 0 <;> simp [q]
/-- The first one that is so, or -1. -/
theorem idx_loop {t : Ty} {l : List t.den} (hl : l.length ≤ 9223372036854775807) {p : t.den → Bool} {G : t.den → Option Bool} (hG : ∀ x ∈ l, G x = some (p x)) :
    ∃ r, lfp (fun (rec1 : (Int × Int) → Option Int) (x1 : Int × Int) =>
      bif decide (x1.2 < (l.length : Int)) then (
      bif inb x1.2 l.length then
      (G (rd t l x1.2)).bind fun r2 =>
      bif r2 then (some x1.2) else (rec1 (x1.1, (IntKind.wrap .i64 (x1.2 + 1))))
      else none)
      else (some (-1))) (0, 0) = some r ∧ decide (0 ≤ r) = l.any p := by
  let ans : Nat → Int := fun i => match (l.drop i).findIdx? p with | some j => ((i + j : Nat) : Int) | none => -1
  have hstep : ∀ i, (h : i < l.length) → p l[i] = false → ans i = ans (i + 1) := by
    intro i h hp
    simp only [ans]
    rw [List.drop_eq_getElem_cons h, List.findIdx?_cons, hp]
    simp only [Bool.false_eq_true, if_false]
    cases (l.drop (i + 1)).findIdx? p with
    | none => rfl
    | some j => simp only [Option.map_some]; congr 1; omega
  refine ⟨ans 0, lfp_rule (fun x => ∃ i : Nat, x.2 = (i : Int) ∧ i ≤ l.length) (fun x => l.length - x.2.toNat) (fun x => ans x.2.toNat) ?_ (0, 0) ⟨0, rfl, by omega⟩, ?_⟩
  · rintro ⟨y, i'⟩ ⟨i, hi', hi⟩ rec hrec
    simp only at hi'
    subst hi'
    simp only [Int.toNat_natCast]
    by_cases hlt : i < l.length
    · have k1 : ((i : Int) < (l.length : Int)) := by omega
      simp only [k1, decide_true, cond_true, inb_true (Int.natCast_nonneg i) k1, rd_nat hlt, hG _ (List.getElem_mem hlt), Option.bind_some]
      cases hp : p l[i] with
      | true =>
        simp only [cond_true, ans]
        rw [List.drop_eq_getElem_cons hlt, List.findIdx?_cons, hp]
        simp
      | false =>
        simp only [cond_false]
        rw [RB.wrap_i64 (n := (i : Int) + 1) (by omega) (by omega), hstep i hlt hp]
        have := hrec (y, (i : Int) + 1) ⟨i + 1, by simp, by omega⟩ (by simp only; omega)
        rw [this]
        simp only
        congr 2
    · have k1 : ¬ ((i : Int) < (l.length : Int)) := by omega
      simp only [k1, decide_false, cond_false, ans]
      rw [List.drop_eq_nil_of_le (by omega)]
      simp
  · simp only [ans, List.drop_zero]
    cases hf : l.findIdx? p with
    | none =>
      have : l.any p = false := by
        rw [List.any_eq_false]
        intro x hx
        have := List.findIdx?_eq_none_iff.1 hf x hx
        simp [this]
      rw [this]; simp
    | some j =>
      have : l.any p = true := by
        obtain ⟨h1, h2, _⟩ := List.findIdx?_eq_some_iff_getElem.1 hf
        exact List.any_eq_true.2 ⟨_, List.getElem_mem h1, h2⟩
      rw [this]; simp
theorem F77_eq {l : List Cv} (hl : l.length ≤ 9223372036854775807) (h : ∀ c ∈ l, CvOk c) : F21038 (l, ()) = some (l.any fun c => decide (chk c ≠ 0)) := by
  obtain ⟨r, h1, h2⟩ := idx_loop (t := .pair (.int .i64) (.pair (.int .u64) (.int .u64))) (l := l) hl (p := fun c => decide (chk c ≠ 0)) (G := F38) (fun x hx => F38_eq (h x hx))
  have : F37038 (l, ()) = some r := h1
  unfold F21038
  simp only [this, Option.bind_some, h2]
/-! ### tokens -/
abbrev Tok := Int × (List Cv × Int)
def TokOk (t : Tok) : Prop := U64 t.1 ∧ (∀ c ∈ t.2.1, CvOk c) ∧ (-9223372036854775808 ≤ t.2.2 ∧ t.2.2 ≤ 9223372036854775807)
def okK (t : Tok) : Prop := t.2.1.length ≤ 16 ∧ (0 ≤ t.2.2 ∧ t.2.2 ≤ 1048576) ∧ ∀ c ∈ t.2.1, chk c = 0
open Classical in
theorem F22_eq {t : Tok} (h : TokOk t) (hl : t.2.1.length ≤ 9223372036854775807) : F22 t = some (if okK t then 0 else 1) := by
  unfold F22
  simp only [F77_eq hl h.2.1, Option.bind_some]
  by_cases h1 : 16 < t.2.1.length
  · have : (16 : Int) < (t.2.1.length : Int) := by omega
    have hn : ¬ okK t := fun h => by have := h.1; omega
    simp [this, hn]
  have k1 : ¬ (16 : Int) < (t.2.1.length : Int) := by omega
  by_cases h2 : t.2.2 < 0
  · have hn : ¬ okK t := fun h => by have := h.2.1; omega
    simp [k1, h2, hn]
  by_cases h3 : 1048576 < t.2.2
  · have hn : ¬ okK t := fun h => by have := h.2.1; omega
    simp [k1, h2, h3, hn]
  cases ha : t.2.1.any fun c => decide (chk c ≠ 0) with
  | true =>
    obtain ⟨c, hc, h4⟩ := List.any_eq_true.1 ha
    have hn : ¬ okK t := fun h => by have := h.2.2 c hc; simp [this] at h4
    simp [k1, h2, h3, hn]
  | false =>
    have hn : okK t := ⟨by omega, by omega, fun c hc => by
      have := List.any_eq_false.1 ha c hc
      simpa using this⟩
    simp [k1, h2, h3, hn]
/-- The elements, each with its number's type. -/
def numd {α : Type} (f : α → List Int) : Nat → List α → List Rec
  | _, [] => []
  | i, x :: r => (((16 + i : Nat) : Int), f x) :: numd f (i + 1) r
theorem numd_len {α : Type} (f : α → List Int) : ∀ (l : List α) (i : Nat), (numd f i l).length = l.length
  | [], _ => rfl
  | x :: r, i => by simp [numd, numd_len f r]
theorem numd_snoc {α : Type} (f : α → List Int) : ∀ (l : List α) (i : Nat) (x : α), numd f i (l ++ [x]) = numd f i l ++ [(((16 + (i + l.length) : Nat) : Int), f x)]
  | [], i, x => by simp [numd]
  | y :: r, i, x => by
    rw [List.cons_append, numd, numd, numd_snoc f r (i + 1) x, List.cons_append, List.length_cons, show i + 1 + r.length = i + (r.length + 1) by omega]
theorem numd_mem {α : Type} (f : α → List Int) : ∀ (l : List α) (i : Nat) (q : Rec), q ∈ numd f i l → (∃ x ∈ l, q.2 = f x) ∧ 16 ≤ q.1 ∧ q.1 < 16 + i + l.length
  | [], i, q, h => by simp [numd] at h
  | y :: r, i, q, h => by
    rcases List.mem_cons.1 h with rfl | h
    · refine ⟨⟨y, by simp, rfl⟩, ?_, ?_⟩ <;> simp only [List.length_cons] <;> omega
    · obtain ⟨⟨x, hx, h1⟩, h2, h3⟩ := numd_mem f r (i + 1) q h
      refine ⟨⟨x, List.mem_cons_of_mem _ hx, h1⟩, h2, ?_⟩
      simp only [List.length_cons]; omega
theorem numd_sorted {α : Type} (f : α → List Int) : ∀ (l : List α) (i : Nat), Sorted (numd f i l) ∧ ∀ q ∈ numd f i l, (16 + i : Int) ≤ q.1
  | [], i => ⟨by simp [numd, Sorted], by simp [numd]⟩
  | y :: r, i => by
    obtain ⟨h1, h2⟩ := numd_sorted f r (i + 1)
    refine ⟨List.pairwise_cons.2 ⟨fun q hq => ?_, h1⟩, fun q hq => ?_⟩
    · have := h2 q hq; simp only; omega
    · rcases List.mem_cons.1 hq with rfl | hq
      · simp only; omega
      · have := h2 q hq; omega
def tokR (t : Tok) : List Rec := (1, enc1 t.1) :: (2, enc1 t.2.2) :: numd encC 0 t.2.1
theorem F55_eq {t : Tok} (h : TokOk t) (hk : okK t) : F55 t = some (t.2.1.map encC) := by
  have h16 := hk.1
  unfold F55
  have hL : t.2.1.length * 24 ≤ LIM := by unfold LIM; omega
  simp only [Int.natCast_nonneg, decide_true, Bool.and_self, hL, cond_true, Int.toNat_natCast]
  refine lfp_rule (fun (x : Int × List (List Int)) => ∃ i : Nat, x.1 = (i : Int) ∧ i ≤ t.2.1.length ∧ x.2 = (t.2.1.take i).map encC ++ List.replicate (t.2.1.length - i) []) (fun x => t.2.1.length - x.1.toNat) (fun _ => t.2.1.map encC) ?_ ((0 : Int), List.replicate t.2.1.length ([] : List Int)) ⟨0, rfl, by omega, by simp⟩
  rintro ⟨i', y⟩ ⟨i, hi', hi, hy⟩ rec hrec
  simp only at hi' hy
  subst hi'
  simp only
  by_cases hlt : i < t.2.1.length
  · have k1 : ((i : Int) < (t.2.1.length : Int)) := by omega
    have hylen : y.length = t.2.1.length := by rw [hy]; simp; omega
    have k2 : ((i : Int) < (y.length : Int)) := by omega
    have hc := h.2.1 _ (List.getElem_mem hlt)
    have hk0 := hk.2.2 _ (List.getElem_mem hlt)
    simp only [k1, decide_true, cond_true, inb_true (Int.natCast_nonneg i) k1, inb_true (Int.natCast_nonneg i) k2, rd_nat (t := .pair (.int .i64) (.pair (.int .u64) (.int .u64))) hlt, Prod.eta, F43_eq hc, Option.bind_some, putC, hk0, if_true, Int.toNat_natCast]
    rw [RB.wrap_i64 (n := (i : Int) + 1) (by omega) (by omega)]
    refine hrec _ ⟨i + 1, by simp, by omega, ?_⟩ (by simp only; omega)
    rw [hy, List.set_append_right _ _ (by simp; omega)]
    have e1 : i - ((t.2.1.take i).map encC).length = 0 := by simp; omega
    rw [e1, List.take_succ_eq_append_getElem hlt, List.map_append, List.append_assoc]
    congr 1
    obtain ⟨n, hn⟩ : ∃ n, t.2.1.length - i = n + 1 := ⟨t.2.1.length - i - 1, by omega⟩
    rw [hn, show t.2.1.length - (i + 1) = n by omega, List.replicate_succ]
    simp
  · have k1 : ¬ ((i : Int) < (t.2.1.length : Int)) := by omega
    have : i = t.2.1.length := by omega
    simp only [k1, decide_false, cond_false]
    rw [hy, this]; simp
theorem F42_one {n : Int} (h : 0 ≤ n) : F42 [n] = some (enc1 n) := by
  rw [F42_eq (by intro x hx; simp only [List.mem_cons, List.not_mem_nil, or_false] at hx; subst hx; exact h) (by simp)]
  simp
theorem tokR_okV {t : Tok} (h : TokOk t) (hk : okK t) : ∀ r ∈ tokR t, OkV r := by
  intro r hr
  unfold tokR at hr
  have h16 := hk.1
  rcases List.mem_cons.1 hr with rfl | hr
  · exact ⟨⟨by simp only; omega, by simp only; omega⟩, enc1_byte h.1.1⟩
  rcases List.mem_cons.1 hr with rfl | hr
  · exact ⟨⟨by simp only; omega, by simp only; omega⟩, enc1_byte hk.2.1.1⟩
  obtain ⟨⟨c, hc, h1⟩, h2, h3⟩ := numd_mem encC _ _ _ hr
  refine ⟨⟨by omega, by omega⟩, ?_⟩
  rw [h1]
  exact encC_byte (h.2.1 c hc) (hk.2.2 c hc)
theorem tokR_okT {t : Tok} (hk : okK t) : okT (tokR t) := by
  have h16 := hk.1
  refine ⟨by simp [tokR, numd_len]; omega, fun r hr => ?_, ?_⟩
  · unfold tokR at hr
    rcases List.mem_cons.1 hr with rfl | hr
    · have := enc1_len t.1; simp only; omega
    rcases List.mem_cons.1 hr with rfl | hr
    · have := enc1_len t.2.2; simp only; omega
    obtain ⟨⟨c, hc, h1⟩, _⟩ := numd_mem encC _ _ _ hr
    have := encC_len c
    rw [h1]; omega
  · obtain ⟨h1, h2⟩ := numd_sorted encC t.2.1 0
    refine List.pairwise_cons.2 ⟨fun q hq => ?_, List.pairwise_cons.2 ⟨fun q hq => ?_, h1⟩⟩
    · rcases List.mem_cons.1 hq with rfl | hq
      · simp only; omega
      · have := h2 q hq; simp only; omega
    · have := h2 q hq; simp only; omega
theorem small_enc {n : Int} (h1 : n < 253) : enc1 n = [n] := by
  unfold enc1 fst wid
  simp [h1, dig]
theorem encR_small {r : Rec} (ht : r.1 < 253) (hv : r.2.length < 253) : (encR r).length = 2 + r.2.length := by
  unfold encR
  rw [small_enc ht, small_enc (by omega)]
  simp; omega
theorem tok_len {t : Tok} (hk : okK t) : ((tokR t).flatMap encR).length ≤ 486 := by
  have h16 := hk.1
  have hn : ∀ (l : List Cv) (i : Nat), i + l.length ≤ 16 → ((numd encC i l).flatMap encR).length ≤ 29 * l.length := by
    intro l
    induction l with
    | nil => intro i _; simp [numd]
    | cons c r ih =>
      intro i hi
      rw [List.length_cons] at hi
      have h1 := ih (i + 1) (by omega)
      have h2 := encC_len c
      have h3 := encR_small (r := (((16 + i : Nat) : Int), encC c)) (by simp only; omega) (by simp only; omega)
      rw [numd, List.flatMap_cons, List.length_append, h3, List.length_cons]
      simp only
      omega
  have h1 := enc1_len t.1
  have h2 := enc1_len t.2.2
  have h3 := hn t.2.1 0 (by omega)
  have e1 := encR_small (r := ((1 : Int), enc1 t.1)) (by simp only; omega) (by simp only; omega)
  have e2 := encR_small (r := ((2 : Int), enc1 t.2.2)) (by simp only; omega) (by simp only; omega)
  unfold tokR
  rw [List.flatMap_cons, List.length_append, List.flatMap_cons, List.length_append, e1, e2]
  simp only
  omega
def tokB (t : Tok) : List Int := (tokR t).flatMap encR
theorem putT_tok {t : Tok} (hk : okK t) : putT (tokR t) = (tokB t, 0) := by
  unfold putT
  have := tok_len hk
  rw [if_pos (tokR_okT hk), if_neg (by omega)]
  rfl
open Classical in
theorem F40_eq {t : Tok} (h : TokOk t) (hl : t.2.1.length ≤ 9223372036854775807) : F40 t = some (if okK t then (tokB t, 0) else ([], 1)) := by
  unfold F40
  simp only [Prod.eta, F22_eq h hl, Option.bind_some]
  by_cases hk : okK t
  · have hw : IntKind.wrap .u64 t.2.2 = t.2.2 := small_u64 hk.2.1.1 hk.2.1.2
    have h16 := hk.1
    simp only [hk, if_true, decide_true, Bool.not_true, cond_false, hw, F42_one h.1.1, F42_one hk.2.1.1, F55_eq h hk, Option.bind_some, both_self]
    refine lfp_rule (fun (x : List Rec × Int) => ∃ i : Nat, x.2 = (i : Int) ∧ i ≤ t.2.1.length ∧ x.1 = [(1, enc1 t.1), (2, enc1 t.2.2)] ++ numd encC 0 (t.2.1.take i)) (fun x => t.2.1.length - x.2.toNat) (fun _ => (tokB t, 0)) ?_ _ ⟨0, rfl, by omega, by simp [numd]⟩
    rintro ⟨y, i'⟩ ⟨i, hi', hi, hy⟩ rec hrec
    simp only at hi' hy
    subst hi'
    simp only [List.length_map]
    by_cases hlt : i < t.2.1.length
    · have k1 : ((i : Int) < (t.2.1.length : Int)) := by omega
      have hlm : i < (t.2.1.map encC).length := by simpa using hlt
      have hyl : y.length = 2 + i := by rw [hy]; simp [numd_len]; omega
      have k3 : (y.length + 1) * 32 ≤ LIM := by unfold LIM; omega
      simp only [k1, decide_true, cond_true, inb_true (Int.natCast_nonneg i) k1, rd_nat (t := .slice 5 (.int .u8)) hlm, k3]
      rw [small_u64 (n := (i : Int)) (by omega) (by omega), small_u64 (n := 16 + (i : Int)) (by omega) (by omega), RB.wrap_i64 (n := (i : Int) + 1) (by omega) (by omega)]
      refine hrec _ ⟨i + 1, by simp, by omega, ?_⟩ (by simp only; omega)
      rw [hy, List.take_succ_eq_append_getElem hlt, numd_snoc, List.append_assoc]
      simp only [List.length_take, List.getElem_map]
      congr 3
      rw [Nat.min_eq_left (by omega)]
      simp
    · have k1 : ¬ ((i : Int) < (t.2.1.length : Int)) := by omega
      have hie : i = t.2.1.length := by omega
      simp only [k1, decide_false, cond_false]
      have hyt : y = tokR t := by rw [hy, hie, List.take_length]; rfl
      rw [hyt, F27_eq (tokR_okV h hk), putT_tok hk]
      rfl
  · simp [hk]
end Go.Proofs.YtgdfhijgjjcnjaaDoor.R5
namespace Go.Proofs.YtgdfhijgjjcnjaaDoor.R5
open Go Go.Fw Go.Proofs RB
set_option maxRecDepth 20000
/-! ### replies -/
abbrev Ev := Int × (Int × (Int × Int))
abbrev Rp := Int × (Int × (Int × (Int × (Int × (List Int × (List Ev × Tok))))))
def EvOk (x : Ev) : Prop := U64 x.1 ∧ (-9223372036854775808 ≤ x.2.1 ∧ x.2.1 ≤ 9223372036854775807) ∧ U64 x.2.2.1 ∧ U64 x.2.2.2
structure RpOk (r : Rp) : Prop where
  id : U64 r.1
  e : -9223372036854775808 ≤ r.2.1 ∧ r.2.1 ≤ 9223372036854775807
  a : U64 r.2.2.1
  n : U64 r.2.2.2.1
  st : -9223372036854775808 ≤ r.2.2.2.2.1 ∧ r.2.2.2.2.1 ≤ 9223372036854775807
  ids : ∀ n ∈ r.2.2.2.2.2.1, U64 n
  evs : ∀ x ∈ r.2.2.2.2.2.2.1, EvOk x
  tok : TokOk r.2.2.2.2.2.2.2
  idl : r.2.2.2.2.2.1.length ≤ 9223372036854775807
  evl : r.2.2.2.2.2.2.1.length ≤ 9223372036854775807
  tkl : r.2.2.2.2.2.2.2.2.1.length ≤ 9223372036854775807
structure okP (r : Rp) : Prop where
  e : 0 ≤ r.2.1 ∧ r.2.1 ≤ 14
  st : 0 ≤ r.2.2.2.2.1 ∧ r.2.2.2.2.1 ≤ 4
  ids : r.2.2.2.2.2.1.length ≤ 16
  evl : r.2.2.2.2.2.2.1.length ≤ 16
  evs : ∀ x ∈ r.2.2.2.2.2.2.1, 0 ≤ x.2.1 ∧ x.2.1 < 16
  tok : okK r.2.2.2.2.2.2.2
def encE (x : Ev) : List Int := [x.1, x.2.1, x.2.2.1, x.2.2.2].flatMap enc1
def opt (c : Bool) (t : Int) (v : List Int) : List Rec := bif c then [(t, v)] else []
/-- What a reply is put as. -/
def recs (r : Rp) : List Rec :=
  [(1, enc1 r.1)] ++ opt (!decide (r.2.1 = 0)) 2 (enc1 r.2.1) ++ opt (!decide (r.2.2.1 = 0)) 3 (enc1 r.2.2.1) ++ opt (!decide (r.2.2.2.1 = 0)) 4 (enc1 r.2.2.2.1) ++ opt (!decide (r.2.2.2.2.1 = 0)) 5 (enc1 r.2.2.2.2.1)
    ++ opt (decide (0 < (r.2.2.2.2.2.1.length : Int))) 6 (r.2.2.2.2.2.1.flatMap enc1) ++ opt (!decide (r.2.2.2.2.2.2.2 = (0, ([], 0)))) 7 (tokB r.2.2.2.2.2.2.2) ++ numd encE 0 r.2.2.2.2.2.2.1
theorem opt_len (c : Bool) (t : Int) (v : List Int) : (opt c t v).length ≤ 1 := by cases c <;> simp [opt]
theorem jk {R : Type} (c : Bool) (x : List Rec) (t : Int) (v : List Int) (hlen : x.length ≤ 1000) (J : List Rec × (Unit × Unit) → Option R) :
    joinK J (fun J => bif c then (bif decide ((x.length + 1) * 32 ≤ LIM) then J ((x ++ ([(t, v)])), ((), ())) else none) else J (x, ((), ()))) = J (x ++ opt c t v, ((), ())) := by
  rw [joinK_eq]
  have : (x.length + 1) * 32 ≤ LIM := by unfold LIM; omega
  cases c <;> simp [opt, this]
theorem encE_len (x : Ev) : (encE x).length ≤ 36 := by
  have h1 := enc1_len x.1
  have h2 := enc1_len x.2.1
  have h3 := enc1_len x.2.2.1
  have h4 := enc1_len x.2.2.2
  simp only [encE, List.flatMap_cons, List.flatMap_nil, List.length_append, List.length_nil]
  omega
theorem encs1_len : ∀ l : List Int, (l.flatMap enc1).length ≤ 9 * l.length
  | [] => by simp
  | n :: r => by
    have h1 := enc1_len n
    have h2 := encs1_len r
    rw [List.flatMap_cons, List.length_append, List.length_cons]
    omega
theorem mem_opt {c : Bool} {t : Int} {v : List Int} {q : Rec} (h : q ∈ opt c t v) : q = (t, v) := by
  cases c <;> simp [opt] at h; exact h
theorem tokB_byte {t : Tok} (h : TokOk t) (hk : okK t) : Bs (tokB t) := by
  intro n hn
  obtain ⟨r, hr, h2⟩ := List.mem_flatMap.1 hn
  have hv := tokR_okV h hk r hr
  unfold encR at h2
  rcases List.mem_append.1 h2 with h2 | h2
  · exact enc1_byte hv.1.1 n h2
  rcases List.mem_append.1 h2 with h2 | h2
  · exact enc1_byte (by omega) n h2
  · exact hv.2 n h2
theorem recs_mem {r : Rp} {q : Rec} (h : q ∈ recs r) : q = (1, enc1 r.1) ∨ q = (2, enc1 r.2.1) ∨ q = (3, enc1 r.2.2.1) ∨ q = (4, enc1 r.2.2.2.1) ∨ q = (5, enc1 r.2.2.2.2.1) ∨ q = (6, r.2.2.2.2.2.1.flatMap enc1) ∨
    q = (7, tokB r.2.2.2.2.2.2.2) ∨ q ∈ numd encE 0 r.2.2.2.2.2.2.1 := by
  unfold recs at h
  simp only [List.mem_append, List.mem_singleton] at h
  rcases h with ((((((h | h) | h) | h) | h) | h) | h) | h
  · exact .inl h
  · exact .inr (.inl (mem_opt h))
  · exact .inr (.inr (.inl (mem_opt h)))
  · exact .inr (.inr (.inr (.inl (mem_opt h))))
  · exact .inr (.inr (.inr (.inr (.inl (mem_opt h)))))
  · exact .inr (.inr (.inr (.inr (.inr (.inl (mem_opt h))))))
  · exact .inr (.inr (.inr (.inr (.inr (.inr (.inl (mem_opt h)))))))
  · exact .inr (.inr (.inr (.inr (.inr (.inr (.inr h))))))
theorem recs_okV {r : Rp} (h : RpOk r) (k : okP r) : ∀ q ∈ recs r, OkV q := by
  intro q hq
  have small : ∀ (t : Int) (v : List Int), 0 ≤ t → t < 100 → Bs v → OkV (t, v) := fun t v h0 h1 hv => ⟨⟨h0, by simp only; omega⟩, hv⟩
  rcases recs_mem hq with rfl | rfl | rfl | rfl | rfl | rfl | rfl | hq
  · exact small _ _ (by decide) (by decide) (enc1_byte h.id.1)
  · exact small _ _ (by decide) (by decide) (enc1_byte k.e.1)
  · exact small _ _ (by decide) (by decide) (enc1_byte h.a.1)
  · exact small _ _ (by decide) (by decide) (enc1_byte h.n.1)
  · exact small _ _ (by decide) (by decide) (enc1_byte k.st.1)
  · exact small _ _ (by decide) (by decide) (encs_byte fun n hn => (h.ids n hn).1)
  · exact small _ _ (by decide) (by decide) (tokB_byte h.tok k.tok)
  · obtain ⟨⟨x, hx, h1⟩, h2, h3⟩ := numd_mem encE _ _ _ hq
    have := k.evl
    have hx1 := h.evs x hx
    have hx2 := k.evs x hx
    refine ⟨⟨by omega, by omega⟩, ?_⟩
    rw [h1]
    refine encs_byte fun n hn => ?_
    simp only [List.mem_cons, List.not_mem_nil, or_false] at hn
    rcases hn with rfl | rfl | rfl | rfl
    · exact hx1.1.1
    · exact hx2.1
    · exact hx1.2.2.1.1
    · exact hx1.2.2.2.1
theorem opt_pw {c : Bool} {t : Int} {v : List Int} : Sorted (opt c t v) := by cases c <;> simp [opt, Sorted]
theorem recs_sorted (r : Rp) : Sorted (recs r) := by
  obtain ⟨h1, h2⟩ := numd_sorted encE r.2.2.2.2.2.2.1 0
  unfold recs Sorted
  simp only [List.pairwise_append, List.mem_append, List.mem_singleton]
  refine ⟨⟨⟨⟨⟨⟨⟨by simp, opt_pw, ?_⟩, opt_pw, ?_⟩, opt_pw, ?_⟩, opt_pw, ?_⟩, opt_pw, ?_⟩, opt_pw, ?_⟩, h1, ?_⟩
  · rintro a rfl b hb; rw [mem_opt hb]; simp only; omega
  · rintro a (rfl | ha) b hb <;> rw [mem_opt hb]
    · simp only; omega
    · rw [mem_opt ha]; simp only; omega
  · rintro a ((rfl | ha) | ha) b hb <;> rw [mem_opt hb]
    · simp only; omega
    · rw [mem_opt ha]; simp only; omega
    · rw [mem_opt ha]; simp only; omega
  · rintro a (((rfl | ha) | ha) | ha) b hb <;> rw [mem_opt hb]
    · simp only; omega
    all_goals rw [mem_opt ha]; simp only; omega
  · rintro a ((((rfl | ha) | ha) | ha) | ha) b hb <;> rw [mem_opt hb]
    · simp only; omega
    all_goals rw [mem_opt ha]; simp only; omega
  · rintro a (((((rfl | ha) | ha) | ha) | ha) | ha) b hb <;> rw [mem_opt hb]
    · simp only; omega
    all_goals rw [mem_opt ha]; simp only; omega
  · rintro a ((((((rfl | ha) | ha) | ha) | ha) | ha) | ha) b hb <;> have hb2 := h2 b hb
    · simp only; omega
    all_goals rw [mem_opt ha]; simp only; omega
theorem opt_encs (c : Bool) {t : Int} {v : List Int} (ht : t < 253) (hv : v.length < 253) : ((opt c t v).flatMap encR).length ≤ 2 + v.length := by
  cases c
  · simp [opt]
  · simp only [opt, cond_true, List.flatMap_cons, List.flatMap_nil, List.append_nil]
    rw [encR_small (r := (t, v)) ht hv]; exact Nat.le_refl _
theorem evs_len : ∀ (l : List Ev) (i : Nat), i + l.length ≤ 16 → ((numd encE i l).flatMap encR).length ≤ 38 * l.length
  | [], i, _ => by simp [numd]
  | c :: r, i, hi => by
    rw [List.length_cons] at hi
    have h1 := evs_len r (i + 1) (by omega)
    have h2 := encE_len c
    have h3 := encR_small (r := (((16 + i : Nat) : Int), encE c)) (by simp only; omega) (by simp only; omega)
    rw [numd, List.flatMap_cons, List.length_append, h3, List.length_cons]
    simp only
    omega
theorem enc1_mid {n : Int} (h0 : 0 ≤ n) (h1 : n < 65536) : (enc1 n).length ≤ 3 := by
  unfold enc1 fst wid
  split
  · simp [dig]
  · simp [h1, dig_len]
theorem recs_len {r : Rp} (k : okP r) : ((recs r).flatMap encR).length ≤ 1299 := by
  have i1 := enc1_len r.1
  have i2 := enc1_len r.2.1
  have i3 := enc1_len r.2.2.1
  have i4 := enc1_len r.2.2.2.1
  have i5 := enc1_len r.2.2.2.2.1
  have i6 := encs1_len r.2.2.2.2.2.1
  have i7 : (tokB r.2.2.2.2.2.2.2).length ≤ 486 := tok_len k.tok
  have k1 := k.ids
  have k2 := k.evl
  have j1 := encR_small (r := ((1 : Int), enc1 r.1)) (by simp only; omega) (by simp only; omega)
  have j2 := opt_encs (!decide (r.2.1 = 0)) (t := 2) (v := enc1 r.2.1) (by decide) (by omega)
  have j3 := opt_encs (!decide (r.2.2.1 = 0)) (t := 3) (v := enc1 r.2.2.1) (by decide) (by omega)
  have j4 := opt_encs (!decide (r.2.2.2.1 = 0)) (t := 4) (v := enc1 r.2.2.2.1) (by decide) (by omega)
  have j5 := opt_encs (!decide (r.2.2.2.2.1 = 0)) (t := 5) (v := enc1 r.2.2.2.2.1) (by decide) (by omega)
  have j6 := opt_encs (decide (0 < (r.2.2.2.2.2.1.length : Int))) (t := 6) (v := r.2.2.2.2.2.1.flatMap enc1) (by decide) (by omega)
  have j7 : ((opt (!decide (r.2.2.2.2.2.2.2 = (0, ([], 0)))) 7 (tokB r.2.2.2.2.2.2.2)).flatMap encR).length ≤ 490 := by
    cases (!decide (r.2.2.2.2.2.2.2 = (0, ([], 0)))) with
    | false => simp [opt]
    | true =>
      have e := enc1_mid (n := ((tokB r.2.2.2.2.2.2.2).length : Int)) (by omega) (by omega)
      have e2 : (enc1 7).length = 1 := by decide
      simp only [opt, cond_true, List.flatMap_cons, List.flatMap_nil, List.append_nil, encR, List.length_append, e2]
      omega
  have j8 := evs_len r.2.2.2.2.2.2.1 0 (by omega)
  unfold recs
  simp only [List.flatMap_append, List.length_append, List.flatMap_cons, List.flatMap_nil, List.append_nil, j1]
  omega
theorem recs_okT {r : Rp} (k : okP r) : okT (recs r) := by
  have k2 := k.evl
  refine ⟨?_, fun q hq => ?_, recs_sorted r⟩
  · unfold recs
    simp only [List.length_append, numd_len, List.length_singleton]
    have := opt_len (!decide (r.2.1 = 0)) 2 (enc1 r.2.1)
    have := opt_len (!decide (r.2.2.1 = 0)) 3 (enc1 r.2.2.1)
    have := opt_len (!decide (r.2.2.2.1 = 0)) 4 (enc1 r.2.2.2.1)
    have := opt_len (!decide (r.2.2.2.2.1 = 0)) 5 (enc1 r.2.2.2.2.1)
    have := opt_len (decide (0 < (r.2.2.2.2.2.1.length : Int))) 6 (r.2.2.2.2.2.1.flatMap enc1)
    have := opt_len (!decide (r.2.2.2.2.2.2.2 = (0, ([], 0)))) 7 (tokB r.2.2.2.2.2.2.2)
    omega
  · have h9 := fun n => enc1_len n
    rcases recs_mem hq with rfl | rfl | rfl | rfl | rfl | rfl | rfl | hq
    · have := h9 r.1; simp only; omega
    · have := h9 r.2.1; simp only; omega
    · have := h9 r.2.2.1; simp only; omega
    · have := h9 r.2.2.2.1; simp only; omega
    · have := h9 r.2.2.2.2.1; simp only; omega
    · have := encs1_len r.2.2.2.2.2.1; have := k.ids; simp only; omega
    · have : (tokB r.2.2.2.2.2.2.2).length ≤ 486 := tok_len k.tok
      simp only; omega
    · obtain ⟨⟨x, hx, h1⟩, _⟩ := numd_mem encE _ _ _ hq
      have := encE_len x
      rw [h1]; omega
theorem putT_recs {r : Rp} (k : okP r) : putT (recs r) = ((recs r).flatMap encR, 0) := by
  have := recs_len k
  unfold putT
  rw [if_pos (recs_okT k), if_neg (by omega)]
theorem jk_true {R : Type} {u : Option (List Int)} (x : List Rec) (t : Int) (v : List Int) (hlen : x.length ≤ 1000) (hu : u = some v) (J : List Rec × (Unit × Unit) → Option R) :
    joinK J (fun J => u.bind fun q => bif decide ((x.length + 1) * 32 ≤ LIM) then J ((x ++ ([(t, q)])), ((), ())) else none) = J (x ++ [(t, v)], ((), ())) := by
  rw [joinK_eq, hu]
  have : (x.length + 1) * 32 ≤ LIM := by unfold LIM; omega
  simp [this]
theorem jk_opt {R : Type} {u : Option (List Int)} (c : Bool) (x : List Rec) (t : Int) (v : List Int) (hlen : x.length ≤ 1000) (hu : u = some v) (J : List Rec × (Unit × Unit) → Option R) :
    joinK J (fun J => bif c then (u.bind fun q => bif decide ((x.length + 1) * 32 ≤ LIM) then J ((x ++ ([(t, q)])), ((), ())) else none) else J (x, ((), ()))) = J (x ++ opt c t v, ((), ())) := by
  rw [joinK_eq, hu]
  have : (x.length + 1) * 32 ≤ LIM := by unfold LIM; omega
  cases c <;> simp [opt, this]
theorem jk_tok {u : Option (List Int × Int)} (c : Bool) (x : List Rec) (v : List Int) (hlen : x.length ≤ 1000) (hu : u = some (v, 0)) (J : List Int × Int × List Rec × (Unit × Unit) → Option (List Int × Int)) :
    joinK J (fun J => bif c then (u.bind fun q => bif (!decide (q.2 = 0)) then (some (([] : List Int), q.2)) else (bif decide ((x.length + 1) * 32 ≤ LIM) then J ([], 0, (x ++ ([(7, q.1)])), ((), ())) else none)) else J ([], 0, x, ((), ()))) = J ([], 0, x ++ opt c 7 v, ((), ())) := by
  rw [joinK_eq, hu]
  have : (x.length + 1) * 32 ≤ LIM := by unfold LIM; omega
  cases c <;> simp [opt, this]
def rpB (r : Rp) : List Int := (recs r).flatMap encR
end Go.Proofs.YtgdfhijgjjcnjaaDoor.R5
namespace Go.Proofs.YtgdfhijgjjcnjaaDoor.R5
open Go Go.Fw Go.Proofs RB
set_option maxRecDepth 20000
/-! ### no two have the same octets -/
theorem enc1_inj {a b : Int} {X Y : List Int} (ha : U64 a) (hb : U64 b) (h : enc1 a ++ X = enc1 b ++ Y) : a = b ∧ X = Y := by
  have g1 := get1_enc ha.1 ha.2 X
  have g2 := get1_enc hb.1 hb.2 Y
  rw [h, g2] at g1
  simp only [Prod.mk.injEq] at g1
  have hab : a = b := g1.1.symm
  subst hab
  exact ⟨rfl, List.append_cancel_left h⟩
theorem enc1_inj0 {a b : Int} (ha : U64 a) (hb : U64 b) (h : enc1 a = enc1 b) : a = b :=
  (enc1_inj (X := []) (Y := []) ha hb (by simpa using h)).1
theorem enc1_ne' (n : Int) : enc1 n ≠ [] := by unfold enc1; simp
theorem encs1_inj : ∀ {l m : List Int}, (∀ n ∈ l, U64 n) → (∀ n ∈ m, U64 n) → l.flatMap enc1 = m.flatMap enc1 → l = m
  | [], [], _, _, _ => rfl
  | [], b :: m, _, _, h => by simp only [List.flatMap_nil, List.flatMap_cons] at h; exact absurd (List.append_eq_nil_iff.1 h.symm).1 (enc1_ne' _)
  | a :: l, [], _, _, h => by simp only [List.flatMap_nil, List.flatMap_cons] at h; exact absurd (List.append_eq_nil_iff.1 h).1 (enc1_ne' _)
  | a :: l, b :: m, hl, hm, h => by
    rw [List.flatMap_cons, List.flatMap_cons] at h
    obtain ⟨h1, h2⟩ := enc1_inj (hl a (by simp)) (hm b (by simp)) h
    rw [h1, encs1_inj (fun n hn => hl n (List.mem_cons_of_mem _ hn)) (fun n hn => hm n (List.mem_cons_of_mem _ hn)) h2]
theorem encR_ne (r : Rec) : encR r ≠ [] := by unfold encR enc1; simp
theorem encR_inj {r s : Rec} {X Y : List Int} (hr : OkV r) (hs : OkV s) (lr : r.2.length ≤ 4096) (ls : s.2.length ≤ 4096) (h : encR r ++ X = encR s ++ Y) : r = s ∧ X = Y := by
  unfold encR at h
  rw [List.append_assoc, List.append_assoc, List.append_assoc, List.append_assoc] at h
  obtain ⟨h1, h2⟩ := enc1_inj hr.1 hs.1 h
  obtain ⟨h3, h4⟩ := enc1_inj (a := (r.2.length : Int)) (b := (s.2.length : Int)) ⟨by omega, by omega⟩ ⟨by omega, by omega⟩ h2
  obtain ⟨h5, h6⟩ := List.append_inj h4 (by omega)
  exact ⟨Prod.ext h1 h5, h6⟩
theorem encs_inj : ∀ {l m : List Rec}, (∀ r ∈ l, OkV r ∧ r.2.length ≤ 4096) → (∀ r ∈ m, OkV r ∧ r.2.length ≤ 4096) → l.flatMap encR = m.flatMap encR → l = m
  | [], [], _, _, _ => rfl
  | [], b :: m, _, _, h => by simp only [List.flatMap_nil, List.flatMap_cons] at h; exact absurd (List.append_eq_nil_iff.1 h.symm).1 (encR_ne _)
  | a :: l, [], _, _, h => by simp only [List.flatMap_nil, List.flatMap_cons] at h; exact absurd (List.append_eq_nil_iff.1 h).1 (encR_ne _)
  | a :: l, b :: m, hl, hm, h => by
    rw [List.flatMap_cons, List.flatMap_cons] at h
    have ha := hl a (by simp)
    have hb := hm b (by simp)
    obtain ⟨h1, h2⟩ := encR_inj ha.1 hb.1 ha.2 hb.2 h
    rw [h1, encs_inj (fun n hn => hl n (List.mem_cons_of_mem _ hn)) (fun n hn => hm n (List.mem_cons_of_mem _ hn)) h2]
theorem numd_inj {α : Type} {f : α → List Int} : ∀ {l m : List α} {i : Nat}, (∀ x ∈ l, ∀ y ∈ m, f x = f y → x = y) → numd f i l = numd f i m → l = m
  | [], [], _, _, _ => rfl
  | [], _ :: _, _, _, h => by simp [numd] at h
  | _ :: _, [], _, _, h => by simp [numd] at h
  | x :: l, y :: m, i, hf, h => by
    simp only [numd, List.cons.injEq, Prod.mk.injEq, true_and] at h
    rw [hf x (by simp) y (by simp) h.1, numd_inj (fun a ha b hb => hf a (List.mem_cons_of_mem _ ha) b (List.mem_cons_of_mem _ hb)) h.2]
theorem encC_inj {c d : Cv} (hc : CvOk c) (hd : CvOk d) (kc : chk c = 0) (kd : chk d = 0) (h : encC c = encC d) : c = d := by
  have k1 := chk_kind kc
  have k2 := chk_kind kd
  unfold encC at h
  obtain ⟨h1, h2⟩ := enc1_inj (a := c.1) (b := d.1) ⟨by omega, by omega⟩ ⟨by omega, by omega⟩ h
  obtain ⟨h3, h4⟩ := enc1_inj hc.2.1 hd.2.1 h2
  refine Prod.ext h1 (Prod.ext h3 ?_)
  by_cases h5 : c.1 = 4
  · rw [if_pos h5, if_pos (by omega)] at h4
    exact enc1_inj0 hc.2.2 hd.2.2 h4
  · rw [k1.2.2.2.1 h5, k2.2.2.2.1 (by omega)]
theorem encE_inj {x y : Ev} (hx : EvOk x) (hy : EvOk y) (kx : 0 ≤ x.2.1 ∧ x.2.1 < 16) (ky : 0 ≤ y.2.1 ∧ y.2.1 < 16) (h : encE x = encE y) : x = y := by
  have := encs1_inj (l := [x.1, x.2.1, x.2.2.1, x.2.2.2]) (m := [y.1, y.2.1, y.2.2.1, y.2.2.2]) ?_ ?_ h
  · simp only [List.cons.injEq, and_true] at this
    exact Prod.ext this.1 (Prod.ext this.2.1 (Prod.ext this.2.2.1 this.2.2.2))
  · intro n hn
    simp only [List.mem_cons, List.not_mem_nil, or_false] at hn
    rcases hn with rfl | rfl | rfl | rfl
    · exact hx.1
    · exact ⟨kx.1, by omega⟩
    · exact hx.2.2.1
    · exact hx.2.2.2
  · intro n hn
    simp only [List.mem_cons, List.not_mem_nil, or_false] at hn
    rcases hn with rfl | rfl | rfl | rfl
    · exact hy.1
    · exact ⟨ky.1, by omega⟩
    · exact hy.2.2.1
    · exact hy.2.2.2
theorem tokB_inj {t u : Tok} (ht : TokOk t) (hu : TokOk u) (kt : okK t) (ku : okK u) (h : tokB t = tokB u) : t = u := by
  have := encs_inj (fun r hr => ⟨tokR_okV ht kt r hr, (tokR_okT kt).2.1 r hr⟩) (fun r hr => ⟨tokR_okV hu ku r hr, (tokR_okT ku).2.1 r hr⟩) h
  simp only [tokR, List.cons.injEq, Prod.mk.injEq, true_and] at this
  have h1 := kt.2.1
  have h2 := ku.2.1
  refine Prod.ext (enc1_inj0 ht.1 hu.1 this.1) (Prod.ext ?_ (enc1_inj0 ⟨h1.1, by omega⟩ ⟨h2.1, by omega⟩ this.2.1))
  exact numd_inj (fun x hx y hy hxy => encC_inj (ht.2.1 x hx) (hu.2.1 y hy) (kt.2.2 x hx) (ku.2.2 y hy) hxy) this.2.2
def only (s : Int) (l : List Rec) : List Rec := l.filter fun q => decide (q.1 = s)
theorem only_opt (s : Int) (c : Bool) (t : Int) (v : List Int) : only s (opt c t v) = if t = s then opt c t v else [] := by
  unfold only
  cases c <;> by_cases h : t = s <;> simp [opt, h]
theorem only_append (s : Int) (l m : List Rec) : only s (l ++ m) = only s l ++ only s m := by simp [only]
theorem only_numd {α : Type} {f : α → List Int} {s : Int} (hs : s < 16) (l : List α) : only s (numd f 0 l) = [] := by
  unfold only
  rw [List.filter_eq_nil_iff]
  intro q hq
  have := (numd_mem f l 0 q hq).2.1
  simp only [decide_eq_true_eq]
  omega
theorem only_one (s t : Int) (v : List Int) : only s [(t, v)] = if t = s then [(t, v)] else [] := by
  unfold only; by_cases h : t = s <;> simp [h]
def late (l : List Rec) : List Rec := l.filter fun q => decide (16 ≤ q.1)
theorem late_opt (c : Bool) {t : Int} (v : List Int) (ht : t < 16) : late (opt c t v) = [] := by
  unfold late; cases c <;> simp [opt]; omega
theorem late_numd {α : Type} {f : α → List Int} (l : List α) : late (numd f 0 l) = numd f 0 l := by
  unfold late
  rw [List.filter_eq_self]
  intro q hq
  have := (numd_mem f l 0 q hq).2.1
  simpa using this
theorem opt_num {a b t : Int} (ha : U64 a) (hb : U64 b) (h : opt (!decide (a = 0)) t (enc1 a) = opt (!decide (b = 0)) t (enc1 b)) : a = b := by
  by_cases h1 : a = 0 <;> by_cases h2 : b = 0
  · omega
  · simp [opt, h1, h2] at h
  · simp [opt, h1, h2] at h
  · simp only [opt, h1, h2, decide_false, Bool.not_false, cond_true, List.cons.injEq, Prod.mk.injEq, true_and, and_true] at h
    exact enc1_inj0 ha hb h
theorem recs_inj {r o : Rp} (hr : RpOk r) (ho : RpOk o) (kr : okP r) (ko : okP o) (h : recs r = recs o) : r = o := by
  have ke1 := kr.e
  have ke2 := ko.e
  have ks1 := kr.st
  have ks2 := ko.st
  have f : ∀ s, only s (recs r) = only s (recs o) := fun s => by rw [h]
  have fl : late (recs r) = late (recs o) := by rw [h]
  simp only [recs, only_append, only_opt, only_one] at f
  have f1 := f 1
  have f2 := f 2
  have f3 := f 3
  have f4 := f 4
  have f5 := f 5
  have f6 := f 6
  have f7 := f 7
  rw [only_numd (by decide), only_numd (by decide)] at f1 f2 f3 f4 f5 f6 f7
  simp at f1 f2 f3 f4 f5 f6 f7
  have g1 : r.1 = o.1 := enc1_inj0 hr.id ho.id f1
  have g2 : r.2.1 = o.2.1 := opt_num ⟨by omega, by omega⟩ ⟨by omega, by omega⟩ f2
  have g3 : r.2.2.1 = o.2.2.1 := opt_num hr.a ho.a f3
  have g4 : r.2.2.2.1 = o.2.2.2.1 := opt_num hr.n ho.n f4
  have g5 : r.2.2.2.2.1 = o.2.2.2.2.1 := opt_num ⟨by omega, by omega⟩ ⟨by omega, by omega⟩ f5
  have g6 : r.2.2.2.2.2.1 = o.2.2.2.2.2.1 := by
    have e : ∀ l : List Int, (decide (0 < l.length)) = !decide (l = []) := by intro l; cases l <;> simp
    simp only [e] at f6
    by_cases h1 : r.2.2.2.2.2.1 = [] <;> by_cases h2 : o.2.2.2.2.2.1 = []
    · rw [h1, h2]
    · simp [opt, h1, h2] at f6
    · simp [opt, h1, h2] at f6
    · simp only [opt, h1, h2, decide_false, Bool.not_false, cond_true, List.cons.injEq, Prod.mk.injEq, true_and, and_true] at f6
      exact encs1_inj hr.ids ho.ids f6
  have g7 : r.2.2.2.2.2.2.2 = o.2.2.2.2.2.2.2 := by
    by_cases h1 : r.2.2.2.2.2.2.2 = (0, ([], 0)) <;> by_cases h2 : o.2.2.2.2.2.2.2 = (0, ([], 0))
    · rw [h1, h2]
    · simp [opt, h1, h2] at f7
    · simp [opt, h1, h2] at f7
    · simp only [opt, h1, h2, decide_false, Bool.not_false, cond_true, List.cons.injEq, Prod.mk.injEq, true_and, and_true] at f7
      exact tokB_inj hr.tok ho.tok kr.tok ko.tok f7
  have g8 : r.2.2.2.2.2.2.1 = o.2.2.2.2.2.2.1 := by
    have la : ∀ l m, late (l ++ m) = late l ++ late m := fun l m => by simp [late]
    simp only [recs, la, late_numd] at fl
    rw [late_opt _ _ (by decide), late_opt _ _ (by decide), late_opt _ _ (by decide), late_opt _ _ (by decide), late_opt _ _ (by decide), late_opt _ _ (by decide), late_opt _ _ (by decide), late_opt _ _ (by decide), late_opt _ _ (by decide), late_opt _ _ (by decide), late_opt _ _ (by decide), late_opt _ _ (by decide)] at fl
    have l1 : ∀ v, late [((1 : Int), v)] = [] := fun v => by simp [late]
    simp only [l1, List.append_nil, List.nil_append] at fl
    exact numd_inj (fun x hx y hy hxy => encE_inj (hr.evs x hx) (ho.evs y hy) (kr.evs x hx) (ko.evs y hy) hxy) fl
  exact Prod.ext g1 (Prod.ext g2 (Prod.ext g3 (Prod.ext g4 (Prod.ext g5 (Prod.ext g6 (Prod.ext g8 g7))))))
theorem rpB_inj {r o : Rp} (hr : RpOk r) (ho : RpOk o) (kr : okP r) (ko : okP o) (h : rpB r = rpB o) : r = o :=
  recs_inj hr ho kr ko (encs_inj (fun q hq => ⟨recs_okV hr kr q hq, (recs_okT kr).2.1 q hq⟩) (fun q hq => ⟨recs_okV ho ko q hq, (recs_okT ko).2.1 q hq⟩) h)
end Go.Proofs.YtgdfhijgjjcnjaaDoor.R5
namespace Go.Proofs.YtgdfhijgjjcnjaaDoor.R5
open Go Go.Fw Go.Proofs RB
set_option maxRecDepth 20000
theorem just {i : Int} (h : U64 i) : RpOk (i, (0, (0, (0, (0, ([], ([], (0, ([], 0)))))))) ) ∧ okP (i, (0, (0, (0, (0, ([], ([], (0, ([], 0)))))))) ) ∧ rpB (i, (0, (0, (0, (0, ([], ([], (0, ([], 0)))))))) ) = encR (1, enc1 i) := by
  have z : U64 0 := ⟨by decide, by decide⟩
  refine ⟨⟨h, by simp, z, z, by simp, by simp, by simp, ⟨z, by simp, by simp⟩, by simp, by simp, by simp⟩, ⟨by simp, by simp, by simp, by simp, by simp, by simp, by simp, by simp⟩, ?_⟩
  simp [rpB, recs, opt, numd]
theorem rp_of {r : Rp} (h : Fw.Good (.pair (.int .u64) (.pair (.int .i64) (.pair (.int .u64) (.pair (.int .u64) (.pair (.int .i64) (.pair (.slice 23 (.int .u64)) (.pair (.slice 81 (.pair (.int .u64) (.pair (.int .i64) (.pair (.int .u64) (.int .u64))))) (.pair (.int .u64) (.pair (.slice 95 (.pair (.int .i64) (.pair (.int .u64) (.int .u64)))) (.int .i64)))))))))) r) : RpOk r :=
  ⟨u64_of h.1, i64_of h.2.1, u64_of h.2.2.1, u64_of h.2.2.2.1, i64_of h.2.2.2.2.1, fun n hn => u64_of (h.2.2.2.2.2.1.2 n hn), fun x hx => ⟨u64_of (h.2.2.2.2.2.2.1.2 x hx).1, i64_of (h.2.2.2.2.2.2.1.2 x hx).2.1, u64_of (h.2.2.2.2.2.2.1.2 x hx).2.2.1, u64_of (h.2.2.2.2.2.2.1.2 x hx).2.2.2⟩,
    ⟨u64_of h.2.2.2.2.2.2.2.1, fun c hc => cv_of (h.2.2.2.2.2.2.2.2.1.2 c hc), i64_of h.2.2.2.2.2.2.2.2.2⟩, h.2.2.2.2.2.1.1, h.2.2.2.2.2.2.1.1, h.2.2.2.2.2.2.2.2.1.1⟩
end Go.Proofs.YtgdfhijgjjcnjaaDoor.R5
