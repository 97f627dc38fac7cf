/- Part of a proof: what the program's functions come to. -/
import Derived.Test.YtacebemdonoliaaGU1
set_option linter.unusedVariables false
set_option linter.unusedSimpArgs false
namespace Go.Proofs.Ytacebemdonoliaa.R4
open Go Go.Fw Go.Proofs RB
set_option maxRecDepth 20000
/-! ### replies -/
abbrev Ev := Int × (Int × (Int × Int))
abbrev Rp := Int × (Int × (Int × (Int × (Int × (List Int × (List Ev × Tok))))))
def EvOk (x : Ev) : Prop := U64 x.1 ∧ (-9223372036854775808 ≤ x.2.1 ∧ x.2.1 ≤ 9223372036854775807) ∧ U64 x.2.2.1 ∧ U64 x.2.2.2
structure RpOk (r : Rp) : Prop where
  id : U64 r.1
  e : -9223372036854775808 ≤ r.2.1 ∧ r.2.1 ≤ 9223372036854775807
  a : U64 r.2.2.1
  n : U64 r.2.2.2.1
  st : -9223372036854775808 ≤ r.2.2.2.2.1 ∧ r.2.2.2.2.1 ≤ 9223372036854775807
  ids : ∀ n ∈ r.2.2.2.2.2.1, U64 n
  evs : ∀ x ∈ r.2.2.2.2.2.2.1, EvOk x
  tok : TokOk r.2.2.2.2.2.2.2
  idl : r.2.2.2.2.2.1.length ≤ 9223372036854775807
  evl : r.2.2.2.2.2.2.1.length ≤ 9223372036854775807
  tkl : r.2.2.2.2.2.2.2.2.1.length ≤ 9223372036854775807
structure okP (r : Rp) : Prop where
  e : 0 ≤ r.2.1 ∧ r.2.1 ≤ 14
  st : 0 ≤ r.2.2.2.2.1 ∧ r.2.2.2.2.1 ≤ 4
  ids : r.2.2.2.2.2.1.length ≤ 16
  evl : r.2.2.2.2.2.2.1.length ≤ 16
  evs : ∀ x ∈ r.2.2.2.2.2.2.1, 0 ≤ x.2.1 ∧ x.2.1 < 16
  tok : okK r.2.2.2.2.2.2.2
theorem F57_eq {l : List Ev} (hl : l.length ≤ 9223372036854775807) : F57056 (l, ()) = some (l.any fun x => decide (x.2.1 < 0) || decide (16 ≤ x.2.1)) := by
  obtain ⟨r, h1, h2⟩ := idx_loop (t := .pair (.int .u64) (.pair (.int .i64) (.pair (.int .u64) (.int .u64)))) (l := l) hl (p := fun x => decide (x.2.1 < 0) || decide (16 ≤ x.2.1)) (G := F56) (fun x hx => by
    unfold F56
    cases decide (x.2.1 < 0) <;> rfl)
  have : F74056 (l, ()) = some r := h1
  unfold F57056
  simp only [this, Option.bind_some, h2]
open Classical in
theorem F34_eq {r : Rp} (h : RpOk r) : F34 r = some (if okP r then 0 else 1) := by
  unfold F34
  simp only [F57_eq h.evl, Option.bind_some, Prod.eta, F58_eq h.tok h.tkl]
  by_cases c1 : r.2.1 < 0
  · have : ¬ okP r := fun k => by have := k.e; omega
    simp [c1, this]
  by_cases c2 : 14 < r.2.1
  · have : ¬ okP r := fun k => by have := k.e; omega
    simp [c1, c2, this]
  by_cases c3 : r.2.2.2.2.1 < 0
  · have : ¬ okP r := fun k => by have := k.st; omega
    simp [c1, c2, c3, this]
  by_cases c4 : 4 < r.2.2.2.2.1
  · have : ¬ okP r := fun k => by have := k.st; omega
    simp [c1, c2, c3, c4, this]
  by_cases c5 : (16 : Int) < (if (r.2.2.2.2.2.1.length : Int) < (r.2.2.2.2.2.2.1.length : Int) then (r.2.2.2.2.2.2.1.length : Int) else (r.2.2.2.2.2.1.length : Int))
  · have : ¬ okP r := fun k => by have := k.ids; have := k.evl; split at c5 <;> omega
    simp only [c1, c2, c3, c4, c5, decide_true, decide_false, cond_true, cond_false, this, if_false]; rfl
  simp only [c1, c2, c3, c4, c5, decide_true, decide_false, cond_true, cond_false]
  cases ha : r.2.2.2.2.2.2.1.any (fun x => decide (x.2.1 < 0) || decide (16 ≤ x.2.1)) with
  | true =>
    obtain ⟨x, hx, hb⟩ := List.any_eq_true.1 ha
    have : ¬ okP r := fun k => by
      have := k.evs x hx
      simp only [Bool.or_eq_true, decide_eq_true_eq] at hb
      omega
    simp [this]
  | false =>
    have hev : ∀ x ∈ r.2.2.2.2.2.2.1, 0 ≤ x.2.1 ∧ x.2.1 < 16 := fun x hx => by
      have := List.any_eq_false.1 ha x hx
      simp only [Bool.or_eq_true, decide_eq_true_eq] at this
      omega
    have hll : r.2.2.2.2.2.1.length ≤ 16 ∧ r.2.2.2.2.2.2.1.length ≤ 16 := by split at c5 <;> omega
    by_cases ht : okK r.2.2.2.2.2.2.2
    · have : okP r := ⟨by omega, by omega, hll.1, hll.2, hev, ht⟩
      simp [this, ht]
    · have : ¬ okP r := fun k => ht k.tok
      simp [this, ht]
theorem F72_eq {a b : List Cv} (hl : a.length ≤ 4611686018427387904) : F72 (a, b) = some (decide (a = b)) := by
  unfold F72
  by_cases hn : a.length = b.length
  · have : (a.length : Int) = (b.length : Int) := by omega
    simp only [this, decide_true, Bool.not_true, cond_false]
    rw [← this]
    refine same_loop (t := .pair (.int .i64) (.pair (.int .u64) (.int .u64))) hl hn (G := fun x y K => K (decide (x.1 = y.1) && (decide (x.2.1 = y.2.1) && decide (x.2.2 = y.2.2)))) ?_
    intro i h1 h2 K
    congr 1
    rw [Bool.eq_iff_iff]
    simp only [Bool.and_eq_true, decide_eq_true_eq]
    constructor
    · rintro ⟨q1, q2, q3⟩; exact Prod.ext q1 (Prod.ext q2 q3)
    · intro q; rw [q]; exact ⟨rfl, rfl, rfl⟩
  · have : ¬ (a.length : Int) = (b.length : Int) := by omega
    have hne : a ≠ b := fun h => hn (by rw [h])
    simp [this, hne]
theorem F54_eq {a b : Tok} (hl : a.2.1.length ≤ 4611686018427387904) : F54 (a, b) = some (decide (a = b)) := by
  obtain ⟨a1, a2, a3⟩ := a
  obtain ⟨b1, b2, b3⟩ := b
  unfold F54
  simp only [F72_eq hl, Option.bind_some]
  by_cases c1 : a1 = b1
  · by_cases c2 : a3 = b3
    · by_cases c3 : a2 = b2 <;> simp [c1, c2, c3]
    · simp [c1, c2]
  · simp [c1]
def encE (x : Ev) : List Int := [x.1, x.2.1, x.2.2.1, x.2.2.2].flatMap enc1
def opt (c : Bool) (t : Int) (v : List Int) : List Rec := bif c then [(t, v)] else []
/-- What a reply is put as. -/
def recs (r : Rp) : List Rec :=
  [(1, enc1 r.1)] ++ opt (!decide (r.2.1 = 0)) 2 (enc1 r.2.1) ++ opt (!decide (r.2.2.1 = 0)) 3 (enc1 r.2.2.1) ++ opt (!decide (r.2.2.2.1 = 0)) 4 (enc1 r.2.2.2.1) ++ opt (!decide (r.2.2.2.2.1 = 0)) 5 (enc1 r.2.2.2.2.1)
    ++ opt (decide (0 < (r.2.2.2.2.2.1.length : Int))) 6 (r.2.2.2.2.2.1.flatMap enc1) ++ opt (!decide (r.2.2.2.2.2.2.2 = (0, ([], 0)))) 7 (tokB r.2.2.2.2.2.2.2) ++ numd encE 0 r.2.2.2.2.2.2.1
theorem opt_len (c : Bool) (t : Int) (v : List Int) : (opt c t v).length ≤ 1 := by cases c <;> simp [opt]
theorem jk {R : Type} (c : Bool) (x : List Rec) (t : Int) (v : List Int) (hlen : x.length ≤ 1000) (J : List Rec × (Unit × Unit) → Option R) :
    joinK J (fun J => bif c then (bif decide ((x.length + 1) * 32 ≤ LIM) then J ((x ++ ([(t, v)])), ((), ())) else none) else J (x, ((), ()))) = J (x ++ opt c t v, ((), ())) := by
  rw [joinK_eq]
  have : (x.length + 1) * 32 ≤ LIM := by unfold LIM; omega
  cases c <;> simp [opt, this]
theorem encE_len (x : Ev) : (encE x).length ≤ 36 := by
  have h1 := enc1_len x.1
  have h2 := enc1_len x.2.1
  have h3 := enc1_len x.2.2.1
  have h4 := enc1_len x.2.2.2
  simp only [encE, List.flatMap_cons, List.flatMap_nil, List.length_append, List.length_nil]
  omega
theorem encs1_len : ∀ l : List Int, (l.flatMap enc1).length ≤ 9 * l.length
  | [] => by simp
  | n :: r => by
    have h1 := enc1_len n
    have h2 := encs1_len r
    rw [List.flatMap_cons, List.length_append, List.length_cons]
    omega
theorem mem_opt {c : Bool} {t : Int} {v : List Int} {q : Rec} (h : q ∈ opt c t v) : q = (t, v) := by
  cases c <;> simp [opt] at h; exact h
theorem tokB_byte {t : Tok} (h : TokOk t) (hk : okK t) : Bs (tokB t) := by
  intro n hn
  obtain ⟨r, hr, h2⟩ := List.mem_flatMap.1 hn
  have hv := tokR_okV h hk r hr
  unfold encR at h2
  rcases List.mem_append.1 h2 with h2 | h2
  · exact enc1_byte hv.1.1 n h2
  rcases List.mem_append.1 h2 with h2 | h2
  · exact enc1_byte (by omega) n h2
  · exact hv.2 n h2
theorem recs_mem {r : Rp} {q : Rec} (h : q ∈ recs r) : q = (1, enc1 r.1) ∨ q = (2, enc1 r.2.1) ∨ q = (3, enc1 r.2.2.1) ∨ q = (4, enc1 r.2.2.2.1) ∨ q = (5, enc1 r.2.2.2.2.1) ∨ q = (6, r.2.2.2.2.2.1.flatMap enc1) ∨
    q = (7, tokB r.2.2.2.2.2.2.2) ∨ q ∈ numd encE 0 r.2.2.2.2.2.2.1 := by
  unfold recs at h
  simp only [List.mem_append, List.mem_singleton] at h
  rcases h with ((((((h | h) | h) | h) | h) | h) | h) | h
  · exact .inl h
  · exact .inr (.inl (mem_opt h))
  · exact .inr (.inr (.inl (mem_opt h)))
  · exact .inr (.inr (.inr (.inl (mem_opt h))))
  · exact .inr (.inr (.inr (.inr (.inl (mem_opt h)))))
  · exact .inr (.inr (.inr (.inr (.inr (.inl (mem_opt h))))))
  · exact .inr (.inr (.inr (.inr (.inr (.inr (.inl (mem_opt h)))))))
  · exact .inr (.inr (.inr (.inr (.inr (.inr (.inr h))))))
theorem recs_okV {r : Rp} (h : RpOk r) (k : okP r) : ∀ q ∈ recs r, OkV q := by
  intro q hq
  have small : ∀ (t : Int) (v : List Int), 0 ≤ t → t < 100 → Bs v → OkV (t, v) := fun t v h0 h1 hv => ⟨⟨h0, by simp only; omega⟩, hv⟩
  rcases recs_mem hq with rfl | rfl | rfl | rfl | rfl | rfl | rfl | hq
  · exact small _ _ (by decide) (by decide) (enc1_byte h.id.1)
  · exact small _ _ (by decide) (by decide) (enc1_byte k.e.1)
  · exact small _ _ (by decide) (by decide) (enc1_byte h.a.1)
  · exact small _ _ (by decide) (by decide) (enc1_byte h.n.1)
  · exact small _ _ (by decide) (by decide) (enc1_byte k.st.1)
  · exact small _ _ (by decide) (by decide) (encs_byte fun n hn => (h.ids n hn).1)
  · exact small _ _ (by decide) (by decide) (tokB_byte h.tok k.tok)
  · obtain ⟨⟨x, hx, h1⟩, h2, h3⟩ := numd_mem encE _ _ _ hq
    have := k.evl
    have hx1 := h.evs x hx
    have hx2 := k.evs x hx
    refine ⟨⟨by omega, by omega⟩, ?_⟩
    rw [h1]
    refine encs_byte fun n hn => ?_
    simp only [List.mem_cons, List.not_mem_nil, or_false] at hn
    rcases hn with rfl | rfl | rfl | rfl
    · exact hx1.1.1
    · exact hx2.1
    · exact hx1.2.2.1.1
    · exact hx1.2.2.2.1
theorem opt_pw {c : Bool} {t : Int} {v : List Int} : Sorted (opt c t v) := by cases c <;> simp [opt, Sorted]
theorem recs_sorted (r : Rp) : Sorted (recs r) := by
  obtain ⟨h1, h2⟩ := numd_sorted encE r.2.2.2.2.2.2.1 0
  unfold recs Sorted
  simp only [List.pairwise_append, List.mem_append, List.mem_singleton]
  refine ⟨⟨⟨⟨⟨⟨⟨by simp, opt_pw, ?_⟩, opt_pw, ?_⟩, opt_pw, ?_⟩, opt_pw, ?_⟩, opt_pw, ?_⟩, opt_pw, ?_⟩, h1, ?_⟩
  · rintro a rfl b hb; rw [mem_opt hb]; simp only; omega
  · rintro a (rfl | ha) b hb <;> rw [mem_opt hb]
    · simp only; omega
    · rw [mem_opt ha]; simp only; omega
  · rintro a ((rfl | ha) | ha) b hb <;> rw [mem_opt hb]
    · simp only; omega
    · rw [mem_opt ha]; simp only; omega
    · rw [mem_opt ha]; simp only; omega
  · rintro a (((rfl | ha) | ha) | ha) b hb <;> rw [mem_opt hb]
    · simp only; omega
    all_goals rw [mem_opt ha]; simp only; omega
  · rintro a ((((rfl | ha) | ha) | ha) | ha) b hb <;> rw [mem_opt hb]
    · simp only; omega
    all_goals rw [mem_opt ha]; simp only; omega
  · rintro a (((((rfl | ha) | ha) | ha) | ha) | ha) b hb <;> rw [mem_opt hb]
    · simp only; omega
    all_goals rw [mem_opt ha]; simp only; omega
  · rintro a ((((((rfl | ha) | ha) | ha) | ha) | ha) | ha) b hb <;> have hb2 := h2 b hb
    · simp only; omega
    all_goals rw [mem_opt ha]; simp only; omega
theorem opt_encs (c : Bool) {t : Int} {v : List Int} (ht : t < 253) (hv : v.length < 253) : ((opt c t v).flatMap encR).length ≤ 2 + v.length := by
  cases c
  · simp [opt]
  · simp only [opt, cond_true, List.flatMap_cons, List.flatMap_nil, List.append_nil]
    rw [encR_small (r := (t, v)) ht hv]; exact Nat.le_refl _
theorem evs_len : ∀ (l : List Ev) (i : Nat), i + l.length ≤ 16 → ((numd encE i l).flatMap encR).length ≤ 38 * l.length
  | [], i, _ => by simp [numd]
  | c :: r, i, hi => by
    rw [List.length_cons] at hi
    have h1 := evs_len r (i + 1) (by omega)
    have h2 := encE_len c
    have h3 := encR_small (r := (((16 + i : Nat) : Int), encE c)) (by simp only; omega) (by simp only; omega)
    rw [numd, List.flatMap_cons, List.length_append, h3, List.length_cons]
    simp only
    omega
theorem enc1_mid {n : Int} (h0 : 0 ≤ n) (h1 : n < 65536) : (enc1 n).length ≤ 3 := by
  unfold enc1 fst wid
  split
  · simp [dig]
  · simp [h1, dig_len]
theorem recs_len {r : Rp} (k : okP r) : ((recs r).flatMap encR).length ≤ 1299 := by
  have i1 := enc1_len r.1
  have i2 := enc1_len r.2.1
  have i3 := enc1_len r.2.2.1
  have i4 := enc1_len r.2.2.2.1
  have i5 := enc1_len r.2.2.2.2.1
  have i6 := encs1_len r.2.2.2.2.2.1
  have i7 : (tokB r.2.2.2.2.2.2.2).length ≤ 486 := tok_len k.tok
  have k1 := k.ids
  have k2 := k.evl
  have j1 := encR_small (r := ((1 : Int), enc1 r.1)) (by simp only; omega) (by simp only; omega)
  have j2 := opt_encs (!decide (r.2.1 = 0)) (t := 2) (v := enc1 r.2.1) (by decide) (by omega)
  have j3 := opt_encs (!decide (r.2.2.1 = 0)) (t := 3) (v := enc1 r.2.2.1) (by decide) (by omega)
  have j4 := opt_encs (!decide (r.2.2.2.1 = 0)) (t := 4) (v := enc1 r.2.2.2.1) (by decide) (by omega)
  have j5 := opt_encs (!decide (r.2.2.2.2.1 = 0)) (t := 5) (v := enc1 r.2.2.2.2.1) (by decide) (by omega)
  have j6 := opt_encs (decide (0 < (r.2.2.2.2.2.1.length : Int))) (t := 6) (v := r.2.2.2.2.2.1.flatMap enc1) (by decide) (by omega)
  have j7 : ((opt (!decide (r.2.2.2.2.2.2.2 = (0, ([], 0)))) 7 (tokB r.2.2.2.2.2.2.2)).flatMap encR).length ≤ 490 := by
    cases (!decide (r.2.2.2.2.2.2.2 = (0, ([], 0)))) with
    | false => simp [opt]
    | true =>
      have e := enc1_mid (n := ((tokB r.2.2.2.2.2.2.2).length : Int)) (by omega) (by omega)
      have e2 : (enc1 7).length = 1 := by decide
      simp only [opt, cond_true, List.flatMap_cons, List.flatMap_nil, List.append_nil, encR, List.length_append, e2]
      omega
  have j8 := evs_len r.2.2.2.2.2.2.1 0 (by omega)
  unfold recs
  simp only [List.flatMap_append, List.length_append, List.flatMap_cons, List.flatMap_nil, List.append_nil, j1]
  omega
theorem recs_okT {r : Rp} (k : okP r) : okT (recs r) := by
  have k2 := k.evl
  refine ⟨?_, fun q hq => ?_, recs_sorted r⟩
  · unfold recs
    simp only [List.length_append, numd_len, List.length_singleton]
    have := opt_len (!decide (r.2.1 = 0)) 2 (enc1 r.2.1)
    have := opt_len (!decide (r.2.2.1 = 0)) 3 (enc1 r.2.2.1)
    have := opt_len (!decide (r.2.2.2.1 = 0)) 4 (enc1 r.2.2.2.1)
    have := opt_len (!decide (r.2.2.2.2.1 = 0)) 5 (enc1 r.2.2.2.2.1)
    have := opt_len (decide (0 < (r.2.2.2.2.2.1.length : Int))) 6 (r.2.2.2.2.2.1.flatMap enc1)
    have := opt_len (!decide (r.2.2.2.2.2.2.2 = (0, ([], 0)))) 7 (tokB r.2.2.2.2.2.2.2)
    omega
  · have h9 := fun n => enc1_len n
    rcases recs_mem hq with rfl | rfl | rfl | rfl | rfl | rfl | rfl | hq
    · have := h9 r.1; simp only; omega
    · have := h9 r.2.1; simp only; omega
    · have := h9 r.2.2.1; simp only; omega
    · have := h9 r.2.2.2.1; simp only; omega
    · have := h9 r.2.2.2.2.1; simp only; omega
    · have := encs1_len r.2.2.2.2.2.1; have := k.ids; simp only; omega
    · have : (tokB r.2.2.2.2.2.2.2).length ≤ 486 := tok_len k.tok
      simp only; omega
    · obtain ⟨⟨x, hx, h1⟩, _⟩ := numd_mem encE _ _ _ hq
      have := encE_len x
      rw [h1]; omega
theorem putT_recs {r : Rp} (k : okP r) : putT (recs r) = ((recs r).flatMap encR, 0) := by
  have := recs_len k
  unfold putT
  rw [if_pos (recs_okT k), if_neg (by omega)]
theorem jk_true {R : Type} {u : Option (List Int)} (x : List Rec) (t : Int) (v : List Int) (hlen : x.length ≤ 1000) (hu : u = some v) (J : List Rec × (Unit × Unit) → Option R) :
    joinK J (fun J => u.bind fun q => bif decide ((x.length + 1) * 32 ≤ LIM) then J ((x ++ ([(t, q)])), ((), ())) else none) = J (x ++ [(t, v)], ((), ())) := by
  rw [joinK_eq, hu]
  have : (x.length + 1) * 32 ≤ LIM := by unfold LIM; omega
  simp [this]
theorem jk_opt {R : Type} {u : Option (List Int)} (c : Bool) (x : List Rec) (t : Int) (v : List Int) (hlen : x.length ≤ 1000) (hu : u = some v) (J : List Rec × (Unit × Unit) → Option R) :
    joinK J (fun J => bif c then (u.bind fun q => bif decide ((x.length + 1) * 32 ≤ LIM) then J ((x ++ ([(t, q)])), ((), ())) else none) else J (x, ((), ()))) = J (x ++ opt c t v, ((), ())) := by
  rw [joinK_eq, hu]
  have : (x.length + 1) * 32 ≤ LIM := by unfold LIM; omega
  cases c <;> simp [opt, this]
theorem jk_tok {u : Option (List Int × Int)} (c : Bool) (x : List Rec) (v : List Int) (hlen : x.length ≤ 1000) (hu : u = some (v, 0)) (J : List Int × Int × List Rec × (Unit × Unit) → Option (List Int × Int)) :
    joinK J (fun J => bif c then (u.bind fun q => bif (!decide (q.2 = 0)) then (some (([] : List Int), q.2)) else (bif decide ((x.length + 1) * 32 ≤ LIM) then J ([], 0, (x ++ ([(7, q.1)])), ((), ())) else none)) else J ([], 0, x, ((), ()))) = J ([], 0, x ++ opt c 7 v, ((), ())) := by
  rw [joinK_eq, hu]
  have : (x.length + 1) * 32 ≤ LIM := by unfold LIM; omega
  cases c <;> simp [opt, this]
def rpB (r : Rp) : List Int := (recs r).flatMap encR
open Classical in
theorem F33_eq {r : Rp} (h : RpOk r) : F33 r = some (if okP r then (rpB r, 0) else ([], 1)) := by
  obtain ⟨i, e, a, n, st, ids, evs, tok⟩ := r
  unfold F33
  simp only [both_self, Prod.eta]
  rw [F34_eq h, Option.bind_some]
  by_cases k : okP (i, e, a, n, st, ids, evs, tok)
  · have he := k.e
    have hst := k.st
    have hil := k.ids
    have hel := k.evl
    have hi0 := h.id.1
    have ha0 := h.a.1
    have hn0 := h.n.1
    have hids := h.ids
    have hevs := h.evs
    have hkev := k.evs
    have htk := k.tok
    have hT := h.tok
    have hTl := h.tkl
    simp only at he hst hil hel hi0 ha0 hn0 hids hevs hkev htk hT hTl
    have hwe : IntKind.wrap .u64 e = e := small_u64 (by omega) (by omega)
    have hws : IntKind.wrap .u64 st = st := small_u64 (by omega) (by omega)
    simp only [k, if_true, decide_true, Bool.not_true, cond_false, hwe, hws]
    rw [jk_true [] 1 _ (by simp) (F26_one hi0)]
    dsimp only
    have l1 : ([] ++ [((1 : Int), enc1 i)] : List Rec).length ≤ 1 := by simp
    generalize hx1 : ([] ++ [((1 : Int), enc1 i)] : List Rec) = x1 at l1 ⊢
    rw [jk_opt _ x1 2 _ (by omega) (F26_one he.1)]
    dsimp only
    have l2 : (x1 ++ opt (!decide (e = 0)) 2 (enc1 e)).length ≤ 2 := by have := opt_len (!decide (e = 0)) 2 (enc1 e); rw [List.length_append]; omega
    generalize hx2 : x1 ++ opt (!decide (e = 0)) 2 (enc1 e) = x2 at l2 ⊢
    rw [jk_opt _ x2 3 _ (by omega) (F26_one ha0)]
    dsimp only
    have l3 : (x2 ++ opt (!decide (a = 0)) 3 (enc1 a)).length ≤ 3 := by have := opt_len (!decide (a = 0)) 3 (enc1 a); rw [List.length_append]; omega
    generalize hx3 : x2 ++ opt (!decide (a = 0)) 3 (enc1 a) = x3 at l3 ⊢
    rw [jk_opt _ x3 4 _ (by omega) (F26_one hn0)]
    dsimp only
    have l4 : (x3 ++ opt (!decide (n = 0)) 4 (enc1 n)).length ≤ 4 := by have := opt_len (!decide (n = 0)) 4 (enc1 n); rw [List.length_append]; omega
    generalize hx4 : x3 ++ opt (!decide (n = 0)) 4 (enc1 n) = x4 at l4 ⊢
    rw [jk_opt _ x4 5 _ (by omega) (F26_one hst.1)]
    dsimp only
    have l5 : (x4 ++ opt (!decide (st = 0)) 5 (enc1 st)).length ≤ 5 := by have := opt_len (!decide (st = 0)) 5 (enc1 st); rw [List.length_append]; omega
    generalize hx5 : x4 ++ opt (!decide (st = 0)) 5 (enc1 st) = x5 at l5 ⊢
    rw [jk_opt _ x5 6 _ (by omega) (F26_eq (l := ids) (fun m hm => (hids m hm).1) (by omega))]
    dsimp only
    have l6 : (x5 ++ opt (decide (0 < (ids.length : Int))) 6 (ids.flatMap enc1)).length ≤ 6 := by have := opt_len (decide (0 < (ids.length : Int))) 6 (ids.flatMap enc1); rw [List.length_append]; omega
    generalize hx6 : x5 ++ opt (decide (0 < (ids.length : Int))) 6 (ids.flatMap enc1) = x6 at l6 ⊢
    have hF55 : F55 tok = some (tokB tok, 0) := by rw [F55_eq hT hTl, if_pos htk]
    rw [F54_eq (show tok.2.1.length ≤ 4611686018427387904 from by have := htk.1; omega), Option.bind_some, jk_tok _ x6 _ (by omega) hF55]
    dsimp only
    have l7 : (x6 ++ opt (!decide (tok = (0, ([], 0)))) 7 (tokB tok)).length ≤ 7 := by have := opt_len (!decide (tok = (0, ([], 0)))) 7 (tokB tok); rw [List.length_append]; omega
    generalize hx7 : x6 ++ opt (!decide (tok = (0, ([], 0)))) 7 (tokB tok) = x7 at l7 ⊢
    have hrec : recs (i, e, a, n, st, ids, evs, tok) = x7 ++ numd encE 0 evs := by
      subst hx7 hx6 hx5 hx4 hx3 hx2 hx1
      rfl
    refine lfp_rule (fun (x : Int × List Rec × (Unit × Unit)) => ∃ j : Nat, x.1 = (j : Int) ∧ j ≤ evs.length ∧ x.2.1 = x7 ++ numd encE 0 (evs.take j)) (fun x => evs.length - x.1.toNat) (fun _ => (rpB (i, e, a, n, st, ids, evs, tok), 0)) ?_ _ ⟨0, rfl, by omega, by simp [numd]⟩
    rintro ⟨j', y, u⟩ ⟨j, hj', hj, hy⟩ rec hrc
    simp only at hj' hy
    subst hj'
    simp only
    by_cases hlt : j < evs.length
    · have k1 : ((j : Int) < (evs.length : Int)) := by omega
      have hyl : y.length ≤ 7 + j := by rw [hy, List.length_append, numd_len, List.length_take]; omega
      have hx := hevs _ (List.getElem_mem hlt)
      have hkx := hkev _ (List.getElem_mem hlt)
      have hw1 : IntKind.wrap .u64 (evs[j].2.1) = evs[j].2.1 := small_u64 hkx.1 (by omega)
      simp only [k1, decide_true, cond_true, inb_true (Int.natCast_nonneg j) k1, rd_nat (t := .pair (.int .u64) (.pair (.int .i64) (.pair (.int .u64) (.int .u64)))) hlt, hw1]
      rw [small_u64 (n := (j : Int)) (by omega) (by omega), small_u64 (n := 16 + (j : Int)) (by omega) (by omega), RB.wrap_i64 (n := (j : Int) + 1) (by omega) (by omega)]
      have hF : F26 [evs[j].1, evs[j].2.1, evs[j].2.2.1, evs[j].2.2.2] = some (encE evs[j]) := F26_eq (fun m hm => by
        simp only [List.mem_cons, List.not_mem_nil, or_false] at hm
        rcases hm with rfl | rfl | rfl | rfl
        · exact hx.1.1
        · exact hkx.1
        · exact hx.2.2.1.1
        · exact hx.2.2.2.1) (by simp)
      rw [jk_true y (16 + (j : Int)) _ (by omega) hF]
      refine hrc _ ⟨j + 1, by simp, by omega, ?_⟩ (by simp only; omega)
      simp only
      rw [hy, List.take_succ_eq_append_getElem hlt, numd_snoc, List.append_assoc, List.length_take, Nat.min_eq_left (by omega)]
      simp
    · have k1 : ¬ ((j : Int) < (evs.length : Int)) := by omega
      have hje : j = evs.length := by omega
      simp only [k1, decide_false, cond_false]
      have hyt : y = recs (i, e, a, n, st, ids, evs, tok) := by rw [hy, hje, List.take_length, hrec]
      rw [hyt, F20_eq (recs_okV h k), putT_recs k]
      rfl
  · simp [k]
end Go.Proofs.Ytacebemdonoliaa.R4
