/- Part of a proof: what the program's functions come to. -/
import Derived.Test.YtacebemdonoliaaUPA
set_option linter.unusedVariables false
set_option linter.unusedSimpArgs false
namespace Go.Proofs.Ytacebemdonoliaa.R4
open Go Go.Fw Go.Proofs RB
set_option maxRecDepth 20000
theorem pos_len (r : List Int) : decide ((0 : Int) < (r.length : Int)) = decide (r ≠ []) := by
  cases r with
  | nil => rfl
  | cons a r => rw [decide_eq_true (by simp only [List.length_cons]; omega), decide_eq_true (by simp)]
theorem small5_i64 {n : Int} (h0 : 1 ≤ n) (h1 : n ≤ 5) : IntKind.wrap .i64 n = n := wrap_i64 (by omega) (by omega)
theorem small5_u64 {n : Int} (h0 : 1 ≤ n) (h1 : n ≤ 5) : IntKind.wrap .u64 n = n := wrap_u64 (by omega) (by omega)
/-- What reading one comes to. -/
theorem get1_casesQ {b : List Int} (h : ∀ n ∈ b, Byte n) : ((get1 b).2.2 = 0 ∧ U64 (get1 b).1 ∧ inb (get1 b).2.1 (b.length + 1) = true ∧ enc1 (get1 b).1 ++ b.drop (get1 b).2.1.toNat = b ∧ (b.drop (get1 b).2.1.toNat).length < b.length) ∨ ((get1 b).2.2 ≠ 0 ∧ decide ((get1 b).2.2 = 0) = false) := by
  rcases get1_ok h (y := (get1 b).1) (m := (get1 b).2.1) (e := (get1 b).2.2) rfl with ⟨h1, h2, h3, h4, h5, h6⟩ | ⟨h1, _⟩
  · left
    refine ⟨h1, ⟨h2, h3⟩, inb_true (by omega) (by omega), by rw [h6]; exact List.take_append_drop _ _, ?_⟩
    rw [List.length_drop]; omega
  · right; exact ⟨h1, decide_eq_false h1⟩
theorem drop_byte {b : List Int} (h : ∀ n ∈ b, Byte n) (k : Nat) : ∀ n ∈ b.drop k, Byte n := fun n hn => h n (List.mem_of_mem_drop hn)
theorem u64_0 : U64 0 := ⟨by omega, by omega⟩
noncomputable def numT (m : List Rec) (t : Int) : Int × Int :=
  if (findT m t).2 ≠ 0 then (0, (findT m t).2) else
  if (get1 (findT m t).1).2.2 ≠ 0 then (0, (get1 (findT m t).1).2.2) else
  if (get1 (findT m t).1).2.1 < ((findT m t).1.length : Int) then (0, 2) else ((get1 (findT m t).1).1, 0)
theorem look_mem : ∀ {l : List Rec} {t : Int} {v : List Int}, look l t = some v → ∃ r ∈ l, r.2 = v
  | [], t, v, h => by simp [look] at h
  | a :: r, t, v, h => by
    unfold look at h
    split at h
    · obtain ⟨x, hx, h2⟩ := look_mem h
      exact ⟨x, List.mem_cons_of_mem _ hx, h2⟩
    · split at h
      · exact ⟨a, by simp, by simpa using h⟩
      · simp at h
theorem findT_bs {m : List Rec} {t : Int} (h : ∀ r ∈ m, Bs r.2) (hl : okT m) : Bs (findT m t).1 ∧ (findT m t).1.length ≤ 4096 := by
  unfold findT
  rw [if_pos hl]
  cases q : look m t with
  | none => exact ⟨by intro n hn; simp at hn, by simp⟩
  | some v =>
    obtain ⟨r, hr, rfl⟩ := look_mem q
    exact ⟨h r hr, hl.2.1 r hr⟩
theorem Fnum_eq {m : List Rec} {t : Int} (h : ∀ r ∈ m, Bs r.2) (hl : okT m) : F28 (m, t) = some (numT m t) := by
  obtain ⟨h1, h2⟩ := findT_bs (t := t) h hl
  unfold F28 numT
  simp only [F17_eq, Option.bind_some]
  by_cases c1 : (findT m t).2 = 0
  · simp only [c1, decide_true, Bool.not_true, cond_false, ne_eq, not_true_eq_false, if_false, F52_eq h1 (by omega), Option.bind_some]
    by_cases c2 : (get1 (findT m t).1).2.2 = 0
    · by_cases c3 : (get1 (findT m t).1).2.1 < ((findT m t).1.length : Int) <;> simp [c2, c3]
    · simp [c2]
  · simp [c1]
theorem numT_ok {m : List Rec} {t : Int} (h : ∀ r ∈ m, Bs r.2) (hl : okT m) (h0 : (numT m t).2 = 0) : ∃ v, look m t = some v ∧ enc1 (numT m t).1 = v ∧ U64 (numT m t).1 := by
  obtain ⟨h1, h2⟩ := findT_bs (t := t) h hl
  unfold numT at h0 ⊢
  by_cases c1 : (findT m t).2 = 0
  · rw [if_neg (by simp [c1])] at h0 ⊢
    have hv : ∃ v, look m t = some v ∧ (findT m t).1 = v := by
      unfold findT at c1 ⊢
      rw [if_pos hl] at c1 ⊢
      cases q : look m t with
      | none => rw [q] at c1; simp at c1
      | some v => exact ⟨v, rfl, rfl⟩
    obtain ⟨v, hv, hf⟩ := hv
    rw [hf] at h1 h0 ⊢
    rcases get1_cases h1 with ⟨e0, hy, hin, hs, hlt⟩ | ⟨e0, e1⟩
    · rw [if_neg (by simp [e0])] at h0 ⊢
      by_cases c3 : (get1 v).2.1 < (v.length : Int)
      · rw [if_pos c3] at h0; simp at h0
      · rw [if_neg c3]
        refine ⟨v, hv, ?_, ⟨hy.1, by have := hy.2; simp only; omega⟩⟩
        have : v.drop (get1 v).2.1.toNat = [] := List.drop_eq_nil_of_le (by omega)
        rw [this, List.append_nil] at hs
        exact hs
    · rw [if_pos e0] at h0; exact absurd h0 e0
  · rw [if_pos c1] at h0; exact absurd h0 c1
theorem numT_enc {m : List Rec} {t n : Int} (hl : okT m) (hn : U64 n) (hk : look m t = some (enc1 n)) : numT m t = (n, 0) := by
  have hf : findT m t = (enc1 n, 0) := by unfold findT; rw [if_pos hl, hk]
  have hg := get1_enc hn.1 hn.2 []
  rw [List.append_nil] at hg
  have hw : ((enc1 n).length : Int) = (wid n : Int) + 1 := by
    have h3 := drop_enc n []
    rw [List.append_nil] at h3
    have h4 := congrArg List.length h3
    rw [List.length_drop, List.length_nil] at h4
    have h5 : (enc1 n).length ≤ wid n + 1 := by omega
    rcases get1_cases (enc1_byte hn.1) with ⟨e0, hy, hin, hs, hlt⟩ | ⟨e0, e1⟩
    · rw [hg] at hin
      simp only [inb, Bool.and_eq_true, decide_eq_true_eq] at hin
      omega
    · rw [hg] at e0; exact absurd rfl e0
  unfold numT
  rw [hf]
  simp only [hg, hw]
  simp
theorem F71_byte {c : Int} (h : Byte c) : F71 c = some (1 + wd c : Int) := by
  unfold F71 wd
  unfold Byte at h
  by_cases h1 : c < 253
  · simp [h1]
  · by_cases h2 : c = 253
    · subst h2; rfl
    · by_cases h3 : c = 254
      · subst h3; rfl
      · have : c = 255 := by omega
        subst this; rfl
theorem dig_snoc (n : Int) : ∀ k, dig n (k + 1) = dig (n / 256) k ++ [n % 256]
  | 0 => by simp [dig]
  | k + 1 => by
    rw [dig, dig_snoc n k]
    conv => rhs; rw [dig]
    have : n / 2 ^ (8 * (k + 1)) = n / 256 / 2 ^ (8 * k) := by
      rw [pow8, Int.mul_comm, ← Int.ediv_ediv_of_nonneg (by omega)]
    rw [this]; rfl
theorem F87_eq {n : Int} (h0 : 0 ≤ n) (h1 : n < 18446744073709551616) {k : Nat} (hk : k ≤ 8) : F87 (n, (k : Int)) = some (dig n k) := by
  unfold F87
  refine (lfp_rule (B := B87) (fun x => 0 ≤ x.1 ∧ x.1 < 18446744073709551616 ∧ 0 ≤ x.2 ∧ x.2 ≤ 8) (fun x => x.2.toNat) (fun x => dig x.1 x.2.toNat) ?_ (n, (k : Int)) ⟨h0, h1, by simp, by simp; omega⟩).trans (by simp)
  rintro ⟨m, j⟩ ⟨g0, g1, g2, g3⟩ rec hrec
  simp only at g0 g1 g2 g3
  unfold B87
  by_cases hj : j = 0
  · subst hj; rfl
  · simp only [hj, decide_false, cond_false]
    obtain ⟨q, hq⟩ : ∃ q : Nat, j = (q : Int) + 1 := ⟨(j - 1).toNat, by omega⟩
    subst hq
    have e1 : Int.tdiv m 256 = m / 256 := Int.tdiv_eq_ediv_of_nonneg g0
    have e2 : Int.tmod m 256 = m % 256 := Int.tmod_eq_emod_of_nonneg g0
    rw [e1, e2, wrap_u64 (n := m / 256) (by omega) (by omega), wrap_i64 (by omega) (by omega), wrap_u8]
    rw [hrec (m / 256, (q : Int) + 1 - 1) ⟨by simp only; omega, by simp only; omega, by simp only; omega, by simp only; omega⟩ (by simp only; omega)]
    have e3 : ((q : Int) + 1 - 1).toNat = q := by omega
    have e4 : ((q : Int) + 1).toNat = q + 1 := by omega
    have e5 : (dig (m / 256) q).length + 1 ≤ LIM := by rw [dig_len]; unfold LIM; omega
    simp only [Option.bind_some, e3, e4, Nat.mul_one, e5, decide_true, cond_true]
    rw [dig_snoc, Int.emod_emod_of_dvd _ (by decide)]
theorem F70_eq {n : Int} (h0 : 0 ≤ n) (h1 : n < 18446744073709551616) : F70 n = some (enc1 n) := by
  have k2 := F87_eq h0 h1 (k := 2) (by omega)
  have k4 := F87_eq h0 h1 (k := 4) (by omega)
  have k8 := F87_eq h0 h1 (k := 8) (by omega)
  rw [show ((2 : Nat) : Int) = 2 from rfl] at k2
  rw [show ((4 : Nat) : Int) = 4 from rfl] at k4
  rw [show ((8 : Nat) : Int) = 8 from rfl] at k8
  unfold F70 enc1 fst wid
  have l2 : ([253].length + (dig n 2).length) * 1 ≤ LIM := by rw [dig_len]; unfold LIM; decide
  have l4 : ([254].length + (dig n 4).length) * 1 ≤ LIM := by rw [dig_len]; unfold LIM; decide
  have l8 : ([255].length + (dig n 8).length) * 1 ≤ LIM := by rw [dig_len]; unfold LIM; decide
  by_cases a1 : n < 253
  · have : n % 256 = n := by omega
    simp [a1, wrap_u8, this, dig]
  · by_cases a2 : n < 65536
    · simp only [a1, a2, decide_true, decide_false, cond_true, cond_false, if_false, if_true, k2, Option.bind_some]
      rw [decide_eq_true (by rw [dig_len]; unfold LIM; decide)]; rfl
    · by_cases a3 : n < 4294967296
      · simp only [a1, a2, a3, decide_true, decide_false, cond_true, cond_false, if_false, if_true, k4, Option.bind_some]
        rw [decide_eq_true (by rw [dig_len]; unfold LIM; decide)]; rfl
      · simp only [a1, a2, a3, decide_true, decide_false, cond_true, cond_false, if_false, if_true, k8, Option.bind_some]
        rw [decide_eq_true (by rw [dig_len]; unfold LIM; decide)]; rfl
theorem loopB {Q : Type} {s : List Int} {a : Int} {r : Int → Option Q} {res : Q} (hs : ∀ n ∈ s, Byte n) (hl : s.length ≤ 8) (h0 : 0 ≤ a) (h1 : a < 256) (ha : a = 0 ∨ s = []) (hr : r (bv a s) = some res) :
    lfp (fun (rec3 : (Int × Int) → Option Q) (x3 : Int × Int) =>
      bif decide (x3.2 < (s.length : Int)) then (
      bif inb x3.2 s.length then
      rec3 ((IntKind.wrap .u64 ((IntKind.wrap .u64 (256 * x3.1)) + (IntKind.wrap .u64 (rd (.int .u8) s x3.2)))), (IntKind.wrap .i64 (x3.2 + 1)))
      else none)
      else r x3.1) (a, 0) = some res := by
  refine lfp_rule (fun x => ∃ i : Nat, x.2 = (i : Int) ∧ i ≤ s.length ∧ x.1 = bv a (s.take i)) (fun x => s.length - x.2.toNat) (fun _ => res) ?_ (a, (0 : Int)) ⟨0, rfl, by omega, rfl⟩
  rintro ⟨t, i'⟩ ⟨i, rfl, hi, rfl⟩ rec hrec
  simp only
  by_cases hlt : i < s.length
  · have k1 : ((i : Int) < (s.length : Int)) := by omega
    have ha0 : a = 0 := by rcases ha with h | h; exact h; subst h; simp at hlt
    subst ha0
    obtain ⟨hh, hrd⟩ := rd_get (t := .int .u8) (l := s) (i := i) (by omega) k1
    have hrd2 : rd (.int .u8) s i = s[i] := by rw [hrd]; simp
    have hby : Byte (rd (.int .u8) s i) := by rw [hrd2]; exact hs _ (List.getElem_mem _)
    have hbi : ∀ n ∈ s.take i, Byte n := fun n hn => hs n (List.mem_of_mem_take hn)
    have b0 := bv_nonneg (s.take i) 0 (by omega) hbi
    have b1 := bv_lt (s.take i) 0 hbi
    have hli : (s.take i).length = i := by rw [List.length_take]; omega
    have b2 : bv 0 (s.take i) < 72057594037927936 := by
      rw [hli] at b1
      have : (2 : Int) ^ (8 * i) ≤ 2 ^ 56 := by
        have := Nat.pow_le_pow_right (n := 2) (by omega) (show 8 * i ≤ 56 by omega)
        exact_mod_cast this
      simp at b1; omega
    have hb2 := hby.2
    have hb1 := hby.1
    have hwr : IntKind.wrap .u64 (rd (.int .u8) s i) = rd (.int .u8) s i := wrap_u64 hby.1 (by omega)
    simp only [k1, decide_true, cond_true, inb_true (Int.natCast_nonneg i) k1]
    rw [wrap_u64 (n := 256 * bv 0 _) (by omega) (by omega), hwr, wrap_u64 (by omega) (by omega), wrap_i64 (by omega) (by omega)]
    refine hrec _ ⟨i + 1, by simp, by omega, ?_⟩ (by simp only; omega)
    simp only
    rw [List.take_add_one, List.getElem?_eq_getElem hlt, Option.toList_some, bv_snoc, hrd2]
    omega
  · have k1 : ¬ ((i : Int) < (s.length : Int)) := by omega
    simp only [k1, decide_false, cond_false]
    rw [List.take_of_length_le (by omega), hr]
theorem F49_eq {l : List Int} (h : ∀ n ∈ l, Byte n) (hl : l.length ≤ 4611686018427387904) : F49 l = some (get1 l) := by
  unfold F49
  cases l with
  | nil => rfl
  | cons c r =>
    have hc := h c (by simp)
    have hr : ∀ n ∈ r, Byte n := fun n hn => h n (by simp [hn])
    have hw := wd_le c
    have e0 : (decide (((c :: r).length : Int) = 0) == false) = true := by simp; omega
    have e1 : inb 0 (c :: r).length = true := inb_true (by omega) (by simp)
    have e5 : rd (.int .u8) (c :: r) 0 = c := rfl
    rw [e5]
    simp only [e0, e1, cond_true, F71_byte hc, Option.bind_some, get1, both_self]
    by_cases h1 : r.length < wd c
    · rw [if_pos h1]
      have : ((c :: r).length : Int) < 1 + (wd c : Int) := by simp; omega
      simp only [this, decide_true, cond_true]
    · rw [if_neg h1]
      have h1' : ¬ ((c :: r).length : Int) < 1 + (wd c : Int) := by simp; omega
      simp only [h1', decide_false, cond_false]
      have g1 : inb (1 + (wd c : Int)) ((c :: r).length + 1) = true := inb_true (by omega) (by simp only [List.length_cons]; omega)
      have g2 : decide ((1 : Int) ≤ 1 + (wd c : Int)) = true := decide_eq_true (by omega)
      have g5 : decide ((0 : Nat) ≤ 1) = true := rfl
      have g3 : (1 + (wd c : Int)).toNat = wd c + 1 := by omega
      have e4 : (c :: r.take (wd c)).drop ((1 : Int).toNat) = r.take (wd c) := rfl
      have e6 : (c :: r).take (wd c + 1) = c :: r.take (wd c) := rfl
      have hc1 := hc.1
      have hc2 := hc.2
      simp only [g1, g2, g5, Bool.and_self, cond_true, g3, e6, e4]
      have hlen : (r.take (wd c)).length = wd c := by rw [List.length_take]; omega
      have hb : ∀ n ∈ r.take (wd c), Byte n := fun n hn => hr n (List.mem_of_mem_take hn)
      by_cases h2 : wd c = 0
      · rw [if_pos h2]
        have e7 : (1 + (wd c : Int) = 1) := by omega
        have e8 : r.take (wd c) = [] := by rw [h2]; rfl
        simp only [e7, decide_true, cond_true]
        rw [wrap_u64 hc.1 (by omega)]
        refine loopB (s := r.take (wd c)) (r := fun v => (F70 v).bind fun r4 => bif (!decide (r4 = c :: r.take (wd c))) then some (0, 0, 2) else some (v, 1, 0)) hb (by omega) hc1 hc2 (.inr e8) ?_
        have hfc : enc1 c = [c] := by
          have : c < 253 := by
            unfold wd at h2
            by_cases q : c < 253
            · exact q
            · rw [if_neg q] at h2; (split at h2 <;> (try split at h2)) <;> omega
          simp [enc1, fst, wid, this, dig]
        rw [e8]
        simp only [bv, F70_eq hc1 (by omega), Option.bind_some, hfc, decide_true, Bool.not_true, cond_false]
      · rw [if_neg h2]
        have e7 : ¬ (1 + (wd c : Int) = 1) := by omega
        simp only [e7, decide_false, cond_false]
        refine loopB (s := r.take (wd c)) (r := fun v => (F70 v).bind fun r4 => bif (!decide (r4 = c :: r.take (wd c))) then some (0, 0, 2) else some (v, 1 + (wd c : Int), 0)) hb (by omega) (by omega) (by omega) (.inl rfl) ?_
        have hbv := bv_nonneg (r.take (wd c)) 0 (by omega) hb
        simp only [F70_eq hbv (bv_lt64 hb (by omega)), Option.bind_some]
        have hiff := enc_iff (c := c) hb hlen
        by_cases hf : fst (bv 0 (r.take (wd c))) = c
        · rw [if_pos hf]
          simp only [hiff.2 hf, decide_true, Bool.not_true, cond_false, Option.some.injEq, Prod.mk.injEq, true_and, and_true]; omega
        · rw [if_neg hf]
          have : ¬ enc1 (bv 0 (r.take (wd c))) = c :: r.take (wd c) := fun q => hf (hiff.1 q)
          simp only [this, decide_false, Bool.not_false, cond_true]
theorem F46_eq {l : List Int} (h : ∀ n ∈ l, U64 n) (hl : l.length ≤ 100000) : F46 l = some (l.flatMap enc1) := by
  unfold F46
  have elen : ∀ n, (enc1 n).length ≤ 9 := fun n => by have := wid_le n; simp [enc1, dig_len]; omega
  have flen : ∀ m : List Int, (m.flatMap enc1).length ≤ 9 * m.length := by
    intro m
    induction m with
    | nil => simp
    | cons a m ih => rw [List.flatMap_cons, List.length_append, List.length_cons]; have := elen a; omega
  refine lfp_rule (fun x => ∃ i : Nat, x.2 = (i : Int) ∧ i ≤ l.length ∧ x.1 = (l.take i).flatMap enc1) (fun x => l.length - x.2.toNat) (fun _ => l.flatMap enc1) ?_ (([] : List Int), 0) ⟨0, rfl, by omega, rfl⟩
  rintro ⟨y, i'⟩ ⟨i, rfl, hi, rfl⟩ rec hrec
  simp only
  by_cases hlt : i < l.length
  · have h1 : ((i : Int) < (l.length : Int)) := by omega
    obtain ⟨hh, hrd⟩ := rd_get (t := .int .u64) (l := l) (i := i) (by omega) h1
    have hrd2 : rd (.int .u64) l i = l[i] := by rw [hrd]; simp
    have hn : U64 (rd (.int .u64) l i) := by rw [hrd2]; exact h _ (List.getElem_mem _)
    have hlen : (((l.take i).flatMap enc1).length + (enc1 (rd (.int .u64) l i)).length) * 1 ≤ LIM := by
      have := flen (l.take i)
      have := elen (rd (.int .u64) l i)
      rw [List.length_take] at *
      unfold LIM; omega
    simp only [h1, decide_true, cond_true, inb_true (Int.natCast_nonneg i) h1, F70_eq hn.1 hn.2, Option.bind_some, hlen]
    rw [wrap_i64 (n := (i : Int) + 1) (by omega) (by omega)]
    refine hrec _ ⟨i + 1, by simp, by omega, ?_⟩ (by simp only; omega)
    simp only
    rw [List.take_add_one, List.getElem?_eq_getElem hlt, Option.toList_some, List.flatMap_append, List.flatMap_singleton, hrd2]
  · have h1 : ¬ ((i : Int) < (l.length : Int)) := by omega
    simp only [h1, decide_false, cond_false]
    rw [List.take_of_length_le (by omega)]
open Classical in
theorem F25_eq (l : List Rec) : F25 l = some (if okT l then 0 else 1) := by
  unfold F25
  by_cases h64 : 64 < l.length
  · have : (64 : Int) < (l.length : Int) := by omega
    have hn : ¬ okT l := fun h => by have := h.1; omega
    simp [this, hn]
  · have : ¬ (64 : Int) < (l.length : Int) := by omega
    simp only [this, decide_false, cond_false, both_self]
    refine lfp_rule (fun x => ∃ i : Nat, x.2 = (i : Int) ∧ i ≤ l.length ∧ (∀ j (h : j < l.length), j < i → l[j].2.length ≤ 4096) ∧ (∀ j (h : j + 1 < l.length), j + 1 < i → l[j].1 < l[j + 1].1)) (fun x => l.length - x.2.toNat)
      (fun _ => if okT l then 0 else 1) ?_ (0, 0) ⟨0, rfl, by omega, by intro j _ hj; omega, by intro j _ hj; omega⟩
    rintro ⟨q, i'⟩ ⟨i, hi', hi, hV, hS⟩ rec hrec
    simp only at hi'
    subst hi'
    simp only
    by_cases hlt : i < l.length
    · have k1 : ((i : Int) < (l.length : Int)) := by omega
      simp only [k1, decide_true, cond_true, inb_true (Int.natCast_nonneg i) k1, rd_nat (t := tR) hlt]
      have next : l[i].2.length ≤ 4096 → (∀ h : 0 < i, l[i - 1].1 < l[i].1) → rec (q, IntKind.wrap .i64 ((i : Int) + 1)) = some (if okT l then 0 else 1) := by
        intro h1 h2
        rw [RB.wrap_i64 (n := (i : Int) + 1) (by omega) (by omega)]
        refine hrec _ ⟨i + 1, by simp, by omega, fun j hj hji => ?_, fun j hj hji => ?_⟩ (by simp only; omega)
        · by_cases hje : j = i
          · subst hje; exact h1
          · exact hV j hj (by omega)
        · by_cases hje : j + 1 = i
          · have := h2 (by omega)
            subst hje
            exact this
          · exact hS j hj (by omega)
      by_cases c1 : 4096 < l[i].2.length
      · have : (4096 : Int) < (l[i].2.length : Int) := by omega
        have hn : ¬ okT l := fun h => by have := h.2.1 _ (List.getElem_mem hlt); omega
        simp [this, hn]
      · have c1' : ¬ (4096 : Int) < (l[i].2.length : Int) := by omega
        simp only [c1', decide_false, beq_self_eq_true, cond_true]
        by_cases c2 : 0 < i
        · have c2' : (0 : Int) < (i : Int) := by omega
          have hw : IntKind.wrap .i64 ((i : Int) - 1) = ((i - 1 : Nat) : Int) := by rw [RB.wrap_i64 (by omega) (by omega)]; omega
          have hi1 : i - 1 < l.length := by omega
          have k2 : inb ((i - 1 : Nat) : Int) l.length = true := inb_true (by omega) (by omega)
          simp only [c2', decide_true, beq_self_eq_true, cond_true, hw, k2, rd_nat (t := tR) hi1]
          by_cases c3 : l[i - 1].1 < l[i].1
          · have : ¬ l[i].1 ≤ l[i - 1].1 := by omega
            simp only [this, decide_false, cond_false]
            exact next (by omega) (fun _ => c3)
          · have hn : ¬ okT l := fun h => by
              have := List.pairwise_iff_getElem.1 h.2.2 (i - 1) i hi1 hlt (by omega)
              exact c3 this
            have : l[i].1 ≤ l[i - 1].1 := by omega
            simp only [this, decide_true, cond_true, hn, if_false]
        · have c2' : ¬ (0 : Int) < (i : Int) := by omega
          simp only [c2', decide_false, show (false == true) = false from rfl, cond_false]
          exact next (by omega) (fun h => absurd h c2)
    · have k1 : ¬ ((i : Int) < (l.length : Int)) := by omega
      have hok : okT l := by
        refine ⟨by omega, fun r hr => ?_, sorted_of l fun j hj => hS j hj (by omega)⟩
        obtain ⟨j, hj, rfl⟩ := List.getElem_of_mem hr
        exact hV j hj (by omega)
      simp only [k1, decide_false, cond_false, hok, if_true]
theorem F46_one {n : Int} (h : U64 n) : F46 [n] = some (enc1 n) := by
  rw [F46_eq (by simpa using h) (by simp)]; simp
theorem F46_two {t n : Int} (h0 : U64 t) (h1 : U64 n) : F46 [t, n] = some (enc1 t ++ enc1 n) := by
  rw [F46_eq (by simp [h0, h1]) (by simp)]; simp
theorem F21_eq {l : List Rec} (hv : ∀ r ∈ l, OkV r) : F21 l = some (putT l) := by
  unfold F21 putT
  simp only [both_self, F25_eq, Option.bind_some]
  by_cases ho : okT l
  · have h64 := ho.1
    simp only [ho, if_true, decide_true, Bool.not_true, cond_false]
    refine lfp_rule (fun x => ∃ i : Nat, x.2 = (i : Int) ∧ i ≤ l.length ∧ x.1 = (l.take i).flatMap encR) (fun x => l.length - x.2.toNat)
      (fun _ => if 65535 < (l.flatMap encR).length then ([], 4) else (l.flatMap encR, 0)) ?_ (([] : List Int), 0) ⟨0, rfl, by omega, by simp⟩
    rintro ⟨acc, i'⟩ ⟨i, hi', hi, hacc⟩ rec hrec
    simp only at hi' hacc
    subst hi'
    simp only
    by_cases hlt : i < l.length
    · have k1 : ((i : Int) < (l.length : Int)) := by omega
      have hr := hv _ (List.getElem_mem hlt)
      have hV := ho.2.1 _ (List.getElem_mem hlt)
      have hal := encs_len (l.take i) (fun r hr => ho.2.1 r (List.mem_of_mem_take hr))
      rw [List.length_take] at hal
      have e1 := enc1_len l[i].1
      have e2 := enc1_len (l[i].2.length : Int)
      have k3 : (acc.length + (enc1 l[i].1 ++ enc1 (l[i].2.length : Int)).length) * 1 ≤ LIM := by
        rw [hacc, List.length_append]; unfold LIM; omega
      have k4 : ((acc ++ (enc1 l[i].1 ++ enc1 (l[i].2.length : Int))).length + l[i].2.length) * 1 ≤ LIM := by
        rw [hacc, List.length_append, List.length_append]; unfold LIM; omega
      have hw : IntKind.wrap .u64 (l[i].2.length : Int) = (l[i].2.length : Int) := RB.wrap_u64 (by omega) (by omega)
      have hu1 : U64 l[i].1 := ⟨hr.1.1, by have := hr.1.2; omega⟩
      have hu2 : U64 (l[i].2.length : Int) := ⟨by omega, by omega⟩
      simp only [k1, decide_true, cond_true, inb_true (Int.natCast_nonneg i) k1, rd_nat (t := tR) hlt, hw, F46_two hu1 hu2, Option.bind_some, k3, k4]
      rw [RB.wrap_i64 (n := (i : Int) + 1) (by omega) (by omega)]
      refine hrec _ ⟨i + 1, by simp, by omega, ?_⟩ (by simp only; omega)
      rw [List.take_succ_eq_append_getElem hlt, List.flatMap_append, hacc]
      simp [encR]
    · have k1 : ¬ ((i : Int) < (l.length : Int)) := by omega
      have : i = l.length := by omega
      subst this
      rw [List.take_length] at hacc
      subst hacc
      simp only [k1, decide_false, cond_false]
      by_cases h : 65535 < (l.flatMap encR).length
      · have h' : (65535 : Int) < ((l.flatMap encR).length : Int) := by omega
        simp only [h, h', decide_true, cond_true, if_true]
      · have h' : ¬ (65535 : Int) < ((l.flatMap encR).length : Int) := by omega
        simp only [h, h', decide_false, cond_false, if_false]
  · simp [ho]
theorem look_drop : ∀ {l : List Rec} {t : Int}, Sorted l → ∀ i, (∀ j (h : j < l.length), j < i → l[j].1 ≠ t) → look l t = look (l.drop i) t
  | l, t, hs, 0, _ => by simp
  | [], t, hs, i + 1, _ => by simp
  | a :: r, t, hs, i + 1, h => by
    have h0 : a.1 ≠ t := h 0 (by simp) (by omega)
    have hp := List.pairwise_cons.1 hs
    have ih := look_drop (l := r) (t := t) hp.2 i (fun j hj hji => by
      have := h (j + 1) (by simp; omega) (by omega)
      simpa using this)
    rw [List.drop_succ_cons, ← ih]
    conv => lhs; unfold look
    by_cases c : a.1 < t
    · rw [if_pos c]
    · rw [if_neg c, if_neg h0]
      cases q : look r t with
      | none => rfl
      | some v =>
        exfalso
        have : ∀ (m : List Rec) (v : List Int), look m t = some v → ∃ x ∈ m, x.1 = t := by
          intro m
          induction m with
          | nil => intro v hh; simp [look] at hh
          | cons y m ihm =>
            intro v hh
            unfold look at hh
            split at hh
            · obtain ⟨x, hx, he⟩ := ihm v hh
              exact ⟨x, List.mem_cons_of_mem _ hx, he⟩
            · split at hh
              · rename_i e; exact ⟨y, by simp, e⟩
              · simp at hh
        obtain ⟨x, hx, he⟩ := this r v q
        have := hp.1 x hx
        omega
theorem F27_eq (l : List Rec) (t : Int) : F27 (l, t) = some (findT l t) := by
  unfold F27
  simp only [F25_eq, Option.bind_some]
  by_cases ho : okT l
  · have h64 := ho.1
    have hf : ∀ m, look l t = m → findT l t = m.elim ([], 5) (fun v => (v, 0)) := by
      intro m hm
      unfold findT
      rw [if_pos ho, hm]
      cases m <;> rfl
    simp only [ho, if_true, decide_true, Bool.not_true, cond_false]
    refine lfp_rule (fun (x : List Int × Int × Int) => ∃ i : Nat, x.2.2 = (i : Int) ∧ i ≤ l.length ∧ (∀ j (h : j < l.length), j < i → l[j].1 ≠ t)) (fun x => l.length - x.2.2.toNat) (fun _ => findT l t) ?_ (([] : List Int), (0, 0)) ⟨0, rfl, by omega, by intro j _ hj; omega⟩
    rintro ⟨q, s, i'⟩ ⟨i, hi', hi, hne⟩ rec hrec
    simp only at hi'
    subst hi'
    simp only
    have hld := look_drop ho.2.2 i hne
    by_cases hlt : i < l.length
    · have k1 : ((i : Int) < (l.length : Int)) := by omega
      have hV := ho.2.1 _ (List.getElem_mem hlt)
      simp only [k1, decide_true, cond_true, inb_true (Int.natCast_nonneg i) k1, rd_nat (t := tR) hlt]
      by_cases c : l[i].1 = t
      · have k4 : (([] : List Int).length + l[i].2.length) * 1 ≤ LIM := by unfold LIM; simp; omega
        simp only [c, decide_true, cond_true, Bool.or_true, k4, List.nil_append]
        rw [List.drop_eq_getElem_cons hlt] at hld
        unfold look at hld
        rw [if_neg (by omega), if_pos c] at hld
        have : look l t = some l[i].2 := by rw [← hld]; cases l <;> rfl
        rw [hf _ this]; rfl
      · simp only [c, decide_false, cond_false]
        rw [RB.wrap_i64 (n := (i : Int) + 1) (by omega) (by omega)]
        refine hrec _ ⟨i + 1, by simp, by omega, fun j hj hji => ?_⟩ (by simp only; omega)
        by_cases e : j = i
        · subst e; exact c
        · exact hne j hj (by omega)
    · have k1 : ¬ ((i : Int) < (l.length : Int)) := by omega
      have : l.drop i = [] := List.drop_eq_nil_of_le (by omega)
      rw [this] at hld
      have hl0 : look l t = none := by rw [hld]; rfl
      simp only [k1, decide_false, cond_false]
      rw [hf _ hl0]; rfl
  · unfold findT
    simp [ho]
theorem get1_le {b : List Int} (h : Bs b) : (get1 b).2.2 = 0 → (get1 b).2.1 ≤ (b.length : Int) := by
  intro e
  rcases get1_cases h with ⟨_, _, hin, _, _⟩ | ⟨e0, _⟩
  · simp only [inb, Bool.and_eq_true, decide_eq_true_eq] at hin; omega
  · exact absurd e e0
theorem F29_eq {m : List Rec} {t : Int} (h : ∀ r ∈ m, Bs r.2) (hl : okT m) : F29 (m, t) = some (numT m t) := by
  obtain ⟨h1, h2⟩ := findT_bs (t := t) h hl
  unfold F29 numT
  simp only [F27_eq, Option.bind_some]
  by_cases c1 : (findT m t).2 = 0
  · simp only [c1, decide_true, Bool.not_true, cond_false, ne_eq, not_true_eq_false, if_false, F49_eq h1 (by omega), Option.bind_some]
    by_cases c2 : (get1 (findT m t).1).2.2 = 0
    · have hle := get1_le h1 c2
      by_cases c3 : (get1 (findT m t).1).2.1 < ((findT m t).1.length : Int)
      · have : ¬ (get1 (findT m t).1).2.1 = ((findT m t).1.length : Int) := by omega
        simp [c2, c3, this]
      · have : (get1 (findT m t).1).2.1 = ((findT m t).1.length : Int) := by omega
        simp [c2, this]
    · simp [c2]
  · simp [c1]
theorem F23_eq {b : List Int} (hb : Bs b) : F23 b = some (getT b) := by
  unfold F23 getT
  by_cases hl : 65535 < b.length
  · have hl' : (65535 : Int) < (b.length : Int) := by omega
    simp only [hl, hl', decide_true, cond_true, if_true]
  · have hl' : ¬ (65535 : Int) < (b.length : Int) := by omega
    simp only [hl, hl', decide_false, cond_false, if_false]
    refine lfp_rule (fun (x : List Int × List Rec × Int × List Rec) => Bs x.1 ∧ x.2.2.2.length ≤ 64 ∧ x.1.length ≤ 65535) (fun x => x.1.length) (fun x => goT x.2.2.2 x.1) ?_ (b, ([], (0, []))) ⟨hb, by simp, by simp only; omega⟩
    rintro ⟨b, p, q, acc⟩ ⟨hb, ha, hl⟩ rec hrec
    simp only at hb ha hl hrec ⊢
    by_cases hbn : b = []
    · subst hbn
      simp [goT]
    · have hpos : 0 < b.length := List.length_pos_iff.2 hbn
      have hpos' : (0 : Int) < (b.length : Int) := by omega
      simp only [hpos', decide_true, cond_true]
      rw [goT, if_neg hbn]
      by_cases h64 : acc.length = 64
      · have d64 : decide ((acc.length : Int) = 64) = true := decide_eq_true (by omega)
        rw [if_pos h64]
        simp only [d64, cond_true]
      · have d64 : decide ((acc.length : Int) = 64) = false := decide_eq_false (by omega)
        rw [if_neg h64]
        simp only [d64, cond_false, F49_eq hb (by omega), Option.bind_some]
        rcases get1_cases hb with ⟨g1, g2, g3, g4, g5⟩ | ⟨g1, g2, g3⟩
        · have gd : decide ((get1 b).2.2 = 0) = true := decide_eq_true g1
          rw [if_neg (show ¬ ((get1 b).2.2 ≠ 0) from fun h => h g1)]
          simp only [gd, Bool.not_true, cond_false, g3, cond_true]
          have hb1 := bs_drop hb (get1 b).2.1.toNat
          have hb1l : (b.drop (get1 b).2.1.toNat).length ≤ 65535 := by omega
          have hsm : (b.drop (get1 b).2.1.toNat).length < b.length := g5
          generalize b.drop (get1 b).2.1.toNat = b1 at hb1 hb1l hsm ⊢
          have tail : ∀ (e : lastT acc < (get1 b).1),
              ((F49 b1).bind fun r3 =>
                bif (!decide (r3.2.2 = 0)) then some (([] : List Rec), r3.2.2)
                else bif decide (4096 < r3.1) then some (([] : List Rec), 4)
                else bif inb r3.2.1 (b1.length + 1) then
                  bif decide (((b1.drop r3.2.1.toNat).length : Int) < (IntKind.wrap .i64 r3.1)) then some (([] : List Rec), 3)
                  else bif inb r3.1 ((b1.drop r3.2.1.toNat).length + 1) then
                    bif (!((b1.drop r3.2.1.toNat).take r3.1.toNat).isEmpty || true) then
                    bif decide ((([] : List Int).length + ((b1.drop r3.2.1.toNat).take r3.1.toNat).length) * 1 ≤ LIM) then
                    bif decide ((acc.length + 1) * 32 ≤ LIM) then
                    bif inb r3.1 ((b1.drop r3.2.1.toNat).length + 1) then
                    rec ((b1.drop r3.2.1.toNat).drop r3.1.toNat, p, q, (acc ++ ([((get1 b).1, ([] : List Int) ++ ((b1.drop r3.2.1.toNat).take r3.1.toNat))])))
                    else none else none else none else none else none
                  else none) = some (
                if ¬ lastT acc < (get1 b).1 then ([], 2) else
                if (get1 b1).2.2 ≠ 0 then ([], (get1 b1).2.2) else
                if 4096 < (get1 b1).1 then ([], 4) else
                if ((b1.drop (get1 b1).2.1.toNat).length : Int) < (get1 b1).1 then ([], 3) else
                if h : ((b1.drop (get1 b1).2.1.toNat).drop (get1 b1).1.toNat).length < b.length then
                  goT (acc ++ [((get1 b).1, (b1.drop (get1 b1).2.1.toNat).take (get1 b1).1.toNat)]) ((b1.drop (get1 b1).2.1.toNat).drop (get1 b1).1.toNat)
                else ([], 0)) := by
            intro e
            rw [if_neg (fun h => h e)]
            simp only [F49_eq hb1 (by omega), Option.bind_some]
            rcases get1_cases hb1 with ⟨p1, p2, p3, p4, p5⟩ | ⟨p1, p2, p3⟩
            · have pd : decide ((get1 b1).2.2 = 0) = true := decide_eq_true p1
              rw [if_neg (show ¬ ((get1 b1).2.2 ≠ 0) from fun h => h p1)]
              simp only [p3, cond_true, pd, Bool.not_true, cond_false]
              have hb2 := bs_drop hb1 (get1 b1).2.1.toNat
              generalize b1.drop (get1 b1).2.1.toNat = b2 at *
              by_cases c1 : 4096 < (get1 b1).1
              · simp only [c1, decide_true, cond_true, if_true]
              · have hw : IntKind.wrap .i64 (get1 b1).1 = (get1 b1).1 := RB.wrap_i64 (by omega) (by omega)
                rw [hw]
                by_cases c2 : (b2.length : Int) < (get1 b1).1
                · simp only [c1, c2, decide_true, decide_false, cond_true, cond_false, if_true, if_false]
                · have hin : inb (get1 b1).1 (b2.length + 1) = true := RB.inb_true p2.1 (by omega)
                  have htl : (([] : List Int).length + (b2.take (get1 b1).1.toNat).length) * 1 ≤ LIM := by rw [List.length_take]; unfold LIM; simp; omega
                  have hlim : (acc.length + 1) * 32 ≤ LIM := by unfold LIM; omega
                  have hsh : (b2.drop (get1 b1).1.toNat).length < b.length := by rw [List.length_drop]; omega
                  have hsh2 : (b2.drop (get1 b1).1.toNat).length ≤ 65535 := by omega
                  simp only [c1, c2, decide_false, cond_false, if_false, hin, cond_true, htl, hlim, decide_true, hsh, dite_true, Bool.or_true, List.nil_append]
                  exact hrec (_, p, q, acc ++ [((get1 b).1, b2.take (get1 b1).1.toNat)]) ⟨bs_drop hb2 _, by simp only [List.length_append, List.length_singleton]; omega, hsh2⟩ hsh
            · have pd : decide ((get1 b1).2.2 = 0) = false := decide_eq_false p1
              rw [if_pos p1]
              simp only [pd, Bool.not_false, cond_true]
          by_cases ha0 : 0 < acc.length
          · have ha0d : decide ((0 : Int) < (acc.length : Int)) = true := decide_eq_true (by omega)
            have hla : acc.length - 1 < acc.length := by omega
            have hw : IntKind.wrap .i64 ((acc.length : Int) - 1) = ((acc.length - 1 : Nat) : Int) := by rw [RB.wrap_i64 (by omega) (by omega)]; omega
            have hin : inb ((acc.length - 1 : Nat) : Int) acc.length = true := RB.inb_true (by omega) (by omega)
            simp only [ha0d, beq_self_eq_true, cond_true, hw, hin, rd_nat (t := tR) hla]
            by_cases hlt : lastT acc < (get1 b).1
            · have : ¬ (get1 b).1 ≤ acc[acc.length - 1].1 := by rw [lastT_get ha0] at hlt; omega
              simp only [this, decide_false, cond_false]
              exact tail hlt
            · have : (get1 b).1 ≤ acc[acc.length - 1].1 := by rw [lastT_get ha0] at hlt; omega
              simp only [this, decide_true, cond_true, hlt, not_false_eq_true, if_true]
          · have ha0d : decide ((0 : Int) < (acc.length : Int)) = false := decide_eq_false (by omega)
            have hacc : acc = [] := List.length_eq_zero_iff.1 (by omega)
            simp only [ha0d, show (false == true) = false from rfl, cond_false]
            exact tail (by rw [hacc]; show (-1 : Int) < _; omega)
        · have gd : decide ((get1 b).2.2 = 0) = false := decide_eq_false g1
          rw [if_pos g1]
          simp only [gd, Bool.not_false, cond_true]
end Go.Proofs.Ytacebemdonoliaa.R4
