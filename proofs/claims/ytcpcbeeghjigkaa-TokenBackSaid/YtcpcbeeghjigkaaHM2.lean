/- Part of a proof: what the program's functions come to. -/
import Derived.Test.YtcpcbeeghjigkaaHM1
set_option linter.unusedVariables false
set_option linter.unusedSimpArgs false
namespace Go.Proofs.Ytcpcbeeghjigkaa.R3
open Go Go.Fw Go.Proofs RB
set_option maxRecDepth 20000
def plc : Nat → List Rec → Prop
  | _, [] => True
  | i, r :: l => r.1 = ((16 + i : Nat) : Int) ∧ plc (i + 1) l
theorem plc_of : ∀ (l : List Rec) (i : Nat), (∀ j (h : j < l.length), l[j].1 = ((16 + (i + j) : Nat) : Int)) → plc i l
  | [], _, _ => trivial
  | r :: l, i, h => ⟨by have := h 0 (by simp); simpa using this, plc_of l (i + 1) fun j hj => by
      have := h (j + 1) (by simp; omega)
      rw [List.getElem_cons_succ] at this
      rw [this]; omega⟩
theorem cavs_ok : ∀ (l : List Rec) (i : Nat) (acc x : List Cv), plc i l → (∀ r ∈ l, Bs r.2) → cavs l acc = (x, 0) →
    ∃ cs, x = acc ++ cs ∧ numd encC i cs = l ∧ ∀ c ∈ cs, CvOk c ∧ chk c = 0
  | [], i, acc, x, _, _, h => by
    simp only [cavs, Prod.mk.injEq, and_true] at h
    exact ⟨[], by simp [h], rfl, by simp⟩
  | r :: l, i, acc, x, hp, hb, h => by
    unfold cavs at h
    by_cases e : (getC r.2).2 = 0
    · rw [if_neg (by simp [e])] at h
      obtain ⟨cs, h1, h2, h3⟩ := cavs_ok l (i + 1) _ x hp.2 (fun q hq => hb q (List.mem_cons_of_mem _ hq)) h
      obtain ⟨g1, g2, g3⟩ := getC_ok (hb r (by simp)) (d := (getC r.2).1) (by rw [← e])
      refine ⟨(getC r.2).1 :: cs, by rw [h1]; simp, ?_, fun c hc => ?_⟩
      · rw [numd, h2, g3, ← hp.1]
      · rcases List.mem_cons.1 hc with rfl | hc
        · exact ⟨g2, g1⟩
        · exact h3 c hc
    · rw [if_pos e] at h
      simp only [Prod.mk.injEq] at h
      exact absurd h.2 e
theorem cavs_enc : ∀ (l : List Cv) (i : Nat) (acc : List Cv), (∀ c ∈ l, CvOk c ∧ chk c = 0) → cavs (numd encC i l) acc = (acc ++ l, 0)
  | [], i, acc, _ => by simp [numd, cavs]
  | c :: l, i, acc, h => by
    have h1 := getC_enc (h c (by simp)).1 (h c (by simp)).2 []
    rw [List.append_nil, if_pos rfl] at h1
    rw [numd, cavs]
    simp only [h1]
    rw [if_neg (by simp), cavs_enc l (i + 1) _ (fun c hc => h c (List.mem_cons_of_mem _ hc))]
    simp
theorem numd_get : ∀ (l : List Cv) (i j : Nat) (h : j < (numd encC i l).length), (numd encC i l)[j].1 = ((16 + (i + j) : Nat) : Int)
  | [], i, j, h => by simp [numd] at h
  | c :: l, i, 0, h => by simp [numd]
  | c :: l, i, j + 1, h => by
    have h2 : j < (numd encC (i + 1) l).length := by simp [numd] at h; exact h
    have := numd_get l (i + 1) j h2
    simp only [numd, List.getElem_cons_succ, this]
    omega
theorem getK_ok {b : List Int} (hb : Bs b) (h : (getK b).2 = 0) : TokOk (getK b).1 ∧ okK (getK b).1 ∧ tokB (getK b).1 = b := by
  unfold getK at h ⊢
  by_cases c1 : (getT b).2 = 0
  · rw [if_neg (by simp [c1])] at h ⊢
    obtain ⟨hv, ho, hp⟩ := getT_ok (m := (getT b).1) hb (by rw [← c1])
    generalize (getT b).1 = m at *
    have hbs : ∀ r ∈ m, Bs r.2 := fun r hr => (hv r hr).2
    unfold resF at h ⊢
    split at h
    · simp at h
    rename_i f1
    split at h
    · simp at h
    rename_i f2
    simp only [ne_eq, Classical.not_not] at f1 f2
    rw [if_neg (by simp [f1]), if_neg (by simp [f2])]
    unfold resN at h ⊢
    split at h
    · rename_i q; exact absurd h q
    rename_i n1
    split at h
    · rename_i q; exact absurd h q
    rename_i n2
    simp only [ne_eq, Classical.not_not] at n1 n2
    rw [if_neg (by simp [n1]), if_neg (by simp [n2])]
    obtain ⟨v1, k1, e1, u1⟩ := numT_ok hbs ho n1
    obtain ⟨v2, k2, e2, u2⟩ := numT_ok hbs ho n2
    have h2m := two_of k1 k2
    generalize (numT m 1).1 = a1 at *
    generalize (numT m 2).1 = a2 at *
    unfold resC at h ⊢
    split at h
    · simp at h
    rename_i hnb
    rw [if_neg hnb]
    have hpl : ∀ j (hj : j < m.length), m[j].1 = pl j := fun j hj => Classical.byContradiction fun q => hnb (.inr ⟨j, hj, hj, q⟩)
    have hn2 : ¬ 1048576 < a2 := fun q => hnb (.inl (.inl q))
    have hn3 : ¬ 18 < m.length := fun q => hnb (.inl (.inr q))
    match m, h2m, hv, hp, hbs, hpl, k1, k2, hn3, h with
    | r0 :: r1 :: D, _, hv, hp, hbs, hpl, k1, k2, hn3, h =>
      have p0 : r0.1 = 1 := by have := hpl 0 (by simp); simpa [pl] using this
      have p1 : r1.1 = 2 := by have := hpl 1 (by simp); simpa [pl] using this
      have g0 : r0.2 = v1 := by simpa [lookR, p0] using k1
      have g1 : r1.2 = v2 := by simpa [lookR, p0, p1] using k2
      have hplc : plc 0 D := plc_of D 0 fun j hj => by
        have := hpl (j + 2) (by simp; omega)
        simp only [List.getElem_cons_succ] at this
        rw [this]; unfold pl; rw [if_neg (by omega)]; omega
      have hd : (r0 :: r1 :: D).drop 2 = D := rfl
      rw [hd] at h ⊢
      unfold capR at h ⊢
      split at h
      · rename_i q; exact absurd h q
      rename_i q
      rw [if_neg q]
      simp only [ne_eq, Classical.not_not] at q
      obtain ⟨cs, x1, x2, x3⟩ := cavs_ok D 0 [] (cavs D []).1 hplc (fun r hr => hbs r (by simp [hr])) (by rw [← q])
      rw [List.nil_append] at x1
      rw [x1]
      have hcl : cs.length = D.length := by rw [← x2, numd_len]
      have hk : okK (a1, (cs, a2)) := ⟨by simp only; simp only [List.length_cons] at hn3; omega, ⟨u2.1, by simp only; omega⟩, fun c hc => (x3 c hc).2⟩
      refine ⟨⟨u1, fun c hc => (x3 c hc).1, ⟨by have := u2.1; simp only; omega, by simp only; omega⟩⟩, hk, ?_⟩
      have ht : tokR (a1, (cs, a2)) = r0 :: r1 :: D := by
        unfold tokR
        simp only
        rw [x2, e1, e2, ← g0, ← g1]
        rw [show ((1 : Int), r0.2) = r0 from Prod.ext p0.symm rfl, show ((2 : Int), r1.2) = r1 from Prod.ext p1.symm rfl]
      have := putT_tok hk
      rw [ht, hp] at this
      exact (congrArg Prod.fst this).symm
  · rw [if_pos c1] at h; exact absurd h c1
theorem getK_enc {t : Tok} (ht : TokOk t) (hk : okK t) : getK (tokB t) = (t, 0) := by
  have hlen := tok_len hk
  have hokV := tokR_okV ht hk
  have hokT := tokR_okT hk
  have hbs : ∀ r ∈ tokR t, Bs r.2 := fun r hr => (hokV r hr).2
  have hg : getT (tokB t) = (tokR t, 0) := by
    unfold getT tokB
    rw [if_neg (by omega), goT_enc (tokR t) [] (fun r hr => ⟨hokV r hr, hokT.2.1 r hr⟩) hokT.2.2 hokT.1]
    simp
  have l1 : lookR (tokR t) 1 = some (enc1 t.1) := by simp [tokR, lookR]
  have l2 : lookR (tokR t) 2 = some (enc1 t.2.2) := by simp [tokR, lookR]
  have f1 : findT (tokR t) 1 = (enc1 t.1, 0) := by unfold findT; rw [if_pos hokT, l1]
  have f2 : findT (tokR t) 2 = (enc1 t.2.2, 0) := by unfold findT; rw [if_pos hokT, l2]
  have n1 := numT_enc hokT ht.1 l1
  have n2 := numT_enc (n := t.2.2) hokT ⟨hk.2.1.1, by have := hk.2.1.2; omega⟩ l2
  have hnb : ¬ badU (tokR t) t.2.2 (tokR t).length := by
    have hk2 := hk.2.1.2
    have hk1 := hk.1
    rintro ((q | q) | ⟨j, hj, _, q⟩)
    · omega
    · simp [tokR, numd_len] at q; omega
    · match j, hj, q with
      | 0, _, q => simp [tokR, pl] at q
      | 1, _, q => simp [tokR, pl] at q
      | j + 2, hj, q =>
        apply q
        simp only [tokR, List.getElem_cons_succ]
        rw [numd_get]
        unfold pl
        rw [if_neg (by omega)]
        omega
  unfold getK
  rw [hg]
  simp only
  rw [if_neg (by simp)]
  unfold resF
  rw [f1, f2]
  simp only
  rw [if_neg (by simp), if_neg (by simp)]
  unfold resN
  rw [n1, n2]
  simp only
  rw [if_neg (by simp), if_neg (by simp)]
  unfold resC
  rw [if_neg hnb]
  have hd : (tokR t).drop 2 = numd encC 0 t.2.1 := rfl
  rw [hd, cavs_enc t.2.1 0 [] (fun c hc => ⟨ht.2.1 c hc, hk.2.2 c hc⟩)]
  unfold capR
  simp
theorem few_some (t : Tok) : ∃ v, F33 [t] = some v ∧ (v = true → t.2.1.length ≤ 20) := by
  refine ⟨decide (t.2.1.length ≤ 20), ?_, by simp⟩
  unfold F33
  refine lfp_rule (fun (x : Bool × Int) => x.2 = 0 ∨ (x.2 = 1 ∧ t.2.1.length ≤ 20)) (fun x => 1 - x.2.toNat) (fun _ => decide (t.2.1.length ≤ 20)) ?_ _ (.inl rfl)
  rintro ⟨q, i⟩ hx rec hrec
  simp only at hx
  rcases hx with rfl | ⟨rfl, h⟩
  · have hr : rd (.pair (.int .u64) (.pair (.slice 62 (.pair (.int .i64) (.pair (.int .u64) (.int .u64)))) (.int .i64))) [t] 0 = t := rfl
    simp only [List.length_singleton, show decide ((0 : Int) < ((1 : Nat) : Int)) = true from rfl, cond_true, show inb 0 1 = true from rfl, hr]
    by_cases c : t.2.1.length ≤ 20
    · have : ¬ (20 : Int) < (t.2.1.length : Int) := by omega
      simp only [this, decide_false, cond_false]
      exact hrec _ (.inr ⟨rfl, c⟩) (by simp only; decide)
    · have : (20 : Int) < (t.2.1.length : Int) := by omega
      simp [this, c]
  · simp [h]
theorem F13_true {t : Tok} {b : List Int} (ht : TokOk t) (hb : Bs b) : F13 (t, b) = some true := by
  obtain ⟨v, hv, hv2⟩ := few_some t
  unfold F13
  simp only [F32_true, Option.bind_some, Bool.not_true, cond_false, Prod.eta, hv]
  by_cases c1 : v = true ∧ ¬ (2000 : Int) < (b.length : Int)
  · obtain ⟨rfl, c2⟩ := c1
    have hl := hv2 rfl
    have hback : ((F46 t).bind fun r7 => bif (!decide (r7.2 = 0)) then
        (bif (decide ((r7.1.length : Int) = 0) == true) then ((F43 t).bind fun r8 => some (decide (r8 = r7.2))) else some false)
        else ((F48 r7.1).bind fun r9 => bif (decide (r9.2 = 0) == true) then ((F45 (r9.1, t)).bind fun r10 => some r10) else some false)) = some true := by
      rw [F46_eq ht (by omega)]
      by_cases hk : okK t
      · have hbt : Bs (tokB t) := encs_bytes (tokR_okV ht hk)
        simp only [hk, if_true, Option.bind_some, decide_true, Bool.not_true, cond_false, F48_eq hbt, getK_enc ht hk, beq_self_eq_true, cond_true, F45_eq (a := t) (b := t) (by omega)]
      · simp only [hk, if_false, Option.bind_some, F43_eq ht (by omega)]
        simp
    simp only [c2, decide_false, Bool.not_true, cond_false, F48_eq hb, Option.bind_some]
    by_cases c3 : (getK b).2 = 0
    · obtain ⟨h1, h2, h3⟩ := getK_ok hb c3
      have hl2 := h2.1
      simp only [c3, decide_true, cond_true, F46_eq h1 (by omega), h2, if_true, Option.bind_some, Bool.not_true, beq_self_eq_true, h3, F50, F43_eq h1 (by omega), cond_false]
      exact hback
    · simp only [c3, decide_false, cond_false]
      exact hback
  · have : (bif (!v) then true else decide ((2000 : Int) < (b.length : Int))) = true := by
      cases v with
      | false => rfl
      | true => simp at c1; simpa using c1
    simp [this]
theorem tok_of2 {t : Tok} (h : Fw.Good (.pair (.int .u64) (.pair (.slice 62 (.pair (.int .i64) (.pair (.int .u64) (.int .u64)))) (.int .i64))) t) : TokOk t := ⟨u64_of h.1, fun c hc => cv_of (h.2.1.2 c hc), i64_of h.2.2⟩
theorem pure13 (b : dens [.agg (.pair (.int .u64) (.pair (.slice 62 (.pair (.int .i64) (.pair (.int .u64) (.int .u64)))) (.int .i64))), .one (.slice 5 (.int .u8))]) (h : Goods [.agg (.pair (.int .u64) (.pair (.slice 62 (.pair (.int .i64) (.pair (.int .u64) (.int .u64)))) (.int .i64))), .one (.slice 5 (.int .u8))] b) : F13 b = some true :=
  F13_true (tok_of2 h.1) (fun n hn => byte_of (h.2.2 n hn))
end Go.Proofs.Ytcpcbeeghjigkaa.R3
