/- Part of a proof: what the program's functions come to. -/
import Derived.Test.YtcpcbeeghjigkaaHL3
set_option linter.unusedVariables false
set_option linter.unusedSimpArgs false
namespace Go.Proofs.Ytcpcbeeghjigkaa.R3
open Go Go.Fw Go.Proofs RB
set_option maxRecDepth 20000
noncomputable def numT (m : List Rec) (t : Int) : Int × Int :=
  if (findT m t).2 ≠ 0 then (0, (findT m t).2) else
  if (get1 (findT m t).1).2.2 ≠ 0 then (0, (get1 (findT m t).1).2.2) else
  if (get1 (findT m t).1).2.1 < ((findT m t).1.length : Int) then (0, 2) else ((get1 (findT m t).1).1, 0)
theorem lookR_mem : ∀ {l : List Rec} {t : Int} {v : List Int}, lookR l t = some v → ∃ r ∈ l, r.2 = v
  | [], t, v, h => by simp [lookR] at h
  | a :: r, t, v, h => by
    unfold lookR at h
    split at h
    · obtain ⟨x, hx, h2⟩ := lookR_mem h
      exact ⟨x, List.mem_cons_of_mem _ hx, h2⟩
    · split at h
      · exact ⟨a, by simp, by simpa using h⟩
      · simp at h
theorem findT_bs {m : List Rec} {t : Int} (h : ∀ r ∈ m, Bs r.2) (hl : okT m) : Bs (findT m t).1 ∧ (findT m t).1.length ≤ 4096 := by
  unfold findT
  rw [if_pos hl]
  cases q : lookR m t with
  | none => exact ⟨by intro n hn; simp at hn, by simp⟩
  | some v =>
    obtain ⟨r, hr, rfl⟩ := lookR_mem q
    exact ⟨h r hr, hl.2.1 r hr⟩
theorem Fnum_eq {m : List Rec} {t : Int} (h : ∀ r ∈ m, Bs r.2) (hl : okT m) : F77 (m, t) = some (numT m t) := by
  obtain ⟨h1, h2⟩ := findT_bs (t := t) h hl
  unfold F77 numT
  simp only [F76_eq, Option.bind_some]
  by_cases c1 : (findT m t).2 = 0
  · simp only [c1, decide_true, Bool.not_true, cond_false, ne_eq, not_true_eq_false, if_false, F101_eq h1 (by omega), Option.bind_some]
    by_cases c2 : (get1 (findT m t).1).2.2 = 0
    · by_cases c3 : (get1 (findT m t).1).2.1 < ((findT m t).1.length : Int) <;> simp [c2, c3]
    · simp [c2]
  · simp [c1]
theorem numT_ok {m : List Rec} {t : Int} (h : ∀ r ∈ m, Bs r.2) (hl : okT m) (h0 : (numT m t).2 = 0) : ∃ v, lookR m t = some v ∧ enc1 (numT m t).1 = v ∧ U64 (numT m t).1 := by
  obtain ⟨h1, h2⟩ := findT_bs (t := t) h hl
  unfold numT at h0 ⊢
  by_cases c1 : (findT m t).2 = 0
  · rw [if_neg (by simp [c1])] at h0 ⊢
    have hv : ∃ v, lookR m t = some v ∧ (findT m t).1 = v := by
      unfold findT at c1 ⊢
      rw [if_pos hl] at c1 ⊢
      cases q : lookR m t with
      | none => rw [q] at c1; simp at c1
      | some v => exact ⟨v, rfl, rfl⟩
    obtain ⟨v, hv, hf⟩ := hv
    rw [hf] at h1 h0 ⊢
    rcases get1_cases h1 with ⟨e0, hy, hin, hs, hlt⟩ | ⟨e0, e1⟩
    · rw [if_neg (by simp [e0])] at h0 ⊢
      by_cases c3 : (get1 v).2.1 < (v.length : Int)
      · rw [if_pos c3] at h0; simp at h0
      · rw [if_neg c3]
        refine ⟨v, hv, ?_, ⟨hy.1, by have := hy.2; simp only; omega⟩⟩
        have : v.drop (get1 v).2.1.toNat = [] := List.drop_eq_nil_of_le (by omega)
        rw [this, List.append_nil] at hs
        exact hs
    · rw [if_pos e0] at h0; exact absurd h0 e0
  · rw [if_pos c1] at h0; exact absurd h0 c1
theorem numT_enc {m : List Rec} {t n : Int} (hl : okT m) (hn : U64 n) (hk : lookR m t = some (enc1 n)) : numT m t = (n, 0) := by
  have hf : findT m t = (enc1 n, 0) := by unfold findT; rw [if_pos hl, hk]
  have hg := get1_enc hn.1 hn.2 []
  rw [List.append_nil] at hg
  have hw : ((enc1 n).length : Int) = (wid n : Int) + 1 := by
    have h3 := drop_enc n []
    rw [List.append_nil] at h3
    have h4 := congrArg List.length h3
    rw [List.length_drop, List.length_nil] at h4
    have h5 : (enc1 n).length ≤ wid n + 1 := by omega
    rcases get1_cases (enc1_byte hn.1) with ⟨e0, hy, hin, hs, hlt⟩ | ⟨e0, e1⟩
    · rw [hg] at hin
      simp only [inb, Bool.and_eq_true, decide_eq_true_eq] at hin
      omega
    · rw [hg] at e0; exact absurd rfl e0
  unfold numT
  rw [hf]
  simp only [hg, hw]
  simp
def pl (i : Nat) : Int := if i < 2 then 1 + (i : Int) else 16 + ((i : Int) - 2)
theorem F78_eq {i : Nat} (h : i ≤ 1000) : F78 (i : Int) = some (pl i) := by
  unfold F78 pl
  by_cases c : i < 2
  · have : (i : Int) < 2 := by omega
    simp only [this, decide_true, cond_true, c, if_true]
    rw [RB.wrap_u64 (n := (i : Int)) (by omega) (by omega), RB.wrap_u64 (by omega) (by omega)]
  · have : ¬ (i : Int) < 2 := by omega
    simp only [this, decide_false, cond_false, c, if_false]
    rw [RB.wrap_i64 (by omega) (by omega), RB.wrap_u64 (n := (i : Int) - 2) (by omega) (by omega), RB.wrap_u64 (by omega) (by omega)]
def cavs : List Rec → List Cv → List Cv × Int
  | [], acc => (acc, 0)
  | r :: l, acc => if (getC r.2).2 ≠ 0 then ([], (getC r.2).2) else cavs l (acc ++ [(getC r.2).1])
def tz : Tok × Int := ((0, ([], 0)), 0)
def capR (n0 n1 : Int) (p : List Cv × Int) : Tok × Int := if p.2 ≠ 0 then ((0, ([], 0)), p.2) else ((n0, (p.1, n1)), 0)
def badU (m : List Rec) (n1 : Int) (i : Nat) : Prop := (1048576 < n1 ∨ 18 < m.length) ∨ ∃ j, ∃ h : j < m.length, j < i ∧ m[j].1 ≠ pl j
open Classical in
noncomputable def resC (m : List Rec) (n0 n1 : Int) : Tok × Int := if badU m n1 m.length then ((0, ([], 0)), 2) else capR n0 n1 (cavs (m.drop 2) [])
noncomputable def resN (m : List Rec) : Tok × Int :=
  if (numT m 1).2 ≠ 0 then ((0, ([], 0)), (numT m 1).2) else
  if (numT m 2).2 ≠ 0 then ((0, ([], 0)), (numT m 2).2) else resC m (numT m 1).1 (numT m 2).1
noncomputable def resF (m : List Rec) : Tok × Int :=
  if (findT m 1).2 ≠ 0 then ((0, ([], 0)), 5) else if (findT m 2).2 ≠ 0 then ((0, ([], 0)), 5) else resN m
noncomputable def getK (b : List Int) : Tok × Int := if (getT b).2 ≠ 0 then ((0, ([], 0)), (getT b).2) else resF (getT b).1
theorem badU_succ {m : List Rec} {n1 : Int} {i : Nat} (h : i < m.length) : badU m n1 (i + 1) ↔ badU m n1 i ∨ m[i].1 ≠ pl i := by
  unfold badU
  constructor
  · rintro (h1 | ⟨j, hj, h1, h2⟩)
    · exact .inl (.inl h1)
    · by_cases e : j = i
      · subst e; exact .inr h2
      · exact .inl (.inr ⟨j, hj, by omega, h2⟩)
  · rintro ((h1 | ⟨j, hj, h1, h2⟩) | h1)
    · exact .inl h1
    · exact .inr ⟨j, hj, by omega, h2⟩
    · exact .inr ⟨i, h, by omega, h1⟩
theorem find_len {m : List Rec} {t : Int} (h : (findT m t).2 = 0) : m.length ≤ 64 ∧ ∃ v, lookR m t = some v := by
  unfold findT at h
  split at h
  · rename_i q
    refine ⟨q.1, ?_⟩
    cases k : lookR m t with
    | none => rw [k] at h; simp at h
    | some v => exact ⟨v, rfl⟩
  · simp at h
theorem two_of {m : List Rec} {v w : List Int} (h1 : lookR m 1 = some v) (h2 : lookR m 2 = some w) : 2 ≤ m.length := by
  match m, h1, h2 with
  | [], h, _ => simp [lookR] at h
  | [a], h, k =>
    simp only [lookR] at h k
    split at h
    · simp at h
    · split at h
      · split at k
        · simp at k
        · split at k
          · omega
          · simp at k
      · simp at h
  | a :: b :: r, _, _ => simp
theorem F48_eq {b : List Int} (hb : Bs b) : F48 b = some (getK b) := by
  unfold F48 getK
  simp only [F75_eq hb, Option.bind_some]
  by_cases c1 : (getT b).2 = 0
  · have hok := getT_ok (m := (getT b).1) hb (by rw [← c1])
    generalize (getT b).1 = m at hok ⊢
    obtain ⟨hv, ho, hp⟩ := hok
    have hbs : ∀ r ∈ m, Bs r.2 := fun r hr => (hv r hr).2
    have hlen : m.length ≤ 64 := ho.1
    simp only [c1, decide_true, Bool.not_true, cond_false, ne_eq, not_true_eq_false, if_false]
    refine lfp_rule (fun (x : Int × Int) => x.2 = 0 ∨ (x.2 = 1 ∧ (findT m 1).2 = 0) ∨ (x.2 = 2 ∧ (findT m 1).2 = 0 ∧ (findT m 2).2 = 0)) (fun x => 2 - x.2.toNat) (fun _ => resF m) ?_ _ (.inl rfl)
    rintro ⟨q, i⟩ hx rec hrec
    simp only at hx
    rcases hx with rfl | ⟨rfl, h1⟩ | ⟨rfl, h1, h2⟩
    · simp only [show decide ((0 : Int) < 2) = true from rfl, cond_true, show IntKind.wrap .u64 (1 + (IntKind.wrap .u64 0)) = 1 from rfl, F76_eq, Option.bind_some]
      by_cases k : (findT m 1).2 = 0
      · simp only [k, decide_true, Bool.not_true, cond_false]
        exact hrec _ (.inr (.inl ⟨rfl, k⟩)) (by simp only; decide)
      · simp [k, resF]
    · simp only [show decide ((1 : Int) < 2) = true from rfl, cond_true, show IntKind.wrap .u64 (1 + (IntKind.wrap .u64 1)) = 2 from rfl, F76_eq, Option.bind_some]
      by_cases k : (findT m 2).2 = 0
      · simp only [k, decide_true, Bool.not_true, cond_false]
        exact hrec _ (.inr (.inr ⟨rfl, h1, k⟩)) (by simp only; decide)
      · simp [k, resF, h1]
    · clear hrec
      have hF : resF m = resN m := by unfold resF; rw [if_neg (by simp [h1]), if_neg (by simp [h2])]
      obtain ⟨_, v1, hv1⟩ := find_len h1
      obtain ⟨_, v2, hv2⟩ := find_len h2
      have h2m := two_of hv1 hv2
      rw [hF]
      simp only [show decide ((2 : Int) < 2) = false from rfl, cond_false]
      refine lfp_rule (fun (x : Int × Int × List Int) => (x.2.1 = 0 ∧ x.2.2 = [0, 0]) ∨ (x.2.1 = 1 ∧ x.2.2 = [(numT m 1).1, 0] ∧ (numT m 1).2 = 0) ∨ (x.2.1 = 2 ∧ x.2.2 = [(numT m 1).1, (numT m 2).1] ∧ (numT m 1).2 = 0 ∧ (numT m 2).2 = 0)) (fun x => 2 - x.2.1.toNat) (fun _ => resN m) ?_ _ (.inl ⟨rfl, rfl⟩)
      rintro ⟨q, i, arr⟩ hx rec hrec
      simp only at hx
      rcases hx with ⟨rfl, rfl⟩ | ⟨rfl, rfl, n1⟩ | ⟨rfl, rfl, n1, n2⟩
      · simp only [show decide ((0 : Int) < 2) = true from rfl, cond_true, show IntKind.wrap .u64 (1 + (IntKind.wrap .u64 0)) = 1 from rfl, Fnum_eq hbs ho, Option.bind_some, show inb 0 2 = true from rfl]
        by_cases k : (numT m 1).2 = 0
        · simp only [k, decide_true, Bool.not_true, cond_false]
          exact hrec _ (.inr (.inl ⟨rfl, rfl, k⟩)) (by simp only; decide)
        · simp [k, resN]
      · simp only [show decide ((1 : Int) < 2) = true from rfl, cond_true, show IntKind.wrap .u64 (1 + (IntKind.wrap .u64 1)) = 2 from rfl, Fnum_eq hbs ho, Option.bind_some, show inb 1 2 = true from rfl]
        by_cases k : (numT m 2).2 = 0
        · simp only [k, decide_true, Bool.not_true, cond_false]
          exact hrec _ (.inr (.inr ⟨rfl, rfl, n1, k⟩)) (by simp only; decide)
        · simp [k, resN, n1]
      · clear hrec
        have hN : resN m = resC m (numT m 1).1 (numT m 2).1 := by unfold resN; rw [if_neg (by simp [n1]), if_neg (by simp [n2])]
        obtain ⟨_, _, _, u1⟩ := numT_ok hbs ho n1
        obtain ⟨_, _, _, u2⟩ := numT_ok hbs ho n2
        rw [hN]
        generalize (numT m 1).1 = a1 at u1 ⊢
        generalize (numT m 2).1 = a2 at u2 ⊢
        have r0 : rd (.int .u64) [a1, a2] 0 = a1 := rfl
        have r1 : rd (.int .u64) [a1, a2] 1 = a2 := rfl
        simp only [show decide ((2 : Int) < 2) = false from rfl, cond_false, show inb 1 2 = true from rfl, show inb 0 2 = true from rfl, cond_true, r0, r1, both_self]
        refine lfp_rule (fun (x : Bool × Int) => ∃ i : Nat, x.2 = (i : Int) ∧ i ≤ m.length ∧ (x.1 = true ↔ badU m a2 i)) (fun x => m.length - x.2.toNat) (fun _ => resC m a1 a2) ?_ _ ⟨0, rfl, by omega, ?_⟩
        · rintro ⟨f, i'⟩ ⟨i, hi', hi, hf⟩ rec hrec
          simp only at hi' hf
          subst hi'
          simp only
          by_cases hlt : i < m.length
          · have k1 : ((i : Int) < (m.length : Int)) := by omega
            simp only [k1, decide_true, cond_true, inb_true (Int.natCast_nonneg i) k1, rd_nat (t := tR) hlt]
            rw [RB.wrap_i64 (n := (i : Int) + 1) (by omega) (by omega)]
            cases f with
            | false =>
              simp only [beq_self_eq_true, cond_true, F78_eq (i := i) (by omega), Option.bind_some]
              refine hrec _ ⟨i + 1, by simp, by omega, ?_⟩ (by simp only; omega)
              rw [badU_succ hlt, ← hf]
              simp
            | true =>
              simp only [show (true == false) = false from rfl, cond_false]
              refine hrec _ ⟨i + 1, by simp, by omega, ?_⟩ (by simp only; omega)
              rw [badU_succ hlt, ← hf]
              simp
          · have k1 : ¬ ((i : Int) < (m.length : Int)) := by omega
            have hie : i = m.length := by omega
            clear hrec
            subst hie
            simp only [k1, decide_false, cond_false]
            cases f with
            | true =>
              have : badU m a2 m.length := hf.1 rfl
              simp [resC, this]
            | false =>
              have hnb : ¬ badU m a2 m.length := fun h => by simpa using hf.2 h
              have hC : resC m a1 a2 = capR a1 a2 (cavs (m.drop 2) []) := by unfold resC; rw [if_neg hnb]
              have hn : a2 ≤ 1048576 ∧ m.length ≤ 18 := by
                unfold badU at hnb
                constructor
                · exact Int.not_lt.1 fun h => hnb (.inl (.inl h))
                · exact Nat.not_lt.1 fun h => hnb (.inl (.inr h))
              have k2 : inb 2 (m.length + 1) = true := inb_true (by omega) (by omega)
              have hdr : ((2 : Int).toNat) = 2 := rfl
              simp only [k2, cond_true, cond_false, hdr, hC]
              have hdl : (m.drop 2).length = m.length - 2 := List.length_drop
              have hsub : ∀ r ∈ m.drop 2, Bs r.2 ∧ r.2.length ≤ 4096 := fun r hr => ⟨hbs r (List.mem_of_mem_drop hr), ho.2.1 r (List.mem_of_mem_drop hr)⟩
              clear hC
              generalize m.drop 2 = D at hsub hdl ⊢
              refine lfp_rule (fun (x : Int × Int × List Cv × (Int × Int)) => ∃ i : Nat, x.2.1 = (i : Int) ∧ i ≤ D.length ∧ x.2.2.1.length = i ∧ cavs (D.drop i) x.2.2.1 = cavs D [] ∧ x.2.2.2 = (a1, a2)) (fun x => D.length - x.2.1.toNat) (fun _ => capR a1 a2 (cavs D [])) ?_ _ ⟨0, rfl, by omega, rfl, rfl, ?_⟩
              · rintro ⟨q, i', acc, p⟩ ⟨i, hi', hi, hal, hca, hp'⟩ rec hrec
                simp only at hi' hal hca hp'
                subst hi'; subst hp'
                simp only
                by_cases hlt : i < D.length
                · have k1 : ((i : Int) < (D.length : Int)) := by omega
                  have hbr : Bs D[i].2 := (hsub _ (List.getElem_mem hlt)).1
                  have hbl : D[i].2.length ≤ 4096 := (hsub _ (List.getElem_mem hlt)).2
                  have hstep : cavs (D.drop i) acc = if (getC D[i].2).2 ≠ 0 then ([], (getC D[i].2).2) else cavs (D.drop (i + 1)) (acc ++ [(getC D[i].2).1]) := by
                    rw [List.drop_eq_getElem_cons hlt, cavs]
                  simp only [k1, decide_true, cond_true, inb_true (Int.natCast_nonneg i) k1, rd_nat (t := tR) hlt, F79_eq hbr (by omega), Option.bind_some, Prod.eta]
                  by_cases e0 : (getC D[i].2).2 = 0
                  · have k3 : (acc.length + 1) * 24 ≤ LIM := by unfold LIM; omega
                    rw [if_neg (by simp [e0])] at hstep
                    simp only [e0, decide_true, Bool.not_true, cond_false, k3, cond_true]
                    rw [RB.wrap_i64 (n := (i : Int) + 1) (by omega) (by omega)]
                    exact hrec _ ⟨i + 1, by simp, by omega, by simp [hal], by rw [← hca, hstep], rfl⟩ (by simp only; omega)
                  · rw [if_pos e0] at hstep
                    rw [← hca, hstep]
                    simp [e0, capR]
                · have k1 : ¬ ((i : Int) < (D.length : Int)) := by omega
                  have : D.drop i = [] := List.drop_eq_nil_of_le (by omega)
                  rw [this, cavs] at hca
                  rw [← hca]
                  simp [k1, capR]
              · rw [RB.wrap_i64 (by have := u2.1; omega) (by omega)]
        · simp only
          unfold badU
          have e : ((18 : Int) < (m.length : Int)) ↔ 18 < m.length := by omega
          by_cases h1 : 1048576 < a2
          · simp [h1]
          · simp [h1, e]
  · simp [c1]
end Go.Proofs.Ytcpcbeeghjigkaa.R3
