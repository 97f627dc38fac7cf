/- Part of a proof: what the program's functions come to. -/
import Derived.Test.YtacebemdonoliaaFT4
set_option linter.unusedVariables false
set_option linter.unusedSimpArgs false
namespace Go.Proofs.Ytacebemdonoliaa.R4
open Go Go.Fw Go.Proofs RB
theorem drop_enc (n : Int) (m : List Int) : (enc1 n ++ m).drop ((wid n : Int) + 1).toNat = m := by
  have : (enc1 n).length = ((wid n : Int) + 1).toNat := by simp only [enc1, List.length_cons, dig_len]; omega
  rw [← this, List.drop_left]
theorem enc1_ne (n : Int) (m : List Int) : enc1 n ++ m ≠ [] := by simp [enc1]
theorem lastT_lt {acc : List Rec} {r : Rec} {l : List Rec} (h : Sorted (acc ++ r :: l)) (h0 : 0 ≤ r.1) : lastT acc < r.1 := by
  by_cases ha : 0 < acc.length
  · rw [lastT_get ha]
    exact (List.pairwise_append.1 h).2.2 _ (List.getElem_mem _) r (by simp)
  · have : acc = [] := List.length_eq_zero_iff.1 (by omega)
    subst this
    show (-1 : Int) < _
    omega
theorem goT_nil (acc : List Rec) : goT acc [] = (acc, 0) := by rw [goT]; simp
theorem goT_enc : ∀ (l acc : List Rec), (∀ r ∈ l, OkV r ∧ r.2.length ≤ 4096) → Sorted (acc ++ l) → (acc ++ l).length ≤ 64 → goT acc (l.flatMap encR) = (acc ++ l, 0)
  | [], acc, _, _, _ => by simp [goT_nil]
  | r :: l, acc, hv, hs, hlen => by
    have hr := hv r (by simp)
    have ih := goT_enc l (acc ++ [r]) (fun x hx => hv x (by simp [hx])) (by simpa using hs) (by simpa using hlen)
    have hb : (r :: l).flatMap encR = enc1 r.1 ++ (enc1 (r.2.length : Int) ++ (r.2 ++ l.flatMap encR)) := by simp [encR]
    rw [hb]
    have h1 := get1_enc hr.1.1.1 hr.1.1.2 (enc1 (r.2.length : Int) ++ (r.2 ++ l.flatMap encR))
    have h2 := get1_enc (n := (r.2.length : Int)) (by omega) (by omega) (r.2 ++ l.flatMap encR)
    have hlen' : ¬ acc.length = 64 := by simp only [List.length_append, List.length_cons] at hlen; omega
    rw [goT, if_neg (enc1_ne _ _), if_neg hlen']
    simp only [h1, drop_enc, h2, ne_eq, not_true_eq_false, if_false, lastT_lt hs hr.1.1.1, Int.toNat_natCast, List.take_left, List.drop_left]
    have c1 : ¬ (4096 : Int) < (r.2.length : Int) := by omega
    have c2 : ¬ ((r.2 ++ l.flatMap encR).length : Int) < (r.2.length : Int) := by rw [List.length_append]; omega
    have c3 : (l.flatMap encR).length < (enc1 r.1 ++ (enc1 (r.2.length : Int) ++ (r.2 ++ l.flatMap encR))).length := by
      simp only [List.length_append, enc1, List.length_cons]; omega
    simp only [c1, c2, if_false, c3, dite_true]
    show goT (acc ++ [r]) (l.flatMap encR) = _
    rw [ih]
    simp
theorem goT_ok : ∀ (n : Nat) (b : List Int) (acc m : List Rec), b.length ≤ n → Bs b → Sorted acc → acc.length ≤ 64 → goT acc b = (m, 0) →
    ∃ m', m = acc ++ m' ∧ b = m'.flatMap encR ∧ (∀ r ∈ m', OkV r ∧ r.2.length ≤ 4096) ∧ Sorted m ∧ m.length ≤ 64 := by
  intro n
  induction n with
  | zero =>
    intro b acc m hn hb hs hl h
    have : b = [] := List.length_eq_zero_iff.1 (by omega)
    subst this
    rw [goT_nil] at h
    simp only [Prod.mk.injEq, and_true] at h
    subst h
    exact ⟨[], by simp, by simp, by simp, hs, hl⟩
  | succ n ih =>
    intro b acc m hn hb hs hl h
    rw [goT] at h
    by_cases hbn : b = []
    · subst hbn
      rw [if_pos rfl] at h
      simp only [Prod.mk.injEq, and_true] at h
      subst h
      exact ⟨[], by simp, by simp, by simp, hs, hl⟩
    · rw [if_neg hbn] at h
      by_cases h64 : acc.length = 64
      · rw [if_pos h64] at h; simp at h
      · rw [if_neg h64] at h
        rcases get1_cases hb with ⟨g1, g2, g3, g4, g5⟩ | ⟨g1, g2, g3⟩
        · rw [if_neg (show ¬ ((get1 b).2.2 ≠ 0) from fun q => q g1)] at h
          by_cases hlt : lastT acc < (get1 b).1
          · rw [if_neg (show ¬ ¬ lastT acc < (get1 b).1 from fun q => q hlt)] at h
            have hb1 := bs_drop hb (get1 b).2.1.toNat
            generalize hB1 : b.drop (get1 b).2.1.toNat = b1 at *
            rcases get1_cases hb1 with ⟨p1, p2, p3, p4, p5⟩ | ⟨p1, p2, p3⟩
            · rw [if_neg (show ¬ ((get1 b1).2.2 ≠ 0) from fun q => q p1)] at h
              have hb2 := bs_drop hb1 (get1 b1).2.1.toNat
              generalize hB2 : b1.drop (get1 b1).2.1.toNat = b2 at *
              by_cases c1 : 4096 < (get1 b1).1
              · rw [if_pos c1] at h; simp at h
              · rw [if_neg c1] at h
                by_cases c2 : (b2.length : Int) < (get1 b1).1
                · rw [if_pos c2] at h; simp at h
                · rw [if_neg c2] at h
                  have c3 : (b2.drop (get1 b1).1.toNat).length < b.length := by rw [List.length_drop]; omega
                  rw [dif_pos c3] at h
                  have htl : ((b2.take (get1 b1).1.toNat).length : Int) = (get1 b1).1 := by rw [List.length_take]; omega
                  have hs' : Sorted (acc ++ [((get1 b).1, b2.take (get1 b1).1.toNat)]) := by
                    refine List.pairwise_append.2 ⟨hs, by simp, fun x hx y hy => ?_⟩
                    simp only [List.mem_singleton] at hy
                    subst hy
                    obtain ⟨j, hj, rfl⟩ := List.getElem_of_mem hx
                    have ha : 0 < acc.length := by omega
                    rw [lastT_get ha] at hlt
                    by_cases hje : j = acc.length - 1
                    · subst hje; exact hlt
                    · have := List.pairwise_iff_getElem.1 hs j (acc.length - 1) hj (by omega) (by omega)
                      simp only; omega
                  obtain ⟨m', hm, hbm, hv, hsm, hlm⟩ := ih _ _ _ (by omega) (bs_drop hb2 _) hs' (by simp only [List.length_append, List.length_singleton]; omega) h
                  refine ⟨((get1 b).1, b2.take (get1 b1).1.toNat) :: m', by rw [hm]; simp, ?_, ?_, hsm, hlm⟩
                  · rw [List.flatMap_cons, ← hbm]
                    simp only [encR]
                    rw [htl]
                    simp only [List.append_assoc, List.take_append_drop, p4, g4]
                  · intro r hr
                    rcases List.mem_cons.1 hr with rfl | hr
                    · exact ⟨⟨g2, fun x hx => hb2 x (List.mem_of_mem_take hx)⟩, by simp only; omega⟩
                    · exact hv r hr
            · rw [if_pos p1] at h
              simp only [Prod.mk.injEq] at h
              exact absurd h.2 p1
          · rw [if_pos hlt] at h; simp at h
        · rw [if_pos g1] at h
          simp only [Prod.mk.injEq] at h
          exact absurd h.2 g1
theorem encs_bytes {l : List Rec} (h : ∀ r ∈ l, OkV r) : Bs (l.flatMap encR) := by
  intro n hn
  obtain ⟨r, hr, hnr⟩ := List.mem_flatMap.1 hn
  have := h r hr
  simp only [encR, List.mem_append] at hnr
  rcases hnr with hnr | hnr | hnr
  · exact enc1_byte this.1.1 n hnr
  · exact enc1_byte (by omega) n hnr
  · exact this.2 n hnr
theorem F22_put {l : List Rec} (hv : ∀ r ∈ l, OkV r) (h : (putT l).2 = 0) : F22 (putT l).1 = some (l, 0) := by
  unfold putT at h ⊢
  by_cases ho : okT l
  · rw [if_pos ho] at h ⊢
    by_cases hl : 65535 < (l.flatMap encR).length
    · rw [if_pos hl] at h; simp at h
    · rw [if_neg hl]
      simp only
      rw [F22_eq (encs_bytes hv)]
      unfold getT
      rw [if_neg hl, goT_enc l [] (fun r hr => ⟨hv r hr, ho.2.1 r hr⟩) (by simpa using ho.2.2) (by simpa using ho.1)]
      simp
  · rw [if_neg ho] at h; simp at h
theorem putT_bad {l : List Rec} (h : (putT l).2 ≠ 0) : (putT l).1 = [] := by
  unfold putT at h ⊢
  by_cases ho : okT l
  · rw [if_pos ho] at h ⊢
    by_cases hl : 65535 < (l.flatMap encR).length
    · rw [if_pos hl]
    · rw [if_neg hl] at h; simp at h
  · rw [if_neg ho]
theorem getT_ok {b : List Int} {m : List Rec} (hb : Bs b) (h : getT b = (m, 0)) : (∀ r ∈ m, OkV r) ∧ okT m ∧ putT m = (b, 0) := by
  unfold getT at h
  by_cases hl : 65535 < b.length
  · rw [if_pos hl] at h; simp at h
  · rw [if_neg hl] at h
    obtain ⟨m', hm, hbm, hv, hs, hlen⟩ := goT_ok _ b [] m (Nat.le_refl _) hb (by simp [Sorted]) (by simp) h
    rw [List.nil_append] at hm
    subst hm
    have ho : okT m := ⟨hlen, fun r hr => (hv r hr).2, hs⟩
    refine ⟨fun r hr => (hv r hr).1, ho, ?_⟩
    unfold putT
    rw [if_pos ho, ← hbm, if_neg hl]
open Classical in
/-- TlvBack -/
theorem F6_true {l : List Rec} {b : List Int} (hv : ∀ r ∈ l, OkV r) (hb : Bs b) (hl : l.length ≤ 9223372036854775807) : F6 (l, b) = some true := by
  unfold F6
  simp only [F13_eq', Option.bind_some, Bool.not_true, cond_false, F14_eq l hl, F22_eq hb]
  generalize hc : (bif (!((l.all fun r => !bigV r) && decide ((l.length : Int) ≤ 70))) then true else decide (5000 < (b.length : Int))) = c
  cases c with
  | true => rfl
  | false =>
    have h70 : l.length ≤ 70 := by
      simp only [Bool.cond_true_left, Bool.or_eq_false_iff, Bool.not_eq_false', Bool.and_eq_true, decide_eq_true_eq] at hc
      have := hc.1.2; omega
    simp only [cond_false]
    have e0 : F16 (l, l) = some true := by rw [F16_eq (by omega)]; simp
    have tail : ∀ (K : List Int × Int → Option Bool), (∀ r, K r = (bif (!decide (r.2 = 0)) then (
         some (decide ((r.1.length : Int) = 0)))
         else (
         (F22 r.1).bind fun r8 =>
         bif (decide (r8.2 = 0) == true) then (
         (F16 (r8.1, l)).bind fun r9 =>
         some r9)
         else (
         some false)))) → (F20 l).bind K = some true := by
      intro K hK
      rw [F20_eq hv, Option.bind_some, hK]
      by_cases hp : (putT l).2 = 0
      · simp only [hp, decide_true, Bool.not_true, cond_false, F22_put hv hp, Option.bind_some, beq_self_eq_true, cond_true, e0]
      · simp only [hp, decide_false, Bool.not_false, cond_true, putT_bad hp]; rfl
    cases hg : getT b with
    | mk m e =>
      by_cases he : e = 0
      · subst he
        obtain ⟨hvm, hom, hpm⟩ := getT_ok hb hg
        simp only [decide_true, cond_true, F20_eq hvm, hpm, Option.bind_some, Bool.not_true, show ((false == false) = true) from rfl, F18_eq, F19_eq, hom, if_true, cond_false]
        exact tail _ (fun r => rfl)
      · simp only [he, decide_false, cond_false]
        exact tail _ (fun r => rfl)
theorem recs_of {l : List Rec} (h : Fw.Good (.slice 26 tR) l) : (∀ r ∈ l, OkV r) ∧ l.length ≤ 9223372036854775807 := ⟨fun r hr => ⟨u64_of (h.2 r hr).1, fun n hn => byte_of ((h.2 r hr).2.2 n hn)⟩, h.1⟩
theorem pure6 (b : dens [.one (.slice 26 (.pair (.int .u64) (.slice 5 (.int .u8)))), .one (.slice 5 (.int .u8))]) (h : Goods [.one (.slice 26 (.pair (.int .u64) (.slice 5 (.int .u8)))), .one (.slice 5 (.int .u8))] b) : F6 b = some true :=
  F6_true (recs_of h.1).1 (fun n hn => byte_of (h.2.2 n hn)) (recs_of h.1).2
end Go.Proofs.Ytacebemdonoliaa.R4
