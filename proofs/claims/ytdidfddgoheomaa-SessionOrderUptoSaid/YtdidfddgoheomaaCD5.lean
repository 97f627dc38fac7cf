/- Part of a proof: what the program's functions come to. -/
import Derived.Test.YtdidfddgoheomaaCD4
set_option linter.unusedVariables false
set_option linter.unusedSimpArgs false
namespace Go.Proofs.Ytdidfddgoheomaa.R2
open Go Go.Fw Go.Proofs RB
theorem chk01 {s : Ses} : chkS s = 0 ∨ chkS s = 1 := by
  unfold chkS
  split
  · exact .inr rfl
  · unfold chkR; split
    · exact .inr rfl
    · exact .inl rfl
/-- SessionDown -/
theorem F11_true {s : Ses} {b : List Int} (hb : Bytes s.2.1) (hbb : Bytes b) (hl : s.2.2.2.1.length ≤ 9223372036854775807) : F11 (s, b) = some true := by
  unfold F11
  obtain ⟨c, hc⟩ := F27_eq hl
  have hn : Bytes nulS.2.1 := by intro n hn; simp [nulS] at hn
  have hnl : nulS.2.2.2.1.length ≤ 9223372036854775807 := by simp [nulS]
  rw [show ((false, ([], (false, ([], [])))) : Ses) = nulS from rfl]
  simp only [Prod.eta, F26_eq, hc, Option.bind_some, Bool.not_true, cond_false, F31_eq hb hl, F39_eq hb hl]
  cases h0 : (bif !c then true else decide (1000 < (b.length : Int))) with
  | true => rfl
  | false =>
    simp only [cond_false]
    by_cases h1 : redS s = 0
    · have ht : F41 (nulS, 1) = some (takeS nulS 1) := F41_eq (n := 1) hn hnl
      have hh : hearS nulS b = (nulS, 0, 14) := by unfold hearS; simp [red_nul]
      have hx : nextS nulS = ([], nulS, 14) := by unfold nextS; simp [red_nul]
      have hs : sayS nulS b = (nulS, 14) := by unfold sayS; simp [red_nul]
      have hk : takeS nulS 1 = ([], nulS, 14) := by unfold takeS; simp [red_nul]
      simp only [h1, decide_true, Bool.not_true, cond_false, F33_eq hn hbb hnl, F35_eq hn hnl, F40_eq hn hnl, ht, up_nul, Option.bind_some, hh, hx, hs, hk, F42_eq (s := upS) (t := upS) (by simp [upS]), F42_eq (s := nulS) (t := nulS) (by simp [nulS])]
      rfl
    · simp only [h1, decide_false, Bool.not_false, cond_true, Option.some.injEq]
      unfold redS at h1 ⊢
      by_cases h2 : chkS s ≠ 0 ∨ s.1 = true
      · rw [if_pos h2] at h1 ⊢
        have : chkS s = 1 := by rcases chk01 (s := s) with h | h; exact absurd h h1; exact h
        rw [this]; rfl
      · rw [if_neg h2]
        simp only [not_or, Decidable.not_not] at h2
        rw [h2.1]; rfl
/-- SessionFull -/
theorem F10_true {s : Ses} {b : List Int} (hb : Bytes s.2.1) (hbb : Bytes b) (hl : s.2.2.2.1.length ≤ 9223372036854775807) : F10 (s, b) = some true := by
  unfold F10
  obtain ⟨c, hc⟩ := F27_eq hl
  simp only [Prod.eta, F26_eq, hc, Option.bind_some, Bool.not_true, cond_false, F39_eq hb hl]
  cases c with
  | false => rfl
  | true =>
    simp only [Bool.not_true, beq_self_eq_true, cond_true]
    cases h0 : (bif bif bif bif !decide (chkS s = 0) then true else !s.1 then true else s.2.2.1 then true else decide (0 < (s.2.1.length : Int)) then true else decide (100 < (b.length : Int))) with
    | true => rfl
    | false =>
      simp only [Bool.cond_true_left, Bool.or_eq_false_iff, Bool.not_eq_false', decide_eq_true_eq, decide_eq_false_iff_not] at h0
      obtain ⟨⟨⟨⟨h1, h2⟩, h3⟩, h4⟩, h5⟩ := h0
      have hred : redS s = 0 := by unfold redS; rw [if_pos (.inr h2), h1]
      obtain ⟨ok, -⟩ := okS_of hred
      have hbl : b.length ≤ 100 := by omega
      have hpf : (putF b).2 = 0 := by rw [putF_ok (by omega)]
      have hpl : (putF b).1.length = b.length + 2 := by rw [putF_ok (by omega)]; simp
      obtain ⟨l, buf, bad, fr, out⟩ := s
      simp only at h2 h3 h4 hb hl
      subst h2 h3
      have hbuf : buf = [] := List.length_eq_zero_iff.1 (by omega)
      subst hbuf
      have okf := ok.fr
      have oko := ok.out
      simp only at okf oko
      have hfeed : ∀ (fr' : List (List Int)) (out' : List Int), feedS (([] : List Int), false) (putF b).1 = (([], false), [b], 0) := by
        intro _ _
        unfold feedS
        have e := parse_frame (f := b) (by omega) [] []
        rw [List.append_nil] at e
        have : ¬ 65535 < (putF b).1.length := by omega
        simp only [List.nil_append, e, this, if_false]
        rw [parse_nil]
        simp [chkR]
      have hear : ∀ (fr' : List (List Int)), OkS (true, ([], (false, (fr', out)))) → hearS (true, ([], (false, (fr', out)))) (putF b).1 = if 8 < fr'.length + 1 then (nulS, 0, 7) else ((true, ([], (false, (fr' ++ [b], out)))), 1, 0) := by
        intro fr' hok
        unfold hearS
        rw [red_of hok rfl]
        simp only [hfeed fr' out]
        simp
      have say : ∀ (fr' : List (List Int)) (out' : List Int), OkS (true, ([], (false, (fr', out')))) → sayS (true, ([], (false, (fr', out')))) b = if 16384 < out'.length + (b.length + 2) then (nulS, 7) else ((true, ([], (false, (fr', out' ++ (putF b).1)))), 0) := by
        intro fr' out' hok
        unfold sayS
        rw [red_of hok rfl]
        simp only [hpf, hpl]
        simp
      have take : takeS (true, ([], (false, (fr, out)))) (b.length + 2) = (out.take (b.length + 2), (true, ([], (false, (fr, out.drop (b.length + 2))))), 0) := by
        unfold takeS
        rw [hred]; simp
      have okd : OkS (true, ([], (false, (fr, out.drop (b.length + 2))))) := ⟨ok.fr, by simp only [List.length_drop]; omega, ok.each, ok.buf, ok.rdr⟩
      have hbe : Bytes ([] : List Int) := by intro n hn; simp at hn
      have hw : IntKind.wrap .i64 ((out.length : Int) + ((b.length + 2 : Nat) : Int)) = ((out.length + (b.length + 2) : Nat) : Int) := by rw [wrap_i64 (by omega) (by omega)]; simp
      have h41 : F41 ((true, ([], (false, (fr, out)))), ((b.length + 2 : Nat) : Int)) = some (takeS (true, ([], (false, (fr, out)))) (b.length + 2)) := F41_eq (n := b.length + 2) hbe hl
      have tail : ((F40 ((true, ([], (false, (fr, out)))), b)).bind fun r11 =>
        bif decide (16384 < (IntKind.wrap .i64 ((out.length : Int) + ((b.length + 2 : Nat) : Int)))) then (
        (F41 ((true, ([], (false, (fr, out)))), ((b.length + 2 : Nat) : Int))).bind fun r12 =>
        (F40 (r12.2.1, b)).bind fun r13 =>
        some (bif (bif decide (r11.2 = 7) then decide (r12.2.2 = 0) else false) then decide (r13.2 = 0) else false))
        else (
        some (bif decide (r11.2 = 0) then decide ((r11.1.2.2.2.2.length : Int) = (IntKind.wrap .i64 ((out.length : Int) + ((b.length + 2 : Nat) : Int)))) else false))) = some true := by
        rw [F40_eq (s := (true, ([], (false, (fr, out))))) hbe hl, hw, say fr out ok, h41, take]
        simp only [Option.bind_some]
        rw [F40_eq (s := (true, ([], (false, (fr, out.drop (b.length + 2)))))) hbe hl, say _ _ okd]
        by_cases h6 : 16384 < out.length + (b.length + 2)
        · have h6' : (16384 : Int) < ((out.length + (b.length + 2) : Nat) : Int) := by omega
          have h7 : ¬ 16384 < (out.drop (b.length + 2)).length + (b.length + 2) := by rw [List.length_drop]; omega
          simp only [h6, h6', h7, decide_true, cond_true, if_true, if_false, Option.bind_some]
        · have h6' : ¬ (16384 : Int) < ((out.length + (b.length + 2) : Nat) : Int) := by omega
          simp only [h6, h6', decide_false, cond_false, if_false, decide_true, cond_true, List.length_append, hpl]
      simp only [F19_any, Option.bind_some, hpf, decide_true, Bool.not_true, cond_false, hpl, F33_eq (s := (true, ([], (false, (fr, out))))) hbe (putF_bytes hbb) hl, hear fr ok]
      by_cases h8 : fr.length = 8
      · have h8' : (fr.length : Int) = 8 := by omega
        have h8g : 8 < fr.length + 1 := by omega
        obtain ⟨f, r, rfl⟩ : ∃ f r, fr = f :: r := by
          cases fr with
          | nil => simp at h8
          | cons f r => exact ⟨f, r, rfl⟩
        have okr : OkS (true, ([], (false, (r, out)))) := ⟨by simp only; simp at h8; omega, ok.out, fun x hx => ok.each x (List.mem_cons_of_mem _ hx), ok.buf, ok.rdr⟩
        have hnx : nextS (true, ([], (false, (f :: r, out)))) = (f, (true, ([], (false, (r, out)))), 0) := by
          unfold nextS; rw [hred]; simp
        have hr8 : ¬ 8 < r.length + 1 := by simp at h8; omega
        simp only [h8', decide_true, cond_true, h8g, if_true, F35_eq (s := (true, ([], (false, (f :: r, out))))) hbe hl, hnx, Option.bind_some, F33_eq (s := (true, ([], (false, (r, out))))) hbe (putF_bytes hbb) (by simp at h8; simp only; omega), hear r okr, hr8, if_false, Bool.not_true, cond_false]
        exact tail
      · have h8' : ¬ (fr.length : Int) = 8 := by omega
        have h8g : ¬ 8 < fr.length + 1 := by omega
        have hw2 : IntKind.wrap .i64 ((fr.length : Int) + 1) = ((fr.length + 1 : Nat) : Int) := by rw [wrap_i64 (by omega) (by omega)]; simp
        simp only [h8', decide_false, cond_false, h8g, if_false, decide_true, Bool.not_true, hw2, List.length_append, List.length_cons, List.length_nil, Nat.zero_add]
        exact tail
abbrev sTy : Ty := .pair .bool (.pair (.slice 5 (.int .u8)) (.pair .bool (.pair (.slice 22 (.slice 5 (.int .u8))) (.slice 5 (.int .u8)))))
theorem ses_of {s : Ses} (h : Fw.Good sTy s) : Bytes s.2.1 ∧ s.2.2.2.1.length ≤ 9223372036854775807 := ⟨bs_of h.2.1, h.2.2.2.1.1⟩
theorem pure10 (b : dens [.agg (.pair .bool (.pair (.slice 5 (.int .u8)) (.pair .bool (.pair (.slice 22 (.slice 5 (.int .u8))) (.slice 5 (.int .u8)))))), .one (.slice 5 (.int .u8))]) (h : Goods [.agg (.pair .bool (.pair (.slice 5 (.int .u8)) (.pair .bool (.pair (.slice 22 (.slice 5 (.int .u8))) (.slice 5 (.int .u8)))))), .one (.slice 5 (.int .u8))] b) : F10 b = some true :=
  F10_true (ses_of h.1).1 (bs_of h.2) (ses_of h.1).2
theorem pure11 (b : dens [.agg (.pair .bool (.pair (.slice 5 (.int .u8)) (.pair .bool (.pair (.slice 22 (.slice 5 (.int .u8))) (.slice 5 (.int .u8)))))), .one (.slice 5 (.int .u8))]) (h : Goods [.agg (.pair .bool (.pair (.slice 5 (.int .u8)) (.pair .bool (.pair (.slice 22 (.slice 5 (.int .u8))) (.slice 5 (.int .u8)))))), .one (.slice 5 (.int .u8))] b) : F11 b = some true :=
  F11_true (ses_of h.1).1 (bs_of h.2) (ses_of h.1).2
end Go.Proofs.Ytdidfddgoheomaa.R2
