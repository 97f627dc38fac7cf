/- Part of a proof: what the program's functions come to. -/
import Derived.Test.YtdidfddgoheomaaCD6
set_option linter.unusedVariables false
set_option linter.unusedSimpArgs false
namespace Go.Proofs.Ytdidfddgoheomaa.R2
open Go Go.Fw Go.Proofs RB
theorem parse_half : ∀ (n : Nat) (l : List Int) (out : List (List Int)), l.length ≤ n → Bytes l → 2 * (parse out l).2.length ≤ l.length + 2 * out.length := by
  intro n
  induction n with
  | zero =>
    intro l out h hb
    have : l = [] := List.length_eq_zero_iff.1 (by omega)
    subst this
    rw [parse_nil]; simp
  | succ n ih =>
    intro l out h hb
    rw [parse]
    split
    · simp
    · split
      · simp
      · split
        · simp
        · split
          · rename_i c1 c2 c3 c4
            have := ih (l.drop (2 + hlen l).toNat) (out ++ [(l.take (2 + hlen l).toNat).drop 2]) (by rw [List.length_drop]; omega) (bytes_drop hb _)
            rw [List.length_drop, List.length_append, List.length_singleton] at this
            omega
          · simp
theorem parse_few {buf piece : List Int} (hb : Bytes buf) (hp : Bytes piece) (hc : chkR (buf, false) = 0) (h1 : 1 ≤ piece.length) (h16 : piece.length ≤ 16) : (parse [] (buf ++ piece)).2.length ≤ 8 := by
  have hbp := bytes_append hb hp
  have hh := hlen_nonneg hbp
  rw [parse]
  split
  · simp
  · split
    · simp
    · split
      · simp
      · split
        · rename_i c1 c2 c3 c4
          have hlt : (buf.length : Int) < 2 + hlen (buf ++ piece) := by
            by_cases h2 : 2 ≤ buf.length
            · rw [hlen_app h2]
              unfold chkR at hc
              by_cases c : ((buf, false) : Rdr).2 = true ∧ ((buf, false) : Rdr).1 ≠ [] ∨ 2 ≤ ((buf, false) : Rdr).1.length ∧ (4096 < hlen ((buf, false) : Rdr).1 ∨ 2 + hlen ((buf, false) : Rdr).1 ≤ (((buf, false) : Rdr).1.length : Int))
              · rw [if_pos c] at hc; simp at hc
              · simp only [not_or, not_and] at c
                have := (c.2 h2).2
                omega
            · omega
          have := parse_half _ ((buf ++ piece).drop (2 + hlen (buf ++ piece)).toNat) ([] ++ [((buf ++ piece).take (2 + hlen (buf ++ piece)).toNat).drop 2]) (Nat.le_refl _) (bytes_drop hbp _)
          rw [List.length_drop, List.length_append, List.length_append] at this
          simp only [List.length_nil, List.length_singleton] at this
          omega
        · simp
theorem feed_round {buf oct : List Int} {rest : List (List Int)} {n : Nat} (hb : Bytes buf) (ho : Bytes oct) (hc : chkR (buf, false) = 0) (hp : parse [] (buf ++ oct) = (([], false), rest)) (hn1 : 1 ≤ n) (hn16 : n ≤ 16) (hno : n ≤ oct.length) :
    ∃ rb fs rest', feedS (buf, false) (oct.take n) = ((rb, false), fs, 0) ∧ rest = fs ++ rest' ∧ parse [] (rb ++ oct.drop n) = (([], false), rest') ∧ Bytes rb ∧ chkR (rb, false) = 0 ∧ fs.length ≤ 8 ∧ ∀ f ∈ fs, f.length ≤ 4096 := by
  have hbt := bytes_take ho n
  have htl : (oct.take n).length = n := by rw [List.length_take]; omega
  have hpc := parse_chk _ (buf ++ oct.take n) [] (Nat.le_refl _) (bytes_append hb hbt)
  have hpe := parse_each _ (buf ++ oct.take n) [] (Nat.le_refl _)
  have hpf := parse_few hb hbt hc (by omega) (by omega)
  have hpa := parse_append _ (buf ++ oct.take n) (oct.drop n) [] (Nat.le_refl _) (bytes_append hb hbt)
  rw [List.append_assoc, List.take_append_drop, hp] at hpa
  have hfe : feedS (buf, false) (oct.take n) = ((parse [] (buf ++ oct.take n)).1, (parse [] (buf ++ oct.take n)).2, 0) := by
    unfold feedS
    rw [if_neg (by simpa using hc), if_neg (by omega)]
    simp
  generalize hq : parse [] (buf ++ oct.take n) = pq at hpc hpe hpf hpa hfe
  obtain ⟨⟨rb, bad⟩, fs⟩ := pq
  unfold feedR at hpa
  cases bad with
  | true => simp at hpa
  | false =>
    simp only [Bool.false_eq_true, if_false] at hpa
    rw [parse_out _ _ _ (Nat.le_refl _)] at hpa
    simp only [Prod.mk.injEq] at hpa
    refine ⟨rb, fs, (parse [] (rb ++ oct.drop n)).2, hfe, hpa.2, ?_, hpc.2.1, hpc.1, hpf, fun f hf => ?_⟩
    · rw [show (([], false) : Rdr) = (parse [] (rb ++ oct.drop n)).1 from hpa.1]
    · rcases hpe f hf with h | h
      · simp at h
      · exact h
theorem ok_pop {live : Bool} {buf : List Int} {bad : Bool} {f : List Int} {fr : List (List Int)} {out : List Int} (h : OkS (live, (buf, (bad, (f :: fr, out))))) : OkS (live, (buf, (bad, (fr, out)))) :=
  ⟨by have := h.fr; simp only [List.length_cons] at this ⊢; omega, h.out, fun x hx => h.each x (List.mem_cons_of_mem _ hx), h.buf, h.rdr⟩
theorem fr_small {s : Ses} (h : OkS s) : s.2.2.2.1.length ≤ 9223372036854775807 := by have := h.fr; omega
theorem pop_eq {buf : List Int} {f : List Int} {fr : List (List Int)} {out : List Int} (hb : Bytes buf) (h : OkS (true, (buf, (false, (f :: fr, out))))) : F35 (true, (buf, (false, (f :: fr, out)))) = some (f, (true, (buf, (false, (fr, out)))), 0) := by
  rw [F35_eq (s := (true, (buf, (false, (f :: fr, out))))) hb (fr_small h)]
  unfold nextS; rw [red_of h rfl]; simp
theorem pop_nil {buf : List Int} {out : List Int} (hb : Bytes buf) (h : OkS (true, (buf, (false, ([], out))))) : F35 (true, (buf, (false, ([], out)))) = some ([], nulS, 5) := by
  rw [F35_eq (s := (true, (buf, (false, ([], out))))) hb (fr_small h)]
  unfold nextS; rw [red_of h rfl]; simp
theorem F39_ok {buf : List Int} {fr : List (List Int)} {out : List Int} (hb : Bytes buf) (h : OkS (true, (buf, (false, (fr, out))))) : F39 (true, (buf, (false, (fr, out)))) = some 0 := by
  rw [F39_eq (s := (true, (buf, (false, (fr, out))))) hb (fr_small h)]
  have := red_of h rfl
  unfold redS at this
  rw [if_pos (.inr rfl)] at this
  rw [this]
theorem last_loop {l got : List (List Int)} {buf : List Int} {fr : List (List Int)} (hb : Bytes buf) (hok : OkS (true, (buf, (false, (fr, []))))) (hl0 : got ++ fr = l) (hl : l.length ≤ 40) :
    lfp
              (fun (rec27 : (List (List Int) × Int × Ses) → Option Bool) (x27 : List (List Int) × Int × Ses) =>
                bif decide (x27.2.1 < 8) then
                  (F35 x27.2.2).bind fun r28 =>
                    bif decide (r28.2.2 = 0) then
                      bif decide ((x27.1.length + 1) * 24 ≤ LIM) then
                        rec27 (x27.1 ++ [r28.1], IntKind.i64.wrap (x27.2.1 + 1), r28.2.1)
                      else none
                    else rec27 (x27.1, IntKind.i64.wrap (x27.2.1 + 1), x27.2.2)
                else
                  bif decide ((x27.2.2.2.2.2.1.length : Int) = 0) == true then
                    (F17 (x27.1, l)).bind fun r29 => some r29
                  else some false)
              (got, 0, (true, (buf, (false, (fr, []))))) = some true := by
  refine lfp_rule (fun x => ∃ (j : Nat) (fr : List (List Int)), x.2.1 = (j : Int) ∧ j ≤ 8 ∧ x.2.2 = (true, (buf, (false, (fr, [])))) ∧ OkS (true, (buf, (false, (fr, [])))) ∧ x.1 ++ fr = l ∧ fr.length ≤ 8 - j) (fun x => 8 - x.2.1.toNat) (fun _ => true) ?_ _ ⟨0, fr, rfl, by omega, rfl, hok, hl0, by have := hok.fr; simpa using this⟩
  rintro ⟨got, j', s⟩ ⟨j, fr, hj', hj, hs, hok, hl0, hfl⟩ rec hrec
  simp only at hj' hs hl0
  subst hj' hs
  simp only
  have hgl : got.length + fr.length ≤ 40 := by rw [← List.length_append, hl0]; exact hl
  by_cases h8 : j < 8
  · have h8' : (j : Int) < 8 := by omega
    have hgk : (got.length + 1) * 24 ≤ LIM := by unfold LIM; omega
    have hw : IntKind.i64.wrap ((j : Int) + 1) = ((j + 1 : Nat) : Int) := by rw [wrap_i64 (by omega) (by omega)]; simp
    simp only [h8', decide_true, cond_true]
    cases fr with
    | nil =>
      simp only [pop_nil hb hok, Option.bind_some, show decide ((5 : Int) = 0) = false from rfl, cond_false, hw]
      exact hrec _ ⟨j + 1, [], rfl, by omega, rfl, hok, hl0, by simp⟩ (by simp only; omega)
    | cons f fr' =>
      simp only [pop_eq hb hok, Option.bind_some, decide_true, cond_true, hgk, hw]
      exact hrec _ ⟨j + 1, fr', rfl, by omega, rfl, ok_pop hok, by rw [← hl0]; simp, by simp only [List.length_cons] at hfl; omega⟩ (by simp only; omega)
  · have h8' : ¬ (j : Int) < 8 := by omega
    have : fr = [] := List.length_eq_zero_iff.1 (by omega)
    subst this
    rw [List.append_nil] at hl0
    subst hl0
    simp only [h8', decide_false, cond_false, List.length_nil]
    rw [F17_eq (by omega)]
    simp
/-- SessionOrder -/
theorem F8_true {l : List (List Int)} {a : List Int} (ha : Bytes a) (hlb : ∀ f ∈ l, Bytes f) (hl : l.length ≤ 1048576) : F8 (l, a) = some true := by
  unfold F8
  rw [show ((false, ([], (false, ([], [])))) : Ses) = nulS from rfl]
  simp only [both_self, Prod.eta, F26_eq, Option.bind_some, Bool.not_true, cond_false, F38_eq hl, up_nul, decide_true]
  by_cases hok : okFs l = true
  · simp only [hok, if_true, Bool.not_true, cond_false]
    by_cases h40 : 40 < l.length
    · have : (40 : Int) < (l.length : Int) := by omega
      simp only [this, decide_true, cond_true]
    · have : ¬ (40 : Int) < (l.length : Int) := by omega
      simp only [this, decide_false, cond_false]
      have hfl := frs_len l (okFs_mem hok)
      have hbytes : Bytes (l.flatMap fr1) := by
        intro n hn
        obtain ⟨f, hf, hnf⟩ := List.mem_flatMap.1 hn
        exact putF_bytes (hlb f hf) n hnf
      have hparse0 : ∀ (m : List (List Int)) (out : List (List Int)), (∀ f ∈ m, f.length ≤ 100) → parse out (m.flatMap fr1) = (([], false), out ++ m) := by
        intro m
        induction m with
        | nil => intro out _; simp [parse_nil]
        | cons f r ih =>
          intro out h
          rw [List.flatMap_cons]
          have := h f (by simp)
          unfold fr1 at ih ⊢
          rw [parse_frame (by omega), ih _ (fun x hx => h x (by simp [hx]))]
          simp
      refine lfp_rule (fun x => ∃ (i : Nat) (buf : List Int) (fr rest : List (List Int)), x.2.2.2.1 = (i : Int) ∧ i + (9 * x.2.1.length + fr.length) ≤ 50000 ∧ x.2.2.2.2 = (true, (buf, (false, (fr, [])))) ∧ Bytes buf ∧ Bytes x.2.1 ∧ OkS (true, (buf, (false, (fr, [])))) ∧ parse [] (buf ++ x.2.1) = (([], false), rest) ∧ x.2.2.1 ++ (fr ++ rest) = l)
        (fun x => 9 * x.2.1.length + x.2.2.2.2.2.2.2.1.length)
        (fun _ => true) ?_ (false, l.flatMap fr1, ([] : List (List Int)), 0, upS) ⟨0, [], [], l, rfl, by simp only [List.length_nil]; omega, rfl, by intro n hn; simp at hn, hbytes, ok_up, by rw [List.nil_append, hparse0 l [] (okFs_mem hok)]; simp, by simp⟩
      rintro ⟨q, oct, got, i', s⟩ ⟨i, buf, fr, rest, hi', hmu, hs, hbb, hoct, hokS, hparse, hl0⟩ rec hrec
      simp only at hi' hs hmu hoct hparse hl0
      subst hi' hs
      simp only at hrec ⊢
      have hchk : chkR (buf, false) = 0 := hokS.rdr
      have hgl : got.length + (fr.length + rest.length) ≤ 40 := by rw [← List.length_append, ← List.length_append, hl0]; omega
      have hgk : (got.length + 1) * 24 ≤ LIM := by unfold LIM; omega
      have hw : IntKind.wrap .i64 ((i : Int) + 1) = ((i + 1 : Nat) : Int) := by rw [wrap_i64 (by omega) (by omega)]; simp
      have hnext : ∀ (oct2 : List Int) (got2 : List (List Int)) (buf2 : List Int) (fr2 rest2 : List (List Int)), 9 * oct2.length + fr2.length < 9 * oct.length + fr.length → Bytes buf2 → Bytes oct2 → OkS (true, (buf2, (false, (fr2, [])))) → parse [] (buf2 ++ oct2) = (([], false), rest2) → got2 ++ (fr2 ++ rest2) = l →
          rec (q, oct2, got2, IntKind.wrap .i64 ((i : Int) + 1), (true, (buf2, (false, (fr2, []))))) = some true := by
        intro oct2 got2 buf2 fr2 rest2 h1 h2 h3 h4 h5 h6
        rw [hw]
        exact hrec _ ⟨i + 1, buf2, fr2, rest2, rfl, by simp only; omega, rfl, h2, h3, h4, h5, h6⟩ h1
      have hfr8 := hokS.fr
      simp only at hfr8
      by_cases hoc : 0 < oct.length
      · have hoc' : (0 : Int) < (oct.length : Int) := by omega
        simp only [hoc', decide_true, cond_true]
        have hlen2 : oct.length ≤ 50000 := by omega
        by_cases hia : i < a.length
        · have k2 : ((i : Int) < (a.length : Int)) := by omega
          have hby := ha _ (List.getElem_mem hia)
          simp only [k2, decide_true, cond_true, inb_true (Int.natCast_nonneg i) k2, rd_nat (t := .int .u8) hia]
          generalize hN : (if (oct.length : Int) < IntKind.wrap .i64 (IntKind.wrap .i64 (Int.tmod a[i] 16) + 1) then (oct.length : Int) else IntKind.wrap .i64 (IntKind.wrap .i64 (Int.tmod a[i] 16) + 1)) = N
          obtain ⟨n, hn1, hn16, hno, rfl⟩ : ∃ n : Nat, 1 ≤ n ∧ n ≤ 16 ∧ n ≤ oct.length ∧ N = (n : Int) := by
            obtain ⟨h0, h1⟩ := hby
            have e1 : Int.tmod a[i] 16 = a[i] % 16 := Int.tmod_eq_emod_of_nonneg h0
            rw [e1, wrap_i64 (n := a[i] % 16) (by omega) (by omega), wrap_i64 (by omega) (by omega)] at hN
            refine ⟨N.toNat, ?_, ?_, ?_, ?_⟩ <;> (subst hN; split <;> omega)
          clear hN
          obtain ⟨rb, fs, rest', hfeed, hrest, hpar, hrb, hrc, hf8, hfe⟩ := feed_round hbb hoct hchk hparse hn1 hn16 hno
          have hear : hearS (true, (buf, (false, (fr, [])))) (oct.take n) = if 8 < fr.length + fs.length then (nulS, 0, 7) else ((true, (rb, (false, (fr ++ fs, [])))), (fs.length : Int), 0) := by
            unfold hearS
            rw [red_of hokS rfl]
            simp only [hfeed]
            simp
          have hin : inb (n : Int) (oct.length + 1) = true := inb_true (by omega) (by omega)
          simp only [hin, cond_true, Int.toNat_natCast, F33_eq (s := (true, (buf, (false, (fr, []))))) hbb (bytes_take hoct n) (by simp only; omega), hear, Option.bind_some]
          by_cases hfull : 8 < fr.length + fs.length
          · obtain ⟨f, fr', rfl⟩ : ∃ f fr', fr = f :: fr' := by
              cases fr with
              | nil => simp at hfull; omega
              | cons f r => exact ⟨f, r, rfl⟩
            have okp := ok_pop hokS
            have hlc : (f :: fr').length = fr'.length + 1 := rfl
            have e0 : ¬ (((f :: fr').length : Nat) : Int) = 0 := by rw [hlc]; omega
            simp only [hfull, if_true, show decide ((7 : Int) = 0) = false from rfl, cond_false, decide_true, Bool.not_true, e0, decide_false, show ((true == false) = false) from rfl, pop_eq hbb hokS, Option.bind_some, hgk, cond_true, F39_ok hbb okp]
            exact hnext _ _ _ fr' rest (by simp only [List.length_cons] at hmu ⊢; omega) hbb hoct okp hparse (by rw [← hl0]; simp)
          · have okn : OkS (true, (rb, (false, (fr ++ fs, [])))) := by
              refine ⟨by simp only [List.length_append]; omega, by simp, fun x hx => ?_, chkR_len hrc, hrc⟩
              rcases List.mem_append.1 hx with hx | hx
              · exact hokS.each x hx
              · exact hfe x hx
            have hod := bytes_drop hoct n
            have hdl : (oct.drop n).length = oct.length - n := List.length_drop
            simp only [hfull, if_false, decide_true, cond_true, show decide ((0 : Int) = 7) = false from rfl, show ((false == false) = true) from rfl]
            generalize hc : (bif decide (Int.tmod (i : Int) 3 = 0) then decide (0 < (((fr ++ fs).length : Nat) : Int)) else false) = c
            cases c with
            | true =>
              have hpos : 0 < (fr ++ fs).length := by
                cases hd : decide (Int.tmod (i : Int) 3 = 0) with
                | false => rw [hd] at hc; simp at hc
                | true => rw [hd] at hc; simp only [cond_true, decide_eq_true_eq] at hc; omega
              obtain ⟨f, fr', hff⟩ : ∃ f fr', fr ++ fs = f :: fr' := by
                cases hq : fr ++ fs with
                | nil => rw [hq] at hpos; simp at hpos
                | cons f r => exact ⟨f, r, rfl⟩
              rw [hff] at okn
              have okp := ok_pop okn
              have hlf : fr.length + fs.length = fr'.length + 1 := by rw [← List.length_append, hff]; rfl
              simp only [cond_true, hff, pop_eq hrb okn, Option.bind_some, decide_true, Bool.not_true, cond_false, hgk, F39_ok hrb okp]
              exact hnext _ _ _ fr' rest' (by rw [hdl]; omega) hrb hod okp hpar (by rw [← hl0, hrest, show fr ++ (fs ++ rest') = (f :: fr') ++ rest' by rw [← List.append_assoc, hff]]; simp)
            | false =>
              simp only [cond_false, F39_ok hrb okn, Option.bind_some, decide_true, Bool.not_true]
              exact hnext _ _ _ (fr ++ fs) rest' (by rw [hdl, List.length_append]; omega) hrb hod okn hpar (by rw [← hl0, hrest]; simp)
        · have k2 : ¬ ((i : Int) < (a.length : Int)) := by omega
          simp only [k2, decide_false, cond_false]
          generalize hN : (if (oct.length : Int) < 3 then (oct.length : Int) else 3) = N
          obtain ⟨n, hn1, hn16, hno, rfl⟩ : ∃ n : Nat, 1 ≤ n ∧ n ≤ 16 ∧ n ≤ oct.length ∧ N = (n : Int) := by
            refine ⟨N.toNat, ?_, ?_, ?_, ?_⟩ <;> (subst hN; split <;> omega)
          clear hN
          obtain ⟨rb, fs, rest', hfeed, hrest, hpar, hrb, hrc, hf8, hfe⟩ := feed_round hbb hoct hchk hparse hn1 hn16 hno
          have hear : hearS (true, (buf, (false, (fr, [])))) (oct.take n) = if 8 < fr.length + fs.length then (nulS, 0, 7) else ((true, (rb, (false, (fr ++ fs, [])))), (fs.length : Int), 0) := by
            unfold hearS
            rw [red_of hokS rfl]
            simp only [hfeed]
            simp
          have hin : inb (n : Int) (oct.length + 1) = true := inb_true (by omega) (by omega)
          simp only [hin, cond_true, Int.toNat_natCast, F33_eq (s := (true, (buf, (false, (fr, []))))) hbb (bytes_take hoct n) (by simp only; omega), hear, Option.bind_some]
          by_cases hfull : 8 < fr.length + fs.length
          · obtain ⟨f, fr', rfl⟩ : ∃ f fr', fr = f :: fr' := by
              cases fr with
              | nil => simp at hfull; omega
              | cons f r => exact ⟨f, r, rfl⟩
            have okp := ok_pop hokS
            have hlc : (f :: fr').length = fr'.length + 1 := rfl
            have e0 : ¬ (((f :: fr').length : Nat) : Int) = 0 := by rw [hlc]; omega
            simp only [hfull, if_true, show decide ((7 : Int) = 0) = false from rfl, cond_false, decide_true, Bool.not_true, e0, decide_false, show ((true == false) = false) from rfl, pop_eq hbb hokS, Option.bind_some, hgk, cond_true, F39_ok hbb okp]
            exact hnext _ _ _ fr' rest (by simp only [List.length_cons] at hmu ⊢; omega) hbb hoct okp hparse (by rw [← hl0]; simp)
          · have okn : OkS (true, (rb, (false, (fr ++ fs, [])))) := by
              refine ⟨by simp only [List.length_append]; omega, by simp, fun x hx => ?_, chkR_len hrc, hrc⟩
              rcases List.mem_append.1 hx with hx | hx
              · exact hokS.each x hx
              · exact hfe x hx
            have hod := bytes_drop hoct n
            have hdl : (oct.drop n).length = oct.length - n := List.length_drop
            simp only [hfull, if_false, decide_true, cond_true, show decide ((0 : Int) = 7) = false from rfl, show ((false == false) = true) from rfl]
            generalize hc : (bif decide (Int.tmod (i : Int) 3 = 0) then decide (0 < (((fr ++ fs).length : Nat) : Int)) else false) = c
            cases c with
            | true =>
              have hpos : 0 < (fr ++ fs).length := by
                cases hd : decide (Int.tmod (i : Int) 3 = 0) with
                | false => rw [hd] at hc; simp at hc
                | true => rw [hd] at hc; simp only [cond_true, decide_eq_true_eq] at hc; omega
              obtain ⟨f, fr', hff⟩ : ∃ f fr', fr ++ fs = f :: fr' := by
                cases hq : fr ++ fs with
                | nil => rw [hq] at hpos; simp at hpos
                | cons f r => exact ⟨f, r, rfl⟩
              rw [hff] at okn
              have okp := ok_pop okn
              have hlf : fr.length + fs.length = fr'.length + 1 := by rw [← List.length_append, hff]; rfl
              simp only [cond_true, hff, pop_eq hrb okn, Option.bind_some, decide_true, Bool.not_true, cond_false, hgk, F39_ok hrb okp]
              exact hnext _ _ _ fr' rest' (by rw [hdl]; omega) hrb hod okp hpar (by rw [← hl0, hrest, show fr ++ (fs ++ rest') = (f :: fr') ++ rest' by rw [← List.append_assoc, hff]]; simp)
            | false =>
              simp only [cond_false, F39_ok hrb okn, Option.bind_some, decide_true, Bool.not_true]
              exact hnext _ _ _ (fr ++ fs) rest' (by rw [hdl, List.length_append]; omega) hrb hod okn hpar (by rw [← hl0, hrest]; simp)
      · have hoc' : ¬ (0 : Int) < (oct.length : Int) := by omega
        have : oct = [] := List.length_eq_zero_iff.1 (by omega)
        subst this
        rw [List.append_nil] at hparse
        have hst := chk_stays hchk rfl []
        rw [hst] at hparse
        simp only [Prod.mk.injEq] at hparse
        obtain ⟨⟨rfl, -⟩, rfl⟩ := hparse
        rw [List.append_nil] at hl0
        simp only [hoc', decide_false, cond_false]
        exact last_loop hbb hokS hl0 (by omega)
  · simp only [hok, Bool.false_eq_true, if_false, Bool.not_false, cond_true]
end Go.Proofs.Ytdidfddgoheomaa.R2
