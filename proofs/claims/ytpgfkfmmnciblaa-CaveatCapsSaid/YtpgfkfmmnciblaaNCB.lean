/- Part of a proof: what the program's functions come to. -/
import Derived.Test.YtpgfkfmmnciblaaNCA
set_option linter.unusedVariables false
set_option linter.unusedSimpArgs false
namespace Go.Proofs.Ytpgfkfmmnciblaa.R1
open Go Go.Fw Go.Proofs RB
abbrev MK : Ty := .int .u64
abbrev En := Int × Int
theorem anyOf_intro {α R : Type} {l : List α} {f : α → List α → Option R} {r : R} (hn : l ≠ []) (h : ∀ i x, l[i]? = some x → f x (l.eraseIdx i) = some r) : anyOf l f = some r := by
  unfold anyOf
  have hh : ∃ r, l ≠ [] ∧ ∀ i x, l[i]? = some x → f x (l.eraseIdx i) = some r := ⟨r, hn, h⟩
  rw [dif_pos hh]
  have := hh.choose_spec.2
  cases l with
  | nil => exact absurd rfl hn
  | cons x t =>
    have h1 := this 0 x rfl
    rw [h 0 x rfl] at h1
    exact h1.symm
theorem eqb_u (a b : Int) : eqb MK a b = decide (a = b) := rfl
def G (l : List En) (k : Int) : Int := mget MK MK (0 : Int) l k
def Hs (l : List En) (k : Int) : Bool := mhas MK MK l k
def Up (l : List En) (k v : Int) : List En := mput MK MK l k v
theorem G_cons (e : En) (r : List En) (k : Int) : G (e :: r) k = if k = e.1 then e.2 else G r k := by
  by_cases h : k = e.1 <;> simp [G, mget, eqb, h]
theorem Hs_cons (e : En) (r : List En) (k : Int) : Hs (e :: r) k = (decide (k = e.1) || Hs r k) := rfl
theorem Up_cons (e : En) (r : List En) (k v : Int) : Up (e :: r) k v = if k = e.1 then (k, v) :: r else e :: Up r k v := by
  by_cases h : k = e.1 <;> simp [Up, mput, eqb, h]
theorem G_up (k v q : Int) : ∀ a : List En, G (Up a k v) q = if q = k then v else G a q
  | [] => by simp [Up, G, mput, mget, eqb]
  | e :: r => by
    rw [Up_cons]
    by_cases h : k = e.1
    · rw [if_pos h, G_cons, G_cons]
      by_cases hq : q = k
      · simp [hq]
      · have : ¬ q = e.1 := fun h2 => hq (h2.trans h.symm)
        simp [hq, this]
    · rw [if_neg h, G_cons, G_cons, G_up k v q r]
      by_cases hq : q = k
      · have : ¬ q = e.1 := fun h2 => h (hq.symm.trans h2)
        simp [hq] at this ⊢
        simp [this]
      · simp [hq]
theorem Hs_up (k v q : Int) : ∀ a : List En, Hs (Up a k v) q = (decide (q = k) || Hs a q)
  | [] => by simp [Up, Hs, mput, mhas, eqb]
  | e :: r => by
    rw [Up_cons]
    by_cases h : k = e.1
    · rw [if_pos h, Hs_cons, Hs_cons, ← h]
      cases decide (q = k) <;> simp
    · rw [if_neg h, Hs_cons, Hs_cons, Hs_up k v q r]
      cases decide (q = e.1) <;> cases decide (q = k) <;> simp
theorem len_up (k v : Int) : ∀ a : List En, (Up a k v).length = if Hs a k = true then a.length else a.length + 1
  | [] => by simp [Up, Hs, mput, mhas]
  | e :: r => by
    rw [Up_cons, Hs_cons]
    by_cases h : k = e.1
    · simp [h]
    · simp only [if_neg h, List.length_cons, len_up k v r, decide_eq_false h, Bool.false_or]
      split <;> rfl
theorem mem_up {k v : Int} {x : En} : ∀ {a : List En}, x ∈ Up a k v → x = (k, v) ∨ x ∈ a
  | [], h => by simp [Up, mput] at h; exact .inl h
  | e :: r, h => by
    rw [Up_cons] at h
    split at h
    · rcases List.mem_cons.1 h with h | h
      · exact .inl h
      · exact .inr (List.mem_cons_of_mem _ h)
    · rcases List.mem_cons.1 h with h | h
      · exact .inr (by rw [h]; simp)
      · exact (mem_up h).imp_right (List.mem_cons_of_mem _)
theorem keys_up (k v : Int) : ∀ {a : List En}, (a.map (·.1)).Nodup → ((Up a k v).map (·.1)).Nodup
  | [], _ => by simp [Up, mput]
  | e :: r, h => by
    rw [Up_cons]
    simp only [List.map_cons, List.nodup_cons] at h
    by_cases hk : k = e.1
    · rw [if_pos hk]
      simp only [List.map_cons, List.nodup_cons]
      rw [hk]; exact h
    · rw [if_neg hk]
      simp only [List.map_cons, List.nodup_cons]
      refine ⟨fun hm => ?_, keys_up k v h.2⟩
      obtain ⟨x, hx, he⟩ := List.mem_map.1 hm
      rcases mem_up hx with rfl | hx
      · exact hk he
      · exact h.1 (List.mem_map.2 ⟨x, hx, he⟩)
theorem G_mem {e : En} : ∀ {a : List En}, (a.map (·.1)).Nodup → e ∈ a → G a e.1 = e.2 ∧ Hs a e.1 = true
  | [], _, h => by simp at h
  | x :: r, hn, h => by
    simp only [List.map_cons, List.nodup_cons] at hn
    rw [G_cons, Hs_cons]
    rcases List.mem_cons.1 h with rfl | h
    · simp
    · have : ¬ e.1 = x.1 := fun he => hn.1 (List.mem_map.2 ⟨e, h, he⟩)
      obtain ⟨h1, h2⟩ := G_mem hn.2 h
      simp [this, h1, h2]
/-- One caveat more. -/
def capS (m : List En) (c : Cv) : List En := if c.1 = 4 then (if Hs m c.2.2 = false ∨ c.2.1 < G m c.2.2 then Up m c.2.2 c.2.1 else m) else m
def capL (l : List Cv) : List En := l.foldl capS []
theorem capL_snoc (l : List Cv) (c : Cv) : capL (l ++ [c]) = capS (capL l) c := by simp [capL, List.foldl_append]
theorem capS_len (m : List En) (c : Cv) : m.length ≤ (capS m c).length ∧ (capS m c).length ≤ m.length + 1 := by
  unfold capS
  split
  · split
    · rw [len_up]; split <;> omega
    · omega
  · omega
theorem capL_len : ∀ (l : List Cv) (m : List En), (l.foldl capS m).length ≤ m.length + l.length
  | [], m => by simp
  | c :: r, m => by
    simp only [List.foldl_cons, List.length_cons]
    have := capL_len r (capS m c)
    have := (capS_len m c).2
    omega
theorem capL_inv : ∀ (l : List Cv) (m : List En), (m.map (·.1)).Nodup → ((l.foldl capS m).map (·.1)).Nodup ∧ ∀ e ∈ l.foldl capS m, e ∈ m ∨ ∃ c ∈ l, c.1 = 4 ∧ c.2.2 = e.1 ∧ c.2.1 = e.2
  | [], m, h => ⟨h, fun e he => .inl he⟩
  | c :: r, m, h => by
    simp only [List.foldl_cons]
    have hn : ((capS m c).map (·.1)).Nodup := by
      unfold capS
      split
      · split
        · exact keys_up _ _ h
        · exact h
      · exact h
    obtain ⟨h1, h2⟩ := capL_inv r (capS m c) hn
    refine ⟨h1, fun e he => ?_⟩
    rcases h2 e he with h3 | ⟨d, hd, hh⟩
    · unfold capS at h3
      split at h3
      · rename_i h4
        split at h3
        · rcases mem_up h3 with rfl | h3
          · exact .inr ⟨c, by simp, h4, rfl, rfl⟩
          · exact .inl h3
        · exact .inl h3
      · exact .inl h3
    · exact .inr ⟨d, by simp [hd], hh⟩
theorem capS_get {a : List En} (hn : (a.map (·.1)).Nodup) {e : En} (he : e ∈ a) (c : Cv) : Hs (capS a c) e.1 = true ∧ (G (capS a c) e.1 = e.2 ∨ (c.1 = 4 ∧ c.2.2 = e.1 ∧ G (capS a c) e.1 = c.2.1 ∧ c.2.1 < e.2)) := by
  obtain ⟨g1, g2⟩ := G_mem hn he
  unfold capS
  split
  · rename_i h4
    split
    · rename_i h
      rw [Hs_up, G_up]
      by_cases hq : e.1 = c.2.2
      · refine ⟨by simp [hq], .inr ⟨h4, hq.symm, by simp [hq], ?_⟩⟩
        rw [← hq, g1, g2] at h
        rcases h with h | h
        · simp at h
        · exact h
      · simp only [hq, if_false, g1, g2, Bool.or_true]
        exact ⟨trivial, .inl trivial⟩
    · exact ⟨g2, .inl g1⟩
  · exact ⟨g2, .inl g1⟩
def caps (l : List Cv) : List En × Int := if l.length ≤ 16 ∧ l.all (fun c => decide (chk c = 0)) = true then (capL l, 0) else ([], 1)
theorem F27_eq {l : List Cv} (hl : ∀ c ∈ l, CvOk c) : F27 l = some (caps l) := by
  unfold F27 caps
  by_cases h1 : 16 < l.length
  · have : (16 : Int) < (l.length : Int) := by omega
    have h2 : ¬ l.length ≤ 16 := by omega
    simp [this, h2]
  · have h0 : ¬ (16 : Int) < (l.length : Int) := by omega
    have h2 : l.length ≤ 16 := by omega
    simp only [h0, decide_false, cond_false, h2, true_and]
    refine lfp_rule (fun x => ∃ i : Nat, x.2.1 = (i : Int) ∧ i ≤ l.length ∧ (l.take i).all (fun c => decide (chk c = 0)) = true ∧ x.2.2 = capL (l.take i)) (fun x => l.length - x.2.1.toNat)
        (fun _ => if l.all (fun c => decide (chk c = 0)) = true then (capL l, 0) else ([], 1)) ?_ (0, 0, []) ⟨0, rfl, by omega, rfl, rfl⟩
    rintro ⟨v1, i', v3⟩ ⟨i, rfl, hi, hall, hv⟩ rec hrec
    simp only at hv
    subst hv
    simp only
    by_cases hlt : i < l.length
    · have k1 : (i : Int) < (l.length : Int) := by omega
      obtain ⟨hh, hrd⟩ := rd_get (t := .pair (.int .i64) (.pair (.int .u64) (.int .u64))) (l := l) (i := i) (by omega) k1
      have hrd2 : rd (.pair (.int .i64) (.pair (.int .u64) (.int .u64))) l i = l[i] := by rw [hrd]; simp
      have hc : CvOk l[i] := hl _ (List.getElem_mem _)
      have ht : l.take (i + 1) = l.take i ++ [l[i]] := by rw [List.take_add_one, List.getElem?_eq_getElem hlt, Option.toList_some]
      simp only [k1, decide_true, cond_true, inb_true (Int.natCast_nonneg i) k1, hrd2, Prod.eta, F30_eq hc, Option.bind_some]
      rw [wrap_i64 (n := (i : Int) + 1) (by omega) (by omega)]
      by_cases hk : chk l[i] = 0
      · have next : ∀ m, m = capL (l.take (i + 1)) → rec (v1, (i : Int) + 1, m) = some (if l.all (fun c => decide (chk c = 0)) = true then (capL l, 0) else ([], 1)) := by
          intro m hm
          refine hrec _ ⟨i + 1, by simp, by omega, ?_, hm⟩ (by simp only; omega)
          rw [ht, List.all_append, hall]; simp [hk]
        rw [ht, capL_snoc] at next
        unfold capS at next
        simp only [hk, decide_true, Bool.not_true, cond_false]
        by_cases h4 : l[i].1 = 4
        · simp only [h4, decide_true, Bool.not_true, cond_false, if_true] at next ⊢
          change (bif (bif !(Hs (capL (l.take i)) l[i].2.2) then true else decide (l[i].2.1 < G (capL (l.take i)) l[i].2.2)) then rec (v1, (i : Int) + 1, Up (capL (l.take i)) l[i].2.2 l[i].2.1) else rec (v1, (i : Int) + 1, capL (l.take i))) = _
          cases hH : Hs (capL (l.take i)) l[i].2.2 with
          | false =>
            simp only [Bool.not_false, cond_true]
            exact next _ (by simp [hH])
          | true =>
            simp only [Bool.not_true, cond_false]
            by_cases hlt2 : l[i].2.1 < G (capL (l.take i)) l[i].2.2
            · simp only [hlt2, decide_true, cond_true]
              exact next _ (by simp [hlt2])
            · simp only [hlt2, decide_false, cond_false]
              exact next _ (by simp [hH, hlt2])
        · simp only [h4, decide_false, Bool.not_false, cond_true, if_false] at next ⊢
          exact next _ rfl
      · have : ¬ l.all (fun c => decide (chk c = 0)) = true := fun h => by
          have := List.all_eq_true.1 h _ (List.getElem_mem hlt)
          exact hk (by simpa using this)
        rcases chk_01 l[i] with h | h
        · exact absurd h hk
        · simp [h, this]
    · have k1 : ¬ (i : Int) < (l.length : Int) := by omega
      rw [List.take_of_length_le (by omega)] at hall ⊢
      simp only [k1, decide_false, cond_false, hall, if_true]
theorem F9_true {l : List Cv} {c : Cv} {u : Us} (hl : ∀ c ∈ l, CvOk c) (hc : CvOk c) (hu : UsOk u) : F9 (l, c, u) = some true := by
  have hlc : ∀ d ∈ l ++ [c], CvOk d := fun d hd => by
    rcases List.mem_append.1 hd with h | h
    · exact hl d h
    · rw [List.mem_singleton.1 h]; exact hc
  unfold F9
  simp only [F23_eq, Option.bind_some, Bool.not_true, cond_false, Prod.eta, F27_eq hl]
  by_cases h15 : (15 : Int) < (l.length : Int)
  · simp [h15]
  simp only [h15, decide_false, cond_false, Bool.or_true, cond_true]
  have g1 : decide ((([] : List Cv).length + l.length) * 24 ≤ LIM) = true := decide_eq_true (by simp only [List.length_nil, LIM]; omega)
  have g2 : decide ((l.length + 1) * 24 ≤ LIM) = true := decide_eq_true (by simp only [LIM]; omega)
  simp only [both_self, g1, g2, cond_true, List.nil_append, F27_eq hlc, F24_eq hl hu, Option.bind_some]
  clear g1 g2
  have h16 : (l ++ [c]).length ≤ 16 := by simp; omega
  have h16' : l.length ≤ 16 := by omega
  unfold caps
  by_cases hall : (l ++ [c]).all (fun c => decide (chk c = 0)) = true
  · have hal : l.all (fun c => decide (chk c = 0)) = true := by
      rw [List.all_append, Bool.and_eq_true] at hall
      exact hall.1
    simp only [h16, h16', hall, hal, and_self, if_true, capL_snoc]
    obtain ⟨hnd, hsrc⟩ := capL_inv l [] (by simp)
    change ((capL l).map (·.1)).Nodup at hnd
    change ∀ e ∈ capL l, _ at hsrc
    have hlen := capL_len l []
    change (capL l).length ≤ _ at hlen
    simp only [List.length_nil, Nat.zero_add] at hlen
    obtain ⟨q1, q2⟩ := capS_len (capL l) c
    have b1 : (capL l).length ≤ 9223372036854775807 := by omega
    have b2 : (capS (capL l) c).length ≤ 9223372036854775807 := by omega
    have b3 : ¬ ((capS (capL l) c).length : Int) < ((capL l).length : Int) := by omega
    have b4 : ¬ IntKind.wrap .i64 (((capL l).length : Int) + 1) < ((capS (capL l) c).length : Int) := by rw [wrap_i64 (by omega) (by omega)]; omega
    simp only [b1, b2, b3, b4, decide_true, decide_false, Bool.not_true, Bool.not_false, cond_true, cond_false, beq_self_eq_true]
    refine lfp_rule (fun x => ∀ e ∈ x.2, e ∈ capL l) (fun x => x.2.length) (fun _ => true) ?_ (false, capL l) (fun e h => h)
    rintro ⟨v, left⟩ hleft rec hrec
    simp only at hleft ⊢
    by_cases hn : left = []
    · simp [hn]
    · have hie : left.isEmpty = false := by cases left <;> simp_all
      simp only [hie, cond_false]
      refine anyOf_intro hn fun i e hi => ?_
      have he : e ∈ capL l := hleft e (List.mem_of_getElem? hi)
      have hilt : i < left.length := (List.getElem?_eq_some_iff.1 hi).1
      have hrest : rec (v, left.eraseIdx i) = some true := hrec _ (fun e' h' => hleft e' (List.mem_of_mem_eraseIdx h')) (by simp only [List.length_eraseIdx]; rw [if_pos hilt]; omega)
      have hfin : (bif (bif (bif decide ((allC l u).2 = 0) then (allC l u).1 else false) then decide (e.2 < u.2.2.1) else false) then some false else rec (v, left.eraseIdx i)) = some true := by
        by_cases hm : may u = true
        · have hac : allC l u = (l.all (fun c => holds c u), 0) := by unfold allC; simp [h16', hm, hal]
          rw [hac]
          simp only [decide_true, cond_true]
          cases hh : l.all (fun c => holds c u) with
          | false => simpa using hrest
          | true =>
            rcases hsrc e he with h | ⟨d, hd, d1, d2, d3⟩
            · simp at h
            · have := List.all_eq_true.1 hh d hd
              unfold holds at this
              simp only [d1, show ¬ ((4 : Int) = 1) by omega, show ¬ ((4 : Int) = 2) by omega, show ¬ ((4 : Int) = 5) by omega, if_false, decide_eq_true_eq] at this
              have : ¬ e.2 < u.2.2.1 := by rw [← d3]; omega
              simpa [this] using hrest
        · have hac : allC l u = (false, 1) := by unfold allC; simp [hm]
          rw [hac]
          simpa using hrest
      obtain ⟨k1, k2⟩ := capS_get hnd he c
      change mhas (.int .u64) (.int .u64) (capS (capL l) c) e.1 = true at k1
      change mget (.int .u64) (.int .u64) (0 : Int) (capS (capL l) c) e.1 = e.2 ∨ (c.1 = 4 ∧ c.2.2 = e.1 ∧ mget (.int .u64) (.int .u64) (0 : Int) (capS (capL l) c) e.1 = c.2.1 ∧ c.2.1 < e.2) at k2
      rcases k2 with k2 | ⟨k2, k3, k4, k5⟩
      · simp only [k1, k2, Bool.not_true, cond_false, show ¬ e.2 < e.2 from Int.lt_irrefl _, decide_false, beq_self_eq_true, cond_true, decide_true, show (false == true) = false from rfl]
        exact hfin
      · have n1 : ¬ e.2 < c.2.1 := by omega
        have n2 : ¬ c.2.1 = e.2 := by omega
        simp only [k1, k2, k3, k4, n1, n2, Bool.not_true, Bool.not_false, cond_false, cond_true, decide_false, decide_true, beq_self_eq_true]
        exact hfin
  · simp [hall]
theorem pure9 (b : dens [.one (.slice 40 (.pair (.int .i64) (.pair (.int .u64) (.int .u64)))), .agg (.pair (.int .i64) (.pair (.int .u64) (.int .u64))), .agg (.pair (.int .u64) (.pair (.int .i64) (.pair (.int .u64) (.int .u64))))])
    (h : Goods [.one (.slice 40 (.pair (.int .i64) (.pair (.int .u64) (.int .u64)))), .agg (.pair (.int .i64) (.pair (.int .u64) (.int .u64))), .agg (.pair (.int .u64) (.pair (.int .i64) (.pair (.int .u64) (.int .u64))))] b) : F9 b = some true :=
  F9_true (l := b.1) (c := b.2.1) (u := b.2.2) (fun c hc => cv_of (h.1.2 c hc)) (cv_of h.2.1) (us_of h.2.2)
end Go.Proofs.Ytpgfkfmmnciblaa.R1
