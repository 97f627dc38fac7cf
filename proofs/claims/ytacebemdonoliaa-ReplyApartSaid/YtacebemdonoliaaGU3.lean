/- Part of a proof: what the program's functions come to. -/
import Derived.Test.YtacebemdonoliaaGU2
set_option linter.unusedVariables false
set_option linter.unusedSimpArgs false
namespace Go.Proofs.Ytacebemdonoliaa.R4
open Go Go.Fw Go.Proofs RB
set_option maxRecDepth 20000
/-! ### no two have the same octets -/
theorem enc1_inj {a b : Int} {X Y : List Int} (ha : U64 a) (hb : U64 b) (h : enc1 a ++ X = enc1 b ++ Y) : a = b ∧ X = Y := by
  have g1 := get1_enc ha.1 ha.2 X
  have g2 := get1_enc hb.1 hb.2 Y
  rw [h, g2] at g1
  simp only [Prod.mk.injEq] at g1
  have hab : a = b := g1.1.symm
  subst hab
  exact ⟨rfl, List.append_cancel_left h⟩
theorem enc1_inj0 {a b : Int} (ha : U64 a) (hb : U64 b) (h : enc1 a = enc1 b) : a = b :=
  (enc1_inj (X := []) (Y := []) ha hb (by simpa using h)).1
theorem enc1_ne' (n : Int) : enc1 n ≠ [] := by unfold enc1; simp
theorem encs1_inj : ∀ {l m : List Int}, (∀ n ∈ l, U64 n) → (∀ n ∈ m, U64 n) → l.flatMap enc1 = m.flatMap enc1 → l = m
  | [], [], _, _, _ => rfl
  | [], b :: m, _, _, h => by simp only [List.flatMap_nil, List.flatMap_cons] at h; exact absurd (List.append_eq_nil_iff.1 h.symm).1 (enc1_ne' _)
  | a :: l, [], _, _, h => by simp only [List.flatMap_nil, List.flatMap_cons] at h; exact absurd (List.append_eq_nil_iff.1 h).1 (enc1_ne' _)
  | a :: l, b :: m, hl, hm, h => by
    rw [List.flatMap_cons, List.flatMap_cons] at h
    obtain ⟨h1, h2⟩ := enc1_inj (hl a (by simp)) (hm b (by simp)) h
    rw [h1, encs1_inj (fun n hn => hl n (List.mem_cons_of_mem _ hn)) (fun n hn => hm n (List.mem_cons_of_mem _ hn)) h2]
theorem encR_ne (r : Rec) : encR r ≠ [] := by unfold encR enc1; simp
theorem encR_inj {r s : Rec} {X Y : List Int} (hr : OkV r) (hs : OkV s) (lr : r.2.length ≤ 4096) (ls : s.2.length ≤ 4096) (h : encR r ++ X = encR s ++ Y) : r = s ∧ X = Y := by
  unfold encR at h
  rw [List.append_assoc, List.append_assoc, List.append_assoc, List.append_assoc] at h
  obtain ⟨h1, h2⟩ := enc1_inj hr.1 hs.1 h
  obtain ⟨h3, h4⟩ := enc1_inj (a := (r.2.length : Int)) (b := (s.2.length : Int)) ⟨by omega, by omega⟩ ⟨by omega, by omega⟩ h2
  obtain ⟨h5, h6⟩ := List.append_inj h4 (by omega)
  exact ⟨Prod.ext h1 h5, h6⟩
theorem encs_inj : ∀ {l m : List Rec}, (∀ r ∈ l, OkV r ∧ r.2.length ≤ 4096) → (∀ r ∈ m, OkV r ∧ r.2.length ≤ 4096) → l.flatMap encR = m.flatMap encR → l = m
  | [], [], _, _, _ => rfl
  | [], b :: m, _, _, h => by simp only [List.flatMap_nil, List.flatMap_cons] at h; exact absurd (List.append_eq_nil_iff.1 h.symm).1 (encR_ne _)
  | a :: l, [], _, _, h => by simp only [List.flatMap_nil, List.flatMap_cons] at h; exact absurd (List.append_eq_nil_iff.1 h).1 (encR_ne _)
  | a :: l, b :: m, hl, hm, h => by
    rw [List.flatMap_cons, List.flatMap_cons] at h
    have ha := hl a (by simp)
    have hb := hm b (by simp)
    obtain ⟨h1, h2⟩ := encR_inj ha.1 hb.1 ha.2 hb.2 h
    rw [h1, encs_inj (fun n hn => hl n (List.mem_cons_of_mem _ hn)) (fun n hn => hm n (List.mem_cons_of_mem _ hn)) h2]
theorem numd_inj {α : Type} {f : α → List Int} : ∀ {l m : List α} {i : Nat}, (∀ x ∈ l, ∀ y ∈ m, f x = f y → x = y) → numd f i l = numd f i m → l = m
  | [], [], _, _, _ => rfl
  | [], _ :: _, _, _, h => by simp [numd] at h
  | _ :: _, [], _, _, h => by simp [numd] at h
  | x :: l, y :: m, i, hf, h => by
    simp only [numd, List.cons.injEq, Prod.mk.injEq, true_and] at h
    rw [hf x (by simp) y (by simp) h.1, numd_inj (fun a ha b hb => hf a (List.mem_cons_of_mem _ ha) b (List.mem_cons_of_mem _ hb)) h.2]
theorem encC_inj {c d : Cv} (hc : CvOk c) (hd : CvOk d) (kc : chk c = 0) (kd : chk d = 0) (h : encC c = encC d) : c = d := by
  have k1 := chk_kind kc
  have k2 := chk_kind kd
  unfold encC at h
  obtain ⟨h1, h2⟩ := enc1_inj (a := c.1) (b := d.1) ⟨by omega, by omega⟩ ⟨by omega, by omega⟩ h
  obtain ⟨h3, h4⟩ := enc1_inj hc.2.1 hd.2.1 h2
  refine Prod.ext h1 (Prod.ext h3 ?_)
  by_cases h5 : c.1 = 4
  · rw [if_pos h5, if_pos (by omega)] at h4
    exact enc1_inj0 hc.2.2 hd.2.2 h4
  · rw [k1.2.2.2.1 h5, k2.2.2.2.1 (by omega)]
theorem encE_inj {x y : Ev} (hx : EvOk x) (hy : EvOk y) (kx : 0 ≤ x.2.1 ∧ x.2.1 < 16) (ky : 0 ≤ y.2.1 ∧ y.2.1 < 16) (h : encE x = encE y) : x = y := by
  have := encs1_inj (l := [x.1, x.2.1, x.2.2.1, x.2.2.2]) (m := [y.1, y.2.1, y.2.2.1, y.2.2.2]) ?_ ?_ h
  · simp only [List.cons.injEq, and_true] at this
    exact Prod.ext this.1 (Prod.ext this.2.1 (Prod.ext this.2.2.1 this.2.2.2))
  · intro n hn
    simp only [List.mem_cons, List.not_mem_nil, or_false] at hn
    rcases hn with rfl | rfl | rfl | rfl
    · exact hx.1
    · exact ⟨kx.1, by omega⟩
    · exact hx.2.2.1
    · exact hx.2.2.2
  · intro n hn
    simp only [List.mem_cons, List.not_mem_nil, or_false] at hn
    rcases hn with rfl | rfl | rfl | rfl
    · exact hy.1
    · exact ⟨ky.1, by omega⟩
    · exact hy.2.2.1
    · exact hy.2.2.2
theorem tokB_inj {t u : Tok} (ht : TokOk t) (hu : TokOk u) (kt : okK t) (ku : okK u) (h : tokB t = tokB u) : t = u := by
  have := encs_inj (fun r hr => ⟨tokR_okV ht kt r hr, (tokR_okT kt).2.1 r hr⟩) (fun r hr => ⟨tokR_okV hu ku r hr, (tokR_okT ku).2.1 r hr⟩) h
  simp only [tokR, List.cons.injEq, Prod.mk.injEq, true_and] at this
  have h1 := kt.2.1
  have h2 := ku.2.1
  refine Prod.ext (enc1_inj0 ht.1 hu.1 this.1) (Prod.ext ?_ (enc1_inj0 ⟨h1.1, by omega⟩ ⟨h2.1, by omega⟩ this.2.1))
  exact numd_inj (fun x hx y hy hxy => encC_inj (ht.2.1 x hx) (hu.2.1 y hy) (kt.2.2 x hx) (ku.2.2 y hy) hxy) this.2.2
def only (s : Int) (l : List Rec) : List Rec := l.filter fun q => decide (q.1 = s)
theorem only_opt (s : Int) (c : Bool) (t : Int) (v : List Int) : only s (opt c t v) = if t = s then opt c t v else [] := by
  unfold only
  cases c <;> by_cases h : t = s <;> simp [opt, h]
theorem only_append (s : Int) (l m : List Rec) : only s (l ++ m) = only s l ++ only s m := by simp [only]
theorem only_numd {α : Type} {f : α → List Int} {s : Int} (hs : s < 16) (l : List α) : only s (numd f 0 l) = [] := by
  unfold only
  rw [List.filter_eq_nil_iff]
  intro q hq
  have := (numd_mem f l 0 q hq).2.1
  simp only [decide_eq_true_eq]
  omega
theorem only_one (s t : Int) (v : List Int) : only s [(t, v)] = if t = s then [(t, v)] else [] := by
  unfold only; by_cases h : t = s <;> simp [h]
def late (l : List Rec) : List Rec := l.filter fun q => decide (16 ≤ q.1)
theorem late_opt (c : Bool) {t : Int} (v : List Int) (ht : t < 16) : late (opt c t v) = [] := by
  unfold late; cases c <;> simp [opt]; omega
theorem late_numd {α : Type} {f : α → List Int} (l : List α) : late (numd f 0 l) = numd f 0 l := by
  unfold late
  rw [List.filter_eq_self]
  intro q hq
  have := (numd_mem f l 0 q hq).2.1
  simpa using this
theorem opt_num {a b t : Int} (ha : U64 a) (hb : U64 b) (h : opt (!decide (a = 0)) t (enc1 a) = opt (!decide (b = 0)) t (enc1 b)) : a = b := by
  by_cases h1 : a = 0 <;> by_cases h2 : b = 0
  · omega
  · simp [opt, h1, h2] at h
  · simp [opt, h1, h2] at h
  · simp only [opt, h1, h2, decide_false, Bool.not_false, cond_true, List.cons.injEq, Prod.mk.injEq, true_and, and_true] at h
    exact enc1_inj0 ha hb h
theorem recs_inj {r o : Rp} (hr : RpOk r) (ho : RpOk o) (kr : okP r) (ko : okP o) (h : recs r = recs o) : r = o := by
  have ke1 := kr.e
  have ke2 := ko.e
  have ks1 := kr.st
  have ks2 := ko.st
  have f : ∀ s, only s (recs r) = only s (recs o) := fun s => by rw [h]
  have fl : late (recs r) = late (recs o) := by rw [h]
  simp only [recs, only_append, only_opt, only_one] at f
  have f1 := f 1
  have f2 := f 2
  have f3 := f 3
  have f4 := f 4
  have f5 := f 5
  have f6 := f 6
  have f7 := f 7
  rw [only_numd (by decide), only_numd (by decide)] at f1 f2 f3 f4 f5 f6 f7
  simp at f1 f2 f3 f4 f5 f6 f7
  have g1 : r.1 = o.1 := enc1_inj0 hr.id ho.id f1
  have g2 : r.2.1 = o.2.1 := opt_num ⟨by omega, by omega⟩ ⟨by omega, by omega⟩ f2
  have g3 : r.2.2.1 = o.2.2.1 := opt_num hr.a ho.a f3
  have g4 : r.2.2.2.1 = o.2.2.2.1 := opt_num hr.n ho.n f4
  have g5 : r.2.2.2.2.1 = o.2.2.2.2.1 := opt_num ⟨by omega, by omega⟩ ⟨by omega, by omega⟩ f5
  have g6 : r.2.2.2.2.2.1 = o.2.2.2.2.2.1 := by
    have e : ∀ l : List Int, (decide (0 < l.length)) = !decide (l = []) := by intro l; cases l <;> simp
    simp only [e] at f6
    by_cases h1 : r.2.2.2.2.2.1 = [] <;> by_cases h2 : o.2.2.2.2.2.1 = []
    · rw [h1, h2]
    · simp [opt, h1, h2] at f6
    · simp [opt, h1, h2] at f6
    · simp only [opt, h1, h2, decide_false, Bool.not_false, cond_true, List.cons.injEq, Prod.mk.injEq, true_and, and_true] at f6
      exact encs1_inj hr.ids ho.ids f6
  have g7 : r.2.2.2.2.2.2.2 = o.2.2.2.2.2.2.2 := by
    by_cases h1 : r.2.2.2.2.2.2.2 = (0, ([], 0)) <;> by_cases h2 : o.2.2.2.2.2.2.2 = (0, ([], 0))
    · rw [h1, h2]
    · simp [opt, h1, h2] at f7
    · simp [opt, h1, h2] at f7
    · simp only [opt, h1, h2, decide_false, Bool.not_false, cond_true, List.cons.injEq, Prod.mk.injEq, true_and, and_true] at f7
      exact tokB_inj hr.tok ho.tok kr.tok ko.tok f7
  have g8 : r.2.2.2.2.2.2.1 = o.2.2.2.2.2.2.1 := by
    have la : ∀ l m, late (l ++ m) = late l ++ late m := fun l m => by simp [late]
    simp only [recs, la, late_numd] at fl
    rw [late_opt _ _ (by decide), late_opt _ _ (by decide), late_opt _ _ (by decide), late_opt _ _ (by decide), late_opt _ _ (by decide), late_opt _ _ (by decide), late_opt _ _ (by decide), late_opt _ _ (by decide), late_opt _ _ (by decide), late_opt _ _ (by decide), late_opt _ _ (by decide), late_opt _ _ (by decide)] at fl
    have l1 : ∀ v, late [((1 : Int), v)] = [] := fun v => by simp [late]
    simp only [l1, List.append_nil, List.nil_append] at fl
    exact numd_inj (fun x hx y hy hxy => encE_inj (hr.evs x hx) (ho.evs y hy) (kr.evs x hx) (ko.evs y hy) hxy) fl
  exact Prod.ext g1 (Prod.ext g2 (Prod.ext g3 (Prod.ext g4 (Prod.ext g5 (Prod.ext g6 (Prod.ext g8 g7))))))
theorem rpB_inj {r o : Rp} (hr : RpOk r) (ho : RpOk o) (kr : okP r) (ko : okP o) (h : rpB r = rpB o) : r = o :=
  recs_inj hr ho kr ko (encs_inj (fun q hq => ⟨recs_okV hr kr q hq, (recs_okT kr).2.1 q hq⟩) (fun q hq => ⟨recs_okV ho ko q hq, (recs_okT ko).2.1 q hq⟩) h)
end Go.Proofs.Ytacebemdonoliaa.R4
