/- Part of a proof: what the program's functions come to. -/
import Derived.Test.YtgdfhijgjjcnjaaDoorDGD
set_option linter.unusedVariables false
set_option linter.unusedSimpArgs false
namespace Go.Proofs.YtgdfhijgjjcnjaaDoor.R5
open Go Go.Fw Go.Proofs RB
set_option maxRecDepth 20000
/-! ### what two prints say -/
theorem F32_eq {a b : List Cv} (hl : a.length ≤ 4611686018427387904) : F32 (a, b) = some (decide (a = b)) := by
  unfold F32
  by_cases hn : a.length = b.length
  · have : (a.length : Int) = (b.length : Int) := by omega
    simp only [this, decide_true, Bool.not_true, cond_false]
    rw [← this]
    refine same_loop (t := .pair (.int .i64) (.pair (.int .u64) (.int .u64))) hl hn (G := fun x y K => K (decide (x.1 = y.1) && (decide (x.2.1 = y.2.1) && decide (x.2.2 = y.2.2)))) ?_
    intro i h1 h2 K
    congr 1
    rw [Bool.eq_iff_iff]
    simp only [Bool.and_eq_true, decide_eq_true_eq]
    constructor
    · rintro ⟨q1, q2, q3⟩; exact Prod.ext q1 (Prod.ext q2 q3)
    · intro q; rw [q]; exact ⟨rfl, rfl, rfl⟩
  · have : ¬ (a.length : Int) = (b.length : Int) := by omega
    have hne : a ≠ b := fun h => hn (by rw [h])
    simp [this, hne]
theorem F31_eq {a b : List It} (hl : a.length ≤ 4611686018427387904) : F31 (a, b) = some (decide (a = b)) := by
  unfold F31
  by_cases hn : a.length = b.length
  · have : (a.length : Int) = (b.length : Int) := by omega
    simp only [this, decide_true, Bool.not_true, cond_false]
    rw [← this]
    refine same_loop (t := .pair (.int .u64) (.int .u64)) hl hn (G := fun x y K => K (decide (x.1 = y.1) && decide (x.2 = y.2))) ?_
    intro i h1 h2 K
    congr 1
    rw [Bool.eq_iff_iff]
    simp only [Bool.and_eq_true, decide_eq_true_eq]
    constructor
    · rintro ⟨q1, q2⟩; exact Prod.ext q1 q2
    · intro q; rw [q]; exact ⟨rfl, rfl⟩
  · have : ¬ (a.length : Int) = (b.length : Int) := by omega
    have hne : a ≠ b := fun h => hn (by rw [h])
    simp [this, hne]
theorem F30_eq {a b : Tok} (hl : a.2.1.length ≤ 4611686018427387904) : F30 (a, b) = some (decide (a = b)) := by
  obtain ⟨a1, a2, a3⟩ := a
  obtain ⟨b1, b2, b3⟩ := b
  unfold F30
  simp only [F32_eq hl, Option.bind_some]
  by_cases c1 : a1 = b1
  · by_cases c2 : a3 = b3
    · by_cases c3 : a2 = b2 <;> simp [c1, c2, c3]
    · simp [c1, c2]
  · simp [c1]
theorem few_len {r : Rq} (h : few r = true) : r.tok.2.1.length ≤ 20 ∧ r.its.length ≤ 20 ∧ r.cvs.length ≤ 20 := by
  unfold few at h
  simpa only [Bool.and_eq_true, decide_eq_true_eq] using h
open Classical in
theorem F14_eq {a b : Rq} (h : few a = true) : F14 (a, b) = some (decide (a = b)) := by
  obtain ⟨h1, h2, h3⟩ := few_len h
  obtain ⟨a1, a2, a3, a4, a5, a6, a7, a8, a9, a10, a11⟩ := a
  obtain ⟨b1, b2, b3, b4, b5, b6, b7, b8, b9, b10, b11⟩ := b
  simp only [Rq.its, Rq.cvs] at h1 h2 h3
  have e1 : F30 ((a4, (a5, a6)), (b4, (b5, b6))) = some (decide ((a4, (a5, a6)) = (b4, (b5, b6)))) := F30_eq (a := (a4, (a5, a6))) (by simp only; omega)
  unfold F14
  simp only [e1, F31_eq (a := a10) (b := b10) (by omega), F32_eq (a := a11) (b := b11) (by omega), Option.bind_some]
  by_cases c1 : a1 = b1
  · by_cases c2 : a2 = b2
    · by_cases c3 : a3 = b3
      · by_cases c4 : (a4, (a5, a6)) = (b4, (b5, b6))
        · by_cases c7 : a7 = b7
          · by_cases c8 : a8 = b8
            · by_cases c9 : a9 = b9
              · by_cases c10 : a10 = b10
                · simp only [Prod.mk.injEq] at c4
                  by_cases c11 : a11 = b11 <;> simp [c1, c2, c3, c4, c7, c8, c9, c10, c11]
                · simp [c1, c2, c3, c4, c7, c8, c9, c10]
              · simp [c1, c2, c3, c4, c7, c8, c9]
            · simp [c1, c2, c3, c4, c7, c8]
          · simp [c1, c2, c3, c4, c7]
        · have c4' : ¬ (a4 = b4 ∧ a5 = b5 ∧ a6 = b6) := fun q => c4 (by rw [q.1, q.2.1, q.2.2])
          simp only [Prod.mk.injEq] at c4
          have c5 : decide ((a1, a2, a3, a4, a5, a6, a7, a8, a9, a10, a11) = (b1, b2, b3, b4, b5, b6, b7, b8, b9, b10, b11)) = false := by
            refine decide_eq_false fun q => c4' ?_
            simp only [Prod.mk.injEq] at q
            exact ⟨q.2.2.2.1, q.2.2.2.2.1, q.2.2.2.2.2.1⟩
          rw [c5]
          simp [c1, c2, c3, c4]
      · simp [c1, c2, c3]
    · simp [c1, c2]
  · simp [c1]
theorem encI_inj {x y : It} (hx : U64 x.1 ∧ U64 x.2) (hy : U64 y.1 ∧ U64 y.2) (h : encI x = encI y) : x = y := by
  have := encs1_inj (l := [x.1, x.2]) (m := [y.1, y.2]) ?_ ?_ h
  · simp only [List.cons.injEq, and_true] at this
    exact Prod.ext this.1 this.2
  · intro n hn
    simp only [List.mem_cons, List.not_mem_nil, or_false] at hn
    rcases hn with rfl | rfl
    · exact hx.1
    · exact hx.2
  · intro n hn
    simp only [List.mem_cons, List.not_mem_nil, or_false] at hn
    rcases hn with rfl | rfl
    · exact hy.1
    · exact hy.2
def pq (r : Rq) : List Rec :=
  [(2, enc1 r.me)] ++ opt (!decide (r.key = 0)) 3 (enc1 r.key) ++ opt (!decide (r.a = 0)) 5 (enc1 r.a) ++ opt (!decide (r.n = 0)) 6 (enc1 r.n) ++ opt (!decide (r.till = 0)) 7 (enc1 r.till)
    ++ numd encI 16 r.its ++ numd encC 32 r.cvs
theorem keep_opt (c : Bool) {t : Int} (v : List Int) (h1 : t ≠ 1) (h4 : t ≠ 4) : (opt c t v).filter keep = opt c t v := by
  cases c <;> simp [opt, keep, del, h1, h4]
theorem keep_numd {α : Type} (f : α → List Int) (l : List α) (i : Nat) : (numd f i l).filter keep = numd f i l := by
  rw [List.filter_eq_self]
  intro q hq
  have := (numd_mem f l i q hq).2.1
  have h1 : ¬ q.1 = 1 := by omega
  have h4 : ¬ q.1 = 4 := by omega
  simp [keep, del, h1, h4]
theorem prQ_eq (r : Rq) : prQ r = pq r := by
  unfold prQ recQ pq
  simp only [List.filter_append, keep_numd]
  rw [keep_opt _ _ (by decide) (by decide), keep_opt _ _ (by decide) (by decide), keep_opt _ _ (by decide) (by decide), keep_opt _ _ (by decide) (by decide)]
  simp [keep, del]
theorem only_numdi {α : Type} {f : α → List Int} {s : Int} (hs : s < 16) (l : List α) (i : Nat) : only s (numd f i l) = [] := by
  unfold only
  rw [List.filter_eq_nil_iff]
  intro q hq
  have := (numd_mem f l i q hq).2.1
  simp only [decide_eq_true_eq]
  omega
def its_ (l : List Rec) : List Rec := l.filter fun q => decide (32 ≤ q.1) && decide (q.1 < 48)
def cvs_ (l : List Rec) : List Rec := l.filter fun q => decide (48 ≤ q.1)
theorem its_app (l m : List Rec) : its_ (l ++ m) = its_ l ++ its_ m := by simp [its_]
theorem cvs_app (l m : List Rec) : cvs_ (l ++ m) = cvs_ l ++ cvs_ m := by simp [cvs_]
theorem its_opt (c : Bool) {t : Int} (v : List Int) (h : t < 16) : its_ (opt c t v) = [] := by
  have : ¬ 32 ≤ t := by omega
  cases c <;> simp [its_, opt, this]
theorem cvs_opt (c : Bool) {t : Int} (v : List Int) (h : t < 16) : cvs_ (opt c t v) = [] := by
  have : ¬ 48 ≤ t := by omega
  cases c <;> simp [cvs_, opt, this]
theorem its_I {l : List It} (h : l.length ≤ 16) : its_ (numd encI 16 l) = numd encI 16 l := by
  unfold its_
  rw [List.filter_eq_self]
  intro q hq
  have hn := (numd_sorted encI l 16).2 q hq
  have := (numd_mem encI l 16 q hq).2.2
  simp only [Bool.and_eq_true, decide_eq_true_eq]
  omega
theorem its_C (l : List Cv) : its_ (numd encC 32 l) = [] := by
  unfold its_
  rw [List.filter_eq_nil_iff]
  intro q hq
  have hn := (numd_sorted encC l 32).2 q hq
  have := (numd_mem encC l 32 q hq).2.2
  simp only [Bool.and_eq_true, decide_eq_true_eq]
  omega
theorem cvs_I {l : List It} (h : l.length ≤ 16) : cvs_ (numd encI 16 l) = [] := by
  unfold cvs_
  rw [List.filter_eq_nil_iff]
  intro q hq
  have hn := (numd_sorted encI l 16).2 q hq
  have := (numd_mem encI l 16 q hq).2.2
  simp only [decide_eq_true_eq]
  omega
theorem cvs_C (l : List Cv) : cvs_ (numd encC 32 l) = numd encC 32 l := by
  unfold cvs_
  rw [List.filter_eq_self]
  intro q hq
  have hn := (numd_sorted encC l 32).2 q hq
  have := (numd_mem encC l 32 q hq).2.2
  simp only [decide_eq_true_eq]
  omega
/-- The same but for its number and its token. -/
def alike (r o : Rq) : Prop := r.me = o.me ∧ r.key = o.key ∧ r.a = o.a ∧ r.n = o.n ∧ r.till = o.till ∧ r.its = o.its ∧ r.cvs = o.cvs
theorem pq_inj {r o : Rq} (hr : RqOk r) (ho : RqOk o) (kr : okQ r) (ko : okQ o) (h : pq r = pq o) : alike r o := by
  have mr := okQ_me kr
  have mo := okQ_me ko
  have ir := okQ_its kr
  have io := okQ_its ko
  have cr := okQ_cvs kr
  have co := okQ_cvs ko
  have f : ∀ s, only s (pq r) = only s (pq o) := fun s => by rw [h]
  have fI : its_ (pq r) = its_ (pq o) := by rw [h]
  have fC : cvs_ (pq r) = cvs_ (pq o) := by rw [h]
  simp only [pq, only_append, only_opt, only_one] at f
  have f2 := f 2
  have f3 := f 3
  have f5 := f 5
  have f6 := f 6
  have f7 := f 7
  simp only [only_numdi (s := 2) (by decide)] at f2
  simp only [only_numdi (s := 3) (by decide)] at f3
  simp only [only_numdi (s := 5) (by decide)] at f5
  simp only [only_numdi (s := 6) (by decide)] at f6
  simp only [only_numdi (s := 7) (by decide)] at f7
  simp at f2 f3 f5 f6 f7
  have g2 : r.me = o.me := enc1_inj0 ⟨by omega, by omega⟩ ⟨by omega, by omega⟩ f2
  have g3 : r.key = o.key := opt_num hr.key ho.key f3
  have g5 : r.a = o.a := opt_num hr.a ho.a f5
  have g6 : r.n = o.n := opt_num hr.n ho.n f6
  have g7 : r.till = o.till := opt_num hr.till ho.till f7
  have one1 : ∀ v : List Int, its_ [((2 : Int), v)] = [] := fun v => by simp [its_]
  have one2 : ∀ v : List Int, cvs_ [((2 : Int), v)] = [] := fun v => by simp [cvs_]
  have o3 := fun (c : Bool) (v : List Int) => its_opt c (t := 3) v (by decide)
  have o5 := fun (c : Bool) (v : List Int) => its_opt c (t := 5) v (by decide)
  have o6 := fun (c : Bool) (v : List Int) => its_opt c (t := 6) v (by decide)
  have o7 := fun (c : Bool) (v : List Int) => its_opt c (t := 7) v (by decide)
  have p3 := fun (c : Bool) (v : List Int) => cvs_opt c (t := 3) v (by decide)
  have p5 := fun (c : Bool) (v : List Int) => cvs_opt c (t := 5) v (by decide)
  have p6 := fun (c : Bool) (v : List Int) => cvs_opt c (t := 6) v (by decide)
  have p7 := fun (c : Bool) (v : List Int) => cvs_opt c (t := 7) v (by decide)
  simp only [pq, its_app, one1, o3, o5, o6, o7, its_I ir, its_I io, its_C, List.append_nil, List.nil_append] at fI
  simp only [pq, cvs_app, one2, p3, p5, p6, p7, cvs_I ir, cvs_I io, cvs_C, List.append_nil, List.nil_append] at fC
  have g8 : r.its = o.its := numd_inj (fun x hx y hy hxy => encI_inj (hr.its x hx) (ho.its y hy) hxy) fI
  have g9 : r.cvs = o.cvs := numd_inj (fun x hx y hy hxy => encC_inj (hr.cvs x hx) (ho.cvs y hy) (cr.2 x hx) (co.2 y hy) hxy) fC
  exact ⟨g2, g3, g5, g6, g7, g8, g9⟩
theorem prQ_iff {r o : Rq} (hr : RqOk r) (ho : RqOk o) (kr : okQ r) (ko : okQ o) : (prQ r).flatMap encR = (prQ o).flatMap encR ↔ alike r o := by
  constructor
  · intro h
    refine pq_inj hr ho kr ko ?_
    rw [← prQ_eq, ← prQ_eq]
    exact encs_inj (fun q hq => ⟨recQ_okV hr kr q (List.mem_filter.1 hq).1, (recQ_okT kr).2.1 q (List.mem_filter.1 hq).1⟩) (fun q hq => ⟨recQ_okV ho ko q (List.mem_filter.1 hq).1, (recQ_okT ko).2.1 q (List.mem_filter.1 hq).1⟩) h
  · rintro ⟨g2, g3, g5, g6, g7, g8, g9⟩
    rw [prQ_eq, prQ_eq]
    unfold pq
    rw [g2, g3, g5, g6, g7, g8, g9]
theorem prQ_pos {r : Rq} : 0 < ((prQ r).flatMap encR).length := by
  rw [prQ_eq]
  unfold pq
  simp only [List.cons_append, List.nil_append, List.flatMap_cons, List.length_append]
  have : 0 < (encR (2, enc1 r.me)).length := by
    simp only [encR, List.length_append]
    have : enc1 (2 : Int) = [2] := by decide
    rw [this]
    simp only [List.length_cons, List.length_nil]
    omega
  omega
open Classical in
theorem F4_true {r o : Rq} (hr : RqOk r) (ho : RqOk o) : F4 (r, o) = some true := by
  have e8r : F8 (r.1, (r.2.1, (r.2.2.1, (r.2.2.2.1, (r.2.2.2.2.1, (r.2.2.2.2.2.1, (r.2.2.2.2.2.2.1, (r.2.2.2.2.2.2.2.1, (r.2.2.2.2.2.2.2.2.1, (r.2.2.2.2.2.2.2.2.2.1, r.2.2.2.2.2.2.2.2.2.2)))))))))) = some (few r) := F8_eq r
  have e8o : F8 (o.1, (o.2.1, (o.2.2.1, (o.2.2.2.1, (o.2.2.2.2.1, (o.2.2.2.2.2.1, (o.2.2.2.2.2.2.1, (o.2.2.2.2.2.2.2.1, (o.2.2.2.2.2.2.2.2.1, (o.2.2.2.2.2.2.2.2.2.1, o.2.2.2.2.2.2.2.2.2.2)))))))))) = some (few o) := F8_eq o
  have e12r := F12_eq hr
  have e12o := F12_eq ho
  have x12r : F12 (r.1, (r.2.1, (r.2.2.1, (r.2.2.2.1, (r.2.2.2.2.1, (r.2.2.2.2.2.1, (r.2.2.2.2.2.2.1, (r.2.2.2.2.2.2.2.1, (r.2.2.2.2.2.2.2.2.1, (r.2.2.2.2.2.2.2.2.2.1, r.2.2.2.2.2.2.2.2.2.2)))))))))) = F12 r := rfl
  have x12o : F12 (o.1, (o.2.1, (o.2.2.1, (o.2.2.2.1, (o.2.2.2.2.1, (o.2.2.2.2.2.1, (o.2.2.2.2.2.2.1, (o.2.2.2.2.2.2.2.1, (o.2.2.2.2.2.2.2.2.1, (o.2.2.2.2.2.2.2.2.2.1, o.2.2.2.2.2.2.2.2.2.2)))))))))) = F12 o := rfl
  unfold F4
  simp only [F7_eq, Option.bind_some, Bool.not_true, cond_false, both_self, e8r, e8o, x12r, x12o, e12r, e12o]
  by_cases fr : few r = true
  · by_cases fo : few o = true
    · have lr : ¬ ((((prQ r).flatMap encR).length : Int) = 0) := by have := prQ_pos (r := r); omega
      have lo : ¬ ((((prQ o).flatMap encR).length : Int) = 0) := by have := prQ_pos (r := o); omega
      by_cases kr : okQ r
      · by_cases ko : okQ o
        · simp only [fr, fo, kr, ko, if_true, Bool.not_true, Bool.not_false, decide_true, cond_true, cond_false, BEq.rfl]
          have e14 : F14 ((r.1, (r.2.1, (r.2.2.1, (r.2.2.2.1, (r.2.2.2.2.1, (r.2.2.2.2.2.1, (r.2.2.2.2.2.2.1, (r.2.2.2.2.2.2.2.1, (r.2.2.2.2.2.2.2.2.1, (r.2.2.2.2.2.2.2.2.2.1, r.2.2.2.2.2.2.2.2.2.2)))))))))), (r.1, (o.2.1, (o.2.2.1, (r.2.2.2.1, (r.2.2.2.2.1, (r.2.2.2.2.2.1, (o.2.2.2.2.2.2.1, (o.2.2.2.2.2.2.2.1, (o.2.2.2.2.2.2.2.2.1, (o.2.2.2.2.2.2.2.2.2.1, o.2.2.2.2.2.2.2.2.2.2))))))))))) = some (decide (alike r o)) := by
            rw [show (r.1, (r.2.1, (r.2.2.1, (r.2.2.2.1, (r.2.2.2.2.1, (r.2.2.2.2.2.1, (r.2.2.2.2.2.2.1, (r.2.2.2.2.2.2.2.1, (r.2.2.2.2.2.2.2.2.1, (r.2.2.2.2.2.2.2.2.2.1, r.2.2.2.2.2.2.2.2.2.2)))))))))) = r from rfl, F14_eq fr]
            congr 1
            rw [decide_eq_decide]
            constructor
            · intro q
              have q2 := congrArg Rq.me q
              have q3 := congrArg Rq.key q
              have q5 := congrArg Rq.a q
              have q6 := congrArg Rq.n q
              have q7 := congrArg Rq.till q
              have q8 := congrArg Rq.its q
              have q9 := congrArg Rq.cvs q
              exact ⟨q2, q3, q5, q6, q7, q8, q9⟩
            · rintro ⟨g2, g3, g5, g6, g7, g8, g9⟩
              refine Prod.ext rfl (Prod.ext g2 (Prod.ext g3 (Prod.ext rfl (Prod.ext rfl (Prod.ext rfl (Prod.ext g5 (Prod.ext g6 (Prod.ext g7 (Prod.ext g8 g9)))))))))
          have hi := prQ_iff hr ho kr ko
          simp only [e14, F13, Option.bind_some]
          by_cases q : alike r o
          · simp [q, hi]
          · simp [q, hi]
        · generalize (prQ r).flatMap encR = Br at lr ⊢
          simp only [fr, fo, kr, ko, if_true, if_false, lr, Bool.not_true, Bool.not_false, decide_true, decide_false, cond_true, cond_false, BEq.rfl, List.length_nil]
          simp
      · by_cases ko : okQ o
        · generalize (prQ o).flatMap encR = Bo at lo ⊢
          simp only [fr, fo, kr, ko, if_true, if_false, lo, Bool.not_true, Bool.not_false, decide_true, decide_false, cond_true, cond_false, BEq.rfl, List.length_nil]
          simp
        · simp [fr, fo, kr, ko]
    · simp only [Bool.not_eq_true] at fo
      simp [fr, fo]
  · simp only [Bool.not_eq_true] at fr
    simp [fr]
theorem pure4 (b : dens [.agg tRq, .agg tRq]) (h : Goods [.agg tRq, .agg tRq] b) : F4 b = some true := F4_true (rq_of h.1) (rq_of h.2)
end Go.Proofs.YtgdfhijgjjcnjaaDoor.R5
