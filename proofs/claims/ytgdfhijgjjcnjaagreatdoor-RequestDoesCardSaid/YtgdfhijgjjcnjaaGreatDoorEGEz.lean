/- Part of a proof: what the program's functions come to. -/
import Derived.Test.YtgdfhijgjjcnjaaGreatDoorEGDz
set_option linter.unusedVariables false
set_option linter.unusedSimpArgs false
namespace Go.Proofs.YtgdfhijgjjcnjaaGreatDoor.RZ
open Go Go.Fw Go.Proofs RB
set_option maxRecDepth 20000
theorem F46_eq {a b : List Cv} (hl : a.length ≤ 4611686018427387904) : F46 (a,b) = some (decide (a = b)) := by
  unfold F46
  by_cases hn : a.length = b.length
  · have : (a.length : Int) = (b.length : Int) := by omega
    simp only [this,decide_true,Bool.not_true,cond_false]
    rw [← this]
    refine same_loop (t := .pair (.int .i64) (.pair (.int .u64) (.int .u64))) hl hn (G := fun x y K => K (decide (x.1 = y.1) && (decide (x.2.1 = y.2.1) && decide (x.2.2 = y.2.2)))) ?_
    intro i h1 h2 K
    congr 1
    rw [Bool.eq_iff_iff]
    simp only [Bool.and_eq_true,decide_eq_true_eq]
    constructor
    · rintro ⟨q1,q2,q3⟩; exact Prod.ext q1 (Prod.ext q2 q3)
    · intro q; rw [q]; exact ⟨rfl,rfl,rfl⟩
  · have : ¬ (a.length : Int) = (b.length : Int) := by omega
    have hne : a ≠ b := fun h => hn (by rw [h])
    simp [this,hne]
theorem F45_eq {a b : List It} (hl : a.length ≤ 4611686018427387904) : F45 (a,b) = some (decide (a = b)) := by
  unfold F45
  by_cases hn : a.length = b.length
  · have : (a.length : Int) = (b.length : Int) := by omega
    simp only [this,decide_true,Bool.not_true,cond_false]
    rw [← this]
    refine same_loop (t := .pair (.int .u64) (.int .u64)) hl hn (G := fun x y K => K (decide (x.1 = y.1) && decide (x.2 = y.2))) ?_
    intro i h1 h2 K
    congr 1
    rw [Bool.eq_iff_iff]
    simp only [Bool.and_eq_true,decide_eq_true_eq]
    constructor
    · rintro ⟨q1,q2⟩; exact Prod.ext q1 q2
    · intro q; rw [q]; exact ⟨rfl,rfl⟩
  · have : ¬ (a.length : Int) = (b.length : Int) := by omega
    have hne : a ≠ b := fun h => hn (by rw [h])
    simp [this,hne]
theorem F44_eq {a b : Tok} (hl : a.2.1.length ≤ 4611686018427387904) : F44 (a,b) = some (decide (a = b)) := by
  obtain ⟨a1,a2,a3⟩ := a
  obtain ⟨b1,b2,b3⟩ := b
  unfold F44
  simp only [F46_eq hl,Option.bind_some]
  by_cases c1 : a1 = b1
  · by_cases c2 : a3 = b3
    · by_cases c3 : a2 = b2 <;> simp [c1,c2,c3]
    · simp [c1,c2]
  · simp [c1]
theorem few_len {r : Rq} (h : few r = true) : r.tok.2.1.length ≤ 20 ∧ r.its.length ≤ 20 ∧ r.cvs.length ≤ 20 := by
  unfold few at h
  simpa only [Bool.and_eq_true,decide_eq_true_eq] using h
open Classical in
theorem F18_eq {a b : Rq} (h : few a = true) : F18 (a,b) = some (decide (a = b)) := by
  obtain ⟨h1,h2,h3⟩ := few_len h
  obtain ⟨a1,a2,a3,a4,a5,a6,a7,a8,a9,a10,a11⟩ := a
  obtain ⟨b1,b2,b3,b4,b5,b6,b7,b8,b9,b10,b11⟩ := b
  simp only [Rq.its,Rq.cvs] at h1 h2 h3
  have e1 : F44 ((a4,(a5,a6)),(b4,(b5,b6))) = some (decide ((a4,(a5,a6)) = (b4,(b5,b6)))) := F44_eq (a := (a4,(a5,a6))) (by simp only; omega)
  unfold F18
  simp only [e1,F45_eq (a := a10) (b := b10) (by omega),F46_eq (a := a11) (b := b11) (by omega),Option.bind_some]
  by_cases c1 : a1 = b1
  · by_cases c2 : a2 = b2
    · by_cases c3 : a3 = b3
      · by_cases c4 : (a4,(a5,a6)) = (b4,(b5,b6))
        · by_cases c7 : a7 = b7
          · by_cases c8 : a8 = b8
            · by_cases c9 : a9 = b9
              · by_cases c10 : a10 = b10
                · simp only [Prod.mk.injEq] at c4
                  by_cases c11 : a11 = b11 <;> simp [c1,c2,c3,c4,c7,c8,c9,c10,c11]
                · simp [c1,c2,c3,c4,c7,c8,c9,c10]
              · simp [c1,c2,c3,c4,c7,c8,c9]
            · simp [c1,c2,c3,c4,c7,c8]
          · simp [c1,c2,c3,c4,c7]
        · have c4' : ¬ (a4 = b4 ∧ a5 = b5 ∧ a6 = b6) := fun q => c4 (by rw [q.1,q.2.1,q.2.2])
          simp only [Prod.mk.injEq] at c4
          have c5 : decide ((a1,a2,a3,a4,a5,a6,a7,a8,a9,a10,a11) = (b1,b2,b3,b4,b5,b6,b7,b8,b9,b10,b11)) = false := by
            refine decide_eq_false fun q => c4' ?_
            simp only [Prod.mk.injEq] at q
            exact ⟨q.2.2.2.1,q.2.2.2.2.1,q.2.2.2.2.2.1⟩
          rw [c5]
          simp [c1,c2,c3,c4]
      · simp [c1,c2,c3]
    · simp [c1,c2]
  · simp [c1]
def its_ (l : List Rec) : List Rec := l.filter fun q => decide (32 ≤ q.1) && decide (q.1 < 48)
def cvs_ (l : List Rec) : List Rec := l.filter fun q => decide (48 ≤ q.1)
theorem its_app (l m : List Rec) : its_ (l ++ m) = its_ l ++ its_ m := by simp [its_]
theorem cvs_app (l m : List Rec) : cvs_ (l ++ m) = cvs_ l ++ cvs_ m := by simp [cvs_]
theorem its_opt (c : Bool) {t : Int} (v : List Int) (h : t < 16) : its_ (opt c t v) = [] := by
  have : ¬ 32 ≤ t := by omega
  cases c <;> simp [its_,opt,this]
theorem cvs_opt (c : Bool) {t : Int} (v : List Int) (h : t < 16) : cvs_ (opt c t v) = [] := by
  have : ¬ 48 ≤ t := by omega
  cases c <;> simp [cvs_,opt,this]
theorem its_I {l : List It} (h : l.length ≤ 16) : its_ (numd encI 16 l) = numd encI 16 l := by
  unfold its_
  rw [List.filter_eq_self]
  intro q hq
  have hn := (numd_sorted encI l 16).2 q hq
  have := (numd_mem encI l 16 q hq).2.2
  simp only [Bool.and_eq_true,decide_eq_true_eq]
  omega
theorem its_C (l : List Cv) : its_ (numd encC 32 l) = [] := by
  unfold its_
  rw [List.filter_eq_nil_iff]
  intro q hq
  have hn := (numd_sorted encC l 32).2 q hq
  have := (numd_mem encC l 32 q hq).2.2
  simp only [Bool.and_eq_true,decide_eq_true_eq]
  omega
theorem cvs_I {l : List It} (h : l.length ≤ 16) : cvs_ (numd encI 16 l) = [] := by
  unfold cvs_
  rw [List.filter_eq_nil_iff]
  intro q hq
  have hn := (numd_sorted encI l 16).2 q hq
  have := (numd_mem encI l 16 q hq).2.2
  simp only [decide_eq_true_eq]
  omega
theorem cvs_C (l : List Cv) : cvs_ (numd encC 32 l) = numd encC 32 l := by
  unfold cvs_
  rw [List.filter_eq_self]
  intro q hq
  have hn := (numd_sorted encC l 32).2 q hq
  have := (numd_mem encC l 32 q hq).2.2
  simp only [decide_eq_true_eq]
  omega
end Go.Proofs.YtgdfhijgjjcnjaaGreatDoor.RZ
