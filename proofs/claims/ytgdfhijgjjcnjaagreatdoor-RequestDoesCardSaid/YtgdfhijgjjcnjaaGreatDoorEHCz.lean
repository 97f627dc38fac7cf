/- Part of a proof: what the program's functions come to. -/
import Derived.Test.YtgdfhijgjjcnjaaGreatDoorEHBz
set_option linter.unusedVariables false
set_option linter.unusedSimpArgs false
namespace Go.Proofs.YtgdfhijgjjcnjaaGreatDoor.RZ
open Go Go.Fw Go.Proofs RB
set_option maxRecDepth 20000
theorem beqF (b : Bool) : (b == false) = !b := by cases b <;> rfl
theorem beqT (b : Bool) : (b == true) = b := by cases b <;> rfl
open Classical in
theorem F17_m1 {i ke to si a n ti : Int} {L cvs : List Cv} {its : List It} (h : RqOk (i,(1,(ke,(to,(L,(si,(a,(n,(ti,(its,cvs))))))))))) (s : sm (i,(1,(ke,(to,(L,(si,(a,(n,(ti,(its,cvs))))))))))) : F17 (i,(1,(ke,(to,(L,(si,(a,(n,(ti,(its,cvs)))))))))) = some (if okQ (i,(1,(ke,(to,(L,(si,(a,(n,(ti,(its,cvs)))))))))) then 0 else 1) := by
  have hq : okQ (i,(1,(ke,(to,(L,(si,(a,(n,(ti,(its,cvs)))))))))) ↔ ((ti = 0 ∧ its = [] ∧ cvs = []) ∧ (0 < n ∧ ¬ 4611686018427387904 < n)) ∧ okK (to,(L,si)) := by
    unfold okQ
    rw [ok1]
  obtain ⟨s1,s2,s3⟩ := s
  have s1' : L.length ≤ 1000 := s1
  have s2' : its.length ≤ 1000 := s2
  have s3' : cvs.length ≤ 1000 := s3
  have e41 : F41 (to,(L,si)) = some (if okK (to,(L,si)) then 0 else 1) := F41_eq h.tok (by simp only; omega)
  have e42 := named1 (i := i) (ke := ke) (to := to) (si := si) (a := a) (n := n) (ti := ti) (L := L) (cvs := cvs) (its := its)
  have e15 : F15 ((i,(1,(ke,(to,(L,(si,(a,(n,(ti,(its,cvs)))))))))),(i,(1,(ke,(to,(L,(si,(a,(n,(0,([],[]))))))))))) = some (decide (ti = 0 ∧ its = [] ∧ cvs = [])) := by
    rw [F15_eq ⟨s1,s2,s3⟩]
    congr 1
    rw [decide_eq_decide]
    simp only [Prod.mk.injEq,true_and,and_true]
  have e31 : F31 its = some (sumI its) := F31_eq (by omega) h.its
  have e43 : F43 cvs = some (decide (cvs.length ≤ 16 ∧ ∀ c ∈ cvs,chk c = 0)) := F43_eq (by omega) h.cvs
  have hn := h.n
  simp only [Rq.n] at hn
  unfold F17
  simp only [Int.reduceLT,Int.reduceEq,decide_true,decide_false,cond_true,cond_false,beqF,beqT,Bool.not_false,Bool.not_true,e41,Option.bind_some,e42,e15,e31,e43,both_self]
  by_cases kk : okK (to,(L,si))
  · by_cases z : ti = 0 ∧ its = [] ∧ cvs = []
    · have z' : decide (ti = 0 ∧ its = [] ∧ cvs = []) = true := decide_eq_true z
      by_cases n0 : n = 0
      · have hqq : ¬ okQ (i,(1,(ke,(to,(L,(si,(a,(n,(ti,(its,cvs)))))))))) := fun w => by have := (hq.1 w).1.2.1; omega
        have n0' : decide (n = 0) = true := decide_eq_true n0
        simp only [if_neg hqq,if_pos kk,z',n0',decide_true,decide_false,Bool.not_true,Bool.not_false,cond_true,cond_false,Int.reduceEq]
      · have n0' : decide (n = 0) = false := decide_eq_false n0
        by_cases n1 : 4611686018427387904 < n
        · have hqq : ¬ okQ (i,(1,(ke,(to,(L,(si,(a,(n,(ti,(its,cvs)))))))))) := fun w => (hq.1 w).1.2.2 n1
          have n1' : decide (4611686018427387904 < n) = true := decide_eq_true n1
          simp only [if_neg hqq,if_pos kk,z',n0',n1',decide_true,decide_false,Bool.not_true,Bool.not_false,cond_true,cond_false,Int.reduceEq]
        · have hqq : okQ (i,(1,(ke,(to,(L,(si,(a,(n,(ti,(its,cvs)))))))))) := hq.2 ⟨⟨z,by have := hn.1; omega,n1⟩,kk⟩
          have n1' : decide (4611686018427387904 < n) = false := decide_eq_false n1
          simp only [if_pos hqq,if_pos kk,z',n0',n1',decide_true,decide_false,Bool.not_true,Bool.not_false,cond_true,cond_false,Int.reduceEq]
    · have hqq : ¬ okQ (i,(1,(ke,(to,(L,(si,(a,(n,(ti,(its,cvs)))))))))) := fun w => z (hq.1 w).1.1
      have z' : decide (ti = 0 ∧ its = [] ∧ cvs = []) = false := decide_eq_false z
      simp only [if_neg hqq,if_pos kk,z',decide_true,decide_false,Bool.not_true,Bool.not_false,cond_true,cond_false]
  · have hqq : ¬ okQ (i,(1,(ke,(to,(L,(si,(a,(n,(ti,(its,cvs)))))))))) := fun w => kk (hq.1 w).2
    simp only [if_neg hqq,if_neg kk,Int.reduceEq,decide_true,decide_false,Bool.not_true,Bool.not_false,cond_true,cond_false]
open Classical in
theorem F17_m2 {i ke to si a n ti : Int} {L cvs : List Cv} {its : List It} (h : RqOk (i,(2,(ke,(to,(L,(si,(a,(n,(ti,(its,cvs))))))))))) (s : sm (i,(2,(ke,(to,(L,(si,(a,(n,(ti,(its,cvs))))))))))) : F17 (i,(2,(ke,(to,(L,(si,(a,(n,(ti,(its,cvs)))))))))) = some (if okQ (i,(2,(ke,(to,(L,(si,(a,(n,(ti,(its,cvs)))))))))) then 0 else 1) := by
  have hq : okQ (i,(2,(ke,(to,(L,(si,(a,(n,(ti,(its,cvs)))))))))) ↔ ((a = 0 ∧ n = 0 ∧ ti = 0 ∧ cvs = []) ∧ (sumI its).2 = 0) ∧ okK (to,(L,si)) := by
    unfold okQ
    rw [ok2]
  obtain ⟨s1,s2,s3⟩ := s
  have s1' : L.length ≤ 1000 := s1
  have s2' : its.length ≤ 1000 := s2
  have s3' : cvs.length ≤ 1000 := s3
  have e41 : F41 (to,(L,si)) = some (if okK (to,(L,si)) then 0 else 1) := F41_eq h.tok (by simp only; omega)
  have e42 := named2 (i := i) (ke := ke) (to := to) (si := si) (a := a) (n := n) (ti := ti) (L := L) (cvs := cvs) (its := its)
  have e15 : F15 ((i,(2,(ke,(to,(L,(si,(a,(n,(ti,(its,cvs)))))))))),(i,(2,(ke,(to,(L,(si,(0,(0,(0,(its,[]))))))))))) = some (decide (a = 0 ∧ n = 0 ∧ ti = 0 ∧ cvs = [])) := by
    rw [F15_eq ⟨s1,s2,s3⟩]
    congr 1
    rw [decide_eq_decide]
    simp only [Prod.mk.injEq,true_and,and_true]
  have e31 : F31 its = some (sumI its) := F31_eq (by omega) h.its
  have e43 : F43 cvs = some (decide (cvs.length ≤ 16 ∧ ∀ c ∈ cvs,chk c = 0)) := F43_eq (by omega) h.cvs
  have hn := h.n
  simp only [Rq.n] at hn
  unfold F17
  simp only [Int.reduceLT,Int.reduceEq,decide_true,decide_false,cond_true,cond_false,beqF,beqT,Bool.not_false,Bool.not_true,e41,Option.bind_some,e42,e15,e31,e43,both_self]
  by_cases kk : okK (to,(L,si))
  · by_cases z : a = 0 ∧ n = 0 ∧ ti = 0 ∧ cvs = []
    · have z' : decide (a = 0 ∧ n = 0 ∧ ti = 0 ∧ cvs = []) = true := decide_eq_true z
      by_cases q : (sumI its).2 = 0
      · have hqq : okQ (i,(2,(ke,(to,(L,(si,(a,(n,(ti,(its,cvs)))))))))) := hq.2 ⟨⟨z,q⟩,kk⟩
        have q' : decide ((sumI its).2 = 0) = true := decide_eq_true q
        simp only [if_pos hqq,if_pos kk,z',q',decide_true,decide_false,Bool.not_true,Bool.not_false,cond_true,cond_false,Int.reduceEq]
      · have hqq : ¬ okQ (i,(2,(ke,(to,(L,(si,(a,(n,(ti,(its,cvs)))))))))) := fun w => q (hq.1 w).1.2
        have q' : decide ((sumI its).2 = 0) = false := decide_eq_false q
        simp only [if_neg hqq,if_pos kk,z',q',decide_true,decide_false,Bool.not_true,Bool.not_false,cond_true,cond_false,Int.reduceEq]
    · have hqq : ¬ okQ (i,(2,(ke,(to,(L,(si,(a,(n,(ti,(its,cvs)))))))))) := fun w => z (hq.1 w).1.1
      have z' : decide (a = 0 ∧ n = 0 ∧ ti = 0 ∧ cvs = []) = false := decide_eq_false z
      simp only [if_neg hqq,if_pos kk,z',decide_true,decide_false,Bool.not_true,Bool.not_false,cond_true,cond_false]
  · have hqq : ¬ okQ (i,(2,(ke,(to,(L,(si,(a,(n,(ti,(its,cvs)))))))))) := fun w => kk (hq.1 w).2
    simp only [if_neg hqq,if_neg kk,Int.reduceEq,decide_true,decide_false,Bool.not_true,Bool.not_false,cond_true,cond_false]
open Classical in
theorem F17_m3 {i ke to si a n ti : Int} {L cvs : List Cv} {its : List It} (h : RqOk (i,(3,(ke,(to,(L,(si,(a,(n,(ti,(its,cvs))))))))))) (s : sm (i,(3,(ke,(to,(L,(si,(a,(n,(ti,(its,cvs))))))))))) : F17 (i,(3,(ke,(to,(L,(si,(a,(n,(ti,(its,cvs)))))))))) = some (if okQ (i,(3,(ke,(to,(L,(si,(a,(n,(ti,(its,cvs)))))))))) then 0 else 1) := by
  have hq : okQ (i,(3,(ke,(to,(L,(si,(a,(n,(ti,(its,cvs)))))))))) ↔ ((its = [] ∧ cvs = []) ∧ (0 < n ∧ ¬ 4611686018427387904 < n)) ∧ okK (to,(L,si)) := by
    unfold okQ
    rw [ok3]
  obtain ⟨s1,s2,s3⟩ := s
  have s1' : L.length ≤ 1000 := s1
  have s2' : its.length ≤ 1000 := s2
  have s3' : cvs.length ≤ 1000 := s3
  have e41 : F41 (to,(L,si)) = some (if okK (to,(L,si)) then 0 else 1) := F41_eq h.tok (by simp only; omega)
  have e42 := named3 (i := i) (ke := ke) (to := to) (si := si) (a := a) (n := n) (ti := ti) (L := L) (cvs := cvs) (its := its)
  have e15 : F15 ((i,(3,(ke,(to,(L,(si,(a,(n,(ti,(its,cvs)))))))))),(i,(3,(ke,(to,(L,(si,(a,(n,(ti,([],[]))))))))))) = some (decide (its = [] ∧ cvs = [])) := by
    rw [F15_eq ⟨s1,s2,s3⟩]
    congr 1
    rw [decide_eq_decide]
    simp only [Prod.mk.injEq,true_and,and_true]
  have e31 : F31 its = some (sumI its) := F31_eq (by omega) h.its
  have e43 : F43 cvs = some (decide (cvs.length ≤ 16 ∧ ∀ c ∈ cvs,chk c = 0)) := F43_eq (by omega) h.cvs
  have hn := h.n
  simp only [Rq.n] at hn
  unfold F17
  simp only [Int.reduceLT,Int.reduceEq,decide_true,decide_false,cond_true,cond_false,beqF,beqT,Bool.not_false,Bool.not_true,e41,Option.bind_some,e42,e15,e31,e43,both_self]
  by_cases kk : okK (to,(L,si))
  · by_cases z : its = [] ∧ cvs = []
    · have z' : decide (its = [] ∧ cvs = []) = true := decide_eq_true z
      by_cases n0 : n = 0
      · have hqq : ¬ okQ (i,(3,(ke,(to,(L,(si,(a,(n,(ti,(its,cvs)))))))))) := fun w => by have := (hq.1 w).1.2.1; omega
        have n0' : decide (n = 0) = true := decide_eq_true n0
        simp only [if_neg hqq,if_pos kk,z',n0',decide_true,decide_false,Bool.not_true,Bool.not_false,cond_true,cond_false,Int.reduceEq]
      · have n0' : decide (n = 0) = false := decide_eq_false n0
        by_cases n1 : 4611686018427387904 < n
        · have hqq : ¬ okQ (i,(3,(ke,(to,(L,(si,(a,(n,(ti,(its,cvs)))))))))) := fun w => (hq.1 w).1.2.2 n1
          have n1' : decide (4611686018427387904 < n) = true := decide_eq_true n1
          simp only [if_neg hqq,if_pos kk,z',n0',n1',decide_true,decide_false,Bool.not_true,Bool.not_false,cond_true,cond_false,Int.reduceEq]
        · have hqq : okQ (i,(3,(ke,(to,(L,(si,(a,(n,(ti,(its,cvs)))))))))) := hq.2 ⟨⟨z,by have := hn.1; omega,n1⟩,kk⟩
          have n1' : decide (4611686018427387904 < n) = false := decide_eq_false n1
          simp only [if_pos hqq,if_pos kk,z',n0',n1',decide_true,decide_false,Bool.not_true,Bool.not_false,cond_true,cond_false,Int.reduceEq]
    · have hqq : ¬ okQ (i,(3,(ke,(to,(L,(si,(a,(n,(ti,(its,cvs)))))))))) := fun w => z (hq.1 w).1.1
      have z' : decide (its = [] ∧ cvs = []) = false := decide_eq_false z
      simp only [if_neg hqq,if_pos kk,z',decide_true,decide_false,Bool.not_true,Bool.not_false,cond_true,cond_false]
  · have hqq : ¬ okQ (i,(3,(ke,(to,(L,(si,(a,(n,(ti,(its,cvs)))))))))) := fun w => kk (hq.1 w).2
    simp only [if_neg hqq,if_neg kk,Int.reduceEq,decide_true,decide_false,Bool.not_true,Bool.not_false,cond_true,cond_false]
open Classical in
theorem F17_m4 {i ke to si a n ti : Int} {L cvs : List Cv} {its : List It} (h : RqOk (i,(4,(ke,(to,(L,(si,(a,(n,(ti,(its,cvs))))))))))) (s : sm (i,(4,(ke,(to,(L,(si,(a,(n,(ti,(its,cvs))))))))))) : F17 (i,(4,(ke,(to,(L,(si,(a,(n,(ti,(its,cvs)))))))))) = some (if okQ (i,(4,(ke,(to,(L,(si,(a,(n,(ti,(its,cvs)))))))))) then 0 else 1) := by
  have hq : okQ (i,(4,(ke,(to,(L,(si,(a,(n,(ti,(its,cvs)))))))))) ↔ ((n = 0 ∧ ti = 0 ∧ its = [] ∧ cvs = []) ∧ True) ∧ okK (to,(L,si)) := by
    unfold okQ
    rw [ok4]
  obtain ⟨s1,s2,s3⟩ := s
  have s1' : L.length ≤ 1000 := s1
  have s2' : its.length ≤ 1000 := s2
  have s3' : cvs.length ≤ 1000 := s3
  have e41 : F41 (to,(L,si)) = some (if okK (to,(L,si)) then 0 else 1) := F41_eq h.tok (by simp only; omega)
  have e42 := named4 (i := i) (ke := ke) (to := to) (si := si) (a := a) (n := n) (ti := ti) (L := L) (cvs := cvs) (its := its)
  have e15 : F15 ((i,(4,(ke,(to,(L,(si,(a,(n,(ti,(its,cvs)))))))))),(i,(4,(ke,(to,(L,(si,(a,(0,(0,([],[]))))))))))) = some (decide (n = 0 ∧ ti = 0 ∧ its = [] ∧ cvs = [])) := by
    rw [F15_eq ⟨s1,s2,s3⟩]
    congr 1
    rw [decide_eq_decide]
    simp only [Prod.mk.injEq,true_and,and_true]
  have e31 : F31 its = some (sumI its) := F31_eq (by omega) h.its
  have e43 : F43 cvs = some (decide (cvs.length ≤ 16 ∧ ∀ c ∈ cvs,chk c = 0)) := F43_eq (by omega) h.cvs
  have hn := h.n
  simp only [Rq.n] at hn
  unfold F17
  simp only [Int.reduceLT,Int.reduceEq,decide_true,decide_false,cond_true,cond_false,beqF,beqT,Bool.not_false,Bool.not_true,e41,Option.bind_some,e42,e15,e31,e43,both_self]
  by_cases kk : okK (to,(L,si))
  · by_cases z : n = 0 ∧ ti = 0 ∧ its = [] ∧ cvs = []
    · have z' : decide (n = 0 ∧ ti = 0 ∧ its = [] ∧ cvs = []) = true := decide_eq_true z
      have hqq : okQ (i,(4,(ke,(to,(L,(si,(a,(n,(ti,(its,cvs)))))))))) := hq.2 ⟨⟨z,trivial⟩,kk⟩
      simp only [if_pos hqq,if_pos kk,z',decide_true,decide_false,Bool.not_true,Bool.not_false,cond_true,cond_false,Int.reduceEq]
    · have hqq : ¬ okQ (i,(4,(ke,(to,(L,(si,(a,(n,(ti,(its,cvs)))))))))) := fun w => z (hq.1 w).1.1
      have z' : decide (n = 0 ∧ ti = 0 ∧ its = [] ∧ cvs = []) = false := decide_eq_false z
      simp only [if_neg hqq,if_pos kk,z',decide_true,decide_false,Bool.not_true,Bool.not_false,cond_true,cond_false]
  · have hqq : ¬ okQ (i,(4,(ke,(to,(L,(si,(a,(n,(ti,(its,cvs)))))))))) := fun w => kk (hq.1 w).2
    simp only [if_neg hqq,if_neg kk,Int.reduceEq,decide_true,decide_false,Bool.not_true,Bool.not_false,cond_true,cond_false]
open Classical in
theorem F17_m5 {i ke to si a n ti : Int} {L cvs : List Cv} {its : List It} (h : RqOk (i,(5,(ke,(to,(L,(si,(a,(n,(ti,(its,cvs))))))))))) (s : sm (i,(5,(ke,(to,(L,(si,(a,(n,(ti,(its,cvs))))))))))) : F17 (i,(5,(ke,(to,(L,(si,(a,(n,(ti,(its,cvs)))))))))) = some (if okQ (i,(5,(ke,(to,(L,(si,(a,(n,(ti,(its,cvs)))))))))) then 0 else 1) := by
  have hq : okQ (i,(5,(ke,(to,(L,(si,(a,(n,(ti,(its,cvs)))))))))) ↔ ((ke = 0 ∧ n = 0 ∧ ti = 0 ∧ its = [] ∧ cvs = []) ∧ True) ∧ okK (to,(L,si)) := by
    unfold okQ
    rw [ok5]
  obtain ⟨s1,s2,s3⟩ := s
  have s1' : L.length ≤ 1000 := s1
  have s2' : its.length ≤ 1000 := s2
  have s3' : cvs.length ≤ 1000 := s3
  have e41 : F41 (to,(L,si)) = some (if okK (to,(L,si)) then 0 else 1) := F41_eq h.tok (by simp only; omega)
  have e42 := named5 (i := i) (ke := ke) (to := to) (si := si) (a := a) (n := n) (ti := ti) (L := L) (cvs := cvs) (its := its)
  have e15 : F15 ((i,(5,(ke,(to,(L,(si,(a,(n,(ti,(its,cvs)))))))))),(i,(5,(0,(to,(L,(si,(a,(0,(0,([],[]))))))))))) = some (decide (ke = 0 ∧ n = 0 ∧ ti = 0 ∧ its = [] ∧ cvs = [])) := by
    rw [F15_eq ⟨s1,s2,s3⟩]
    congr 1
    rw [decide_eq_decide]
    simp only [Prod.mk.injEq,true_and,and_true]
  have e31 : F31 its = some (sumI its) := F31_eq (by omega) h.its
  have e43 : F43 cvs = some (decide (cvs.length ≤ 16 ∧ ∀ c ∈ cvs,chk c = 0)) := F43_eq (by omega) h.cvs
  have hn := h.n
  simp only [Rq.n] at hn
  unfold F17
  simp only [Int.reduceLT,Int.reduceEq,decide_true,decide_false,cond_true,cond_false,beqF,beqT,Bool.not_false,Bool.not_true,e41,Option.bind_some,e42,e15,e31,e43,both_self]
  by_cases kk : okK (to,(L,si))
  · by_cases z : ke = 0 ∧ n = 0 ∧ ti = 0 ∧ its = [] ∧ cvs = []
    · have z' : decide (ke = 0 ∧ n = 0 ∧ ti = 0 ∧ its = [] ∧ cvs = []) = true := decide_eq_true z
      have hqq : okQ (i,(5,(ke,(to,(L,(si,(a,(n,(ti,(its,cvs)))))))))) := hq.2 ⟨⟨z,trivial⟩,kk⟩
      simp only [if_pos hqq,if_pos kk,z',decide_true,decide_false,Bool.not_true,Bool.not_false,cond_true,cond_false,Int.reduceEq]
    · have hqq : ¬ okQ (i,(5,(ke,(to,(L,(si,(a,(n,(ti,(its,cvs)))))))))) := fun w => z (hq.1 w).1.1
      have z' : decide (ke = 0 ∧ n = 0 ∧ ti = 0 ∧ its = [] ∧ cvs = []) = false := decide_eq_false z
      simp only [if_neg hqq,if_pos kk,z',decide_true,decide_false,Bool.not_true,Bool.not_false,cond_true,cond_false]
  · have hqq : ¬ okQ (i,(5,(ke,(to,(L,(si,(a,(n,(ti,(its,cvs)))))))))) := fun w => kk (hq.1 w).2
    simp only [if_neg hqq,if_neg kk,Int.reduceEq,decide_true,decide_false,Bool.not_true,Bool.not_false,cond_true,cond_false]
open Classical in
theorem F17_m6 {i ke to si a n ti : Int} {L cvs : List Cv} {its : List It} (h : RqOk (i,(6,(ke,(to,(L,(si,(a,(n,(ti,(its,cvs))))))))))) (s : sm (i,(6,(ke,(to,(L,(si,(a,(n,(ti,(its,cvs))))))))))) : F17 (i,(6,(ke,(to,(L,(si,(a,(n,(ti,(its,cvs)))))))))) = some (if okQ (i,(6,(ke,(to,(L,(si,(a,(n,(ti,(its,cvs)))))))))) then 0 else 1) := by
  have hq : okQ (i,(6,(ke,(to,(L,(si,(a,(n,(ti,(its,cvs)))))))))) ↔ ((ke = 0 ∧ n = 0 ∧ ti = 0 ∧ its = [] ∧ cvs = []) ∧ True) ∧ okK (to,(L,si)) := by
    unfold okQ
    rw [ok6]
  obtain ⟨s1,s2,s3⟩ := s
  have s1' : L.length ≤ 1000 := s1
  have s2' : its.length ≤ 1000 := s2
  have s3' : cvs.length ≤ 1000 := s3
  have e41 : F41 (to,(L,si)) = some (if okK (to,(L,si)) then 0 else 1) := F41_eq h.tok (by simp only; omega)
  have e42 := named6 (i := i) (ke := ke) (to := to) (si := si) (a := a) (n := n) (ti := ti) (L := L) (cvs := cvs) (its := its)
  have e15 : F15 ((i,(6,(ke,(to,(L,(si,(a,(n,(ti,(its,cvs)))))))))),(i,(6,(0,(to,(L,(si,(a,(0,(0,([],[]))))))))))) = some (decide (ke = 0 ∧ n = 0 ∧ ti = 0 ∧ its = [] ∧ cvs = [])) := by
    rw [F15_eq ⟨s1,s2,s3⟩]
    congr 1
    rw [decide_eq_decide]
    simp only [Prod.mk.injEq,true_and,and_true]
  have e31 : F31 its = some (sumI its) := F31_eq (by omega) h.its
  have e43 : F43 cvs = some (decide (cvs.length ≤ 16 ∧ ∀ c ∈ cvs,chk c = 0)) := F43_eq (by omega) h.cvs
  have hn := h.n
  simp only [Rq.n] at hn
  unfold F17
  simp only [Int.reduceLT,Int.reduceEq,decide_true,decide_false,cond_true,cond_false,beqF,beqT,Bool.not_false,Bool.not_true,e41,Option.bind_some,e42,e15,e31,e43,both_self]
  by_cases kk : okK (to,(L,si))
  · by_cases z : ke = 0 ∧ n = 0 ∧ ti = 0 ∧ its = [] ∧ cvs = []
    · have z' : decide (ke = 0 ∧ n = 0 ∧ ti = 0 ∧ its = [] ∧ cvs = []) = true := decide_eq_true z
      have hqq : okQ (i,(6,(ke,(to,(L,(si,(a,(n,(ti,(its,cvs)))))))))) := hq.2 ⟨⟨z,trivial⟩,kk⟩
      simp only [if_pos hqq,if_pos kk,z',decide_true,decide_false,Bool.not_true,Bool.not_false,cond_true,cond_false,Int.reduceEq]
    · have hqq : ¬ okQ (i,(6,(ke,(to,(L,(si,(a,(n,(ti,(its,cvs)))))))))) := fun w => z (hq.1 w).1.1
      have z' : decide (ke = 0 ∧ n = 0 ∧ ti = 0 ∧ its = [] ∧ cvs = []) = false := decide_eq_false z
      simp only [if_neg hqq,if_pos kk,z',decide_true,decide_false,Bool.not_true,Bool.not_false,cond_true,cond_false]
  · have hqq : ¬ okQ (i,(6,(ke,(to,(L,(si,(a,(n,(ti,(its,cvs)))))))))) := fun w => kk (hq.1 w).2
    simp only [if_neg hqq,if_neg kk,Int.reduceEq,decide_true,decide_false,Bool.not_true,Bool.not_false,cond_true,cond_false]
open Classical in
theorem F17_m7 {i ke to si a n ti : Int} {L cvs : List Cv} {its : List It} (h : RqOk (i,(7,(ke,(to,(L,(si,(a,(n,(ti,(its,cvs))))))))))) (s : sm (i,(7,(ke,(to,(L,(si,(a,(n,(ti,(its,cvs))))))))))) : F17 (i,(7,(ke,(to,(L,(si,(a,(n,(ti,(its,cvs)))))))))) = some (if okQ (i,(7,(ke,(to,(L,(si,(a,(n,(ti,(its,cvs)))))))))) then 0 else 1) := by
  have hq : okQ (i,(7,(ke,(to,(L,(si,(a,(n,(ti,(its,cvs)))))))))) ↔ ((ke = 0 ∧ a = 0 ∧ n = 0 ∧ ti = 0 ∧ its = [] ∧ cvs = []) ∧ True) ∧ okK (to,(L,si)) := by
    unfold okQ
    rw [ok7]
  obtain ⟨s1,s2,s3⟩ := s
  have s1' : L.length ≤ 1000 := s1
  have s2' : its.length ≤ 1000 := s2
  have s3' : cvs.length ≤ 1000 := s3
  have e41 : F41 (to,(L,si)) = some (if okK (to,(L,si)) then 0 else 1) := F41_eq h.tok (by simp only; omega)
  have e42 := named7 (i := i) (ke := ke) (to := to) (si := si) (a := a) (n := n) (ti := ti) (L := L) (cvs := cvs) (its := its)
  have e15 : F15 ((i,(7,(ke,(to,(L,(si,(a,(n,(ti,(its,cvs)))))))))),(i,(7,(0,(to,(L,(si,(0,(0,(0,([],[]))))))))))) = some (decide (ke = 0 ∧ a = 0 ∧ n = 0 ∧ ti = 0 ∧ its = [] ∧ cvs = [])) := by
    rw [F15_eq ⟨s1,s2,s3⟩]
    congr 1
    rw [decide_eq_decide]
    simp only [Prod.mk.injEq,true_and,and_true]
  have e31 : F31 its = some (sumI its) := F31_eq (by omega) h.its
  have e43 : F43 cvs = some (decide (cvs.length ≤ 16 ∧ ∀ c ∈ cvs,chk c = 0)) := F43_eq (by omega) h.cvs
  have hn := h.n
  simp only [Rq.n] at hn
  unfold F17
  simp only [Int.reduceLT,Int.reduceEq,decide_true,decide_false,cond_true,cond_false,beqF,beqT,Bool.not_false,Bool.not_true,e41,Option.bind_some,e42,e15,e31,e43,both_self]
  by_cases kk : okK (to,(L,si))
  · by_cases z : ke = 0 ∧ a = 0 ∧ n = 0 ∧ ti = 0 ∧ its = [] ∧ cvs = []
    · have z' : decide (ke = 0 ∧ a = 0 ∧ n = 0 ∧ ti = 0 ∧ its = [] ∧ cvs = []) = true := decide_eq_true z
      have hqq : okQ (i,(7,(ke,(to,(L,(si,(a,(n,(ti,(its,cvs)))))))))) := hq.2 ⟨⟨z,trivial⟩,kk⟩
      simp only [if_pos hqq,if_pos kk,z',decide_true,decide_false,Bool.not_true,Bool.not_false,cond_true,cond_false,Int.reduceEq]
    · have hqq : ¬ okQ (i,(7,(ke,(to,(L,(si,(a,(n,(ti,(its,cvs)))))))))) := fun w => z (hq.1 w).1.1
      have z' : decide (ke = 0 ∧ a = 0 ∧ n = 0 ∧ ti = 0 ∧ its = [] ∧ cvs = []) = false := decide_eq_false z
      simp only [if_neg hqq,if_pos kk,z',decide_true,decide_false,Bool.not_true,Bool.not_false,cond_true,cond_false]
  · have hqq : ¬ okQ (i,(7,(ke,(to,(L,(si,(a,(n,(ti,(its,cvs)))))))))) := fun w => kk (hq.1 w).2
    simp only [if_neg hqq,if_neg kk,Int.reduceEq,decide_true,decide_false,Bool.not_true,Bool.not_false,cond_true,cond_false]
open Classical in
theorem F17_m8 {i ke to si a n ti : Int} {L cvs : List Cv} {its : List It} (h : RqOk (i,(8,(ke,(to,(L,(si,(a,(n,(ti,(its,cvs))))))))))) (s : sm (i,(8,(ke,(to,(L,(si,(a,(n,(ti,(its,cvs))))))))))) : F17 (i,(8,(ke,(to,(L,(si,(a,(n,(ti,(its,cvs)))))))))) = some (if okQ (i,(8,(ke,(to,(L,(si,(a,(n,(ti,(its,cvs)))))))))) then 0 else 1) := by
  have hq : okQ (i,(8,(ke,(to,(L,(si,(a,(n,(ti,(its,cvs)))))))))) ↔ ((ke = 0 ∧ ti = 0 ∧ its = [] ∧ cvs = []) ∧ True) ∧ okK (to,(L,si)) := by
    unfold okQ
    rw [ok8]
  obtain ⟨s1,s2,s3⟩ := s
  have s1' : L.length ≤ 1000 := s1
  have s2' : its.length ≤ 1000 := s2
  have s3' : cvs.length ≤ 1000 := s3
  have e41 : F41 (to,(L,si)) = some (if okK (to,(L,si)) then 0 else 1) := F41_eq h.tok (by simp only; omega)
  have e42 := named8 (i := i) (ke := ke) (to := to) (si := si) (a := a) (n := n) (ti := ti) (L := L) (cvs := cvs) (its := its)
  have e15 : F15 ((i,(8,(ke,(to,(L,(si,(a,(n,(ti,(its,cvs)))))))))),(i,(8,(0,(to,(L,(si,(a,(n,(0,([],[]))))))))))) = some (decide (ke = 0 ∧ ti = 0 ∧ its = [] ∧ cvs = [])) := by
    rw [F15_eq ⟨s1,s2,s3⟩]
    congr 1
    rw [decide_eq_decide]
    simp only [Prod.mk.injEq,true_and,and_true]
  have e31 : F31 its = some (sumI its) := F31_eq (by omega) h.its
  have e43 : F43 cvs = some (decide (cvs.length ≤ 16 ∧ ∀ c ∈ cvs,chk c = 0)) := F43_eq (by omega) h.cvs
  have hn := h.n
  simp only [Rq.n] at hn
  unfold F17
  simp only [Int.reduceLT,Int.reduceEq,decide_true,decide_false,cond_true,cond_false,beqF,beqT,Bool.not_false,Bool.not_true,e41,Option.bind_some,e42,e15,e31,e43,both_self]
  by_cases kk : okK (to,(L,si))
  · by_cases z : ke = 0 ∧ ti = 0 ∧ its = [] ∧ cvs = []
    · have z' : decide (ke = 0 ∧ ti = 0 ∧ its = [] ∧ cvs = []) = true := decide_eq_true z
      have hqq : okQ (i,(8,(ke,(to,(L,(si,(a,(n,(ti,(its,cvs)))))))))) := hq.2 ⟨⟨z,trivial⟩,kk⟩
      simp only [if_pos hqq,if_pos kk,z',decide_true,decide_false,Bool.not_true,Bool.not_false,cond_true,cond_false,Int.reduceEq]
    · have hqq : ¬ okQ (i,(8,(ke,(to,(L,(si,(a,(n,(ti,(its,cvs)))))))))) := fun w => z (hq.1 w).1.1
      have z' : decide (ke = 0 ∧ ti = 0 ∧ its = [] ∧ cvs = []) = false := decide_eq_false z
      simp only [if_neg hqq,if_pos kk,z',decide_true,decide_false,Bool.not_true,Bool.not_false,cond_true,cond_false]
  · have hqq : ¬ okQ (i,(8,(ke,(to,(L,(si,(a,(n,(ti,(its,cvs)))))))))) := fun w => kk (hq.1 w).2
    simp only [if_neg hqq,if_neg kk,Int.reduceEq,decide_true,decide_false,Bool.not_true,Bool.not_false,cond_true,cond_false]
open Classical in
theorem F17_m9 {i ke to si a n ti : Int} {L cvs : List Cv} {its : List It} (h : RqOk (i,(9,(ke,(to,(L,(si,(a,(n,(ti,(its,cvs))))))))))) (s : sm (i,(9,(ke,(to,(L,(si,(a,(n,(ti,(its,cvs))))))))))) : F17 (i,(9,(ke,(to,(L,(si,(a,(n,(ti,(its,cvs)))))))))) = some (if okQ (i,(9,(ke,(to,(L,(si,(a,(n,(ti,(its,cvs)))))))))) then 0 else 1) := by
  have hq : okQ (i,(9,(ke,(to,(L,(si,(a,(n,(ti,(its,cvs)))))))))) ↔ ((ke = 0 ∧ a = 0 ∧ ti = 0 ∧ its = [] ∧ cvs = []) ∧ True) ∧ okK (to,(L,si)) := by
    unfold okQ
    rw [ok9]
  obtain ⟨s1,s2,s3⟩ := s
  have s1' : L.length ≤ 1000 := s1
  have s2' : its.length ≤ 1000 := s2
  have s3' : cvs.length ≤ 1000 := s3
  have e41 : F41 (to,(L,si)) = some (if okK (to,(L,si)) then 0 else 1) := F41_eq h.tok (by simp only; omega)
  have e42 := named9 (i := i) (ke := ke) (to := to) (si := si) (a := a) (n := n) (ti := ti) (L := L) (cvs := cvs) (its := its)
  have e15 : F15 ((i,(9,(ke,(to,(L,(si,(a,(n,(ti,(its,cvs)))))))))),(i,(9,(0,(to,(L,(si,(0,(n,(0,([],[]))))))))))) = some (decide (ke = 0 ∧ a = 0 ∧ ti = 0 ∧ its = [] ∧ cvs = [])) := by
    rw [F15_eq ⟨s1,s2,s3⟩]
    congr 1
    rw [decide_eq_decide]
    simp only [Prod.mk.injEq,true_and,and_true]
  have e31 : F31 its = some (sumI its) := F31_eq (by omega) h.its
  have e43 : F43 cvs = some (decide (cvs.length ≤ 16 ∧ ∀ c ∈ cvs,chk c = 0)) := F43_eq (by omega) h.cvs
  have hn := h.n
  simp only [Rq.n] at hn
  unfold F17
  simp only [Int.reduceLT,Int.reduceEq,decide_true,decide_false,cond_true,cond_false,beqF,beqT,Bool.not_false,Bool.not_true,e41,Option.bind_some,e42,e15,e31,e43,both_self]
  by_cases kk : okK (to,(L,si))
  · by_cases z : ke = 0 ∧ a = 0 ∧ ti = 0 ∧ its = [] ∧ cvs = []
    · have z' : decide (ke = 0 ∧ a = 0 ∧ ti = 0 ∧ its = [] ∧ cvs = []) = true := decide_eq_true z
      have hqq : okQ (i,(9,(ke,(to,(L,(si,(a,(n,(ti,(its,cvs)))))))))) := hq.2 ⟨⟨z,trivial⟩,kk⟩
      simp only [if_pos hqq,if_pos kk,z',decide_true,decide_false,Bool.not_true,Bool.not_false,cond_true,cond_false,Int.reduceEq]
    · have hqq : ¬ okQ (i,(9,(ke,(to,(L,(si,(a,(n,(ti,(its,cvs)))))))))) := fun w => z (hq.1 w).1.1
      have z' : decide (ke = 0 ∧ a = 0 ∧ ti = 0 ∧ its = [] ∧ cvs = []) = false := decide_eq_false z
      simp only [if_neg hqq,if_pos kk,z',decide_true,decide_false,Bool.not_true,Bool.not_false,cond_true,cond_false]
  · have hqq : ¬ okQ (i,(9,(ke,(to,(L,(si,(a,(n,(ti,(its,cvs)))))))))) := fun w => kk (hq.1 w).2
    simp only [if_neg hqq,if_neg kk,Int.reduceEq,decide_true,decide_false,Bool.not_true,Bool.not_false,cond_true,cond_false]
open Classical in
theorem F17_m10 {i ke to si a n ti : Int} {L cvs : List Cv} {its : List It} (h : RqOk (i,(10,(ke,(to,(L,(si,(a,(n,(ti,(its,cvs))))))))))) (s : sm (i,(10,(ke,(to,(L,(si,(a,(n,(ti,(its,cvs))))))))))) : F17 (i,(10,(ke,(to,(L,(si,(a,(n,(ti,(its,cvs)))))))))) = some (if okQ (i,(10,(ke,(to,(L,(si,(a,(n,(ti,(its,cvs)))))))))) then 0 else 1) := by
  have hq : okQ (i,(10,(ke,(to,(L,(si,(a,(n,(ti,(its,cvs)))))))))) ↔ ((ke = 0 ∧ a = 0 ∧ n = 0 ∧ ti = 0 ∧ its = []) ∧ (0 < cvs.length ∧ cvs.length ≤ 16 ∧ ∀ c ∈ cvs,chk c = 0)) ∧ okK (to,(L,si)) := by
    unfold okQ
    rw [ok10]
  obtain ⟨s1,s2,s3⟩ := s
  have s1' : L.length ≤ 1000 := s1
  have s2' : its.length ≤ 1000 := s2
  have s3' : cvs.length ≤ 1000 := s3
  have e41 : F41 (to,(L,si)) = some (if okK (to,(L,si)) then 0 else 1) := F41_eq h.tok (by simp only; omega)
  have e42 := named10 (i := i) (ke := ke) (to := to) (si := si) (a := a) (n := n) (ti := ti) (L := L) (cvs := cvs) (its := its)
  have e15 : F15 ((i,(10,(ke,(to,(L,(si,(a,(n,(ti,(its,cvs)))))))))),(i,(10,(0,(to,(L,(si,(0,(0,(0,([],cvs))))))))))) = some (decide (ke = 0 ∧ a = 0 ∧ n = 0 ∧ ti = 0 ∧ its = [])) := by
    rw [F15_eq ⟨s1,s2,s3⟩]
    congr 1
    rw [decide_eq_decide]
    simp only [Prod.mk.injEq,true_and,and_true]
  have e31 : F31 its = some (sumI its) := F31_eq (by omega) h.its
  have e43 : F43 cvs = some (decide (cvs.length ≤ 16 ∧ ∀ c ∈ cvs,chk c = 0)) := F43_eq (by omega) h.cvs
  have hn := h.n
  simp only [Rq.n] at hn
  unfold F17
  simp only [Int.reduceLT,Int.reduceEq,decide_true,decide_false,cond_true,cond_false,beqF,beqT,Bool.not_false,Bool.not_true,e41,Option.bind_some,e42,e15,e31,e43,both_self]
  by_cases kk : okK (to,(L,si))
  · by_cases z : ke = 0 ∧ a = 0 ∧ n = 0 ∧ ti = 0 ∧ its = []
    · by_cases q0 : (cvs.length : Int) = 0
      · have : ¬ (0 < cvs.length ∧ cvs.length ≤ 16 ∧ ∀ c ∈ cvs,chk c = 0) := fun w => by have := w.1; omega
        have hqq : ¬ okQ (i,(10,(ke,(to,(L,(si,(a,(n,(ti,(its,cvs)))))))))) := fun w => this (hq.1 w).1.2
        have z' : decide (ke = 0 ∧ a = 0 ∧ n = 0 ∧ ti = 0 ∧ its = []) = true := decide_eq_true z
        simp only [if_neg hqq,if_pos kk,z',q0,decide_true,decide_false,Bool.not_true,Bool.not_false,cond_true,cond_false]
      · have q1 : 0 < cvs.length := by omega
        by_cases q : cvs.length ≤ 16 ∧ ∀ c ∈ cvs,chk c = 0
        · have : (0 < cvs.length ∧ cvs.length ≤ 16 ∧ ∀ c ∈ cvs,chk c = 0) := ⟨q1,q⟩
          have q' : decide (cvs.length ≤ 16 ∧ ∀ c ∈ cvs,chk c = 0) = true := decide_eq_true q
          have hqq : okQ (i,(10,(ke,(to,(L,(si,(a,(n,(ti,(its,cvs)))))))))) := hq.2 ⟨⟨z,this⟩,kk⟩
          have z' : decide (ke = 0 ∧ a = 0 ∧ n = 0 ∧ ti = 0 ∧ its = []) = true := decide_eq_true z
          simp only [if_pos hqq,if_pos kk,z',q',q0,decide_true,decide_false,Bool.not_true,Bool.not_false,cond_true,cond_false]
        · have hqq : ¬ okQ (i,(10,(ke,(to,(L,(si,(a,(n,(ti,(its,cvs)))))))))) := fun w => q (hq.1 w).1.2.2
          have q' : decide (cvs.length ≤ 16 ∧ ∀ c ∈ cvs,chk c = 0) = false := decide_eq_false q
          have z' : decide (ke = 0 ∧ a = 0 ∧ n = 0 ∧ ti = 0 ∧ its = []) = true := decide_eq_true z
          simp only [if_neg hqq,if_pos kk,z',q',q0,decide_true,decide_false,Bool.not_true,Bool.not_false,cond_true,cond_false]
    · have hqq : ¬ okQ (i,(10,(ke,(to,(L,(si,(a,(n,(ti,(its,cvs)))))))))) := fun w => z (hq.1 w).1.1
      have z' : decide (ke = 0 ∧ a = 0 ∧ n = 0 ∧ ti = 0 ∧ its = []) = false := decide_eq_false z
      simp only [if_neg hqq,if_pos kk,z',decide_true,decide_false,Bool.not_true,Bool.not_false,cond_true,cond_false]
  · have hqq : ¬ okQ (i,(10,(ke,(to,(L,(si,(a,(n,(ti,(its,cvs)))))))))) := fun w => kk (hq.1 w).2
    simp only [if_neg hqq,if_neg kk,Int.reduceEq,decide_true,decide_false,Bool.not_true,Bool.not_false,cond_true,cond_false]
open Classical in
theorem F17_eq {r : Rq} (h : RqOk r) (s : sm r) : F17 r = some (if okQ r then 0 else 1) := by
  obtain ⟨i,m,ke,to,L,si,a,n,ti,its,cvs⟩ := r
  by_cases hm : 1 ≤ m ∧ m ≤ 10
  · have : m = 1 ∨ m = 2 ∨ m = 3 ∨ m = 4 ∨ m = 5 ∨ m = 6 ∨ m = 7 ∨ m = 8 ∨ m = 9 ∨ m = 10 := by omega
    rcases this with rfl | rfl | rfl | rfl | rfl | rfl | rfl | rfl | rfl | rfl
    · exact F17_m1 h s
    · exact F17_m2 h s
    · exact F17_m3 h s
    · exact F17_m4 h s
    · exact F17_m5 h s
    · exact F17_m6 h s
    · exact F17_m7 h s
    · exact F17_m8 h s
    · exact F17_m9 h s
    · exact F17_m10 h s
  · have hq : ¬ okQ (i,(m,(ke,(to,(L,(si,(a,(n,(ti,(its,cvs)))))))))) := fun w => hm (okQ_me w)
    rw [if_neg hq]
    unfold F17
    by_cases h1 : m < 1
    · simp [h1,both_self]
    · have h2 : 10 < m := by omega
      simp [h1,h2,both_self]
end Go.Proofs.YtgdfhijgjjcnjaaGreatDoor.RZ
