/- Part of a proof: what the program's functions come to. -/
import Derived.Test.YtgdfhijgjjcnjaaGreatDoorEHAz
set_option linter.unusedVariables false
set_option linter.unusedSimpArgs false
namespace Go.Proofs.YtgdfhijgjjcnjaaGreatDoor.RZ
open Go Go.Fw Go.Proofs RB
set_option maxRecDepth 20000
theorem F33_eq {a b : List It} (hl : a.length ≤ 4611686018427387904) : F33 (a,b) = some (decide (a = b)) := by
  unfold F33
  by_cases hn : a.length = b.length
  · have : (a.length : Int) = (b.length : Int) := by omega
    simp only [this,decide_true,Bool.not_true,cond_false]
    rw [← this]
    refine same_loop (t := .pair (.int .u64) (.int .u64)) hl hn (G := fun x y K => K (decide (x.1 = y.1) && decide (x.2 = y.2))) ?_
    intro i h1 h2 K
    congr 1
    rw [Bool.eq_iff_iff]
    simp only [Bool.and_eq_true,decide_eq_true_eq]
    constructor
    · rintro ⟨q1,q2⟩; exact Prod.ext q1 q2
    · intro q; rw [q]; exact ⟨rfl,rfl⟩
  · have : ¬ (a.length : Int) = (b.length : Int) := by omega
    have hne : a ≠ b := fun h => hn (by rw [h])
    simp [this,hne]
def sm (r : Rq) : Prop := r.tok.2.1.length ≤ 1000 ∧ r.its.length ≤ 1000 ∧ r.cvs.length ≤ 1000
open Classical in
theorem F15_eq {a b : Rq} (h : sm a) : F15 (a,b) = some (decide (a = b)) := by
  obtain ⟨h1,h2,h3⟩ := h
  obtain ⟨a1,a2,a3,a4,a5,a6,a7,a8,a9,a10,a11⟩ := a
  obtain ⟨b1,b2,b3,b4,b5,b6,b7,b8,b9,b10,b11⟩ := b
  simp only [Rq.its,Rq.cvs] at h1 h2 h3
  have e1 : F32 ((a4,(a5,a6)),(b4,(b5,b6))) = some (decide ((a4,(a5,a6)) = (b4,(b5,b6)))) := F32_eq (a := (a4,(a5,a6))) (by simp only; omega)
  unfold F15
  simp only [e1,F33_eq (a := a10) (b := b10) (by omega),F34_eq (a := a11) (b := b11) (by omega),Option.bind_some]
  by_cases c1 : a1 = b1
  · by_cases c2 : a2 = b2
    · by_cases c3 : a3 = b3
      · by_cases c4 : (a4,(a5,a6)) = (b4,(b5,b6))
        · by_cases c7 : a7 = b7
          · by_cases c8 : a8 = b8
            · by_cases c9 : a9 = b9
              · by_cases c10 : a10 = b10
                · simp only [Prod.mk.injEq] at c4
                  by_cases c11 : a11 = b11 <;> simp [c1,c2,c3,c4,c7,c8,c9,c10,c11]
                · simp [c1,c2,c3,c4,c7,c8,c9,c10]
              · simp [c1,c2,c3,c4,c7,c8,c9]
            · simp [c1,c2,c3,c4,c7,c8]
          · simp [c1,c2,c3,c4,c7]
        · have c4' : ¬ (a4 = b4 ∧ a5 = b5 ∧ a6 = b6) := fun q => c4 (by rw [q.1,q.2.1,q.2.2])
          simp only [Prod.mk.injEq] at c4
          have c5 : decide ((a1,a2,a3,a4,a5,a6,a7,a8,a9,a10,a11) = (b1,b2,b3,b4,b5,b6,b7,b8,b9,b10,b11)) = false := by
            refine decide_eq_false fun q => c4' ?_
            simp only [Prod.mk.injEq] at q
            exact ⟨q.2.2.2.1,q.2.2.2.2.1,q.2.2.2.2.2.1⟩
          rw [c5]
          simp [c1,c2,c3,c4]
      · simp [c1,c2,c3]
    · simp [c1,c2]
  · simp [c1]
theorem F93_eq {b : List Int} (hl : b.length ≤ 9223372036854775807) : F93 b = some (bif b.any (fun n => decide (4611686018427387904 < n)) then 1 else 0) := by
  unfold F93
  have := lfp_rule (B := fun (rec1 : (Int×Int) → Option Int) (x1 : Int×Int) =>
    bif decide (x1.2 < (b.length : Int)) then (
    bif inb x1.2 b.length then
    bif decide (4611686018427387904 < (rd (.int .u64) b x1.2)) then (
    some 1)
    else (
    rec1 (x1.1,(IntKind.wrap .i64 (x1.2 + 1))))
    else none)
    else (
    some 0)) (fun x => ∃ i : Nat,x.2 = (i : Int) ∧ i ≤ b.length) (fun x => b.length - x.2.toNat) (fun x => bif (b.drop x.2.toNat).any (fun n => decide (4611686018427387904 < n)) then (1 : Int) else 0) ?_ (0,0) ⟨0,rfl,by omega⟩
  · simpa using this
  rintro ⟨y,i'⟩ ⟨i,hi',hi⟩ rec hrec
  simp only at hi'
  subst hi'
  simp only [Int.toNat_natCast]
  by_cases hlt : i < b.length
  · have k1 : ((i : Int) < (b.length : Int)) := by omega
    simp only [k1,decide_true,cond_true,inb_true (Int.natCast_nonneg i) k1,rd_nat (t := .int .u64) hlt]
    have hd := List.drop_eq_getElem_cons hlt
    simp only [hd,List.any_cons]
    by_cases c : 4611686018427387904 < b[i]
    · simp only [c,decide_true,cond_true,Bool.true_or]
    · simp only [c,decide_false,cond_false,Bool.false_or]
      rw [RB.wrap_i64 (n := (i : Int) + 1) (by omega) (by omega)]
      have := hrec (y,(i : Int) + 1) ⟨i + 1,by simp,by omega⟩ (by simp only; omega)
      rw [this]
      simp only
      congr 3
  · have k1 : ¬ ((i : Int) < (b.length : Int)) := by omega
    have hd : b.drop i = [] := List.drop_eq_nil_of_le (by omega)
    simp only [k1,decide_false,cond_false,hd,List.any_nil]
def ssum : List Int → Int
  | [] => 0
  | n :: r => n + ssum r
theorem ssum_nn : ∀ {l : List Int},(∀ n ∈ l,0 ≤ n) → 0 ≤ ssum l
  | [],_ => by simp [ssum]
  | n :: r,h => by have h1 := h n (by simp); have := ssum_nn (l := r) (fun m hm => h m (by simp [hm])); simp only [ssum]; omega
theorem F75_eq {b : List Int} (hl : b.length ≤ 9223372036854775807) (hu : ∀ n ∈ b,U64 n) : F75 b = some (if b.any (fun n => decide (4611686018427387904 < n)) then (0,1) else if 4611686018427387904 < ssum b then (0,8) else (ssum b,0)) := by
  unfold F75
  rw [F93_eq hl,Option.bind_some]
  by_cases ha : b.any (fun n => decide (4611686018427387904 < n)) = true
  · simp [ha]
  · simp only [Bool.not_eq_true] at ha
    simp only [ha,cond_false,Bool.false_eq_true,if_false,decide_true,Bool.not_true]
    have hsm : ∀ n ∈ b,n ≤ 4611686018427387904 := fun n hn => by
      have := List.any_eq_false.1 ha n hn
      simp only [decide_eq_true_eq] at this
      omega
    refine lfp_rule (fun (x : Int×Int×Int×Int) => ∃ i : Nat,x.2.2.2 = (i : Int) ∧ i ≤ b.length ∧ 0 ≤ x.2.2.1 ∧ x.2.2.1 ≤ 4611686018427387904 ∧ x.2.2.1 + ssum (b.drop i) = ssum b) (fun x => b.length - x.2.2.2.toNat) (fun _ => if 4611686018427387904 < ssum b then (0,8) else (ssum b,0)) ?_ (0,0,0,0) ⟨0,rfl,by omega,by simp,by simp,by simp⟩
    rintro ⟨y,z,s,i'⟩ ⟨i,hi',hi,hs0,hs1,hs⟩ rec hrec
    simp only at hi' hs0 hs1 hs
    subst hi'
    simp only
    by_cases hlt : i < b.length
    · have k1 : ((i : Int) < (b.length : Int)) := by omega
      have hn := hsm _ (List.getElem_mem hlt)
      have hn0 := (hu _ (List.getElem_mem hlt)).1
      rw [List.drop_eq_getElem_cons hlt] at hs
      simp only [ssum] at hs
      have hrest := ssum_nn (l := b.drop (i + 1)) (fun n hn => (hu n (List.mem_of_mem_drop hn)).1)
      simp only [k1,decide_true,cond_true,inb_true (Int.natCast_nonneg i) k1,rd_nat (t := .int .u64) hlt]
      rw [RB.wrap_u64 (n := 4611686018427387904 - s) (by omega) (by omega)]
      by_cases c : 4611686018427387904 - s < b[i]
      · have : 4611686018427387904 < ssum b := by omega
        simp [c,this]
      · simp only [c,decide_false,cond_false]
        rw [RB.wrap_u64 (n := s + b[i]) (by omega) (by omega),RB.wrap_i64 (n := (i : Int) + 1) (by omega) (by omega)]
        exact hrec _ ⟨i + 1,by simp,by omega,by simp only; omega,by simp only; omega,by simp only; omega⟩ (by simp only; omega)
    · have k1 : ¬ ((i : Int) < (b.length : Int)) := by omega
      rw [List.drop_eq_nil_of_le (by omega)] at hs
      simp only [ssum] at hs
      have h1 : s = ssum b := by omega
      have h2 : ¬ 4611686018427387904 < ssum b := by omega
      simp only [k1,decide_false,cond_false,h2,if_false,h1]
theorem ssum_tot : ∀ l : List It,ssum (l.map (·.2)) = tot l
  | [] => rfl
  | x :: r => by simp only [List.map_cons,ssum,tot,ssum_tot r]
theorem any_odd {l : List It} (h : ∀ x ∈ l,¬ x.2 = 0) : (l.map (·.2)).any (fun n => decide (4611686018427387904 < n)) = l.any oddI := by
  rw [List.any_map,Bool.eq_iff_iff,List.any_eq_true,List.any_eq_true]
  constructor
  · rintro ⟨x,hx,q⟩
    exact ⟨x,hx,by unfold oddI; simp only [Function.comp] at q; simp [q]⟩
  · rintro ⟨x,hx,q⟩
    refine ⟨x,hx,?_⟩
    unfold oddI at q
    have := h x hx
    simpa [this] using q
theorem F31_eq {l : List It} (hl : l.length ≤ 9223372036854775807) (h : ∀ x ∈ l,U64 x.1 ∧ U64 x.2) : F31 l = some (sumI l) := by
  unfold F31 sumI
  by_cases h0 : l = []
  · subst h0; rfl
  · by_cases h16 : 16 < l.length
    · have : (16 : Int) < (l.length : Int) := by omega
      have h2 : ¬ (l.length : Int) = 0 := by intro q; exact h0 (List.eq_nil_of_length_eq_zero (by omega))
      simp [h16,this,h2]
    · have h1 : ¬ (16 : Int) < (l.length : Int) := by omega
      have h2 : ¬ (l.length : Int) = 0 := by intro q; exact h0 (List.eq_nil_of_length_eq_zero (by omega))
      simp only [h1,h2,decide_false,cond_false]
      have hzero : ∀ x ∈ l,x.2 = 0 → l.any oddI = true := fun x hx hz => List.any_eq_true.2 ⟨x,hx,by unfold oddI; simp [hz]⟩
      refine lfp_rule (fun (x : Int×Int×List Int×Int) => ∃ i : Nat,x.2.2.2 = (i : Int) ∧ i ≤ l.length ∧ x.2.2.1 = (l.take i).map (·.2) ∧ ∀ y ∈ l.take i,¬ y.2 = 0) (fun x => l.length - x.2.2.2.toNat) (fun _ => if l = [] ∨ 16 < l.length ∨ l.any oddI = true then (0,1) else if 4611686018427387904 < tot l then (0,8) else (tot l,0)) ?_ (0,0,([] : List Int),0) ⟨0,rfl,by omega,by simp,by simp⟩
      rintro ⟨y,z,acc,i'⟩ ⟨i,hi',hi,hacc,hz⟩ rec hrec
      simp only at hi' hacc hz
      subst hi'
      subst hacc
      simp only
      by_cases hlt : i < l.length
      · have k1 : ((i : Int) < (l.length : Int)) := by omega
        simp only [k1,decide_true,cond_true,inb_true (Int.natCast_nonneg i) k1,rd_nat (t := .pair (.int .u64) (.int .u64)) hlt]
        by_cases c : l[i].2 = 0
        · have := hzero _ (List.getElem_mem hlt) c
          simp [c,this]
        · have k3 : (((l.take i).map (·.2)).length + 1) * 8 ≤ LIM := by unfold LIM; simp; omega
          simp only [c,decide_false,cond_false,k3,decide_true,cond_true]
          rw [RB.wrap_i64 (n := (i : Int) + 1) (by omega) (by omega)]
          refine hrec _ ⟨i + 1,by simp,by omega,?_,fun w hw => ?_⟩ (by simp only; omega)
          · simp only
            rw [List.take_succ_eq_append_getElem hlt,List.map_append]
            rfl
          · rw [List.take_succ_eq_append_getElem hlt] at hw
            rcases List.mem_append.1 hw with hw | hw
            · exact hz w hw
            · simp only [List.mem_singleton] at hw; rw [hw]; exact c
      · have k1 : ¬ ((i : Int) < (l.length : Int)) := by omega
        rw [List.take_of_length_le (by omega)] at hz ⊢
        simp only [k1,decide_false,cond_false]
        rw [F75_eq (by simp; omega) (fun n hn => by obtain ⟨x,hx,rfl⟩ := List.mem_map.1 hn; exact (h x hx).2),Option.bind_some,ssum_tot,any_odd hz]
        by_cases ha : l.any oddI = true
        · simp [ha]
        · simp [ha,h0,h16]
theorem len0 {α : Type} (l : List α) : (¬ (0 : Int) < (l.length : Int)) ↔ l = [] := by
  cases l with
  | nil => simp
  | cons a r => simp only [List.length_cons]; constructor
                · intro q; omega
                · intro q; simp at q
theorem named1 {i ke to si a n ti : Int} {L cvs : List Cv} {its : List It} : F42 (i,(1,(ke,(to,(L,(si,(a,(n,(ti,(its,cvs)))))))))) = some ((i,(1,(ke,(to,(L,(si,(a,(n,(0,([],[])))))))))) : Rq) := rfl
theorem ok1 {i ke to si a n ti : Int} {L cvs : List Cv} {its : List It} : okL (i,(1,(ke,(to,(L,(si,(a,(n,(ti,(its,cvs)))))))))) = true ↔ (ti = 0 ∧ its = [] ∧ cvs = []) ∧ (0 < n ∧ ¬ 4611686018427387904 < n) := by
  have b1 : decide (bitOp .and .i64 (whatM 1) 1 = 0) = false := by decide
  have b2 : decide (bitOp .and .i64 (whatM 1) 2 = 0) = false := by decide
  have b4 : decide (bitOp .and .i64 (whatM 1) 4 = 0) = false := by decide
  have b8 : decide (bitOp .and .i64 (whatM 1) 8 = 0) = true := by decide
  have b16 : decide (bitOp .and .i64 (whatM 1) 16 = 0) = true := by decide
  have b32 : decide (bitOp .and .i64 (whatM 1) 32 = 0) = true := by decide
  have b64 : decide (bitOp .and .i64 (whatM 1) 64 = 0) = false := by decide
  rw [okL_eq]
  simp only [Rq.me,Rq.key,Rq.a,Rq.n,Rq.till,Rq.its,Rq.cvs,isM,isN,isL,b1,b2,b4,b8,b16,b32,b64,cond_true,cond_false,Bool.not_not,Bool.and_eq_true,decide_eq_true_eq,Bool.not_eq_true',decide_eq_false_iff_not,Bool.false_or,Bool.true_or,len0,List.any_eq_false,ne_eq,Bool.or_eq_true,Bool.false_eq_true,false_or,Decidable.not_not]
  constructor
  · intro q
    simp_all
  · intro q
    simp_all
theorem named2 {i ke to si a n ti : Int} {L cvs : List Cv} {its : List It} : F42 (i,(2,(ke,(to,(L,(si,(a,(n,(ti,(its,cvs)))))))))) = some ((i,(2,(ke,(to,(L,(si,(0,(0,(0,(its,[])))))))))) : Rq) := rfl
theorem ok2 {i ke to si a n ti : Int} {L cvs : List Cv} {its : List It} : okL (i,(2,(ke,(to,(L,(si,(a,(n,(ti,(its,cvs)))))))))) = true ↔ (a = 0 ∧ n = 0 ∧ ti = 0 ∧ cvs = []) ∧ (sumI its).2 = 0 := by
  have b1 : decide (bitOp .and .i64 (whatM 2) 1 = 0) = false := by decide
  have b2 : decide (bitOp .and .i64 (whatM 2) 2 = 0) = true := by decide
  have b4 : decide (bitOp .and .i64 (whatM 2) 4 = 0) = true := by decide
  have b8 : decide (bitOp .and .i64 (whatM 2) 8 = 0) = true := by decide
  have b16 : decide (bitOp .and .i64 (whatM 2) 16 = 0) = false := by decide
  have b32 : decide (bitOp .and .i64 (whatM 2) 32 = 0) = true := by decide
  have b64 : decide (bitOp .and .i64 (whatM 2) 64 = 0) = true := by decide
  rw [okL_eq]
  simp only [Rq.me,Rq.key,Rq.a,Rq.n,Rq.till,Rq.its,Rq.cvs,isM,isN,isL,b1,b2,b4,b8,b16,b32,b64,cond_true,cond_false,Bool.not_not,Bool.and_eq_true,decide_eq_true_eq,Bool.not_eq_true',decide_eq_false_iff_not,Bool.false_or,Bool.true_or,len0,List.any_eq_false,ne_eq,Bool.or_eq_true,Bool.false_eq_true,false_or,Decidable.not_not]
  constructor
  · intro q
    simp_all
  · intro q
    simp_all
theorem named3 {i ke to si a n ti : Int} {L cvs : List Cv} {its : List It} : F42 (i,(3,(ke,(to,(L,(si,(a,(n,(ti,(its,cvs)))))))))) = some ((i,(3,(ke,(to,(L,(si,(a,(n,(ti,([],[])))))))))) : Rq) := rfl
theorem ok3 {i ke to si a n ti : Int} {L cvs : List Cv} {its : List It} : okL (i,(3,(ke,(to,(L,(si,(a,(n,(ti,(its,cvs)))))))))) = true ↔ (its = [] ∧ cvs = []) ∧ (0 < n ∧ ¬ 4611686018427387904 < n) := by
  have b1 : decide (bitOp .and .i64 (whatM 3) 1 = 0) = false := by decide
  have b2 : decide (bitOp .and .i64 (whatM 3) 2 = 0) = false := by decide
  have b4 : decide (bitOp .and .i64 (whatM 3) 4 = 0) = false := by decide
  have b8 : decide (bitOp .and .i64 (whatM 3) 8 = 0) = false := by decide
  have b16 : decide (bitOp .and .i64 (whatM 3) 16 = 0) = true := by decide
  have b32 : decide (bitOp .and .i64 (whatM 3) 32 = 0) = true := by decide
  have b64 : decide (bitOp .and .i64 (whatM 3) 64 = 0) = false := by decide
  rw [okL_eq]
  simp only [Rq.me,Rq.key,Rq.a,Rq.n,Rq.till,Rq.its,Rq.cvs,isM,isN,isL,b1,b2,b4,b8,b16,b32,b64,cond_true,cond_false,Bool.not_not,Bool.and_eq_true,decide_eq_true_eq,Bool.not_eq_true',decide_eq_false_iff_not,Bool.false_or,Bool.true_or,len0,List.any_eq_false,ne_eq,Bool.or_eq_true,Bool.false_eq_true,false_or,Decidable.not_not]
  constructor
  · intro q
    simp_all
  · intro q
    simp_all
theorem named4 {i ke to si a n ti : Int} {L cvs : List Cv} {its : List It} : F42 (i,(4,(ke,(to,(L,(si,(a,(n,(ti,(its,cvs)))))))))) = some ((i,(4,(ke,(to,(L,(si,(a,(0,(0,([],[])))))))))) : Rq) := rfl
theorem ok4 {i ke to si a n ti : Int} {L cvs : List Cv} {its : List It} : okL (i,(4,(ke,(to,(L,(si,(a,(n,(ti,(its,cvs)))))))))) = true ↔ (n = 0 ∧ ti = 0 ∧ its = [] ∧ cvs = []) ∧ True := by
  have b1 : decide (bitOp .and .i64 (whatM 4) 1 = 0) = false := by decide
  have b2 : decide (bitOp .and .i64 (whatM 4) 2 = 0) = false := by decide
  have b4 : decide (bitOp .and .i64 (whatM 4) 4 = 0) = true := by decide
  have b8 : decide (bitOp .and .i64 (whatM 4) 8 = 0) = true := by decide
  have b16 : decide (bitOp .and .i64 (whatM 4) 16 = 0) = true := by decide
  have b32 : decide (bitOp .and .i64 (whatM 4) 32 = 0) = true := by decide
  have b64 : decide (bitOp .and .i64 (whatM 4) 64 = 0) = true := by decide
  rw [okL_eq]
  simp only [Rq.me,Rq.key,Rq.a,Rq.n,Rq.till,Rq.its,Rq.cvs,isM,isN,isL,b1,b2,b4,b8,b16,b32,b64,cond_true,cond_false,Bool.not_not,Bool.and_eq_true,decide_eq_true_eq,Bool.not_eq_true',decide_eq_false_iff_not,Bool.false_or,Bool.true_or,len0,List.any_eq_false,ne_eq,Bool.or_eq_true,Bool.false_eq_true,false_or,Decidable.not_not]
  constructor
  · intro q
    simp_all
  · intro q
    simp_all
theorem named5 {i ke to si a n ti : Int} {L cvs : List Cv} {its : List It} : F42 (i,(5,(ke,(to,(L,(si,(a,(n,(ti,(its,cvs)))))))))) = some ((i,(5,(0,(to,(L,(si,(a,(0,(0,([],[])))))))))) : Rq) := rfl
theorem ok5 {i ke to si a n ti : Int} {L cvs : List Cv} {its : List It} : okL (i,(5,(ke,(to,(L,(si,(a,(n,(ti,(its,cvs)))))))))) = true ↔ (ke = 0 ∧ n = 0 ∧ ti = 0 ∧ its = [] ∧ cvs = []) ∧ True := by
  have b1 : decide (bitOp .and .i64 (whatM 5) 1 = 0) = true := by decide
  have b2 : decide (bitOp .and .i64 (whatM 5) 2 = 0) = false := by decide
  have b4 : decide (bitOp .and .i64 (whatM 5) 4 = 0) = true := by decide
  have b8 : decide (bitOp .and .i64 (whatM 5) 8 = 0) = true := by decide
  have b16 : decide (bitOp .and .i64 (whatM 5) 16 = 0) = true := by decide
  have b32 : decide (bitOp .and .i64 (whatM 5) 32 = 0) = true := by decide
  have b64 : decide (bitOp .and .i64 (whatM 5) 64 = 0) = true := by decide
  rw [okL_eq]
  simp only [Rq.me,Rq.key,Rq.a,Rq.n,Rq.till,Rq.its,Rq.cvs,isM,isN,isL,b1,b2,b4,b8,b16,b32,b64,cond_true,cond_false,Bool.not_not,Bool.and_eq_true,decide_eq_true_eq,Bool.not_eq_true',decide_eq_false_iff_not,Bool.false_or,Bool.true_or,len0,List.any_eq_false,ne_eq,Bool.or_eq_true,Bool.false_eq_true,false_or,Decidable.not_not]
  constructor
  · intro q
    simp_all
  · intro q
    simp_all
theorem named6 {i ke to si a n ti : Int} {L cvs : List Cv} {its : List It} : F42 (i,(6,(ke,(to,(L,(si,(a,(n,(ti,(its,cvs)))))))))) = some ((i,(6,(0,(to,(L,(si,(a,(0,(0,([],[])))))))))) : Rq) := rfl
theorem ok6 {i ke to si a n ti : Int} {L cvs : List Cv} {its : List It} : okL (i,(6,(ke,(to,(L,(si,(a,(n,(ti,(its,cvs)))))))))) = true ↔ (ke = 0 ∧ n = 0 ∧ ti = 0 ∧ its = [] ∧ cvs = []) ∧ True := by
  have b1 : decide (bitOp .and .i64 (whatM 6) 1 = 0) = true := by decide
  have b2 : decide (bitOp .and .i64 (whatM 6) 2 = 0) = false := by decide
  have b4 : decide (bitOp .and .i64 (whatM 6) 4 = 0) = true := by decide
  have b8 : decide (bitOp .and .i64 (whatM 6) 8 = 0) = true := by decide
  have b16 : decide (bitOp .and .i64 (whatM 6) 16 = 0) = true := by decide
  have b32 : decide (bitOp .and .i64 (whatM 6) 32 = 0) = true := by decide
  have b64 : decide (bitOp .and .i64 (whatM 6) 64 = 0) = true := by decide
  rw [okL_eq]
  simp only [Rq.me,Rq.key,Rq.a,Rq.n,Rq.till,Rq.its,Rq.cvs,isM,isN,isL,b1,b2,b4,b8,b16,b32,b64,cond_true,cond_false,Bool.not_not,Bool.and_eq_true,decide_eq_true_eq,Bool.not_eq_true',decide_eq_false_iff_not,Bool.false_or,Bool.true_or,len0,List.any_eq_false,ne_eq,Bool.or_eq_true,Bool.false_eq_true,false_or,Decidable.not_not]
  constructor
  · intro q
    simp_all
  · intro q
    simp_all
theorem named7 {i ke to si a n ti : Int} {L cvs : List Cv} {its : List It} : F42 (i,(7,(ke,(to,(L,(si,(a,(n,(ti,(its,cvs)))))))))) = some ((i,(7,(0,(to,(L,(si,(0,(0,(0,([],[])))))))))) : Rq) := rfl
theorem ok7 {i ke to si a n ti : Int} {L cvs : List Cv} {its : List It} : okL (i,(7,(ke,(to,(L,(si,(a,(n,(ti,(its,cvs)))))))))) = true ↔ (ke = 0 ∧ a = 0 ∧ n = 0 ∧ ti = 0 ∧ its = [] ∧ cvs = []) ∧ True := by
  have b1 : decide (bitOp .and .i64 (whatM 7) 1 = 0) = true := by decide
  have b2 : decide (bitOp .and .i64 (whatM 7) 2 = 0) = true := by decide
  have b4 : decide (bitOp .and .i64 (whatM 7) 4 = 0) = true := by decide
  have b8 : decide (bitOp .and .i64 (whatM 7) 8 = 0) = true := by decide
  have b16 : decide (bitOp .and .i64 (whatM 7) 16 = 0) = true := by decide
  have b32 : decide (bitOp .and .i64 (whatM 7) 32 = 0) = true := by decide
  have b64 : decide (bitOp .and .i64 (whatM 7) 64 = 0) = true := by decide
  rw [okL_eq]
  simp only [Rq.me,Rq.key,Rq.a,Rq.n,Rq.till,Rq.its,Rq.cvs,isM,isN,isL,b1,b2,b4,b8,b16,b32,b64,cond_true,cond_false,Bool.not_not,Bool.and_eq_true,decide_eq_true_eq,Bool.not_eq_true',decide_eq_false_iff_not,Bool.false_or,Bool.true_or,len0,List.any_eq_false,ne_eq,Bool.or_eq_true,Bool.false_eq_true,false_or,Decidable.not_not]
  constructor
  · intro q
    simp_all
  · intro q
    simp_all
theorem named8 {i ke to si a n ti : Int} {L cvs : List Cv} {its : List It} : F42 (i,(8,(ke,(to,(L,(si,(a,(n,(ti,(its,cvs)))))))))) = some ((i,(8,(0,(to,(L,(si,(a,(n,(0,([],[])))))))))) : Rq) := rfl
theorem ok8 {i ke to si a n ti : Int} {L cvs : List Cv} {its : List It} : okL (i,(8,(ke,(to,(L,(si,(a,(n,(ti,(its,cvs)))))))))) = true ↔ (ke = 0 ∧ ti = 0 ∧ its = [] ∧ cvs = []) ∧ True := by
  have b1 : decide (bitOp .and .i64 (whatM 8) 1 = 0) = true := by decide
  have b2 : decide (bitOp .and .i64 (whatM 8) 2 = 0) = false := by decide
  have b4 : decide (bitOp .and .i64 (whatM 8) 4 = 0) = false := by decide
  have b8 : decide (bitOp .and .i64 (whatM 8) 8 = 0) = true := by decide
  have b16 : decide (bitOp .and .i64 (whatM 8) 16 = 0) = true := by decide
  have b32 : decide (bitOp .and .i64 (whatM 8) 32 = 0) = true := by decide
  have b64 : decide (bitOp .and .i64 (whatM 8) 64 = 0) = true := by decide
  rw [okL_eq]
  simp only [Rq.me,Rq.key,Rq.a,Rq.n,Rq.till,Rq.its,Rq.cvs,isM,isN,isL,b1,b2,b4,b8,b16,b32,b64,cond_true,cond_false,Bool.not_not,Bool.and_eq_true,decide_eq_true_eq,Bool.not_eq_true',decide_eq_false_iff_not,Bool.false_or,Bool.true_or,len0,List.any_eq_false,ne_eq,Bool.or_eq_true,Bool.false_eq_true,false_or,Decidable.not_not]
  constructor
  · intro q
    simp_all
  · intro q
    simp_all
theorem named9 {i ke to si a n ti : Int} {L cvs : List Cv} {its : List It} : F42 (i,(9,(ke,(to,(L,(si,(a,(n,(ti,(its,cvs)))))))))) = some ((i,(9,(0,(to,(L,(si,(0,(n,(0,([],[])))))))))) : Rq) := rfl
theorem ok9 {i ke to si a n ti : Int} {L cvs : List Cv} {its : List It} : okL (i,(9,(ke,(to,(L,(si,(a,(n,(ti,(its,cvs)))))))))) = true ↔ (ke = 0 ∧ a = 0 ∧ ti = 0 ∧ its = [] ∧ cvs = []) ∧ True := by
  have b1 : decide (bitOp .and .i64 (whatM 9) 1 = 0) = true := by decide
  have b2 : decide (bitOp .and .i64 (whatM 9) 2 = 0) = true := by decide
  have b4 : decide (bitOp .and .i64 (whatM 9) 4 = 0) = false := by decide
  have b8 : decide (bitOp .and .i64 (whatM 9) 8 = 0) = true := by decide
  have b16 : decide (bitOp .and .i64 (whatM 9) 16 = 0) = true := by decide
  have b32 : decide (bitOp .and .i64 (whatM 9) 32 = 0) = true := by decide
  have b64 : decide (bitOp .and .i64 (whatM 9) 64 = 0) = true := by decide
  rw [okL_eq]
  simp only [Rq.me,Rq.key,Rq.a,Rq.n,Rq.till,Rq.its,Rq.cvs,isM,isN,isL,b1,b2,b4,b8,b16,b32,b64,cond_true,cond_false,Bool.not_not,Bool.and_eq_true,decide_eq_true_eq,Bool.not_eq_true',decide_eq_false_iff_not,Bool.false_or,Bool.true_or,len0,List.any_eq_false,ne_eq,Bool.or_eq_true,Bool.false_eq_true,false_or,Decidable.not_not]
  constructor
  · intro q
    simp_all
  · intro q
    simp_all
theorem named10 {i ke to si a n ti : Int} {L cvs : List Cv} {its : List It} : F42 (i,(10,(ke,(to,(L,(si,(a,(n,(ti,(its,cvs)))))))))) = some ((i,(10,(0,(to,(L,(si,(0,(0,(0,([],cvs)))))))))) : Rq) := rfl
theorem ok10 {i ke to si a n ti : Int} {L cvs : List Cv} {its : List It} : okL (i,(10,(ke,(to,(L,(si,(a,(n,(ti,(its,cvs)))))))))) = true ↔ (ke = 0 ∧ a = 0 ∧ n = 0 ∧ ti = 0 ∧ its = []) ∧ (0 < cvs.length ∧ cvs.length ≤ 16 ∧ ∀ c ∈ cvs,chk c = 0) := by
  have b1 : decide (bitOp .and .i64 (whatM 10) 1 = 0) = true := by decide
  have b2 : decide (bitOp .and .i64 (whatM 10) 2 = 0) = true := by decide
  have b4 : decide (bitOp .and .i64 (whatM 10) 4 = 0) = true := by decide
  have b8 : decide (bitOp .and .i64 (whatM 10) 8 = 0) = true := by decide
  have b16 : decide (bitOp .and .i64 (whatM 10) 16 = 0) = true := by decide
  have b32 : decide (bitOp .and .i64 (whatM 10) 32 = 0) = false := by decide
  have b64 : decide (bitOp .and .i64 (whatM 10) 64 = 0) = true := by decide
  rw [okL_eq]
  simp only [Rq.me,Rq.key,Rq.a,Rq.n,Rq.till,Rq.its,Rq.cvs,isM,isN,isL,b1,b2,b4,b8,b16,b32,b64,cond_true,cond_false,Bool.not_not,Bool.and_eq_true,decide_eq_true_eq,Bool.not_eq_true',decide_eq_false_iff_not,Bool.false_or,Bool.true_or,len0,List.any_eq_false,ne_eq,Bool.or_eq_true,Bool.false_eq_true,false_or,Decidable.not_not]
  constructor
  · intro q
    simp_all
  · intro q
    simp_all
end Go.Proofs.YtgdfhijgjjcnjaaGreatDoor.RZ
