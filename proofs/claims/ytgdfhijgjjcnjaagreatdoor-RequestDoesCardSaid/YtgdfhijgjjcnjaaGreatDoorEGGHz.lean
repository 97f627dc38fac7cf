/- Part of a proof: what the program's functions come to. -/
import Derived.Test.YtgdfhijgjjcnjaaGreatDoorEGFz
set_option linter.unusedVariables false
set_option linter.unusedSimpArgs false
namespace Go.Proofs.YtgdfhijgjjcnjaaGreatDoor.RZ
open Go Go.Fw Go.Proofs RB
set_option maxRecDepth 20000
abbrev SQ := Int×Int×List It×List Cv×((Int×(Int×(Int×(Int×(List Cv×(Int×(Int×(Int×Int))))))))×(Unit×Unit))
def ofQ (x : SQ) : Rq := (x.2.2.2.2.1.1,(x.2.2.2.2.1.2.1,(x.2.2.2.2.1.2.2.1,(x.2.2.2.2.1.2.2.2.1,(x.2.2.2.2.1.2.2.2.2.1,(x.2.2.2.2.1.2.2.2.2.2.1,(x.2.2.2.2.1.2.2.2.2.2.2.1,(x.2.2.2.2.1.2.2.2.2.2.2.2.1,(x.2.2.2.2.1.2.2.2.2.2.2.2.2,(x.2.2.1,x.2.2.2.1))))))))))
def toQ (q i : Int) (r : Rq) : SQ := (q,(i,(r.its,(r.cvs,((r.1,(r.2.1,(r.2.2.1,(r.2.2.2.1,(r.2.2.2.2.1,(r.2.2.2.2.2.1,(r.2.2.2.2.2.2.1,(r.2.2.2.2.2.2.2.1,r.2.2.2.2.2.2.2.2.1)))))))),((),()))))))
theorem rdQ_one {r : Rq} {q : Rec} {n : Int} (h : all1 q.2 = ([n],0)) : rdQ r q = if q.1 = 1 then some (r.setId n) else if q.1 = 3 then some (r.setKey n) else if q.1 = 5 then some (r.setA n) else if q.1 = 6 then some (r.setN n) else if q.1 = 7 then some (r.setTill n)
    else if q.1 = 2 ∧ n < 16 then some (r.setMe n) else rdQ2 r q := by
  unfold rdQ
  split
  · rename_i n' hm
    rw [h] at hm
    simp only [Prod.mk.injEq,List.cons.injEq,and_true] at hm
    rw [hm]
  · rename_i hm
    exact absurd h (hm n)
theorem rdQ_not {r : Rq} {q : Rec} (h : ¬ ((all1 q.2).2 = 0 ∧ (all1 q.2).1.length = 1)) : rdQ r q = rdQ2 r q := by
  unfold rdQ
  split
  · rename_i n hm
    exact absurd (by rw [hm]; exact ⟨rfl,rfl⟩) h
  · rfl
set_option maxHeartbeats 4000000 in
theorem F8_eq {b : List Int} (hb : Bs b) : F8 b = some (getQ b) := by
  unfold F8 getQ
  by_cases hl : 4096 < b.length
  · have : (4096 : Int) < (b.length : Int) := by omega
    rw [if_pos hl]
    simp only [this,decide_true,cond_true]
    rfl
  · have hl' : ¬ (4096 : Int) < (b.length : Int) := by omega
    rw [if_neg hl]
    simp only [hl',decide_false,cond_false,F23_eq hb,Option.bind_some,both_self]
    obtain ⟨m1,m2⟩ := getT_recs hb
    generalize (getT b).2 = e
    generalize (getT b).1 = m at m1 m2 ⊢
    refine lfp_rule (fun (x : SQ) => ∃ i : Nat,x.2.1 = (i : Int) ∧ i ≤ m.length ∧ RqOk (ofQ x) ∧ (ofQ x).its.length ≤ i ∧ (ofQ x).cvs.length ≤ i) (fun x => m.length - x.2.1.toNat) (fun x => finQ b e (rdAllQ (ofQ x) (m.drop x.2.1.toNat))) ?_ (toQ 0 0 zQ) ⟨0,rfl,by omega,zQ_ok,by simp [ofQ,toQ,zQ,Rq.its],by simp [ofQ,toQ,zQ,Rq.cvs]⟩
    rintro ⟨q,i',I,L,⟨id,me,ke,to,tl,si,a,n,ti⟩,u1,u2⟩ ⟨i,hi',hi,hok,hLi,hLc⟩ rec hrec
    simp only at hi'
    subst hi'
    simp only [ofQ] at hok hLi hLc hrec ⊢
    rw [Int.toNat_natCast]
    by_cases hlt : i < m.length
    · have k1 : ((i : Int) < (m.length : Int)) := by omega
      obtain ⟨hqb,hql⟩ := m2 _ (List.getElem_mem hlt)
      simp only [Rq.its,Rq.cvs] at hLi hLc
      simp only [k1,decide_true,cond_true,inb_true (Int.natCast_nonneg i) k1,rd_nat (t := tR) hlt,F62_eq hqb,Option.bind_some]
      rw [RB.wrap_i64 (n := (i : Int) + 1) (by omega) (by omega),List.drop_eq_getElem_cons hlt,rdAllQ]
      have step : ∀ r',rdQ (id,(me,(ke,(to,(tl,(si,(a,(n,(ti,(I,L)))))))))) m[i] = some r' → rec (toQ q ((i : Int) + 1) r') = some (finQ b e (rdAllQ r' (m.drop (i + 1)))) := by
        intro r' hr
        obtain ⟨o1,o2,o3⟩ := rdQ_ok hok hqb (by simp only [Rq.its,Rq.cvs]; omega) hr
        simp only [Rq.its,Rq.cvs] at o2 o3
        have := hrec (toQ q ((i : Int) + 1) r') ⟨i + 1,by simp [toQ],by omega,o1,by simp only [toQ,Rq.its,Rq.cvs]; omega,by simp only [toQ,Rq.its,Rq.cvs]; omega⟩ (by simp only [toQ]; omega)
        rw [this]
        simp only [toQ]
        congr 3
      have kC : (L.length + 1) * 24 ≤ LIM := by unfold LIM; omega
      have kI : (I.length + 1) * 16 ≤ LIM := by unfold LIM; omega
      generalize hq : m[i] = qq at *
      obtain ⟨t,v⟩ := qq
      simp only at hqb hql ⊢
      have eC := F64_eq (b := v) hqb (by omega)
      have eK := F63_eq (b := v) hqb
      have hu := all1_u64 hqb
      simp only [eC,eK,Option.bind_some,kC,kI,decide_true,cond_true]
      have hT : rdQ (id,(me,(ke,(to,(tl,(si,(a,(n,(ti,(I,L)))))))))) (t,v) = rdQ2 (id,(me,(ke,(to,(tl,(si,(a,(n,(ti,(I,L)))))))))) (t,v) →
          (bif decide (t = 4) then
            (bif !decide ((getK v).snd = 0) then some (((0,0,0,0,([] : List (Int×(Int×Int))),0,0,0,0,([] : List (Int×Int)),([] : List (Int×(Int×Int)))),2) : Rq×Int)
            else rec (q,(i : Int) + 1,I,L,(id,me,ke,(getK v).fst.fst,(getK v).fst.snd.fst,(getK v).fst.snd.snd,a,n,ti),(),()))
          else
            bif decide (48 ≤ t) then
              (bif !decide ((getC v).snd = 0) then some ((0,0,0,0,([] : List (Int×(Int×Int))),0,0,0,0,([] : List (Int×Int)),([] : List (Int×(Int×Int)))),2)
              else rec (q,(i : Int) + 1,I,L ++ [((getC v).fst.fst,(getC v).fst.snd.fst,(getC v).fst.snd.snd)],(id,me,ke,to,tl,si,a,n,ti),(),()))
            else
              bif (bif (bif decide (32 ≤ t) then decide ((all1 v).snd = 0) else false) then decide (((all1 v).fst.length : Int) = 2) else false) then
                (bif inb 0 (all1 v).fst.length then
                  bif inb 1 (all1 v).fst.length then
                    rec (q,(i : Int) + 1,I ++ [(rd (.int .u64) (all1 v).fst 0,rd (.int .u64) (all1 v).fst 1)],L,(id,me,ke,to,tl,si,a,n,ti),(),())
                  else none
                else none)
              else some ((0,0,0,0,([] : List (Int×(Int×Int))),0,0,0,0,([] : List (Int×Int)),([] : List (Int×(Int×Int)))),2)) =
          some (finQ b e (match rdQ (id,(me,(ke,(to,(tl,(si,(a,(n,(ti,(I,L)))))))))) (t,v) with | some r' => rdAllQ r' (m.drop (i + 1)) | none => none)) := by
        intro heq
        rw [heq] at step ⊢
        unfold rdQ2 at step ⊢
        simp only at step ⊢
        by_cases c4 : t = 4
        · simp only [c4,decide_true,cond_true,if_true] at step ⊢
          by_cases ct : (getK v).2 = 0
          · simp only [ct,decide_true,Bool.not_true,cond_false,if_true] at step ⊢
            exact step _ rfl
          · simp only [ct,decide_false,Bool.not_false,cond_true,if_false]
            rfl
        · simp only [c4,decide_false,cond_false,if_false] at step ⊢
          by_cases c48 : 48 ≤ t
          · simp only [c48,decide_true,cond_true,if_true] at step ⊢
            by_cases ct : (getC v).2 = 0
            · simp only [ct,decide_true,Bool.not_true,cond_false,if_true] at step ⊢
              exact step _ rfl
            · simp only [ct,decide_false,Bool.not_false,cond_true,if_false]
              rfl
          · simp only [c48,decide_false,cond_false,if_false] at step ⊢
            by_cases c32 : 32 ≤ t
            · simp only [c32,decide_true,cond_true,if_true] at step ⊢
              generalize all1 v = N at step ⊢
              obtain ⟨N,e2⟩ := N
              by_cases c0 : e2 = 0
              · subst c0
                rcases N with _ | ⟨x0,_ | ⟨x1,_ | ⟨x2,N⟩⟩⟩
                · rfl
                · rfl
                · exact step _ rfl
                · have : decide ((((x0 :: x1 :: x2 :: N).length : Nat) : Int) = 2) = false := decide_eq_false (by simp only [List.length_cons]; omega)
                  simp only [this,decide_true,cond_true,cond_false]
                  rfl
              · simp only [c0,decide_false,cond_false]
                split
                · rename_i r' hm
                  split at hm
                  · rename_i hh nn hm2
                    simp only [Prod.mk.injEq] at hm2
                    exact absurd hm2.2 c0
                  · simp at hm
                · rfl
            · simp only [c32,decide_false,cond_false,if_false]
              rfl
      by_cases hone : (all1 v).2 = 0 ∧ (all1 v).1.length = 1
      · obtain ⟨w,hw⟩ : ∃ w,all1 v = ([w],0) := by
          generalize all1 v = N at hone
          obtain ⟨N,e2⟩ := N
          obtain ⟨rfl,h1⟩ := hone
          obtain ⟨w,rfl⟩ := List.length_eq_one_iff.1 h1
          exact ⟨w,rfl⟩
        have uw : U64 w := hu w (by rw [hw]; simp)
        have hr := rdQ_one (r := (id,(me,(ke,(to,(tl,(si,(a,(n,(ti,(I,L))))))))))) (q := (t,v)) hw
        have h1 : (bif decide ((all1 v).snd = 0) then decide (((all1 v).fst.length : Int) = 1) else false) = true := by rw [hw]; rfl
        have hi0 : inb 0 (all1 v).fst.length = true := by rw [hw]; rfl
        have hr0 : rd (.int .u64) (all1 v).fst 0 = w := by rw [hw]; rfl
        simp only at hr
        by_cases c1 : t = 1
        · have d1 : decide (t = 1) = true := decide_eq_true c1
          rw [if_pos c1] at hr
          simp only [d1,cond_true,h1,hi0,hr0,hr]
          exact step _ hr
        have d1 : decide (t = 1) = false := decide_eq_false c1
        rw [if_neg c1] at hr
        simp only [d1,cond_false]
        by_cases c3 : t = 3
        · have d3 : decide (t = 3) = true := decide_eq_true c3
          rw [if_pos c3] at hr
          simp only [d3,cond_true,h1,hi0,hr0,hr]
          exact step _ hr
        have d3 : decide (t = 3) = false := decide_eq_false c3
        rw [if_neg c3] at hr
        simp only [d3,cond_false]
        by_cases c5 : t = 5
        · have d5 : decide (t = 5) = true := decide_eq_true c5
          rw [if_pos c5] at hr
          simp only [d5,cond_true,h1,hi0,hr0,hr]
          exact step _ hr
        have d5 : decide (t = 5) = false := decide_eq_false c5
        rw [if_neg c5] at hr
        simp only [d5,cond_false]
        by_cases c6 : t = 6
        · have d6 : decide (t = 6) = true := decide_eq_true c6
          rw [if_pos c6] at hr
          simp only [d6,cond_true,h1,hi0,hr0,hr]
          exact step _ hr
        have d6 : decide (t = 6) = false := decide_eq_false c6
        rw [if_neg c6] at hr
        simp only [d6,cond_false]
        by_cases c7 : t = 7
        · have d7 : decide (t = 7) = true := decide_eq_true c7
          rw [if_pos c7] at hr
          simp only [d7,cond_true,h1,hi0,hr0,hr]
          exact step _ hr
        have d7 : decide (t = 7) = false := decide_eq_false c7
        rw [if_neg c7] at hr
        simp only [d7,cond_false]
        by_cases c2 : t = 2
        · have d2 : decide (t = 2) = true := decide_eq_true c2
          simp only [d2,cond_true,h1,hi0,hr0,beq_self_eq_true]
          by_cases cw : w < 16
          · have hww : IntKind.wrap .i64 w = w := RB.wrap_i64 (by have := uw.1; omega) (by omega)
            rw [if_pos ⟨c2,cw⟩] at hr
            simp only [cw,decide_true,cond_true,hww,hr]
            exact step _ hr
          · rw [if_neg (fun q => cw q.2)] at hr
            simp only [cw,decide_false,cond_false]
            have hT := hT hr
            simp only [hi0,cond_true,hr0] at hT
            exact hT
        · have d2 : decide (t = 2) = false := decide_eq_false c2
          rw [if_neg (fun q => c2 q.1)] at hr
          simp only [d2,cond_false,show (false == true) = false from rfl]
          exact hT hr
      · have hr := rdQ_not (r := (id,(me,(ke,(to,(tl,(si,(a,(n,(ti,(I,L))))))))))) (q := (t,v)) hone
        have h1 : (bif decide ((all1 v).snd = 0) then decide (((all1 v).fst.length : Int) = 1) else false) = false := by
          by_cases z : (all1 v).2 = 0
          · have : ¬ ((all1 v).1.length : Int) = 1 := fun q => hone ⟨z,by omega⟩
            simp [z,this]
          · simp [z]
        have h2 : ((bif decide (t = 2) then (bif decide ((all1 v).snd = 0) then decide (((all1 v).fst.length : Int) = 1) else false) else false) == true) = false := by
          rw [h1]; cases decide (t = 2) <;> rfl
        simp only [h2,cond_false]
        simp only [h1,cond_false]
        have hT := hT hr
        cases decide (t = 1) with
        | true => exact hT
        | false =>
        cases decide (t = 3) with
        | true => exact hT
        | false =>
        cases decide (t = 5) with
        | true => exact hT
        | false =>
        cases decide (t = 6) with
        | true => exact hT
        | false =>
        cases decide (t = 7) with
        | true => exact hT
        | false => exact hT
    · have k1 : ¬ ((i : Int) < (m.length : Int)) := by omega
      have hdrop : m.drop i = [] := List.drop_eq_nil_of_le (by omega)
      have hF16 := F6_eq hok
      simp only [k1,decide_false,cond_false,hdrop,rdAllQ,finQ,hF16,Option.bind_some]
      by_cases k : okQ (id,(me,(ke,(to,(tl,(si,(a,(n,(ti,(I,L))))))))))
      · simp only [k,if_true,decide_true,Bool.not_true,true_and]
        by_cases he : e = 0
        · simp only [he,decide_true,Bool.not_true,cond_false,beq_self_eq_true,cond_true,F25,Option.bind_some,true_and]
          by_cases hbb : recB (id,(me,(ke,(to,(tl,(si,(a,(n,(ti,(I,L)))))))))) = b
          · simp only [hbb,decide_true,Bool.not_true,cond_false,if_true]
          · simp only [hbb,decide_false,Bool.not_false,cond_true,if_false]
            rfl
        · simp only [he,decide_false,Bool.not_false,cond_true,show (true == false) = false from rfl,cond_false,false_and,if_false]
          rfl
      · simp only [k,if_false,false_and,and_false,show decide ((1 : Int) = 0) = false from rfl,Bool.not_false]
        by_cases he : e = 0
        · simp only [he,decide_true,Bool.not_true,cond_false,show (true == false) = false from rfl]
          rfl
        · simp only [he,decide_false,Bool.not_false,cond_true,show (true == false) = false from rfl,cond_false]
          rfl
end Go.Proofs.YtgdfhijgjjcnjaaGreatDoor.RZ
namespace Go.Proofs.YtgdfhijgjjcnjaaGreatDoor.RZ
open Go Go.Fw Go.Proofs RB
set_option maxRecDepth 20000
theorem few_ok {r : Rq} (k : okQ r) : few r = true := by
  have h1 := okQ_its k
  have h2 := (okQ_cvs k).1
  have h3 := k.2.1
  unfold few
  simp only [Bool.and_eq_true,decide_eq_true_eq]
  simp only [Rq.its,Rq.cvs,Rq.tok] at h1 h2 h3 ⊢
  omega
theorem zQ_few : few zQ = true := by decide
end Go.Proofs.YtgdfhijgjjcnjaaGreatDoor.RZ
