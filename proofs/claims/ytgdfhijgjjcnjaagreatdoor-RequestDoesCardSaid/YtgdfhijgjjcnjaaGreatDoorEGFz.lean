/- Part of a proof: what the program's functions come to. -/
import Derived.Test.YtgdfhijgjjcnjaaGreatDoorEXCxz
set_option linter.unusedVariables false
set_option linter.unusedSimpArgs false
namespace Go.Proofs.YtgdfhijgjjcnjaaGreatDoor.RZ
open Go Go.Fw Go.Proofs RB
set_option maxRecDepth 20000
def recB (r : Rq) : List Int := (recQ r).flatMap encR
theorem flat_len {l : List Rec} {k : Nat} (h : ∀ q ∈ l,q.2.length ≤ k) : (l.flatMap encR).length ≤ (18 + k) * l.length :=
  encsQ_len fun q hq => by have := encRQ_len q; have := h q hq; omega
theorem recB_len {r : Rq} (k : okQ r) : (recB r).length ≤ 2500 := by
  have hi := okQ_its k
  obtain ⟨hc,_⟩ := okQ_cvs k
  have h9 := fun n => enc1_len n
  have e : recB r = ((([(1,enc1 r.id),(2,enc1 r.me)] ++ opt (!decide (r.key = 0)) 3 (enc1 r.key)).flatMap encR ++ encR (4,tokB r.tok)) ++ ((opt (!decide (r.a = 0)) 5 (enc1 r.a) ++ opt (!decide (r.n = 0)) 6 (enc1 r.n) ++ opt (!decide (r.till = 0)) 7 (enc1 r.till)).flatMap encR)) ++ (numd encI 16 r.its).flatMap encR ++ (numd encC 32 r.cvs).flatMap encR := by
    unfold recB recQ
    simp only [List.flatMap_append,List.append_assoc,List.flatMap_cons,List.flatMap_nil,List.append_nil]
  rw [e]
  have o3 := opt_len (!decide (r.key = 0)) 3 (enc1 r.key)
  have o5 := opt_len (!decide (r.a = 0)) 5 (enc1 r.a)
  have o6 := opt_len (!decide (r.n = 0)) 6 (enc1 r.n)
  have o7 := opt_len (!decide (r.till = 0)) 7 (enc1 r.till)
  have b1 := flat_len (l := [(1,enc1 r.id),(2,enc1 r.me)] ++ opt (!decide (r.key = 0)) 3 (enc1 r.key)) (k := 9) (by
    intro q hq
    simp only [List.mem_append,List.mem_cons,List.not_mem_nil,or_false] at hq
    rcases hq with (rfl | rfl) | hq
    · exact h9 _
    · exact h9 _
    · rw [mem_opt hq]; exact h9 _)
  have b2 : (encR (4,tokB r.tok)).length ≤ 504 := by
    have := encRQ_len (4,tokB r.tok)
    have : (tokB r.tok).length ≤ 486 := tok_len k.2
    simp only at *
    omega
  have b3 := flat_len (l := opt (!decide (r.a = 0)) 5 (enc1 r.a) ++ opt (!decide (r.n = 0)) 6 (enc1 r.n) ++ opt (!decide (r.till = 0)) 7 (enc1 r.till)) (k := 9) (by
    intro q hq
    simp only [List.mem_append] at hq
    rcases hq with (hq | hq) | hq <;> (rw [mem_opt hq]; exact h9 _))
  have b4 := flat_len (l := numd encI 16 r.its) (k := 18) (by
    intro q hq
    obtain ⟨⟨x,hx,h1⟩,_⟩ := numd_mem encI _ _ _ hq
    rw [h1]; exact encI_len x)
  have b5 := flat_len (l := numd encC 32 r.cvs) (k := 27) (by
    intro q hq
    obtain ⟨⟨x,hx,h1⟩,_⟩ := numd_mem encC _ _ _ hq
    rw [h1]; exact encC_len x)
  simp only [List.length_append,numd_len,List.length_cons,List.length_nil] at b1 b3 b4 b5 ⊢
  omega
open Classical in
theorem F6_eq {r : Rq} (h : RqOk r) : F6 r = some (if okQ r then (recB r,0) else ([],1)) := by
  have hF10 : F16 (r.1,(r.2.1,(r.2.2.1,(r.2.2.2.1,(r.2.2.2.2.1,(r.2.2.2.2.2.1,(r.2.2.2.2.2.2.1,(r.2.2.2.2.2.2.2.1,(r.2.2.2.2.2.2.2.2.1,(r.2.2.2.2.2.2.2.2.2.1,r.2.2.2.2.2.2.2.2.2.2)))))))))) = some (if okQ r then 0 else 1) := F16_eq h
  unfold F6
  simp only [hF10,Option.bind_some]
  by_cases k : okQ r
  · have hF26 : F19 (r.1,(r.2.1,(r.2.2.1,(r.2.2.2.1,(r.2.2.2.2.1,(r.2.2.2.2.2.1,(r.2.2.2.2.2.2.1,(r.2.2.2.2.2.2.2.1,(r.2.2.2.2.2.2.2.2.1,(r.2.2.2.2.2.2.2.2.2.1,r.2.2.2.2.2.2.2.2.2.2)))))))))) = some (recQ r,0) := F19_eq h k
    have hl := recB_len k
    have hp : putT (recQ r) = (recB r,0) := by
      unfold putT
      rw [if_pos (recQ_okT k),if_neg (by unfold recB at hl; omega)]
      rfl
    have hd : decide (4096 < ((recB r).length : Int)) = false := decide_eq_false (by omega)
    simp only [k,if_true,hF26,Option.bind_some,decide_true,Bool.not_true,cond_false,F20_eq (recQ_okV h k),hp,hd]
  · simp [k]
def zQ : Rq := (0,(0,(0,(0,([],(0,(0,(0,(0,([],[]))))))))))
def Rq.setId (r : Rq) (n : Int) : Rq := (n,r.2)
def Rq.setMe (r : Rq) (n : Int) : Rq := (r.1,(n,r.2.2))
def Rq.setKey (r : Rq) (n : Int) : Rq := (r.1,(r.2.1,(n,r.2.2.2)))
def Rq.setTok (r : Rq) (t : Tok) : Rq := (r.1,(r.2.1,(r.2.2.1,(t.1,(t.2.1,(t.2.2,r.2.2.2.2.2.2))))))
def Rq.setA (r : Rq) (n : Int) : Rq := (r.1,(r.2.1,(r.2.2.1,(r.2.2.2.1,(r.2.2.2.2.1,(r.2.2.2.2.2.1,(n,r.2.2.2.2.2.2.2)))))))
def Rq.setN (r : Rq) (n : Int) : Rq := (r.1,(r.2.1,(r.2.2.1,(r.2.2.2.1,(r.2.2.2.2.1,(r.2.2.2.2.2.1,(r.2.2.2.2.2.2.1,(n,r.2.2.2.2.2.2.2.2))))))))
def Rq.setTill (r : Rq) (n : Int) : Rq := (r.1,(r.2.1,(r.2.2.1,(r.2.2.2.1,(r.2.2.2.2.1,(r.2.2.2.2.2.1,(r.2.2.2.2.2.2.1,(r.2.2.2.2.2.2.2.1,(n,r.2.2.2.2.2.2.2.2.2)))))))))
def Rq.addI (r : Rq) (x : It) : Rq := (r.1,(r.2.1,(r.2.2.1,(r.2.2.2.1,(r.2.2.2.2.1,(r.2.2.2.2.2.1,(r.2.2.2.2.2.2.1,(r.2.2.2.2.2.2.2.1,(r.2.2.2.2.2.2.2.2.1,(r.its ++ [x],r.cvs))))))))))
def Rq.addC (r : Rq) (x : Cv) : Rq := (r.1,(r.2.1,(r.2.2.1,(r.2.2.2.1,(r.2.2.2.2.1,(r.2.2.2.2.2.1,(r.2.2.2.2.2.2.1,(r.2.2.2.2.2.2.2.1,(r.2.2.2.2.2.2.2.2.1,(r.its,r.cvs ++ [x]))))))))))
noncomputable def rdQ2 (r : Rq) (q : Rec) : Option Rq :=
  if q.1 = 4 then (if (getK q.2).2 = 0 then some (r.setTok (getK q.2).1) else none)
  else if 48 ≤ q.1 then (if (getC q.2).2 = 0 then some (r.addC (getC q.2).1) else none)
  else if 32 ≤ q.1 then (match all1 q.2 with | ([h,n],0) => some (r.addI (h,n)) | _ => none)
  else none
noncomputable def rdQ (r : Rq) (q : Rec) : Option Rq := match all1 q.2 with
  | ([n],0) => if q.1 = 1 then some (r.setId n) else if q.1 = 3 then some (r.setKey n) else if q.1 = 5 then some (r.setA n) else if q.1 = 6 then some (r.setN n) else if q.1 = 7 then some (r.setTill n)
    else if q.1 = 2 ∧ n < 16 then some (r.setMe n) else rdQ2 r q
  | _ => rdQ2 r q
noncomputable def rdAllQ : Rq → List Rec → Option Rq
  | r,[] => some r
  | r,q :: l => match rdQ r q with | some r' => rdAllQ r' l | none => none
theorem rdQ2_ok {r r' : Rq} {q : Rec} (h : RqOk r) (hb : Bs q.2) (hL : r.its.length ≤ 1000 ∧ r.cvs.length ≤ 1000) (he : rdQ2 r q = some r') : RqOk r' ∧ r'.its.length ≤ r.its.length + 1 ∧ r'.cvs.length ≤ r.cvs.length + 1 := by
  have hu := all1_u64 hb
  unfold rdQ2 at he
  split at he
  · split at he
    · rename_i ht
      obtain ⟨t1,t2⟩ := getK_tok hb ht
      simp only [Option.some.injEq] at he
      subst he
      exact ⟨⟨h.id,h.me,h.key,t1,h.a,h.n,h.till,h.its,h.cvs,by simp only [Rq.tok,Rq.setTok]; omega,h.l2,h.l3⟩,Nat.le_succ _,Nat.le_succ _⟩
    · simp at he
  · split at he
    · split at he
      · rename_i hc
        obtain ⟨_,c2,_⟩ := getC_ok hb (d := (getC q.2).1) (Prod.ext rfl hc)
        simp only [Option.some.injEq] at he
        subst he
        have e1 : (r.addC (getC q.2).1).cvs = r.cvs ++ [(getC q.2).1] := rfl
        refine ⟨⟨h.id,h.me,h.key,h.tok,h.a,h.n,h.till,h.its,?_,h.l1,h.l2,?_⟩,Nat.le_succ _,?_⟩
        · rw [e1]
          intro c hc'
          rcases List.mem_append.1 hc' with hc' | hc'
          · exact h.cvs c hc'
          · simp only [List.mem_singleton] at hc'; rw [hc']; exact c2
        · rw [e1,List.length_append,List.length_singleton]; omega
        · rw [e1,List.length_append,List.length_singleton]; exact Nat.le_refl _
      · simp at he
    · split at he
      · split at he
        · rename_i a n hm
          rw [hm] at hu
          simp only [Option.some.injEq] at he
          subst he
          have e1 : (r.addI (a,n)).its = r.its ++ [(a,n)] := rfl
          refine ⟨⟨h.id,h.me,h.key,h.tok,h.a,h.n,h.till,?_,h.cvs,h.l1,?_,h.l3⟩,?_,Nat.le_succ _⟩
          · rw [e1]
            intro c hc'
            rcases List.mem_append.1 hc' with hc' | hc'
            · exact h.its c hc'
            · simp only [List.mem_singleton] at hc'; rw [hc']; exact ⟨hu a (by simp),hu n (by simp)⟩
          · rw [e1,List.length_append,List.length_singleton]; omega
          · rw [e1,List.length_append,List.length_singleton]; exact Nat.le_refl _
        · simp at he
      · simp at he
theorem rdQ_ok {r r' : Rq} {q : Rec} (h : RqOk r) (hb : Bs q.2) (hL : r.its.length ≤ 1000 ∧ r.cvs.length ≤ 1000) (he : rdQ r q = some r') : RqOk r' ∧ r'.its.length ≤ r.its.length + 1 ∧ r'.cvs.length ≤ r.cvs.length + 1 := by
  have hu := all1_u64 hb
  unfold rdQ at he
  split at he
  · rename_i n hm
    rw [hm] at hu
    have u1 := hu n (by simp)
    split at he
    · simp only [Option.some.injEq] at he
      subst he
      exact ⟨⟨u1,h.me,h.key,h.tok,h.a,h.n,h.till,h.its,h.cvs,h.l1,h.l2,h.l3⟩,Nat.le_succ _,Nat.le_succ _⟩
    split at he
    · simp only [Option.some.injEq] at he
      subst he
      exact ⟨⟨h.id,h.me,u1,h.tok,h.a,h.n,h.till,h.its,h.cvs,h.l1,h.l2,h.l3⟩,Nat.le_succ _,Nat.le_succ _⟩
    split at he
    · simp only [Option.some.injEq] at he
      subst he
      exact ⟨⟨h.id,h.me,h.key,h.tok,u1,h.n,h.till,h.its,h.cvs,h.l1,h.l2,h.l3⟩,Nat.le_succ _,Nat.le_succ _⟩
    split at he
    · simp only [Option.some.injEq] at he
      subst he
      exact ⟨⟨h.id,h.me,h.key,h.tok,h.a,u1,h.till,h.its,h.cvs,h.l1,h.l2,h.l3⟩,Nat.le_succ _,Nat.le_succ _⟩
    split at he
    · simp only [Option.some.injEq] at he
      subst he
      exact ⟨⟨h.id,h.me,h.key,h.tok,h.a,h.n,u1,h.its,h.cvs,h.l1,h.l2,h.l3⟩,Nat.le_succ _,Nat.le_succ _⟩
    split at he
    · rename_i hm2
      simp only [Option.some.injEq] at he
      subst he
      exact ⟨⟨h.id,⟨by have := u1.1; simp only [Rq.setMe,Rq.me]; omega,by simp only [Rq.setMe,Rq.me]; omega⟩,h.key,h.tok,h.a,h.n,h.till,h.its,h.cvs,h.l1,h.l2,h.l3⟩,Nat.le_succ _,Nat.le_succ _⟩
    · exact rdQ2_ok h hb hL he
  · exact rdQ2_ok h hb hL he
theorem rdAllQ_append : ∀ (l m : List Rec) (r : Rq),rdAllQ r (l ++ m) = (rdAllQ r l).bind fun r' => rdAllQ r' m
  | [],m,r => rfl
  | q :: l,m,r => by
    rw [List.cons_append,rdAllQ,rdAllQ]
    cases rdQ r q with
    | none => rfl
    | some r' => exact rdAllQ_append l m r'
theorem rdAllQ_opt {c : Bool} {t : Int} {v : List Int} {r r' : Rq} (h1 : c = true → rdQ r (t,v) = some r') (h0 : c = false → r = r') : rdAllQ r (opt c t v) = some r' := by
  cases c with
  | true => simp [opt,rdAllQ,h1 rfl]
  | false => simp [opt,rdAllQ,h0 rfl]
theorem rdAllQ_its : ∀ (l : List It) (i : Nat) (r : Rq),16 ≤ i → i + l.length ≤ 32 → (∀ x ∈ l,U64 x.1 ∧ U64 x.2) → rdAllQ r (numd encI i l) = some (r.1,(r.2.1,(r.2.2.1,(r.2.2.2.1,(r.2.2.2.2.1,(r.2.2.2.2.2.1,(r.2.2.2.2.2.2.1,(r.2.2.2.2.2.2.2.1,(r.2.2.2.2.2.2.2.2.1,(r.its ++ l,r.cvs))))))))))
  | [],i,r,_,_,_ => by simp [numd,rdAllQ]
  | x :: l,i,r,h16,h32,h => by
    obtain ⟨hx,hy⟩ := h x (by simp)
    rw [List.length_cons] at h32
    have ha : all1 (encI x) = ([x.1,x.2],0) := by
      unfold encI
      refine all1_enc ?_ (by simp)
      intro n hn
      simp only [List.mem_cons,List.not_mem_nil,or_false] at hn
      rcases hn with rfl | rfl
      · exact hx
      · exact hy
    rw [numd,rdAllQ]
    have hp : rdQ r (((16 + i : Nat) : Int),encI x) = some (r.addI x) := by
      unfold rdQ
      simp only [ha]
      unfold rdQ2
      simp only [ha]
      rw [if_neg (by omega),if_neg (by omega),if_pos (by omega)]
    rw [hp]
    simp only
    rw [rdAllQ_its l (i + 1) _ (by omega) (by omega) (fun y hy => h y (List.mem_cons_of_mem _ hy))]
    simp [Rq.addI,Rq.its,Rq.cvs]
theorem enc_three {c : Cv} (hc : CvOk c) (hk : chk c = 0) (r : Rq) {t : Int} (ht : 48 ≤ t) : rdQ r (t,encC c) = some (r.addC c) := by
  have h1 := getC_enc hc hk []
  rw [List.append_nil,if_pos rfl] at h1
  have h2 : rdQ2 r (t,encC c) = some (r.addC c) := by
    unfold rdQ2
    simp only [h1]
    rw [if_neg (by omega),if_pos (by omega),if_pos trivial]
  unfold rdQ
  split
  · rw [if_neg (by simp only; omega),if_neg (by simp only; omega),if_neg (by simp only; omega),if_neg (by simp only; omega),if_neg (by simp only; omega),if_neg (by simp only; omega)]
    exact h2
  · exact h2
theorem rdAllQ_cvs : ∀ (l : List Cv) (i : Nat) (r : Rq),32 ≤ i → (∀ x ∈ l,CvOk x ∧ chk x = 0) → rdAllQ r (numd encC i l) = some (r.1,(r.2.1,(r.2.2.1,(r.2.2.2.1,(r.2.2.2.2.1,(r.2.2.2.2.2.1,(r.2.2.2.2.2.2.1,(r.2.2.2.2.2.2.2.1,(r.2.2.2.2.2.2.2.2.1,(r.its,r.cvs ++ l))))))))))
  | [],i,r,_,_ => by simp [numd,rdAllQ]
  | x :: l,i,r,h32,h => by
    obtain ⟨hx,hy⟩ := h x (by simp)
    rw [numd,rdAllQ,enc_three hx hy r (by omega)]
    simp only
    rw [rdAllQ_cvs l (i + 1) _ (by omega) (fun y hy => h y (List.mem_cons_of_mem _ hy))]
    simp [Rq.addC,Rq.its,Rq.cvs]
theorem rdAllQ_rec {r : Rq} (h : RqOk r) (k : okQ r) : rdAllQ zQ (recQ r) = some r := by
  have hi := okQ_its k
  obtain ⟨hc,hck⟩ := okQ_cvs k
  have hme := okQ_me k
  have hkt := k.2
  obtain ⟨h1,h2,h3,h4,h5,h6,h7,h8,h9,_,_,_⟩ := h
  obtain ⟨i,m,ke,to,L,si,a,n,ti,its,cvs⟩ := r
  simp only [Rq.id,Rq.me,Rq.key,Rq.tok,Rq.a,Rq.n,Rq.till,Rq.its,Rq.cvs] at *
  have um : U64 m := ⟨by omega,by omega⟩
  unfold recQ
  simp only [Rq.id,Rq.me,Rq.key,Rq.tok,Rq.a,Rq.n,Rq.till,Rq.its,Rq.cvs]
  simp only [rdAllQ_append,List.append_assoc]
  have s1 : rdAllQ zQ [(1,enc1 i),(2,enc1 m)] = some (i,(m,zQ.2.2)) := by
    have e1 : rdQ zQ (1,enc1 i) = some (zQ.setId i) := by
      unfold rdQ
      simp only [all1_one h1]
      simp
    have e2 : rdQ (zQ.setId i) (2,enc1 m) = some ((zQ.setId i).setMe m) := by
      unfold rdQ
      simp only [all1_one um]
      rw [if_neg (by decide),if_neg (by decide),if_neg (by decide),if_neg (by decide),if_neg (by decide),if_pos ⟨by trivial,by omega⟩]
    simp only [rdAllQ,e1,e2]
    rfl
  rw [s1,Option.bind_some]
  have s3 : rdAllQ (i,(m,zQ.2.2)) (opt (!decide (ke = 0)) 3 (enc1 ke)) = some (i,(m,(ke,zQ.2.2.2))) := by
    refine rdAllQ_opt (fun hc => ?_) (fun hc => ?_)
    · unfold rdQ
      simp only [all1_one h3]
      simp [Rq.setKey]
    · simp at hc; subst hc; rfl
  rw [s3,Option.bind_some]
  have s4 : rdAllQ (i,(m,(ke,zQ.2.2.2))) [(4,tokB (to,(L,si)))] = some (i,(m,(ke,(to,(L,(si,zQ.2.2.2.2.2.2)))))) := by
    have e2 : rdQ2 (i,(m,(ke,zQ.2.2.2))) (4,tokB (to,(L,si))) = some (i,(m,(ke,(to,(L,(si,zQ.2.2.2.2.2.2)))))) := by
      unfold rdQ2
      simp only [getK_enc h4 hkt]
      simp [Rq.setTok]
    have e1 : rdQ (i,(m,(ke,zQ.2.2.2))) (4,tokB (to,(L,si))) = some (i,(m,(ke,(to,(L,(si,zQ.2.2.2.2.2.2)))))) := by
      unfold rdQ
      split
      · rw [if_neg (by simp),if_neg (by simp),if_neg (by simp),if_neg (by simp),if_neg (by simp),if_neg (fun q => absurd q.1 (by simp))]
        exact e2
      · exact e2
    simp only [rdAllQ,e1]
  rw [s4,Option.bind_some]
  have s5 : rdAllQ (i,(m,(ke,(to,(L,(si,zQ.2.2.2.2.2.2)))))) (opt (!decide (a = 0)) 5 (enc1 a)) = some (i,(m,(ke,(to,(L,(si,(a,zQ.2.2.2.2.2.2.2))))))) := by
    refine rdAllQ_opt (fun hc => ?_) (fun hc => ?_)
    · unfold rdQ
      simp only [all1_one h5]
      simp [Rq.setA]
    · simp at hc; subst hc; rfl
  rw [s5,Option.bind_some]
  have s6 : rdAllQ (i,(m,(ke,(to,(L,(si,(a,zQ.2.2.2.2.2.2.2))))))) (opt (!decide (n = 0)) 6 (enc1 n)) = some (i,(m,(ke,(to,(L,(si,(a,(n,zQ.2.2.2.2.2.2.2.2)))))))) := by
    refine rdAllQ_opt (fun hc => ?_) (fun hc => ?_)
    · unfold rdQ
      simp only [all1_one h6]
      simp [Rq.setN]
    · simp at hc; subst hc; rfl
  rw [s6,Option.bind_some]
  have s7 : rdAllQ (i,(m,(ke,(to,(L,(si,(a,(n,zQ.2.2.2.2.2.2.2.2)))))))) (opt (!decide (ti = 0)) 7 (enc1 ti)) = some (i,(m,(ke,(to,(L,(si,(a,(n,(ti,zQ.2.2.2.2.2.2.2.2.2))))))))) := by
    refine rdAllQ_opt (fun hc => ?_) (fun hc => ?_)
    · unfold rdQ
      simp only [all1_one h7]
      simp [Rq.setTill]
    · simp at hc; subst hc; rfl
  rw [s7,Option.bind_some,rdAllQ_its its 16 _ (by omega) (by omega) h8,Option.bind_some,rdAllQ_cvs cvs 32 _ (by omega) (fun x hx => ⟨h9 x hx,hck x hx⟩)]
  simp [Rq.its,Rq.cvs,zQ]
theorem rdAllQ_ok : ∀ (l : List Rec) (r r' : Rq),RqOk r → r.its.length + l.length ≤ 1000 ∧ r.cvs.length + l.length ≤ 1000 → (∀ q ∈ l,Bs q.2 ∧ q.2.length ≤ 4096) → rdAllQ r l = some r' → RqOk r'
  | [],r,r',h,_,_,he => by simp only [rdAllQ,Option.some.injEq] at he; subst he; exact h
  | q :: l,r,r',h,hl,hb,he => by
    rw [rdAllQ] at he
    rw [List.length_cons] at hl
    cases hq : rdQ r q with
    | none => rw [hq] at he; simp at he
    | some r1 =>
      rw [hq] at he
      obtain ⟨o1,o2,o3⟩ := rdQ_ok h (hb q (by simp)).1 (by omega) hq
      exact rdAllQ_ok l r1 r' o1 (by omega) (fun x hx => hb x (List.mem_cons_of_mem _ hx)) he
theorem zQ_ok : RqOk zQ where
  id := ⟨by decide,by decide⟩
  me := ⟨by decide,by decide⟩
  key := ⟨by decide,by decide⟩
  tok := ⟨⟨by decide,by decide⟩,by simp [zQ],by decide,by decide⟩
  a := ⟨by decide,by decide⟩
  n := ⟨by decide,by decide⟩
  till := ⟨by decide,by decide⟩
  its := by simp [zQ,Rq.its]
  cvs := by simp [zQ,Rq.cvs]
  l1 := by simp [zQ]
  l2 := by simp [zQ,Rq.its]
  l3 := by simp [zQ,Rq.cvs]
open Classical in
noncomputable def finQ (b : List Int) (e : Int) : Option Rq → Rq×Int
  | none => (zQ,2)
  | some r => if e = 0 ∧ okQ r ∧ recB r = b then (r,0) else (zQ,2)
noncomputable def getQ (b : List Int) : Rq×Int := if 4096 < b.length then (zQ,4) else finQ b (getT b).2 (rdAllQ zQ (getT b).1)
theorem getQ_ok {b : List Int} (hb : Bs b) (h : (getQ b).2 = 0) : RqOk (getQ b).1 ∧ okQ (getQ b).1 ∧ recB (getQ b).1 = b := by
  unfold getQ at h ⊢
  split at h
  · simp at h
  rename_i hl
  rw [if_neg hl]
  obtain ⟨m1,m2⟩ := getT_recs hb
  cases hr : rdAllQ zQ (getT b).1 with
  | none => rw [hr] at h; simp [finQ] at h
  | some r =>
    rw [hr] at h
    have ho := rdAllQ_ok _ _ _ zQ_ok (by simp [zQ,Rq.its,Rq.cvs]; omega) m2 hr
    unfold finQ at h ⊢
    simp only at h ⊢
    split at h
    · rename_i q
      rw [if_pos q]
      exact ⟨ho,q.2.1,q.2.2⟩
    · simp at h
theorem getQ_bad {b : List Int} (hl : b.length ≤ 4096) (h : (getQ b).2 ≠ 0) : getQ b = (zQ,2) := by
  unfold getQ at h ⊢
  rw [if_neg (by omega)] at h ⊢
  cases hr : rdAllQ zQ (getT b).1 with
  | none => rfl
  | some r =>
    rw [hr] at h
    unfold finQ at h ⊢
    simp only at h ⊢
    split at h
    · simp at h
    · rename_i q; rw [if_neg q]
theorem getQ_enc {r : Rq} (h : RqOk r) (k : okQ r) : getQ (recB r) = (r,0) := by
  have hlen := recB_len k
  have hg : getT (recB r) = (recQ r,0) := getT_enc (recQ_okV h k) (recQ_okT k) (by unfold recB at hlen; omega)
  unfold getQ
  rw [if_neg (by omega),hg]
  simp only [rdAllQ_rec h k]
  unfold finQ
  simp only
  rw [if_pos ⟨by trivial,k,by trivial⟩]
end Go.Proofs.YtgdfhijgjjcnjaaGreatDoor.RZ
