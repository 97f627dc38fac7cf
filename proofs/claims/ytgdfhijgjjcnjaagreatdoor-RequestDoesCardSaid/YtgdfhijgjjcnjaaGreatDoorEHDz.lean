/- Part of a proof: what the program's functions come to. -/
import Derived.Test.YtgdfhijgjjcnjaaGreatDoorEHCz
set_option linter.unusedVariables false
set_option linter.unusedSimpArgs false
namespace Go.Proofs.YtgdfhijgjjcnjaaGreatDoor.RZ
open Go Go.Fw Go.Proofs RB
set_option maxRecDepth 20000
theorem jkR {R : Type} (J : List Rec → Option R) (c : Bool) (x : List Rec) (t : Int) (v : List Int) (hlen : x.length ≤ 1000) :
    joinK J (fun J => bif c then (bif decide ((x.length + 1) * 32 ≤ LIM) then J (x ++ ([(t,v)])) else none) else J x) = J (x ++ opt c t v) := by
  rw [joinK_eq]
  have : (x.length + 1) * 32 ≤ LIM := by unfold LIM; omega
  cases c <;> simp [opt,this]
theorem F55_me {m : Int} (h0 : 1 ≤ m) (h1 : m ≤ 10) : F55 [IntKind.wrap .u64 m] = some (enc1 m) := by
  rw [small_u64 (by omega) (by omega)]
  exact F55_one ⟨by omega,by omega⟩
theorem F22_eq {r : Rq} (h : RqOk r) (k : okQ r) : F22 r = some (recQ r) := by
  have h16 := okQ_its k
  obtain ⟨hc16,hchk⟩ := okQ_cvs k
  have hme := okQ_me k
  have hL := k.2.1
  have e56 : F56 (r.2.2.2.1,(r.2.2.2.2.1,r.2.2.2.2.2.1)) = some (tokB r.tok,0) := by rw [F56_eq (t := r.tok) h.tok (by omega),if_pos k.2]
  have e1 : F55 [r.1] = some (enc1 r.1) := F55_one h.id
  have e2 : F55 [IntKind.wrap .u64 r.2.1] = some (enc1 r.2.1) := F55_me hme.1 hme.2
  have e3 : F55 [r.2.2.1] = some (enc1 r.2.2.1) := F55_one h.key
  have e5 : F55 [r.2.2.2.2.2.2.1] = some (enc1 r.2.2.2.2.2.2.1) := F55_one h.a
  have e6 : F55 [r.2.2.2.2.2.2.2.1] = some (enc1 r.2.2.2.2.2.2.2.1) := F55_one h.n
  have e7 : F55 [r.2.2.2.2.2.2.2.2.1] = some (enc1 r.2.2.2.2.2.2.2.2.1) := F55_one h.till
  unfold F22
  simp only [e56,e1,e2,e3,e5,e6,e7,Option.bind_some,both_self]
  refine (jkR _ (!decide (r.2.2.1 = 0)) [(1,enc1 r.1),(2,enc1 r.2.1)] 3 (enc1 r.2.2.1) (by simp)).trans ?_
  have o3 := opt_len (!decide (r.2.2.1 = 0)) 3 (enc1 r.2.2.1)
  have o5 := opt_len (!decide (r.2.2.2.2.2.2.1 = 0)) 5 (enc1 r.2.2.2.2.2.2.1)
  have o6 := opt_len (!decide (r.2.2.2.2.2.2.2.1 = 0)) 6 (enc1 r.2.2.2.2.2.2.2.1)
  have o7 := opt_len (!decide (r.2.2.2.2.2.2.2.2.1 = 0)) 7 (enc1 r.2.2.2.2.2.2.2.2.1)
  have q4 : decide ((([(1,enc1 r.1),(2,enc1 r.2.1)] ++ opt (!decide (r.2.2.1 = 0)) 3 (enc1 r.2.2.1)).length + 1) * 32 ≤ LIM) = true := decide_eq_true (by unfold LIM; simp only [List.length_append,List.length_cons,List.length_nil]; omega)
  simp only [q4,cond_true]
  refine (jkR _ (!decide (r.2.2.2.2.2.2.1 = 0)) _ 5 (enc1 r.2.2.2.2.2.2.1) (by simp only [List.length_append,List.length_cons,List.length_nil]; omega)).trans ?_
  refine (jkR _ (!decide (r.2.2.2.2.2.2.2.1 = 0)) _ 6 (enc1 r.2.2.2.2.2.2.2.1) (by simp only [List.length_append,List.length_cons,List.length_nil]; omega)).trans ?_
  refine (jkR _ (!decide (r.2.2.2.2.2.2.2.2.1 = 0)) _ 7 (enc1 r.2.2.2.2.2.2.2.2.1) (by simp only [List.length_append,List.length_cons,List.length_nil]; omega)).trans ?_
  have hX : (((([(1,enc1 r.1),(2,enc1 r.2.1)] ++ opt (!decide (r.2.2.1 = 0)) 3 (enc1 r.2.2.1)) ++ [(4,tokB r.tok)]) ++ opt (!decide (r.2.2.2.2.2.2.1 = 0)) 5 (enc1 r.2.2.2.2.2.2.1)) ++ opt (!decide (r.2.2.2.2.2.2.2.1 = 0)) 6 (enc1 r.2.2.2.2.2.2.2.1)
      ++ opt (!decide (r.2.2.2.2.2.2.2.2.1 = 0)) 7 (enc1 r.2.2.2.2.2.2.2.2.1)) ++ numd encI 16 r.its ++ numd encC 32 r.cvs = recQ r := rfl
  have hXl : (((([(1,enc1 r.1),(2,enc1 r.2.1)] ++ opt (!decide (r.2.2.1 = 0)) 3 (enc1 r.2.2.1)) ++ [(4,tokB r.tok)]) ++ opt (!decide (r.2.2.2.2.2.2.1 = 0)) 5 (enc1 r.2.2.2.2.2.2.1)) ++ opt (!decide (r.2.2.2.2.2.2.2.1 = 0)) 6 (enc1 r.2.2.2.2.2.2.2.1)
      ++ opt (!decide (r.2.2.2.2.2.2.2.2.1 = 0)) 7 (enc1 r.2.2.2.2.2.2.2.2.1)).length ≤ 100 := by simp only [List.length_append,List.length_cons,List.length_nil]; omega
  generalize (((([(1,enc1 r.1),(2,enc1 r.2.1)] ++ opt (!decide (r.2.2.1 = 0)) 3 (enc1 r.2.2.1)) ++ [(4,tokB r.tok)]) ++ opt (!decide (r.2.2.2.2.2.2.1 = 0)) 5 (enc1 r.2.2.2.2.2.2.1)) ++ opt (!decide (r.2.2.2.2.2.2.2.1 = 0)) 6 (enc1 r.2.2.2.2.2.2.2.1)
      ++ opt (!decide (r.2.2.2.2.2.2.2.2.1 = 0)) 7 (enc1 r.2.2.2.2.2.2.2.2.1)) = X at hX hXl ⊢
  refine lfp_rule (fun (x : List Rec×Int) => ∃ i : Nat,x.2 = (i : Int) ∧ i ≤ r.its.length ∧ x.1 = X ++ numd encI 16 (r.its.take i)) (fun x => r.its.length - x.2.toNat) (fun _ => recQ r) ?_ (X,0) ⟨0,rfl,by omega,by simp [numd]⟩
  rintro ⟨acc,i'⟩ ⟨i,hi',hi,hacc⟩ rec hrec
  simp only at hi' hacc
  subst hi'
  subst hacc
  simp only
  by_cases hlt : i < r.its.length
  · have kk : ((i : Int) < (r.its.length : Int)) := by omega
    have hx := h.its _ (List.getElem_mem hlt)
    have hlen : ((X ++ numd encI 16 (r.its.take i)).length + 1) * 32 ≤ LIM := by
      unfold LIM
      simp only [List.length_append,numd_len,List.length_take]; omega
    have w1 : IntKind.wrap .u64 (IntKind.wrap .i64 (32 + (i : Int))) = 32 + (i : Int) := by rw [RB.wrap_i64 (n := 32 + (i : Int)) (by omega) (by omega),small_u64 (by omega) (by omega)]
    have hrd := rd_nat (t := .pair (.int .u64) (.int .u64)) hlt
    simp only [Rq.its] at kk hrd hx hlen
    simp only [kk,decide_true,cond_true,inb_true (Int.natCast_nonneg i) kk,hrd,F55_two hx.1 hx.2,Option.bind_some,w1,hlen]
    rw [RB.wrap_i64 (n := (i : Int) + 1) (by omega) (by omega)]
    refine hrec _ ⟨i + 1,by simp,by omega,?_⟩ (by simp only; omega)
    simp only
    rw [List.take_succ_eq_append_getElem hlt,numd_snoc,List.append_assoc]
    congr 3
    have : min i r.its.length = i := by omega
    simp only [List.length_take,this,encI,List.flatMap_cons,List.flatMap_nil,List.append_nil]
    congr 2
    omega
  · have kk : ¬ ((i : Int) < (r.its.length : Int)) := by omega
    rw [List.take_of_length_le (by omega)]
    simp only [Rq.its] at kk
    simp only [kk,decide_false,cond_false]
    refine lfp_rule (fun (x : List Rec×Int) => ∃ i : Nat,x.2 = (i : Int) ∧ i ≤ r.cvs.length ∧ x.1 = X ++ numd encI 16 r.its ++ numd encC 32 (r.cvs.take i)) (fun x => r.cvs.length - x.2.toNat) (fun _ => recQ r) ?_ (X ++ numd encI 16 r.its,0) ⟨0,rfl,by omega,by simp [numd]⟩
    rintro ⟨acc,j'⟩ ⟨j,hj',hj,hacc⟩ rec3 hrec3
    simp only at hj' hacc
    subst hj'
    subst hacc
    simp only
    by_cases hltj : j < r.cvs.length
    · have kk2 : ((j : Int) < (r.cvs.length : Int)) := by omega
      have hx := h.cvs _ (List.getElem_mem hltj)
      have hk0 := hchk _ (List.getElem_mem hltj)
      have hlen : ((X ++ numd encI 16 r.its ++ numd encC 32 (r.cvs.take j)).length + 1) * 32 ≤ LIM := by
        unfold LIM
        simp only [List.length_append,numd_len,List.length_take]; omega
      have w1 : IntKind.wrap .u64 (IntKind.wrap .i64 (48 + (j : Int))) = 48 + (j : Int) := by rw [RB.wrap_i64 (n := 48 + (j : Int)) (by omega) (by omega),small_u64 (by omega) (by omega)]
      have hrd := rd_nat (t := .pair (.int .i64) (.pair (.int .u64) (.int .u64))) hltj
      simp only [Rq.its,Rq.cvs] at kk2 hrd hx hk0 hlen
      simp only [Rq.its,kk2,decide_true,cond_true,inb_true (Int.natCast_nonneg j) kk2,hrd,Prod.eta,F57_eq hx,Option.bind_some,putC,hk0,if_true,w1,hlen]
      rw [RB.wrap_i64 (n := (j : Int) + 1) (by omega) (by omega)]
      refine hrec3 _ ⟨j + 1,by simp,by omega,?_⟩ (by simp only; omega)
      simp only
      rw [List.take_succ_eq_append_getElem hltj,numd_snoc,List.append_assoc]
      congr 3
      have : min j r.cvs.length = j := by omega
      simp only [List.length_take,this]
      congr 2
      omega
    · have kk2 : ¬ ((j : Int) < (r.cvs.length : Int)) := by omega
      rw [List.take_of_length_le (by omega)]
      simp only [Rq.cvs] at kk2
      simp only [kk2,decide_false,cond_false,hX]
open Classical in
theorem F7_eq {r : Rq} (h : RqOk r) (s : sm r) : F7 r = some (if okQ r then (recB r,0) else ([],1)) := by
  have e17 : F17 (r.1,(r.2.1,(r.2.2.1,(r.2.2.2.1,(r.2.2.2.2.1,(r.2.2.2.2.2.1,(r.2.2.2.2.2.2.1,(r.2.2.2.2.2.2.2.1,(r.2.2.2.2.2.2.2.2.1,(r.2.2.2.2.2.2.2.2.2.1,r.2.2.2.2.2.2.2.2.2.2)))))))))) = some (if okQ r then 0 else 1) := F17_eq h s
  unfold F7
  simp only [e17,Option.bind_some]
  by_cases k : okQ r
  · have e22 : F22 (r.1,(r.2.1,(r.2.2.1,(r.2.2.2.1,(r.2.2.2.2.1,(r.2.2.2.2.2.1,(r.2.2.2.2.2.2.1,(r.2.2.2.2.2.2.2.1,(r.2.2.2.2.2.2.2.2.1,(r.2.2.2.2.2.2.2.2.2.1,r.2.2.2.2.2.2.2.2.2.2)))))))))) = some (recQ r) := F22_eq h k
    have hl := recB_len k
    have hp : putT (recQ r) = (recB r,0) := by
      unfold putT
      rw [if_pos (recQ_okT k),if_neg (by unfold recB at hl; omega)]
      rfl
    have hd : decide (4096 < ((recB r).length : Int)) = false := decide_eq_false (by omega)
    simp only [k,if_true,e22,Option.bind_some,decide_true,Bool.not_true,cond_false,F21_eq (recQ_okV h k),hp,hd]
  · simp [k]
open Classical in
theorem F13_eq {r : Rq} (h : RqOk r) (s : sm r) : F13 r = some (amt r) := by
  have e17 : F17 (r.1,(r.2.1,(r.2.2.1,(r.2.2.2.1,(r.2.2.2.2.1,(r.2.2.2.2.2.1,(r.2.2.2.2.2.2.1,(r.2.2.2.2.2.2.2.1,(r.2.2.2.2.2.2.2.2.1,(r.2.2.2.2.2.2.2.2.2.1,r.2.2.2.2.2.2.2.2.2.2)))))))))) = some (if okQ r then 0 else 1) := F17_eq h s
  unfold F13 amt
  simp only [e17,Option.bind_some,F31_eq h.l2 h.its]
  by_cases k : okQ r
  · by_cases h1 : r.2.1 = 1
    · simp [k,h1,Rq.me,Rq.n]
    · by_cases h2 : r.2.1 = 2
      · simp [k,h1,h2,Rq.me,Rq.its]
      · simp [k,h1,h2,Rq.me]
  · simp [k]
open Classical in
theorem F11_eq {r : Rq} (h : RqOk r) (s : sm r) : F11 r = some (if okQ r then ((prQ r).flatMap encR,0) else ([],1)) := by
  have e17 : F17 (r.1,(r.2.1,(r.2.2.1,(r.2.2.2.1,(r.2.2.2.2.1,(r.2.2.2.2.2.1,(r.2.2.2.2.2.2.1,(r.2.2.2.2.2.2.2.1,(r.2.2.2.2.2.2.2.2.1,(r.2.2.2.2.2.2.2.2.2.1,r.2.2.2.2.2.2.2.2.2.2)))))))))) = some (if okQ r then 0 else 1) := F17_eq h s
  unfold F11
  simp only [e17,Option.bind_some]
  by_cases k : okQ r
  · have e22 : F22 (r.1,(r.2.1,(r.2.2.1,(r.2.2.2.1,(r.2.2.2.2.1,(r.2.2.2.2.2.1,(r.2.2.2.2.2.2.1,(r.2.2.2.2.2.2.2.1,(r.2.2.2.2.2.2.2.2.1,(r.2.2.2.2.2.2.2.2.2.1,r.2.2.2.2.2.2.2.2.2.2)))))))))) = some (recQ r) := F22_eq h k
    have h64 := (recQ_okT k).1
    have hput : F21 ((recQ r).filter keep) = some ((prQ r).flatMap encR,0) := by
      rw [F21_eq (fun q hq => recQ_okV h k q ((List.mem_filter.1 hq).1)),putT_pr k |>.symm]; rfl
    simp only [k,if_true,e22,Option.bind_some,decide_true,Bool.not_true,cond_false]
    generalize recQ r = l at h64 hput ⊢
    refine lfp_rule (fun (x : List Rec×Int) => ∃ i : Nat,x.2 = (i : Int) ∧ i ≤ l.length ∧ x.1 = (l.take i).filter keep) (fun x => l.length - x.2.toNat) (fun _ => ((prQ r).flatMap encR,0)) ?_ (([] : List Rec),0) ⟨0,rfl,by omega,by simp⟩
    rintro ⟨acc,i'⟩ ⟨i,hi',hi,hacc⟩ rec hrec
    simp only at hi' hacc
    subst hi'
    subst hacc
    simp only
    by_cases hlt : i < l.length
    · have kk : ((i : Int) < (l.length : Int)) := by omega
      have hfl : ((l.take i).filter keep).length ≤ l.length := Nat.le_trans (List.length_filter_le _ _) (by rw [List.length_take]; omega)
      have hlen : (((l.take i).filter keep).length + 1) * 32 ≤ LIM := by unfold LIM; omega
      have hkp : (bif (!decide (l[i].1 = 1)) then (!decide (l[i].1 = 4)) else false) = keep l[i] := by
        unfold keep del; cases decide (l[i].1 = 1) <;> cases decide (l[i].1 = 4) <;> rfl
      simp only [kk,decide_true,cond_true,inb_true (Int.natCast_nonneg i) kk,rd_nat (t := tR) hlt,hkp,hlen,Prod.eta]
      rw [RB.wrap_i64 (n := (i : Int) + 1) (by omega) (by omega)]
      cases hb : keep l[i] with
      | true =>
        simp only [cond_true]
        refine hrec _ ⟨i + 1,by simp,by omega,?_⟩ (by simp only; omega)
        simp only
        rw [List.take_succ_eq_append_getElem hlt,List.filter_append]
        simp [hb]
      | false =>
        simp only [cond_false]
        refine hrec _ ⟨i + 1,by simp,by omega,?_⟩ (by simp only; omega)
        simp only
        rw [List.take_succ_eq_append_getElem hlt,List.filter_append]
        simp [hb]
    · have kk : ¬ ((i : Int) < (l.length : Int)) := by omega
      rw [List.take_of_length_le (by omega)]
      simp only [kk,decide_false,cond_false,hput,Option.bind_some]
  · simp [k]
end Go.Proofs.YtgdfhijgjjcnjaaGreatDoor.RZ
