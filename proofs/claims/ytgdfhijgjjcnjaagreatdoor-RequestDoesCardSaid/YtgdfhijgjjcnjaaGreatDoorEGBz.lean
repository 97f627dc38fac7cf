/- Part of a proof: what the program's functions come to. -/
import Derived.Test.YtgdfhijgjjcnjaaGreatDoorEGAz
set_option linter.unusedVariables false
set_option linter.unusedSimpArgs false
namespace Go.Proofs.YtgdfhijgjjcnjaaGreatDoor.RZ
open Go Go.Fw Go.Proofs RB
set_option maxRecDepth 20000
theorem okL_eq (r : Rq) : okL r = (((((((isM r.me) && (bif decide (bitOp .and .i64 (whatM r.me) 1 = 0) then !!decide (r.key = 0) else true)) && (bif decide (bitOp .and .i64 (whatM r.me) 2 = 0) then !!decide (r.a = 0) else true)) &&
    (bif decide (bitOp .and .i64 (whatM r.me) 4 = 0) then !!decide (r.n = 0) else isN r)) && (bif decide (bitOp .and .i64 (whatM r.me) 8 = 0) then !!decide (r.till = 0) else true)) &&
    (bif decide (bitOp .and .i64 (whatM r.me) 16 = 0) then !decide (0 < (r.its.length : Int)) else decide ((sumI r.its).2 = 0))) && (bif decide (bitOp .and .i64 (whatM r.me) 32 = 0) then !decide (0 < (r.cvs.length : Int)) else isL r)) := rfl
theorem okQ_me {r : Rq} (h : okQ r) : 1 ≤ r.me ∧ r.me ≤ 10 := by
  have h1 := h.1
  rw [okL_eq] at h1
  simp only [Bool.and_eq_true] at h1
  have := h1.1.1.1.1.1.1
  simpa [isM] using this
theorem sumI_len {l : List It} (h : (sumI l).2 = 0) : l ≠ [] ∧ l.length ≤ 16 ∧ (∀ x ∈ l,oddI x = false) ∧ tot l ≤ 4611686018427387904 ∧ (sumI l).1 = tot l := by
  unfold sumI at h ⊢
  split at h
  · simp at h
  · rename_i q
    split at h
    · simp at h
    · rename_i q2
      have n1 : l ≠ [] := fun e => q (.inl e)
      have n2 : ¬ 16 < l.length := fun e => q (.inr (.inl e))
      have n3 : ¬ l.any oddI = true := fun e => q (.inr (.inr e))
      rw [if_neg q,if_neg q2]
      refine ⟨n1,by omega,fun x hx => ?_,by omega,rfl⟩
      cases ho : oddI x with
      | false => rfl
      | true => exact absurd (List.any_eq_true.2 ⟨x,hx,ho⟩) n3
theorem okQ_its {r : Rq} (h : okQ r) : r.its.length ≤ 16 := by
  have h1 := h.1
  rw [okL_eq] at h1
  simp only [Bool.and_eq_true] at h1
  have := h1.1.2
  cases hd : decide (bitOp .and .i64 (whatM r.me) 16 = 0) with
  | true =>
    rw [hd] at this
    simp only [cond_true,Bool.not_eq_true',decide_eq_false_iff_not] at this
    omega
  | false =>
    rw [hd] at this
    simp only [cond_false,decide_eq_true_eq] at this
    exact (sumI_len this).2.1
theorem okQ_cvs {r : Rq} (h : okQ r) : r.cvs.length ≤ 16 ∧ ∀ c ∈ r.cvs,chk c = 0 := by
  have h1 := h.1
  rw [okL_eq] at h1
  simp only [Bool.and_eq_true] at h1
  have := h1.2
  cases hd : decide (bitOp .and .i64 (whatM r.me) 32 = 0) with
  | true =>
    rw [hd] at this
    simp only [cond_true,Bool.not_eq_true',decide_eq_false_iff_not] at this
    have : r.cvs = [] := List.eq_nil_of_length_eq_zero (by omega)
    rw [this]; simp
  | false =>
    rw [hd] at this
    simp only [cond_false,isL,Bool.and_eq_true,decide_eq_true_eq,Bool.not_eq_true'] at this
    refine ⟨this.2.1,fun c hc => ?_⟩
    have := List.any_eq_false.1 this.2.2 c hc
    simpa using this

def encI (x : It) : List Int := [x.1,x.2].flatMap enc1
def recQ (r : Rq) : List Rec :=
  [(1,enc1 r.id),(2,enc1 r.me)] ++ opt (!decide (r.key = 0)) 3 (enc1 r.key) ++ [(4,tokB r.tok)] ++ opt (!decide (r.a = 0)) 5 (enc1 r.a) ++ opt (!decide (r.n = 0)) 6 (enc1 r.n) ++ opt (!decide (r.till = 0)) 7 (enc1 r.till)
    ++ numd encI 16 r.its ++ numd encC 32 r.cvs
theorem sorted_app {a b : List Rec} (k : Int) (ha : Sorted a) (hb : Sorted b) (h1 : ∀ x ∈ a,x.1 < k) (h2 : ∀ y ∈ b,k ≤ y.1) : Sorted (a ++ b) :=
  List.pairwise_append.2 ⟨ha,hb,fun x hx y hy => Int.lt_of_lt_of_le (h1 x hx) (h2 y hy)⟩
theorem opt_sorted (c : Bool) (t : Int) (v : List Int) : Sorted (opt c t v) := by cases c <;> simp [opt,Sorted]
theorem opt_mem {c : Bool} {t : Int} {v : List Int} {q : Rec} (h : q ∈ opt c t v) : q = (t,v) := by cases c <;> simp [opt] at h; exact h
def SB (a : List Rec) (k : Int) : Prop := Sorted a ∧ ∀ q ∈ a,1 ≤ q.1 ∧ q.1 < k
theorem SB.app {a b : List Rec} {k k' : Int} (h : SB a k) (hk : 1 ≤ k) (hk' : k ≤ k') (hb : Sorted b) (hm : ∀ q ∈ b,k ≤ q.1 ∧ q.1 < k') : SB (a ++ b) k' := by
  refine ⟨sorted_app k h.1 hb (fun x hx => (h.2 x hx).2) (fun y hy => (hm y hy).1),fun q hq => ?_⟩
  rcases List.mem_append.1 hq with hq | hq
  · have := h.2 q hq; omega
  · have := hm q hq; omega
theorem SB.opt {a : List Rec} {k : Int} (h : SB a k) (hk : 1 ≤ k) (c : Bool) (v : List Int) : SB (a ++ opt c k v) (k + 1) :=
  h.app hk (by omega) (opt_sorted c k v) (fun q hq => by rw [opt_mem hq]; simp only; omega)
theorem recQ_sb {r : Rq} (h16 : r.its.length ≤ 16) : SB (recQ r) (48 + r.cvs.length) := by
  have n1 := numd_sorted encI r.its 16
  have n2 := numd_sorted encC r.cvs 32
  have m1 : ∀ q ∈ numd encI 16 r.its,(32 : Int) ≤ q.1 ∧ q.1 < 48 := fun q hq => by
    have h1 := n1.2 q hq
    have h2 := (numd_mem encI r.its 16 q hq).2.2
    omega
  have m2 : ∀ q ∈ numd encC 32 r.cvs,(48 : Int) ≤ q.1 ∧ q.1 < 48 + r.cvs.length := fun q hq => by
    have h1 := n2.2 q hq
    have h2 := (numd_mem encC r.cvs 32 q hq).2.2
    omega
  have s0 : SB [(1,enc1 r.id),(2,enc1 r.me)] 3 := by
    refine ⟨by simp [Sorted],fun q hq => ?_⟩
    simp only [List.mem_cons,List.not_mem_nil,or_false] at hq
    rcases hq with rfl | rfl <;> simp
  have s1 := s0.opt (by omega) (!decide (r.key = 0)) (enc1 r.key)
  have s2 : SB _ 5 := s1.app (b := [(4,tokB r.tok)]) (by omega) (by omega) (by simp [Sorted]) (fun q hq => by rw [List.mem_singleton.1 hq]; simp)
  have s3 := s2.opt (by omega) (!decide (r.a = 0)) (enc1 r.a)
  have s4 := s3.opt (by omega) (!decide (r.n = 0)) (enc1 r.n)
  have s5 := s4.opt (by omega) (!decide (r.till = 0)) (enc1 r.till)
  have s6 : SB _ 48 := s5.app (b := numd encI 16 r.its) (by omega) (by omega) n1.1 (fun q hq => by have := m1 q hq; omega)
  exact s6.app (b := numd encC 32 r.cvs) (by omega) (by omega) n2.1 m2
def mapQ (r : Rq) : List (Int×Int) := [(3,r.key),(5,r.a),(6,r.n),(7,r.till)]
def putE (l : List (Int×Int)) : List Rec := (l.filter fun e => !decide (e.2 = 0)).map fun e => (e.1,enc1 e.2)
theorem putE_snoc (l : List (Int×Int)) (e : Int×Int) : putE (l ++ [e]) = putE l ++ (if e.2 = 0 then [] else [(e.1,enc1 e.2)]) := by
  unfold putE
  rw [List.filter_append,List.map_append]
  by_cases h : e.2 = 0 <;> simp [h]
theorem recQ_perm (r : Rq) {d : List (Int×Int)} (hd : d.Perm (mapQ r)) : (([(4,tokB r.tok),(1,enc1 r.id),(2,enc1 r.me)] ++ putE d) ++ numd encI 16 r.its ++ numd encC 32 r.cvs).Perm (recQ r) := by
  have h1 : (putE d).Perm (opt (!decide (r.key = 0)) 3 (enc1 r.key) ++ opt (!decide (r.a = 0)) 5 (enc1 r.a) ++ opt (!decide (r.n = 0)) 6 (enc1 r.n) ++ opt (!decide (r.till = 0)) 7 (enc1 r.till)) := by
    refine ((hd.filter _).map _).trans (List.Perm.of_eq ?_)
    unfold mapQ opt
    by_cases c1 : r.key = 0 <;> by_cases c2 : r.a = 0 <;> by_cases c3 : r.n = 0 <;> by_cases c4 : r.till = 0 <;> simp [List.filter_cons,c1,c2,c3,c4]
  refine (((List.Perm.append_left _ h1).append_right _).append_right _).trans ?_
  unfold recQ
  rw [List.perm_iff_count]
  intro q
  simp only [List.count_append,List.count_cons,List.count_nil]
  omega
theorem keysDiffer_of {β : Type} : ∀ {l : List (Int×β)},l.Pairwise (fun a b => a.1 ≠ b.1) → keysDiffer l = true
  | [],_ => rfl
  | x :: r,h => by
    rw [List.pairwise_cons] at h
    simp only [keysDiffer,Bool.and_eq_true,List.all_eq_true,Bool.not_eq_true',decide_eq_false_iff_not]
    exact ⟨fun y hy => fun he => h.1 y hy he.symm,keysDiffer_of h.2⟩
theorem srt_recQ {r : Rq} (h16 : r.its.length ≤ 16) (hc : r.cvs.length ≤ 16) {L : List Rec} (hp : L.Perm (recQ r)) : srtOk L = true ∧ srt L = recQ r := by
  have hs := recQ_sb h16
  have hne : (recQ r).Pairwise (fun a b => a.1 ≠ b.1) := hs.1.imp fun h => by omega
  have hk : keysDiffer L = true := keysDiffer_of ((hp.pairwise_iff (R := fun a b => a.1 ≠ b.1) (fun h => Ne.symm h)).2 hne)
  have hle : (recQ r).Pairwise (fun a b => a.1 ≤ b.1) := hs.1.imp fun h => by omega
  refine ⟨?_,srt_unique hk hp hle⟩
  simp only [srtOk,Bool.and_eq_true,hk,decide_eq_true_eq,and_true]
  refine ⟨List.all_eq_true.2 fun q hq => ?_,?_⟩
  · have := hs.2 q (hp.mem_iff.1 hq)
    simp only [keyOk,Bool.and_eq_true,decide_eq_true_eq]
    omega
  · rw [hp.length_eq]
    unfold recQ
    simp only [List.length_append,numd_len,List.length_cons,List.length_nil]
    have := opt_len (!decide (r.key = 0)) 3 (enc1 r.key)
    have := opt_len (!decide (r.a = 0)) 5 (enc1 r.a)
    have := opt_len (!decide (r.n = 0)) 6 (enc1 r.n)
    have := opt_len (!decide (r.till = 0)) 7 (enc1 r.till)
    omega
theorem F49_pair {a b : Int} (ha : 0 ≤ a) (hb : 0 ≤ b) : F49 [a,b] = some (encI (a,b)) :=
  F49_eq (l := [a,b]) (fun n hn => by simp only [List.mem_cons,List.not_mem_nil,or_false] at hn; rcases hn with rfl | rfl <;> assumption) (by simp)
theorem lim1 {n : Nat} (h : n ≤ 1000) : decide ((n + 1) * 32 ≤ LIM) = true := decide_eq_true (by unfold LIM; omega)
theorem anyOf_intro {α R : Type} {l : List α} {f : α → List α → Option R} {r : R} (hn : l ≠ []) (h : ∀ i x,l[i]? = some x → f x (l.eraseIdx i) = some r) : anyOf l f = some r := by
  unfold anyOf
  have hh : ∃ r,l ≠ [] ∧ ∀ i x,l[i]? = some x → f x (l.eraseIdx i) = some r := ⟨r,hn,h⟩
  rw [dif_pos hh]
  have := hh.choose_spec.2
  cases l with
  | nil => exact absurd rfl hn
  | cons x t =>
    have h1 := this 0 x rfl
    rw [h 0 x rfl] at h1
    exact h1.symm
theorem erase_perm {α : Type} {l : List α} {i : Nat} (h : i < l.length) : (l[i] :: l.eraseIdx i).Perm l := by
  have e : l = l.take i ++ l[i] :: l.drop (i + 1) := by rw [← List.drop_eq_getElem_cons h,List.take_append_drop]
  rw [List.eraseIdx_eq_take_drop_succ]
  exact (List.perm_middle.symm).trans (List.Perm.of_eq e.symm)
theorem putE_len {r : Rq} {d left : List (Int×Int)} (h : (d ++ left).Perm (mapQ r)) : (putE d).length ≤ 4 := by
  have h1 := h.length_eq
  simp only [List.length_append,mapQ,List.length_cons,List.length_nil] at h1
  unfold putE
  rw [List.length_map]
  have := List.length_filter_le (fun e : Int×Int => !decide (e.2 = 0)) d
  omega
theorem F19_eq {r : Rq} (h : RqOk r) (hq : okQ r) : F19 r = some (recQ r,0) := by
  have h16 := okQ_its hq
  obtain ⟨hc16,hchk⟩ := okQ_cvs hq
  have hme := okQ_me hq
  have hme' : 1 ≤ r.2.1 ∧ r.2.1 ≤ 10 := hme
  have ewm : IntKind.wrap .u64 r.2.1 = r.2.1 := small_u64 (by omega) (by omega)
  have hE : mput (.int .u64) (.int .u64) (mput (.int .u64) (.int .u64) (mput (.int .u64) (.int .u64) (mput (.int .u64) (.int .u64) ([] : List (Int×Int)) 3 r.2.2.1) 5 r.2.2.2.2.2.2.1) 6 r.2.2.2.2.2.2.2.1) 7 r.2.2.2.2.2.2.2.2.1 = mapQ r := by
    simp [mput,eqb,mapQ]
  have hF40 : F47 (r.2.2.2.1,(r.2.2.2.2.1,r.2.2.2.2.2.1)) = some (tokB r.tok,0) := by rw [F47_eq (t := r.tok) h.tok h.l1,if_pos hq.2]
  unfold F19
  simp only [hF40,Option.bind_some,decide_true,Bool.not_true,cond_false,both_self,ewm,F49_one h.id.1,F49_one (n := r.2.1) (by omega),hE]
  simp only [List.length_append,List.length_cons,List.length_nil,lim1 (n := 0 + 1) (by omega),lim1 (n := 0 + 1 + (0 + 1)) (by omega),cond_true]
  let base : List Rec := [(4,tokB r.tok),(1,enc1 r.id),(2,enc1 r.me)]
  refine lfp_rule (fun (x : List (Int×Int)×List Rec×(Unit×Unit)) => ∃ d,(d ++ x.1).Perm (mapQ r) ∧ x.2.1 = base ++ putE d) (fun x => x.1.length) (fun _ => (recQ r,0)) ?_ _ ⟨[],by simp,by simp [putE,base]⟩
  rintro ⟨left,acc,u⟩ ⟨d,hd,hacc⟩ rec hrec
  simp only at hd hacc
  subst hacc
  have hdl := putE_len hd
  simp only
  by_cases hn : left = []
  · subst hn
    rw [List.append_nil] at hd
    have hP := recQ_perm r hd
    obtain ⟨k1,k2⟩ := srt_recQ h16 hc16 hP
    simp only [List.isEmpty_nil,cond_true]
    refine lfp_rule (fun (x : Int×List Rec×(Unit×Unit)) => ∃ i : Nat,x.1 = (i : Int) ∧ i ≤ r.its.length ∧ x.2.1 = (base ++ putE d) ++ numd encI 16 (r.its.take i)) (fun x => r.its.length - x.1.toNat) (fun _ => (recQ r,0)) ?_ _ ⟨0,rfl,by omega,by simp [numd]⟩
    rintro ⟨i',acc,u2⟩ ⟨i,hi',hi,hacc⟩ rec2 hrec2
    simp only at hi' hacc
    subst hi'
    subst hacc
    simp only
    by_cases hlt : i < r.its.length
    · have kk : ((i : Int) < (r.its.length : Int)) := by omega
      have hx := h.its _ (List.getElem_mem hlt)
      have hlen : ((base ++ putE d) ++ numd encI 16 (r.its.take i)).length ≤ 1000 := by
        simp only [List.length_append,numd_len,List.length_take,base,List.length_cons,List.length_nil]; omega
      have w1 : IntKind.wrap .u64 (32 + IntKind.wrap .u64 (i : Int)) = 32 + (i : Int) := by rw [small_u64 (n := (i : Int)) (by omega) (by omega),small_u64 (by omega) (by omega)]
      have hrd := rd_nat (t := .pair (.int .u64) (.int .u64)) hlt
      simp only [Rq.its] at kk hrd
      simp only [Rq.its] at hx
      simp only [kk,decide_true,cond_true,inb_true (Int.natCast_nonneg i) kk,hrd,F49_pair hx.1.1 hx.2.1,Option.bind_some,w1,lim1 hlen]
      rw [RB.wrap_i64 (n := (i : Int) + 1) (by omega) (by omega)]
      refine hrec2 _ ⟨i + 1,by simp,by omega,?_⟩ (by simp only; omega)
      simp only
      rw [List.take_succ_eq_append_getElem hlt,numd_snoc,List.append_assoc]
      congr 3
      have : min i r.its.length = i := by omega
      simp only [List.length_take,this,encI]
      congr 2
      omega
    · have kk : ¬ ((i : Int) < (r.its.length : Int)) := by omega
      rw [List.take_of_length_le (by omega)]
      simp only [Rq.its] at kk
      simp only [kk,decide_false,cond_false]
      refine lfp_rule (fun (x : List Rec×Int×Int×List Rec×(Unit×Unit)) => ∃ i : Nat,x.2.2.1 = (i : Int) ∧ i ≤ r.cvs.length ∧ x.2.2.2.1 = ((base ++ putE d) ++ numd encI 16 r.its) ++ numd encC 32 (r.cvs.take i)) (fun x => r.cvs.length - x.2.2.1.toNat) (fun _ => (recQ r,0)) ?_ _ ⟨0,rfl,by omega,by simp [numd]⟩
      rintro ⟨z1,z2,j',acc,u3⟩ ⟨j,hj',hj,hacc⟩ rec3 hrec3
      simp only at hj' hacc
      subst hj'
      subst hacc
      simp only
      by_cases hltj : j < r.cvs.length
      · have kk2 : ((j : Int) < (r.cvs.length : Int)) := by omega
        have hx := h.cvs _ (List.getElem_mem hltj)
        have hk0 := hchk _ (List.getElem_mem hltj)
        have hlen : (((base ++ putE d) ++ numd encI 16 r.its) ++ numd encC 32 (r.cvs.take j)).length ≤ 1000 := by
          simp only [List.length_append,numd_len,List.length_take,base,List.length_cons,List.length_nil]; omega
        have w1 : IntKind.wrap .u64 (48 + IntKind.wrap .u64 (j : Int)) = 48 + (j : Int) := by rw [small_u64 (n := (j : Int)) (by omega) (by omega),small_u64 (by omega) (by omega)]
        have hrd := rd_nat (t := .pair (.int .i64) (.pair (.int .u64) (.int .u64))) hltj
        simp only [Rq.cvs] at kk2 hrd
        simp only [Rq.cvs] at hx hk0
        simp only [Rq.its,Rq.cvs] at hlen
        simp only [kk2,decide_true,cond_true,inb_true (Int.natCast_nonneg j) kk2,hrd,Prod.eta,F50_eq hx,Option.bind_some,putC,hk0,if_true,Bool.not_true,cond_false,w1,lim1 hlen]
        rw [RB.wrap_i64 (n := (j : Int) + 1) (by omega) (by omega)]
        refine hrec3 _ ⟨j + 1,by simp,by omega,?_⟩ (by simp only; omega)
        simp only
        rw [List.take_succ_eq_append_getElem hltj,numd_snoc,List.append_assoc]
        congr 3
        have : min j r.cvs.length = j := by omega
        simp only [List.length_take,this]
        congr 2
        omega
      · have kk2 : ¬ ((j : Int) < (r.cvs.length : Int)) := by omega
        rw [List.take_of_length_le (by omega)]
        simp only [Rq.cvs] at kk2
        simp only [kk2,decide_false,cond_false]
        rw [show srtOk ((base ++ putE d) ++ numd encI 16 r.its ++ numd encC 32 r.cvs) = true from k1]
        simp only [cond_true]
        rw [show srt ((base ++ putE d) ++ numd encI 16 r.its ++ numd encC 32 r.cvs) = recQ r from k2]
  · have hie : left.isEmpty = false := by cases left <;> simp_all
    simp only [hie,cond_false]
    refine anyOf_intro hn fun i e hi => ?_
    have hilt : i < left.length := (List.getElem?_eq_some_iff.1 hi).1
    have hei : left[i] = e := (List.getElem?_eq_some_iff.1 hi).2
    have hp1 : ((d ++ [e]) ++ left.eraseIdx i).Perm (mapQ r) := by
      refine List.Perm.trans ?_ hd
      rw [List.append_assoc]
      refine List.Perm.append_left d ?_
      rw [← hei]
      exact erase_perm hilt
    have hlt2 : (left.eraseIdx i).length < left.length := by rw [List.length_eraseIdx,if_pos hilt]; omega
    have hu : e.2 = 0 ∨ 0 ≤ e.2 := by
      have hm : e ∈ mapQ r := hd.mem_iff.1 (List.mem_append_right _ (List.mem_of_getElem? hi))
      simp only [mapQ,List.mem_cons,List.not_mem_nil,or_false] at hm
      rcases hm with rfl | rfl | rfl | rfl
      · exact .inr h.key.1
      · exact .inr h.a.1
      · exact .inr h.n.1
      · exact .inr h.till.1
    have hlen : (base ++ putE d).length ≤ 1000 := by simp only [List.length_append,base,List.length_cons,List.length_nil]; omega
    by_cases he : e.2 = 0
    · simp only [he,decide_true,Bool.not_true,cond_false]
      exact hrec _ ⟨d ++ [e],hp1,by simp only; rw [putE_snoc,if_pos he,List.append_nil]⟩ hlt2
    · have he0 : 0 ≤ e.2 := by omega
      simp only [he,decide_false,Bool.not_false,cond_true,F49_one he0,Option.bind_some,lim1 hlen]
      exact hrec _ ⟨d ++ [e],hp1,by simp only; rw [putE_snoc,if_neg he,List.append_assoc]⟩ hlt2
end Go.Proofs.YtgdfhijgjjcnjaaGreatDoor.RZ
