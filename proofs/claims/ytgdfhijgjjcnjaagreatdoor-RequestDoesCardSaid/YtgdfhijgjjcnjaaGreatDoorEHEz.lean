/- Part of a proof: what the program's functions come to. -/
import Derived.Test.YtgdfhijgjjcnjaaGreatDoorEHDz
set_option linter.unusedVariables false
set_option linter.unusedSimpArgs false
namespace Go.Proofs.YtgdfhijgjjcnjaaGreatDoor.RZ
open Go Go.Fw Go.Proofs RB
set_option maxRecDepth 20000
theorem fin_zero {c : Cv} {rest : List Int} (h : (fin c rest).2 ≠ 0) : (fin c rest).1 = (0,(0,0)) := by
  unfold fin at h ⊢
  split
  · rfl
  · rename_i q; rw [if_neg q] at h; exact absurd rfl h
theorem getC2_zero {n a : Int} {b : List Int} (h : (getC2 n a b).2 ≠ 0) : (getC2 n a b).1 = (0,(0,0)) := by
  unfold getC2 at h ⊢
  split
  · rfl
  · rename_i q; rw [if_neg q] at h; exact fin_zero h
theorem getC1_zero {n : Int} {b : List Int} (h : (getC1 n b).2 ≠ 0) : (getC1 n b).1 = (0,(0,0)) := by
  unfold getC1 at h ⊢
  split
  · rfl
  · rename_i q
    rw [if_neg q] at h
    split
    · rename_i q2; rw [if_pos q2] at h; exact getC2_zero h
    · rename_i q2; rw [if_neg q2] at h; exact fin_zero h
theorem getC_zero {b : List Int} (h : (getC b).2 ≠ 0) : (getC b).1 = (0,(0,0)) := by
  unfold getC at h ⊢
  split
  · rfl
  · rename_i q
    rw [if_neg q] at h
    split
    · rfl
    · rename_i q2; rw [if_neg q2] at h; exact getC1_zero h
theorem getC_any {b : List Int} (hb : Bs b) : CvOk (getC b).1 := by
  by_cases h : (getC b).2 = 0
  · exact (getC_ok hb (d := (getC b).1) (Prod.ext rfl h)).2.1
  · rw [getC_zero h]
    exact ⟨⟨by decide,by decide⟩,⟨by decide,by decide⟩,⟨by decide,by decide⟩⟩
def itOf (q : Rec) : It := (rd (.int .u64) ((all1 q.2).1 ++ [0,0]) 0,rd (.int .u64) ((all1 q.2).1 ++ [0,0]) 1)
noncomputable def rdZ (m : List Rec) : Rq := ((numT m 1).1,(c99 (numT m 2).1,((numT m 3).1,((getK (findT m 4).1).1.1,((getK (findT m 4).1).1.2.1,((getK (findT m 4).1).1.2.2,((numT m 5).1,((numT m 6).1,((numT m 7).1,((its_ m).map itOf,(cvs_ m).map fun q => (getC q.2).1))))))))))
theorem rdZ_ok {m : List Rec} (h : ∀ r ∈ m,Bs r.2) (ho : okT m) : RqOk (rdZ m) ∧ sm (rdZ m) := by
  have h64 := ho.1
  obtain ⟨t1,t2⟩ := getK_any (findT_bs (t := 4) h ho).1
  have hc := c99_ok (numT_u64 (t := 2) h ho)
  have l1 : ((its_ m).map itOf).length ≤ 64 := by rw [List.length_map]; exact Nat.le_trans (List.length_filter_le _ _) h64
  have l2 : ((cvs_ m).map fun q => (getC q.2).1).length ≤ 64 := by rw [List.length_map]; exact Nat.le_trans (List.length_filter_le _ _) h64
  refine ⟨⟨numT_u64 h ho,⟨?_,?_⟩,numT_u64 h ho,t1,numT_u64 h ho,numT_u64 h ho,numT_u64 h ho,?_,?_,?_,?_,?_⟩,?_,?_,?_⟩
  · simp only [rdZ,Rq.me]; omega
  · simp only [rdZ,Rq.me]; omega
  · intro x hx
    simp only [rdZ,Rq.its] at hx
    obtain ⟨q,hq,rfl⟩ := List.mem_map.1 hx
    have hb := h q (List.mem_filter.1 hq).1
    have hu : ∀ n ∈ (all1 q.2).1 ++ [0,0],U64 n := fun n hn => by
      rcases List.mem_append.1 hn with hn | hn
      · exact all1_u64 hb n hn
      · simp only [List.mem_cons,List.not_mem_nil,or_false] at hn
        rcases hn with rfl | rfl <;> exact ⟨by decide,by decide⟩
    exact ⟨rd_u64 hu 0,rd_u64 hu 1⟩
  · intro c hc'
    simp only [rdZ,Rq.cvs] at hc'
    obtain ⟨q,hq,rfl⟩ := List.mem_map.1 hc'
    exact getC_any (h q (List.mem_filter.1 hq).1)
  · simp only [rdZ,Rq.tok]; omega
  · simp only [rdZ,Rq.its]; omega
  · simp only [rdZ,Rq.cvs]; omega
  · simp only [rdZ,Rq.tok]; omega
  · simp only [rdZ,Rq.its]; omega
  · simp only [rdZ,Rq.cvs]; omega
theorem its_take {m : List Rec} {i : Nat} (h : i < m.length) : its_ (m.take (i + 1)) = its_ (m.take i) ++ (if 32 ≤ m[i].1 ∧ m[i].1 < 48 then [m[i]] else []) := by
  rw [List.take_succ_eq_append_getElem h,its_app]
  congr 1
  unfold its_
  by_cases c : 32 ≤ m[i].1 ∧ m[i].1 < 48
  · rw [if_pos c]; simp [c.1,c.2]
  · rw [if_neg c]
    by_cases c1 : 32 ≤ m[i].1
    · have c2 : ¬ m[i].1 < 48 := fun q => c ⟨c1,q⟩
      simp [c1,c2]
    · simp [c1]
theorem cvs_take {m : List Rec} {i : Nat} (h : i < m.length) : cvs_ (m.take (i + 1)) = cvs_ (m.take i) ++ (if 48 ≤ m[i].1 then [m[i]] else []) := by
  rw [List.take_succ_eq_append_getElem h,cvs_app]
  congr 1
  unfold cvs_
  by_cases c : 48 ≤ m[i].1
  · rw [if_pos c]; simp [c]
  · rw [if_neg c]; simp [c]
theorem F27_eq {m : List Rec} (h : ∀ r ∈ m,Bs r.2) (hsz : ∀ r ∈ m,r.2.length ≤ 4096) (ho : okT m) : F27 m = some (rdZ m) := by
  have h64 := ho.1
  have hK := F68_eq (findT_bs (t := 4) h ho).1
  have hc := c99_ok (numT_u64 (t := 2) h ho)
  have hmin : IntKind.wrap .i64 (if 99 < (numT m 2).1 then 99 else (numT m 2).1) = c99 (numT m 2).1 := by
    have e : (if 99 < (numT m 2).1 then 99 else (numT m 2).1) = c99 (numT m 2).1 := by unfold c99; split <;> split <;> omega
    rw [e,RB.wrap_i64 (by omega) (by omega)]
  unfold F27
  simp only [F66_eq h ho,F67_eq,hK,Option.bind_some,hmin,both_self]
  refine lfp_rule (fun (x : Int×List It×List Cv×((Int×(Int×(Int×(Int×(List Cv×(Int×(Int×(Int×Int))))))))×(Unit×Unit))) => ∃ i : Nat,x.1 = (i : Int) ∧ i ≤ m.length ∧ x.2.1 = (its_ (m.take i)).map itOf ∧ x.2.2.1 = (cvs_ (m.take i)).map (fun q => (getC q.2).1) ∧ x.2.2.2.1 = ((numT m 1).1,(c99 (numT m 2).1,((numT m 3).1,((getK (findT m 4).1).1.1,((getK (findT m 4).1).1.2.1,((getK (findT m 4).1).1.2.2,((numT m 5).1,((numT m 6).1,(numT m 7).1)))))))))
    (fun x => m.length - x.1.toNat) (fun _ => rdZ m) ?_ _ ⟨0,rfl,by omega,by simp [its_],by simp [cvs_],rfl⟩
  rintro ⟨i',I,L,D,u1,u2⟩ ⟨i,hi',hi,hI,hL,hD⟩ rec hrec
  simp only at hi' hI hL hD
  subst hi'
  subst hI
  subst hL
  subst hD
  simp only
  by_cases hlt : i < m.length
  · have kk : ((i : Int) < (m.length : Int)) := by omega
    have hqb := h _ (List.getElem_mem hlt)
    have hql := hsz _ (List.getElem_mem hlt)
    have a1 := all1_len (l := m[i].2)
    have hll : ((its_ (m.take i)).map itOf).length ≤ m.length := by rw [List.length_map]; exact Nat.le_trans (List.length_filter_le _ _) (by rw [List.length_take]; omega)
    have hlc : ((cvs_ (m.take i)).map fun q => (getC q.2).1).length ≤ m.length := by rw [List.length_map]; exact Nat.le_trans (List.length_filter_le _ _) (by rw [List.length_take]; omega)
    have kI : (((its_ (m.take i)).map itOf).length + 1) * 16 ≤ LIM := by unfold LIM; omega
    have kC : (((cvs_ (m.take i)).map fun q => (getC q.2).1).length + 1) * 24 ≤ LIM := by unfold LIM; omega
    have k8 : ((all1 m[i].2).1.length + 2) * 8 ≤ LIM := by unfold LIM; omega
    have in0 : inb 0 ((all1 m[i].2).1 ++ [0,0]).length = true := inb_true (by omega) (by simp only [List.length_append,List.length_cons,List.length_nil]; omega)
    have in1 : inb 1 ((all1 m[i].2).1 ++ [0,0]).length = true := inb_true (by omega) (by simp only [List.length_append,List.length_cons,List.length_nil]; omega)
    simp only [kk,decide_true,cond_true,inb_true (Int.natCast_nonneg i) kk,rd_nat (t := tR) hlt,F69_eq hqb,F70_eq hqb (by omega),Option.bind_some,kI,kC,k8,in0,in1]
    rw [RB.wrap_i64 (n := (i : Int) + 1) (by omega) (by omega)]
    by_cases c32 : 32 ≤ m[i].1
    · by_cases c48 : m[i].1 < 48
      · have n48 : ¬ 48 ≤ m[i].1 := by omega
        simp only [c32,c48,n48,decide_true,decide_false,cond_true,cond_false]
        refine hrec _ ⟨i + 1,by simp,by omega,?_,?_,rfl⟩ (by simp only; omega)
        · simp only
          rw [its_take hlt,if_pos ⟨c32,c48⟩,List.map_append]
          rfl
        · simp only
          rw [cvs_take hlt,if_neg n48,List.append_nil]
      · have y48 : 48 ≤ m[i].1 := by omega
        simp only [c32,c48,y48,decide_true,decide_false,cond_true,cond_false]
        refine hrec _ ⟨i + 1,by simp,by omega,?_,?_,rfl⟩ (by simp only; omega)
        · simp only
          rw [its_take hlt,if_neg (fun q => c48 q.2),List.append_nil]
        · simp only
          rw [cvs_take hlt,if_pos y48,List.map_append]
          rfl
    · have n48 : ¬ 48 ≤ m[i].1 := by omega
      simp only [c32,n48,decide_true,decide_false,cond_true,cond_false]
      refine hrec _ ⟨i + 1,by simp,by omega,?_,?_,rfl⟩ (by simp only; omega)
      · simp only
        rw [its_take hlt,if_neg (fun q => c32 q.1),List.append_nil]
      · simp only
        rw [cvs_take hlt,if_neg n48,List.append_nil]
  · have kk : ¬ ((i : Int) < (m.length : Int)) := by omega
    rw [List.take_of_length_le (by omega)]
    simp only [kk,decide_false,cond_false]
    rfl
theorem recQ_its_ {r : Rq} (hi : r.its.length ≤ 16) : its_ (recQ r) = numd encI 16 r.its := by
  unfold recQ
  simp only [its_app]
  rw [its_opt _ _ (by decide),its_opt _ _ (by decide),its_opt _ _ (by decide),its_opt _ _ (by decide),its_I hi,its_C]
  simp [its_]
theorem recQ_cvs_ {r : Rq} (hi : r.its.length ≤ 16) : cvs_ (recQ r) = numd encC 32 r.cvs := by
  unfold recQ
  simp only [cvs_app]
  rw [cvs_opt _ _ (by decide),cvs_opt _ _ (by decide),cvs_opt _ _ (by decide),cvs_opt _ _ (by decide),cvs_I hi,cvs_C]
  simp [cvs_]
theorem itOf_enc {x : It} {t : Int} (h : U64 x.1 ∧ U64 x.2) : itOf (t,encI x) = x := by
  unfold itOf
  have ha : all1 (encI x) = ([x.1,x.2],0) := by
    unfold encI
    refine all1_enc ?_ (by simp)
    intro n hn
    simp only [List.mem_cons,List.not_mem_nil,or_false] at hn
    rcases hn with rfl | rfl
    · exact h.1
    · exact h.2
  simp only [ha]
  rfl
theorem map_its : ∀ {l : List It} (i : Nat),(∀ x ∈ l,U64 x.1 ∧ U64 x.2) → (numd encI i l).map itOf = l
  | [],_,_ => rfl
  | x :: l,i,h => by
    rw [numd,List.map_cons,itOf_enc (h x (by simp)),map_its (i + 1) (fun y hy => h y (List.mem_cons_of_mem _ hy))]
theorem map_cvs : ∀ {l : List Cv} (i : Nat),(∀ x ∈ l,CvOk x ∧ chk x = 0) → (numd encC i l).map (fun q => (getC q.2).1) = l
  | [],_,_ => rfl
  | x :: l,i,h => by
    obtain ⟨h1,h2⟩ := h x (by simp)
    have := getC_enc h1 h2 []
    rw [List.append_nil,if_pos rfl] at this
    rw [numd,List.map_cons,map_cvs (i + 1) (fun y hy => h y (List.mem_cons_of_mem _ hy))]
    simp only [this]
theorem num_of {r : Rq} (k : okQ r) {t n : Int} (hn : U64 n) (h1 : n ≠ 0 → (t,enc1 n) ∈ recQ r) (h0 : n = 0 → ∀ q ∈ recQ r,q.1 ≠ t) : (numT (recQ r) t).1 = n := by
  have ho := recQ_okT k
  by_cases c : n = 0
  · rw [numT_none ho (look_no (h0 c)),c]
  · rw [numT_enc ho hn (look_in ho.2.2 (h1 c))]
theorem recQ_no {r : Rq} {t : Int} (ht : t < 16) (h1 : t ≠ 1) (h2 : t ≠ 2) (h4 : t ≠ 4) (h3 : t = 3 → r.key = 0) (h5 : t = 5 → r.a = 0) (h6 : t = 6 → r.n = 0) (h7 : t = 7 → r.till = 0) : ∀ q ∈ recQ r,q.1 ≠ t := by
  intro q hq he
  unfold recQ at hq
  simp only [List.mem_append,List.mem_cons,List.not_mem_nil,or_false] at hq
  have oz : ∀ {c : Bool} {s : Int} {v : List Int},q ∈ opt c s v → c = true ∧ q.1 = s := by
    intro c s v hh
    cases c <;> simp [opt] at hh
    exact ⟨rfl,by rw [hh]⟩
  rcases hq with (((((((hq | hq) | hq) | hq) | hq) | hq) | hq) | hq) | hq
  · rw [hq] at he; exact h1 he.symm
  · rw [hq] at he; exact h2 he.symm
  · obtain ⟨q1,q2⟩ := oz hq
    have := h3 (by omega)
    simp [this] at q1
  · rw [hq] at he; exact h4 he.symm
  · obtain ⟨q1,q2⟩ := oz hq
    have := h5 (by omega)
    simp [this] at q1
  · obtain ⟨q1,q2⟩ := oz hq
    have := h6 (by omega)
    simp [this] at q1
  · obtain ⟨q1,q2⟩ := oz hq
    have := h7 (by omega)
    simp [this] at q1
  · have := (numd_mem encI _ _ _ hq).2.1; omega
  · have := (numd_mem encC _ _ _ hq).2.1; omega
theorem opt_in {t n : Int} (h : n ≠ 0) : ((t,enc1 n) : Rec) ∈ opt (!decide (n = 0)) t (enc1 n) := by simp [opt,h]
theorem rdZ_recQ {r : Rq} (h : RqOk r) (k : okQ r) : rdZ (recQ r) = r := by
  have hi := okQ_its k
  obtain ⟨hc,hck⟩ := okQ_cvs k
  have hme := okQ_me k
  have ho := recQ_okT k
  have n1 : (numT (recQ r) 1).1 = r.id := by rw [numT_enc ho h.id (look_in ho.2.2 (by simp [recQ]))]
  have n2 : (numT (recQ r) 2).1 = r.me := by rw [numT_enc (n := r.me) ho ⟨by omega,by omega⟩ (look_in ho.2.2 (by simp [recQ]))]
  have n3 : (numT (recQ r) 3).1 = r.key := num_of k h.key (fun q => by have := opt_in (t := 3) q; simp [recQ,this]) (fun q => recQ_no (by decide) (by decide) (by decide) (by decide) (fun _ => q) (fun w => absurd w (by decide)) (fun w => absurd w (by decide)) (fun w => absurd w (by decide)))
  have n5 : (numT (recQ r) 5).1 = r.a := num_of k h.a (fun q => by have := opt_in (t := 5) q; simp [recQ,this]) (fun q => recQ_no (by decide) (by decide) (by decide) (by decide) (fun w => absurd w (by decide)) (fun _ => q) (fun w => absurd w (by decide)) (fun w => absurd w (by decide)))
  have n6 : (numT (recQ r) 6).1 = r.n := num_of k h.n (fun q => by have := opt_in (t := 6) q; simp [recQ,this]) (fun q => recQ_no (by decide) (by decide) (by decide) (by decide) (fun w => absurd w (by decide)) (fun w => absurd w (by decide)) (fun _ => q) (fun w => absurd w (by decide)))
  have n7 : (numT (recQ r) 7).1 = r.till := num_of k h.till (fun q => by have := opt_in (t := 7) q; simp [recQ,this]) (fun q => recQ_no (by decide) (by decide) (by decide) (by decide) (fun w => absurd w (by decide)) (fun w => absurd w (by decide)) (fun w => absurd w (by decide)) (fun _ => q))
  have f4 : (findT (recQ r) 4).1 = tokB r.tok := by
    unfold findT
    rw [if_pos ho,look_in ho.2.2 (v := tokB r.tok) (by simp [recQ])]
  have hT := getK_enc h.tok k.2
  have hc9 : c99 r.me = r.me := by unfold c99; rw [if_pos (by omega)]
  unfold rdZ
  rw [n1,n2,n3,n5,n6,n7,f4,hT,hc9,recQ_its_ hi,recQ_cvs_ hi,map_its _ h.its,map_cvs _ (fun x hx => ⟨h.cvs x hx,hck x hx⟩)]
open Classical in
theorem F9_eq {b : List Int} (hb : Bs b) : F9 b = some (getQ b) := by
  unfold F9
  by_cases hl : 4096 < b.length
  · have : (4096 : Int) < (b.length : Int) := by omega
    simp only [this,decide_true,cond_true]
    unfold getQ
    rw [if_pos hl]
    rfl
  · have hl' : ¬ (4096 : Int) < (b.length : Int) := by omega
    simp only [hl',decide_false,cond_false,F26_eq hb,Option.bind_some]
    by_cases h0 : (getT b).2 = 0
    · have hok := getT_ok (m := (getT b).1) hb (by rw [← h0])
      obtain ⟨hv,ho,hp⟩ := hok
      have hbs : ∀ r ∈ (getT b).1,Bs r.2 := fun r hr => (hv r hr).2
      obtain ⟨k1,k2⟩ := rdZ_ok hbs ho
      have e7 : F7 ((rdZ (getT b).1).1,((rdZ (getT b).1).2.1,((rdZ (getT b).1).2.2.1,((rdZ (getT b).1).2.2.2.1,((rdZ (getT b).1).2.2.2.2.1,((rdZ (getT b).1).2.2.2.2.2.1,((rdZ (getT b).1).2.2.2.2.2.2.1,((rdZ (getT b).1).2.2.2.2.2.2.2.1,((rdZ (getT b).1).2.2.2.2.2.2.2.2.1,((rdZ (getT b).1).2.2.2.2.2.2.2.2.2.1,(rdZ (getT b).1).2.2.2.2.2.2.2.2.2.2)))))))))) = some (if okQ (rdZ (getT b).1) then (recB (rdZ (getT b).1),0) else ([],1)) := F7_eq k1 k2
      simp only [h0,decide_true,Bool.not_true,cond_false,F27_eq hbs (fun q hq => ho.2.1 q hq) ho,Option.bind_some,e7]
      have hyes : okQ (rdZ (getT b).1) → recB (rdZ (getT b).1) = b → getQ b = (rdZ (getT b).1,0) := fun q1 q2 => by
        have := getQ_enc k1 q1
        rw [q2] at this
        exact this
      have hno : ¬ (okQ (rdZ (getT b).1) ∧ recB (rdZ (getT b).1) = b) → getQ b = (zQ,2) := fun hn => by
        refine getQ_bad (b := b) (by omega) fun hg => hn ?_
        obtain ⟨o1,o2,o3⟩ := getQ_ok hb hg
        have hT : getT b = (recQ (getQ b).1,0) := by
          have hlen := recB_len o2
          have := getT_enc (recQ_okV o1 o2) (recQ_okT o2) (by unfold recB at hlen; omega)
          rw [show (recQ (getQ b).1).flatMap encR = b from o3] at this
          exact this
        have hr : rdZ (getT b).1 = (getQ b).1 := by
          rw [hT]; exact rdZ_recQ o1 o2
        rw [hr]
        exact ⟨o2,o3⟩
      generalize rdZ (getT b).1 = x at hyes hno ⊢
      by_cases k : okQ x
      · by_cases e : recB x = b
        · rw [hyes k e]
          simp only [k,if_true,e,decide_true,Bool.not_true,beq_self_eq_true,cond_true,cond_false]
        · rw [hno (fun q => e q.2)]
          simp only [k,if_true,e,decide_true,decide_false,Bool.not_true,Bool.not_false,beq_self_eq_true,cond_true]
          rfl
      · rw [hno (fun q => k q.1)]
        simp only [k,if_false,show decide ((1 : Int) = 0) = false from rfl,Bool.not_false,show (true == false) = false from rfl,cond_false]
        rfl
    · have hg : (getQ b).2 ≠ 0 := by
        unfold getQ
        rw [if_neg hl]
        unfold finQ
        split
        · simp
        · rw [if_neg (fun q => h0 q.1)]; simp
      rw [getQ_bad (b := b) (by omega) hg]
      simp only [h0,decide_false,Bool.not_false,cond_true]
      rfl
end Go.Proofs.YtgdfhijgjjcnjaaGreatDoor.RZ
