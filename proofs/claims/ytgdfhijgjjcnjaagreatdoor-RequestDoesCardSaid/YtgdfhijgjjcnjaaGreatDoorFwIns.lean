/- Entries that go into one map in whatever order. -/
import Derived.Test.YtgdfhijgjjcnjaaGreatDoorFwAgree
import Derived.Test.YtgdfhijgjjcnjaaGreatDoorFwTab
set_option linter.unusedVariables false
set_option linter.unusedSimpArgs false
namespace Go.Fw

noncomputable def insO (P : Program) (o : Oper) (st : St) : Option St := match o.op with
  | .insert _ (.tmp m) (.const (.int .u64 q)) (.tmp v) => (match st.get m,st.get v with
    | .mown n,.ptr k off => (match st.obj n with
      | some (.pm l) => bif l.any fun e => decide (e.1 = q) then none else some (st.setO n (.pm (pins l q (k,off))))
      | _ => none)
    | _,_ => none)
  | _ => none
theorem insOf_spec {P : Program} {o : Oper} {m : Nat} {q : Int} (h : insOf P o = some (m,q)) : ∃ t v,o.op = .insert t (.tmp m) (.const (.int .u64 q)) (.tmp v) ∧ pmOf P t = true ∧ o.dst = none ∧ o.guard = none ∧ (Lit.int .u64 q).wf = true := by
  unfold insOf at h
  split at h
  · rename_i t m' q' v hop
    cases hc : (pmOf P t && o.dst.isNone && o.guard.isNone && (Lit.int .u64 q').wf) with
    | false => rw [hc] at h; simp at h
    | true =>
      rw [hc] at h
      simp only [cond_true,Option.some.injEq,Prod.mk.injEq] at h
      obtain ⟨rfl,rfl⟩ := h
      simp only [Bool.and_eq_true,Option.isNone_iff_eq_none] at hc
      exact ⟨t,v,hop,hc.1.1.1,hc.1.1.2,hc.1.2,hc.2⟩
  · simp at h
theorem evOpI_ins {C : Ctx} {R : Type} {ops : Array Oper} {o : Oper} {m : Nat} {q : Int} (h : insOf C.P o = some (m,q)) (st : St) (K : St → Option R) :
    evOpI C ops o st K = match insO C.P o st with | some st' => K st' | none => none := by
  obtain ⟨t,v,hop,hpm,hd,hg,hwf⟩ := insOf_spec h
  have hi : inlOf C st o = none := by simp only [inlOf,hop]
  have hp : pureOp C.P st o = none := by simp only [pureOp,hop]
  unfold evOpI
  rw [hi]
  simp only
  unfold evOp
  rw [hd,hg]
  simp only [gdOn,cond_false,hp,actOp,hop,hpm,cond_true,operand,hwf,hd,insO]
  unfold pmPut
  cases hm : st.get m <;> try rfl
  rename_i n
  cases hv : st.get v <;> try rfl
  rename_i k off
  simp only
  cases ho : st.obj n with
  | none => rfl
  | some ob =>
    cases ob <;> try rfl
    rename_i l
    simp only
    cases l.any fun e => decide (e.1 = q) <;> rfl
theorem takesM_ins {P : Program} {ops : Array Oper} {lm : Nat} {st : St} {x : Nat×Oper×Nat} {m : Nat} {q : Int} (h : insOf P x.2.1 = some (m,q)) : takesM P ops lm st x = false := by
  obtain ⟨t,v,hop,hpm,hd,hg,hwf⟩ := insOf_spec h
  unfold takesM
  have h1 : memFree x.2.1 = false := by simp only [memFree,hop]
  have h2 : loadFree P ops st x.2.1 = false := by
    simp only [loadFree,hg,slotFree,cptrOp,hop,pureOp,Bool.false_and,Bool.or_self]
  rw [h1,h2]; simp
theorem pins_any (p q : Int) (v : Nat×Nat) : ∀ l : List (Int×(Nat×Nat)),((pins l p v).any fun e => decide (e.1 = q)) = (decide (p = q) || l.any fun e => decide (e.1 = q))
  | [] => by simp [pins]
  | e :: r => by
    unfold pins
    cases decide (p < e.1) with
    | true => simp
    | false =>
      simp only [cond_false,List.any_cons,pins_any p q v r]
      cases decide (e.1 = q) <;> cases decide (p = q) <;> rfl
theorem pins_swap {p q : Int} (hpq : p ≠ q) (v w : Nat×Nat) : ∀ l : List (Int×(Nat×Nat)),pins (pins l p v) q w = pins (pins l q w) p v
  | [] => by
    unfold pins
    by_cases h : q < p
    · have h2 : ¬ p < q := by omega
      simp [pins,h,h2]
    · have h2 : p < q := by omega
      simp [pins,h,h2]
  | e :: r => by
    have ih := pins_swap hpq v w r
    by_cases h1 : p < e.1 <;> by_cases h2 : q < e.1
    · by_cases h : q < p
      · have h3 : ¬ p < q := by omega
        simp [pins,h1,h2,h,h3]
      · have h3 : p < q := by omega
        simp [pins,h1,h2,h,h3]
    · have h3 : ¬ q < p := by omega
      simp [pins,h1,h2,h3]
    · have h3 : ¬ p < q := by omega
      simp [pins,h1,h2,h3]
    · simp [pins,h1,h2,ih]
theorem setOL_setOL (k : Nat) (a a' b : Ob) : ∀ l : List (Nat×Nat×Ob),St.setOL (St.setOL l k a) k b = St.setOL (St.setOL l k a') k b
  | [] => rfl
  | (i,v,o) :: r => by
    simp only [St.setOL]
    cases h : Nat.beq i k with
    | true => simp [St.setOL,h]
    | false => simp [St.setOL,h,setOL_setOL k a a' b r]
theorem get_setO (st : St) (k : Nat) (o : Ob) (i : Nat) : (st.setO k o).get i = st.get i := rfl
theorem insO_swap {P : Program} {o1 o2 : Oper} {m : Nat} {p q : Int} (h1 : insOf P o1 = some (m,p)) (h2 : insOf P o2 = some (m,q)) (hpq : p ≠ q) {st s1 s2 : St} (e1 : insO P o1 st = some s1) (e2 : insO P o2 s1 = some s2) :
    ∃ s1',insO P o2 st = some s1' ∧ insO P o1 s1' = some s2 := by
  obtain ⟨t1,v1,hop1,_⟩ := insOf_spec h1
  obtain ⟨t2,v2,hop2,_⟩ := insOf_spec h2
  simp only [insO,hop1] at e1
  split at e1
  · rename_i n k off hm hv
    split at e1
    · rename_i l ho
      cases ha : l.any fun e => decide (e.1 = p) with
      | true => rw [ha] at e1; simp at e1
      | false =>
        rw [ha] at e1
        simp only [cond_false,Option.some.injEq] at e1
        subst e1
        have hob : ∀ A,(st.setO n A).obj n = some A := fun A => by rw [obj_setO,if_pos rfl,ho]; rfl
        simp only [insO,hop2,get_setO,hm,hob] at e2
        split at e2
        · rename_i n' k2 off2 hn hv2
          simp only [PV.mown.injEq] at hn
          subst hn
          rw [hob] at e2
          simp only at e2
          rw [pins_any] at e2
          have hne : decide (p = q) = false := decide_eq_false hpq
          rw [hne,Bool.false_or] at e2
          cases hb : l.any fun e => decide (e.1 = q) with
          | true => rw [hb] at e2; simp at e2
          | false =>
            rw [hb] at e2
            simp only [cond_false,Option.some.injEq] at e2
            subst e2
            refine ⟨st.setO n (.pm (pins l q (k2,off2))),?_,?_⟩
            · simp only [insO,hop2,hm,hv2,ho,hb,cond_false]
            · have hne2 : decide (q = p) = false := decide_eq_false fun h => hpq h.symm
              simp only [insO,hop1,get_setO,hm,hv,hob,pins_any,hne2,Bool.false_or,ha,cond_false]
              rw [pins_swap hpq]
              unfold St.setO
              simp only [Option.some.injEq]
              congr 1
              exact setOL_setOL n _ _ _ _
        · simp at e2
    · simp at e1
  · simp at e1

theorem allOf_mem {R α : Type} {f : α → Option R} {r : R} : ∀ {l : List α},allOf f l = some r → ∀ i ∈ l,f i = some r
  | [],h,_,_ => by simp [allOf] at h
  | [i],h,j,hj => by simp at hj; subst hj; exact h
  | i :: j :: l,h,k,hk => by
    obtain ⟨h1,h2⟩ := both_some (show both (f i) (allOf f (j :: l)) = some r from h)
    rcases List.mem_cons.1 hk with rfl | hk
    · exact h1
    · exact allOf_mem h2 k hk
noncomputable def insI (P : Program) (ops : Array Oper) (i : Nat) (st : St) : Option St := match ops[i]? with | some o => insO P o st | none => none
noncomputable def insT (P : Program) (ops : Array Oper) : List Nat → St → Option St
  | [],st => some st
  | i :: r,st => match insI P ops i st with | some s => insT P ops r s | none => none
structure Ins (P : Program) (ops : Array Oper) (m : Nat) (T : List Nat) : Prop where
  is : ∀ i ∈ T,∃ o q,ops[i]? = some o ∧ insOf P o = some (m,q)
  ne : ∀ i ∈ T,∀ j ∈ T,i ≠ j → ∀ o o' q q',ops[i]? = some o → ops[j]? = some o' → insOf P o = some (m,q) → insOf P o' = some (m,q') → q ≠ q'
theorem Ins.sub {P : Program} {ops : Array Oper} {m : Nat} {T T' : List Nat} (h : Ins P ops m T) (hs : ∀ i ∈ T',i ∈ T) : Ins P ops m T' :=
  ⟨fun i hi => h.is i (hs i hi),fun i hi j hj => h.ne i (hs i hi) j (hs j hj)⟩
theorem insT_take {P : Program} {ops : Array Oper} {m : Nat} : ∀ {T : List Nat} {st s : St} {x : Nat},Ins P ops m T → x ∈ T → insT P ops T st = some s → ∃ s1,insI P ops x st = some s1 ∧ insT P ops (T.erase x) s1 = some s
  | [],_,_,_,_,hx,_ => by simp at hx
  | a :: r,st,s,x,h,hx,hs => by
    by_cases hax : a = x
    · subst hax
      rw [List.erase_cons_head]
      simp only [insT] at hs
      split at hs
      · rename_i s1 h1; exact ⟨s1,h1,hs⟩
      · simp at hs
    · have hxr : x ∈ r := by
        rcases List.mem_cons.1 hx with hh | hh
        · exact absurd hh.symm hax
        · exact hh
      simp only [insT] at hs
      split at hs
      · rename_i sa ha
        obtain ⟨sax,h1,h2⟩ := insT_take (h.sub fun i hi => List.mem_cons_of_mem _ hi) hxr hs
        obtain ⟨oa,p,g1,g2⟩ := h.is a (by simp)
        obtain ⟨ox,q,g3,g4⟩ := h.is x hx
        have hpq := h.ne a (by simp) x hx hax _ _ _ _ g1 g3 g2 g4
        simp only [insI,g1] at ha
        simp only [insI,g3] at h1
        obtain ⟨sx,k1,k2⟩ := insO_swap g2 g4 hpq ha h1
        refine ⟨sx,by simp only [insI,g3]; exact k1,?_⟩
        rw [List.erase_cons_tail (by simpa using hax)]
        simp only [insT,insI,g1,k2]
        exact h2
      · simp at hs
def lorT (lm : Nat) : List Nat → Nat
  | [] => lm
  | i :: r => lorT (Nat.lor lm (2 ^ i)) r
theorem lor_swap (a b c : Nat) : Nat.lor (Nat.lor a b) c = Nat.lor (Nat.lor a c) b := by
  show (a ||| b) ||| c = (a ||| c) ||| b
  rw [Nat.or_assoc,Nat.or_comm b c,← Nat.or_assoc]
theorem lorT_take : ∀ {T : List Nat} {lm x : Nat},x ∈ T → lorT (Nat.lor lm (2 ^ x)) (T.erase x) = lorT lm T
  | [],_,_,hx => by simp at hx
  | a :: r,lm,x,hx => by
    by_cases hax : a = x
    · subst hax; rw [List.erase_cons_head]; rfl
    · have hxr : x ∈ r := by
        rcases List.mem_cons.1 hx with hh | hh
        · exact absurd hh.symm hax
        · exact hh
      rw [List.erase_cons_tail (by simpa using hax)]
      simp only [lorT]
      rw [lor_swap]
      exact lorT_take hxr
theorem readyM_get {lm : Nat} : ∀ {l : List Oper} {i : Nat} {t : List Nat} {x : Nat×Oper×Nat},x ∈ readyM lm i l t → ∃ j,x.1 = i + j ∧ l[j]? = some x.2.1
  | [],i,t,x,h => by cases t <;> simp [readyM] at h
  | o :: r,i,[],x,h => by simp [readyM] at h
  | o :: r,i,[_],x,h => by simp [readyM] at h
  | o :: r,i,d :: c :: t,x,h => by
    unfold readyM at h
    have rest : x ∈ readyM lm (i + 1) r t → ∃ j,x.1 = i + j ∧ (o :: r)[j]? = some x.2.1 := fun hx => by
      obtain ⟨j,h1,h2⟩ := readyM_get hx
      exact ⟨j + 1,by omega,by simpa using h2⟩
    cases hc : (Nat.beq (Nat.land lm (2 ^ i)) 0 && Nat.beq (Nat.land d lm) d) with
    | true =>
      rw [hc,cond_true,List.mem_cons] at h
      rcases h with rfl | h
      · exact ⟨0,rfl,rfl⟩
      · exact rest h
    | false => rw [hc,cond_false] at h; exact rest h
theorem readyM_op {ops : Array Oper} {lm : Nat} {t : List Nat} {x : Nat×Oper×Nat} (h : x ∈ readyM lm 0 ops.toList t) : ops[x.1]? = some x.2.1 := by
  obtain ⟨j,h1,h2⟩ := readyM_get h
  rw [show x.1 = j by omega]
  simpa using h2
section
variable {C : Ctx} {R : Type} {ops : Array Oper} {tab : List Nat} {r : R} {m : Nat}
theorem insOnly_step {n lm : Nat} {T : List Nat} (h : insOnly C.P ops tab m (n + 1) lm T = true) :
    (readyM lm 0 ops.toList tab).map (·.1) = T ∧ (∀ x ∈ readyM lm 0 ops.toList tab,∃ q,insOf C.P x.2.1 = some (m,q)) ∧ ∀ i ∈ T,insOnly C.P ops tab m n (Nat.lor lm (2 ^ i)) (T.erase i) = true := by
  unfold insOnly at h
  simp only [Bool.and_eq_true,List.all_eq_true,beq_iff_eq] at h
  refine ⟨h.1.1,fun x hx => ?_,h.2⟩
  have := h.1.2 x hx
  split at this
  · rename_i m' q hq
    rw [beq_true.1 this] at hq
    exact ⟨q,hq⟩
  · simp at this
theorem ins_one {K : St → Option R} : ∀ (j : Nat) {n lm : Nat} {T : List Nat} {st : St},T.length = j → insOnly C.P ops tab m j lm T = true → evAnyJ C ops tab n j lm st K = some r →
    ∃ s,j ≤ n ∧ insT C.P ops T st = some s ∧ evAnyJ C ops tab (n - j) 0 (lorT lm T) s K = some r
  | 0,n,lm,T,st,hT,h,hr => by
    have : T = [] := List.eq_nil_of_length_eq_zero hT
    subst this
    exact ⟨st,Nat.zero_le _,rfl,hr⟩
  | j + 1,n,lm,T,st,hT,h,hr => by
    obtain ⟨h1,h2,h3⟩ := insOnly_step h
    have hne : readyM lm 0 ops.toList tab ≠ [] := fun hL => by
      rw [hL] at h1
      simp only [List.map_nil] at h1
      subst h1
      simp at hT
    cases n with
    | zero =>
      unfold evAnyJ at hr
      split at hr
      · rename_i hL; exact absurd hL hne
      · simp at hr
    | succ n =>
    unfold evAnyJ at hr
    cases hL : readyM lm 0 ops.toList tab with
    | nil => exact absurd hL hne
    | cons x xs =>
      rw [hL] at hr
      simp only at hr
      have hx' : x ∈ readyM lm 0 ops.toList tab := by rw [hL]; simp
      obtain ⟨q,hq⟩ := h2 x hx'
      have hTx : T = x.1 :: T.erase x.1 := by
        rw [hL,List.map_cons] at h1
        rw [← h1,List.erase_cons_head]
      have hxT : x.1 ∈ T := by rw [hTx]; simp
      rw [evOpI_ins hq] at hr
      split at hr
      · rename_i s1 hs1
        obtain ⟨s,k0,k1,k2⟩ := ins_one j (T := T.erase x.1) (by rw [List.length_erase_of_mem hxT]; omega) (h3 _ hxT) hr
        refine ⟨s,by omega,?_,?_⟩
        · rw [hTx]
          simp only [insT,insI,readyM_op hx',hs1,List.erase_cons_head]
          exact k1
        · rw [lorT_take hxT] at k2
          rw [show n + 1 - (j + 1) = n - j by omega]
          exact k2
      · simp at hr
theorem insApart_spec {P : Program} : ∀ {L : List (Nat×Oper×Nat)},insApart P L = true → L.Pairwise fun x y => ∀ m m' p q,insOf P x.2.1 = some (m,p) → insOf P y.2.1 = some (m',q) → p ≠ q
  | [],_ => List.Pairwise.nil
  | x :: r,h => by
    unfold insApart at h
    simp only [Bool.and_eq_true,List.all_eq_true] at h
    refine List.Pairwise.cons (fun y hy m m' p q h1 h2 => ?_) (insApart_spec h.2)
    have := h.1 y hy
    rw [h1,h2] at this
    simpa using this
end
section
variable {C : Ctx} {ops : Array Oper} {tab : List Nat} {mm : Nat} {m : MM} {w0 : World} {Q : Exit → Act → World → Prop}
theorem readyL_mem {lm : Nat} {listed : List Bool} (hM : Mask ops lm listed) (ht : tabGo ops 0 ops.toList tab = true) {i : Nat} (hi : i ∈ readyL ops listed) : ∃ x ∈ readyM lm 0 ops.toList tab,x.1 = i := by
  rw [readyL_eq hM ht] at hi
  exact List.mem_map.1 hi
theorem ins_sound (hS : C.Owed) (hns : Region.noSelect ops = true) (hQ : ∀ ch a w,¬ Q (.panic ch) a w) (hG : C.GlobM m w0) (ht : tabGo ops 0 ops.toList tab = true) {s : St} {n : Nat} : ∀ (j : Nat) {lm : Nat} {listed : List Bool} {T : List Nat} {st : St} {a : Act} {c : Cx},
    Mask ops lm listed → T.length = j → insOnly C.P ops tab mm j lm T = true → Ins C.P ops mm T → insT C.P ops T st = some s → Rep m w0 st a c →
    (∀ (listed' : List Bool) (a' : Act) (c' : Cx),Mask ops (lorT lm T) listed' → Rep m w0 s a' c' → wpAnyH C.P .any ops Q (Kept m.w w0) n listed'.toArray a' c'.w) →
    wpAnyH C.P .any ops Q (Kept m.w w0) (n + j) listed.toArray a c.w
  | 0,lm,listed,T,st,a,c,hM,hT,h,hi,hs,hrep,hk => by
    have : T = [] := List.eq_nil_of_length_eq_zero hT
    subst this
    simp only [insT,Option.some.injEq] at hs
    subst hs
    exact hk _ _ _ hM hrep
  | j + 1,lm,listed,T,st,a,c,hM,hT,h,hi,hs,hrep,hk => by
    obtain ⟨h1,h2,h3⟩ := insOnly_step h
    have hTL : readyL ops listed = T := by rw [readyL_eq hM ht,h1]
    show wpAnyH C.P .any ops Q (Kept m.w w0) ((n + j) + 1) listed.toArray a c.w
    refine wpAnyH_all rfl (fun he => ?_) (fun i hii => ?_)
    · have : readyL ops listed = [] := by simpa [readyL] using he
      rw [hTL] at this
      rw [this] at hT
      simp at hT
    · have hiL : i ∈ readyL ops listed := by simpa [readyL] using hii
      obtain ⟨y,hy,rfl⟩ := readyL_mem hM ht hiL
      have hyT : y.1 ∈ T := by rw [← hTL]; exact hiL
      have hop := readyM_op hy
      obtain ⟨q,hq⟩ := h2 y hy
      obtain ⟨s1,g1,g2⟩ := insT_take hi hyT hs
      simp only [insI,hop] at g1
      unfold wpOp
      rw [hop]
      simp only
      have hlt : y.1 < ops.size := (Array.getElem?_eq_some_iff.1 hop).1
      open Classical in
      let K : St → Option Unit := fun st' => if insT C.P ops (T.erase y.1) st' = some s then some () else none
      have hri : evOpI C ops y.2.1 st K = some () := by
        rw [evOpI_ins hq,g1]
        simp only [K,g2,if_true]
      have key := evOpI_sound (Q := Q) (next := fun a' w' => Kept m.w w0 w' ∧ wpAnyH C.P .any ops Q (Kept m.w w0) (n + j) (listed.set y.1 true).toArray a' w') ⟨hS,hG⟩ (ops := ops) hrep hri (fun st' a' c' hk' h' => by
        have hst : insT C.P ops (T.erase y.1) st' = some s := by
          simp only [K] at hk'
          split at hk'
          · assumption
          · simp at hk'
        refine ⟨h'.kept,ins_sound hS hns hQ hG ht j (hM.set hlt) (by rw [List.length_erase_of_mem hyT]; omega) (h3 _ hyT) (hi.sub fun i hi => List.mem_of_mem_erase hi) hst h' ?_⟩
        rw [lorT_take hyT]
        exact hk)
      split
      · rename_i hw; rw [if_pos hw] at key; exact .inl (by simpa using key)
      · rename_i hw; rw [if_neg hw] at key; simpa using key
theorem Ins.of {L : List (Nat×Oper×Nat)} (hL : ∀ x ∈ L,ops[x.1]? = some x.2.1) (h1 : insApart C.P L = true) (h2 : ∀ x ∈ L,∃ q,insOf C.P x.2.1 = some (mm,q)) : Ins C.P ops mm (L.map (·.1)) := by
  refine ⟨fun i hi => ?_,fun i hi j hj hij o o' q q' e1 e2 e3 e4 => ?_⟩
  · obtain ⟨x,hx,rfl⟩ := List.mem_map.1 hi
    obtain ⟨q,hq⟩ := h2 x hx
    exact ⟨_,q,hL x hx,hq⟩
  · obtain ⟨x,hx,rfl⟩ := List.mem_map.1 hi
    obtain ⟨y,hy,rfl⟩ := List.mem_map.1 hj
    rw [hL x hx] at e1
    rw [hL y hy] at e2
    simp only [Option.some.injEq] at e1 e2
    subst e1
    subst e2
    have hp := insApart_spec h1
    let Rl : (Nat×Oper×Nat) → (Nat×Oper×Nat) → Prop := fun x y => x ≠ y → ∀ m m' p q,insOf C.P x.2.1 = some (m,p) → insOf C.P y.2.1 = some (m',q) → p ≠ q
    have p1 : L.Pairwise Rl := hp.imp (by intro a b h _; exact h)
    have p2 : L.Pairwise (flip Rl) := hp.imp (by intro a b h _ m m' p q h1 h2 he; exact h _ _ _ _ h2 h1 he.symm)
    have this : Rl x y := List.Pairwise.forall_of_forall_of_flip (fun x _ hne => absurd rfl hne) p1 p2 hx hy
    have this := this (fun he => hij (by rw [he]))
    exact this _ _ _ _ e3 e4
theorem take_sound {R : Type} {K : St → Option R} {r : R} (hS : C.Owed) (hns : Region.noSelect ops = true) (hQ : ∀ ch a w,¬ Q (.panic ch) a w) {n : Nat} {listed : List Bool} {st : St} {a : Act} {c : Cx} {i : Nat} {o : Oper} (hG : C.GlobM m w0) (h : Rep m w0 st a c)
    (hi : ops[i]? = some o) (hmem : i ∈ readyL ops listed) (htk : takes C.P ops listed st i = true) (hr : evOpI C ops o st K = some r)
    (hn : ∀ st' a' c',C.GlobM ⟨Mine c,c.ok,c.pin,c.a⟩ c.w → K st' = some r → Rep ⟨Mine c,c.ok,c.pin,c.a⟩ c.w st' a' c' → wpAnyH C.P .any ops Q (Kept (Mine c) c.w) n (listed.set i true).toArray a' c'.w) :
    wpAnyH C.P .any ops Q (Kept m.w w0) (n + 1) listed.toArray a c.w := by
  unfold takes at htk
  rw [hi] at htk
  simp only [Bool.and_eq_true,Bool.or_eq_true] at htk hr
  rw [evOpI_take C ops htk.1] at hr
  have hh := h.here
  have hGh : C.GlobM ⟨Mine c,c.ok,c.pin,c.a⟩ c.w := fun g t l hg => hG.at h hg
  have key := evOp_sound (Q := Q) (next := fun a' w' => wpAnyH C.P .any ops Q (Kept (Mine c) c.w) n (listed.set i true).toArray a' w') ⟨hS,hGh⟩ (ops := ops) hh hr (fun st' a' c' hk h' =>
    hn st' a' c' hGh hk h')
  have hok : ∀ w',Kept (Mine c) c.w w' → ∀ b,c.ra b → w'.heap[b]? = c.w.heap[b]? := fun w' hk b hb => hk.block b (h.zlt (.inl hb)) (by
    rintro (⟨k,hk,rfl⟩ | hq)
    · exact h.mineZ hk (.inl hb)
    · exact (h.q b hq).2.2.2.1 hb)
  have hy : ∃ v,YieldsIf C.P ops (Kept (Mine c) c.w) o v a ∧ wpAnyH C.P .any ops Q (Kept (Mine c) c.w) n (listed.set i true).toArray (a.put o.dst v) c.w := by
    by_cases hw : Region.wanted o (yielded ops a.tmps) = true
    · rw [if_pos hw] at key
      unfold Oper.wp at key
      have fin : ∀ v,(∀ w',Kept (Mine c) c.w w' → (execOp a.eval o).run C.P w' = .ok (.value v) w') → ∃ v,YieldsIf C.P ops (Kept (Mine c) c.w) o v a ∧ wpAnyH C.P .any ops Q (Kept (Mine c) c.w) n (listed.set i true).toArray (a.put o.dst v) c.w := by
        intro v hv
        rw [hv c.w (Kept.refl _ _),Oper.upon_value] at key
        exact ⟨v,.inl ⟨hw,hv⟩,key⟩
      rcases htk.1 with hmf | hlf
      · obtain ⟨s1,s2⟩ := memFree_still (P := C.P) hmf a.eval
        cases hrun : (execOp a.eval o).run C.P c.w with
        | halt x w1 =>
          rw [hrun] at key
          cases x <;> simp only [Oper.upon] at key
          exact absurd key (hQ _ _ _)
        | ok nx w1 =>
          obtain ⟨v,rfl⟩ := s2 _ _ _ hrun
          exact fin v (fun w' _ => (s1 _ _ _ hrun).2 w')
      · unfold loadFree at hlf
        cases hg : o.guard with
        | none =>
          rw [hg] at hlf
          obtain ⟨v,hv⟩ := slotFree_det h hlf
          exact fin v (fun w' hk => hv w' (hok w' hk) hk.size)
        | some jw =>
          obtain ⟨j,wb⟩ := jw
          rw [hg] at hlf
          simp only at hlf
          cases hs : (ops[j]?).bind (·.dst) with
          | none => rw [hs] at hlf; simp at hlf
          | some s =>
            rw [hs] at hlf
            simp only at hlf
            have hwant : a.tmps.getD s undef = .bool wb := by
              simp only [Region.wanted,hg,yielded,hs,Option.bind_some] at hw
              rw [Array.getD_eq_getD_getElem?]
              cases ht : a.tmps[s]? with
              | none => rw [ht] at hw; simp at hw
              | some x => rw [ht] at hw; cases x <;> simp at hw ⊢; exact hw
            obtain ⟨v,hv⟩ := slotFree_det (ungd1_rep h hwant) hlf
            exact fin v (fun w' hk => hv w' (hok w' hk) hk.size)
    · rw [if_neg hw] at key
      exact ⟨undef,.inr ⟨by simpa using hw,rfl⟩,key⟩
  obtain ⟨v,hy,hnx⟩ := hy
  refine wpAnyH_mono (S' := Kept (Mine c) c.w) (fun w hk => Kept.from h hk) _ _ _ _ ?_
  refine wpAnyH_take hi hns htk.2 (by simpa [readyL] using hmem) (fun ch a w hp => absurd hp (hQ _ _ _)) hy (Kept.refl _ _) ?_
  simpa using hnx
theorem evAnyJ_sound {R : Type} {r : R} (hS : C.Owed) (hns : Region.noSelect ops = true) (hQ : ∀ ch a w,¬ Q (.panic ch) a w) (ht : tabGo ops 0 ops.toList tab = true) :
    ∀ (N n : Nat) (lm : Nat) (listed : List Bool) (st : St) (m : MM) (w0 : World) (a : Act) (c : Cx) (K : St → Option R),n ≤ N → Mask ops lm listed → C.GlobM m w0 → Rep m w0 st a c → evAnyJ C ops tab n 0 lm st K = some r →
      (∀ st' a' c',K st' = some r → Rep m w0 st' a' c' → Q .normal a' c'.w) → wpAnyH C.P .any ops Q (Kept m.w w0) n listed.toArray a c.w
  | N,0,lm,listed,st,m,w0,a,c,K,hN,hM,hG,h,hr,hK => by
    unfold evAnyJ at hr
    have hre := readyL_eq hM ht
    split at hr
    · rename_i hrd
      rw [hrd] at hre
      exact ⟨by simpa [readyL] using hre,hK _ _ _ hr h⟩
    · simp at hr
  | 0,n + 1,_,_,_,_,_,_,_,_,hN,_,_,_,_,_ => by omega
  | N + 1,n + 1,lm,listed,st,m,w0,a,c,K,hN,hM,hG,h,hr,hK => by
    have hr0 := hr
    unfold evAnyJ at hr
    have hre := readyL_eq hM ht
    have hs := (readyM_spec hM ops.toList 0 tab (by simp) ht).2
    cases hL : readyM lm 0 ops.toList tab with
    | nil =>
      rw [hL] at hr hre
      have : readyL ops listed = [] := hre
      exact wpAnyH_done (by simpa [readyL] using this) (hK _ _ _ hr h) _
    | cons x xs =>
      rw [hL] at hr hre hs
      simp only at hr
      cases hf : (x :: xs).find? (takesM C.P ops lm st) with
      | some y =>
        rw [hf] at hr
        simp only at hr
        have hy := List.mem_of_find?_eq_some hf
        have htk := List.find?_some hf
        rw [takesM_eq hM (hs y hy)] at htk
        refine take_sound (m := m) (w0 := w0) hS hns hQ hG h (hs y hy).1 ?_ htk hr ?_
        · rw [hre]; exact List.mem_map.2 ⟨y,hy,rfl⟩
        · intro st' a' c' hG' hk h'
          exact evAnyJ_sound hS hns hQ ht N n _ _ st' _ _ a' c' K (by omega) (hM.set (hs y hy).2.2) hG' h' hk (fun st2 a2 c2 hk2 h2 => hK _ _ _ hk2 (h.there h2))
      | none =>
        rw [hf] at hr
        simp only at hr
        have hneL : readyL ops listed ≠ [] := by rw [hre]; simp
        cases hg : insGood C.P ops tab lm (x :: xs) with
        | true =>
          rw [hg] at hr
          simp only [cond_true] at hr
          unfold insGood at hg
          split at hg
          · rename_i x' y' r' hxs
            split at hg
            · rename_i mm q0 hq0
              simp only [Bool.and_eq_true] at hg
              have hlen : ((x :: xs).map (·.1)).length = xs.length + 1 := by simp
              have hmode : evAnyJ C ops tab (n + 1) (xs.length + 1) lm st K = some r := by
                unfold evAnyJ
                rw [hL]
                exact hr
              have hon : insOnly C.P ops tab mm (xs.length + 1) lm ((x :: xs).map (·.1)) = true := hg.2
              obtain ⟨s,g0,g1,g2⟩ := ins_one (xs.length + 1) hlen hon hmode
              obtain ⟨_,k2,_⟩ := insOnly_step hon
              have hI : Ins C.P ops mm ((x :: xs).map (·.1)) := Ins.of (fun z hz => (hs z hz).1) hg.1 (fun z hz => k2 z (by rw [hL]; exact hz))
              have := ins_sound (m := m) (w0 := w0) hS hns hQ hG ht (n := n + 1 - (xs.length + 1)) (xs.length + 1) hM hlen hon hI g1 h (fun listed' a' c' hM' h' =>
                evAnyJ_sound hS hns hQ ht N _ _ listed' s m w0 a' c' K (by omega) hM' hG h' g2 hK)
              rw [show n + 1 - (xs.length + 1) + (xs.length + 1) = n + 1 by omega] at this
              exact this
            · simp at hg
          · simp at hg
        | false =>
          rw [hg] at hr
          simp only [cond_false] at hr
          refine wpAnyH_all rfl (fun he => hneL (by simpa [readyL] using he)) (fun i hi => ?_)
          have hiL : i ∈ readyL ops listed := by simpa [readyL] using hi
          obtain ⟨y,hy,rfl⟩ := readyL_mem hM ht hiL
          rw [hL] at hy
          have hri := allOf_mem hr y hy
          unfold wpOp
          rw [(hs y hy).1]
          simp only
          have key := evOpI_sound (Q := Q) (next := fun a' w' => Kept m.w w0 w' ∧ wpAnyH C.P .any ops Q (Kept m.w w0) n (listed.set y.1 true).toArray a' w') ⟨hS,hG⟩ (ops := ops) h hri (fun st' a' c' hk h' =>
            ⟨h'.kept,evAnyJ_sound hS hns hQ ht N n _ _ st' _ _ a' c' K (by omega) (hM.set (hs y hy).2.2) hG h' hk hK⟩)
          split
          · rename_i hw; rw [if_pos hw] at key; exact .inl (by simpa using key)
          · rename_i hw; rw [if_neg hw] at key; simpa using key
theorem region_anyT {R : Type} {K : St → Option R} {r : R} (hm : C.P.follows .mixedOrders = true) (hS : C.Owed) {id : Nat} {st : St} {a : Act} {c : Cx} (hns : Region.noSelect ops = true) (hQ : ∀ ch a w,¬ Q (.panic ch) a w) (hG : C.GlobM m w0) (h : Rep m w0 st a c)
    (hr : evAnyT C ops tab st K = some r)
    (hK : ∀ st' a' c',K st' = some r → Rep m w0 st' a' c' → Q .normal a' c'.w) : (Code.region id ops true).wp C.P Q a c.w := by
  unfold evAnyT at hr
  cases ht : tabGo ops 0 ops.toList tab with
  | false =>
    rw [ht] at hr
    exact region_any hm hS hns hQ hG h hr hK
  | true =>
    rw [ht] at hr
    simp only [cond_true] at hr
    refine wp_region_held (S := Kept m.w w0) hm ?_
    have h1 := h.world (w1 := { c.w with drawn := c.w.drawn + 1 }) (h.kept.drawn _) (Nat.le_refl _) (fun _ _ => rfl)
    have := evAnyJ_sound hS hns hQ ht _ _ _ _ st m w0 a _ K (Nat.le_refl _) (Mask.init ops) hG h1 hr hK
    simpa using this
theorem allOf_congrX {R α : Type} {f g : α → Option R} : ∀ l : List α,(∀ x ∈ l,f x = g x) → allOf f l = allOf g l
  | [],_ => rfl
  | [a],h => h a (by simp)
  | a :: b :: r,h => by
    simp only [allOf]
    rw [h a (by simp),allOf_congrX (b :: r) (fun x hx => h x (List.mem_cons_of_mem _ hx))]
theorem evAnyJ_congr {R : Type} {K K' : St → Option R} (hF : C.Fair) {D : List Nat} (hD : ∀ (i : Nat) (o : Oper),ops[i]? = some o → Slots D ops o) : ∀ (n k lm : Nat) (st : St),(∀ st',Agree D st st' → K st' = K' st') → evAnyJ C ops tab n k lm st K = evAnyJ C ops tab n k lm st K'
  | 0,k,lm,st,h => by
    unfold evAnyJ
    split
    · exact h st (Agree.refl _ _)
    · rfl
  | n + 1,k,lm,st,h => by
    have one : ∀ (x : Nat×Oper×Nat) (k : Nat),x ∈ readyM lm 0 ops.toList tab → (evOpI C ops x.2.1 st fun st => evAnyJ C ops tab n k (Nat.lor lm (2 ^ x.1)) st K) = evOpI C ops x.2.1 st fun st => evAnyJ C ops tab n k (Nat.lor lm (2 ^ x.1)) st K' := fun x k hx =>
      evOpI_congr C hF (hD x.1 x.2.1 (readyM_op hx)) fun st1 h1 => evAnyJ_congr hF hD n k _ st1 fun st2 h2 => h st2 (h1.trans h2)
    unfold evAnyJ
    cases hL : readyM lm 0 ops.toList tab with
    | nil => exact h st (Agree.refl _ _)
    | cons x xs =>
      rw [hL] at one
      simp only
      cases k with
      | succ k => exact one x k (by simp)
      | zero =>
        simp only
        cases hf : (x :: xs).find? (takesM C.P ops lm st) with
        | some y => exact one y 0 (List.mem_of_find?_eq_some hf)
        | none =>
          simp only
          rw [one x xs.length (by simp),allOf_congrX (x :: xs) (fun y hy => one y 0 hy)]
theorem evAnyT_congr {R : Type} {K K' : St → Option R} (hF : C.Fair) {D : List Nat} (hD : ∀ (i : Nat) (o : Oper),ops[i]? = some o → Slots D ops o) (st : St) (h : ∀ st',Agree D st st' → K st' = K' st') : evAnyT C ops tab st K = evAnyT C ops tab st K' := by
  unfold evAnyT
  rw [evAnyJ_congr hF hD _ _ _ st h,evAny_congr C hF hD _ _ st h]
end
end Go.Fw
