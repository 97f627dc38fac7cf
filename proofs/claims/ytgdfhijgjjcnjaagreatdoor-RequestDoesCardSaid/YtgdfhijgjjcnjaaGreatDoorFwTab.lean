/- A region's orders,by masks: the same. -/
import Derived.Test.YtgdfhijgjjcnjaaGreatDoorFwEval
set_option linter.unusedVariables false
set_option linter.unusedSimpArgs false
namespace Go.Fw

theorem land_eq_self {a b : Nat} : Nat.land a b = a ↔ ∀ j,a.testBit j = true → b.testBit j = true := by
  constructor
  · intro h j hj
    have h2 : (a &&& b).testBit j = a.testBit j := congrArg (·.testBit j) h
    rw [Nat.testBit_and,hj] at h2
    simpa using h2
  · intro h
    apply Nat.eq_of_testBit_eq
    intro j
    have : (Nat.land a b).testBit j = (a &&& b).testBit j := rfl
    rw [this,Nat.testBit_and]
    cases hj : a.testBit j with
    | false => rfl
    | true => simp [h j hj]

theorem lor_bit (a b j : Nat) : (Nat.lor a b).testBit j = (a.testBit j || b.testBit j) := Nat.testBit_or a b j

theorem land_pow_zero {a i : Nat} : Nat.land a (2 ^ i) = 0 ↔ a.testBit i = false := by
  constructor
  · intro h
    have h2 : (a &&& 2 ^ i).testBit i = (0 : Nat).testBit i := congrArg (·.testBit i) h
    rw [Nat.testBit_and] at h2
    simpa using h2
  · intro h
    apply Nat.eq_of_testBit_eq
    intro j
    have : (Nat.land a (2 ^ i)).testBit j = (a &&& 2 ^ i).testBit j := rfl
    rw [this,Nat.testBit_and,Nat.testBit_two_pow,Nat.zero_testBit]
    by_cases hj : i = j
    · subst hj; simp [h]
    · simp [hj]

theorem dep_bit (o : Oper) (j : Nat) : (depOf o).testBit j = true ↔ ∃ e ∈ o.after.toList,Region.binds .any e = true ∧ e.on = j := by
  unfold depOf
  induction o.after.toList with
  | nil => simp
  | cons e r ih =>
    rw [List.foldr_cons]
    cases hb : Region.binds .any e with
    | false => simp only [cond_false,ih,List.mem_cons,exists_eq_or_imp,hb]; simp
    | true =>
      simp only [cond_true,lor_bit,Bool.or_eq_true,ih,List.mem_cons,exists_eq_or_imp,hb,true_and,Nat.testBit_two_pow,decide_eq_true_eq]

theorem clash_bit (ops : Array Oper) (oi : Oper) (i : Nat) : ∀ (l : List Oper) (k j : Nat),(clashOf ops oi i k l).testBit j = true ↔
    ∃ n oj,l[n]? = some oj ∧ k + n = j ∧ (j == i || (oj.after.any (fun e => Region.binds .any e && e.on == i) || oi.apart ops oj)) = false
  | [],k,j => by simp [clashOf]
  | oj :: r,k,j => by
    have ih := clash_bit ops oi i r (k + 1) j
    have hsplit : (∃ n o,(oj :: r)[n]? = some o ∧ k + n = j ∧ (j == i || (o.after.any (fun e => Region.binds .any e && e.on == i) || oi.apart ops o)) = false) ↔
        (k = j ∧ (k == i || (oj.after.any (fun e => Region.binds .any e && e.on == i) || oi.apart ops oj)) = false) ∨
        (∃ n o,r[n]? = some o ∧ k + 1 + n = j ∧ (j == i || (o.after.any (fun e => Region.binds .any e && e.on == i) || oi.apart ops o)) = false) := by
      constructor
      · rintro ⟨n,o,h1,h2,h3⟩
        cases n with
        | zero => left; simp at h1; subst h1; exact ⟨by omega,by rw [show k = j by omega]; exact h3⟩
        | succ n => right; exact ⟨n,o,by simpa using h1,by omega,h3⟩
      · rintro (⟨h1,h2⟩ | ⟨n,o,h1,h2,h3⟩)
        · exact ⟨0,oj,by simp,by omega,by rw [← h1]; exact h2⟩
        · exact ⟨n + 1,o,by simpa using h1,by omega,h3⟩
    rw [hsplit,← ih,clashOf]
    cases hc : (k == i || (oj.after.any (fun e => Region.binds .any e && e.on == i) || oi.apart ops oj)) with
    | true => simp
    | false =>
      rw [cond_false,lor_bit,Nat.testBit_two_pow,Bool.or_eq_true,decide_eq_true_eq]
      simp only [and_true]

structure Mask (ops : Array Oper) (lm : Nat) (listed : List Bool) : Prop where
  len : listed.length = ops.size
  bit : ∀ j,lm.testBit j = (listed[j]?).getD false

theorem Mask.init (ops : Array Oper) : Mask ops 0 (List.replicate ops.size false) := by
  refine ⟨by simp,fun j => ?_⟩
  rw [Nat.zero_testBit,List.getElem?_replicate]
  split <;> rfl

theorem Mask.set {ops : Array Oper} {lm : Nat} {listed : List Bool} (h : Mask ops lm listed) {i : Nat} (hi : i < ops.size) : Mask ops (Nat.lor lm (2 ^ i)) (listed.set i true) := by
  refine ⟨by simpa using h.len,fun j => ?_⟩
  rw [lor_bit,Nat.testBit_two_pow,h.bit j,List.getElem?_set]
  by_cases hj : i = j
  · subst hj; simp [h.len,hi]
  · simp [hj]

theorem arr_getD (l : List Bool) (i : Nat) (d : Bool) : l.toArray.getD i d = (l[i]?).getD d := by
  rw [Array.getD_eq_getD_getElem?,List.getElem?_toArray]

def readyP (ops : Array Oper) (listed : List Bool) (i : Nat) : Bool :=
  !listed.toArray.getD i true && ((ops[i]?).map (·.after.all fun e => !Region.binds .any e || listed.toArray.getD e.on false)).getD false

theorem readyP_iff {ops : Array Oper} {lm : Nat} {listed : List Bool} (h : Mask ops lm listed) {i : Nat} {o : Oper} (hi : ops[i]? = some o) :
    (Nat.beq (Nat.land lm (2 ^ i)) 0 && Nat.beq (Nat.land (depOf o) lm) (depOf o)) = readyP ops listed i := by
  have hlt : i < ops.size := (Array.getElem?_eq_some_iff.1 hi).1
  unfold readyP
  rw [hi,Option.map_some,Option.getD_some,arr_getD]
  have e1 : Nat.beq (Nat.land lm (2 ^ i)) 0 = !(listed[i]?).getD true := by
    have hb := h.bit i
    have hs : listed[i]? = some (listed[i]'(by rw [h.len]; exact hlt)) := List.getElem?_eq_getElem _
    rw [hs] at hb ⊢
    simp only [Option.getD_some] at hb ⊢
    rw [← hb,Bool.eq_iff_iff,Nat.beq_eq,land_pow_zero]
    simp
  have e2 : Nat.beq (Nat.land (depOf o) lm) (depOf o) = o.after.all fun e => !Region.binds .any e || listed.toArray.getD e.on false := by
    rw [Bool.eq_iff_iff,Nat.beq_eq,land_eq_self,Array.all_eq_true']
    simp only [dep_bit]
    constructor
    · intro hh e he
      cases hb : Region.binds .any e with
      | false => rfl
      | true =>
        have := hh e.on ⟨e,by simpa using he,hb,rfl⟩
        rw [h.bit] at this
        simpa [arr_getD] using this
    · rintro hh j ⟨e,he,hb,rfl⟩
      have := hh e (by simpa using he)
      rw [hb,arr_getD] at this
      rw [h.bit]
      simpa using this
  rw [e1,e2]

theorem readyM_spec {ops : Array Oper} {lm : Nat} {listed : List Bool} (h : Mask ops lm listed) : ∀ (l : List Oper) (i : Nat) (t : List Nat),ops.toList.drop i = l → tabGo ops i l t = true →
    (readyM lm i l t).map (·.1) = (List.range' i l.length).filter (readyP ops listed) ∧ ∀ x ∈ readyM lm i l t,ops[x.1]? = some x.2.1 ∧ x.2.2 = clashOf ops x.2.1 x.1 0 ops.toList ∧ x.1 < ops.size
  | [],i,t,hd,ht => by cases t <;> simp [readyM]
  | o :: r,i,t,hd,ht => by
    match t,ht with
    | d :: c :: t,ht =>
      unfold tabGo at ht
      simp only [Bool.and_eq_true,Nat.beq_eq] at ht
      obtain ⟨hd1,hc1,ht1⟩ := ht
      have hi : ops[i]? = some o := by
        have := congrArg (·[0]?) hd
        simpa using this
      have hlt : i < ops.size := (Array.getElem?_eq_some_iff.1 hi).1
      have hd' : ops.toList.drop (i + 1) = r := by
        have := congrArg List.tail hd
        simpa [List.tail_drop] using this
      obtain ⟨ih1,ih2⟩ := readyM_spec h r (i + 1) t hd' ht1
      unfold readyM
      rw [List.length_cons,List.range'_succ,List.filter_cons]
      have hp := readyP_iff h hi
      rw [hd1] at hp
      rw [hp]
      cases hr : readyP ops listed i with
      | false => exact ⟨by simpa [hr] using ih1,by simpa using ih2⟩
      | true =>
        refine ⟨by simpa [hr] using ih1,?_⟩
        intro x hx
        rw [cond_true,List.mem_cons] at hx
        rcases hx with rfl | hx
        · exact ⟨hi,hc1.symm,hlt⟩
        · exact ih2 x hx

theorem takesM_eq {P : Program} {ops : Array Oper} {lm : Nat} {listed : List Bool} {st : St} (h : Mask ops lm listed) {x : Nat×Oper×Nat} (hx : ops[x.1]? = some x.2.1 ∧ x.2.2 = clashOf ops x.2.1 x.1 0 ops.toList ∧ x.1 < ops.size) :
    takesM P ops lm st x = takes P ops listed st x.1 := by
  obtain ⟨hi,hc,hlt⟩ := hx
  unfold takesM takes
  rw [hi]
  simp only
  have : Nat.beq (Nat.land x.2.2 lm) x.2.2 = Region.free .any ops listed.toArray x.1 := by
    rw [Bool.eq_iff_iff,Nat.beq_eq,land_eq_self,hc]
    unfold Region.free
    rw [hi]
    simp only [List.all_eq_true,List.mem_range,clash_bit]
    constructor
    · intro hh j hj
      rw [arr_getD]
      have hs : listed[j]? = some (listed[j]'(by rw [h.len]; exact hj)) := List.getElem?_eq_getElem _
      have ho : ops[j]? = some ops[j] := Array.getElem?_eq_getElem hj
      rw [ho]
      simp only
      cases hcl : (j == x.1 || (ops[j].after.any (fun e => Region.binds .any e && e.on == x.1) || x.2.1.apart ops ops[j])) with
      | true =>
        simp only [Bool.or_eq_true] at hcl ⊢
        rcases hcl with hcl | hcl
        · exact Or.inl (Or.inl hcl)
        · exact Or.inr hcl
      | false =>
        have := hh j ⟨j,ops[j],by simp [hj],by omega,hcl⟩
        rw [h.bit,hs] at this
        rw [hs]
        simp only [Option.getD_some] at this ⊢
        simp [this]
    · rintro hh j ⟨n,oj,h1,h2,h3⟩
      have h2' : n = j := by omega
      subst h2'
      have h1' : ops[n]? = some oj := by simpa using h1
      have hj : n < ops.size := (Array.getElem?_eq_some_iff.1 h1').1
      have := hh n hj
      rw [h1',arr_getD] at this
      simp only at this
      simp only [Bool.or_eq_false_iff] at h3
      rw [h.bit]
      have hs : listed[n]? = some (listed[n]'(by rw [h.len]; exact hj)) := List.getElem?_eq_getElem _
      rw [hs] at this ⊢
      simp only [Option.getD_some] at this ⊢
      simpa [h3.1,h3.2] using this
  rw [this,Bool.and_comm]

theorem find_congr {α : Type} {p q : α → Bool} : ∀ (l : List α),(∀ a ∈ l,p a = q a) → l.find? p = l.find? q
  | [],_ => rfl
  | a :: r,h => by rw [List.find?_cons,List.find?_cons,h a (by simp),find_congr r (fun x hx => h x (List.mem_cons_of_mem _ hx))]

theorem allOf_map {R α β : Type} (g : α → β) (f : β → Option R) : ∀ l : List α,allOf f (l.map g) = allOf (fun a => f (g a)) l
  | [] => rfl
  | [a] => rfl
  | a :: b :: r => by
    have := allOf_map g f (b :: r)
    simp only [List.map_cons] at this ⊢
    simp only [allOf,this]

theorem allOf_congrM {R α : Type} {f g : α → Option R} : ∀ l : List α,(∀ a ∈ l,f a = g a) → allOf f l = allOf g l
  | [],_ => rfl
  | [a],h => h a (by simp)
  | a :: b :: r,h => by
    simp only [allOf]
    rw [h a (by simp),allOf_congrM (b :: r) (fun x hx => h x (List.mem_cons_of_mem _ hx))]

theorem readyL_eq {ops : Array Oper} {lm : Nat} {listed : List Bool} {tab : List Nat} (h : Mask ops lm listed) (ht : tabGo ops 0 ops.toList tab = true) :
    readyL ops listed = (readyM lm 0 ops.toList tab).map (·.1) := by
  rw [(readyM_spec h ops.toList 0 tab (by simp) ht).1]
  unfold readyL Region.ready
  rw [List.range_eq_range',Array.length_toList]
  rfl

theorem evAnyM_eq (C : Ctx) {R : Type} {ops : Array Oper} {tab : List Nat} (ht : tabGo ops 0 ops.toList tab = true) : ∀ (n lm : Nat) (listed : List Bool) (st : St) (K : St → Option R),Mask ops lm listed →
    evAnyM C ops tab n lm st K = evAny C ops n listed st K
  | 0,lm,listed,st,K,h => by
    unfold evAnyM evAny
    rw [readyL_eq h ht]
    cases readyM lm 0 ops.toList tab <;> rfl
  | n + 1,lm,listed,st,K,h => by
    unfold evAnyM evAny
    have hs := (readyM_spec h ops.toList 0 tab (by simp) ht).2
    rw [readyL_eq h ht]
    cases hR : readyM lm 0 ops.toList tab with
    | nil => rfl
    | cons x xs =>
      rw [hR] at hs
      have one : ∀ y ∈ x :: xs,(evOpI C ops y.2.1 st fun st => evAnyM C ops tab n (Nat.lor lm (2 ^ y.1)) st K) =
          (match ops[y.1]? with
          | some o => evOpI C ops o st fun st => evAny C ops n (listed.set y.1 true) st K
          | none => none) := fun y hy => by
        rw [(hs y hy).1]
        simp only
        congr 1
        funext st'
        exact evAnyM_eq C ht n _ _ st' K (h.set (hs y hy).2.2)
      have hf : (x :: xs).find? (takesM C.P ops lm st) = (x :: xs).find? ((takes C.P ops listed st) ∘ (·.1)) :=
        find_congr _ fun y hy => takesM_eq h (hs y hy)
      have hm : ((x :: xs).map (·.1)).find? (takes C.P ops listed st) = ((x :: xs).find? ((takes C.P ops listed st) ∘ (·.1))).map (·.1) := List.find?_map
      simp only [List.map_cons] at hm ⊢
      rw [hm,hf]
      cases hfd : (x :: xs).find? ((takes C.P ops listed st) ∘ (·.1)) with
      | some y => exact one y (List.mem_of_find?_eq_some hfd)
      | none =>
        simp only [Option.map_none]
        rw [← List.map_cons,allOf_map]
        exact allOf_congrM _ one

end Go.Fw
