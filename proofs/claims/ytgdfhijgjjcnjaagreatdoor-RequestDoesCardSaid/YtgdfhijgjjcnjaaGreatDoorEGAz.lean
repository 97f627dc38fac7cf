/- Part of a proof: what the program's functions come to. -/
import Derived.Test.YtgdfhijgjjcnjaaGreatDoorEXBgz
set_option linter.unusedVariables false
set_option linter.unusedSimpArgs false
namespace Go.Proofs.YtgdfhijgjjcnjaaGreatDoor.RZ
open Go Go.Fw Go.Proofs RB
set_option maxRecDepth 20000
abbrev It := Int×Int
abbrev Rq := Int×(Int×(Int×(Int×(List Cv×(Int×(Int×(Int×(Int×(List It×List Cv)))))))))
namespace Rq
@[reducible] def id (r : Rq) : Int := r.1
@[reducible] def me (r : Rq) : Int := r.2.1
@[reducible] def key (r : Rq) : Int := r.2.2.1
@[reducible] def tok (r : Rq) : Tok := (r.2.2.2.1,(r.2.2.2.2.1,r.2.2.2.2.2.1))
@[reducible] def a (r : Rq) : Int := r.2.2.2.2.2.2.1
@[reducible] def n (r : Rq) : Int := r.2.2.2.2.2.2.2.1
@[reducible] def till (r : Rq) : Int := r.2.2.2.2.2.2.2.2.1
@[reducible] def its (r : Rq) : List It := r.2.2.2.2.2.2.2.2.2.1
@[reducible] def cvs (r : Rq) : List Cv := r.2.2.2.2.2.2.2.2.2.2
end Rq
def I64 (n : Int) : Prop := -9223372036854775808 ≤ n ∧ n ≤ 9223372036854775807
structure RqOk (r : Rq) : Prop where
  id : U64 r.id
  me : I64 r.me
  key : U64 r.key
  tok : TokOk r.tok
  a : U64 r.a
  n : U64 r.n
  till : U64 r.till
  its : ∀ x ∈ r.its,U64 x.1 ∧ U64 x.2
  cvs : ∀ c ∈ r.cvs,CvOk c
  l1 : r.tok.2.1.length ≤ 9223372036854775807
  l2 : r.its.length ≤ 9223372036854775807
  l3 : r.cvs.length ≤ 9223372036854775807
abbrev tRq : Ty := .pair (.int .u64) (.pair (.int .i64) (.pair (.int .u64) (.pair (.int .u64) (.pair (.slice 63 (.pair (.int .i64) (.pair (.int .u64) (.int .u64)))) (.pair (.int .i64) (.pair (.int .u64) (.pair (.int .u64) (.pair (.int .u64) (.pair (.slice 74 (.pair (.int .u64) (.int .u64))) (.slice 63 (.pair (.int .i64) (.pair (.int .u64) (.int .u64)))))))))))))
theorem rq_of {r : Rq} (h : Fw.Good tRq r) : RqOk r where
  id := u64_of h.1
  me := i64_of h.2.1
  key := u64_of h.2.2.1
  tok := ⟨u64_of h.2.2.2.1,fun c hc => cv_of (h.2.2.2.2.1.2 c hc),i64_of h.2.2.2.2.2.1⟩
  a := u64_of h.2.2.2.2.2.2.1
  n := u64_of h.2.2.2.2.2.2.2.1
  till := u64_of h.2.2.2.2.2.2.2.2.1
  its := fun x hx => ⟨u64_of (h.2.2.2.2.2.2.2.2.2.1.2 x hx).1,u64_of (h.2.2.2.2.2.2.2.2.2.1.2 x hx).2⟩
  cvs := fun c hc => cv_of (h.2.2.2.2.2.2.2.2.2.2.2 c hc)
  l1 := h.2.2.2.2.1.1
  l2 := h.2.2.2.2.2.2.2.2.2.1.1
  l3 := h.2.2.2.2.2.2.2.2.2.2.1
theorem F76_two (a b : Int) : F76 [a,b] = some (if a < b then b else a) := by
  unfold F76
  simp only [List.length_cons,List.length_nil]
  have e0 : rd (.int .u64) [a,b] 0 = a := rfl
  have e1 : rd (.int .u64) [a,b] 1 = b := rfl
  refine (lfp_rule (fun x => x = (a,1) ∨ x = (if a < b then b else a,2)) (fun x => 2 - x.2.toNat) (fun _ => (if a < b then b else a)) ?_ (rd (.int .u64) [a,b] 0,1) (.inl rfl))
  rintro x (rfl | rfl) rec hrec
  · have := hrec (if a < b then b else a,2) (.inr rfl) (by simp)
    simp [inb,e1,IntKind.wrap,IntKind.signed,IntKind.bits]
    exact this
  · simp
theorem F38_two (a b : Int) : F38 [a,b] = some (if 4611686018427387904 < a ∨ 4611686018427387904 < b then 1 else 0) := by
  unfold F38
  simp only [List.length_cons,List.length_nil,F76_two,Option.bind_some]
  by_cases h : a < b
  · by_cases h1 : 4611686018427387904 < b
    · simp [h,h1]
    · have h2 : ¬ 4611686018427387904 < a := by omega
      simp [h,h1,h2]
  · by_cases h1 : 4611686018427387904 < a
    · simp [h,h1]
    · have h2 : ¬ 4611686018427387904 < b := by omega
      simp [h,h1,h2]
def oddI (x : It) : Bool := decide (x.2 = 0) || decide (4611686018427387904 < x.2)
theorem F72_eq (x : It) : F72 x = some (oddI x) := by
  obtain ⟨h,n⟩ := x
  unfold F72 oddI
  simp only [F38_one,Option.bind_some]
  by_cases h1 : n = 0
  · simp [h1]
  · by_cases h2 : 4611686018427387904 < n <;> simp [h1,h2]
theorem F73_eq {l : List It} (hl : l.length ≤ 9223372036854775807) : F73072 (l,()) = some (l.any oddI) := by
  obtain ⟨r,h1,h2⟩ := idx_loop (t := .pair (.int .u64) (.int .u64)) (l := l) hl (p := oddI) (G := F72) (fun x hx => F72_eq x)
  have : F92072 (l,()) = some r := h1
  unfold F73072
  simp only [this,Option.bind_some,h2]
theorem F36_eq {c : Cv} (h : CvOk c) : F36 c = some (decide (chk c ≠ 0)) := by
  unfold F36
  simp only [Prod.eta,F37_eq h,Option.bind_some]
  by_cases q : chk c = 0 <;> simp [q]
theorem F39_eq {l : List Cv} (hl : l.length ≤ 9223372036854775807) (h : ∀ c ∈ l,CvOk c) : F39036 (l,()) = some (l.any fun c => decide (chk c ≠ 0)) := by
  obtain ⟨r,h1,h2⟩ := idx_loop (t := .pair (.int .i64) (.pair (.int .u64) (.int .u64))) (l := l) hl (p := fun c => decide (chk c ≠ 0)) (G := F36) (fun x hx => F36_eq (h x hx))
  have : F77036 (l,()) = some r := h1
  unfold F39036
  simp only [this,Option.bind_some,h2]
def addM (a b : Int) : Int×Int := if 4611686018427387904 < a ∨ 4611686018427387904 < b then (0,1) else if 4611686018427387904 < a + b then (0,8) else (a + b,0)
theorem F74_eq {a b : Int} (ha : U64 a) (hb : U64 b) : F74 [a,b] = some (addM a b) := by
  unfold F74 addM
  simp only [F38_two,Option.bind_some]
  obtain ⟨ha0,ha1⟩ := ha
  obtain ⟨hb0,hb1⟩ := hb
  by_cases h : 4611686018427387904 < a ∨ 4611686018427387904 < b
  · simp [h]
  · have h1 : ¬ 4611686018427387904 < a := fun hh => h (.inl hh)
    have h2 : ¬ 4611686018427387904 < b := fun hh => h (.inr hh)
    simp only [h,if_false,decide_true,Bool.not_true,cond_false,List.length_cons,List.length_nil]
    have e0 : rd (.int .u64) [a,b] 0 = a := rfl
    have e1 : rd (.int .u64) [a,b] 1 = b := rfl
    have w0 : IntKind.wrap .u64 (0 + a) = a := by rw [Int.zero_add]; exact RB.wrap_u64 ha0 ha1
    have w1 : IntKind.wrap .u64 (a + b) = a + b := RB.wrap_u64 (by omega) (by omega)
    refine (lfp_rule (fun x => x = (0,0,0) ∨ x = (a,0,1) ∨ (x = (a + b,0,2) ∧ ¬ 4611686018427387904 < a + b)) (fun x => 2 - x.2.2.toNat) (fun _ => (if 4611686018427387904 < a + b then (0,8) else (a + b,0))) ?_ (0,0,0) (.inl rfl))
    rintro x (rfl | rfl | ⟨rfl,hn⟩) rec hrec
    · have := hrec (a,0,1) (.inr (.inl rfl)) (by simp)
      simp only [e0,w0,h1,inb,decide_false,cond_false]
      simpa [IntKind.wrap,IntKind.signed,IntKind.bits] using this
    · simp only [e1,w1,inb]
      by_cases h3 : 4611686018427387904 < a + b
      · simp [h3]
      · have := hrec (a + b,0,2) (.inr (.inr ⟨rfl,h3⟩)) (by simp)
        simp [h3,IntKind.wrap,IntKind.signed,IntKind.bits]
        simpa [h3] using this
    · simp [hn]
def tot : List It → Int
  | [] => 0
  | x :: r => x.2 + tot r
theorem tot_append : ∀ (a b : List It),tot (a ++ b) = tot a + tot b
  | [],b => by simp [tot]
  | x :: r,b => by simp only [List.cons_append,tot,tot_append r b]; omega
theorem tot_nonneg : ∀ {l : List It},(∀ x ∈ l,0 ≤ x.2) → 0 ≤ tot l
  | [],_ => by simp [tot]
  | x :: r,h => by
    have := h x (by simp)
    have := tot_nonneg (l := r) (fun y hy => h y (by simp [hy]))
    simp only [tot]; omega
def sumI (l : List It) : Int×Int := if l = [] ∨ 16 < l.length ∨ l.any oddI = true then (0,1) else if 4611686018427387904 < tot l then (0,8) else (tot l,0)
theorem F30_eq {l : List It} (hl : l.length ≤ 9223372036854775807) (h : ∀ x ∈ l,U64 x.1 ∧ U64 x.2) : F30 l = some (sumI l) := by
  unfold F30 sumI
  simp only [F73_eq hl,Option.bind_some]
  by_cases h0 : l = []
  · subst h0; simp
  have hp := List.length_pos_iff.2 h0
  have k0 : ¬ (l.length : Int) = 0 := by omega
  by_cases h1 : 16 < l.length
  · have k1 : (16 : Int) < (l.length : Int) := by omega
    simp [h0,h1,k0,k1]
  have k1 : ¬ (16 : Int) < (l.length : Int) := by omega
  cases h2 : l.any oddI with
  | true => simp [h0,h1,k0,k1]
  | false =>
    simp only [h0,h1,k0,k1,decide_false,cond_false,beq_self_eq_true,cond_true,false_or,Bool.false_eq_true,if_false]
    have hodd : ∀ x ∈ l,¬ x.2 = 0 ∧ ¬ 4611686018427387904 < x.2 := fun x hx => by
      have := List.any_eq_false.1 h2 x hx
      simpa [oddI] using this
    refine lfp_rule (fun x => ∃ i : Nat,x.2.2 = (i : Int) ∧ i ≤ l.length ∧ x.1 = tot (l.take i) ∧ ¬ 4611686018427387904 < tot (l.take i)) (fun x => l.length - x.2.2.toNat) (fun _ => if 4611686018427387904 < tot l then (0,8) else (tot l,0)) ?_ (0,0,0) ⟨0,rfl,by omega,rfl,by simp [tot]⟩
    rintro ⟨s,e,i'⟩ ⟨i,hi',hi,hs,hm⟩ rec hrec
    simp only at hi' hs
    subst hi'
    subst hs
    by_cases hlt : i < l.length
    · have kk : ((i : Int) < (l.length : Int)) := by omega
      have hx := List.getElem_mem hlt
      have hu := (h _ hx).2
      have ho := hodd _ hx
      have hnn : 0 ≤ tot (l.take i) := tot_nonneg fun y hy => (h y (List.mem_of_mem_take hy)).2.1
      have ht : tot (l.take (i + 1)) = tot (l.take i) + l[i].2 := by
        rw [List.take_add_one,List.getElem?_eq_getElem hlt,Option.toList_some,tot_append]; simp [tot]
      simp only [kk,decide_true,cond_true,inb_true (Int.natCast_nonneg i) kk,rd_nat (t := .pair (.int .u64) (.int .u64)) hlt,F74_eq (a := tot (l.take i)) (b := l[i].2) ⟨hnn,by omega⟩ hu,Option.bind_some]
      rw [RB.wrap_i64 (n := (i : Int) + 1) (by omega) (by omega)]
      unfold addM
      have n1 : ¬ (4611686018427387904 < tot (l.take i) ∨ 4611686018427387904 < l[i].2) := by omega
      simp only [n1,if_false]
      by_cases h3 : 4611686018427387904 < tot (l.take i) + l[i].2
      · have hd : 0 ≤ tot (l.drop (i + 1)) := tot_nonneg fun y hy => (h y (List.mem_of_mem_drop hy)).2.1
        have hall : tot l = tot (l.take (i + 1)) + tot (l.drop (i + 1)) := by rw [← tot_append,List.take_append_drop]
        have : 4611686018427387904 < tot l := by omega
        simp [h3,this]
      · simp only [h3,if_false,decide_true,Bool.not_true,cond_false]
        exact hrec (tot (l.take i) + l[i].2,0,(i : Int) + 1) ⟨i + 1,by simp,by omega,ht.symm,by rw [ht]; exact h3⟩ (by simp only; omega)
    · have kk : ¬ ((i : Int) < (l.length : Int)) := by omega
      rw [List.take_of_length_le (by omega)] at hm ⊢
      simp [kk,hm]
def whatM (m : Int) : Int := if m = 1 then 71 else if m = 2 then 17 else if m = 3 then 79 else if m = 4 then 3 else if m = 5 then 2 else if m = 6 then 2 else if m = 7 then 0 else if m = 8 then 6 else if m = 9 then 4 else if m = 10 then 32 else 0
def isM (m : Int) : Bool := decide (1 ≤ m) && decide (m ≤ 10)
theorem F35_eq (m : Int) : F35 m = some (whatM m,isM m) := by
  unfold F35 isM
  by_cases h0 : m ≤ 0
  · have h1 : ¬ 1 ≤ m := by omega
    have hw : whatM m = 0 := by unfold whatM; repeat (rw [if_neg (by omega)])
    simp [h0,h1,hw]
  by_cases h2 : 11 ≤ m
  · have h1 : ¬ m ≤ 10 := by omega
    have hw : whatM m = 0 := by unfold whatM; repeat (rw [if_neg (by omega)])
    simp [h0,h1,h2,hw]
  have hm : m = 1 ∨ m = 2 ∨ m = 3 ∨ m = 4 ∨ m = 5 ∨ m = 6 ∨ m = 7 ∨ m = 8 ∨ m = 9 ∨ m = 10 := by omega
  rcases hm with rfl | rfl | rfl | rfl | rfl | rfl | rfl | rfl | rfl | rfl <;> simp [inb,whatM] <;> rfl
def stepQ (what : Int) (ok : Bool) (x : Int×(Bool×Bool)) : Bool := ok && (bif decide (bitOp .and .i64 what x.1 = 0) then !x.2.1 else x.2.2)
theorem stepQ_t {what : Int} {ok : Bool} {x : Int×(Bool×Bool)} (h : decide (bitOp .and .i64 what x.1 = 0) = true) : stepQ what ok x = (bif ok then !x.2.1 else false) := by
  unfold stepQ; rw [h]; cases ok <;> rfl
theorem stepQ_f {what : Int} {ok : Bool} {x : Int×(Bool×Bool)} (h : decide (bitOp .and .i64 what x.1 = 0) = false) : stepQ what ok x = (bif ok then x.2.2 else false) := by
  unfold stepQ; rw [h]; cases ok <;> rfl
abbrev tL : Ty := .pair (.int .i64) (.pair .bool .bool)
theorem look_loop (what : Int) (l : List (Int×(Bool×Bool))) (hl : l.length ≤ 100) (ok0 : Bool) {G : Bool → Option Int} {g : Bool → Int} (hG : ∀ b,G b = some (g b)) :
    lfp (fun (rec5 : (Bool×Int) → Option Int) (x5 : Bool×Int) =>
      bif decide (x5.2 < (l.length : Int)) then (
      bif inb x5.2 l.length then
      bif (!decide ((bitOp .and .i64 what (rd tL l x5.2).1) = 0)) then (
      rec5 ((bif x5.1 then ((rd tL l x5.2).2).2 else false),(IntKind.wrap .i64 (x5.2 + 1))))
      else (
      rec5 ((bif x5.1 then (!((rd tL l x5.2).2).1) else false),(IntKind.wrap .i64 (x5.2 + 1))))
      else none)
      else G x5.1) (ok0,0) = some (g (l.foldl (stepQ what) ok0)) := by
  refine lfp_rule (fun x => ∃ i : Nat,x.2 = (i : Int) ∧ i ≤ l.length ∧ x.1 = (l.take i).foldl (stepQ what) ok0) (fun x => l.length - x.2.toNat) (fun _ => g (l.foldl (stepQ what) ok0)) ?_ (ok0,0) ⟨0,rfl,by omega,rfl⟩
  rintro ⟨b,i'⟩ ⟨i,hi',hi,hb⟩ rec hrec
  simp only at hi' hb
  subst hi'
  subst hb
  by_cases hlt : i < l.length
  · have kk : ((i : Int) < (l.length : Int)) := by omega
    have ht : (l.take (i + 1)).foldl (stepQ what) ok0 = stepQ what ((l.take i).foldl (stepQ what) ok0) l[i] := by
      rw [List.take_add_one,List.getElem?_eq_getElem hlt,Option.toList_some,List.foldl_append]; rfl
    simp only [kk,decide_true,cond_true,inb_true (Int.natCast_nonneg i) kk,rd_nat (t := tL) hlt]
    rw [RB.wrap_i64 (n := (i : Int) + 1) (by omega) (by omega)]
    cases hd : decide (bitOp .and .i64 what l[i].1 = 0) with
    | true =>
      rw [stepQ_t hd] at ht
      simp only [Bool.not_true,cond_false]
      exact hrec _ ⟨i + 1,by simp,by omega,ht.symm⟩ (by simp only; omega)
    | false =>
      rw [stepQ_f hd] at ht
      simp only [Bool.not_false,cond_true]
      exact hrec _ ⟨i + 1,by simp,by omega,ht.symm⟩ (by simp only; omega)
  · have kk : ¬ ((i : Int) < (l.length : Int)) := by omega
    rw [List.take_of_length_le (by omega)]
    simp [kk,hG]
def looks (r : Rq) (a3 : Bool) (a6 : Bool) : List (Int×(Bool×Bool)) :=
  [(1,((!decide (r.key = 0)),true)),(2,((!decide (r.a = 0)),true)),(4,((!decide (r.n = 0)),a3)),(8,((!decide (r.till = 0)),true)),(16,(decide (0 < (r.its.length : Int)),decide ((sumI r.its).2 = 0))),(32,(decide (0 < (r.cvs.length : Int)),a6))]
def isN (r : Rq) : Bool := decide (bitOp .and .i64 (whatM r.me) 64 = 0) || (decide (0 < r.n) && !decide (4611686018427387904 < r.n))
def isL (r : Rq) : Bool := decide (0 < r.cvs.length) && (decide (r.cvs.length ≤ 16) && !(r.cvs.any fun c => decide (chk c ≠ 0)))
def okL (r : Rq) : Bool := (looks r (isN r) (isL r)).foldl (stepQ (whatM r.me)) (isM r.me)
def okQ (r : Rq) : Prop := okL r = true ∧ okK r.tok
open Classical in
theorem fin10 {r : Rq} (h : RqOk r) {a3 a6 a7 : Bool} (h3 : a3 = isN r) (h6 : a6 = isL r) (h7 : decide (0 < (r.cvs.length : Int)) = a7) :
 lfp (fun (rec5 : (Bool×Int) → Option Int) (x5 : Bool×Int) =>
  bif decide (x5.2 < (([(1,((!decide (r.2.2.1 = 0)),true)),(2,((!decide (r.2.2.2.2.2.2.1 = 0)),true)),(4,((!decide (r.2.2.2.2.2.2.2.1 = 0)),a3)),(8,((!decide (r.2.2.2.2.2.2.2.2.1 = 0)),true)),(16,(decide (0 < (r.2.2.2.2.2.2.2.2.2.1.length : Int)),decide ((sumI r.2.2.2.2.2.2.2.2.2.1).2 = 0))),(32,(a7,a6))]).length : Int)) then (
  bif inb x5.2 ([(1,((!decide (r.2.2.1 = 0)),true)),(2,((!decide (r.2.2.2.2.2.2.1 = 0)),true)),(4,((!decide (r.2.2.2.2.2.2.2.1 = 0)),a3)),(8,((!decide (r.2.2.2.2.2.2.2.2.1 = 0)),true)),(16,(decide (0 < (r.2.2.2.2.2.2.2.2.2.1.length : Int)),decide ((sumI r.2.2.2.2.2.2.2.2.2.1).2 = 0))),(32,(a7,a6))]).length then
  bif (!decide ((bitOp .and .i64 (whatM r.2.1) ((rd (.pair (.int .i64) (.pair .bool .bool)) ([(1,((!decide (r.2.2.1 = 0)),true)),(2,((!decide (r.2.2.2.2.2.2.1 = 0)),true)),(4,((!decide (r.2.2.2.2.2.2.2.1 = 0)),a3)),(8,((!decide (r.2.2.2.2.2.2.2.2.1 = 0)),true)),(16,(decide (0 < (r.2.2.2.2.2.2.2.2.2.1.length : Int)),decide ((sumI r.2.2.2.2.2.2.2.2.2.1).2 = 0))),(32,(a7,a6))]) x5.2).1)) = 0)) then (
  rec5 ((bif x5.1 then ((rd (.pair (.int .i64) (.pair .bool .bool)) ([(1,((!decide (r.2.2.1 = 0)),true)),(2,((!decide (r.2.2.2.2.2.2.1 = 0)),true)),(4,((!decide (r.2.2.2.2.2.2.2.1 = 0)),a3)),(8,((!decide (r.2.2.2.2.2.2.2.2.1 = 0)),true)),(16,(decide (0 < (r.2.2.2.2.2.2.2.2.2.1.length : Int)),decide ((sumI r.2.2.2.2.2.2.2.2.2.1).2 = 0))),(32,(a7,a6))]) x5.2).2).2 else false),(IntKind.wrap .i64 (x5.2 + 1))))
  else (
  rec5 ((bif x5.1 then (!((rd (.pair (.int .i64) (.pair .bool .bool)) ([(1,((!decide (r.2.2.1 = 0)),true)),(2,((!decide (r.2.2.2.2.2.2.1 = 0)),true)),(4,((!decide (r.2.2.2.2.2.2.2.1 = 0)),a3)),(8,((!decide (r.2.2.2.2.2.2.2.2.1 = 0)),true)),(16,(decide (0 < (r.2.2.2.2.2.2.2.2.2.1.length : Int)),decide ((sumI r.2.2.2.2.2.2.2.2.2.1).2 = 0))),(32,(a7,a6))]) x5.2).2).1) else false),(IntKind.wrap .i64 (x5.2 + 1))))
  else none)
  else (
  bif ((!x5.1) == false) then (
  (F40 (r.2.2.2.1,(r.2.2.2.2.1,r.2.2.2.2.2.1))).bind fun r6 =>
  bif (!decide (r6 = 0)) then (
  some 1)
  else (
  some 0))
  else (
  some 1))) ((isM r.2.1),0) = some (if okQ r then 0 else 1) := by
  have hend : ∀ b : Bool,(bif ((!b) == false) then ((F40 (r.2.2.2.1,(r.2.2.2.2.1,r.2.2.2.2.2.1))).bind fun r6 => bif (!decide (r6 = 0)) then (some 1) else (some (0 : Int))) else (some 1)) = some (if b = true ∧ okK r.tok then 0 else 1) := by
    intro b
    have := F40_eq (t := r.tok) h.tok h.l1
    simp only [Rq.tok] at this
    simp only [this,Option.bind_some]
    cases b with
    | false => simp
    | true => by_cases hk : okK r.tok <;> simp [Rq.tok] at hk <;> simp [hk]
  subst h3 h6 h7
  refine (look_loop (whatM r.me) (looks r (isN r) (isL r)) (by simp [looks]) (isM r.me) hend).trans ?_
  have : ((looks r (isN r) (isL r)).foldl (stepQ (whatM r.me)) (isM r.me) = true ∧ okK r.tok) ↔ okQ r := Iff.rfl
  by_cases q : okQ r
  · rw [if_pos q,if_pos (this.2 q)]
  · rw [if_neg q,if_neg (fun hh => q (this.1 hh))]
open Classical in
theorem F16_eq {r : Rq} (h : RqOk r) : F16 r = some (if okQ r then 0 else 1) := by
  unfold F16
  simp only [F35_eq,F30_eq h.l2 h.its,F38_one,F39_eq h.l3 h.cvs,Option.bind_some]
  have hN : ∀ b1 b2 b3,decide (bitOp .and .i64 (whatM r.me) 64 = 0) = b1 → decide (0 < r.n) = b2 → decide (4611686018427387904 < r.n) = b3 → isN r = (b1 || (b2 && !b3)) := by
    rintro _ _ _ rfl rfl rfl; rfl
  have e3 : decide ((if 4611686018427387904 < r.n then (1 : Int) else 0) = 0) = !decide (4611686018427387904 < r.n) := by by_cases q : 4611686018427387904 < r.n <;> simp [q]
  have hL : ∀ b1 b2 b3,decide (0 < (r.cvs.length : Int)) = b1 → decide ((r.cvs.length : Int) ≤ 16) = b2 → (r.cvs.any fun c => decide (chk c ≠ 0)) = b3 → isL r = (b1 && (b2 && !b3)) := by
    rintro _ _ _ rfl rfl rfl
    unfold isL
    congr 1
    · rw [decide_eq_decide]; omega
    · congr 1
      rw [decide_eq_decide]; omega
  cases b1 : decide (bitOp .and .i64 (whatM r.me) 64 = 0) <;> cases b2 : decide (0 < r.n) <;> cases b3 : decide (4611686018427387904 < r.n) <;>
    cases c1 : decide (0 < (r.cvs.length : Int)) <;> cases c2 : decide ((r.cvs.length : Int) ≤ 16) <;> cases c3 : (r.cvs.any fun c => decide (chk c ≠ 0)) <;>
    simp only [Rq.me,Rq.n,Rq.cvs] at b1 b2 b3 c1 c2 c3 e3 <;>
    simp only [b1,b2,b3,c1,c2,c3,e3,both_self,beq_self_eq_true,cond_true,cond_false,show (true == false) = false from rfl,show (false == true) = false from rfl,Bool.not_true,Bool.not_false] <;>
    exact fin10 h (by rw [hN _ _ _ b1 b2 b3]; rfl) (by rw [hL _ _ _ c1 c2 c3]; rfl) c1
end Go.Proofs.YtgdfhijgjjcnjaaGreatDoor.RZ
