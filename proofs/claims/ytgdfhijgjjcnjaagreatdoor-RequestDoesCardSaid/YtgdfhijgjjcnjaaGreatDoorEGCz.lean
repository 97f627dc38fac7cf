/- Part of a proof: what the program's functions come to. -/
import Derived.Test.YtgdfhijgjjcnjaaGreatDoorEGBz
set_option linter.unusedVariables false
set_option linter.unusedSimpArgs false
namespace Go.Proofs.YtgdfhijgjjcnjaaGreatDoor.RZ
open Go Go.Fw Go.Proofs RB
set_option maxRecDepth 20000
def del (q : Rec) : Bool := decide (q.1 = 1) || decide (q.1 = 4)
def keep (q : Rec) : Bool := !del q
theorem F29_eq (q : Rec) : F29 q = some (del q) := by
  obtain ⟨t,v⟩ := q
  unfold F29 del
  by_cases h : t = 1 <;> simp [h]
def idx (p : Rec → Bool) (l : List Rec) : Int := match l.findIdx? p with | some j => (j : Int) | none => -1
theorem idx_val {l : List Rec} (hl : l.length ≤ 9223372036854775807) : F71029 (l,()) = some (idx del l) := by
  unfold F71029
  let ans : Nat → Int := fun i => match (l.drop i).findIdx? del with | some j => ((i + j : Nat) : Int) | none => -1
  have hstep : ∀ i,(h : i < l.length) → del l[i] = false → ans i = ans (i + 1) := by
    intro i h hp
    simp only [ans]
    rw [List.drop_eq_getElem_cons h,List.findIdx?_cons,hp]
    simp only [Bool.false_eq_true,if_false]
    cases (l.drop (i + 1)).findIdx? del with
    | none => rfl
    | some j => simp only [Option.map_some]; congr 1; omega
  have e0 : idx del l = ans 0 := by simp only [idx,ans,List.drop_zero]; cases l.findIdx? del <;> simp
  rw [e0]
  show _ = some (ans ((0,0) : Int×Int).2.toNat)
  refine lfp_rule (fun (x : Int×Int) => ∃ i : Nat,x.2 = (i : Int) ∧ i ≤ l.length) (fun x => l.length - x.2.toNat) (fun x => ans x.2.toNat) ?_ (0,0) ⟨0,rfl,by omega⟩
  rintro ⟨y,i'⟩ ⟨i,hi',hi⟩ rec hrec
  simp only at hi'
  subst hi'
  simp only [Int.toNat_natCast]
  by_cases hlt : i < l.length
  · have k1 : ((i : Int) < (l.length : Int)) := by omega
    simp only [k1,decide_true,cond_true,inb_true (Int.natCast_nonneg i) k1,rd_nat (t := tR) hlt,Prod.eta,F29_eq,Option.bind_some]
    cases hp : del l[i] with
    | true =>
      simp only [cond_true,ans]
      rw [List.drop_eq_getElem_cons hlt,List.findIdx?_cons,hp]
      simp
    | false =>
      simp only [cond_false]
      rw [RB.wrap_i64 (n := (i : Int) + 1) (by omega) (by omega),hstep i hlt hp]
      have := hrec (y,(i : Int) + 1) ⟨i + 1,by simp,by omega⟩ (by simp only; omega)
      rw [this]
      simp only
      congr 2
  · have k1 : ¬ ((i : Int) < (l.length : Int)) := by omega
    simp only [k1,decide_false,cond_false,ans]
    rw [List.drop_eq_nil_of_le (by omega)]
    simp
theorem recQ_mem {r : Rq} {q : Rec} (h : q ∈ recQ r) : q = (1,enc1 r.id) ∨ q = (2,enc1 r.me) ∨ q = (3,enc1 r.key) ∨ q = (4,tokB r.tok) ∨ q = (5,enc1 r.a) ∨ q = (6,enc1 r.n) ∨ q = (7,enc1 r.till) ∨ q ∈ numd encI 16 r.its ∨ q ∈ numd encC 32 r.cvs := by
  unfold recQ at h
  simp only [List.mem_append,List.mem_cons,List.not_mem_nil,or_false] at h
  rcases h with (((((((h | h) | h) | h) | h) | h) | h) | h) | h
  · exact .inl h
  · exact .inr (.inl h)
  · exact .inr (.inr (.inl (mem_opt h)))
  · exact .inr (.inr (.inr (.inl h)))
  · exact .inr (.inr (.inr (.inr (.inl (mem_opt h)))))
  · exact .inr (.inr (.inr (.inr (.inr (.inl (mem_opt h))))))
  · exact .inr (.inr (.inr (.inr (.inr (.inr (.inl (mem_opt h)))))))
  · exact .inr (.inr (.inr (.inr (.inr (.inr (.inr (.inl h)))))))
  · exact .inr (.inr (.inr (.inr (.inr (.inr (.inr (.inr h)))))))
theorem encI_len (x : It) : (encI x).length ≤ 18 := by
  have h1 := enc1_len x.1
  have h2 := enc1_len x.2
  simp only [encI,List.flatMap_cons,List.flatMap_nil,List.length_append,List.length_nil]
  omega
theorem recQ_okV {r : Rq} (h : RqOk r) (k : okQ r) : ∀ q ∈ recQ r,OkV q := by
  intro q hq
  have hme := okQ_me k
  have hi := okQ_its k
  obtain ⟨hc,hck⟩ := okQ_cvs k
  have small : ∀ (t : Int) (v : List Int),0 ≤ t → t < 100 → Bs v → OkV (t,v) := fun t v h0 h1 hv => ⟨⟨h0,by simp only; omega⟩,hv⟩
  rcases recQ_mem hq with rfl | rfl | rfl | rfl | rfl | rfl | rfl | hq | hq
  · exact small _ _ (by decide) (by decide) (enc1_byte h.id.1)
  · exact small _ _ (by decide) (by decide) (enc1_byte (by omega))
  · exact small _ _ (by decide) (by decide) (enc1_byte h.key.1)
  · exact small _ _ (by decide) (by decide) (tokB_byte h.tok k.2)
  · exact small _ _ (by decide) (by decide) (enc1_byte h.a.1)
  · exact small _ _ (by decide) (by decide) (enc1_byte h.n.1)
  · exact small _ _ (by decide) (by decide) (enc1_byte h.till.1)
  · obtain ⟨⟨x,hx,h1⟩,h2,h3⟩ := numd_mem encI _ _ _ hq
    have hu := h.its x hx
    refine ⟨⟨by omega,by omega⟩,?_⟩
    rw [h1]
    exact encs_byte (l := [x.1,x.2]) fun n hn => by
      simp only [List.mem_cons,List.not_mem_nil,or_false] at hn
      rcases hn with rfl | rfl
      · exact hu.1.1
      · exact hu.2.1
  · obtain ⟨⟨x,hx,h1⟩,h2,h3⟩ := numd_mem encC _ _ _ hq
    refine ⟨⟨by omega,by omega⟩,?_⟩
    rw [h1]
    exact encC_byte (h.cvs x hx) (hck x hx)
theorem recQ_okT {r : Rq} (k : okQ r) : okT (recQ r) := by
  have hi := okQ_its k
  obtain ⟨hc,hck⟩ := okQ_cvs k
  refine ⟨?_,fun q hq => ?_,(recQ_sb hi).1⟩
  · unfold recQ
    simp only [List.length_append,numd_len,List.length_cons,List.length_nil]
    have := opt_len (!decide (r.key = 0)) 3 (enc1 r.key)
    have := opt_len (!decide (r.a = 0)) 5 (enc1 r.a)
    have := opt_len (!decide (r.n = 0)) 6 (enc1 r.n)
    have := opt_len (!decide (r.till = 0)) 7 (enc1 r.till)
    omega
  · have h9 := fun n => enc1_len n
    rcases recQ_mem hq with rfl | rfl | rfl | rfl | rfl | rfl | rfl | hq | hq
    · have := h9 r.id; simp only; omega
    · have := h9 r.me; simp only; omega
    · have := h9 r.key; simp only; omega
    · have : (tokB r.tok).length ≤ 486 := tok_len k.2
      simp only; omega
    · have := h9 r.a; simp only; omega
    · have := h9 r.n; simp only; omega
    · have := h9 r.till; simp only; omega
    · obtain ⟨⟨x,hx,h1⟩,_⟩ := numd_mem encI _ _ _ hq
      have := encI_len x
      rw [h1]; omega
    · obtain ⟨⟨x,hx,h1⟩,_⟩ := numd_mem encC _ _ _ hq
      have := encC_len x
      rw [h1]; omega
theorem okT_filter {l : List Rec} (h : okT l) (p : Rec → Bool) : okT (l.filter p) :=
  ⟨Nat.le_trans (List.length_filter_le p l) h.1,fun q hq => h.2.1 q ((List.mem_filter.1 hq).1),h.2.2.filter p⟩
theorem encsQ_len {l : List Rec} {k : Nat} (h : ∀ q ∈ l,(encR q).length ≤ k) : (l.flatMap encR).length ≤ k * l.length := by
  induction l with
  | nil => simp
  | cons q r ih =>
    rw [List.flatMap_cons,List.length_append,List.length_cons,Nat.mul_add,Nat.mul_one]
    have h2 := h q (by simp)
    have := ih (fun x hx => h x (by simp [hx]))
    omega
theorem encRQ_len (q : Rec) : (encR q).length ≤ 18 + q.2.length := by
  have h1 := enc1_len q.1
  have h2 := enc1_len (q.2.length : Int)
  simp only [encR,List.length_append]; omega
theorem recQ_small {r : Rq} (k : okQ r) : ∀ q ∈ recQ r,q.2.length ≤ 486 := by
  intro q hq
  have h9 := fun n => enc1_len n
  rcases recQ_mem hq with rfl | rfl | rfl | rfl | rfl | rfl | rfl | hq | hq
  · have := h9 r.id; simp only; omega
  · have := h9 r.me; simp only; omega
  · have := h9 r.key; simp only; omega
  · exact tok_len k.2
  · have := h9 r.a; simp only; omega
  · have := h9 r.n; simp only; omega
  · have := h9 r.till; simp only; omega
  · obtain ⟨⟨x,hx,h1⟩,_⟩ := numd_mem encI _ _ _ hq
    have := encI_len x
    rw [h1]; omega
  · obtain ⟨⟨x,hx,h1⟩,_⟩ := numd_mem encC _ _ _ hq
    have := encC_len x
    rw [h1]; omega
def prQ (r : Rq) : List Rec := (recQ r).filter keep
theorem putT_pr {r : Rq} (k : okQ r) : putT (prQ r) = ((prQ r).flatMap encR,0) := by
  unfold putT
  have h1 := okT_filter (recQ_okT k) keep
  have h2 := encsQ_len (l := prQ r) (k := 504) (fun q hq => by have h5 := recQ_small k q (List.mem_filter.1 hq).1; have := encRQ_len q; omega)
  have h3 := h1.1
  have h4 : (prQ r).length ≤ 64 := h3
  rw [if_pos (show okT (prQ r) from h1),if_neg (by omega)]
theorem findIdx_some {l : List Rec} {j : Nat} (h : l.findIdx? del = some j) : ∃ hj : j < l.length,del l[j] = true ∧ ∀ i (hi : i < j),del (l[i]'(by omega)) = false := by
  obtain ⟨h1,h2,h3⟩ := List.findIdx?_eq_some_iff_getElem.1 h
  exact ⟨h1,h2,fun i hi => by simpa using h3 i hi⟩
theorem filter_keep_none {l : List Rec} (h : ∀ q ∈ l,del q = false) : l.filter keep = l := by
  rw [List.filter_eq_self]
  intro q hq
  simp [keep,h q hq]
open Classical in
theorem F10_eq {r : Rq} (h : RqOk r) : F10 r = some (if okQ r then ((prQ r).flatMap encR,0) else ([],1)) := by
  have hF10 : F16 (r.1,(r.2.1,(r.2.2.1,(r.2.2.2.1,(r.2.2.2.2.1,(r.2.2.2.2.2.1,(r.2.2.2.2.2.2.1,(r.2.2.2.2.2.2.2.1,(r.2.2.2.2.2.2.2.2.1,(r.2.2.2.2.2.2.2.2.2.1,r.2.2.2.2.2.2.2.2.2.2)))))))))) = some (if okQ r then 0 else 1) := F16_eq h
  unfold F10
  simp only [hF10,Option.bind_some]
  by_cases k : okQ r
  · have hF26 : F19 (r.1,(r.2.1,(r.2.2.1,(r.2.2.2.1,(r.2.2.2.2.1,(r.2.2.2.2.2.1,(r.2.2.2.2.2.2.1,(r.2.2.2.2.2.2.2.1,(r.2.2.2.2.2.2.2.2.1,(r.2.2.2.2.2.2.2.2.2.1,r.2.2.2.2.2.2.2.2.2.2)))))))))) = some (recQ r,0) := F19_eq h k
    have hT := recQ_okT k
    have hV := recQ_okV h k
    have h64 := hT.1
    have hput : F20 ((recQ r).filter keep) = some ((prQ r).flatMap encR,0) := by
      rw [F20_eq (fun q hq => hV q ((List.mem_filter.1 hq).1)),putT_pr k |>.symm]; rfl
    simp only [k,if_true,hF26,Option.bind_some,decide_true,Bool.not_true,cond_false,idx_val (l := recQ r) (by omega)]
    generalize hL : recQ r = L at hT hV h64 hput ⊢
    cases hf : L.findIdx? del with
    | none =>
      have hnone : ∀ q ∈ L,del q = false := fun q hq => by
        have := List.findIdx?_eq_none_iff.1 hf q hq
        simpa using this
      rw [filter_keep_none hnone] at hput
      simp only [idx,hf,decide_true,cond_true,hput,Option.bind_some]
    | some j0 =>
      obtain ⟨hj0,hd0,hbef⟩ := findIdx_some hf
      have hne : ¬ (j0 : Int) = -1 := by omega
      simp only [idx,hf,hne,decide_false,cond_false]
      rw [RB.wrap_i64 (n := (j0 : Int) + 1) (by omega) (by omega)]
      have hstart : L.take j0 = (L.take (j0 + 1)).filter keep := by
        rw [List.take_succ_eq_append_getElem hj0,List.filter_append,filter_keep_none (fun q hq => by
          obtain ⟨i,hi,rfl⟩ := List.getElem_of_mem hq
          have hi2 : i < j0 := by rw [List.length_take] at hi; omega
          rw [List.getElem_take]; exact hbef i hi2)]
        simp [keep,hd0]
      refine lfp_rule (fun (x : Int×Int×List Rec) => ∃ i j : Nat,x.1 = (i : Int) ∧ x.2.1 = (j : Int) ∧ i < j ∧ j ≤ L.length ∧ x.2.2.length = L.length ∧ x.2.2.take i = (L.take j).filter keep ∧ x.2.2.drop j = L.drop j) (fun x => L.length - x.2.1.toNat)
        (fun _ => ((prQ r).flatMap encR,0)) ?_ ((j0 : Int),(j0 : Int) + 1,L) ⟨j0,j0 + 1,rfl,by simp,by omega,by omega,rfl,hstart,rfl⟩
      rintro ⟨i',j',xs⟩ ⟨i,j,hi',hj',hij,hjl,hlen,htk,hdr⟩ rec hrec
      simp only at hi' hj' hlen htk hdr
      subst hi'
      subst hj'
      simp only
      by_cases hlt : j < L.length
      · have kk : ((j : Int) < (xs.length : Int)) := by omega
        have kk2 : ((i : Int) < (xs.length : Int)) := by omega
        have hjx : j < xs.length := by omega
        have hxj : xs[j] = L[j] := by
          have e1 : xs.drop j = xs[j] :: xs.drop (j + 1) := List.drop_eq_getElem_cons hjx
          have e2 : L.drop j = L[j] :: L.drop (j + 1) := List.drop_eq_getElem_cons hlt
          rw [e1,e2] at hdr
          exact (List.cons.inj hdr).1
        have hdr2 : xs.drop (j + 1) = L.drop (j + 1) := by
          rw [← List.drop_drop,← List.drop_drop,hdr]
        simp only [kk,decide_true,cond_true,inb_true (Int.natCast_nonneg j) kk,inb_true (Int.natCast_nonneg i) kk2,rd_nat (t := tR) hjx,Prod.eta,F29_eq,Option.bind_some,hxj,Int.toNat_natCast]
        rw [RB.wrap_i64 (n := (j : Int) + 1) (by omega) (by omega),RB.wrap_i64 (n := (i : Int) + 1) (by omega) (by omega)]
        cases hd : del L[j] with
        | true =>
          simp only [Bool.not_true,cond_false]
          refine hrec _ ⟨i,j + 1,rfl,by simp,by omega,by omega,hlen,?_,hdr2⟩ (by simp only; omega)
          simp only
          rw [htk,List.take_succ_eq_append_getElem hlt,List.filter_append]
          simp [keep,hd]
        | false =>
          simp only [Bool.not_false,cond_true]
          refine hrec _ ⟨i + 1,j + 1,by simp,by simp,by omega,by omega,by simpa using hlen,?_,?_⟩ (by simp only; omega)
          · simp only
            rw [List.take_succ_eq_append_getElem (by simp; omega),List.take_set_of_le (by omega),htk,List.getElem_set_self,List.take_succ_eq_append_getElem hlt,List.filter_append]
            simp [keep,hd]
          · simp only
            rw [List.drop_set_of_lt (by omega)]
            exact hdr2
      · have kk : ¬ ((j : Int) < (xs.length : Int)) := by omega
        have hj : j = L.length := by omega
        have g1 : inb (i : Int) (xs.length + 1) = true := inb_true (Int.natCast_nonneg i) (by omega)
        have g2 : decide (i + (xs.length - i) ≤ xs.length) = true := decide_eq_true (by omega)
        have g3 : ∀ (ys : List Rec),ys.length = xs.length → inb (i : Int) (ys.length + 1) = true := fun ys hy => inb_true (Int.natCast_nonneg i) (by omega)
        have hl3 : (xs.take i ++ (List.replicate (xs.length - i) (0,[]) : List (Int×List Int)) ++ xs.drop (i + (xs.length - i))).length = xs.length := by
          simp only [List.length_append,List.length_take,List.length_replicate,List.length_drop]; omega
        have ht3 : (xs.take i ++ (List.replicate (xs.length - i) (0,[]) : List (Int×List Int)) ++ xs.drop (i + (xs.length - i))).take i = L.filter keep := by
          rw [List.append_assoc,List.take_append_of_le_length (by simp; omega),List.take_take,Nat.min_self,htk,hj,List.take_length]
        simp only [kk,decide_false,cond_false,Int.toNat_natCast,g1,g2,g3 _ hl3,cond_true,ht3,hput,Option.bind_some]
  · simp [k]
end Go.Proofs.YtgdfhijgjjcnjaaGreatDoor.RZ
