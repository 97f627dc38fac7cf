/- Part of a proof: what the program's functions come to. -/
import Derived.Test.YtgdfhijgjjcnjaaGreatDoorFwCtx
import Derived.Test.YtgdfhijgjjcnjaaGreatDoorLE
import Derived.Test.YtgdfhijgjjcnjaaGreatDoorFwRow
set_option linter.unusedVariables false
set_option linter.unusedSimpArgs false
namespace Go.Proofs.YtgdfhijgjjcnjaaGreatDoor.RB
open Go Go.Fw
theorem wrap_id {k : IntKind} {n : Int} (h : (Lit.int k n).wf = true) : k.wrap n = n := by
  have h' := wf_iff.1 h
  cases k <;> simp [IntKind.wrap,IntKind.min,IntKind.max,IntKind.signed,IntKind.bits] at h' ⊢ <;> omega
theorem wrap_i64 {n : Int} (h1 : -9223372036854775808 ≤ n) (h2 : n ≤ 9223372036854775807) : IntKind.wrap .i64 n = n :=
  wrap_id (wf_iff.2 ⟨by simp [IntKind.min,IntKind.signed,IntKind.bits]; omega,by simp [IntKind.max,IntKind.signed,IntKind.bits]; omega⟩)
theorem wrap_u64 {n : Int} (h0 : 0 ≤ n) (h1 : n < 18446744073709551616) : IntKind.wrap .u64 n = n :=
  wrap_id (wf_iff.2 ⟨by simpa [IntKind.min,IntKind.signed] using h0,by simp [IntKind.max,IntKind.signed,IntKind.bits]; omega⟩)
theorem wrap_u8 (n : Int) : IntKind.wrap .u8 n = n % 256 := by
  simp [IntKind.wrap,IntKind.signed,IntKind.bits]
theorem rd_get {t : Ty} {l : List t.den} {i : Int} (h0 : 0 ≤ i) (h1 : i < l.length) : ∃ (h : i.toNat < l.length),rd t l i = l[i.toNat] := by
  have h : i.toNat < l.length := by omega
  exact ⟨h,by unfold rd; rw [List.getD_eq_getElem?_getD,List.getElem?_eq_getElem h]; rfl⟩
theorem rd_nat {t : Ty} {l : List t.den} {i : Nat} (h1 : i < l.length) : rd t l (i : Int) = l[i] := by
  obtain ⟨h,e⟩ := rd_get (t := t) (l := l) (i := (i : Int)) (by omega) (by omega)
  rw [e]; simp
theorem inb_true {i : Int} {n : Nat} (h0 : 0 ≤ i) (h1 : i < n) : inb i n = true := by simp [inb,h0,h1]
def Byte (n : Int) : Prop := 0 ≤ n ∧ n < 256
def U64 (n : Int) : Prop := 0 ≤ n ∧ n < 18446744073709551616
theorem u64_of {n : Int} (h : (Lit.int .u64 n).wf = true) : U64 n := by
  have := wf_iff.1 h
  simp [IntKind.min,IntKind.max,IntKind.signed,IntKind.bits] at this
  exact ⟨this.1,by omega⟩
theorem i64_of {n : Int} (h : (Lit.int .i64 n).wf = true) : -9223372036854775808 ≤ n ∧ n ≤ 9223372036854775807 := by
  have := wf_iff.1 h
  simp [IntKind.min,IntKind.max,IntKind.signed,IntKind.bits] at this
  exact ⟨this.1,by omega⟩
theorem same_loop {t : Ty} [DecidableEq t.den] {a b : List t.den} (hl : a.length ≤ 4611686018427387904) (hn : a.length = b.length) {G : t.den → t.den → (Bool → Option Bool) → Option Bool} (hG : ∀ i (h1 : i < a.length) (h2 : i < b.length) K,G a[i] b[i] K = K (decide (a[i] = b[i]))) :
    lfp (fun (rec1 : (Bool×Int) → Option Bool) (x1 : Bool×Int) =>
      bif decide (x1.2 < (a.length : Int)) then (
      bif inb x1.2 a.length then
      bif inb x1.2 b.length then
      G (rd t a x1.2) (rd t b x1.2) fun r =>
      bif (!r) then some false else rec1 (x1.1,(IntKind.wrap .i64 (x1.2 + 1)))
      else none
      else none)
      else some true) (false,0) = some (decide (a = b)) := by
  refine lfp_rule (fun x => ∃ i : Nat,x.2 = (i : Int) ∧ i ≤ a.length ∧ a.take i = b.take i) (fun x => a.length - x.2.toNat) (fun _ => decide (a = b)) ?_ (false,0) ⟨0,rfl,by omega,rfl⟩
  rintro ⟨y,i'⟩ ⟨i,rfl,hi,he⟩ rec hrec
  simp only
  by_cases hlt : i < a.length
  · have h1 : ((i : Int) < (b.length : Int)) := by omega
    have h2 : ((i : Int) < (a.length : Int)) := by omega
    have hlt2 : i < b.length := by omega
    simp only [h2,decide_true,cond_true,inb_true (Int.natCast_nonneg i) h1,inb_true (Int.natCast_nonneg i) h2,rd_nat hlt,rd_nat hlt2,hG i hlt hlt2]
    by_cases hx : a[i] = b[i]
    · simp only [hx,decide_true,Bool.not_true,cond_false]
      rw [wrap_i64 (n := (i : Int) + 1) (by omega) (by omega)]
      refine hrec _ ⟨i + 1,by simp,by omega,?_⟩ (by simp only; omega)
      rw [List.take_add_one,List.take_add_one,he,List.getElem?_eq_getElem hlt,List.getElem?_eq_getElem hlt2,hx]
    · simp only [hx,decide_false,Bool.not_false,cond_true,Option.some.injEq]
      symm; rw [decide_eq_false_iff_not]
      intro hab; subst hab; exact hx rfl
  · have h1 : ¬ ((i : Int) < (a.length : Int)) := by omega
    simp only [h1,decide_false,cond_false,Option.some.injEq]
    symm; rw [decide_eq_true_iff]
    rw [List.take_of_length_le (by omega),List.take_of_length_le (by omega)] at he; exact he
end Go.Proofs.YtgdfhijgjjcnjaaGreatDoor.RB
namespace Go.Proofs.YtgdfhijgjjcnjaaGreatDoor.RZ
open Go Go.Fw Go.Proofs
theorem wrap_id {k : IntKind} {n : Int} (h : (Lit.int k n).wf = true) : k.wrap n = n := by
  have h' := wf_iff.1 h
  cases k <;> simp [IntKind.wrap,IntKind.min,IntKind.max,IntKind.signed,IntKind.bits] at h' ⊢ <;> omega
theorem wrap_i64 {n : Int} (h1 : -9223372036854775808 ≤ n) (h2 : n ≤ 9223372036854775807) : IntKind.wrap .i64 n = n :=
  wrap_id (wf_iff.2 ⟨by simp [IntKind.min,IntKind.signed,IntKind.bits]; omega,by simp [IntKind.max,IntKind.signed,IntKind.bits]; omega⟩)
theorem wrap_u8 (n : Int) : IntKind.wrap .u8 n = n % 256 := by
  simp [IntKind.wrap,IntKind.signed,IntKind.bits]
def dig (n : Int) : Nat → List Int
  | 0 => []
  | k + 1 => (n / 2 ^ (8 * k)) % 256 :: dig n k
def wid (n : Int) : Nat := if n < 253 then 0 else if n < 65536 then 2 else if n < 4294967296 then 4 else 8
def fst (n : Int) : Int := if n < 253 then n else if n < 65536 then 253 else if n < 4294967296 then 254 else 255
def enc1 (n : Int) : List Int := fst n :: dig n (wid n)
theorem F81_eq {n : Int} (h : 0 ≤ n) : F81 n = some (fst n) := by
  unfold F81 fst
  by_cases h1 : n < 253
  · simp [h1,wrap_u8]; omega
  · by_cases h2 : n < 65536
    · simp [h1,h2]
    · by_cases h3 : n < 4294967296
      · simp [h1,h2,h3]
      · simp [h1,h2,h3]
theorem F82_eq {n : Int} (h : 0 ≤ n) : F82 (fst n) = some (wid n : Int) := by
  unfold F82 fst wid
  by_cases h1 : n < 253
  · simp [h1]
  · by_cases h2 : n < 65536
    · simp [h1,h2,wrap_u8]; rfl
    · by_cases h3 : n < 4294967296
      · simp [h1,h2,h3,wrap_u8]; rfl
      · simp [h1,h2,h3,wrap_u8]; rfl
theorem dig_len (n : Int) : ∀ k,(dig n k).length = k
  | 0 => rfl
  | k + 1 => by simp [dig,dig_len n k]
theorem wid_le (n : Int) : wid n ≤ 8 := by unfold wid; split <;> (try split) <;> (try split) <;> omega
end Go.Proofs.YtgdfhijgjjcnjaaGreatDoor.RZ
namespace Go.Proofs.YtgdfhijgjjcnjaaGreatDoor.RZ
open Go Go.Fw Go.Proofs
theorem rd_get {t : Ty} {l : List t.den} {i : Int} (h0 : 0 ≤ i) (h1 : i < l.length) : ∃ (h : i.toNat < l.length),rd t l i = l[i.toNat] := by
  have h : i.toNat < l.length := by omega
  exact ⟨h,by unfold rd; rw [List.getD_eq_getElem?_getD,List.getElem?_eq_getElem h]; rfl⟩
theorem inb_true {i : Int} {n : Nat} (h0 : 0 ≤ i) (h1 : i < n) : inb i n = true := by simp [inb,h0,h1]
theorem inner {n : Int} (hn : 0 ≤ n) {B : (List Int×Int → Option (List Int)) → List Int×Int → Option (List Int)} {r : List Int → Option (List Int)} {acc : List Int} {res : List Int} (hacc : acc.length ≤ 1000000)
    (hr : r (acc ++ dig n (wid n)) = some res)
    (hB : B = fun rec4 x4 =>
      bif decide (x4.2 < (wid n : Int)) then (
      (F82 (fst n)).bind fun r5 =>
      bif decide (0 ≤ (IntKind.wrap .i64 (8 * (IntKind.wrap .i64 ((IntKind.wrap .i64 (r5 - 1)) - x4.2))))) then
      bif decide ((x4.1.length + 1) * 1 ≤ LIM) then
      rec4 ((x4.1 ++ ([(IntKind.wrap .u8 (n / 2 ^ (min (IntKind.wrap .i64 (8 * (IntKind.wrap .i64 ((IntKind.wrap .i64 (r5 - 1)) - x4.2)))).toNat 64)))])),(IntKind.wrap .i64 (x4.2 + 1)))
      else none
      else none)
      else (r x4.1)) : lfp B (acc,0) = some res := by
  subst hB
  have hw := wid_le n
  refine lfp_rule (fun x => ∃ i : Nat,x.2 = (i : Int) ∧ i ≤ wid n ∧ x.1.length = acc.length + i ∧ x.1 ++ dig n (wid n - i) = acc ++ dig n (wid n)) (fun x => wid n - x.2.toNat) (fun _ => res) ?_ (acc,0) ⟨0,rfl,by omega,rfl,rfl⟩
  rintro ⟨y,i'⟩ ⟨i,rfl,hi,hl,he⟩ rec hrec
  simp only at hl he ⊢
  by_cases hlt : i < wid n
  · have h1 : ((i : Int) < (wid n : Int)) := by omega
    obtain ⟨k,hk⟩ : ∃ k,wid n - i = k + 1 := ⟨wid n - i - 1,by omega⟩
    have hk2 : (IntKind.wrap .i64 ((IntKind.wrap .i64 ((wid n : Int) - 1)) - (i : Int))) = k := by
      rw [wrap_i64 (n := (wid n : Int) - 1) (by omega) (by omega),wrap_i64 (by omega) (by omega)]; omega
    have hk3 : IntKind.wrap .i64 (8 * (k : Int)) = 8 * k := wrap_i64 (by omega) (by omega)
    have hlen : (y.length + 1) * 1 ≤ LIM := by unfold LIM; omega
    have hmin : min (8 * (k : Int)).toNat 64 = 8 * k := by omega
    simp only [h1,decide_true,cond_true,F82_eq hn,Option.bind_some,hk2,hk3,hlen,hmin,wrap_u8]
    rw [show decide (0 ≤ 8 * (k : Int)) = true by simp; omega,cond_true]
    rw [wrap_i64 (n := (i : Int) + 1) (by omega) (by omega)]
    refine hrec _ ⟨i + 1,by simp,by omega,by simp; omega,?_⟩ ?_
    · rw [← he,hk]
      simp only [dig,List.append_assoc,List.singleton_append]
      rw [show wid n - (i + 1) = k by omega]
    · simp only; omega
  · have h1 : ¬ ((i : Int) < (wid n : Int)) := by omega
    simp only [h1,decide_false,cond_false]
    have : wid n - i = 0 := by omega
    rw [this] at he
    simp only [dig,List.append_nil] at he
    rw [he,hr]
theorem F49_eq {l : List Int} (h : ∀ n ∈ l,0 ≤ n) (hl : l.length ≤ 100000) : F49 l = some (l.flatMap enc1) := by
  unfold F49
  have elen : ∀ n,(enc1 n).length ≤ 9 := fun n => by have := wid_le n; simp [enc1,dig_len]; omega
  have flen : ∀ m : List Int,(m.flatMap enc1).length ≤ 9 * m.length := by
    intro m
    induction m with
    | nil => simp
    | cons a m ih => rw [List.flatMap_cons,List.length_append,List.length_cons]; have := elen a; omega
  refine lfp_rule (fun x => ∃ i : Nat,x.2 = (i : Int) ∧ i ≤ l.length ∧ x.1 = (l.take i).flatMap enc1) (fun x => l.length - x.2.toNat) (fun _ => l.flatMap enc1) ?_ (([] : List Int),0) ⟨0,rfl,by omega,rfl⟩
  rintro ⟨y,i'⟩ ⟨i,rfl,hi,rfl⟩ rec hrec
  simp only
  by_cases hlt : i < l.length
  · have h1 : ((i : Int) < (l.length : Int)) := by omega
    obtain ⟨hh,hrd⟩ := rd_get (t := .int .u64) (l := l) (i := i) (by omega) h1
    have hn : 0 ≤ rd (.int .u64) l i := by rw [hrd]; exact h _ (List.getElem_mem _)
    have hlen : (((l.take i).flatMap enc1).length + 1) * 1 ≤ LIM := by
      have := flen (l.take i)
      rw [List.length_take] at this
      unfold LIM; omega
    simp only [h1,decide_true,cond_true,inb_true (Int.natCast_nonneg i) h1,F81_eq hn,Option.bind_some,hlen,F82_eq hn]
    refine inner hn (r := fun z => rec (z,IntKind.wrap .i64 ((i : Int) + 1))) ?_ ?_ (by simp only [F82_eq hn,Option.bind_some])
    · have := flen (l.take i)
      rw [List.length_take] at this
      rw [List.length_append,List.length_singleton]; omega
    · rw [wrap_i64 (n := (i : Int) + 1) (by omega) (by omega)]
      refine hrec _ ⟨i + 1,by simp,by omega,?_⟩ (by simp only; omega)
      simp only
      rw [List.take_add_one,List.getElem?_eq_getElem hlt,Option.toList_some,List.flatMap_append,List.flatMap_singleton]
      simp only [enc1,List.append_assoc,List.singleton_append]
      have : rd (.int .u64) l i = l[i] := by rw [hrd]; simp
      rw [this]
  · have h1 : ¬ ((i : Int) < (l.length : Int)) := by omega
    simp only [h1,decide_false,cond_false]
    rw [List.take_of_length_le (by omega)]
end Go.Proofs.YtgdfhijgjjcnjaaGreatDoor.RZ
namespace Go.Proofs.YtgdfhijgjjcnjaaGreatDoor.RZ
open Go Go.Fw Go.Proofs RB
abbrev Rec := Int×List Int
def pos : List Rec → Int → Nat
  | [],_ => 0
  | a :: r,t => if a.1 < t then pos r t + 1 else 0
def fnd : List Rec → Int → Bool
  | [],_ => false
  | a :: r,t => if a.1 < t then fnd r t else decide (a.1 = t)
def look : List Rec → Int → Option (List Int)
  | [],_ => none
  | a :: r,t => if a.1 < t then look r t else if a.1 = t then some a.2 else none
def Sorted (l : List Rec) : Prop := l.Pairwise (fun a b => a.1 < b.1)
def okT (l : List Rec) : Prop := l.length ≤ 64 ∧ (∀ r ∈ l,r.2.length ≤ 4096) ∧ Sorted l
theorem pos_le : ∀ (l : List Rec) (t : Int),pos l t ≤ l.length
  | [],_ => by simp [pos]
  | a :: r,t => by simp only [pos]; split; have := pos_le r t; simp; omega; simp
theorem pos_lt : ∀ (l : List Rec) (t : Int) (j : Nat) (h : j < l.length),j < pos l t → l[j].1 < t
  | [],_,_,h,_ => by simp at h
  | a :: r,t,j,h,hj => by
    simp only [pos] at hj
    split at hj
    · cases j with
      | zero => assumption
      | succ j => simp only [List.getElem_cons_succ]; exact pos_lt r t j (by simpa using h) (by omega)
    · omega
theorem pos_ge : ∀ (l : List Rec) (t : Int) (j : Nat) (h : j < l.length),Sorted l → pos l t ≤ j → t ≤ l[j].1
  | [],_,_,h,_,_ => by simp at h
  | a :: r,t,j,h,hs,hj => by
    obtain ⟨h1,h2⟩ := List.pairwise_cons.1 hs
    simp only [pos] at hj
    split at hj
    · cases j with
      | zero => omega
      | succ j => simp only [List.getElem_cons_succ]; exact pos_ge r t j (by simpa using h) h2 (by omega)
    · rename_i hn
      cases j with
      | zero => simp only [List.getElem_cons_zero]; omega
      | succ j =>
        simp only [List.getElem_cons_succ]
        have hj' : j < r.length := by simpa using h
        have := h1 r[j] (List.getElem_mem hj')
        omega
theorem fnd_at : ∀ (l : List Rec) (t : Int) (h : pos l t < l.length),fnd l t = decide (l[pos l t].1 = t)
  | [],_,h => by simp at h
  | a :: r,t,h => by
    by_cases c : a.1 < t
    · have e : pos (a :: r) t = pos r t + 1 := by simp [pos,c]
      have h' : pos r t < r.length := by rw [e] at h; simpa using h
      simp only [fnd,c,if_true,fnd_at r t h',e,List.getElem_cons_succ]
    · have e : pos (a :: r) t = 0 := by simp [pos,c]
      simp only [fnd,c,if_false,e,List.getElem_cons_zero]
theorem fnd_end : ∀ (l : List Rec) (t : Int),pos l t = l.length → fnd l t = false
  | [],_,_ => rfl
  | a :: r,t,h => by
    by_cases c : a.1 < t
    · simp only [pos,c,if_true,List.length_cons] at h
      simp only [fnd,c,if_true]; exact fnd_end r t (by omega)
    · simp [pos,c] at h
theorem look_at : ∀ (l : List Rec) (t : Int),look l t = if h : pos l t < l.length then (if l[pos l t].1 = t then some l[pos l t].2 else none) else none
  | [],_ => by simp [look]
  | a :: r,t => by
    by_cases c : a.1 < t
    · have e : pos (a :: r) t = pos r t + 1 := by simp [pos,c]
      simp only [look,c,if_true,look_at r t,e,List.length_cons,Nat.add_lt_add_iff_right,List.getElem_cons_succ]
    · have e : pos (a :: r) t = 0 := by simp [pos,c]
      simp [look,c,e]
theorem F60_eq (x : Rec) (t : Int) : F60 (x,t) = some (if x.1 < t then -1 else if t < x.1 then 1 else 0) := by
  unfold F60 F87 F105
  by_cases h : x.1 < t
  · simp [h]
  · by_cases h2 : t < x.1 <;> simp [h,h2]
theorem sorted_of : ∀ (l : List Rec),(∀ j (h : j + 1 < l.length),l[j].1 < l[j + 1].1) → Sorted l
  | [],_ => List.Pairwise.nil
  | [a],_ => by simp [Sorted]
  | a :: b :: r,h => by
    have ih := sorted_of (b :: r) (fun j hj => h (j + 1) (by simpa using hj))
    refine List.pairwise_cons.2 ⟨fun y hy => ?_,ih⟩
    have h0 : a.1 < b.1 := h 0 (by simp)
    rcases List.mem_cons.1 hy with rfl | hy
    · exact h0
    · have := (List.pairwise_cons.1 ih).1 y hy
      omega
abbrev tR : Ty := .pair (.int .u64) (.slice 5 (.int .u8))
open Classical in
theorem F53_eq (l : List Rec) : F53 l = some (if okT l then 0 else 1) := by
  unfold F53
  by_cases h64 : 64 < l.length
  · have : (64 : Int) < (l.length : Int) := by omega
    have hn : ¬ okT l := fun h => by have := h.1; omega
    simp [this,hn]
  · have : ¬ (64 : Int) < (l.length : Int) := by omega
    simp only [this,decide_false,cond_false,both_self]
    refine lfp_rule (fun x => ∃ i : Nat,x.2 = (i : Int) ∧ i ≤ l.length ∧ (∀ j (h : j < l.length),j < i → l[j].2.length ≤ 4096) ∧ (∀ j (h : j + 1 < l.length),j + 1 < i → l[j].1 < l[j + 1].1)) (fun x => l.length - x.2.toNat)
      (fun _ => if okT l then 0 else 1) ?_ (0,0) ⟨0,rfl,by omega,by intro j _ hj; omega,by intro j _ hj; omega⟩
    rintro ⟨q,i'⟩ ⟨i,hi',hi,hV,hS⟩ rec hrec
    simp only at hi'
    subst hi'
    simp only
    by_cases hlt : i < l.length
    · have k1 : ((i : Int) < (l.length : Int)) := by omega
      simp only [k1,decide_true,cond_true,inb_true (Int.natCast_nonneg i) k1,rd_nat (t := tR) hlt]
      have next : l[i].2.length ≤ 4096 → (∀ h : 0 < i,l[i - 1].1 < l[i].1) → rec (q,IntKind.wrap .i64 ((i : Int) + 1)) = some (if okT l then 0 else 1) := by
        intro h1 h2
        rw [wrap_i64 (n := (i : Int) + 1) (by omega) (by omega)]
        refine hrec _ ⟨i + 1,by simp,by omega,fun j hj hji => ?_,fun j hj hji => ?_⟩ (by simp only; omega)
        · by_cases hje : j = i
          · subst hje; exact h1
          · exact hV j hj (by omega)
        · by_cases hje : j + 1 = i
          · have := h2 (by omega)
            subst hje
            exact this
          · exact hS j hj (by omega)
      by_cases c1 : 4096 < l[i].2.length
      · have : (4096 : Int) < (l[i].2.length : Int) := by omega
        have hn : ¬ okT l := fun h => by have := h.2.1 _ (List.getElem_mem hlt); omega
        simp [this,hn]
      · have c1' : ¬ (4096 : Int) < (l[i].2.length : Int) := by omega
        simp only [c1',decide_false,beq_self_eq_true,cond_true]
        by_cases c2 : 0 < i
        · have c2' : (0 : Int) < (i : Int) := by omega
          have hw : IntKind.wrap .i64 ((i : Int) - 1) = ((i - 1 : Nat) : Int) := by rw [wrap_i64 (by omega) (by omega)]; omega
          have hi1 : i - 1 < l.length := by omega
          have k2 : inb ((i - 1 : Nat) : Int) l.length = true := inb_true (by omega) (by omega)
          simp only [c2',decide_true,beq_self_eq_true,cond_true,hw,k2,rd_nat (t := tR) hi1,F60_eq,Option.bind_some]
          by_cases c3 : l[i - 1].1 < l[i].1
          · simp only [c3,if_true,show decide ((0 : Int) ≤ -1) = false from rfl,cond_false]
            exact next (by omega) (fun _ => c3)
          · have hn : ¬ okT l := fun h => by
              have := List.pairwise_iff_getElem.1 h.2.2 (i - 1) i hi1 hlt (by omega)
              exact c3 this
            have : decide ((0 : Int) ≤ (if l[i].1 < l[i - 1].1 then 1 else 0)) = true := by split <;> rfl
            simp only [c3,if_false,this,cond_true,hn]
        · have c2' : ¬ (0 : Int) < (i : Int) := by omega
          simp only [c2',decide_false,show (false == true) = false from rfl,cond_false]
          exact next (by omega) (fun h => absurd h c2)
    · have k1 : ¬ ((i : Int) < (l.length : Int)) := by omega
      have hok : okT l := by
        refine ⟨by omega,fun r hr => ?_,sorted_of l fun j hj => hS j hj (by omega)⟩
        obtain ⟨j,hj,rfl⟩ := List.getElem_of_mem hr
        exact hV j hj (by omega)
      simp only [k1,decide_false,cond_false,hok,if_true]
open Classical in
noncomputable def findT (l : List Rec) (t : Int) : List Int×Int := if okT l then (match look l t with | some v => (v,0) | none => ([],5)) else ([],1)
end Go.Proofs.YtgdfhijgjjcnjaaGreatDoor.RZ
namespace Go.Proofs.YtgdfhijgjjcnjaaGreatDoor.RZ
open Go Go.Fw Go.Proofs RB
end Go.Proofs.YtgdfhijgjjcnjaaGreatDoor.RZ
namespace Go.Proofs.YtgdfhijgjjcnjaaGreatDoor.RZ
open Go Go.Fw Go.Proofs
def Byte (n : Int) : Prop := 0 ≤ n ∧ n < 256
def bv (acc : Int) : List Int → Int
  | [] => acc
  | c :: r => bv (acc * 256 + c) r
theorem pow8 (k : Nat) : (2 : Int) ^ (8 * (k + 1)) = 2 ^ (8 * k) * 256 := by
  rw [show 8 * (k + 1) = 8 * k + 8 by omega,Int.pow_add]; rfl
theorem bv_div : ∀ (l : List Int) (a : Int),(∀ n ∈ l,Byte n) → bv a l / 2 ^ (8 * l.length) = a
  | [],a,_ => by simp [bv]
  | c :: r,a,h => by
    have hc := h c (by simp)
    have hp : (0 : Int) ≤ 2 ^ (8 * r.length) := Int.le_of_lt (Int.pow_pos (by omega))
    rw [bv,List.length_cons,pow8,← Int.ediv_ediv_of_nonneg hp,bv_div r _ (fun n hn => h n (by simp [hn]))]
    unfold Byte at hc
    omega
theorem dig_bv : ∀ (l : List Int) (a : Int),(∀ n ∈ l,Byte n) → dig (bv a l) l.length = l
  | [],a,_ => rfl
  | c :: r,a,h => by
    have hc := h c (by simp)
    have hr : ∀ n ∈ r,Byte n := fun n hn => h n (by simp [hn])
    rw [bv,List.length_cons,dig,dig_bv r _ hr,bv_div r _ hr]
    unfold Byte at hc
    congr 1
    omega
theorem bv_nonneg : ∀ (l : List Int) (a : Int),0 ≤ a → (∀ n ∈ l,Byte n) → 0 ≤ bv a l
  | [],a,h,_ => h
  | c :: r,a,h,hl => bv_nonneg r _ (by have := (hl c (by simp)).1; omega) (fun n hn => hl n (by simp [hn]))
theorem bv_snoc : ∀ (l : List Int) (a c : Int),bv a (l ++ [c]) = bv a l * 256 + c
  | [],a,c => rfl
  | d :: r,a,c => by simp only [List.cons_append,bv]; exact bv_snoc r _ c
theorem bv_lt : ∀ (l : List Int) (a : Int),(∀ n ∈ l,Byte n) → bv a l < (a + 1) * 2 ^ (8 * l.length)
  | [],a,_ => by simp [bv]; omega
  | c :: r,a,h => by
    have hc := h c (by simp)
    have hp : (0 : Int) < 2 ^ (8 * r.length) := Int.pow_pos (by omega)
    have := bv_lt r (a * 256 + c) (fun n hn => h n (by simp [hn]))
    rw [bv,List.length_cons,pow8]
    unfold Byte at hc
    have h2 : (a * 256 + c + 1) * 2 ^ (8 * r.length) ≤ (a + 1) * 256 * 2 ^ (8 * r.length) := Int.mul_le_mul_of_nonneg_right (by omega) (Int.le_of_lt hp)
    have h3 : (a + 1) * (2 ^ (8 * r.length) * 256) = (a + 1) * 256 * 2 ^ (8 * r.length) := by rw [Int.mul_comm (2 ^ _) 256,Int.mul_assoc]
    rw [h3]; omega
end Go.Proofs.YtgdfhijgjjcnjaaGreatDoor.RZ
namespace Go.Proofs.YtgdfhijgjjcnjaaGreatDoor.RZ
open Go Go.Fw Go.Proofs
theorem wrap_u64 {n : Int} (h0 : 0 ≤ n) (h1 : n < 18446744073709551616) : IntKind.wrap .u64 n = n :=
  wrap_id (wf_iff.2 ⟨by simpa [IntKind.min,IntKind.signed] using h0,by simp [IntKind.max,IntKind.signed,IntKind.bits]; omega⟩)
theorem or_bytes {a c : Int} (h0 : 0 ≤ a) (h1 : a < 72057594037927936) (hc : Byte c) : bitOp .or .u64 (a * 256) c = a * 256 + c := by
  obtain ⟨a,rfl⟩ := Int.eq_ofNat_of_zero_le h0
  obtain ⟨c,rfl⟩ := Int.eq_ofNat_of_zero_le hc.1
  have hc2 : c < 256 := by have := hc.2; omega
  show IntKind.wrap .u64 ((BitVec.ofInt 64 ((a : Int) * 256) ||| BitVec.ofInt 64 (c : Int)).toNat : Int) = _
  have e : (BitVec.ofInt 64 ((a : Int) * 256) ||| BitVec.ofInt 64 (c : Int)).toNat = a * 256 + c := by
    rw [BitVec.toNat_or]
    have e1 : (BitVec.ofInt 64 ((a : Int) * 256)).toNat = a * 256 := by
      rw [show ((a : Int) * 256) = ((a * 256 : Nat) : Int) by omega,BitVec.ofInt_natCast,BitVec.toNat_ofNat]; omega
    have e2 : (BitVec.ofInt 64 (c : Int)).toNat = c := by
      rw [BitVec.ofInt_natCast,BitVec.toNat_ofNat]; omega
    rw [e1,e2]
    have := Nat.two_pow_add_eq_or_of_lt (i := 8) (b := c) (by omega) a
    rw [show a * 256 = 2 ^ 8 * a by omega]; exact this.symm
  rw [e]
  exact (wrap_u64 (by omega) (by omega)).trans (by omega)
def wd (c : Int) : Nat := if c < 253 then 0 else if c = 253 then 2 else if c = 254 then 4 else 8
theorem F82_byte {c : Int} (h : Byte c) : F82 c = some (wd c : Int) := by
  unfold F82 wd
  unfold Byte at h
  by_cases h1 : c < 253
  · simp [h1]
  · by_cases h2 : c = 253
    · subst h2; rfl
    · by_cases h3 : c = 254
      · subst h3; rfl
      · have : c = 255 := by omega
        subst this; rfl
theorem wd_le (c : Int) : wd c ≤ 8 := by unfold wd; (repeat' split) <;> omega
def get1 : List Int → Int×Int×Int
  | [] => (0,0,3)
  | c :: r => if r.length < wd c then (0,0,3) else if wd c = 0 then (c,1,0) else
    if fst (bv 0 (r.take (wd c))) = c then (bv 0 (r.take (wd c)),(wd c : Int) + 1,0) else (0,0,2)
end Go.Proofs.YtgdfhijgjjcnjaaGreatDoor.RZ
namespace Go.Proofs.YtgdfhijgjjcnjaaGreatDoor.RZ
open Go Go.Fw Go.Proofs
end Go.Proofs.YtgdfhijgjjcnjaaGreatDoor.RZ
namespace Go.Proofs.YtgdfhijgjjcnjaaGreatDoor.RZ
open Go Go.Fw Go.Proofs
theorem wid_of_fst {n c : Int} (h0 : 0 ≤ n) (h : fst n = c) : wid n = wd c := by
  subst h
  unfold fst wid wd
  by_cases h1 : n < 253
  · simp [h1]
  · by_cases h2 : n < 65536
    · simp [h1,h2]
    · by_cases h3 : n < 4294967296
      · simp [h1,h2,h3]
      · simp [h1,h2,h3]
theorem enc_iff {c : Int} {s : List Int} (hs : ∀ n ∈ s,Byte n) (hl : s.length = wd c) : enc1 (bv 0 s) = c :: s ↔ fst (bv 0 s) = c := by
  have h0 := bv_nonneg s 0 (by omega) hs
  constructor
  · intro h; simp only [enc1,List.cons.injEq] at h; exact h.1
  · intro h
    simp only [enc1,h,wid_of_fst h0 h,← hl,dig_bv s 0 hs]
end Go.Proofs.YtgdfhijgjjcnjaaGreatDoor.RZ
namespace Go.Proofs.YtgdfhijgjjcnjaaGreatDoor.RZ
open Go Go.Fw Go.Proofs
theorem bv_lt64 {s : List Int} (hs : ∀ n ∈ s,Byte n) (hl : s.length ≤ 8) : bv 0 s < 18446744073709551616 := by
  have b1 := bv_lt s 0 hs
  have : (2 : Int) ^ (8 * s.length) ≤ 2 ^ 64 := by
    have := Nat.pow_le_pow_right (n := 2) (by omega) (show 8 * s.length ≤ 64 by omega)
    exact_mod_cast this
  simp at b1; omega
theorem fst_byte {n : Int} (h : 0 ≤ n) : Byte (fst n) := by unfold fst Byte; (repeat' split) <;> omega
theorem dig_byte (n : Int) : ∀ k,∀ d ∈ dig n k,Byte d
  | 0,d,h => by simp [dig] at h
  | k + 1,d,h => by
    simp only [dig,List.mem_cons] at h
    rcases h with rfl | h
    · unfold Byte; omega
    · exact dig_byte n k d h
theorem enc1_byte {n : Int} (h : 0 ≤ n) : ∀ d ∈ enc1 n,Byte d := by
  intro d hd
  simp only [enc1,List.mem_cons] at hd
  rcases hd with rfl | hd
  · exact fst_byte h
  · exact dig_byte _ _ _ hd
theorem encs_byte {l : List Int} (h : ∀ n ∈ l,0 ≤ n) : ∀ d ∈ l.flatMap enc1,Byte d := by
  intro d hd
  obtain ⟨n,hn,hd⟩ := List.mem_flatMap.1 hd
  exact enc1_byte (h n hn) d hd
theorem bv_dig (n : Int) : ∀ (k : Nat) (a : Int),bv a (dig n k) = a * 2 ^ (8 * k) + n % 2 ^ (8 * k)
  | 0,a => by simp [dig,bv]
  | k + 1,a => by
    rw [dig,bv,bv_dig n k,pow8]
    have hp : (0 : Int) < 2 ^ (8 * k) := Int.pow_pos (by omega)
    have e1 : n % (2 ^ (8 * k) * 256) = 2 ^ (8 * k) * (n / 2 ^ (8 * k) % 256) + n % 2 ^ (8 * k) := by
      rw [Int.emod_def,Int.emod_def n (2 ^ (8 * k)),Int.emod_def (n / 2 ^ (8 * k)) 256,← Int.ediv_ediv_of_nonneg (Int.le_of_lt hp),Int.mul_sub,Int.mul_assoc]; omega
    rw [e1,Int.add_mul,Int.mul_assoc,Int.mul_comm 256 (2 ^ (8 * k)),Int.mul_comm (n / 2 ^ (8 * k) % 256)]
    omega
theorem bv_dig_wid {n : Int} (h0 : 0 ≤ n) (h1 : n < 18446744073709551616) (hw : wid n ≠ 0) : bv 0 (dig n (wid n)) = n := by
  rw [bv_dig]
  have : n < 2 ^ (8 * wid n) := by
    unfold wid at hw ⊢
    by_cases a1 : n < 253
    · simp [a1] at hw
    · by_cases a2 : n < 65536
      · simp [a1,a2]
      · by_cases a3 : n < 4294967296
        · simp [a1,a2,a3]
        · simp [a1,a2,a3]; omega
  rw [Int.emod_eq_of_lt h0 this]; omega
theorem get1_enc {n : Int} (h0 : 0 ≤ n) (h1 : n < 18446744073709551616) (m : List Int) : get1 (enc1 n ++ m) = (n,(wid n : Int) + 1,0) := by
  have hw : wd (fst n) = wid n := (wid_of_fst h0 rfl).symm
  have hd := dig_len n (wid n)
  simp only [enc1,List.cons_append,get1,hw]
  rw [if_neg (by rw [List.length_append,hd]; omega)]
  by_cases h2 : wid n = 0
  · rw [if_pos h2,h2]
    have : n < 253 := by
      unfold wid at h2
      by_cases q : n < 253
      · exact q
      · rw [if_neg q] at h2; (split at h2 <;> (try split at h2)) <;> omega
    simp [fst,this]
  · rw [if_neg h2]
    have e : (dig n (wid n) ++ m).take (wid n) = dig n (wid n) := by
      rw [List.take_append_of_le_length (by omega),List.take_of_length_le (by omega)]
    rw [e,bv_dig_wid h0 h1 h2,if_pos rfl]
theorem get1_ok {l : List Int} (h : ∀ n ∈ l,Byte n) {y m e : Int} (hg : get1 l = (y,m,e)) :
    (e = 0 ∧ 0 ≤ y ∧ y < 18446744073709551616 ∧ m = (wid y : Int) + 1 ∧ m ≤ l.length ∧ enc1 y = l.take m.toNat) ∨ (e ≠ 0 ∧ y = 0 ∧ m = 0) := by
  cases l with
  | nil => simp [get1] at hg; right; omega
  | cons c r =>
    have hc := h c (by simp)
    have hr : ∀ n ∈ r,Byte n := fun n hn => h n (by simp [hn])
    have hw := wd_le c
    simp only [get1] at hg
    have hc1 := hc.1
    have hc2 := hc.2
    by_cases h1 : r.length < wd c
    · rw [if_pos h1] at hg; simp only [Prod.mk.injEq] at hg; right; omega
    · rw [if_neg h1] at hg
      by_cases h2 : wd c = 0
      · rw [if_pos h2] at hg
        simp only [Prod.mk.injEq] at hg
        obtain ⟨rfl,rfl,rfl⟩ := hg
        have : c < 253 := by
          unfold wd at h2
          by_cases q : c < 253
          · exact q
          · rw [if_neg q] at h2; (split at h2 <;> (try split at h2)) <;> omega
        left
        refine ⟨rfl,hc1,by omega,by simp [wid,this],by simp; omega,by simp [enc1,fst,wid,this,dig]⟩
      · rw [if_neg h2] at hg
        have hlen : (r.take (wd c)).length = wd c := by rw [List.length_take]; omega
        have hb : ∀ n ∈ r.take (wd c),Byte n := fun n hn => hr n (List.mem_of_mem_take hn)
        have hbv := bv_nonneg (r.take (wd c)) 0 (by omega) hb
        by_cases hf : fst (bv 0 (r.take (wd c))) = c
        · rw [if_pos hf] at hg
          simp only [Prod.mk.injEq] at hg
          obtain ⟨rfl,rfl,rfl⟩ := hg
          left
          refine ⟨rfl,hbv,bv_lt64 hb (by omega),by rw [wid_of_fst hbv hf],by simp; omega,?_⟩
          rw [(enc_iff hb hlen).2 hf,show ((wd c : Int) + 1).toNat = wd c + 1 by omega]; rfl
        · rw [if_neg hf] at hg; simp only [Prod.mk.injEq] at hg; right; omega
end Go.Proofs.YtgdfhijgjjcnjaaGreatDoor.RZ
namespace Go.Proofs.YtgdfhijgjjcnjaaGreatDoor.RZ
open Go Go.Fw Go.Proofs RB
set_option maxRecDepth 20000
def Bs (l : List Int) : Prop := ∀ n ∈ l,Byte n
def OkV (r : Rec) : Prop := (0 ≤ r.1 ∧ r.1 < 18446744073709551616) ∧ Bs r.2
def encR (r : Rec) : List Int := enc1 r.1 ++ (enc1 (r.2.length : Int) ++ r.2)
theorem enc1_len (n : Int) : (enc1 n).length ≤ 9 := by
  have : wid n ≤ 8 := by unfold wid; (repeat' split) <;> omega
  simp only [enc1,List.length_cons,dig_len]; omega
theorem encR_len (r : Rec) (h : r.2.length ≤ 4096) : (encR r).length ≤ 4114 := by
  have h1 := enc1_len r.1
  have h2 := enc1_len (r.2.length : Int)
  simp only [encR,List.length_append]; omega
theorem encs_len : ∀ (l : List Rec),(∀ r ∈ l,r.2.length ≤ 4096) → (l.flatMap encR).length ≤ 4114 * l.length
  | [],_ => by simp
  | a :: r,h => by
    have h1 := encR_len a (h a (by simp))
    have := encs_len r (fun x hx => h x (by simp [hx]))
    simp only [List.flatMap_cons,List.length_append,List.length_cons]; omega
theorem F49_two {t n : Int} (h0 : 0 ≤ t) (h1 : 0 ≤ n) : F49 [t,n] = some (enc1 t ++ enc1 n) := by
  rw [F49_eq (by intro x hx; simp only [List.mem_cons,List.not_mem_nil,or_false] at hx; rcases hx with rfl | rfl <;> assumption) (by simp)]
  simp
open Classical in
noncomputable def putT (l : List Rec) : List Int×Int := if okT l then (if 65535 < (l.flatMap encR).length then ([],4) else (l.flatMap encR,0)) else ([],1)
theorem F20_eq {l : List Rec} (hv : ∀ r ∈ l,OkV r) : F20 l = some (putT l) := by
  unfold F20 putT
  simp only [both_self,F53_eq,Option.bind_some]
  by_cases ho : okT l
  · have h64 := ho.1
    simp only [ho,if_true,decide_true,Bool.not_true,cond_false]
    refine lfp_rule (fun x => ∃ i : Nat,x.2 = (i : Int) ∧ i ≤ l.length ∧ x.1 = (l.take i).flatMap encR) (fun x => l.length - x.2.toNat)
      (fun _ => if 65535 < (l.flatMap encR).length then ([],4) else (l.flatMap encR,0)) ?_ (([] : List Int),0) ⟨0,rfl,by omega,by simp⟩
    rintro ⟨acc,i'⟩ ⟨i,hi',hi,hacc⟩ rec hrec
    simp only at hi' hacc
    subst hi'
    simp only
    by_cases hlt : i < l.length
    · have k1 : ((i : Int) < (l.length : Int)) := by omega
      have hr := hv _ (List.getElem_mem hlt)
      have hV := ho.2.1 _ (List.getElem_mem hlt)
      have hal := encs_len (l.take i) (fun r hr => ho.2.1 r (List.mem_of_mem_take hr))
      rw [List.length_take] at hal
      have e1 := enc1_len l[i].1
      have e2 := enc1_len (l[i].2.length : Int)
      have k3 : (acc.length + (enc1 l[i].1 ++ enc1 (l[i].2.length : Int)).length) * 1 ≤ LIM := by
        rw [hacc,List.length_append]; unfold LIM; omega
      have k4 : ((acc ++ (enc1 l[i].1 ++ enc1 (l[i].2.length : Int))).length + l[i].2.length) * 1 ≤ LIM := by
        rw [hacc,List.length_append,List.length_append]; unfold LIM; omega
      have hw : IntKind.wrap .u64 (l[i].2.length : Int) = (l[i].2.length : Int) := RB.wrap_u64 (by omega) (by omega)
      simp only [k1,decide_true,cond_true,inb_true (Int.natCast_nonneg i) k1,rd_nat (t := tR) hlt,hw,F49_two hr.1.1 (Int.natCast_nonneg l[i].2.length),Option.bind_some,k3,k4]
      rw [RB.wrap_i64 (n := (i : Int) + 1) (by omega) (by omega)]
      refine hrec _ ⟨i + 1,by simp,by omega,?_⟩ (by simp only; omega)
      rw [List.take_succ_eq_append_getElem hlt,List.flatMap_append,hacc]
      simp [encR]
    · have k1 : ¬ ((i : Int) < (l.length : Int)) := by omega
      have : i = l.length := by omega
      subst this
      rw [List.take_length] at hacc
      subst hacc
      simp only [k1,decide_false,cond_false]
      by_cases h : 65535 < (l.flatMap encR).length
      · have h' : (65535 : Int) < ((l.flatMap encR).length : Int) := by omega
        simp only [h,h',decide_true,cond_true,if_true]
      · have h' : ¬ (65535 : Int) < ((l.flatMap encR).length : Int) := by omega
        simp only [h,h',decide_false,cond_false,if_false]
  · simp [ho]
def lastT (acc : List Rec) : Int := match acc.getLast? with | some r => r.1 | none => -1
def goT (acc : List Rec) (b : List Int) : List Rec×Int :=
  if b = [] then (acc,0) else if acc.length = 64 then ([],4) else
  if (get1 b).2.2 ≠ 0 then ([],(get1 b).2.2) else
  if ¬ lastT acc < (get1 b).1 then ([],2) else
  if (get1 (b.drop (get1 b).2.1.toNat)).2.2 ≠ 0 then ([],(get1 (b.drop (get1 b).2.1.toNat)).2.2) else
  if 4096 < (get1 (b.drop (get1 b).2.1.toNat)).1 then ([],4) else
  if (((b.drop (get1 b).2.1.toNat).drop (get1 (b.drop (get1 b).2.1.toNat)).2.1.toNat).length : Int) < (get1 (b.drop (get1 b).2.1.toNat)).1 then ([],3) else
  if h : (((b.drop (get1 b).2.1.toNat).drop (get1 (b.drop (get1 b).2.1.toNat)).2.1.toNat).drop (get1 (b.drop (get1 b).2.1.toNat)).1.toNat).length < b.length then
    goT (acc ++ [((get1 b).1,((b.drop (get1 b).2.1.toNat).drop (get1 (b.drop (get1 b).2.1.toNat)).2.1.toNat).take (get1 (b.drop (get1 b).2.1.toNat)).1.toNat)])
      (((b.drop (get1 b).2.1.toNat).drop (get1 (b.drop (get1 b).2.1.toNat)).2.1.toNat).drop (get1 (b.drop (get1 b).2.1.toNat)).1.toNat)
  else ([],0)
  termination_by b.length
  decreasing_by exact h
theorem get1_cases {b : List Int} (h : Bs b) : ((get1 b).2.2 = 0 ∧ (0 ≤ (get1 b).1 ∧ (get1 b).1 < 18446744073709551616) ∧ inb (get1 b).2.1 (b.length + 1) = true ∧ enc1 (get1 b).1 ++ b.drop (get1 b).2.1.toNat = b ∧ (b.drop (get1 b).2.1.toNat).length < b.length) ∨
    ((get1 b).2.2 ≠ 0 ∧ (get1 b).1 = 0 ∧ (get1 b).2.1 = 0) := by
  rcases get1_ok h (y := (get1 b).1) (m := (get1 b).2.1) (e := (get1 b).2.2) rfl with ⟨h1,h2,h3,h4,h5,h6⟩ | ⟨h1,h2,h3⟩
  · left
    refine ⟨h1,⟨h2,h3⟩,RB.inb_true (by omega) (by omega),by rw [h6]; exact List.take_append_drop _ _,?_⟩
    rw [List.length_drop]; omega
  · right; exact ⟨h1,h2,h3⟩
theorem bs_drop {b : List Int} (h : Bs b) (k : Nat) : Bs (b.drop k) := fun n hn => h n (List.mem_of_mem_drop hn)
end Go.Proofs.YtgdfhijgjjcnjaaGreatDoor.RZ
namespace Go.Proofs.YtgdfhijgjjcnjaaGreatDoor.RZ
open Go Go.Fw Go.Proofs RB
theorem lastT_get {acc : List Rec} (h : 0 < acc.length) : lastT acc = (acc[acc.length - 1]'(by omega)).1 := by
  unfold lastT
  rw [List.getLast?_eq_getElem?,List.getElem?_eq_getElem (by omega)]
noncomputable def getT (b : List Int) : List Rec×Int := if 65535 < b.length then ([],4) else goT [] b
end Go.Proofs.YtgdfhijgjjcnjaaGreatDoor.RZ
namespace Go.Proofs.YtgdfhijgjjcnjaaGreatDoor.RZ
open Go Go.Fw Go.Proofs RB
theorem drop_enc (n : Int) (m : List Int) : (enc1 n ++ m).drop ((wid n : Int) + 1).toNat = m := by
  have : (enc1 n).length = ((wid n : Int) + 1).toNat := by simp only [enc1,List.length_cons,dig_len]; omega
  rw [← this,List.drop_left]
theorem enc1_ne (n : Int) (m : List Int) : enc1 n ++ m ≠ [] := by simp [enc1]
theorem lastT_lt {acc : List Rec} {r : Rec} {l : List Rec} (h : Sorted (acc ++ r :: l)) (h0 : 0 ≤ r.1) : lastT acc < r.1 := by
  by_cases ha : 0 < acc.length
  · rw [lastT_get ha]
    exact (List.pairwise_append.1 h).2.2 _ (List.getElem_mem _) r (by simp)
  · have : acc = [] := List.length_eq_zero_iff.1 (by omega)
    subst this
    show (-1 : Int) < _
    omega
theorem goT_nil (acc : List Rec) : goT acc [] = (acc,0) := by rw [goT]; simp
theorem goT_enc : ∀ (l acc : List Rec),(∀ r ∈ l,OkV r ∧ r.2.length ≤ 4096) → Sorted (acc ++ l) → (acc ++ l).length ≤ 64 → goT acc (l.flatMap encR) = (acc ++ l,0)
  | [],acc,_,_,_ => by simp [goT_nil]
  | r :: l,acc,hv,hs,hlen => by
    have hr := hv r (by simp)
    have ih := goT_enc l (acc ++ [r]) (fun x hx => hv x (by simp [hx])) (by simpa using hs) (by simpa using hlen)
    have hb : (r :: l).flatMap encR = enc1 r.1 ++ (enc1 (r.2.length : Int) ++ (r.2 ++ l.flatMap encR)) := by simp [encR]
    rw [hb]
    have h1 := get1_enc hr.1.1.1 hr.1.1.2 (enc1 (r.2.length : Int) ++ (r.2 ++ l.flatMap encR))
    have h2 := get1_enc (n := (r.2.length : Int)) (by omega) (by omega) (r.2 ++ l.flatMap encR)
    have hlen' : ¬ acc.length = 64 := by simp only [List.length_append,List.length_cons] at hlen; omega
    rw [goT,if_neg (enc1_ne _ _),if_neg hlen']
    simp only [h1,drop_enc,h2,ne_eq,not_true_eq_false,if_false,lastT_lt hs hr.1.1.1,Int.toNat_natCast,List.take_left,List.drop_left]
    have c1 : ¬ (4096 : Int) < (r.2.length : Int) := by omega
    have c2 : ¬ ((r.2 ++ l.flatMap encR).length : Int) < (r.2.length : Int) := by rw [List.length_append]; omega
    have c3 : (l.flatMap encR).length < (enc1 r.1 ++ (enc1 (r.2.length : Int) ++ (r.2 ++ l.flatMap encR))).length := by
      simp only [List.length_append,enc1,List.length_cons]; omega
    simp only [c1,c2,if_false,c3,dite_true]
    show goT (acc ++ [r]) (l.flatMap encR) = _
    rw [ih]
    simp
theorem goT_ok : ∀ (n : Nat) (b : List Int) (acc m : List Rec),b.length ≤ n → Bs b → Sorted acc → acc.length ≤ 64 → goT acc b = (m,0) →
    ∃ m',m = acc ++ m' ∧ b = m'.flatMap encR ∧ (∀ r ∈ m',OkV r ∧ r.2.length ≤ 4096) ∧ Sorted m ∧ m.length ≤ 64 := by
  intro n
  induction n with
  | zero =>
    intro b acc m hn hb hs hl h
    have : b = [] := List.length_eq_zero_iff.1 (by omega)
    subst this
    rw [goT_nil] at h
    simp only [Prod.mk.injEq,and_true] at h
    subst h
    exact ⟨[],by simp,by simp,by simp,hs,hl⟩
  | succ n ih =>
    intro b acc m hn hb hs hl h
    rw [goT] at h
    by_cases hbn : b = []
    · subst hbn
      rw [if_pos rfl] at h
      simp only [Prod.mk.injEq,and_true] at h
      subst h
      exact ⟨[],by simp,by simp,by simp,hs,hl⟩
    · rw [if_neg hbn] at h
      by_cases h64 : acc.length = 64
      · rw [if_pos h64] at h; simp at h
      · rw [if_neg h64] at h
        rcases get1_cases hb with ⟨g1,g2,g3,g4,g5⟩ | ⟨g1,g2,g3⟩
        · rw [if_neg (show ¬ ((get1 b).2.2 ≠ 0) from fun q => q g1)] at h
          by_cases hlt : lastT acc < (get1 b).1
          · rw [if_neg (show ¬ ¬ lastT acc < (get1 b).1 from fun q => q hlt)] at h
            have hb1 := bs_drop hb (get1 b).2.1.toNat
            generalize hB1 : b.drop (get1 b).2.1.toNat = b1 at *
            rcases get1_cases hb1 with ⟨p1,p2,p3,p4,p5⟩ | ⟨p1,p2,p3⟩
            · rw [if_neg (show ¬ ((get1 b1).2.2 ≠ 0) from fun q => q p1)] at h
              have hb2 := bs_drop hb1 (get1 b1).2.1.toNat
              generalize hB2 : b1.drop (get1 b1).2.1.toNat = b2 at *
              by_cases c1 : 4096 < (get1 b1).1
              · rw [if_pos c1] at h; simp at h
              · rw [if_neg c1] at h
                by_cases c2 : (b2.length : Int) < (get1 b1).1
                · rw [if_pos c2] at h; simp at h
                · rw [if_neg c2] at h
                  have c3 : (b2.drop (get1 b1).1.toNat).length < b.length := by rw [List.length_drop]; omega
                  rw [dif_pos c3] at h
                  have htl : ((b2.take (get1 b1).1.toNat).length : Int) = (get1 b1).1 := by rw [List.length_take]; omega
                  have hs' : Sorted (acc ++ [((get1 b).1,b2.take (get1 b1).1.toNat)]) := by
                    refine List.pairwise_append.2 ⟨hs,by simp,fun x hx y hy => ?_⟩
                    simp only [List.mem_singleton] at hy
                    subst hy
                    obtain ⟨j,hj,rfl⟩ := List.getElem_of_mem hx
                    have ha : 0 < acc.length := by omega
                    rw [lastT_get ha] at hlt
                    by_cases hje : j = acc.length - 1
                    · subst hje; exact hlt
                    · have := List.pairwise_iff_getElem.1 hs j (acc.length - 1) hj (by omega) (by omega)
                      simp only; omega
                  obtain ⟨m',hm,hbm,hv,hsm,hlm⟩ := ih _ _ _ (by omega) (bs_drop hb2 _) hs' (by simp only [List.length_append,List.length_singleton]; omega) h
                  refine ⟨((get1 b).1,b2.take (get1 b1).1.toNat) :: m',by rw [hm]; simp,?_,?_,hsm,hlm⟩
                  · rw [List.flatMap_cons,← hbm]
                    simp only [encR]
                    rw [htl]
                    simp only [List.append_assoc,List.take_append_drop,p4,g4]
                  · intro r hr
                    rcases List.mem_cons.1 hr with rfl | hr
                    · exact ⟨⟨g2,fun x hx => hb2 x (List.mem_of_mem_take hx)⟩,by simp only; omega⟩
                    · exact hv r hr
            · rw [if_pos p1] at h
              simp only [Prod.mk.injEq] at h
              exact absurd h.2 p1
          · rw [if_pos hlt] at h; simp at h
        · rw [if_pos g1] at h
          simp only [Prod.mk.injEq] at h
          exact absurd h.2 g1
theorem getT_ok {b : List Int} {m : List Rec} (hb : Bs b) (h : getT b = (m,0)) : (∀ r ∈ m,OkV r) ∧ okT m ∧ putT m = (b,0) := by
  unfold getT at h
  by_cases hl : 65535 < b.length
  · rw [if_pos hl] at h; simp at h
  · rw [if_neg hl] at h
    obtain ⟨m',hm,hbm,hv,hs,hlen⟩ := goT_ok _ b [] m (Nat.le_refl _) hb (by simp [Sorted]) (by simp) h
    rw [List.nil_append] at hm
    subst hm
    have ho : okT m := ⟨hlen,fun r hr => (hv r hr).2,hs⟩
    refine ⟨fun r hr => (hv r hr).1,ho,?_⟩
    unfold putT
    rw [if_pos ho,← hbm,if_neg hl]
end Go.Proofs.YtgdfhijgjjcnjaaGreatDoor.RZ
