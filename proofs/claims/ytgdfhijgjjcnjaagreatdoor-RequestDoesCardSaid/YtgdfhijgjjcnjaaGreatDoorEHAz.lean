/- Part of a proof: what the program's functions come to. -/
import Derived.Test.YtgdfhijgjjcnjaaGreatDoorEGGHz
set_option linter.unusedVariables false
set_option linter.unusedSimpArgs false
namespace Go.Proofs.YtgdfhijgjjcnjaaGreatDoor.RB
open Go Go.Fw
end Go.Proofs.YtgdfhijgjjcnjaaGreatDoor.RB
namespace Go.Proofs.YtgdfhijgjjcnjaaGreatDoor.RZ
open Go Go.Fw Go.Proofs
end Go.Proofs.YtgdfhijgjjcnjaaGreatDoor.RZ
namespace Go.Proofs.YtgdfhijgjjcnjaaGreatDoor.RZ
open Go Go.Fw Go.Proofs
end Go.Proofs.YtgdfhijgjjcnjaaGreatDoor.RZ
namespace Go.Proofs.YtgdfhijgjjcnjaaGreatDoor.RZ
open Go Go.Fw Go.Proofs RB
end Go.Proofs.YtgdfhijgjjcnjaaGreatDoor.RZ
namespace Go.Proofs.YtgdfhijgjjcnjaaGreatDoor.RZ
open Go Go.Fw Go.Proofs RB
end Go.Proofs.YtgdfhijgjjcnjaaGreatDoor.RZ
namespace Go.Proofs.YtgdfhijgjjcnjaaGreatDoor.RZ
open Go Go.Fw Go.Proofs
end Go.Proofs.YtgdfhijgjjcnjaaGreatDoor.RZ
namespace Go.Proofs.YtgdfhijgjjcnjaaGreatDoor.RZ
open Go Go.Fw Go.Proofs
end Go.Proofs.YtgdfhijgjjcnjaaGreatDoor.RZ
namespace Go.Proofs.YtgdfhijgjjcnjaaGreatDoor.RZ
open Go Go.Fw Go.Proofs
end Go.Proofs.YtgdfhijgjjcnjaaGreatDoor.RZ
namespace Go.Proofs.YtgdfhijgjjcnjaaGreatDoor.RZ
open Go Go.Fw Go.Proofs
end Go.Proofs.YtgdfhijgjjcnjaaGreatDoor.RZ
namespace Go.Proofs.YtgdfhijgjjcnjaaGreatDoor.RZ
open Go Go.Fw Go.Proofs
end Go.Proofs.YtgdfhijgjjcnjaaGreatDoor.RZ
namespace Go.Proofs.YtgdfhijgjjcnjaaGreatDoor.RZ
open Go Go.Fw Go.Proofs RB
set_option maxRecDepth 20000
end Go.Proofs.YtgdfhijgjjcnjaaGreatDoor.RZ
namespace Go.Proofs.YtgdfhijgjjcnjaaGreatDoor.RZ
open Go Go.Fw Go.Proofs RB
end Go.Proofs.YtgdfhijgjjcnjaaGreatDoor.RZ
namespace Go.Proofs.YtgdfhijgjjcnjaaGreatDoor.RZ
open Go Go.Fw Go.Proofs RB
end Go.Proofs.YtgdfhijgjjcnjaaGreatDoor.RZ
namespace Go.Proofs.YtgdfhijgjjcnjaaGreatDoor.RZ
open Go Go.Fw Go.Proofs RB
set_option maxRecDepth 20000
end Go.Proofs.YtgdfhijgjjcnjaaGreatDoor.RZ
namespace Go.Proofs.YtgdfhijgjjcnjaaGreatDoor.RZ
open Go Go.Fw Go.Proofs RB
set_option maxRecDepth 20000
end Go.Proofs.YtgdfhijgjjcnjaaGreatDoor.RZ
namespace Go.Proofs.YtgdfhijgjjcnjaaGreatDoor.RZ
open Go Go.Fw Go.Proofs RB
set_option maxRecDepth 20000
end Go.Proofs.YtgdfhijgjjcnjaaGreatDoor.RZ
namespace Go.Proofs.YtgdfhijgjjcnjaaGreatDoor.RZ
open Go Go.Fw Go.Proofs RB
set_option maxRecDepth 20000
end Go.Proofs.YtgdfhijgjjcnjaaGreatDoor.RZ
namespace Go.Proofs.YtgdfhijgjjcnjaaGreatDoor.RZ
open Go Go.Fw Go.Proofs RB
set_option maxRecDepth 20000
end Go.Proofs.YtgdfhijgjjcnjaaGreatDoor.RZ
namespace Go.Proofs.YtgdfhijgjjcnjaaGreatDoor.RZ
open Go Go.Fw Go.Proofs RB
set_option maxRecDepth 20000
theorem F91_byte {c : Int} (h : Byte c) : F91 c = some (1 + wd c : Int) := by
  unfold F91 wd
  unfold Byte at h
  by_cases h1 : c < 253
  · simp [h1]
  · by_cases h2 : c = 253
    · subst h2; rfl
    · by_cases h3 : c = 254
      · subst h3; rfl
      · have : c = 255 := by omega
        subst this; rfl
theorem dig_snoc (n : Int) : ∀ k,dig n (k + 1) = dig (n / 256) k ++ [n % 256]
  | 0 => by simp [dig]
  | k + 1 => by
    rw [dig,dig_snoc n k]
    conv => rhs; rw [dig]
    have : n / 2 ^ (8 * (k + 1)) = n / 256 / 2 ^ (8 * k) := by
      rw [pow8,Int.mul_comm,← Int.ediv_ediv_of_nonneg (by omega)]
    rw [this]; rfl
theorem F104_eq {n : Int} (h0 : 0 ≤ n) (h1 : n < 18446744073709551616) {k : Nat} (hk : k ≤ 8) : F104 (n,(k : Int)) = some (dig n k) := by
  unfold F104
  refine (lfp_rule (B := B104) (fun x => 0 ≤ x.1 ∧ x.1 < 18446744073709551616 ∧ 0 ≤ x.2 ∧ x.2 ≤ 8) (fun x => x.2.toNat) (fun x => dig x.1 x.2.toNat) ?_ (n,(k : Int)) ⟨h0,h1,by simp,by simp; omega⟩).trans (by simp)
  rintro ⟨m,j⟩ ⟨g0,g1,g2,g3⟩ rec hrec
  simp only at g0 g1 g2 g3
  unfold B104
  by_cases hj : j = 0
  · subst hj; rfl
  · simp only [hj,decide_false,cond_false]
    obtain ⟨q,hq⟩ : ∃ q : Nat,j = (q : Int) + 1 := ⟨(j - 1).toNat,by omega⟩
    subst hq
    have e1 : Int.tdiv m 256 = m / 256 := Int.tdiv_eq_ediv_of_nonneg g0
    have e2 : Int.tmod m 256 = m % 256 := Int.tmod_eq_emod_of_nonneg g0
    rw [e1,e2,wrap_u64 (n := m / 256) (by omega) (by omega),wrap_i64 (by omega) (by omega),wrap_u8]
    rw [hrec (m / 256,(q : Int) + 1 - 1) ⟨by simp only; omega,by simp only; omega,by simp only; omega,by simp only; omega⟩ (by simp only; omega)]
    have e3 : ((q : Int) + 1 - 1).toNat = q := by omega
    have e4 : ((q : Int) + 1).toNat = q + 1 := by omega
    have e5 : (dig (m / 256) q).length + 1 ≤ LIM := by rw [dig_len]; unfold LIM; omega
    simp only [Option.bind_some,e3,e4,Nat.mul_one,e5,decide_true,cond_true]
    rw [dig_snoc,Int.emod_emod_of_dvd _ (by decide)]
theorem F85_eq {n : Int} (h0 : 0 ≤ n) (h1 : n < 18446744073709551616) : F85 n = some (enc1 n) := by
  have k2 := F104_eq h0 h1 (k := 2) (by omega)
  have k4 := F104_eq h0 h1 (k := 4) (by omega)
  have k8 := F104_eq h0 h1 (k := 8) (by omega)
  rw [show ((2 : Nat) : Int) = 2 from rfl] at k2
  rw [show ((4 : Nat) : Int) = 4 from rfl] at k4
  rw [show ((8 : Nat) : Int) = 8 from rfl] at k8
  unfold F85 enc1 fst wid
  have l2 : ([253].length + (dig n 2).length) * 1 ≤ LIM := by rw [dig_len]; unfold LIM; decide
  have l4 : ([254].length + (dig n 4).length) * 1 ≤ LIM := by rw [dig_len]; unfold LIM; decide
  have l8 : ([255].length + (dig n 8).length) * 1 ≤ LIM := by rw [dig_len]; unfold LIM; decide
  by_cases a1 : n < 253
  · have : n % 256 = n := by omega
    simp [a1,wrap_u8,this,dig]
  · by_cases a2 : n < 65536
    · simp only [a1,a2,decide_true,decide_false,cond_true,cond_false,if_false,if_true,k2,Option.bind_some]
      rw [decide_eq_true (by rw [dig_len]; unfold LIM; decide)]; rfl
    · by_cases a3 : n < 4294967296
      · simp only [a1,a2,a3,decide_true,decide_false,cond_true,cond_false,if_false,if_true,k4,Option.bind_some]
        rw [decide_eq_true (by rw [dig_len]; unfold LIM; decide)]; rfl
      · simp only [a1,a2,a3,decide_true,decide_false,cond_true,cond_false,if_false,if_true,k8,Option.bind_some]
        rw [decide_eq_true (by rw [dig_len]; unfold LIM; decide)]; rfl
theorem loopB {Q : Type} {s : List Int} {a : Int} {r : Int → Option Q} {res : Q} (hs : ∀ n ∈ s,Byte n) (hl : s.length ≤ 8) (h0 : 0 ≤ a) (h1 : a < 256) (ha : a = 0 ∨ s = []) (hr : r (bv a s) = some res) :
    lfp (fun (rec3 : (Int×Int) → Option Q) (x3 : Int×Int) =>
      bif decide (x3.2 < (s.length : Int)) then (
      bif inb x3.2 s.length then
      rec3 ((IntKind.wrap .u64 ((IntKind.wrap .u64 (256 * x3.1)) + (IntKind.wrap .u64 (rd (.int .u8) s x3.2)))),(IntKind.wrap .i64 (x3.2 + 1)))
      else none)
      else r x3.1) (a,0) = some res := by
  refine lfp_rule (fun x => ∃ i : Nat,x.2 = (i : Int) ∧ i ≤ s.length ∧ x.1 = bv a (s.take i)) (fun x => s.length - x.2.toNat) (fun _ => res) ?_ (a,(0 : Int)) ⟨0,rfl,by omega,rfl⟩
  rintro ⟨t,i'⟩ ⟨i,rfl,hi,rfl⟩ rec hrec
  simp only
  by_cases hlt : i < s.length
  · have k1 : ((i : Int) < (s.length : Int)) := by omega
    have ha0 : a = 0 := by rcases ha with h | h; exact h; subst h; simp at hlt
    subst ha0
    obtain ⟨hh,hrd⟩ := rd_get (t := .int .u8) (l := s) (i := i) (by omega) k1
    have hrd2 : rd (.int .u8) s i = s[i] := by rw [hrd]; simp
    have hby : Byte (rd (.int .u8) s i) := by rw [hrd2]; exact hs _ (List.getElem_mem _)
    have hbi : ∀ n ∈ s.take i,Byte n := fun n hn => hs n (List.mem_of_mem_take hn)
    have b0 := bv_nonneg (s.take i) 0 (by omega) hbi
    have b1 := bv_lt (s.take i) 0 hbi
    have hli : (s.take i).length = i := by rw [List.length_take]; omega
    have b2 : bv 0 (s.take i) < 72057594037927936 := by
      rw [hli] at b1
      have : (2 : Int) ^ (8 * i) ≤ 2 ^ 56 := by
        have := Nat.pow_le_pow_right (n := 2) (by omega) (show 8 * i ≤ 56 by omega)
        exact_mod_cast this
      simp at b1; omega
    have hb2 := hby.2
    have hb1 := hby.1
    have hwr : IntKind.wrap .u64 (rd (.int .u8) s i) = rd (.int .u8) s i := wrap_u64 hby.1 (by omega)
    simp only [k1,decide_true,cond_true,inb_true (Int.natCast_nonneg i) k1]
    rw [wrap_u64 (n := 256 * bv 0 _) (by omega) (by omega),hwr,wrap_u64 (by omega) (by omega),wrap_i64 (by omega) (by omega)]
    refine hrec _ ⟨i + 1,by simp,by omega,?_⟩ (by simp only; omega)
    simp only
    rw [List.take_add_one,List.getElem?_eq_getElem hlt,Option.toList_some,bv_snoc,hrd2]
    omega
  · have k1 : ¬ ((i : Int) < (s.length : Int)) := by omega
    simp only [k1,decide_false,cond_false]
    rw [List.take_of_length_le (by omega),hr]
theorem F65_eq {l : List Int} (h : ∀ n ∈ l,Byte n) (hl : l.length ≤ 4611686018427387904) : F65 l = some (get1 l) := by
  unfold F65
  cases l with
  | nil => rfl
  | cons c r =>
    have hc := h c (by simp)
    have hr : ∀ n ∈ r,Byte n := fun n hn => h n (by simp [hn])
    have hw := wd_le c
    have e0 : (decide (((c :: r).length : Int) = 0) == false) = true := by simp; omega
    have e1 : inb 0 (c :: r).length = true := inb_true (by omega) (by simp)
    have e5 : rd (.int .u8) (c :: r) 0 = c := rfl
    rw [e5]
    simp only [e0,e1,cond_true,F91_byte hc,Option.bind_some,get1,both_self]
    by_cases h1 : r.length < wd c
    · rw [if_pos h1]
      have : ((c :: r).length : Int) < 1 + (wd c : Int) := by simp; omega
      simp only [this,decide_true,cond_true]
    · rw [if_neg h1]
      have h1' : ¬ ((c :: r).length : Int) < 1 + (wd c : Int) := by simp; omega
      simp only [h1',decide_false,cond_false]
      have g1 : inb (1 + (wd c : Int)) ((c :: r).length + 1) = true := inb_true (by omega) (by simp only [List.length_cons]; omega)
      have g2 : decide ((1 : Int) ≤ 1 + (wd c : Int)) = true := decide_eq_true (by omega)
      have g5 : decide ((0 : Nat) ≤ 1) = true := rfl
      have g3 : (1 + (wd c : Int)).toNat = wd c + 1 := by omega
      have e4 : (c :: r.take (wd c)).drop ((1 : Int).toNat) = r.take (wd c) := rfl
      have e6 : (c :: r).take (wd c + 1) = c :: r.take (wd c) := rfl
      have hc1 := hc.1
      have hc2 := hc.2
      simp only [g1,g2,g5,Bool.and_self,cond_true,g3,e6,e4]
      have hlen : (r.take (wd c)).length = wd c := by rw [List.length_take]; omega
      have hb : ∀ n ∈ r.take (wd c),Byte n := fun n hn => hr n (List.mem_of_mem_take hn)
      by_cases h2 : wd c = 0
      · rw [if_pos h2]
        have e7 : (1 + (wd c : Int) = 1) := by omega
        have e8 : r.take (wd c) = [] := by rw [h2]; rfl
        simp only [e7,decide_true,cond_true]
        rw [wrap_u64 hc.1 (by omega)]
        refine loopB (s := r.take (wd c)) (r := fun v => (F85 v).bind fun r4 => bif (!decide (r4 = c :: r.take (wd c))) then some (0,0,2) else some (v,1,0)) hb (by omega) hc1 hc2 (.inr e8) ?_
        have hfc : enc1 c = [c] := by
          have : c < 253 := by
            unfold wd at h2
            by_cases q : c < 253
            · exact q
            · rw [if_neg q] at h2; (split at h2 <;> (try split at h2)) <;> omega
          simp [enc1,fst,wid,this,dig]
        rw [e8]
        simp only [bv,F85_eq hc1 (by omega),Option.bind_some,hfc,decide_true,Bool.not_true,cond_false]
      · rw [if_neg h2]
        have e7 : ¬ (1 + (wd c : Int) = 1) := by omega
        simp only [e7,decide_false,cond_false]
        refine loopB (s := r.take (wd c)) (r := fun v => (F85 v).bind fun r4 => bif (!decide (r4 = c :: r.take (wd c))) then some (0,0,2) else some (v,1 + (wd c : Int),0)) hb (by omega) (by omega) (by omega) (.inl rfl) ?_
        have hbv := bv_nonneg (r.take (wd c)) 0 (by omega) hb
        simp only [F85_eq hbv (bv_lt64 hb (by omega)),Option.bind_some]
        have hiff := enc_iff (c := c) hb hlen
        by_cases hf : fst (bv 0 (r.take (wd c))) = c
        · rw [if_pos hf]
          simp only [hiff.2 hf,decide_true,Bool.not_true,cond_false,Option.some.injEq,Prod.mk.injEq,true_and,and_true]; omega
        · rw [if_neg hf]
          have : ¬ enc1 (bv 0 (r.take (wd c))) = c :: r.take (wd c) := fun q => hf (hiff.1 q)
          simp only [this,decide_false,Bool.not_false,cond_true]
theorem F55_eq {l : List Int} (h : ∀ n ∈ l,U64 n) (hl : l.length ≤ 100000) : F55 l = some (l.flatMap enc1) := by
  unfold F55
  have elen : ∀ n,(enc1 n).length ≤ 9 := fun n => by have := wid_le n; simp [enc1,dig_len]; omega
  have flen : ∀ m : List Int,(m.flatMap enc1).length ≤ 9 * m.length := by
    intro m
    induction m with
    | nil => simp
    | cons a m ih => rw [List.flatMap_cons,List.length_append,List.length_cons]; have := elen a; omega
  refine lfp_rule (fun x => ∃ i : Nat,x.2 = (i : Int) ∧ i ≤ l.length ∧ x.1 = (l.take i).flatMap enc1) (fun x => l.length - x.2.toNat) (fun _ => l.flatMap enc1) ?_ (([] : List Int),0) ⟨0,rfl,by omega,rfl⟩
  rintro ⟨y,i'⟩ ⟨i,rfl,hi,rfl⟩ rec hrec
  simp only
  by_cases hlt : i < l.length
  · have h1 : ((i : Int) < (l.length : Int)) := by omega
    obtain ⟨hh,hrd⟩ := rd_get (t := .int .u64) (l := l) (i := i) (by omega) h1
    have hrd2 : rd (.int .u64) l i = l[i] := by rw [hrd]; simp
    have hn : U64 (rd (.int .u64) l i) := by rw [hrd2]; exact h _ (List.getElem_mem _)
    have hlen : (((l.take i).flatMap enc1).length + (enc1 (rd (.int .u64) l i)).length) * 1 ≤ LIM := by
      have := flen (l.take i)
      have := elen (rd (.int .u64) l i)
      rw [List.length_take] at *
      unfold LIM; omega
    simp only [h1,decide_true,cond_true,inb_true (Int.natCast_nonneg i) h1,F85_eq hn.1 hn.2,Option.bind_some,hlen]
    rw [wrap_i64 (n := (i : Int) + 1) (by omega) (by omega)]
    refine hrec _ ⟨i + 1,by simp,by omega,?_⟩ (by simp only; omega)
    simp only
    rw [List.take_add_one,List.getElem?_eq_getElem hlt,Option.toList_some,List.flatMap_append,List.flatMap_singleton,hrd2]
  · have h1 : ¬ ((i : Int) < (l.length : Int)) := by omega
    simp only [h1,decide_false,cond_false]
    rw [List.take_of_length_le (by omega)]
theorem F79_eq {c : Cv} (h : CvOk c) : F79 c = some (chk c) := by
  obtain ⟨k,a,b⟩ := c
  unfold F79 chk
  simp only
  by_cases h1 : k < 1
  · simp [h1]
  by_cases h2 : 5 < k
  · simp [h2]
  by_cases h3 : k = 2
  · subst h3
    by_cases q : 65535 < a
    · simp [q]
    · by_cases q2 : b = 0 <;> simp [q,q2]
  by_cases h4 : k = 4
  · subst h4
    by_cases q : 4611686018427387904 < a
    · simp [q]
    · by_cases q2 : b = 0 <;> simp [q,q2]
  by_cases h5 : k = 3
  · subst h5
    by_cases q : 4611686018427387904 < a
    · simp [q]
    · by_cases q2 : b = 0 <;> simp [q,q2]
  by_cases q2 : b = 0 <;> simp [h1,h2,h3,h4,h5,q2]
theorem F70_eq {b : List Int} (h : ∀ n ∈ b,Byte n) (hl : b.length ≤ 4611686018427387904) : F70 b = some (getC b) := by
  unfold F70 getC
  simp only [F65_eq h hl,Option.bind_some]
  rcases get1_casesQ h with ⟨e0,hy,hi,hs,hlt⟩ | ⟨e0,e1⟩
  · simp only [e0,decide_true,Bool.not_true,cond_false,ne_eq,not_true_eq_false,if_false]
    by_cases q1 : (get1 b).1 < 1
    · simp [q1]
    by_cases q2 : 5 < (get1 b).1
    · simp [q2]
    have h2 := drop_byte h (get1 b).2.1.toNat
    simp only [q1,q2,decide_false,cond_false,or_self,if_false,hi,cond_true,F65_eq h2 (by omega),Option.bind_some,getC1]
    rcases get1_casesQ h2 with ⟨e0',hy',hi',hs',hlt'⟩ | ⟨e0',e1'⟩
    · simp only [e0',decide_true,Bool.not_true,cond_false,ne_eq,not_true_eq_false,if_false,hi',cond_true,getC2]
      have h3 := drop_byte h2 (get1 (b.drop (get1 b).2.1.toNat)).2.1.toNat
      by_cases q4 : (get1 b).1 = 4
      · simp only [q4,decide_true,cond_true,if_true,F65_eq h3 (by omega),Option.bind_some]
        rcases get1_casesQ h3 with ⟨e0'',hy'',hi'',hs'',hlt''⟩ | ⟨e0'',e1''⟩
        · simp only [e0'',decide_true,Bool.not_true,cond_false,not_true_eq_false,if_false,hi'',cond_true,pos_len,small5_i64 (n := 4) (by omega) (by omega)]
          rw [F79_eq (c := (4,_)) (cv_small (by omega) (by omega) hy' hy'')]
          simp only [Option.bind_some]
          exact fin_form _ _
        · simp only [e1'',decide_false,Bool.not_false,cond_true,e0'',not_false_eq_true,if_true]
      · simp only [q4,decide_false,cond_false,if_false,pos_len,small5_i64 (n := (get1 b).1) (by omega) (by omega)]
        rw [F79_eq (c := ((get1 b).1,_)) (cv_small (by omega) (by omega) hy' u64_0)]
        simp only [Option.bind_some]
        exact fin_form _ _
    · simp only [e1',decide_false,Bool.not_false,cond_true,e0',ne_eq,not_false_eq_true,if_true]
  · simp only [e1,decide_false,Bool.not_false,cond_true,e0,ne_eq,not_false_eq_true,if_true]
theorem F57_eq {c : Cv} (hc : CvOk c) : F57 c = some (putC c) := by
  unfold F57 putC
  simp only [Prod.eta,F79_eq hc,Option.bind_some]
  by_cases h : chk c = 0
  · have k := chk_kind h
    have hw : IntKind.wrap .u64 c.1 = c.1 := small5_u64 k.1 k.2.1
    have hk : U64 c.1 := ⟨by omega,by omega⟩
    have h1 := hc.2.1
    have h2 := hc.2.2
    by_cases h4 : c.1 = 4
    · simp only [h,h4,decide_true,Bool.not_true,cond_true,cond_false,if_true,encC]
      rw [F55_eq (by intro n hn; simp at hn; rcases hn with rfl | rfl | rfl; exact ⟨by omega,by omega⟩; exact h1; exact h2) (by simp)]
      simp
    · simp only [h,h4,decide_true,decide_false,Bool.not_true,cond_false,if_true,if_false,encC]
      rw [hw,F55_eq (by intro n hn; simp at hn; rcases hn with rfl | rfl; exact hk; exact h1) (by simp)]
      simp
  · simp [h]
open Classical in
theorem F54_eq (l : List Rec) : F54 l = some (if okT l then 0 else 1) := by
  unfold F54
  by_cases h64 : 64 < l.length
  · have : (64 : Int) < (l.length : Int) := by omega
    have hn : ¬ okT l := fun h => by have := h.1; omega
    simp [this,hn]
  · have : ¬ (64 : Int) < (l.length : Int) := by omega
    simp only [this,decide_false,cond_false,both_self]
    refine lfp_rule (fun x => ∃ i : Nat,x.2 = (i : Int) ∧ i ≤ l.length ∧ (∀ j (h : j < l.length),j < i → l[j].2.length ≤ 4096) ∧ (∀ j (h : j + 1 < l.length),j + 1 < i → l[j].1 < l[j + 1].1)) (fun x => l.length - x.2.toNat)
      (fun _ => if okT l then 0 else 1) ?_ (0,0) ⟨0,rfl,by omega,by intro j _ hj; omega,by intro j _ hj; omega⟩
    rintro ⟨q,i'⟩ ⟨i,hi',hi,hV,hS⟩ rec hrec
    simp only at hi'
    subst hi'
    simp only
    by_cases hlt : i < l.length
    · have k1 : ((i : Int) < (l.length : Int)) := by omega
      simp only [k1,decide_true,cond_true,inb_true (Int.natCast_nonneg i) k1,rd_nat (t := tR) hlt]
      have next : l[i].2.length ≤ 4096 → (∀ h : 0 < i,l[i - 1].1 < l[i].1) → rec (q,IntKind.wrap .i64 ((i : Int) + 1)) = some (if okT l then 0 else 1) := by
        intro h1 h2
        rw [RB.wrap_i64 (n := (i : Int) + 1) (by omega) (by omega)]
        refine hrec _ ⟨i + 1,by simp,by omega,fun j hj hji => ?_,fun j hj hji => ?_⟩ (by simp only; omega)
        · by_cases hje : j = i
          · subst hje; exact h1
          · exact hV j hj (by omega)
        · by_cases hje : j + 1 = i
          · have := h2 (by omega)
            subst hje
            exact this
          · exact hS j hj (by omega)
      by_cases c1 : 4096 < l[i].2.length
      · have : (4096 : Int) < (l[i].2.length : Int) := by omega
        have hn : ¬ okT l := fun h => by have := h.2.1 _ (List.getElem_mem hlt); omega
        simp [this,hn]
      · have c1' : ¬ (4096 : Int) < (l[i].2.length : Int) := by omega
        simp only [c1',decide_false,beq_self_eq_true,cond_true]
        by_cases c2 : 0 < i
        · have c2' : (0 : Int) < (i : Int) := by omega
          have hw : IntKind.wrap .i64 ((i : Int) - 1) = ((i - 1 : Nat) : Int) := by rw [RB.wrap_i64 (by omega) (by omega)]; omega
          have hi1 : i - 1 < l.length := by omega
          have k2 : inb ((i - 1 : Nat) : Int) l.length = true := inb_true (by omega) (by omega)
          simp only [c2',decide_true,beq_self_eq_true,cond_true,hw,k2,rd_nat (t := tR) hi1]
          by_cases c3 : l[i - 1].1 < l[i].1
          · have : ¬ l[i].1 ≤ l[i - 1].1 := by omega
            simp only [this,decide_false,cond_false]
            exact next (by omega) (fun _ => c3)
          · have hn : ¬ okT l := fun h => by
              have := List.pairwise_iff_getElem.1 h.2.2 (i - 1) i hi1 hlt (by omega)
              exact c3 this
            have : l[i].1 ≤ l[i - 1].1 := by omega
            simp only [this,decide_true,cond_true,hn,if_false]
        · have c2' : ¬ (0 : Int) < (i : Int) := by omega
          simp only [c2',decide_false,show (false == true) = false from rfl,cond_false]
          exact next (by omega) (fun h => absurd h c2)
    · have k1 : ¬ ((i : Int) < (l.length : Int)) := by omega
      have hok : okT l := by
        refine ⟨by omega,fun r hr => ?_,sorted_of l fun j hj => hS j hj (by omega)⟩
        obtain ⟨j,hj,rfl⟩ := List.getElem_of_mem hr
        exact hV j hj (by omega)
      simp only [k1,decide_false,cond_false,hok,if_true]
theorem F55_one {n : Int} (h : U64 n) : F55 [n] = some (enc1 n) := by
  rw [F55_eq (by simpa using h) (by simp)]; simp
theorem F55_two {t n : Int} (h0 : U64 t) (h1 : U64 n) : F55 [t,n] = some (enc1 t ++ enc1 n) := by
  rw [F55_eq (by simp [h0,h1]) (by simp)]; simp
theorem F21_eq {l : List Rec} (hv : ∀ r ∈ l,OkV r) : F21 l = some (putT l) := by
  unfold F21 putT
  simp only [both_self,F54_eq,Option.bind_some]
  by_cases ho : okT l
  · have h64 := ho.1
    simp only [ho,if_true,decide_true,Bool.not_true,cond_false]
    refine lfp_rule (fun x => ∃ i : Nat,x.2 = (i : Int) ∧ i ≤ l.length ∧ x.1 = (l.take i).flatMap encR) (fun x => l.length - x.2.toNat)
      (fun _ => if 65535 < (l.flatMap encR).length then ([],4) else (l.flatMap encR,0)) ?_ (([] : List Int),0) ⟨0,rfl,by omega,by simp⟩
    rintro ⟨acc,i'⟩ ⟨i,hi',hi,hacc⟩ rec hrec
    simp only at hi' hacc
    subst hi'
    simp only
    by_cases hlt : i < l.length
    · have k1 : ((i : Int) < (l.length : Int)) := by omega
      have hr := hv _ (List.getElem_mem hlt)
      have hV := ho.2.1 _ (List.getElem_mem hlt)
      have hal := encs_len (l.take i) (fun r hr => ho.2.1 r (List.mem_of_mem_take hr))
      rw [List.length_take] at hal
      have e1 := enc1_len l[i].1
      have e2 := enc1_len (l[i].2.length : Int)
      have k3 : (acc.length + (enc1 l[i].1 ++ enc1 (l[i].2.length : Int)).length) * 1 ≤ LIM := by
        rw [hacc,List.length_append]; unfold LIM; omega
      have k4 : ((acc ++ (enc1 l[i].1 ++ enc1 (l[i].2.length : Int))).length + l[i].2.length) * 1 ≤ LIM := by
        rw [hacc,List.length_append,List.length_append]; unfold LIM; omega
      have hw : IntKind.wrap .u64 (l[i].2.length : Int) = (l[i].2.length : Int) := RB.wrap_u64 (by omega) (by omega)
      have hu1 : U64 l[i].1 := ⟨hr.1.1,by have := hr.1.2; omega⟩
      have hu2 : U64 (l[i].2.length : Int) := ⟨by omega,by omega⟩
      simp only [k1,decide_true,cond_true,inb_true (Int.natCast_nonneg i) k1,rd_nat (t := tR) hlt,hw,F55_two hu1 hu2,Option.bind_some,k3,k4]
      rw [RB.wrap_i64 (n := (i : Int) + 1) (by omega) (by omega)]
      refine hrec _ ⟨i + 1,by simp,by omega,?_⟩ (by simp only; omega)
      rw [List.take_succ_eq_append_getElem hlt,List.flatMap_append,hacc]
      simp [encR]
    · have k1 : ¬ ((i : Int) < (l.length : Int)) := by omega
      have : i = l.length := by omega
      subst this
      rw [List.take_length] at hacc
      subst hacc
      simp only [k1,decide_false,cond_false]
      by_cases h : 65535 < (l.flatMap encR).length
      · have h' : (65535 : Int) < ((l.flatMap encR).length : Int) := by omega
        simp only [h,h',decide_true,cond_true,if_true]
      · have h' : ¬ (65535 : Int) < ((l.flatMap encR).length : Int) := by omega
        simp only [h,h',decide_false,cond_false,if_false]
  · simp [ho]
theorem look_drop : ∀ {l : List Rec} {t : Int},Sorted l → ∀ i,(∀ j (h : j < l.length),j < i → l[j].1 ≠ t) → look l t = look (l.drop i) t
  | l,t,hs,0,_ => by simp
  | [],t,hs,i + 1,_ => by simp
  | a :: r,t,hs,i + 1,h => by
    have h0 : a.1 ≠ t := h 0 (by simp) (by omega)
    have hp := List.pairwise_cons.1 hs
    have ih := look_drop (l := r) (t := t) hp.2 i (fun j hj hji => by
      have := h (j + 1) (by simp; omega) (by omega)
      simpa using this)
    rw [List.drop_succ_cons,← ih]
    conv => lhs; unfold look
    by_cases c : a.1 < t
    · rw [if_pos c]
    · rw [if_neg c,if_neg h0]
      cases q : look r t with
      | none => rfl
      | some v =>
        exfalso
        have : ∀ (m : List Rec) (v : List Int),look m t = some v → ∃ x ∈ m,x.1 = t := by
          intro m
          induction m with
          | nil => intro v hh; simp [look] at hh
          | cons y m ihm =>
            intro v hh
            unfold look at hh
            split at hh
            · obtain ⟨x,hx,he⟩ := ihm v hh
              exact ⟨x,List.mem_cons_of_mem _ hx,he⟩
            · split at hh
              · rename_i e; exact ⟨y,by simp,e⟩
              · simp at hh
        obtain ⟨x,hx,he⟩ := this r v q
        have := hp.1 x hx
        omega
theorem F67_eq (l : List Rec) (t : Int) : F67 (l,t) = some (findT l t) := by
  unfold F67
  simp only [F54_eq,Option.bind_some]
  by_cases ho : okT l
  · have h64 := ho.1
    have hf : ∀ m,look l t = m → findT l t = m.elim ([],5) (fun v => (v,0)) := by
      intro m hm
      unfold findT
      rw [if_pos ho,hm]
      cases m <;> rfl
    simp only [ho,if_true,decide_true,Bool.not_true,cond_false]
    refine lfp_rule (fun (x : List Int×Int×Int) => ∃ i : Nat,x.2.2 = (i : Int) ∧ i ≤ l.length ∧ (∀ j (h : j < l.length),j < i → l[j].1 ≠ t)) (fun x => l.length - x.2.2.toNat) (fun _ => findT l t) ?_ (([] : List Int),(0,0)) ⟨0,rfl,by omega,by intro j _ hj; omega⟩
    rintro ⟨q,s,i'⟩ ⟨i,hi',hi,hne⟩ rec hrec
    simp only at hi'
    subst hi'
    simp only
    have hld := look_drop ho.2.2 i hne
    by_cases hlt : i < l.length
    · have k1 : ((i : Int) < (l.length : Int)) := by omega
      have hV := ho.2.1 _ (List.getElem_mem hlt)
      simp only [k1,decide_true,cond_true,inb_true (Int.natCast_nonneg i) k1,rd_nat (t := tR) hlt]
      by_cases c : l[i].1 = t
      · have k4 : (([] : List Int).length + l[i].2.length) * 1 ≤ LIM := by unfold LIM; simp; omega
        simp only [c,decide_true,cond_true,Bool.or_true,k4,List.nil_append]
        rw [List.drop_eq_getElem_cons hlt] at hld
        unfold look at hld
        rw [if_neg (by omega),if_pos c] at hld
        have : look l t = some l[i].2 := by rw [← hld]; cases l <;> rfl
        rw [hf _ this]; rfl
      · simp only [c,decide_false,cond_false]
        rw [RB.wrap_i64 (n := (i : Int) + 1) (by omega) (by omega)]
        refine hrec _ ⟨i + 1,by simp,by omega,fun j hj hji => ?_⟩ (by simp only; omega)
        by_cases e : j = i
        · subst e; exact c
        · exact hne j hj (by omega)
    · have k1 : ¬ ((i : Int) < (l.length : Int)) := by omega
      have : l.drop i = [] := List.drop_eq_nil_of_le (by omega)
      rw [this] at hld
      have hl0 : look l t = none := by rw [hld]; rfl
      simp only [k1,decide_false,cond_false]
      rw [hf _ hl0]; rfl
  · unfold findT
    simp [ho]
theorem get1_le {b : List Int} (h : Bs b) : (get1 b).2.2 = 0 → (get1 b).2.1 ≤ (b.length : Int) := by
  intro e
  rcases get1_cases h with ⟨_,_,hin,_,_⟩ | ⟨e0,_⟩
  · simp only [inb,Bool.and_eq_true,decide_eq_true_eq] at hin; omega
  · exact absurd e e0
theorem F66_eq {m : List Rec} {t : Int} (h : ∀ r ∈ m,Bs r.2) (hl : okT m) : F66 (m,t) = some (numT m t) := by
  obtain ⟨h1,h2⟩ := findT_bs (t := t) h hl
  unfold F66 numT
  simp only [F67_eq,Option.bind_some]
  by_cases c1 : (findT m t).2 = 0
  · simp only [c1,decide_true,Bool.not_true,cond_false,ne_eq,not_true_eq_false,if_false,F65_eq h1 (by omega),Option.bind_some]
    by_cases c2 : (get1 (findT m t).1).2.2 = 0
    · have hle := get1_le h1 c2
      by_cases c3 : (get1 (findT m t).1).2.1 < ((findT m t).1.length : Int)
      · have : ¬ (get1 (findT m t).1).2.1 = ((findT m t).1.length : Int) := by omega
        simp [c2,c3,this]
      · have : (get1 (findT m t).1).2.1 = ((findT m t).1.length : Int) := by omega
        simp [c2,this]
    · simp [c2]
  · simp [c1]
theorem F26_eq {b : List Int} (hb : Bs b) : F26 b = some (getT b) := by
  unfold F26 getT
  by_cases hl : 65535 < b.length
  · have hl' : (65535 : Int) < (b.length : Int) := by omega
    simp only [hl,hl',decide_true,cond_true,if_true]
  · have hl' : ¬ (65535 : Int) < (b.length : Int) := by omega
    simp only [hl,hl',decide_false,cond_false,if_false]
    refine lfp_rule (fun (x : List Int×List Rec×Int×List Rec) => Bs x.1 ∧ x.2.2.2.length ≤ 64 ∧ x.1.length ≤ 65535) (fun x => x.1.length) (fun x => goT x.2.2.2 x.1) ?_ (b,([],(0,[]))) ⟨hb,by simp,by simp only; omega⟩
    rintro ⟨b,p,q,acc⟩ ⟨hb,ha,hl⟩ rec hrec
    simp only at hb ha hl hrec ⊢
    by_cases hbn : b = []
    · subst hbn
      simp [goT]
    · have hpos : 0 < b.length := List.length_pos_iff.2 hbn
      have hpos' : (0 : Int) < (b.length : Int) := by omega
      simp only [hpos',decide_true,cond_true]
      rw [goT,if_neg hbn]
      by_cases h64 : acc.length = 64
      · have d64 : decide ((acc.length : Int) = 64) = true := decide_eq_true (by omega)
        rw [if_pos h64]
        simp only [d64,cond_true]
      · have d64 : decide ((acc.length : Int) = 64) = false := decide_eq_false (by omega)
        rw [if_neg h64]
        simp only [d64,cond_false,F65_eq hb (by omega),Option.bind_some]
        rcases get1_cases hb with ⟨g1,g2,g3,g4,g5⟩ | ⟨g1,g2,g3⟩
        · have gd : decide ((get1 b).2.2 = 0) = true := decide_eq_true g1
          rw [if_neg (show ¬ ((get1 b).2.2 ≠ 0) from fun h => h g1)]
          simp only [gd,Bool.not_true,cond_false,g3,cond_true]
          have hb1 := bs_drop hb (get1 b).2.1.toNat
          have hb1l : (b.drop (get1 b).2.1.toNat).length ≤ 65535 := by omega
          have hsm : (b.drop (get1 b).2.1.toNat).length < b.length := g5
          generalize b.drop (get1 b).2.1.toNat = b1 at hb1 hb1l hsm ⊢
          have tail : ∀ (e : lastT acc < (get1 b).1),
              ((F65 b1).bind fun r3 =>
                bif (!decide (r3.2.2 = 0)) then some (([] : List Rec),r3.2.2)
                else bif decide (4096 < r3.1) then some (([] : List Rec),4)
                else bif inb r3.2.1 (b1.length + 1) then
                  bif decide (((b1.drop r3.2.1.toNat).length : Int) < (IntKind.wrap .i64 r3.1)) then some (([] : List Rec),3)
                  else bif inb r3.1 ((b1.drop r3.2.1.toNat).length + 1) then
                    bif (!((b1.drop r3.2.1.toNat).take r3.1.toNat).isEmpty || true) then
                    bif decide ((([] : List Int).length + ((b1.drop r3.2.1.toNat).take r3.1.toNat).length) * 1 ≤ LIM) then
                    bif decide ((acc.length + 1) * 32 ≤ LIM) then
                    bif inb r3.1 ((b1.drop r3.2.1.toNat).length + 1) then
                    rec ((b1.drop r3.2.1.toNat).drop r3.1.toNat,p,q,(acc ++ ([((get1 b).1,([] : List Int) ++ ((b1.drop r3.2.1.toNat).take r3.1.toNat))])))
                    else none else none else none else none else none
                  else none) = some (
                if ¬ lastT acc < (get1 b).1 then ([],2) else
                if (get1 b1).2.2 ≠ 0 then ([],(get1 b1).2.2) else
                if 4096 < (get1 b1).1 then ([],4) else
                if ((b1.drop (get1 b1).2.1.toNat).length : Int) < (get1 b1).1 then ([],3) else
                if h : ((b1.drop (get1 b1).2.1.toNat).drop (get1 b1).1.toNat).length < b.length then
                  goT (acc ++ [((get1 b).1,(b1.drop (get1 b1).2.1.toNat).take (get1 b1).1.toNat)]) ((b1.drop (get1 b1).2.1.toNat).drop (get1 b1).1.toNat)
                else ([],0)) := by
            intro e
            rw [if_neg (fun h => h e)]
            simp only [F65_eq hb1 (by omega),Option.bind_some]
            rcases get1_cases hb1 with ⟨p1,p2,p3,p4,p5⟩ | ⟨p1,p2,p3⟩
            · have pd : decide ((get1 b1).2.2 = 0) = true := decide_eq_true p1
              rw [if_neg (show ¬ ((get1 b1).2.2 ≠ 0) from fun h => h p1)]
              simp only [p3,cond_true,pd,Bool.not_true,cond_false]
              have hb2 := bs_drop hb1 (get1 b1).2.1.toNat
              generalize b1.drop (get1 b1).2.1.toNat = b2 at *
              by_cases c1 : 4096 < (get1 b1).1
              · simp only [c1,decide_true,cond_true,if_true]
              · have hw : IntKind.wrap .i64 (get1 b1).1 = (get1 b1).1 := RB.wrap_i64 (by omega) (by omega)
                rw [hw]
                by_cases c2 : (b2.length : Int) < (get1 b1).1
                · simp only [c1,c2,decide_true,decide_false,cond_true,cond_false,if_true,if_false]
                · have hin : inb (get1 b1).1 (b2.length + 1) = true := RB.inb_true p2.1 (by omega)
                  have htl : (([] : List Int).length + (b2.take (get1 b1).1.toNat).length) * 1 ≤ LIM := by rw [List.length_take]; unfold LIM; simp; omega
                  have hlim : (acc.length + 1) * 32 ≤ LIM := by unfold LIM; omega
                  have hsh : (b2.drop (get1 b1).1.toNat).length < b.length := by rw [List.length_drop]; omega
                  have hsh2 : (b2.drop (get1 b1).1.toNat).length ≤ 65535 := by omega
                  simp only [c1,c2,decide_false,cond_false,if_false,hin,cond_true,htl,hlim,decide_true,hsh,dite_true,Bool.or_true,List.nil_append]
                  exact hrec (_,p,q,acc ++ [((get1 b).1,b2.take (get1 b1).1.toNat)]) ⟨bs_drop hb2 _,by simp only [List.length_append,List.length_singleton]; omega,hsh2⟩ hsh
            · have pd : decide ((get1 b1).2.2 = 0) = false := decide_eq_false p1
              rw [if_pos p1]
              simp only [pd,Bool.not_false,cond_true]
          by_cases ha0 : 0 < acc.length
          · have ha0d : decide ((0 : Int) < (acc.length : Int)) = true := decide_eq_true (by omega)
            have hla : acc.length - 1 < acc.length := by omega
            have hw : IntKind.wrap .i64 ((acc.length : Int) - 1) = ((acc.length - 1 : Nat) : Int) := by rw [RB.wrap_i64 (by omega) (by omega)]; omega
            have hin : inb ((acc.length - 1 : Nat) : Int) acc.length = true := RB.inb_true (by omega) (by omega)
            simp only [ha0d,beq_self_eq_true,cond_true,hw,hin,rd_nat (t := tR) hla]
            by_cases hlt : lastT acc < (get1 b).1
            · have : ¬ (get1 b).1 ≤ acc[acc.length - 1].1 := by rw [lastT_get ha0] at hlt; omega
              simp only [this,decide_false,cond_false]
              exact tail hlt
            · have : (get1 b).1 ≤ acc[acc.length - 1].1 := by rw [lastT_get ha0] at hlt; omega
              simp only [this,decide_true,cond_true,hlt,not_false_eq_true,if_true]
          · have ha0d : decide ((0 : Int) < (acc.length : Int)) = false := decide_eq_false (by omega)
            have hacc : acc = [] := List.length_eq_zero_iff.1 (by omega)
            simp only [ha0d,show (false == true) = false from rfl,cond_false]
            exact tail (by rw [hacc]; show (-1 : Int) < _; omega)
        · have gd : decide ((get1 b).2.2 = 0) = false := decide_eq_false g1
          rw [if_pos g1]
          simp only [gd,Bool.not_false,cond_true]
abbrev tC : Ty := .pair (.int .i64) (.pair (.int .u64) (.int .u64))
open Classical in
theorem F43_eq {l : List Cv} (hl : l.length ≤ 4611686018427387904) (h : ∀ c ∈ l,CvOk c) : F43 l = some (decide (l.length ≤ 16 ∧ ∀ c ∈ l,chk c = 0)) := by
  unfold F43
  refine lfp_rule (fun (x : Bool×Int) => ∃ i : Nat,x.2 = (i : Int) ∧ i ≤ l.length ∧ ∀ j (hj : j < l.length),j < i → chk l[j] = 0) (fun x => l.length - x.2.toNat) (fun _ => decide (l.length ≤ 16 ∧ ∀ c ∈ l,chk c = 0)) ?_ (false,0) ⟨0,rfl,by omega,by intro j _ hj; omega⟩
  rintro ⟨q,i'⟩ ⟨i,hi',hi,hne⟩ rec hrec
  simp only at hi'
  subst hi'
  simp only
  by_cases hlt : i < l.length
  · have k1 : ((i : Int) < (l.length : Int)) := by omega
    simp only [k1,decide_true,cond_true,inb_true (Int.natCast_nonneg i) k1,rd_nat (t := tC) hlt,Prod.eta,F79_eq (h _ (List.getElem_mem hlt)),Option.bind_some]
    by_cases c : chk l[i] = 0
    · simp only [c,decide_true,Bool.not_true,cond_false]
      rw [RB.wrap_i64 (n := (i : Int) + 1) (by omega) (by omega)]
      refine hrec _ ⟨i + 1,by simp,by omega,fun j hj hji => ?_⟩ (by simp only; omega)
      by_cases e : j = i
      · subst e; exact c
      · exact hne j hj (by omega)
    · have : ¬ (l.length ≤ 16 ∧ ∀ c ∈ l,chk c = 0) := fun hh => c (hh.2 _ (List.getElem_mem hlt))
      have hd := decide_eq_false this
      simp only [c,decide_false,Bool.not_false,cond_true,hd]
  · have k1 : ¬ ((i : Int) < (l.length : Int)) := by omega
    have hall : ∀ c ∈ l,chk c = 0 := fun c hc => by
      obtain ⟨j,hj,rfl⟩ := List.getElem_of_mem hc
      exact hne j hj (by omega)
    have e : ((l.length : Int) ≤ 16) ↔ l.length ≤ 16 := by omega
    simp only [k1,decide_false,cond_false,Option.some.injEq,decide_eq_decide,e]
    exact ⟨fun q => ⟨q,hall⟩,fun q => q.1⟩
open Classical in
theorem F41_eq {t : Tok} (h : TokOk t) (hl : t.2.1.length ≤ 4611686018427387904) : F41 t = some (if okK t then 0 else 1) := by
  unfold F41
  simp only [F43_eq hl h.2.1,Option.bind_some]
  by_cases c1 : t.2.1.length ≤ 16 ∧ ∀ c ∈ t.2.1,chk c = 0
  · have hd := decide_eq_true c1
    rw [hd]
    by_cases c2 : t.2.2 < 0
    · have : ¬ okK t := fun hk => by have := hk.2.1.1; omega
      simp [c2,this]
    · by_cases c3 : 1048576 < t.2.2
      · have : ¬ okK t := fun hk => by have := hk.2.1.2; omega
        simp [c3,this]
      · have : okK t := ⟨c1.1,⟨by omega,by omega⟩,c1.2⟩
        simp [c2,c3,this]
  · have : ¬ okK t := fun hk => c1 ⟨hk.1,hk.2.2⟩
    have hd := decide_eq_false c1
    rw [hd]
    simp [this]
open Classical in
theorem F56_eq {t : Tok} (h : TokOk t) (hl : t.2.1.length ≤ 4611686018427387904) : F56 t = some (if okK t then (tokB t,0) else ([],1)) := by
  unfold F56
  simp only [Prod.eta,F41_eq h hl,Option.bind_some,both_self]
  by_cases hk : okK t
  · have hw : IntKind.wrap .u64 t.2.2 = t.2.2 := small_u64 hk.2.1.1 hk.2.1.2
    have h16 := hk.1
    have hu2 : U64 t.2.2 := ⟨hk.2.1.1,by have := hk.2.1.2; omega⟩
    simp only [hk,if_true,decide_true,Bool.not_true,cond_false,hw,F55_one h.1,F55_one hu2,Option.bind_some,both_self]
    refine lfp_rule (fun (x : List Rec×Int) => ∃ i : Nat,x.2 = (i : Int) ∧ i ≤ t.2.1.length ∧ x.1 = [(1,enc1 t.1),(2,enc1 t.2.2)] ++ numd encC 0 (t.2.1.take i)) (fun x => t.2.1.length - x.2.toNat) (fun _ => (tokB t,0)) ?_ _ ⟨0,rfl,by omega,by simp [numd]⟩
    rintro ⟨y,i'⟩ ⟨i,hi',hi,hy⟩ rec hrec
    simp only at hi' hy
    subst hi'
    simp only
    by_cases hlt : i < t.2.1.length
    · have k1 : ((i : Int) < (t.2.1.length : Int)) := by omega
      have hyl : y.length = 2 + i := by rw [hy]; simp [numd_len]; omega
      have k3 : (y.length + 1) * 32 ≤ LIM := by unfold LIM; omega
      have hc := h.2.1 _ (List.getElem_mem hlt)
      have hck := hk.2.2 _ (List.getElem_mem hlt)
      have hput : putC t.2.1[i] = (encC t.2.1[i],0) := by unfold putC; rw [if_pos hck]
      simp only [k1,decide_true,cond_true,inb_true (Int.natCast_nonneg i) k1,rd_nat (t := tC) hlt,Prod.eta,F57_eq hc,hput,Option.bind_some,k3]
      rw [RB.wrap_i64 (n := 16 + (i : Int)) (by omega) (by omega),small_u64 (n := 16 + (i : Int)) (by omega) (by omega),RB.wrap_i64 (n := (i : Int) + 1) (by omega) (by omega)]
      refine hrec (_,(i : Int) + 1) ⟨i + 1,by simp,by omega,?_⟩ (by simp only; omega)
      rw [hy,List.take_succ_eq_append_getElem hlt,numd_snoc,List.append_assoc]
      simp only [List.length_take]
      congr 3
      rw [Nat.min_eq_left (by omega)]
      simp
    · have k1 : ¬ ((i : Int) < (t.2.1.length : Int)) := by omega
      have hie : i = t.2.1.length := by omega
      simp only [k1,decide_false,cond_false]
      have hyt : y = tokR t := by rw [hy,hie,List.take_length]; rfl
      rw [hyt,F21_eq (tokR_okV h hk),putT_tok hk]
      rfl
  · simp [hk]
theorem two_at {m : List Rec} {v : List Int} (hs : Sorted m) (h2 : 2 ≤ m.length) (h0 : (m[0]'(by omega)).1 = 1) (hk : look m 2 = some v) : (m[1]'(by omega)).1 = 2 := by
  match m,h2,h0,hk,hs with
  | a :: b :: r,_,h0,hk,hs =>
    simp only [List.getElem_cons_zero] at h0
    simp only [List.getElem_cons_succ,List.getElem_cons_zero]
    have hab : a.1 < b.1 := (List.pairwise_cons.1 hs).1 b (by simp)
    unfold look at hk
    rw [if_pos (by omega)] at hk
    unfold look at hk
    rw [if_neg (by omega)] at hk
    split at hk
    · assumption
    · simp at hk
theorem F68_eq {b : List Int} (hb : Bs b) : F68 b = some (getK b) := by
  unfold F68 getK
  simp only [F26_eq hb,Option.bind_some]
  by_cases c1 : (getT b).2 = 0
  · have hok := getT_ok (m := (getT b).1) hb (by rw [← c1])
    generalize (getT b).1 = m at hok ⊢
    obtain ⟨hv,ho,hp⟩ := hok
    have hbs : ∀ r ∈ m,Bs r.2 := fun r hr => (hv r hr).2
    have hlen : m.length ≤ 64 := ho.1
    simp only [c1,decide_true,Bool.not_true,cond_false,ne_eq,not_true_eq_false,if_false]
    refine lfp_rule (fun (x : Int×Int) => x.2 = 0 ∨ (x.2 = 1 ∧ (findT m 1).2 = 0) ∨ (x.2 = 2 ∧ (findT m 1).2 = 0 ∧ (findT m 2).2 = 0)) (fun x => 2 - x.2.toNat) (fun _ => resF m) ?_ _ (.inl rfl)
    rintro ⟨q,i⟩ hx rec hrec
    simp only at hx
    have l2 : (([(1 : Int),2].length : Nat) : Int) = 2 := rfl
    rcases hx with rfl | ⟨rfl,h1⟩ | ⟨rfl,h1,h2⟩
    · have r0 : rd (.int .u64) [1,2] 0 = 1 := rfl
      simp only [l2,show decide ((0 : Int) < 2) = true from rfl,cond_true,show inb 0 [(1 : Int),2].length = true from rfl,r0,F67_eq,Option.bind_some]
      by_cases k : (findT m 1).2 = 0
      · simp only [k,decide_true,Bool.not_true,cond_false]
        exact hrec _ (.inr (.inl ⟨rfl,k⟩)) (by simp only; decide)
      · simp [k,resF,show inb 0 2 = true from rfl]
    · have r0 : rd (.int .u64) [1,2] 1 = 2 := rfl
      simp only [l2,show decide ((1 : Int) < 2) = true from rfl,cond_true,show inb 1 [(1 : Int),2].length = true from rfl,r0,F67_eq,Option.bind_some]
      by_cases k : (findT m 2).2 = 0
      · simp only [k,decide_true,Bool.not_true,cond_false]
        exact hrec _ (.inr (.inr ⟨rfl,h1,k⟩)) (by simp only; decide)
      · simp [k,resF,h1,show inb 1 2 = true from rfl]
    · clear hrec
      have hF : resF m = resN m := by unfold resF; rw [if_neg (by simp [h1]),if_neg (by simp [h2])]
      obtain ⟨_,v1,hv1⟩ := find_len h1
      obtain ⟨_,v2,hv2⟩ := find_len h2
      have h2m := two_of hv1 hv2
      rw [hF]
      simp only [List.length_cons,List.length_nil,show decide ((2 : Int) < ((0 + 1 + 1 : Nat) : Int)) = false from rfl,cond_false,F66_eq hbs ho,Option.bind_some]
      unfold resN
      by_cases n1 : (numT m 1).2 = 0
      · by_cases n2 : (numT m 2).2 = 0
        · obtain ⟨_,_,_,u1⟩ := numT_ok hbs ho n1
          obtain ⟨_,_,_,u2⟩ := numT_ok hbs ho n2
          rw [if_neg (by simp [n1]),if_neg (by simp [n2])]
          simp only [n1,n2,decide_true,Bool.not_true,cond_false]
          generalize (numT m 1).1 = a1 at u1 ⊢
          generalize (numT m 2).1 = a2 at u2 ⊢
          have e18 : ((18 : Int) < (m.length : Int)) ↔ 18 < m.length := by omega
          by_cases c2 : 1048576 < a2 ∨ 18 < m.length
          · have hbad : badU m a2 m.length := .inl c2
            have : (bif decide (1048576 < a2) then true else decide ((18 : Int) < (m.length : Int))) = true := by
              rcases c2 with c2 | c2
              · simp [c2]
              · simp [e18,c2]
            unfold resC
            simp only [this,cond_true]
            rw [if_pos hbad]
          · have : (bif decide (1048576 < a2) then true else decide ((18 : Int) < (m.length : Int))) = false := by
              have q1 : ¬ 1048576 < a2 := fun q => c2 (.inl q)
              have q2 : ¬ 18 < m.length := fun q => c2 (.inr q)
              simp [q1,e18,q2]
            have hn : a2 ≤ 1048576 ∧ m.length ≤ 18 := ⟨by omega,by omega⟩
            have k2 : inb 2 (m.length + 1) = true := inb_true (by omega) (by omega)
            have hdr : ((2 : Int).toNat) = 2 := rfl
            have hw : IntKind.wrap .i64 a2 = a2 := RB.wrap_i64 (by have := u2.1; omega) (by omega)
            simp only [this,cond_false,k2,cond_true,hdr,hw]
            have hdl : (m.drop 2).length = m.length - 2 := List.length_drop
            refine lfp_rule (fun (x : Int×Int) => ∃ i : Nat,x.2 = (i : Int) ∧ i ≤ (m.drop 2).length ∧ (∀ j (h : j < m.length),2 ≤ j → j < i + 2 → m[j].1 = pl j)) (fun x => (m.drop 2).length - x.2.toNat) (fun _ => resC m a1 a2) ?_ _ ⟨0,rfl,by omega,by intro j _ h1 h2; omega⟩
            rintro ⟨q,i'⟩ ⟨i,hi',hi,hpl⟩ rec hrec
            simp only at hi'
            subst hi'
            simp only
            by_cases hlt : i < (m.drop 2).length
            · have k1 : ((i : Int) < ((m.drop 2).length : Int)) := by omega
              have hg : (m.drop 2)[i] = m[i + 2]'(by omega) := by rw [List.getElem_drop]; congr 1; omega
              have hpe : pl (i + 2) = 16 + (i : Int) := by unfold pl; rw [if_neg (by omega)]; omega
              simp only [k1,decide_true,cond_true,inb_true (Int.natCast_nonneg i) k1,rd_nat (t := tR) hlt,hg]
              rw [RB.wrap_i64 (n := 16 + (i : Int)) (by omega) (by omega),small_u64 (n := 16 + (i : Int)) (by omega) (by omega)]
              by_cases c : (m[i + 2]'(by omega)).1 = 16 + (i : Int)
              · simp only [c,decide_true,Bool.not_true,cond_false]
                rw [RB.wrap_i64 (n := (i : Int) + 1) (by omega) (by omega)]
                refine hrec _ ⟨i + 1,by simp,by omega,fun j hj h2j hji => ?_⟩ (by simp only; omega)
                by_cases e : j = i + 2
                · subst e; rw [hpe]; exact c
                · exact hpl j hj h2j (by omega)
              · have hbad : badU m a2 m.length := .inr ⟨i + 2,by omega,by omega,by rw [hpe]; exact c⟩
                unfold resC
                rw [if_pos hbad]
                simp [c]
            · have k1 : ¬ ((i : Int) < ((m.drop 2).length : Int)) := by omega
              have k0 : inb 0 m.length = true := inb_true (by omega) (by omega)
              have r0 : rd tR m 0 = m[0]'(by omega) := rd_nat (t := tR) (i := 0) (by omega)
              have r0' : rd (.pair (.int .u64) (.slice 5 (.int .u8))) m 0 = m[0]'(by omega) := r0
              simp only [k1,decide_false,cond_false,k0,cond_true,r0']
              clear hrec
              by_cases c0 : (m[0]'(by omega)).1 = 1
              · have c1' := two_at ho.2.2 h2m c0 hv2
                have hnb : ¬ badU m a2 m.length := by
                  rintro (q | ⟨j,hj,_,q⟩)
                  · exact c2 q
                  · by_cases e0 : j = 0
                    · subst e0; exact q (by rw [c0]; rfl)
                    · by_cases e1 : j = 1
                      · subst e1; exact q (by rw [c1']; rfl)
                      · exact q (hpl j hj (by omega) (by omega))
                simp only [c0,decide_true,Bool.not_true,cond_false]
                have hC : resC m a1 a2 = capR a1 a2 (cavs (m.drop 2) []) := by unfold resC; rw [if_neg hnb]
                rw [hC]
                have hsub : ∀ r ∈ m.drop 2,Bs r.2 ∧ r.2.length ≤ 4096 := fun r hr => ⟨hbs r (List.mem_of_mem_drop hr),ho.2.1 r (List.mem_of_mem_drop hr)⟩
                clear hC hpl hi hlt k1
                generalize m.drop 2 = D at hsub hdl ⊢
                refine lfp_rule (fun (x : Int×Int×List Cv×(Int×Int)) => ∃ i : Nat,x.2.1 = (i : Int) ∧ i ≤ D.length ∧ x.2.2.1.length = i ∧ cavs (D.drop i) x.2.2.1 = cavs D [] ∧ x.2.2.2 = (a1,a2)) (fun x => D.length - x.2.1.toNat) (fun _ => capR a1 a2 (cavs D [])) ?_ _ ⟨0,rfl,by omega,rfl,rfl,rfl⟩
                rintro ⟨q,i',acc,p⟩ ⟨i,hi',hi,hal,hca,hp'⟩ rec hrec
                simp only at hi' hal hca hp'
                subst hi'; subst hp'
                simp only
                by_cases hlt : i < D.length
                · have k1 : ((i : Int) < (D.length : Int)) := by omega
                  have hbr : Bs D[i].2 := (hsub _ (List.getElem_mem hlt)).1
                  have hbl : D[i].2.length ≤ 4096 := (hsub _ (List.getElem_mem hlt)).2
                  have hstep : cavs (D.drop i) acc = if (getC D[i].2).2 ≠ 0 then ([],(getC D[i].2).2) else cavs (D.drop (i + 1)) (acc ++ [(getC D[i].2).1]) := by
                    rw [List.drop_eq_getElem_cons hlt,cavs]
                  simp only [k1,decide_true,cond_true,inb_true (Int.natCast_nonneg i) k1,rd_nat (t := tR) hlt,F70_eq hbr (by omega),Option.bind_some,Prod.eta]
                  by_cases e0 : (getC D[i].2).2 = 0
                  · have k3 : (acc.length + 1) * 24 ≤ LIM := by unfold LIM; omega
                    rw [if_neg (by simp [e0])] at hstep
                    simp only [e0,decide_true,Bool.not_true,cond_false,k3,cond_true]
                    rw [RB.wrap_i64 (n := (i : Int) + 1) (by omega) (by omega)]
                    exact hrec _ ⟨i + 1,by simp,by omega,by simp [hal],by rw [← hca,hstep],rfl⟩ (by simp only; omega)
                  · rw [if_pos e0] at hstep
                    rw [← hca,hstep]
                    simp [e0,capR]
                · have k1 : ¬ ((i : Int) < (D.length : Int)) := by omega
                  have : D.drop i = [] := List.drop_eq_nil_of_le (by omega)
                  rw [this,cavs] at hca
                  rw [← hca]
                  simp [k1,capR]
              · have hbad : badU m a2 m.length := .inr ⟨0,by omega,by omega,by simpa [pl] using c0⟩
                unfold resC
                rw [if_pos hbad]
                simp [c0]
        · simp [n1,n2]
      · simp [n1]
  · simp [c1]
end Go.Proofs.YtgdfhijgjjcnjaaGreatDoor.RZ
namespace Go.Proofs.YtgdfhijgjjcnjaaGreatDoor.RZ
open Go Go.Fw Go.Proofs RB
set_option maxRecDepth 20000
theorem F69_eq {l : List Int} (h : ∀ n ∈ l,Byte n) : F69 l = some (all1 l) := by
  unfold F69 all1
  by_cases hl : 65535 < l.length
  · have : (65535 : Int) < (l.length : Int) := by omega
    simp only [this,decide_true,cond_true,if_pos hl]
  · have : ¬ (65535 : Int) < (l.length : Int) := by omega
    simp only [this,decide_false,cond_false,if_neg hl]
    refine lfp_rule (fun x => (∀ n ∈ x.1,Byte n) ∧ x.1.length + x.2.2.2.length ≤ 65535) (fun x => x.1.length) (fun x => allS x.2.2.2 x.1) ?_ (l,([] : List Int),(0 : Int),([] : List Int)) ⟨h,by simp only [List.length_nil]; omega⟩
    rintro ⟨s,q,q2,acc⟩ ⟨hb,hlen⟩ rec hrec
    simp only at hb hlen ⊢
    cases s with
    | nil => simp [allS]
    | cons c r =>
      have k1 : (0 : Int) < ((c :: r).length : Int) := by simp only [List.length_cons]; omega
      have k2 := get1_ok hb (y := (get1 (c :: r)).1) (m := (get1 (c :: r)).2.1) (e := (get1 (c :: r)).2.2) rfl
      simp only [k1,decide_true,cond_true,F65_eq hb (by omega),Option.bind_some,allS]
      by_cases he : (get1 (c :: r)).2.2 = 0
      · rcases k2 with ⟨_,k3,k4,k5,k6,k7⟩ | ⟨k3,_⟩
        · have k8 : inb (get1 (c :: r)).2.1 ((c :: r).length + 1) = true := inb_true (by omega) (by omega)
          have k9 : (acc.length + 1) * 8 ≤ LIM := by unfold LIM; omega
          simp only [he,decide_true,Bool.not_true,cond_false,k8,cond_true,k9,ne_eq,not_true_eq_false,if_false]
          have k10 : 1 ≤ (get1 (c :: r)).2.1 := by omega
          rw [drop_pred k10]
          refine hrec _ ⟨fun n hn => hb n (List.mem_cons_of_mem _ (List.mem_of_mem_drop hn)),?_⟩ ?_
          · simp only [List.length_drop,List.length_append,List.length_cons,List.length_nil] at hlen ⊢; omega
          · simp only [List.length_drop,List.length_cons]; omega
        · exact absurd he k3
      · simp only [he,decide_false,Bool.not_false,cond_true,ne_eq,not_false_eq_true,if_true]
end Go.Proofs.YtgdfhijgjjcnjaaGreatDoor.RZ
namespace Go.Proofs.YtgdfhijgjjcnjaaGreatDoor.RZ
open Go Go.Fw Go.Proofs RB
set_option maxRecDepth 20000
end Go.Proofs.YtgdfhijgjjcnjaaGreatDoor.RZ
namespace Go.Proofs.YtgdfhijgjjcnjaaGreatDoor.RZ
open Go Go.Fw Go.Proofs RB
set_option maxRecDepth 20000
end Go.Proofs.YtgdfhijgjjcnjaaGreatDoor.RZ
namespace Go.Proofs.YtgdfhijgjjcnjaaGreatDoor.RZ
open Go Go.Fw Go.Proofs RB
set_option maxRecDepth 20000
end Go.Proofs.YtgdfhijgjjcnjaaGreatDoor.RZ
namespace Go.Proofs.YtgdfhijgjjcnjaaGreatDoor.RZ
open Go Go.Fw Go.Proofs RB
set_option maxRecDepth 20000
end Go.Proofs.YtgdfhijgjjcnjaaGreatDoor.RZ
namespace Go.Proofs.YtgdfhijgjjcnjaaGreatDoor.RZ
open Go Go.Fw Go.Proofs RB
set_option maxRecDepth 20000
theorem F34_eq {a b : List Cv} (hl : a.length ≤ 4611686018427387904) : F34 (a,b) = some (decide (a = b)) := by
  unfold F34
  by_cases hn : a.length = b.length
  · have : (a.length : Int) = (b.length : Int) := by omega
    simp only [this,decide_true,Bool.not_true,cond_false]
    rw [← this]
    refine same_loop (t := .pair (.int .i64) (.pair (.int .u64) (.int .u64))) hl hn (G := fun x y K => K (decide (x.1 = y.1) && (decide (x.2.1 = y.2.1) && decide (x.2.2 = y.2.2)))) ?_
    intro i h1 h2 K
    congr 1
    rw [Bool.eq_iff_iff]
    simp only [Bool.and_eq_true,decide_eq_true_eq]
    constructor
    · rintro ⟨q1,q2,q3⟩; exact Prod.ext q1 (Prod.ext q2 q3)
    · intro q; rw [q]; exact ⟨rfl,rfl,rfl⟩
  · have : ¬ (a.length : Int) = (b.length : Int) := by omega
    have hne : a ≠ b := fun h => hn (by rw [h])
    simp [this,hne]
theorem F32_eq {a b : Tok} (hl : a.2.1.length ≤ 4611686018427387904) : F32 (a,b) = some (decide (a = b)) := by
  obtain ⟨a1,a2,a3⟩ := a
  obtain ⟨b1,b2,b3⟩ := b
  unfold F32
  simp only [F34_eq hl,Option.bind_some]
  by_cases c1 : a1 = b1
  · by_cases c2 : a3 = b3
    · by_cases c3 : a2 = b2 <;> simp [c1,c2,c3]
    · simp [c1,c2]
  · simp [c1]
end Go.Proofs.YtgdfhijgjjcnjaaGreatDoor.RZ
namespace Go.Proofs.YtgdfhijgjjcnjaaGreatDoor.RZ
open Go Go.Fw Go.Proofs RB
set_option maxRecDepth 20000
end Go.Proofs.YtgdfhijgjjcnjaaGreatDoor.RZ
namespace Go.Proofs.YtgdfhijgjjcnjaaGreatDoor.RZ
open Go Go.Fw Go.Proofs RB
set_option maxRecDepth 20000
def c99 (n : Int) : Int := if n < 99 then n else 99
theorem c99_ok {n : Int} (h : U64 n) : 0 ≤ c99 n ∧ c99 n ≤ 99 := by
  unfold c99
  have := h.1
  split <;> omega
theorem numT_u64 {m : List Rec} {t : Int} (h : ∀ r ∈ m,Bs r.2) (hl : okT m) : U64 (numT m t).1 := by
  by_cases h0 : (numT m t).2 = 0
  · obtain ⟨_,_,_,h4⟩ := numT_ok h hl h0; exact h4
  · unfold numT at h0 ⊢
    split
    · exact u64_0
    · rename_i c1
      rw [if_neg c1] at h0
      split
      · exact u64_0
      · rename_i c2
        rw [if_neg c2] at h0
        split
        · exact u64_0
        · rename_i c3
          rw [if_neg c3] at h0
          exact absurd rfl h0
theorem rd_u64 {l : List Int} (h : ∀ n ∈ l,U64 n) (i : Int) : U64 (rd (.int .u64) l i) := by
  unfold rd
  rw [List.getD_eq_getElem?_getD]
  cases hh : l[i.toNat]? with
  | none => exact u64_0
  | some x => exact h x (List.mem_of_getElem? hh)
theorem getK_zero {b : List Int} (h : (getK b).2 ≠ 0) : (getK b).1 = (0,([],0)) := by
  have hC : ∀ m a1 a2,(resC m a1 a2).2 ≠ 0 → (resC m a1 a2).1 = (0,([],0)) := by
    intro m a1 a2 h
    unfold resC capR at h ⊢
    split
    · rfl
    · rename_i c1
      rw [if_neg c1] at h
      split
      · rfl
      · rename_i c2
        rw [if_neg c2] at h
        exact absurd rfl h
  have hN : ∀ m,(resN m).2 ≠ 0 → (resN m).1 = (0,([],0)) := by
    intro m h
    unfold resN at h ⊢
    split
    · rfl
    · rename_i c1
      rw [if_neg c1] at h
      split
      · rfl
      · rename_i c2
        rw [if_neg c2] at h
        exact hC _ _ _ h
  have hF : ∀ m,(resF m).2 ≠ 0 → (resF m).1 = (0,([],0)) := by
    intro m h
    unfold resF at h ⊢
    split
    · rfl
    · rename_i c1
      rw [if_neg c1] at h
      split
      · rfl
      · rename_i c2
        rw [if_neg c2] at h
        exact hN _ h
  unfold getK at h ⊢
  split
  · rfl
  · rename_i c1
    rw [if_neg c1] at h
    exact hF _ h
theorem getK_any {b : List Int} (hb : Bs b) : TokOk (getK b).1 ∧ (getK b).1.2.1.length ≤ 16 := by
  by_cases h : (getK b).2 = 0
  · exact getK_tok hb h
  · rw [getK_zero h]
    exact ⟨⟨u64_0,by simp,by simp⟩,by simp⟩
theorem look_in : ∀ {l : List Rec} {t : Int} {v : List Int},Sorted l → (t,v) ∈ l → look l t = some v
  | [],_,_,_,h => by simp at h
  | a :: r,t,v,hs,h => by
    obtain ⟨s1,s2⟩ := List.pairwise_cons.1 hs
    rcases List.mem_cons.1 h with h | h
    · subst h
      simp [look]
    · have := s1 _ h
      unfold look
      rw [if_pos this]
      exact look_in s2 h
theorem look_no : ∀ {l : List Rec} {t : Int},(∀ q ∈ l,q.1 ≠ t) → look l t = none
  | [],_,_ => rfl
  | a :: r,t,h => by
    unfold look
    have h1 := h a (by simp)
    rw [if_neg h1]
    split
    · exact look_no (fun q hq => h q (List.mem_cons_of_mem _ hq))
    · rfl
theorem numT_none {m : List Rec} {t : Int} (ho : okT m) (h : look m t = none) : (numT m t).1 = 0 := by
  unfold numT
  have : findT m t = ([],5) := by unfold findT; rw [if_pos ho,h]
  rw [this]
  simp
end Go.Proofs.YtgdfhijgjjcnjaaGreatDoor.RZ
namespace Go.Proofs.YtgdfhijgjjcnjaaGreatDoor.RZ
open Go Go.Fw Go.Proofs RB
set_option maxRecDepth 20000
end Go.Proofs.YtgdfhijgjjcnjaaGreatDoor.RZ
