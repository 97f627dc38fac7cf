/- Part of a proof: what the program's functions come to. -/
import Derived.Test.YtgdfhijgjjcnjaaGreatDoorEGEz
set_option linter.unusedVariables false
set_option linter.unusedSimpArgs false
namespace Go.Proofs.YtgdfhijgjjcnjaaGreatDoor.RZ
open Go Go.Fw Go.Proofs RB
set_option maxRecDepth 20000
theorem F61_eq {l : List Int} (h : l.length ≤ 1000000) : F61 l = some l := by
  unfold F61
  have k : (([] : List Int).length + l.length) * 1 ≤ LIM := by unfold LIM; simp; omega
  simp only [k,decide_true,cond_true,List.nil_append]
  cases l with
  | nil => simp [both_self]
  | cons a r => rfl
theorem F48_eq {l : List Rec} (t : Int) (hs : Sorted l) (hl : l.length ≤ 1000000) : F106060 (l,t,()) = some ((pos l t : Int),fnd l t) := by
  unfold F106060
  have hp := pos_le l t
  refine lfp_rule (fun x => ∃ i j : Nat,x.1 = (i : Int) ∧ x.2 = (j : Int) ∧ i ≤ pos l t ∧ pos l t ≤ j ∧ j ≤ l.length) (fun x => x.2.toNat - x.1.toNat) (fun _ => ((pos l t : Int),fnd l t)) ?_ (0,(l.length : Int)) ⟨0,l.length,rfl,rfl,by omega,hp,by omega⟩
  rintro ⟨i',j'⟩ ⟨i,j,hi',hj',h1,h2,h3⟩ rec hrec
  simp only at hi' hj'
  subst hi'; subst hj'
  simp only
  by_cases hlt : (i : Int) < (j : Int)
  · have hm : IntKind.wrap .i64 ((IntKind.wrap .u64 (IntKind.wrap .i64 ((i : Int) + (j : Int)))) / 2 ^ (min (1 : Int).toNat 64)) = (((i + j) / 2 : Nat) : Int) := by
      rw [wrap_i64 (n := (i : Int) + j) (by omega) (by omega),wrap_u64 (by omega) (by omega),show (2 : Int) ^ (min (1 : Int).toNat 64) = 2 from rfl,wrap_i64 (by omega) (by omega)]
      omega
    have hml : (i + j) / 2 < l.length := by omega
    have k1 : inb (((i + j) / 2 : Nat) : Int) l.length = true := inb_true (by omega) (by omega)
    simp only [hlt,decide_true,cond_true,hm,k1,rd_nat (t := tR) hml,F60_eq,Option.bind_some]
    by_cases c : l[(i + j) / 2].1 < t
    · simp only [c,if_true,show decide ((-1 : Int) < 0) = true from rfl,cond_true]
      rw [wrap_i64 (n := (((i + j) / 2 : Nat) : Int) + 1) (by omega) (by omega)]
      refine hrec _ ⟨(i + j) / 2 + 1,j,by simp,rfl,?_,h2,h3⟩ (by simp only; omega)
      apply Classical.byContradiction
      intro hn
      have := pos_ge l t ((i + j) / 2) hml hs (by omega)
      omega
    · have : decide ((if t < l[(i + j) / 2].1 then (1 : Int) else 0) < 0) = false := by split <;> rfl
      simp only [c,if_false,this,cond_false]
      refine hrec _ ⟨i,(i + j) / 2,rfl,rfl,h1,?_,by omega⟩ (by simp only; omega)
      apply Classical.byContradiction
      intro hn
      have := pos_lt l t ((i + j) / 2) hml (by omega)
      exact c this
  · have he : i = pos l t := by omega
    subst he
    simp only [hlt,decide_false,cond_false]
    by_cases c : pos l t < l.length
    · have c' : ((pos l t : Nat) : Int) < (l.length : Int) := by omega
      have k1 : inb ((pos l t : Nat) : Int) l.length = true := inb_true (by omega) c'
      simp only [c',decide_true,beq_self_eq_true,cond_true,k1,rd_nat (t := tR) c,F60_eq,Option.bind_some,fnd_at l t c,Option.some.injEq,Prod.mk.injEq,true_and]
      have := pos_ge l t (pos l t) c hs (Nat.le_refl _)
      by_cases c2 : l[pos l t].1 = t
      · simp [c2]
      · have c3 : ¬ l[pos l t].1 < t := by omega
        have c4 : t < l[pos l t].1 := by omega
        simp [c2,c3,c4]
    · have c' : ¬ ((pos l t : Nat) : Int) < (l.length : Int) := by omega
      have := fnd_end l t (by omega)
      simp [c',this]
theorem F88_eq (l : List Rec) (t : Int) : F88 (l,t) = some (findT l t) := by
  unfold F88 findT
  simp only [F53_eq,Option.bind_some]
  by_cases h : okT l
  · have h1 := h.1
    simp only [h,if_true,decide_true,Bool.not_true,cond_false,F48_eq t h.2.2 (by omega),Option.bind_some]
    rw [look_at]
    by_cases c : pos l t < l.length
    · rw [fnd_at l t c]
      by_cases c2 : l[pos l t].1 = t
      · have k1 : inb ((pos l t : Nat) : Int) l.length = true := inb_true (by omega) (by omega)
        have hv := h.2.1 _ (List.getElem_mem c)
        simp only [c2,decide_true,Bool.not_true,cond_false,k1,cond_true,rd_nat (t := tR) c,F61_eq (l := l[pos l t].2) (by omega),Option.bind_some,c,dite_true,if_true]
      · simp [c,c2]
    · have := pos_le l t
      have := fnd_end l t (by omega)
      simp [c,this]
  · simp [h]
theorem F86_eq {l : List Int} (h : ∀ n ∈ l,Byte n) (hl : l.length ≤ 4611686018427387904) : F86 l = some (get1 l) := by
  unfold F86
  cases l with
  | nil => rfl
  | cons c r =>
    have hc := h c (by simp)
    have hr : ∀ n ∈ r,Byte n := fun n hn => h n (by simp [hn])
    have hw := wd_le c
    have e0 : (decide (((c :: r).length : Int) = 0) == false) = true := by simp; omega
    have e1 : inb 0 (c :: r).length = true := inb_true (by omega) (by simp)
    have e2 : IntKind.wrap .i64 ((wd c : Int) + 1) = (wd c : Int) + 1 := wrap_i64 (by omega) (by omega)
    have e5 : rd (.int .u8) (c :: r) 0 = c := rfl
    rw [e5]
    simp only [e0,e1,cond_true,F82_byte hc,Option.bind_some,e2,get1]
    by_cases h1 : r.length < wd c
    · rw [if_pos h1]
      have : ((c :: r).length : Int) ≤ (wd c : Int) := by simp; omega
      simp only [this,decide_true,cond_true]
    · rw [if_neg h1]
      have h1' : ¬ ((c :: r).length : Int) ≤ (wd c : Int) := by simp; omega
      simp only [h1',decide_false,cond_false]
      by_cases h2 : wd c = 0
      · rw [if_pos h2]
        have : ((wd c : Int) = 0) := by omega
        have hw2 : IntKind.wrap .u64 c = c := wrap_u64 hc.1 (by have := hc.2; omega)
        simp only [this,decide_true,cond_true,hw2]
      · rw [if_neg h2]
        have h2' : ¬ ((wd c : Int) = 0) := by omega
        have e3 : (inb ((wd c : Int) + 1) ((c :: r).length + 1) && (decide ((0 : Nat) ≤ 1) && decide ((1 : Int) ≤ (wd c : Int) + 1))) = true := by
          have : inb ((wd c : Int) + 1) ((c :: r).length + 1) = true := inb_true (by omega) (by simp only [List.length_cons]; omega)
          rw [this]; simp; omega
        have e4 : ((c :: r).take ((wd c : Int) + 1).toNat).drop ((1 : Int).toNat) = r.take (wd c) := by
          rw [show ((wd c : Int) + 1).toNat = wd c + 1 by omega]; rfl
        simp only [h2',decide_false,cond_false,e3,cond_true,e4]
        have hlen : (r.take (wd c)).length = wd c := by rw [List.length_take]; omega
        have hb : ∀ n ∈ r.take (wd c),Byte n := fun n hn => hr n (List.mem_of_mem_take hn)
        refine lfp_rule (fun x => ∃ i : Nat,x.2 = (i : Int) ∧ i ≤ wd c ∧ x.1 = bv 0 ((r.take (wd c)).take i)) (fun x => wd c - x.2.toNat) (fun _ => if fst (bv 0 (r.take (wd c))) = c then (bv 0 (r.take (wd c)),(wd c : Int) + 1,0) else (0,0,2)) ?_ ((0 : Int),(0 : Int)) ⟨0,rfl,by omega,rfl⟩
        rintro ⟨s,i'⟩ ⟨i,rfl,hi,rfl⟩ rec hrec
        simp only
        by_cases hlt : i < wd c
        · have k1 : ((i : Int) < ((r.take (wd c)).length : Int)) := by omega
          obtain ⟨hh,hrd⟩ := rd_get (t := .int .u8) (l := r.take (wd c)) (i := i) (by omega) k1
          have hlt2 : i < (r.take (wd c)).length := by omega
          have hrd2 : rd (.int .u8) (r.take (wd c)) i = (r.take (wd c))[i] := by rw [hrd]; simp
          have hby : Byte (rd (.int .u8) (r.take (wd c)) i) := by rw [hrd2]; exact hb _ (List.getElem_mem _)
          have hbi : ∀ n ∈ (r.take (wd c)).take i,Byte n := fun n hn => hb n (List.mem_of_mem_take hn)
          have b0 := bv_nonneg ((r.take (wd c)).take i) 0 (by omega) hbi
          have b1 := bv_lt ((r.take (wd c)).take i) 0 hbi
          have hli : ((r.take (wd c)).take i).length = i := by rw [List.length_take]; omega
          have b2 : bv 0 ((r.take (wd c)).take i) < 72057594037927936 := by
            rw [hli] at b1
            have : (2 : Int) ^ (8 * i) ≤ 2 ^ 56 := by
              have := Nat.pow_le_pow_right (n := 2) (by omega) (show 8 * i ≤ 56 by omega)
              exact_mod_cast this
            simp at b1; omega
          have hwr : IntKind.wrap .u64 (rd (.int .u8) (r.take (wd c)) i) = rd (.int .u8) (r.take (wd c)) i := wrap_u64 hby.1 (by have := hby.2; omega)
          simp only [k1,decide_true,cond_true,inb_true (Int.natCast_nonneg i) k1]
          rw [show (2 : Int) ^ (min (8 : Int).toNat 64) = 256 by rfl,wrap_u64 (n := bv 0 _ * 256) (by omega) (by omega),hwr,or_bytes b0 b2 hby,wrap_i64 (by omega) (by omega)]
          refine hrec _ ⟨i + 1,by simp,by omega,?_⟩ (by simp only; omega)
          simp only
          rw [List.take_add_one,List.getElem?_eq_getElem hlt2,Option.toList_some,bv_snoc,hrd2]
        · have k1 : ¬ ((i : Int) < ((r.take (wd c)).length : Int)) := by omega
          have hbv := bv_nonneg (r.take (wd c)) 0 (by omega) hb
          simp only [k1,decide_false,cond_false]
          rw [show (r.take (wd c)).take i = r.take (wd c) from List.take_of_length_le (by omega),F81_eq hbv]
          simp only [Option.bind_some]
          by_cases hf : fst (bv 0 (r.take (wd c))) = c
          · simp [hf]
          · simp [hf]
theorem F23_eq {b : List Int} (hb : Bs b) : F23 b = some (getT b) := by
  unfold F23 getT
  by_cases hl : 65535 < b.length
  · have hl' : (65535 : Int) < (b.length : Int) := by omega
    simp only [hl,hl',decide_true,cond_true,if_true]
    refine lfp_intro 1 fun m hm => ?_
    obtain ⟨k,rfl⟩ := Nat.exists_eq_add_of_le hm
    rw [Nat.add_comm]
    simp only [iter,show decide ((4 : Int) = 0) = false from rfl,cond_false,Bool.not_false,cond_true]
  · have hl' : ¬ (65535 : Int) < (b.length : Int) := by omega
    simp only [hl,hl',decide_false,cond_false,if_false]
    refine lfp_rule (fun x => Bs x.2.1 ∧ x.1.length ≤ 64 ∧ x.2.1.length ≤ 65535) (fun x => 2 * x.2.1.length + (if x.2.2 = 0 then 1 else 0))
      (fun x => if x.2.2 ≠ 0 then ([],x.2.2) else goT x.1 x.2.1) ?_ ([],(b,0)) ⟨hb,by simp,by simp only; omega⟩
    rintro ⟨acc,b,e⟩ ⟨hb,ha,hl⟩ rec hrec
    simp only at hb ha hl hrec ⊢
    by_cases he : e = 0
    · subst he
      by_cases hbn : b = []
      · subst hbn
        simp [goT]
      · have hpos : 0 < b.length := List.length_pos_iff.2 hbn
        have hpos' : (0 : Int) < (b.length : Int) := by omega
        have hwb : ¬ IntKind.wrap .u64 (b.length : Int) < 0 := by rw [RB.wrap_u64 (by omega) (by omega)]; omega
        have stop : ∀ (b' : List Int) (e' : Int),e' ≠ 0 → b'.length ≤ b.length → Bs b' → rec (acc,(b',e')) = some ([],e') := by
          intro b' e' h1 h2 h3
          have := hrec (acc,(b',e')) ⟨h3,ha,by simp only; omega⟩ (by simp only [h1,if_false,if_true]; omega)
          rw [this]; simp only [ne_eq,h1,not_false_eq_true,if_true]
        simp only [ne_eq,not_true_eq_false,if_false,decide_true,cond_true,hpos']
        rw [goT,if_neg hbn]
        have hcf : ∀ q : Bool,(bif q then false else false) = false := fun q => by cases q <;> rfl
        have hin00 : inb 0 (b.length + 1) = true := RB.inb_true (by omega) (by omega)
        have hidx : 0 < acc.length → (if IntKind.wrap .i64 ((acc.length : Int) - 1) < 0 then 0 else IntKind.wrap .i64 ((acc.length : Int) - 1)) = ((acc.length - 1 : Nat) : Int) := by
          intro h; rw [RB.wrap_i64 (by omega) (by omega),if_neg (by omega)]; omega
        have hinl : 0 < acc.length → inb ((acc.length - 1 : Nat) : Int) acc.length = true := fun h => RB.inb_true (by omega) (by omega)
        have hwbd : decide (IntKind.wrap .u64 (b.length : Int) < 0) = false := decide_eq_false hwb
        by_cases ha0 : 0 < acc.length
        · have ha0d : decide ((0 : Int) < (acc.length : Int)) = true := decide_eq_true (by omega)
          have hla : acc.length - 1 < acc.length := by omega
          by_cases h64 : acc.length = 64
          · have d64 : decide ((acc.length : Int) = 64) = true := decide_eq_true (by omega)
            rw [if_pos h64]
            simp only [d64,cond_true,ha0d,beq_self_eq_true,hidx ha0,hinl ha0,rd_nat (t := tR) hla,Prod.eta,F60_eq,Option.bind_some,hcf,cond_false]
            exact stop b 4 (by decide) (Nat.le_refl _) hb
          · have d64 : decide ((acc.length : Int) = 64) = false := decide_eq_false (by omega)
            rw [if_neg h64]
            simp only [d64,cond_false,Bool.not_true,F86_eq hb (by omega),Option.bind_some]
            rcases get1_cases hb with ⟨g1,g2,g3,g4,g5⟩ | ⟨g1,g2,g3⟩
            · have gd : decide ((get1 b).2.2 = 0) = true := decide_eq_true g1
              rw [if_neg (show ¬ ((get1 b).2.2 ≠ 0) from fun h => h g1)]
              simp only [g3,cond_true,ha0d,beq_self_eq_true,hidx ha0,hinl ha0,rd_nat (t := tR) hla,F60_eq,Option.bind_some,gd,lastT_get ha0,Bool.not_true,cond_false]
              by_cases hlt : (acc[acc.length - 1]).1 < (get1 b).1
              · simp only [hlt,if_true,show decide ((0 : Int) ≤ -1) = false from rfl,cond_false,not_true_eq_false,if_false]
                have hb1 := bs_drop hb (get1 b).2.1.toNat
                have hb1l : (b.drop (get1 b).2.1.toNat).length ≤ 65535 := by omega
                generalize hB1 : b.drop (get1 b).2.1.toNat = b1 at *
                rcases get1_cases hb1 with ⟨p1,p2,p3,p4,p5⟩ | ⟨p1,p2,p3⟩
                · have pd : decide ((get1 b1).2.2 = 0) = true := decide_eq_true p1
                  rw [if_neg (show ¬ ((get1 b1).2.2 ≠ 0) from fun h => h p1)]
                  simp only [F86_eq hb1 (by omega),Option.bind_some,p3,cond_true,pd,hcf,cond_false]
                  have hb2 := bs_drop hb1 (get1 b1).2.1.toNat
                  generalize hB2 : b1.drop (get1 b1).2.1.toNat = b2 at *
                  have hw2 : IntKind.wrap .u64 (b2.length : Int) = (b2.length : Int) := RB.wrap_u64 (by omega) (by omega)
                  rw [hw2]
                  by_cases c1 : 4096 < (get1 b1).1
                  · simp only [c1,decide_true,cond_true,if_true]
                    exact stop b2 4 (by decide) (by omega) hb2
                  · by_cases c2 : (b2.length : Int) < (get1 b1).1
                    · simp only [c1,c2,decide_true,decide_false,cond_true,cond_false,if_true,if_false]
                      exact stop b2 3 (by decide) (by omega) hb2
                    · have hin : inb (get1 b1).1 (b2.length + 1) = true := RB.inb_true p2.1 (by omega)
                      have htl : (b2.take (get1 b1).1.toNat).length ≤ 1000000 := by rw [List.length_take]; omega
                      have hlim : (acc.length + 1) * 32 ≤ LIM := by unfold LIM; omega
                      have hsh : (b2.drop (get1 b1).1.toNat).length < b.length := by rw [List.length_drop]; omega
                      have hsh2 : (b2.drop (get1 b1).1.toNat).length ≤ 65535 := by omega
                      simp only [c1,c2,decide_false,cond_false,if_false,hin,cond_true,F61_eq htl,Option.bind_some,hlim,decide_true,hsh,dite_true,p1]
                      rw [hrec (acc ++ [((get1 b).1,b2.take (get1 b1).1.toNat)],(b2.drop (get1 b1).1.toNat,0)) ⟨bs_drop hb2 _,by simp only [List.length_append,List.length_singleton]; omega,hsh2⟩ (by simp only [if_true]; omega)]
                      simp only [ne_eq,not_true_eq_false,if_false]
                · have pd : decide ((get1 b1).2.2 = 0) = false := decide_eq_false p1
                  rw [if_pos p1]
                  have hin0 : inb 0 (b1.length + 1) = true := RB.inb_true (by omega) (by omega)
                  simp only [F86_eq hb1 (by omega),Option.bind_some,p3,hin0,cond_true,pd,hcf,cond_false,Int.toNat_zero,List.drop_zero]
                  exact stop b1 _ p1 (by omega) hb1
              · have hge : decide ((0 : Int) ≤ (if (get1 b).1 < (acc[acc.length - 1]).1 then 1 else 0)) = true := by split <;> rfl
                simp only [hlt,if_false,hge,cond_true,hcf,cond_false,not_false_eq_true,if_true]
                exact stop _ 2 (by decide) (by omega) (bs_drop hb _)
            · have gd : decide ((get1 b).2.2 = 0) = false := decide_eq_false g1
              rw [if_pos g1]
              simp only [g3,hin00,cond_true,ha0d,beq_self_eq_true,hidx ha0,hinl ha0,rd_nat (t := tR) hla,F60_eq,Option.bind_some,gd,hcf,cond_false,Bool.not_false,Int.toNat_zero,List.drop_zero]
              exact stop b _ g1 (Nat.le_refl _) hb
        · have ha0d : decide ((0 : Int) < (acc.length : Int)) = false := decide_eq_false (by omega)
          have hacc : acc = [] := List.length_eq_zero_iff.1 (by omega)
          subst hacc
          rw [if_neg (show ¬ ([] : List Rec).length = 64 by simp)]
          have d64 : decide (((([] : List Rec).length : Nat) : Int) = 64) = false := rfl
          have ha0d2 : decide ((0 : Int) < ((([] : List Rec).length : Nat) : Int)) = false := rfl
          simp only [d64,cond_false,Bool.not_true,F86_eq hb (by omega),Option.bind_some]
          rcases get1_cases hb with ⟨g1,g2,g3,g4,g5⟩ | ⟨g1,g2,g3⟩
          · have gd : decide ((get1 b).2.2 = 0) = true := decide_eq_true g1
            rw [if_neg (show ¬ ((get1 b).2.2 ≠ 0) from fun h => h g1),if_neg (show ¬ ¬ lastT [] < (get1 b).1 from fun h => h (by show (-1 : Int) < _; omega))]
            simp only [g3,cond_true,ha0d2,show ((false == true) = false) from rfl,gd,Bool.not_true,cond_false]
            skip
            have hb1 := bs_drop hb (get1 b).2.1.toNat
            have hb1l : (b.drop (get1 b).2.1.toNat).length ≤ 65535 := by omega
            generalize hB1 : b.drop (get1 b).2.1.toNat = b1 at *
            rcases get1_cases hb1 with ⟨p1,p2,p3,p4,p5⟩ | ⟨p1,p2,p3⟩
            · have pd : decide ((get1 b1).2.2 = 0) = true := decide_eq_true p1
              rw [if_neg (show ¬ ((get1 b1).2.2 ≠ 0) from fun h => h p1)]
              simp only [F86_eq hb1 (by omega),Option.bind_some,p3,cond_true,pd,hcf,cond_false]
              have hb2 := bs_drop hb1 (get1 b1).2.1.toNat
              generalize hB2 : b1.drop (get1 b1).2.1.toNat = b2 at *
              have hw2 : IntKind.wrap .u64 (b2.length : Int) = (b2.length : Int) := RB.wrap_u64 (by omega) (by omega)
              rw [hw2]
              by_cases c1 : 4096 < (get1 b1).1
              · simp only [c1,decide_true,cond_true,if_true]
                exact stop b2 4 (by decide) (by omega) hb2
              · by_cases c2 : (b2.length : Int) < (get1 b1).1
                · simp only [c1,c2,decide_true,decide_false,cond_true,cond_false,if_true,if_false]
                  exact stop b2 3 (by decide) (by omega) hb2
                · have hin : inb (get1 b1).1 (b2.length + 1) = true := RB.inb_true p2.1 (by omega)
                  have htl : (b2.take (get1 b1).1.toNat).length ≤ 1000000 := by rw [List.length_take]; omega
                  have hlim : (([] : List Rec).length + 1) * 32 ≤ LIM := by unfold LIM; omega
                  have hsh : (b2.drop (get1 b1).1.toNat).length < b.length := by rw [List.length_drop]; omega
                  have hsh2 : (b2.drop (get1 b1).1.toNat).length ≤ 65535 := by omega
                  simp only [c1,c2,decide_false,cond_false,if_false,hin,cond_true,F61_eq htl,Option.bind_some,hlim,decide_true,hsh,dite_true,p1]
                  rw [hrec (([] : List Rec) ++ [((get1 b).1,b2.take (get1 b1).1.toNat)],(b2.drop (get1 b1).1.toNat,0)) ⟨bs_drop hb2 _,by simp only [List.length_append,List.length_singleton]; omega,hsh2⟩ (by simp only [if_true]; omega)]
                  simp only [ne_eq,not_true_eq_false,if_false]
            · have pd : decide ((get1 b1).2.2 = 0) = false := decide_eq_false p1
              rw [if_pos p1]
              have hin0 : inb 0 (b1.length + 1) = true := RB.inb_true (by omega) (by omega)
              simp only [F86_eq hb1 (by omega),Option.bind_some,p3,hin0,cond_true,pd,hcf,cond_false,Int.toNat_zero,List.drop_zero]
              exact stop b1 _ p1 (by omega) hb1
          · have gd : decide ((get1 b).2.2 = 0) = false := decide_eq_false g1
            rw [if_pos g1]
            simp only [g3,hin00,cond_true,ha0d2,show ((false == true) = false) from rfl,gd,hcf,cond_false,Bool.not_false,Int.toNat_zero,List.drop_zero]
            exact stop b _ g1 (Nat.le_refl _) hb
    · have he' : decide (e = 0) = false := decide_eq_false he
      simp only [he',cond_false,Bool.not_false,cond_true]
      rw [if_pos he]
end Go.Proofs.YtgdfhijgjjcnjaaGreatDoor.RZ
