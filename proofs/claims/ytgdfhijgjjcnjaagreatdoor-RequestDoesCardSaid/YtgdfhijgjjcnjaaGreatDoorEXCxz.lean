/- Part of a proof: what the program's functions come to. -/
import Derived.Test.YtgdfhijgjjcnjaaGreatDoorEXAxz
set_option linter.unusedVariables false
set_option linter.unusedSimpArgs false
namespace Go.Proofs.YtgdfhijgjjcnjaaGreatDoor.RZ
open Go Go.Fw Go.Proofs RB
set_option maxRecDepth 20000
def fin (c : Cv) (rest : List Int) : Cv×Int := if rest ≠ [] ∨ chk c ≠ 0 then ((0,(0,0)),2) else (c,0)
def getC2 (n a : Int) (b : List Int) : Cv×Int := if (get1 b).2.2 ≠ 0 then ((0,(0,0)),(get1 b).2.2) else fin (n,(a,(get1 b).1)) (b.drop (get1 b).2.1.toNat)
def getC1 (n : Int) (b : List Int) : Cv×Int := if (get1 b).2.2 ≠ 0 then ((0,(0,0)),(get1 b).2.2) else
  if n = 4 then getC2 n (get1 b).1 (b.drop (get1 b).2.1.toNat) else fin (n,((get1 b).1,0)) (b.drop (get1 b).2.1.toNat)
def getC (b : List Int) : Cv×Int := if (get1 b).2.2 ≠ 0 then ((0,(0,0)),(get1 b).2.2) else
  if (get1 b).1 < 1 ∨ 5 < (get1 b).1 then ((0,(0,0)),2) else getC1 (get1 b).1 (b.drop (get1 b).2.1.toNat)
theorem pos_len (r : List Int) : decide ((0 : Int) < (r.length : Int)) = decide (r ≠ []) := by
  cases r with
  | nil => rfl
  | cons a r => rw [decide_eq_true (by simp only [List.length_cons]; omega),decide_eq_true (by simp)]
theorem fin_form (c : Cv) (rest : List Int) : (bif (decide (rest ≠ []) == false) then (bif (!decide (chk c = 0)) then some (((0,(0,0)),2) : Cv×Int) else some (c,0)) else some ((0,(0,0)),2)) = some (fin c rest) := by
  unfold fin
  by_cases r0 : rest = []
  · by_cases ck : chk c = 0 <;> simp [r0,ck]
  · simp [r0]
theorem small5_i64 {n : Int} (h0 : 1 ≤ n) (h1 : n ≤ 5) : IntKind.wrap .i64 n = n := wrap_i64 (by omega) (by omega)
theorem small5_u64 {n : Int} (h0 : 1 ≤ n) (h1 : n ≤ 5) : IntKind.wrap .u64 n = n := wrap_u64 (by omega) (by omega)
theorem get1_casesQ {b : List Int} (h : ∀ n ∈ b,Byte n) : ((get1 b).2.2 = 0 ∧ U64 (get1 b).1 ∧ inb (get1 b).2.1 (b.length + 1) = true ∧ enc1 (get1 b).1 ++ b.drop (get1 b).2.1.toNat = b ∧ (b.drop (get1 b).2.1.toNat).length < b.length) ∨ ((get1 b).2.2 ≠ 0 ∧ decide ((get1 b).2.2 = 0) = false) := by
  rcases get1_ok h (y := (get1 b).1) (m := (get1 b).2.1) (e := (get1 b).2.2) rfl with ⟨h1,h2,h3,h4,h5,h6⟩ | ⟨h1,_⟩
  · left
    refine ⟨h1,⟨h2,h3⟩,inb_true (by omega) (by omega),by rw [h6]; exact List.take_append_drop _ _,?_⟩
    rw [List.length_drop]; omega
  · right; exact ⟨h1,decide_eq_false h1⟩
theorem drop_byte {b : List Int} (h : ∀ n ∈ b,Byte n) (k : Nat) : ∀ n ∈ b.drop k,Byte n := fun n hn => h n (List.mem_of_mem_drop hn)
theorem cv_small {k a b : Int} (h0 : 1 ≤ k) (h1 : k ≤ 5) (ha : U64 a) (hb : U64 b) : CvOk (k,(a,b)) := ⟨⟨by simp only; omega,by simp only; omega⟩,ha,hb⟩
theorem u64_0 : U64 0 := ⟨by omega,by omega⟩
def post28 (x : List Int×Int×Int×Int×List Int) : Cv×Int :=
  if x.2.2.2.1 = 0 then getC x.1 else if x.2.2.2.1 = 1 then getC1 (x.2.2.2.2.getD 0 0) x.1 else
  if x.2.2.2.1 = 2 then (if x.2.2.2.2.getD 0 0 = 4 then getC2 (x.2.2.2.2.getD 0 0) (x.2.2.2.2.getD 1 0) x.1 else fin (x.2.2.2.2.getD 0 0,(x.2.2.2.2.getD 1 0,0)) x.1) else
  fin (x.2.2.2.2.getD 0 0,(x.2.2.2.2.getD 1 0,x.2.2.2.2.getD 2 0)) x.1
theorem F64_eq {b : List Int} (h : ∀ n ∈ b,Byte n) (hl : b.length ≤ 4611686018427387904) : F64 b = some (getC b) := by
  unfold F64
  refine (lfp_rule (fun x => (∀ n ∈ x.1,Byte n) ∧ x.1.length ≤ 4611686018427387904 ∧
    ((x.2.2.2.1 = 0 ∧ x.2.2.1 = 2 ∧ x.2.2.2.2 = [0,0,0]) ∨
     (∃ n,1 ≤ n ∧ n ≤ 5 ∧ x.2.2.2.1 = 1 ∧ x.2.2.1 = (if n = 4 then 3 else 2) ∧ x.2.2.2.2 = [n,0,0]) ∨
     (∃ n a,1 ≤ n ∧ n ≤ 5 ∧ U64 a ∧ x.2.2.2.1 = 2 ∧ x.2.2.1 = (if n = 4 then 3 else 2) ∧ x.2.2.2.2 = [n,a,0]) ∨
     (∃ a c,U64 a ∧ U64 c ∧ x.2.2.2.1 = 3 ∧ x.2.2.1 = 3 ∧ x.2.2.2.2 = [4,a,c]))) (fun x => 3 - x.2.2.2.1.toNat) post28 ?_ (b,(0 : Int),(2 : Int),(0 : Int),[0,0,0]) ⟨h,hl,.inl ⟨rfl,rfl,rfl⟩⟩).trans (by simp [post28])
  rintro ⟨b,q,many,i,arr⟩ ⟨hb,hlen,hx⟩ rec hrec
  simp only at hb hlen hx
  have fin_ok : ∀ (n a c : Int),1 ≤ n → n ≤ 5 → U64 a → U64 c → i = many → arr = [n,a,c] → (many = 2 ∨ many = 3) →
      (bif inb 0 3 then bif inb 1 3 then bif inb 2 3 then
        bif (decide (0 < (b.length : Int)) == false) then (
        (F37 ((IntKind.wrap .i64 (rd (.int .u64) arr 0)),((rd (.int .u64) arr 1),(rd (.int .u64) arr 2)))).bind fun r3 =>
        bif (!decide (r3 = 0)) then some (((0,(0,0)),2) : Cv×Int)
        else some (((IntKind.wrap .i64 (rd (.int .u64) arr 0)),((rd (.int .u64) arr 1),(rd (.int .u64) arr 2))),0))
        else some ((0,(0,0)),2)
        else none else none else none) = some (fin (n,(a,c)) b) := by
    intro n a c hn hn2 ha hc hi harr hm
    subst harr
    have r0 : rd (.int .u64) [n,a,c] 0 = n := rfl
    have r1 : rd (.int .u64) [n,a,c] 1 = a := rfl
    have r2 : rd (.int .u64) [n,a,c] 2 = c := rfl
    rw [r0,r1,r2,small5_i64 hn hn2,F37_eq (cv_small hn hn2 ha hc)]
    simp only [show inb 0 3 = true from rfl,show inb 1 3 = true from rfl,show inb 2 3 = true from rfl,cond_true,pos_len,Option.bind_some]
    exact fin_form _ _
  rcases hx with ⟨hi,hm,harr⟩ | ⟨n,hn,hn2,hi,hm,harr⟩ | ⟨n,a,hn,hn2,ha,hi,hm,harr⟩ | ⟨a,c,ha,hc,hi,hm,harr⟩
  · subst hi; subst hm; subst harr
    simp only [show decide ((0 : Int) < 2) = true from rfl,cond_true,F86_eq hb hlen,Option.bind_some,post28,if_true,getC,decide_true,beq_self_eq_true,Bool.true_eq]
    rcases get1_casesQ hb with ⟨e0,hy,hin,hs,hlt⟩ | ⟨e0,e1⟩
    · simp only [e0,decide_true,Bool.not_true,cond_false,ne_eq,not_true_eq_false,if_false]
      by_cases q1 : (get1 b).1 < 1
      · simp [q1]
      by_cases q2 : 5 < (get1 b).1
      · simp [q2]
      simp only [q1,q2,decide_false,cond_false,or_self,if_false,hin,cond_true,show inb 0 3 = true from rfl]
      have h2 := drop_byte hb (get1 b).2.1.toNat
      have w1 : IntKind.wrap .i64 ((0 : Int) + 1) = 1 := by decide
      have w2 : IntKind.wrap .i64 ((2 : Int) + 1) = 3 := by decide
      have hset : ([0,0,0] : List Int).set (Int.toNat 0) (get1 b).1 = [(get1 b).1,0,0] := rfl
      by_cases q4 : (get1 b).1 = 4
      · simp only [q4,decide_true,cond_true,w1,w2]
        rw [← q4,hset,hrec (b.drop (get1 b).2.1.toNat,q,3,1,[(get1 b).1,0,0]) ⟨h2,by simp only; omega,.inr (.inl ⟨_,by omega,by omega,rfl,by simp [q4],rfl⟩)⟩ (by simp)]
        simp [post28]
      · simp only [q4,decide_false,cond_false,w1]
        rw [hset,hrec (b.drop (get1 b).2.1.toNat,q,2,1,[(get1 b).1,0,0]) ⟨h2,by simp only; omega,.inr (.inl ⟨_,by omega,by omega,rfl,by simp [q4],rfl⟩)⟩ (by simp)]
        simp [post28]
    · simp only [e1,decide_false,Bool.not_false,cond_true,e0,ne_eq,not_false_eq_true,if_true]
  · subst hi; subst harr
    have k1 : decide ((1 : Int) < many) = true := by rw [hm]; split <;> rfl
    simp only [k1,cond_true,F86_eq hb hlen,Option.bind_some,post28,getC1,show ¬ ((1 : Int) = 0) by omega,if_false,if_true,decide_false,List.getD_cons_zero,show (false == true) = false from rfl,cond_false]
    rcases get1_casesQ hb with ⟨e0,hy,hin,hs,hlt⟩ | ⟨e0,e1⟩
    · simp only [e0,decide_true,Bool.not_true,cond_false,ne_eq,not_true_eq_false,if_false,hin,cond_true,show inb 1 3 = true from rfl]
      have h2 := drop_byte hb (get1 b).2.1.toNat
      have w1 : IntKind.wrap .i64 ((1 : Int) + 1) = 2 := by decide
      have hset : ([n,0,0] : List Int).set (Int.toNat 1) (get1 b).1 = [n,(get1 b).1,0] := rfl
      rw [w1,hset,hrec (b.drop (get1 b).2.1.toNat,q,many,2,[n,(get1 b).1,0]) ⟨h2,by simp only; omega,.inr (.inr (.inl ⟨n,_,by omega,by omega,hy,rfl,hm,rfl⟩))⟩ (by simp)]
      simp [post28]
    · simp only [e1,decide_false,Bool.not_false,cond_true,e0,ne_eq,not_false_eq_true,if_true]
  · subst hi
    by_cases q4 : n = 4
    · subst q4
      simp only [if_true] at hm
      subst hm; subst harr
      simp only [show decide ((2 : Int) < 3) = true from rfl,cond_true,F86_eq hb hlen,Option.bind_some,post28,getC2,show ¬ ((2 : Int) = 0) by omega,show ¬ ((2 : Int) = 1) by omega,if_false,if_true,decide_false,List.getD_cons_zero,List.getD_cons_succ,show (false == true) = false from rfl,cond_false]
      rcases get1_casesQ hb with ⟨e0,hy,hin,hs,hlt⟩ | ⟨e0,e1⟩
      · simp only [e0,decide_true,Bool.not_true,cond_false,ne_eq,not_true_eq_false,if_false,hin,cond_true,show inb 2 3 = true from rfl]
        have h2 := drop_byte hb (get1 b).2.1.toNat
        have w1 : IntKind.wrap .i64 ((2 : Int) + 1) = 3 := by decide
        have hset : ([4,a,0] : List Int).set (Int.toNat 2) (get1 b).1 = [4,a,(get1 b).1] := rfl
        rw [w1,hset,hrec (b.drop (get1 b).2.1.toNat,q,3,3,[4,a,(get1 b).1]) ⟨h2,by simp only; omega,.inr (.inr (.inr ⟨a,_,ha,hy,rfl,rfl,rfl⟩))⟩ (by simp)]
        simp [post28]
      · simp only [e1,decide_false,Bool.not_false,cond_true,e0,ne_eq,not_false_eq_true,if_true]
    · rw [if_neg q4] at hm
      have f := fin_ok n a 0 hn hn2 ha u64_0 hm.symm harr (.inl hm)
      subst hm
      simp only [show decide ((2 : Int) < 2) = false from rfl,cond_false]
      refine f.trans ?_
      subst harr
      simp [post28,q4]
  · have f := fin_ok 4 a c (by omega) (by omega) ha hc (by omega) harr (.inr hm)
    subst hi; subst hm
    simp only [show decide ((3 : Int) < 3) = false from rfl,cond_false]
    refine f.trans ?_
    subst harr
    simp [post28]
theorem getC_enc {c : Cv} (hc : CvOk c) (h : chk c = 0) (m : List Int) : getC (encC c ++ m) = if m = [] then (c,0) else ((0,(0,0)),2) := by
  have k := chk_kind h
  obtain ⟨n,a,b⟩ := c
  have hn : U64 n := ⟨by simp only at k; omega,by simp only at k; omega⟩
  have ha : U64 a := hc.2.1
  have hb : U64 b := hc.2.2
  simp only at k
  unfold getC encC
  simp only [List.append_assoc,get1_enc hn.1 hn.2,drop_enc,getC1,get1_enc ha.1 ha.2]
  have k1 : ¬ (n < 1 ∨ 5 < n) := by omega
  simp only [ne_eq,not_true_eq_false,if_false,k1]
  by_cases h4 : n = 4
  · subst h4
    simp only [if_true,getC2,get1_enc hb.1 hb.2,drop_enc,not_true_eq_false,if_false,fin,h]
    by_cases hm : m = [] <;> simp [hm]
  · simp only [h4,if_false,fin,List.nil_append]
    have : b = 0 := k.2.2.2.1 h4
    subst this
    by_cases hm : m = [] <;> simp [hm,h]
theorem getC_ok {b : List Int} (hb : ∀ n ∈ b,Byte n) {d : Cv} (h : getC b = (d,0)) : chk d = 0 ∧ CvOk d ∧ encC d = b := by
  unfold getC at h
  rcases get1_casesQ hb with ⟨e0,hy,hi,hs,hlt⟩ | ⟨e0,e1⟩
  · rw [if_neg (fun hh => hh e0)] at h
    split at h
    · simp at h
    · rename_i q
      unfold getC1 at h
      have h2 := drop_byte hb (get1 b).2.1.toNat
      rcases get1_casesQ h2 with ⟨e0',hy',hi',hs',hlt'⟩ | ⟨e0',e1'⟩
      · rw [if_neg (fun hh => hh e0')] at h
        have h3 := drop_byte h2 (get1 (b.drop (get1 b).2.1.toNat)).2.1.toNat
        split at h
        · rename_i q4
          unfold getC2 at h
          rcases get1_casesQ h3 with ⟨e0'',hy'',hi'',hs'',hlt''⟩ | ⟨e0'',e1''⟩
          · rw [if_neg (fun hh => hh e0'')] at h
            unfold fin at h
            split at h
            · simp at h
            · rename_i hf
              simp only [ne_eq,not_or,Classical.not_not] at hf
              simp only [Prod.mk.injEq,and_true] at h
              subst h
              refine ⟨hf.2,cv_small (by omega) (by omega) hy' hy'',?_⟩
              rw [hf.1,List.append_nil] at hs''
              simp only [encC,q4,if_true]
              rw [hs'',hs',← q4,hs]
          · rw [if_pos e0''] at h
            simp only [Prod.mk.injEq] at h
            exact absurd h.2 e0''
        · rename_i q4
          unfold fin at h
          split at h
          · simp at h
          · rename_i hf
            simp only [ne_eq,not_or,Classical.not_not] at hf
            simp only [Prod.mk.injEq,and_true] at h
            subst h
            refine ⟨hf.2,cv_small (by omega) (by omega) hy' u64_0,?_⟩
            rw [hf.1,List.append_nil] at hs'
            simp only [encC,q4,if_false,List.append_nil]
            rw [hs',hs]
      · rw [if_pos e0'] at h
        simp only [Prod.mk.injEq] at h
        exact absurd h.2 e0'
  · rw [if_pos e0] at h
    simp only [Prod.mk.injEq] at h
    exact absurd h.2 e0
noncomputable def numT (m : List Rec) (t : Int) : Int×Int :=
  if (findT m t).2 ≠ 0 then (0,(findT m t).2) else
  if (get1 (findT m t).1).2.2 ≠ 0 then (0,(get1 (findT m t).1).2.2) else
  if (get1 (findT m t).1).2.1 < ((findT m t).1.length : Int) then (0,2) else ((get1 (findT m t).1).1,0)
theorem look_mem : ∀ {l : List Rec} {t : Int} {v : List Int},look l t = some v → ∃ r ∈ l,r.2 = v
  | [],t,v,h => by simp [look] at h
  | a :: r,t,v,h => by
    unfold look at h
    split at h
    · obtain ⟨x,hx,h2⟩ := look_mem h
      exact ⟨x,List.mem_cons_of_mem _ hx,h2⟩
    · split at h
      · exact ⟨a,by simp,by simpa using h⟩
      · simp at h
theorem findT_bs {m : List Rec} {t : Int} (h : ∀ r ∈ m,Bs r.2) (hl : okT m) : Bs (findT m t).1 ∧ (findT m t).1.length ≤ 4096 := by
  unfold findT
  rw [if_pos hl]
  cases q : look m t with
  | none => exact ⟨by intro n hn; simp at hn,by simp⟩
  | some v =>
    obtain ⟨r,hr,rfl⟩ := look_mem q
    exact ⟨h r hr,hl.2.1 r hr⟩
theorem Fnum_eq {m : List Rec} {t : Int} (h : ∀ r ∈ m,Bs r.2) (hl : okT m) : F89 (m,t) = some (numT m t) := by
  obtain ⟨h1,h2⟩ := findT_bs (t := t) h hl
  unfold F89 numT
  simp only [F88_eq,Option.bind_some]
  by_cases c1 : (findT m t).2 = 0
  · simp only [c1,decide_true,Bool.not_true,cond_false,ne_eq,not_true_eq_false,if_false,F86_eq h1 (by omega),Option.bind_some]
    by_cases c2 : (get1 (findT m t).1).2.2 = 0
    · by_cases c3 : (get1 (findT m t).1).2.1 < ((findT m t).1.length : Int) <;> simp [c2,c3]
    · simp [c2]
  · simp [c1]
theorem numT_ok {m : List Rec} {t : Int} (h : ∀ r ∈ m,Bs r.2) (hl : okT m) (h0 : (numT m t).2 = 0) : ∃ v,look m t = some v ∧ enc1 (numT m t).1 = v ∧ U64 (numT m t).1 := by
  obtain ⟨h1,h2⟩ := findT_bs (t := t) h hl
  unfold numT at h0 ⊢
  by_cases c1 : (findT m t).2 = 0
  · rw [if_neg (by simp [c1])] at h0 ⊢
    have hv : ∃ v,look m t = some v ∧ (findT m t).1 = v := by
      unfold findT at c1 ⊢
      rw [if_pos hl] at c1 ⊢
      cases q : look m t with
      | none => rw [q] at c1; simp at c1
      | some v => exact ⟨v,rfl,rfl⟩
    obtain ⟨v,hv,hf⟩ := hv
    rw [hf] at h1 h0 ⊢
    rcases get1_cases h1 with ⟨e0,hy,hin,hs,hlt⟩ | ⟨e0,e1⟩
    · rw [if_neg (by simp [e0])] at h0 ⊢
      by_cases c3 : (get1 v).2.1 < (v.length : Int)
      · rw [if_pos c3] at h0; simp at h0
      · rw [if_neg c3]
        refine ⟨v,hv,?_,⟨hy.1,by have := hy.2; simp only; omega⟩⟩
        have : v.drop (get1 v).2.1.toNat = [] := List.drop_eq_nil_of_le (by omega)
        rw [this,List.append_nil] at hs
        exact hs
    · rw [if_pos e0] at h0; exact absurd h0 e0
  · rw [if_pos c1] at h0; exact absurd h0 c1
theorem numT_enc {m : List Rec} {t n : Int} (hl : okT m) (hn : U64 n) (hk : look m t = some (enc1 n)) : numT m t = (n,0) := by
  have hf : findT m t = (enc1 n,0) := by unfold findT; rw [if_pos hl,hk]
  have hg := get1_enc hn.1 hn.2 []
  rw [List.append_nil] at hg
  have hw : ((enc1 n).length : Int) = (wid n : Int) + 1 := by
    have h3 := drop_enc n []
    rw [List.append_nil] at h3
    have h4 := congrArg List.length h3
    rw [List.length_drop,List.length_nil] at h4
    have h5 : (enc1 n).length ≤ wid n + 1 := by omega
    rcases get1_cases (enc1_byte hn.1) with ⟨e0,hy,hin,hs,hlt⟩ | ⟨e0,e1⟩
    · rw [hg] at hin
      simp only [inb,Bool.and_eq_true,decide_eq_true_eq] at hin
      omega
    · rw [hg] at e0; exact absurd rfl e0
  unfold numT
  rw [hf]
  simp only [hg,hw]
  simp
def pl (i : Nat) : Int := if i < 2 then 1 + (i : Int) else 16 + ((i : Int) - 2)
theorem F90_eq {i : Nat} (h : i ≤ 1000) : F90 (i : Int) = some (pl i) := by
  unfold F90 pl
  by_cases c : i < 2
  · have : (i : Int) < 2 := by omega
    simp only [this,decide_true,cond_true,c,if_true]
    rw [RB.wrap_u64 (n := (i : Int)) (by omega) (by omega),RB.wrap_u64 (by omega) (by omega)]
  · have : ¬ (i : Int) < 2 := by omega
    simp only [this,decide_false,cond_false,c,if_false]
    rw [RB.wrap_i64 (by omega) (by omega),RB.wrap_u64 (n := (i : Int) - 2) (by omega) (by omega),RB.wrap_u64 (by omega) (by omega)]
def cavs : List Rec → List Cv → List Cv×Int
  | [],acc => (acc,0)
  | r :: l,acc => if (getC r.2).2 ≠ 0 then ([],(getC r.2).2) else cavs l (acc ++ [(getC r.2).1])
def capR (n0 n1 : Int) (p : List Cv×Int) : Tok×Int := if p.2 ≠ 0 then ((0,([],0)),p.2) else ((n0,(p.1,n1)),0)
def badU (m : List Rec) (n1 : Int) (i : Nat) : Prop := (1048576 < n1 ∨ 18 < m.length) ∨ ∃ j,∃ h : j < m.length,j < i ∧ m[j].1 ≠ pl j
open Classical in
noncomputable def resC (m : List Rec) (n0 n1 : Int) : Tok×Int := if badU m n1 m.length then ((0,([],0)),2) else capR n0 n1 (cavs (m.drop 2) [])
noncomputable def resN (m : List Rec) : Tok×Int :=
  if (numT m 1).2 ≠ 0 then ((0,([],0)),(numT m 1).2) else
  if (numT m 2).2 ≠ 0 then ((0,([],0)),(numT m 2).2) else resC m (numT m 1).1 (numT m 2).1
noncomputable def resF (m : List Rec) : Tok×Int :=
  if (findT m 1).2 ≠ 0 then ((0,([],0)),5) else if (findT m 2).2 ≠ 0 then ((0,([],0)),5) else resN m
noncomputable def getK (b : List Int) : Tok×Int := if (getT b).2 ≠ 0 then ((0,([],0)),(getT b).2) else resF (getT b).1
theorem badU_succ {m : List Rec} {n1 : Int} {i : Nat} (h : i < m.length) : badU m n1 (i + 1) ↔ badU m n1 i ∨ m[i].1 ≠ pl i := by
  unfold badU
  constructor
  · rintro (h1 | ⟨j,hj,h1,h2⟩)
    · exact .inl (.inl h1)
    · by_cases e : j = i
      · subst e; exact .inr h2
      · exact .inl (.inr ⟨j,hj,by omega,h2⟩)
  · rintro ((h1 | ⟨j,hj,h1,h2⟩) | h1)
    · exact .inl h1
    · exact .inr ⟨j,hj,by omega,h2⟩
    · exact .inr ⟨i,h,by omega,h1⟩
theorem find_len {m : List Rec} {t : Int} (h : (findT m t).2 = 0) : m.length ≤ 64 ∧ ∃ v,look m t = some v := by
  unfold findT at h
  split at h
  · rename_i q
    refine ⟨q.1,?_⟩
    cases k : look m t with
    | none => rw [k] at h; simp at h
    | some v => exact ⟨v,rfl⟩
  · simp at h
theorem two_of {m : List Rec} {v w : List Int} (h1 : look m 1 = some v) (h2 : look m 2 = some w) : 2 ≤ m.length := by
  match m,h1,h2 with
  | [],h,_ => simp [look] at h
  | [a],h,k =>
    simp only [look] at h k
    split at h
    · simp at h
    · split at h
      · split at k
        · simp at k
        · split at k
          · omega
          · simp at k
      · simp at h
  | a :: b :: r,_,_ => simp
theorem F63_eq {b : List Int} (hb : Bs b) : F63 b = some (getK b) := by
  unfold F63 getK
  simp only [F23_eq hb,Option.bind_some]
  by_cases c1 : (getT b).2 = 0
  · have hok := getT_ok (m := (getT b).1) hb (by rw [← c1])
    generalize (getT b).1 = m at hok ⊢
    obtain ⟨hv,ho,hp⟩ := hok
    have hbs : ∀ r ∈ m,Bs r.2 := fun r hr => (hv r hr).2
    have hlen : m.length ≤ 64 := ho.1
    simp only [c1,decide_true,Bool.not_true,cond_false,ne_eq,not_true_eq_false,if_false]
    refine lfp_rule (fun (x : Int×Int) => x.2 = 0 ∨ (x.2 = 1 ∧ (findT m 1).2 = 0) ∨ (x.2 = 2 ∧ (findT m 1).2 = 0 ∧ (findT m 2).2 = 0)) (fun x => 2 - x.2.toNat) (fun _ => resF m) ?_ _ (.inl rfl)
    rintro ⟨q,i⟩ hx rec hrec
    simp only at hx
    rcases hx with rfl | ⟨rfl,h1⟩ | ⟨rfl,h1,h2⟩
    · simp only [show decide ((0 : Int) < 2) = true from rfl,cond_true,show IntKind.wrap .u64 (1 + (IntKind.wrap .u64 0)) = 1 from rfl,F88_eq,Option.bind_some]
      by_cases k : (findT m 1).2 = 0
      · simp only [k,decide_true,Bool.not_true,cond_false]
        exact hrec _ (.inr (.inl ⟨rfl,k⟩)) (by simp only; decide)
      · simp [k,resF]
    · simp only [show decide ((1 : Int) < 2) = true from rfl,cond_true,show IntKind.wrap .u64 (1 + (IntKind.wrap .u64 1)) = 2 from rfl,F88_eq,Option.bind_some]
      by_cases k : (findT m 2).2 = 0
      · simp only [k,decide_true,Bool.not_true,cond_false]
        exact hrec _ (.inr (.inr ⟨rfl,h1,k⟩)) (by simp only; decide)
      · simp [k,resF,h1]
    · clear hrec
      have hF : resF m = resN m := by unfold resF; rw [if_neg (by simp [h1]),if_neg (by simp [h2])]
      obtain ⟨_,v1,hv1⟩ := find_len h1
      obtain ⟨_,v2,hv2⟩ := find_len h2
      have h2m := two_of hv1 hv2
      rw [hF]
      simp only [show decide ((2 : Int) < 2) = false from rfl,cond_false]
      refine lfp_rule (fun (x : Int×Int×List Int) => (x.2.1 = 0 ∧ x.2.2 = [0,0]) ∨ (x.2.1 = 1 ∧ x.2.2 = [(numT m 1).1,0] ∧ (numT m 1).2 = 0) ∨ (x.2.1 = 2 ∧ x.2.2 = [(numT m 1).1,(numT m 2).1] ∧ (numT m 1).2 = 0 ∧ (numT m 2).2 = 0)) (fun x => 2 - x.2.1.toNat) (fun _ => resN m) ?_ _ (.inl ⟨rfl,rfl⟩)
      rintro ⟨q,i,arr⟩ hx rec hrec
      simp only at hx
      rcases hx with ⟨rfl,rfl⟩ | ⟨rfl,rfl,n1⟩ | ⟨rfl,rfl,n1,n2⟩
      · simp only [show decide ((0 : Int) < 2) = true from rfl,cond_true,show IntKind.wrap .u64 (1 + (IntKind.wrap .u64 0)) = 1 from rfl,Fnum_eq hbs ho,Option.bind_some,show inb 0 2 = true from rfl]
        by_cases k : (numT m 1).2 = 0
        · simp only [k,decide_true,Bool.not_true,cond_false]
          exact hrec _ (.inr (.inl ⟨rfl,rfl,k⟩)) (by simp only; decide)
        · simp [k,resN]
      · simp only [show decide ((1 : Int) < 2) = true from rfl,cond_true,show IntKind.wrap .u64 (1 + (IntKind.wrap .u64 1)) = 2 from rfl,Fnum_eq hbs ho,Option.bind_some,show inb 1 2 = true from rfl]
        by_cases k : (numT m 2).2 = 0
        · simp only [k,decide_true,Bool.not_true,cond_false]
          exact hrec _ (.inr (.inr ⟨rfl,rfl,n1,k⟩)) (by simp only; decide)
        · simp [k,resN,n1]
      · clear hrec
        have hN : resN m = resC m (numT m 1).1 (numT m 2).1 := by unfold resN; rw [if_neg (by simp [n1]),if_neg (by simp [n2])]
        obtain ⟨_,_,_,u1⟩ := numT_ok hbs ho n1
        obtain ⟨_,_,_,u2⟩ := numT_ok hbs ho n2
        rw [hN]
        generalize (numT m 1).1 = a1 at u1 ⊢
        generalize (numT m 2).1 = a2 at u2 ⊢
        have r0 : rd (.int .u64) [a1,a2] 0 = a1 := rfl
        have r1 : rd (.int .u64) [a1,a2] 1 = a2 := rfl
        simp only [show decide ((2 : Int) < 2) = false from rfl,cond_false,show inb 1 2 = true from rfl,show inb 0 2 = true from rfl,cond_true,r0,r1,both_self]
        refine lfp_rule (fun (x : Bool×Int) => ∃ i : Nat,x.2 = (i : Int) ∧ i ≤ m.length ∧ (x.1 = true ↔ badU m a2 i)) (fun x => m.length - x.2.toNat) (fun _ => resC m a1 a2) ?_ _ ⟨0,rfl,by omega,?_⟩
        · rintro ⟨f,i'⟩ ⟨i,hi',hi,hf⟩ rec hrec
          simp only at hi' hf
          subst hi'
          simp only
          by_cases hlt : i < m.length
          · have k1 : ((i : Int) < (m.length : Int)) := by omega
            simp only [k1,decide_true,cond_true,inb_true (Int.natCast_nonneg i) k1,rd_nat (t := tR) hlt]
            rw [RB.wrap_i64 (n := (i : Int) + 1) (by omega) (by omega)]
            cases f with
            | false =>
              simp only [beq_self_eq_true,cond_true,F90_eq (i := i) (by omega),Option.bind_some]
              refine hrec _ ⟨i + 1,by simp,by omega,?_⟩ (by simp only; omega)
              rw [badU_succ hlt,← hf]
              simp
            | true =>
              simp only [show (true == false) = false from rfl,cond_false]
              refine hrec _ ⟨i + 1,by simp,by omega,?_⟩ (by simp only; omega)
              rw [badU_succ hlt,← hf]
              simp
          · have k1 : ¬ ((i : Int) < (m.length : Int)) := by omega
            have hie : i = m.length := by omega
            clear hrec
            subst hie
            simp only [k1,decide_false,cond_false]
            cases f with
            | true =>
              have : badU m a2 m.length := hf.1 rfl
              simp [resC,this]
            | false =>
              have hnb : ¬ badU m a2 m.length := fun h => by simpa using hf.2 h
              have hC : resC m a1 a2 = capR a1 a2 (cavs (m.drop 2) []) := by unfold resC; rw [if_neg hnb]
              have hn : a2 ≤ 1048576 ∧ m.length ≤ 18 := by
                unfold badU at hnb
                constructor
                · exact Int.not_lt.1 fun h => hnb (.inl (.inl h))
                · exact Nat.not_lt.1 fun h => hnb (.inl (.inr h))
              have k2 : inb 2 (m.length + 1) = true := inb_true (by omega) (by omega)
              have hdr : ((2 : Int).toNat) = 2 := rfl
              simp only [k2,cond_true,cond_false,hdr,hC]
              have hdl : (m.drop 2).length = m.length - 2 := List.length_drop
              have hsub : ∀ r ∈ m.drop 2,Bs r.2 ∧ r.2.length ≤ 4096 := fun r hr => ⟨hbs r (List.mem_of_mem_drop hr),ho.2.1 r (List.mem_of_mem_drop hr)⟩
              clear hC
              generalize m.drop 2 = D at hsub hdl ⊢
              refine lfp_rule (fun (x : Int×Int×List Cv×(Int×Int)) => ∃ i : Nat,x.2.1 = (i : Int) ∧ i ≤ D.length ∧ x.2.2.1.length = i ∧ cavs (D.drop i) x.2.2.1 = cavs D [] ∧ x.2.2.2 = (a1,a2)) (fun x => D.length - x.2.1.toNat) (fun _ => capR a1 a2 (cavs D [])) ?_ _ ⟨0,rfl,by omega,rfl,rfl,?_⟩
              · rintro ⟨q,i',acc,p⟩ ⟨i,hi',hi,hal,hca,hp'⟩ rec hrec
                simp only at hi' hal hca hp'
                subst hi'; subst hp'
                simp only
                by_cases hlt : i < D.length
                · have k1 : ((i : Int) < (D.length : Int)) := by omega
                  have hbr : Bs D[i].2 := (hsub _ (List.getElem_mem hlt)).1
                  have hbl : D[i].2.length ≤ 4096 := (hsub _ (List.getElem_mem hlt)).2
                  have hstep : cavs (D.drop i) acc = if (getC D[i].2).2 ≠ 0 then ([],(getC D[i].2).2) else cavs (D.drop (i + 1)) (acc ++ [(getC D[i].2).1]) := by
                    rw [List.drop_eq_getElem_cons hlt,cavs]
                  simp only [k1,decide_true,cond_true,inb_true (Int.natCast_nonneg i) k1,rd_nat (t := tR) hlt,F64_eq hbr (by omega),Option.bind_some,Prod.eta]
                  by_cases e0 : (getC D[i].2).2 = 0
                  · have k3 : (acc.length + 1) * 24 ≤ LIM := by unfold LIM; omega
                    rw [if_neg (by simp [e0])] at hstep
                    simp only [e0,decide_true,Bool.not_true,cond_false,k3,cond_true]
                    rw [RB.wrap_i64 (n := (i : Int) + 1) (by omega) (by omega)]
                    exact hrec _ ⟨i + 1,by simp,by omega,by simp [hal],by rw [← hca,hstep],rfl⟩ (by simp only; omega)
                  · rw [if_pos e0] at hstep
                    rw [← hca,hstep]
                    simp [e0,capR]
                · have k1 : ¬ ((i : Int) < (D.length : Int)) := by omega
                  have : D.drop i = [] := List.drop_eq_nil_of_le (by omega)
                  rw [this,cavs] at hca
                  rw [← hca]
                  simp [k1,capR]
              · rw [RB.wrap_i64 (by have := u2.1; omega) (by omega)]
        · simp only
          unfold badU
          have e : ((18 : Int) < (m.length : Int)) ↔ 18 < m.length := by omega
          by_cases h1 : 1048576 < a2
          · simp [h1]
          · simp [h1,e]
  · simp [c1]
def plcR : Nat → List Rec → Prop
  | _,[] => True
  | i,r :: l => r.1 = ((16 + i : Nat) : Int) ∧ plcR (i + 1) l
theorem plcR_of : ∀ (l : List Rec) (i : Nat),(∀ j (h : j < l.length),l[j].1 = ((16 + (i + j) : Nat) : Int)) → plcR i l
  | [],_,_ => trivial
  | r :: l,i,h => ⟨by have := h 0 (by simp); simpa using this,plcR_of l (i + 1) fun j hj => by
      have := h (j + 1) (by simp; omega)
      rw [List.getElem_cons_succ] at this
      rw [this]; omega⟩
theorem cavs_ok : ∀ (l : List Rec) (i : Nat) (acc x : List Cv),plcR i l → (∀ r ∈ l,Bs r.2) → cavs l acc = (x,0) →
    ∃ cs,x = acc ++ cs ∧ numd encC i cs = l ∧ ∀ c ∈ cs,CvOk c ∧ chk c = 0
  | [],i,acc,x,_,_,h => by
    simp only [cavs,Prod.mk.injEq,and_true] at h
    exact ⟨[],by simp [h],rfl,by simp⟩
  | r :: l,i,acc,x,hp,hb,h => by
    unfold cavs at h
    by_cases e : (getC r.2).2 = 0
    · rw [if_neg (by simp [e])] at h
      obtain ⟨cs,h1,h2,h3⟩ := cavs_ok l (i + 1) _ x hp.2 (fun q hq => hb q (List.mem_cons_of_mem _ hq)) h
      obtain ⟨g1,g2,g3⟩ := getC_ok (hb r (by simp)) (d := (getC r.2).1) (by rw [← e])
      refine ⟨(getC r.2).1 :: cs,by rw [h1]; simp,?_,fun c hc => ?_⟩
      · rw [numd,h2,g3,← hp.1]
      · rcases List.mem_cons.1 hc with rfl | hc
        · exact ⟨g2,g1⟩
        · exact h3 c hc
    · rw [if_pos e] at h
      simp only [Prod.mk.injEq] at h
      exact absurd h.2 e
theorem cavs_enc : ∀ (l : List Cv) (i : Nat) (acc : List Cv),(∀ c ∈ l,CvOk c ∧ chk c = 0) → cavs (numd encC i l) acc = (acc ++ l,0)
  | [],i,acc,_ => by simp [numd,cavs]
  | c :: l,i,acc,h => by
    have h1 := getC_enc (h c (by simp)).1 (h c (by simp)).2 []
    rw [List.append_nil,if_pos rfl] at h1
    rw [numd,cavs]
    simp only [h1]
    rw [if_neg (by simp),cavs_enc l (i + 1) _ (fun c hc => h c (List.mem_cons_of_mem _ hc))]
    simp
theorem numd_get : ∀ (l : List Cv) (i j : Nat) (h : j < (numd encC i l).length),(numd encC i l)[j].1 = ((16 + (i + j) : Nat) : Int)
  | [],i,j,h => by simp [numd] at h
  | c :: l,i,0,h => by simp [numd]
  | c :: l,i,j + 1,h => by
    have h2 : j < (numd encC (i + 1) l).length := by simp [numd] at h; exact h
    have := numd_get l (i + 1) j h2
    simp only [numd,List.getElem_cons_succ,this]
    omega
theorem getK_ok {b : List Int} (hb : Bs b) (h : (getK b).2 = 0) : TokOk (getK b).1 ∧ okK (getK b).1 ∧ tokB (getK b).1 = b := by
  unfold getK at h ⊢
  by_cases c1 : (getT b).2 = 0
  · rw [if_neg (by simp [c1])] at h ⊢
    obtain ⟨hv,ho,hp⟩ := getT_ok (m := (getT b).1) hb (by rw [← c1])
    generalize (getT b).1 = m at *
    have hbs : ∀ r ∈ m,Bs r.2 := fun r hr => (hv r hr).2
    unfold resF at h ⊢
    split at h
    · simp at h
    rename_i f1
    split at h
    · simp at h
    rename_i f2
    simp only [ne_eq,Classical.not_not] at f1 f2
    rw [if_neg (by simp [f1]),if_neg (by simp [f2])]
    unfold resN at h ⊢
    split at h
    · rename_i q; exact absurd h q
    rename_i n1
    split at h
    · rename_i q; exact absurd h q
    rename_i n2
    simp only [ne_eq,Classical.not_not] at n1 n2
    rw [if_neg (by simp [n1]),if_neg (by simp [n2])]
    obtain ⟨v1,k1,e1,u1⟩ := numT_ok hbs ho n1
    obtain ⟨v2,k2,e2,u2⟩ := numT_ok hbs ho n2
    have h2m := two_of k1 k2
    generalize (numT m 1).1 = a1 at *
    generalize (numT m 2).1 = a2 at *
    unfold resC at h ⊢
    split at h
    · simp at h
    rename_i hnb
    rw [if_neg hnb]
    have hpl : ∀ j (hj : j < m.length),m[j].1 = pl j := fun j hj => Classical.byContradiction fun q => hnb (.inr ⟨j,hj,hj,q⟩)
    have hn2 : ¬ 1048576 < a2 := fun q => hnb (.inl (.inl q))
    have hn3 : ¬ 18 < m.length := fun q => hnb (.inl (.inr q))
    match m,h2m,hv,hp,hbs,hpl,k1,k2,hn3,h with
    | r0 :: r1 :: D,_,hv,hp,hbs,hpl,k1,k2,hn3,h =>
      have p0 : r0.1 = 1 := by have := hpl 0 (by simp); simpa [pl] using this
      have p1 : r1.1 = 2 := by have := hpl 1 (by simp); simpa [pl] using this
      have g0 : r0.2 = v1 := by simpa [look,p0] using k1
      have g1 : r1.2 = v2 := by simpa [look,p0,p1] using k2
      have hplc : plcR 0 D := plcR_of D 0 fun j hj => by
        have := hpl (j + 2) (by simp; omega)
        simp only [List.getElem_cons_succ] at this
        rw [this]; unfold pl; rw [if_neg (by omega)]; omega
      have hd : (r0 :: r1 :: D).drop 2 = D := rfl
      rw [hd] at h ⊢
      unfold capR at h ⊢
      split at h
      · rename_i q; exact absurd h q
      rename_i q
      rw [if_neg q]
      simp only [ne_eq,Classical.not_not] at q
      obtain ⟨cs,x1,x2,x3⟩ := cavs_ok D 0 [] (cavs D []).1 hplc (fun r hr => hbs r (by simp [hr])) (by rw [← q])
      rw [List.nil_append] at x1
      rw [x1]
      have hcl : cs.length = D.length := by rw [← x2,numd_len]
      have hk : okK (a1,(cs,a2)) := ⟨by simp only; simp only [List.length_cons] at hn3; omega,⟨u2.1,by simp only; omega⟩,fun c hc => (x3 c hc).2⟩
      refine ⟨⟨u1,fun c hc => (x3 c hc).1,⟨by have := u2.1; simp only; omega,by simp only; omega⟩⟩,hk,?_⟩
      have ht : tokR (a1,(cs,a2)) = r0 :: r1 :: D := by
        unfold tokR
        simp only
        rw [x2,e1,e2,← g0,← g1]
        rw [show ((1 : Int),r0.2) = r0 from Prod.ext p0.symm rfl,show ((2 : Int),r1.2) = r1 from Prod.ext p1.symm rfl]
      have := putT_tok hk
      rw [ht,hp] at this
      exact (congrArg Prod.fst this).symm
  · rw [if_pos c1] at h; exact absurd h c1
theorem getK_enc {t : Tok} (ht : TokOk t) (hk : okK t) : getK (tokB t) = (t,0) := by
  have hlen := tok_len hk
  have hokV := tokR_okV ht hk
  have hokT := tokR_okT hk
  have hbs : ∀ r ∈ tokR t,Bs r.2 := fun r hr => (hokV r hr).2
  have hg : getT (tokB t) = (tokR t,0) := by
    unfold getT tokB
    rw [if_neg (by omega),goT_enc (tokR t) [] (fun r hr => ⟨hokV r hr,hokT.2.1 r hr⟩) hokT.2.2 hokT.1]
    simp
  have l1 : look (tokR t) 1 = some (enc1 t.1) := by simp [tokR,look]
  have l2 : look (tokR t) 2 = some (enc1 t.2.2) := by simp [tokR,look]
  have f1 : findT (tokR t) 1 = (enc1 t.1,0) := by unfold findT; rw [if_pos hokT,l1]
  have f2 : findT (tokR t) 2 = (enc1 t.2.2,0) := by unfold findT; rw [if_pos hokT,l2]
  have n1 := numT_enc hokT ht.1 l1
  have n2 := numT_enc (n := t.2.2) hokT ⟨hk.2.1.1,by have := hk.2.1.2; omega⟩ l2
  have hnb : ¬ badU (tokR t) t.2.2 (tokR t).length := by
    have hk2 := hk.2.1.2
    have hk1 := hk.1
    rintro ((q | q) | ⟨j,hj,_,q⟩)
    · omega
    · simp [tokR,numd_len] at q; omega
    · match j,hj,q with
      | 0,_,q => simp [tokR,pl] at q
      | 1,_,q => simp [tokR,pl] at q
      | j + 2,hj,q =>
        apply q
        simp only [tokR,List.getElem_cons_succ]
        rw [numd_get]
        unfold pl
        rw [if_neg (by omega)]
        omega
  unfold getK
  rw [hg]
  simp only
  rw [if_neg (by simp)]
  unfold resF
  rw [f1,f2]
  simp only
  rw [if_neg (by simp),if_neg (by simp)]
  unfold resN
  rw [n1,n2]
  simp only
  rw [if_neg (by simp),if_neg (by simp)]
  unfold resC
  rw [if_neg hnb]
  have hd : (tokR t).drop 2 = numd encC 0 t.2.1 := rfl
  rw [hd,cavs_enc t.2.1 0 [] (fun c hc => ⟨ht.2.1 c hc,hk.2.2 c hc⟩)]
  unfold capR
  simp
end Go.Proofs.YtgdfhijgjjcnjaaGreatDoor.RZ
namespace Go.Proofs.YtgdfhijgjjcnjaaGreatDoor.RZ
open Go Go.Fw Go.Proofs RB
set_option maxRecDepth 20000
def allS (acc : List Int) : List Int → List Int×Int
  | [] => (acc,0)
  | c :: r => if (get1 (c :: r)).2.2 ≠ 0 then ([],(get1 (c :: r)).2.2) else allS (acc ++ [(get1 (c :: r)).1]) (r.drop ((get1 (c :: r)).2.1.toNat - 1))
  termination_by l => l.length
  decreasing_by simp; omega
theorem allS_enc : ∀ (l acc : List Int),(∀ n ∈ l,0 ≤ n ∧ n < 18446744073709551616) → allS acc (l.flatMap enc1) = (acc ++ l,0)
  | [],acc,_ => by simp [allS]
  | n :: l,acc,h => by
    obtain ⟨h0,h1⟩ := h n (by simp)
    have hg := get1_enc h0 h1 (l.flatMap enc1)
    rw [List.flatMap_cons]
    have e : enc1 n ++ l.flatMap enc1 = fst n :: (dig n (wid n) ++ l.flatMap enc1) := rfl
    rw [e] at hg ⊢
    rw [allS]
    simp only [hg]
    have e2 : ((wid n : Int) + 1).toNat - 1 = wid n := by omega
    rw [if_neg (by simp),e2,List.drop_append_of_le_length (by rw [dig_len]; omega),List.drop_of_length_le (by rw [dig_len]; omega),List.nil_append,
      allS_enc l _ (fun m hm => h m (by simp [hm]))]
    simp
def all1 (l : List Int) : List Int×Int := if 65535 < l.length then ([],4) else allS [] l
theorem drop_pred {c : Int} {r : List Int} {k : Int} (h : 1 ≤ k) : (c :: r).drop k.toNat = r.drop (k.toNat - 1) := by
  obtain ⟨q,hq⟩ : ∃ q : Nat,k.toNat = q + 1 := ⟨k.toNat - 1,by omega⟩
  rw [hq]; rfl
theorem F62_eq {l : List Int} (h : ∀ n ∈ l,Byte n) : F62 l = some (all1 l) := by
  unfold F62 all1
  by_cases hl : 65535 < l.length
  · have : (65535 : Int) < (l.length : Int) := by omega
    simp only [this,decide_true,cond_true,if_pos hl]
  · have : ¬ (65535 : Int) < (l.length : Int) := by omega
    simp only [this,decide_false,cond_false,if_neg hl]
    refine lfp_rule (fun x => (∀ n ∈ x.1,Byte n) ∧ x.1.length + x.2.1.length ≤ 65535) (fun x => x.1.length) (fun x => allS x.2.1 x.1) ?_ (l,([] : List Int),(0 : Int)) ⟨h,by simp only [List.length_nil]; omega⟩
    rintro ⟨s,acc,q⟩ ⟨hb,hlen⟩ rec hrec
    simp only at hb hlen ⊢
    cases s with
    | nil => simp [allS]
    | cons c r =>
      have k1 : (0 : Int) < ((c :: r).length : Int) := by simp only [List.length_cons]; omega
      have k2 := get1_ok hb (y := (get1 (c :: r)).1) (m := (get1 (c :: r)).2.1) (e := (get1 (c :: r)).2.2) rfl
      simp only [k1,decide_true,cond_true,F86_eq hb (by omega),Option.bind_some,allS]
      by_cases he : (get1 (c :: r)).2.2 = 0
      · rcases k2 with ⟨_,k3,k4,k5,k6,k7⟩ | ⟨k3,_⟩
        · have k8 : inb (get1 (c :: r)).2.1 ((c :: r).length + 1) = true := inb_true (by omega) (by omega)
          have k9 : (acc.length + 1) * 8 ≤ LIM := by unfold LIM; omega
          simp only [he,decide_true,Bool.not_true,cond_false,k8,cond_true,k9,ne_eq,not_true_eq_false,if_false]
          have k10 : 1 ≤ (get1 (c :: r)).2.1 := by omega
          rw [drop_pred k10]
          refine hrec _ ⟨fun n hn => hb n (List.mem_cons_of_mem _ (List.mem_of_mem_drop hn)),?_⟩ ?_
          · simp only [List.length_drop,List.length_append,List.length_cons,List.length_nil] at hlen ⊢; omega
          · simp only [List.length_drop,List.length_cons]; omega
        · exact absurd he k3
      · simp only [he,decide_false,Bool.not_false,cond_true,ne_eq,not_false_eq_true,if_true]
theorem all1_len {l : List Int} : (all1 l).1.length ≤ l.length := by
  have key : ∀ (n : Nat) (l acc : List Int),l.length ≤ n → (allS acc l).1.length ≤ acc.length + l.length := by
    intro n
    induction n with
    | zero => intro l acc h; cases l with
      | nil => simp [allS]
      | cons c r => simp at h
    | succ n ih =>
      intro l acc h
      cases l with
      | nil => simp [allS]
      | cons c r =>
        rw [allS]
        split
        · simp
        · refine Nat.le_trans (ih _ _ ?_) ?_
          · simp at h ⊢; omega
          · simp; omega
  unfold all1
  split
  · simp
  · simpa using key _ l [] (Nat.le_refl _)
end Go.Proofs.YtgdfhijgjjcnjaaGreatDoor.RZ
namespace Go.Proofs.YtgdfhijgjjcnjaaGreatDoor.RZ
open Go Go.Fw Go.Proofs RB
set_option maxRecDepth 20000
theorem all1_enc {l : List Int} (h : ∀ n ∈ l,U64 n) (hl : l.length ≤ 100) : all1 (l.flatMap enc1) = (l,0) := by
  have hlen := encs1_len l
  unfold all1
  rw [if_neg (by omega),allS_enc l [] (fun n hn => ⟨(h n hn).1,(h n hn).2⟩)]
  simp
theorem all1_one {n : Int} (h : U64 n) : all1 (enc1 n) = ([n],0) := by
  have := all1_enc (l := [n]) (by simpa using h) (by simp)
  simpa using this
end Go.Proofs.YtgdfhijgjjcnjaaGreatDoor.RZ
namespace Go.Proofs.YtgdfhijgjjcnjaaGreatDoor.RZ
open Go Go.Fw Go.Proofs RB
set_option maxRecDepth 20000
theorem allS_u64 : ∀ (k : Nat) (l acc : List Int),l.length ≤ k → Bs l → (∀ n ∈ acc,U64 n) → ∀ n ∈ (allS acc l).1,U64 n := by
  intro k
  induction k with
  | zero =>
    intro l acc h hb ha
    have : l = [] := List.length_eq_zero_iff.1 (by omega)
    subst this
    simpa [allS] using ha
  | succ k ih =>
    intro l acc h hb ha
    cases l with
    | nil => simpa [allS] using ha
    | cons c r =>
      rw [allS]
      split
      · intro n hn; simp at hn
      · rename_i he
        rcases get1_cases hb with ⟨g1,g2,g3,g4,g5⟩ | ⟨g1,g2,g3⟩
        · refine ih _ _ ?_ (fun n hn => hb n (List.mem_cons_of_mem _ (List.mem_of_mem_drop hn))) ?_
          · rw [List.length_drop]; simp at h ⊢; omega
          · intro n hn
            rcases List.mem_append.1 hn with hn | hn
            · exact ha n hn
            · simp at hn; subst hn; exact ⟨g2.1,g2.2⟩
        · exact absurd g1 (by simpa using he)
theorem all1_u64 {l : List Int} (h : Bs l) : ∀ n ∈ (all1 l).1,U64 n := by
  unfold all1
  split
  · intro n hn; simp at hn
  · exact allS_u64 _ l [] (Nat.le_refl _) h (by simp)
theorem getK_tok {b : List Int} (hb : Bs b) (h : (getK b).2 = 0) : TokOk (getK b).1 ∧ (getK b).1.2.1.length ≤ 16 := ⟨(getK_ok hb h).1,(getK_ok hb h).2.1.1⟩
end Go.Proofs.YtgdfhijgjjcnjaaGreatDoor.RZ
namespace Go.Proofs.YtgdfhijgjjcnjaaGreatDoor.RZ
open Go Go.Fw Go.Proofs RB
set_option maxRecDepth 20000
theorem getT_recs {b : List Int} (hb : Bs b) : (getT b).1.length ≤ 64 ∧ ∀ r ∈ (getT b).1,Bs r.2 ∧ r.2.length ≤ 4096 := by
  by_cases h : (getT b).2 = 0
  · obtain ⟨h1,h2,h3⟩ := getT_ok (m := (getT b).1) hb (by rw [← h])
    exact ⟨h2.1,fun r hr => ⟨(h1 r hr).2,h2.2.1 r hr⟩⟩
  · have : (getT b).1 = [] := by
      unfold getT at h ⊢
      split
      · rfl
      · rename_i hl
        rw [if_neg hl] at h
        have key : ∀ (n : Nat) (c : List Int) (acc : List Rec),c.length ≤ n → (goT acc c).2 ≠ 0 → (goT acc c).1 = [] := by
          intro n
          induction n with
          | zero =>
            intro c acc hn h0
            have : c = [] := List.length_eq_zero_iff.1 (by omega)
            subst this
            rw [goT_nil] at h0; simp at h0
          | succ n ih =>
            intro c acc hn h0
            rw [goT] at h0 ⊢
            split
            · rename_i q; rw [if_pos q] at h0; simp at h0
            rename_i q; rw [if_neg q] at h0
            split
            · rfl
            rename_i q; rw [if_neg q] at h0
            split
            · rfl
            rename_i q; rw [if_neg q] at h0
            split
            · rfl
            rename_i q; rw [if_neg q] at h0
            split
            · rfl
            rename_i q; rw [if_neg q] at h0
            split
            · rfl
            rename_i q; rw [if_neg q] at h0
            split
            · rfl
            rename_i q; rw [if_neg q] at h0
            split
            · rename_i q
              rw [dif_pos q] at h0
              exact ih _ _ (by omega) h0
            · rfl
        exact key _ b [] (Nat.le_refl _) h
    rw [this]
    exact ⟨by simp,by simp⟩
end Go.Proofs.YtgdfhijgjjcnjaaGreatDoor.RZ
namespace Go.Proofs.YtgdfhijgjjcnjaaGreatDoor.RZ
open Go Go.Fw Go.Proofs RB
set_option maxRecDepth 20000
theorem getT_enc {l : List Rec} (hv : ∀ r ∈ l,OkV r) (ho : okT l) (hlen : (l.flatMap encR).length ≤ 65535) : getT (l.flatMap encR) = (l,0) := by
  unfold getT
  rw [if_neg (by omega),goT_enc l [] (fun r hr => ⟨hv r hr,ho.2.1 r hr⟩) ho.2.2 ho.1]
  simp
end Go.Proofs.YtgdfhijgjjcnjaaGreatDoor.RZ
namespace Go.Proofs.YtgdfhijgjjcnjaaGreatDoor.RZ
open Go Go.Fw Go.Proofs RB
set_option maxRecDepth 20000
end Go.Proofs.YtgdfhijgjjcnjaaGreatDoor.RZ
