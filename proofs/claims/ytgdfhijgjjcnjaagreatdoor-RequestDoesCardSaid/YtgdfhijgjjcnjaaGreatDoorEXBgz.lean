/- Part of a proof: what the program's functions come to. -/
import Derived.Test.YtgdfhijgjjcnjaaGreatDoorEXAgz
set_option linter.unusedVariables false
set_option linter.unusedSimpArgs false
namespace Go.Proofs.YtgdfhijgjjcnjaaGreatDoor.RZ
open Go Go.Fw Go.Proofs RB
set_option maxRecDepth 20000
abbrev Cv := Int×(Int×Int)
def CvOk (c : Cv) : Prop := (-9223372036854775808 ≤ c.1 ∧ c.1 ≤ 9223372036854775807) ∧ U64 c.2.1 ∧ U64 c.2.2
theorem cv_of {c : Cv} (h : Fw.Good (.pair (.int .i64) (.pair (.int .u64) (.int .u64))) c) : CvOk c := ⟨i64_of h.1,u64_of h.2.1,u64_of h.2.2⟩
theorem F76_one (a : Int) : F76 [a] = some a := by
  unfold F76
  simp only [List.length_singleton]
  refine (lfp_rule (fun x => x = (a,1)) (fun _ => 0) (fun _ => a) ?_ (a,1) rfl)
  rintro x rfl rec hrec
  simp
theorem F38_one (a : Int) : F38 [a] = some (if 4611686018427387904 < a then 1 else 0) := by
  unfold F38
  simp only [List.length_singleton,F76_one,Option.bind_some]
  by_cases h : 4611686018427387904 < a
  · simp [h]
  · simp [h]
def chk (c : Cv) : Int := if (c.1 < 1 ∨ 5 < c.1) ∨ (c.1 = 2 ∧ 65535 < c.2.1) ∨ ((c.1 = 3 ∨ c.1 = 4) ∧ 4611686018427387904 < c.2.1) ∨ (c.1 ≠ 4 ∧ c.2.2 ≠ 0) then 1 else 0
theorem chk_01 (c : Cv) : chk c = 0 ∨ chk c = 1 := by unfold chk; split <;> simp
theorem F37_eq {c : Cv} (h : CvOk c) : F37 c = some (chk c) := by
  obtain ⟨k,a,b⟩ := c
  obtain ⟨hk,ha,hb⟩ := h
  simp only at hk ha hb
  unfold F37 chk
  simp only [F38_one,Option.bind_some]
  by_cases h4 : k = 4
  · subst h4; simp
  by_cases h3 : k = 3
  · subst h3
    by_cases q : 4611686018427387904 < a
    · simp [q]
    · by_cases q2 : b = 0 <;> simp [q,q2]
  by_cases h2 : k = 2
  · subst h2
    have e : (2 : Int) ^ (min (16 : Int).toNat 64) = 65536 := by decide
    have e2 : (0 < a / 65536) ↔ 65535 < a := by have := ha.1; omega
    by_cases q : 65535 < a
    · simp [e,e2,q]
    · by_cases q2 : b = 0 <;> simp [e,e2,q,q2]
  by_cases h1 : k = 1
  · subst h1
    by_cases q2 : b = 0 <;> simp [q2]
  by_cases h5 : k = 5
  · subst h5
    by_cases q2 : b = 0 <;> simp [q2]
  have : k < 1 ∨ 5 < k := by omega
  simp [h1,h2,h3,h4,h5,this]
theorem chk_kind {c : Cv} (h : chk c = 0) : 1 ≤ c.1 ∧ c.1 ≤ 5 ∧ (c.1 = 2 → c.2.1 ≤ 65535) ∧ (c.1 ≠ 4 → c.2.2 = 0) ∧ (c.1 = 3 ∨ c.1 = 4 → c.2.1 ≤ 4611686018427387904) := by
  unfold chk at h
  split at h
  · simp at h
  · rename_i q; omega
theorem small_u64 {n : Int} (h0 : 0 ≤ n) (h1 : n ≤ 1048576) : IntKind.wrap .u64 n = n := RB.wrap_u64 (by omega) (by omega)
def encC (c : Cv) : List Int := enc1 c.1 ++ (enc1 c.2.1 ++ (if c.1 = 4 then enc1 c.2.2 else []))
def putC (c : Cv) : List Int×Int := if chk c = 0 then (encC c,0) else ([],1)
theorem F50_eq {c : Cv} (hc : CvOk c) : F50 c = some (putC c) := by
  unfold F50 putC
  simp only [Prod.eta,F37_eq hc,Option.bind_some]
  by_cases h : chk c = 0
  · have k := chk_kind h
    have hw : IntKind.wrap .u64 c.1 = c.1 := small_u64 (by omega) (by omega)
    have h1 := hc.2.1.1
    have h2 := hc.2.2.1
    by_cases h4 : c.1 = 4
    · simp only [h,h4,decide_true,Bool.not_true,cond_false,if_true,encC]
      rw [small_u64 (n := 4) (by omega) (by omega),F49_eq (by intro n hn; simp at hn; omega) (by simp)]
      simp
    · simp only [h,h4,decide_true,decide_false,Bool.not_true,Bool.not_false,cond_true,cond_false,if_true,if_false,encC]
      rw [hw,F49_eq (by intro n hn; simp at hn; omega) (by simp)]
      simp [inb]
  · rcases chk_01 c with h0 | h0
    · exact absurd h0 h
    · simp [h0]
theorem encC_byte {c : Cv} (hc : CvOk c) (h : chk c = 0) : ∀ d ∈ encC c,Byte d := by
  have k := chk_kind h
  intro d hd
  unfold encC at hd
  rcases List.mem_append.1 hd with hd | hd
  · exact enc1_byte (by omega) d hd
  rcases List.mem_append.1 hd with hd | hd
  · exact enc1_byte hc.2.1.1 d hd
  · split at hd
    · exact enc1_byte hc.2.2.1 d hd
    · simp at hd
theorem encC_len (c : Cv) : (encC c).length ≤ 27 := by
  have h1 := enc1_len c.1
  have h2 := enc1_len c.2.1
  have h3 := enc1_len c.2.2
  unfold encC
  rw [List.length_append,List.length_append]
  split
  · omega
  · simp only [List.length_nil]; omega
theorem F78_eq {c : Cv} (h : CvOk c) : F78 c = some (decide (chk c ≠ 0)) := by
  unfold F78
  simp only [Prod.eta,F37_eq h,Option.bind_some]
  by_cases q : chk c = 0 <;> simp [q]
theorem idx_loop {t : Ty} {l : List t.den} (hl : l.length ≤ 9223372036854775807) {p : t.den → Bool} {G : t.den → Option Bool} (hG : ∀ x ∈ l,G x = some (p x)) :
    ∃ r,lfp (fun (rec1 : (Int×Int) → Option Int) (x1 : Int×Int) =>
      bif decide (x1.2 < (l.length : Int)) then (
      bif inb x1.2 l.length then
      (G (rd t l x1.2)).bind fun r2 =>
      bif r2 then (some x1.2) else (rec1 (x1.1,(IntKind.wrap .i64 (x1.2 + 1))))
      else none)
      else (some (-1))) (0,0) = some r ∧ decide (0 ≤ r) = l.any p := by
  let ans : Nat → Int := fun i => match (l.drop i).findIdx? p with | some j => ((i + j : Nat) : Int) | none => -1
  have hstep : ∀ i,(h : i < l.length) → p l[i] = false → ans i = ans (i + 1) := by
    intro i h hp
    simp only [ans]
    rw [List.drop_eq_getElem_cons h,List.findIdx?_cons,hp]
    simp only [Bool.false_eq_true,if_false]
    cases (l.drop (i + 1)).findIdx? p with
    | none => rfl
    | some j => simp only [Option.map_some]; congr 1; omega
  refine ⟨ans 0,lfp_rule (fun x => ∃ i : Nat,x.2 = (i : Int) ∧ i ≤ l.length) (fun x => l.length - x.2.toNat) (fun x => ans x.2.toNat) ?_ (0,0) ⟨0,rfl,by omega⟩,?_⟩
  · rintro ⟨y,i'⟩ ⟨i,hi',hi⟩ rec hrec
    simp only at hi'
    subst hi'
    simp only [Int.toNat_natCast]
    by_cases hlt : i < l.length
    · have k1 : ((i : Int) < (l.length : Int)) := by omega
      simp only [k1,decide_true,cond_true,inb_true (Int.natCast_nonneg i) k1,rd_nat hlt,hG _ (List.getElem_mem hlt),Option.bind_some]
      cases hp : p l[i] with
      | true =>
        simp only [cond_true,ans]
        rw [List.drop_eq_getElem_cons hlt,List.findIdx?_cons,hp]
        simp
      | false =>
        simp only [cond_false]
        rw [RB.wrap_i64 (n := (i : Int) + 1) (by omega) (by omega),hstep i hlt hp]
        have := hrec (y,(i : Int) + 1) ⟨i + 1,by simp,by omega⟩ (by simp only; omega)
        rw [this]
        simp only
        congr 2
    · have k1 : ¬ ((i : Int) < (l.length : Int)) := by omega
      simp only [k1,decide_false,cond_false,ans]
      rw [List.drop_eq_nil_of_le (by omega)]
      simp
  · simp only [ans,List.drop_zero]
    cases hf : l.findIdx? p with
    | none =>
      have : l.any p = false := by
        rw [List.any_eq_false]
        intro x hx
        have := List.findIdx?_eq_none_iff.1 hf x hx
        simp [this]
      rw [this]; simp
    | some j =>
      have : l.any p = true := by
        obtain ⟨h1,h2,_⟩ := List.findIdx?_eq_some_iff_getElem.1 hf
        exact List.any_eq_true.2 ⟨_,List.getElem_mem h1,h2⟩
      rw [this]; simp
theorem F107_eq {l : List Cv} (hl : l.length ≤ 9223372036854775807) (h : ∀ c ∈ l,CvOk c) : F39078 (l,()) = some (l.any fun c => decide (chk c ≠ 0)) := by
  obtain ⟨r,h1,h2⟩ := idx_loop (t := .pair (.int .i64) (.pair (.int .u64) (.int .u64))) (l := l) hl (p := fun c => decide (chk c ≠ 0)) (G := F78) (fun x hx => F78_eq (h x hx))
  have : F77078 (l,()) = some r := h1
  unfold F39078
  simp only [this,Option.bind_some,h2]
abbrev Tok := Int×(List Cv×Int)
def TokOk (t : Tok) : Prop := U64 t.1 ∧ (∀ c ∈ t.2.1,CvOk c) ∧ (-9223372036854775808 ≤ t.2.2 ∧ t.2.2 ≤ 9223372036854775807)
def okK (t : Tok) : Prop := t.2.1.length ≤ 16 ∧ (0 ≤ t.2.2 ∧ t.2.2 ≤ 1048576) ∧ ∀ c ∈ t.2.1,chk c = 0
open Classical in
theorem F40_eq {t : Tok} (h : TokOk t) (hl : t.2.1.length ≤ 9223372036854775807) : F40 t = some (if okK t then 0 else 1) := by
  unfold F40
  simp only [F107_eq hl h.2.1,Option.bind_some]
  by_cases h1 : 16 < t.2.1.length
  · have : (16 : Int) < (t.2.1.length : Int) := by omega
    have hn : ¬ okK t := fun h => by have := h.1; omega
    simp [this,hn]
  have k1 : ¬ (16 : Int) < (t.2.1.length : Int) := by omega
  by_cases h2 : t.2.2 < 0
  · have hn : ¬ okK t := fun h => by have := h.2.1; omega
    simp [k1,h2,hn]
  by_cases h3 : 1048576 < t.2.2
  · have hn : ¬ okK t := fun h => by have := h.2.1; omega
    simp [k1,h2,h3,hn]
  cases ha : t.2.1.any fun c => decide (chk c ≠ 0) with
  | true =>
    obtain ⟨c,hc,h4⟩ := List.any_eq_true.1 ha
    have hn : ¬ okK t := fun h => by have := h.2.2 c hc; simp [this] at h4
    simp [k1,h2,h3,hn]
  | false =>
    have hn : okK t := ⟨by omega,by omega,fun c hc => by
      have := List.any_eq_false.1 ha c hc
      simpa using this⟩
    simp [k1,h2,h3,hn]
def numd {α : Type} (f : α → List Int) : Nat → List α → List Rec
  | _,[] => []
  | i,x :: r => (((16 + i : Nat) : Int),f x) :: numd f (i + 1) r
theorem numd_len {α : Type} (f : α → List Int) : ∀ (l : List α) (i : Nat),(numd f i l).length = l.length
  | [],_ => rfl
  | x :: r,i => by simp [numd,numd_len f r]
theorem numd_snoc {α : Type} (f : α → List Int) : ∀ (l : List α) (i : Nat) (x : α),numd f i (l ++ [x]) = numd f i l ++ [(((16 + (i + l.length) : Nat) : Int),f x)]
  | [],i,x => by simp [numd]
  | y :: r,i,x => by
    rw [List.cons_append,numd,numd,numd_snoc f r (i + 1) x,List.cons_append,List.length_cons,show i + 1 + r.length = i + (r.length + 1) by omega]
theorem numd_mem {α : Type} (f : α → List Int) : ∀ (l : List α) (i : Nat) (q : Rec),q ∈ numd f i l → (∃ x ∈ l,q.2 = f x) ∧ 16 ≤ q.1 ∧ q.1 < 16 + i + l.length
  | [],i,q,h => by simp [numd] at h
  | y :: r,i,q,h => by
    rcases List.mem_cons.1 h with rfl | h
    · refine ⟨⟨y,by simp,rfl⟩,?_,?_⟩ <;> simp only [List.length_cons] <;> omega
    · obtain ⟨⟨x,hx,h1⟩,h2,h3⟩ := numd_mem f r (i + 1) q h
      refine ⟨⟨x,List.mem_cons_of_mem _ hx,h1⟩,h2,?_⟩
      simp only [List.length_cons]; omega
theorem numd_sorted {α : Type} (f : α → List Int) : ∀ (l : List α) (i : Nat),Sorted (numd f i l) ∧ ∀ q ∈ numd f i l,(16 + i : Int) ≤ q.1
  | [],i => ⟨by simp [numd,Sorted],by simp [numd]⟩
  | y :: r,i => by
    obtain ⟨h1,h2⟩ := numd_sorted f r (i + 1)
    refine ⟨List.pairwise_cons.2 ⟨fun q hq => ?_,h1⟩,fun q hq => ?_⟩
    · have := h2 q hq; simp only; omega
    · rcases List.mem_cons.1 hq with rfl | hq
      · simp only; omega
      · have := h2 q hq; omega
def tokR (t : Tok) : List Rec := (1,enc1 t.1) :: (2,enc1 t.2.2) :: numd encC 0 t.2.1
theorem F80_eq {t : Tok} (h : TokOk t) (hk : okK t) : F80 t = some (t.2.1.map encC) := by
  have h16 := hk.1
  unfold F80
  have hL : t.2.1.length * 24 ≤ LIM := by unfold LIM; omega
  simp only [Int.natCast_nonneg,decide_true,Bool.and_self,hL,cond_true,Int.toNat_natCast]
  refine lfp_rule (fun (x : Int×List (List Int)) => ∃ i : Nat,x.1 = (i : Int) ∧ i ≤ t.2.1.length ∧ x.2 = (t.2.1.take i).map encC ++ List.replicate (t.2.1.length - i) []) (fun x => t.2.1.length - x.1.toNat) (fun _ => t.2.1.map encC) ?_ ((0 : Int),List.replicate t.2.1.length ([] : List Int)) ⟨0,rfl,by omega,by simp⟩
  rintro ⟨i',y⟩ ⟨i,hi',hi,hy⟩ rec hrec
  simp only at hi' hy
  subst hi'
  simp only
  by_cases hlt : i < t.2.1.length
  · have k1 : ((i : Int) < (t.2.1.length : Int)) := by omega
    have hylen : y.length = t.2.1.length := by rw [hy]; simp; omega
    have k2 : ((i : Int) < (y.length : Int)) := by omega
    have hc := h.2.1 _ (List.getElem_mem hlt)
    have hk0 := hk.2.2 _ (List.getElem_mem hlt)
    simp only [k1,decide_true,cond_true,inb_true (Int.natCast_nonneg i) k1,inb_true (Int.natCast_nonneg i) k2,rd_nat (t := .pair (.int .i64) (.pair (.int .u64) (.int .u64))) hlt,Prod.eta,F50_eq hc,Option.bind_some,putC,hk0,if_true,Int.toNat_natCast]
    rw [RB.wrap_i64 (n := (i : Int) + 1) (by omega) (by omega)]
    refine hrec _ ⟨i + 1,by simp,by omega,?_⟩ (by simp only; omega)
    rw [hy,List.set_append_right _ _ (by simp; omega)]
    have e1 : i - ((t.2.1.take i).map encC).length = 0 := by simp; omega
    rw [e1,List.take_succ_eq_append_getElem hlt,List.map_append,List.append_assoc]
    congr 1
    obtain ⟨n,hn⟩ : ∃ n,t.2.1.length - i = n + 1 := ⟨t.2.1.length - i - 1,by omega⟩
    rw [hn,show t.2.1.length - (i + 1) = n by omega,List.replicate_succ]
    simp
  · have k1 : ¬ ((i : Int) < (t.2.1.length : Int)) := by omega
    have : i = t.2.1.length := by omega
    simp only [k1,decide_false,cond_false]
    rw [hy,this]; simp
theorem F49_one {n : Int} (h : 0 ≤ n) : F49 [n] = some (enc1 n) := by
  rw [F49_eq (by intro x hx; simp only [List.mem_cons,List.not_mem_nil,or_false] at hx; subst hx; exact h) (by simp)]
  simp
theorem tokR_okV {t : Tok} (h : TokOk t) (hk : okK t) : ∀ r ∈ tokR t,OkV r := by
  intro r hr
  unfold tokR at hr
  have h16 := hk.1
  rcases List.mem_cons.1 hr with rfl | hr
  · exact ⟨⟨by simp only; omega,by simp only; omega⟩,enc1_byte h.1.1⟩
  rcases List.mem_cons.1 hr with rfl | hr
  · exact ⟨⟨by simp only; omega,by simp only; omega⟩,enc1_byte hk.2.1.1⟩
  obtain ⟨⟨c,hc,h1⟩,h2,h3⟩ := numd_mem encC _ _ _ hr
  refine ⟨⟨by omega,by omega⟩,?_⟩
  rw [h1]
  exact encC_byte (h.2.1 c hc) (hk.2.2 c hc)
theorem tokR_okT {t : Tok} (hk : okK t) : okT (tokR t) := by
  have h16 := hk.1
  refine ⟨by simp [tokR,numd_len]; omega,fun r hr => ?_,?_⟩
  · unfold tokR at hr
    rcases List.mem_cons.1 hr with rfl | hr
    · have := enc1_len t.1; simp only; omega
    rcases List.mem_cons.1 hr with rfl | hr
    · have := enc1_len t.2.2; simp only; omega
    obtain ⟨⟨c,hc,h1⟩,_⟩ := numd_mem encC _ _ _ hr
    have := encC_len c
    rw [h1]; omega
  · obtain ⟨h1,h2⟩ := numd_sorted encC t.2.1 0
    refine List.pairwise_cons.2 ⟨fun q hq => ?_,List.pairwise_cons.2 ⟨fun q hq => ?_,h1⟩⟩
    · rcases List.mem_cons.1 hq with rfl | hq
      · simp only; omega
      · have := h2 q hq; simp only; omega
    · have := h2 q hq; simp only; omega
theorem small_enc {n : Int} (h1 : n < 253) : enc1 n = [n] := by
  unfold enc1 fst wid
  simp [h1,dig]
theorem encR_small {r : Rec} (ht : r.1 < 253) (hv : r.2.length < 253) : (encR r).length = 2 + r.2.length := by
  unfold encR
  rw [small_enc ht,small_enc (by omega)]
  simp; omega
theorem tok_len {t : Tok} (hk : okK t) : ((tokR t).flatMap encR).length ≤ 486 := by
  have h16 := hk.1
  have hn : ∀ (l : List Cv) (i : Nat),i + l.length ≤ 16 → ((numd encC i l).flatMap encR).length ≤ 29 * l.length := by
    intro l
    induction l with
    | nil => intro i _; simp [numd]
    | cons c r ih =>
      intro i hi
      rw [List.length_cons] at hi
      have h1 := ih (i + 1) (by omega)
      have h2 := encC_len c
      have h3 := encR_small (r := (((16 + i : Nat) : Int),encC c)) (by simp only; omega) (by simp only; omega)
      rw [numd,List.flatMap_cons,List.length_append,h3,List.length_cons]
      simp only
      omega
  have h1 := enc1_len t.1
  have h2 := enc1_len t.2.2
  have h3 := hn t.2.1 0 (by omega)
  have e1 := encR_small (r := ((1 : Int),enc1 t.1)) (by simp only; omega) (by simp only; omega)
  have e2 := encR_small (r := ((2 : Int),enc1 t.2.2)) (by simp only; omega) (by simp only; omega)
  unfold tokR
  rw [List.flatMap_cons,List.length_append,List.flatMap_cons,List.length_append,e1,e2]
  simp only
  omega
def tokB (t : Tok) : List Int := (tokR t).flatMap encR
theorem putT_tok {t : Tok} (hk : okK t) : putT (tokR t) = (tokB t,0) := by
  unfold putT
  have := tok_len hk
  rw [if_pos (tokR_okT hk),if_neg (by omega)]
  rfl
open Classical in
theorem F47_eq {t : Tok} (h : TokOk t) (hl : t.2.1.length ≤ 9223372036854775807) : F47 t = some (if okK t then (tokB t,0) else ([],1)) := by
  unfold F47
  simp only [Prod.eta,F40_eq h hl,Option.bind_some]
  by_cases hk : okK t
  · have hw : IntKind.wrap .u64 t.2.2 = t.2.2 := small_u64 hk.2.1.1 hk.2.1.2
    have h16 := hk.1
    simp only [hk,if_true,decide_true,Bool.not_true,cond_false,hw,F49_one h.1.1,F49_one hk.2.1.1,F80_eq h hk,Option.bind_some,both_self]
    refine lfp_rule (fun (x : List Rec×Int) => ∃ i : Nat,x.2 = (i : Int) ∧ i ≤ t.2.1.length ∧ x.1 = [(1,enc1 t.1),(2,enc1 t.2.2)] ++ numd encC 0 (t.2.1.take i)) (fun x => t.2.1.length - x.2.toNat) (fun _ => (tokB t,0)) ?_ _ ⟨0,rfl,by omega,by simp [numd]⟩
    rintro ⟨y,i'⟩ ⟨i,hi',hi,hy⟩ rec hrec
    simp only at hi' hy
    subst hi'
    simp only [List.length_map]
    by_cases hlt : i < t.2.1.length
    · have k1 : ((i : Int) < (t.2.1.length : Int)) := by omega
      have hlm : i < (t.2.1.map encC).length := by simpa using hlt
      have hyl : y.length = 2 + i := by rw [hy]; simp [numd_len]; omega
      have k3 : (y.length + 1) * 32 ≤ LIM := by unfold LIM; omega
      simp only [k1,decide_true,cond_true,inb_true (Int.natCast_nonneg i) k1,rd_nat (t := .slice 5 (.int .u8)) hlm,k3]
      rw [small_u64 (n := (i : Int)) (by omega) (by omega),small_u64 (n := 16 + (i : Int)) (by omega) (by omega),RB.wrap_i64 (n := (i : Int) + 1) (by omega) (by omega)]
      refine hrec _ ⟨i + 1,by simp,by omega,?_⟩ (by simp only; omega)
      rw [hy,List.take_succ_eq_append_getElem hlt,numd_snoc,List.append_assoc]
      simp only [List.length_take,List.getElem_map]
      congr 3
      rw [Nat.min_eq_left (by omega)]
      simp
    · have k1 : ¬ ((i : Int) < (t.2.1.length : Int)) := by omega
      have hie : i = t.2.1.length := by omega
      simp only [k1,decide_false,cond_false]
      have hyt : y = tokR t := by rw [hy,hie,List.take_length]; rfl
      rw [hyt,F20_eq (tokR_okV h hk),putT_tok hk]
      rfl
  · simp [hk]
end Go.Proofs.YtgdfhijgjjcnjaaGreatDoor.RZ
namespace Go.Proofs.YtgdfhijgjjcnjaaGreatDoor.RZ
open Go Go.Fw Go.Proofs RB
set_option maxRecDepth 20000
def opt (c : Bool) (t : Int) (v : List Int) : List Rec := bif c then [(t,v)] else []
theorem opt_len (c : Bool) (t : Int) (v : List Int) : (opt c t v).length ≤ 1 := by cases c <;> simp [opt]
theorem encs1_len : ∀ l : List Int,(l.flatMap enc1).length ≤ 9 * l.length
  | [] => by simp
  | n :: r => by
    have h1 := enc1_len n
    have h2 := encs1_len r
    rw [List.flatMap_cons,List.length_append,List.length_cons]
    omega
theorem mem_opt {c : Bool} {t : Int} {v : List Int} {q : Rec} (h : q ∈ opt c t v) : q = (t,v) := by
  cases c <;> simp [opt] at h; exact h
theorem tokB_byte {t : Tok} (h : TokOk t) (hk : okK t) : Bs (tokB t) := by
  intro n hn
  obtain ⟨r,hr,h2⟩ := List.mem_flatMap.1 hn
  have hv := tokR_okV h hk r hr
  unfold encR at h2
  rcases List.mem_append.1 h2 with h2 | h2
  · exact enc1_byte hv.1.1 n h2
  rcases List.mem_append.1 h2 with h2 | h2
  · exact enc1_byte (by omega) n h2
  · exact hv.2 n h2
end Go.Proofs.YtgdfhijgjjcnjaaGreatDoor.RZ
namespace Go.Proofs.YtgdfhijgjjcnjaaGreatDoor.RZ
open Go Go.Fw Go.Proofs RB
set_option maxRecDepth 20000
def only (s : Int) (l : List Rec) : List Rec := l.filter fun q => decide (q.1 = s)
end Go.Proofs.YtgdfhijgjjcnjaaGreatDoor.RZ
namespace Go.Proofs.YtgdfhijgjjcnjaaGreatDoor.RZ
open Go Go.Fw Go.Proofs RB
set_option maxRecDepth 20000
end Go.Proofs.YtgdfhijgjjcnjaaGreatDoor.RZ
