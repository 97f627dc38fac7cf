/- slices.SortFunc at records whose first cell is a number,carried out where it is called,by the library's law. -/
import Derived.Test.YtgdfhijgjjcnjaaGreatDoorFwRow
import Derived.Shelf.SlSortCmp.NoneTotal
set_option linter.unusedVariables false
set_option linter.unusedSimpArgs false
namespace Go.Fw
open Go.Sort (HoldsK PermIn SortedIn flatK putRowK putRow mapBlock putCells onCells grow)
open Go.Proofs (ltOf sortWorldK)

section
variable {β : Type}
def ins (x : Int×β) : List (Int×β) → List (Int×β)
  | [] => [x]
  | y :: r => bif decide (x.1 ≤ y.1) then x :: y :: r else y :: ins x r
def srt : List (Int×β) → List (Int×β)
  | [] => []
  | x :: r => ins x (srt r)
def keyOk (x : Int×β) : Bool := decide (0 ≤ x.1) && decide (x.1 < 4611686018427387904)
def keysDiffer : List (Int×β) → Bool
  | [] => true
  | x :: r => r.all (fun y => !decide (y.1 = x.1)) && keysDiffer r
def srtOk (l : List (Int×β)) : Bool := l.all keyOk && keysDiffer l && decide (l.length < 4611686018427387904)
theorem ins_perm (x : Int×β) : ∀ l,(ins x l).Perm (x :: l)
  | [] => .refl _
  | y :: r => by
    unfold ins
    cases decide (x.1 ≤ y.1) with
    | true => exact .refl _
    | false => exact ((ins_perm x r).cons y).trans (.swap x y r)
theorem srt_perm : ∀ l : List (Int×β),(srt l).Perm l
  | [] => .refl _
  | x :: r => (ins_perm x (srt r)).trans ((srt_perm r).cons x)
theorem ins_sorted (x : Int×β) : ∀ {l : List (Int×β)},l.Pairwise (fun a b => a.1 ≤ b.1) → (ins x l).Pairwise (fun a b => a.1 ≤ b.1)
  | [],_ => by simp [ins]
  | y :: r,h => by
    unfold ins
    rw [List.pairwise_cons] at h
    by_cases hxy : x.1 ≤ y.1
    · rw [decide_eq_true hxy]
      simp only [cond_true]
      rw [List.pairwise_cons]
      refine ⟨fun z hz => ?_,List.pairwise_cons.2 h⟩
      rcases List.mem_cons.1 hz with rfl | hz
      · exact hxy
      · exact Int.le_trans hxy (h.1 z hz)
    · rw [decide_eq_false hxy]
      simp only [cond_false]
      rw [List.pairwise_cons]
      refine ⟨fun z hz => ?_,ins_sorted x h.2⟩
      rcases List.mem_cons.1 ((ins_perm x r).mem_iff.1 hz) with rfl | hz
      · omega
      · exact h.1 z hz
theorem srt_sorted : ∀ l : List (Int×β),(srt l).Pairwise (fun a b => a.1 ≤ b.1)
  | [] => .nil
  | x :: r => ins_sorted x (srt_sorted r)
theorem differ_inj : ∀ {l : List (Int×β)},keysDiffer l = true → ∀ a ∈ l,∀ b ∈ l,a.1 = b.1 → a = b
  | [],_,a,ha,_,_,_ => by simp at ha
  | x :: r,h,a,ha,b,hb,he => by
    simp only [keysDiffer,Bool.and_eq_true,List.all_eq_true,Bool.not_eq_true',decide_eq_false_iff_not] at h
    rcases List.mem_cons.1 ha with ha | ha <;> rcases List.mem_cons.1 hb with hb | hb
    · rw [ha,hb]
    · rw [ha] at he; exact absurd he.symm (h.1 b hb)
    · rw [hb] at he; exact absurd he (h.1 a ha)
    · exact differ_inj h.2 a ha b hb he
theorem srt_unique {l m : List (Int×β)} (h : keysDiffer l = true) (hp : l.Perm m) (hs : m.Pairwise (fun a b => a.1 ≤ b.1)) : srt l = m := by
  refine List.Perm.eq_of_pairwise (le := fun a b => a.1 ≤ b.1) (fun a b ha hb h1 h2 => ?_) (srt_sorted l) hs ((srt_perm l).trans hp)
  exact differ_inj h a ((srt_perm l).mem_iff.1 ha) b (hp.symm.mem_iff.1 hb) (Int.le_antisymm h1 h2)
theorem srt_length (l : List (Int×β)) : (srt l).length = l.length := (srt_perm l).length_eq
end

def RecV : Type := { x : Int×Value // (0 ≤ x.1 ∧ x.1 < 4611686018427387904) ∧ x.2.oneCell' = true }
instance : Inhabited RecV := ⟨⟨(0,.bool false),⟨by decide,by decide⟩,rfl⟩⟩
def encR (x : RecV) : List Value := [.int .u64 x.1.1,x.1.2]
def cfR (x y : RecV) : Int := x.1.1 - y.1.1
theorem ltR (x y : RecV) : ltOf cfR x y = decide (x.1.1 < y.1.1) := by
  unfold ltOf cfR
  congr 1
  rw [eq_iff_iff]; omega
theorem swoR : Go.Sort.SWO (ltOf cfR) where
  irrefl x := by rw [ltR]; simp
  trans x y z h1 h2 := by rw [ltR] at *; simp at *; omega
  ntrans x y z h1 h2 := by rw [ltR] at *; simp at *; omega
structure SortPays (P : Program) (f g : FuncId) : Prop where
  some_ : ∀ (blk cap : Nat) (d : Array RecV) (w : World),HoldsK encR 2 w blk 0 d → blk < w.heap.size → d.size < 4611686018427387904 →
    Calls P f #[.slice (some ⟨blk,0,none⟩) d.size cap,.func (.func g) #[] #[]] w fun e w' => e = .returned (.tuple #[]) ∧ ∃ d' n os,PermIn 0 d.size d d' ∧ SortedIn (ltOf cfR) 0 d.size d' ∧ w' = sortWorldK encR 2 w blk 0 n d' os
  none_ : ∀ (p : Option Addr) (cap : Nat) (w : World),Calls P f #[.slice p 0 cap,.func (.func g) #[] #[]] w fun e w' => e = .returned (.tuple #[]) ∧ w' = w

def RelL {α β : Type} (R : α → β → Prop) : List α → List β → Prop
  | [],[] => True
  | x :: r,y :: s => R x y ∧ RelL R r s
  | _,_ => False
section
variable {α β : Type} {R : α → β → Prop}
theorem RelL.length : ∀ {l : List α} {m : List β},RelL R l m → l.length = m.length
  | [],[],_ => rfl
  | _ :: _,_ :: _,h => by simp [RelL.length h.2]
  | [],_ :: _,h => h.elim
  | _ :: _,[],h => h.elim
theorem RelL.perm {m m' : List β} (hp : m.Perm m') : ∀ {l : List α},RelL R l m → ∃ l',l.Perm l' ∧ RelL R l' m' := by
  induction hp with
  | nil =>
    intro l h
    cases l with
    | nil => exact ⟨[],.refl _,trivial⟩
    | cons _ _ => exact h.elim
  | cons x _ ih =>
    intro l h
    cases l with
    | nil => exact h.elim
    | cons y r =>
      obtain ⟨l',h1,h2⟩ := ih h.2
      exact ⟨y :: l',h1.cons y,h.1,h2⟩
  | swap x y s =>
    intro l h
    cases l with
    | nil => exact h.elim
    | cons a r =>
      cases r with
      | nil => exact h.2.elim
      | cons b r => exact ⟨b :: a :: r,.swap b a r,h.2.1,h.1,h.2.2⟩
  | trans _ _ ih1 ih2 =>
    intro l h
    obtain ⟨l1,h1,h2⟩ := ih1 h
    obtain ⟨l2,h3,h4⟩ := ih2 h2
    exact ⟨l2,h1.trans h3,h4⟩
theorem RelL.get : ∀ {l : List α} {m : List β} (i : Nat) (x : α),RelL R l m → l[i]? = some x → ∃ y,m[i]? = some y ∧ R x y
  | [],[],i,x,_,h => by simp at h
  | a :: r,b :: s,0,x,h,hx => by
    simp only [List.getElem?_cons_zero,Option.some.injEq] at hx
    subst hx
    exact ⟨b,rfl,h.1⟩
  | a :: r,b :: s,i + 1,x,h,hx => by
    simp only [List.getElem?_cons_succ] at hx ⊢
    exact RelL.get i x h.2 hx
  | [],_ :: _,_,_,h,_ => h.elim
  | _ :: _,[],_,_,h,_ => h.elim
end
def IsRec (w : World) (ok : Nat → Prop) (tv : Ty) (x : Int×tv.den) (y : RecV) : Prop := y.1.1 = x.1 ∧ Dat w ok tv x.2 [y.1.2]
def cellsR (ds : List RecV) : List Value := (ds.map encR).flatten
theorem cellsR_get : ∀ (ds : List RecV) (t : Nat),(cellsR ds)[t]? = (ds[t / 2]?).bind fun x => (encR x)[t % 2]?
  | [],t => by simp [cellsR]
  | x :: r,0 => by simp [cellsR,encR]
  | x :: r,1 => by simp [cellsR,encR]
  | x :: r,t + 2 => by
    have h1 : (t + 2) / 2 = t / 2 + 1 := by omega
    have h2 : (t + 2) % 2 = t % 2 := by omega
    rw [h1,h2,List.getElem?_cons_succ,← cellsR_get r t]
    simp [cellsR,encR]
theorem cellsR_len : ∀ (ds : List RecV),(cellsR ds).length = ds.length * 2
  | [] => rfl
  | x :: r => by
    have := cellsR_len r
    simp only [cellsR,List.map_cons,List.flatten_cons,List.length_append,List.length_cons] at this ⊢
    simp only [encR,List.length_cons,List.length_nil]
    omega
theorem recs_of {w : World} {ok : Nat → Prop} {tv : Ty} (htv : tv.size = 1) : ∀ {l : List (Int×tv.den)} {cs : List Value},DatL w ok (.pair (.int .u64) tv) l cs → l.all keyOk = true → ∃ ds : List RecV,RelL (IsRec w ok tv) l ds ∧ cs = cellsR ds
  | [],cs,h,_ => ⟨[],trivial,h⟩
  | x :: r,_,⟨c,cs',h1,⟨c1,c2,h2,h3,h4⟩,h5⟩,ha => by
    simp only [List.all_cons,Bool.and_eq_true] at ha
    obtain ⟨ds,g1,g2⟩ := recs_of htv h5 ha.2
    obtain ⟨h6,h7⟩ := h3
    have hl := h4.len
    rw [htv] at hl
    obtain ⟨v,rfl⟩ := List.length_eq_one_iff.1 hl
    have hone := h4.one v (by simp)
    have hk := ha.1
    simp only [keyOk,Bool.and_eq_true,decide_eq_true_eq] at hk
    refine ⟨⟨(x.1,v),hk,hone⟩ :: ds,⟨⟨rfl,h4⟩,g1⟩,?_⟩
    rw [h1,h2,g2,h6]
    rfl
theorem dats_of {w : World} {ok : Nat → Prop} {tv : Ty} (hwf : ∀ n : Int,0 ≤ n → n < 4611686018427387904 → (Lit.int .u64 n).wf = true) : ∀ {l : List (Int×tv.den)} {ds : List RecV},RelL (IsRec w ok tv) l ds → DatL w ok (.pair (.int .u64) tv) l (cellsR ds)
  | [],[],_ => rfl
  | x :: r,y :: s,h => by
    refine ⟨[.int .u64 x.1,y.1.2],cellsR s,?_,⟨[.int .u64 x.1],[y.1.2],rfl,⟨rfl,?_⟩,h.1.2⟩,dats_of hwf h.2⟩
    · rw [← h.1.1]; rfl
    · rw [← h.1.1]; exact hwf _ y.2.1.1 y.2.1.2
  | [],_ :: _,h => h.elim
  | _ :: _,[],h => h.elim
theorem small_wf (n : Int) (h0 : 0 ≤ n) (h1 : n < 4611686018427387904) : (Lit.int .u64 n).wf = true :=
  wf_iff.2 ⟨by simpa [IntKind.min,IntKind.signed] using h0,by simp [IntKind.max,IntKind.signed,IntKind.bits]; omega⟩
theorem flatK_list (d : Array RecV) : (flatK encR 2 d).toList = cellsR d.toList := by
  apply List.ext_getElem?
  intro t
  rw [cellsR_get]
  by_cases ht : t < d.size * 2
  · have h1 : t / 2 < d.size := by omega
    have h2 := Go.Sort.get_flatK encR 2 d t ht
    have h3 : t < (flatK encR 2 d).size := by simpa using ht
    rw [Array.getElem?_toList,Array.getElem?_eq_getElem h3]
    rw [getElem!_pos _ t h3] at h2
    rw [h2,Array.getElem?_toList,Array.getElem?_eq_getElem h1,Option.bind_some,getElem!_pos d _ h1]
    have h4 : t % 2 < (encR d[t / 2]).length := by simp [encR]; omega
    rw [List.getElem?_eq_getElem h4,getElem!_pos (encR d[t / 2]) (t % 2) h4]
  · have h1 : ¬ t / 2 < d.size := by omega
    have e1 : (flatK encR 2 d).toList[t]? = none := by rw [List.getElem?_eq_none_iff]; simp; omega
    have e2 : d.toList[t / 2]? = none := by rw [List.getElem?_eq_none_iff]; simp; omega
    rw [e1,e2]; rfl

def castL {t u : Ty} (h : t = u) (l : List t.den) : List u.den := h ▸ l
def sortI {R : Type} (g : FuncId) (e : TypeId) (tv : Ty) (xs : List PV) (st : St) (K : PV → St → Option R) : Option R := match xs with
  | [.own k,.fn g' []] => bif Nat.beq g' g then (match st.obj k with
    | some (.row e' t l) => if h : t = .pair (.int .u64) tv then bif srtOk (castL h l : List (Int×tv.den)) then K (.tup []) (st.setO k (.row e' (.pair (.int .u64) tv) (srt (castL h l : List (Int×tv.den))))) else none else none
    | _ => none) else none
  | _ => none
def Ctx.addS (C : Ctx) (f g : FuncId) (e : TypeId) (tv : Ty) : Ctx :=
  { C with inlined := fun i => bif Nat.beq i f then true else C.inlined i,inl := fun i xs st _ K => bif Nat.beq i f then sortI g e tv xs st K else C.inl i xs st K,marks := [] }
theorem sortI_sound {P : Program} {f g : FuncId} (hp : SortPays P f g) {e : TypeId} {tv : Ty} (htv : tv.size = 1) {xs : List PV} {st : St} {R : Type} {K : PV → St → Option R} {r : R} (hr : sortI g e tv xs st K = some r)
    {m : MM} {w0 : World} {a : Act} {c : Cx} {vs : Array Value} (h : Rep m w0 st a c) (hargs : RepL c xs vs.toList) :
    Calls P f vs c.w fun e w' => ∃ u v st' c',e = .returned u ∧ c'.w = w' ∧ K v st' = some r ∧ Rep m w0 st' a c' ∧ RepV c' v u := by
  unfold sortI at hr
  split at hr
  · rename_i k g'
    obtain ⟨hg0,hr1⟩ := cond_some hr
    clear hr
    have hg := beq_true.1 hg0
    clear hg0
    subst hg
    split at hr1
    · rename_i e' t l ho
      split at hr1
      · rename_i ht
        subst ht
        obtain ⟨hok,hr0⟩ := cond_some hr1
        clear hr1
        have hr : K (.tup []) (st.setO k (.row e' (.pair (.int .u64) tv) (srt (l : List (Int×tv.den))))) = some r := hr0
        clear hr0
        replace hok : srtOk (l : List (Int×tv.den)) = true := hok
        simp only [srtOk,Bool.and_eq_true,decide_eq_true_eq] at hok
        obtain ⟨⟨hk1,hk2⟩,hk3⟩ := hok
        simp only [RepL] at hargs
        obtain ⟨v1,q1,hv,hv1,v2,q2,hv',hv2,rfl⟩ := hargs
        subst hv'
        simp only [RepV] at hv1 hv2
        obtain ⟨cap,hv2,hcap⟩ := hv2
        simp only [RepL] at hcap
        have hcap0 : cap = #[] := by rw [← Array.toList_inj]; simpa using hcap
        subst hcap0
        have hvs : vs = #[c.σ k,.func (.func g') #[] #[]] := by
          rw [← Array.toList_inj,hv,hv1.1,hv2]
        clear hv hv2
        have hob : c.ob k = some (.row e' (.pair (.int .u64) tv) l) := by rw [h.ob]; exact ho
        obtain ⟨A,n,s1,s2,s3,s4⟩ := h.objs k _ hob
        rw [s1] at hvs
        subst hvs
        by_cases hl0 : l = []
        · subst hl0
          have hr : K (.tup []) (st.setO k (.row e' (.pair (.int .u64) tv) [])) = some r := hr
          refine (hp.none_ A n c.w).mono ?_
          rintro e w' ⟨rfl,rfl⟩
          have rep := h.setObj (o := .row e' (.pair (.int .u64) tv) []) (o' := .row e' (.pair (.int .u64) tv) []) ho (w1 := c.w) c.ok h.kept (Nat.le_refl _) (fun _ _ => rfl) (fun _ hb => hb) (fun b hb => ⟨h.ok b hb,fun k' _ hk' he => (h.mine k' hk').1 (he ▸ hb)⟩)
            (fun t1 l1 hl => ⟨l1,hl,rfl⟩) ⟨A,n,s1,s2,s3,s4⟩ (fun hw => ⟨hw,(h.mine k ⟨_,hob,hw.congr rfl⟩).1⟩)
          exact ⟨_,.tup [],_,{ w := c.w,ok := c.ok,ρ := c.ρ,σ := c.σ,pin := c.pin,a := c.a,q := c.q,ob := (st.setO k (.row e' (.pair (.int .u64) tv) [])).obj },rfl,rfl,hr,rep,by simp only [RepV]; exact ⟨#[],rfl,by simp [RepL]⟩⟩
        · have hlp := List.length_pos_iff.2 hl0
          rcases s4 with s4 | ⟨rfl,cs,s5,s6,s7,s8⟩
          · omega
          · have hsz2 : (Ty.pair (.int .u64) tv).size = 2 := by simp [Ty.size,htv]
            rw [hsz2] at s6 s7
            obtain ⟨ds,d1,d2⟩ := recs_of htv s7 hk1
            have hdl : ds.length = l.length := d1.length.symm
            have hown : Owns c k := ⟨_,hob,_,_,n,s1,by omega⟩
            have hmine := h.mine k hown
            obtain ⟨el,s9,s10⟩ := s5
            have hel := s10 e' rfl
            subst hel
            have hcs : ∀ j,j < l.length * 2 → (cellsR ds)[j]? = some (cs[j]!) := by
              intro j hj
              have hj2 : j < cs.size := by have := Nat.mul_le_mul_right 2 s2; omega
              rw [← d2,List.getElem?_take,if_pos hj,Array.getElem?_toList,Array.getElem?_eq_getElem hj2,getElem!_pos cs j hj2]
            have hH : HoldsK encR 2 c.w (c.ρ k) 0 ds.toArray := by
              intro j hj
              have hj1 : j < l.length * 2 := by simpa [hdl] using hj
              have hj2 : j < cs.size := by have := Nat.mul_le_mul_right 2 s2; omega
              have e1 : (flatK encR 2 ds.toArray)[j]! = cs[j]! := by
                have h3 : j < (flatK encR 2 ds.toArray).size := hj
                rw [getElem!_pos _ j h3]
                have := hcs j hj1
                rw [← flatK_list ds.toArray,Array.getElem?_toList,Array.getElem?_eq_getElem h3] at this
                exact Option.some.inj this
              constructor
              · simp only [World.cell?,s9,Nat.zero_add,id_eq,e1]
                rw [Array.getElem?_eq_getElem hj2,getElem!_pos cs j hj2]
                rfl
              · simp [World.frozen?,s9]
            have hcall := hp.some_ (c.ρ k) n ds.toArray c.w hH hmine.2.2 (by simpa [hdl] using hk3)
            rw [show ds.toArray.size = l.length by simp [hdl]] at hcall
            refine hcall.mono ?_
            rintro e w' ⟨rfl,d',nn,os,p1,p2,rfl⟩
            obtain ⟨p3,_,p4⟩ := p1
            have hsz' : d'.size = l.length := by simpa [hdl] using p3
            have pe : ∀ (x : Array RecV) (q : Nat),x.size = q → x.extract 0 q = x := fun x q hq => by subst hq; simp
            rw [pe d' _ hsz',pe ds.toArray _ (by simp [hdl])] at p4
            obtain ⟨l',h1,h2⟩ := RelL.perm (R := IsRec c.w c.ok tv) (m := ds) (m' := d'.toList) (by simpa using p4.symm) d1
            have hsorted : l'.Pairwise (fun a b => a.1 ≤ b.1) := by
              rw [List.pairwise_iff_getElem]
              intro i j hi hj hij
              have hl' := h2.length
              obtain ⟨y1,z1,z2⟩ := h2.get i l'[i] (List.getElem?_eq_getElem hi)
              obtain ⟨y2,z3,z4⟩ := h2.get j l'[j] (List.getElem?_eq_getElem hj)
              have hdl' : l'.length = d'.size := by simpa using hl'
              have hi' : i < d'.size := by omega
              have hj' : j < d'.size := by omega
              have := p2 i j (Nat.zero_le _) hij (by omega)
              rw [ltR] at this
              have w1 : d'[i]! = y1 := by
                rw [Array.getElem?_toList,Array.getElem?_eq_getElem hi'] at z1
                rw [getElem!_pos d' i hi']; exact Option.some.inj z1
              have w2 : d'[j]! = y2 := by
                rw [Array.getElem?_toList,Array.getElem?_eq_getElem hj'] at z3
                rw [getElem!_pos d' j hj']; exact Option.some.inj z3
              rw [w1,w2,z2.1,z4.1] at this
              simp only [decide_eq_false_iff_not] at this
              omega
            have hu := srt_unique hk2 h1 hsorted
            have hlen := srt_length (l : List (Int×tv.den))
            -- the world behind
            let F := flatK encR 2 d'
            have hF : F.size = l.length * 2 := by simp [F,hsz']
            let cs1 : Array Value := putCells id 0 F cs
            have hcs1 : cs1.size = cs.size := by simp [cs1,putCells]
            have hheap : ∀ b,b < c.w.heap.size → (sortWorldK encR 2 c.w (c.ρ k) 0 nn d' os).heap[b]? = if b = c.ρ k then some (.cells cs1 el (0,0)) else c.w.heap[b]? := by
              intro b hb
              have hb2 : b < (c.w.heap.modify (c.ρ k) (onCells (putCells id 0 F))).size := by simpa using hb
              show ((c.w.heap.modify (c.ρ k) (onCells (putCells id 0 F))) ++ os)[b]? = _
              rw [Array.getElem?_append,if_pos hb2,Array.getElem?_modify]
              by_cases hbk : b = c.ρ k
              · subst hbk
                rw [if_pos rfl,if_pos rfl,s9]
                rfl
              · rw [if_neg (fun he => hbk he.symm),if_neg hbk]
            have hsize : c.w.heap.size ≤ (sortWorldK encR 2 c.w (c.ρ k) 0 nn d' os).heap.size := by
              show _ ≤ ((c.w.heap.modify (c.ρ k) (onCells (putCells id 0 F))) ++ os).size
              simp
            have hne2 : ∀ b,c.za b → b ≠ c.ρ k := fun b hb he => h.mineZ hown (he ▸ hb)
            have hother : ∀ b,b < c.w.heap.size → b ≠ c.ρ k → (sortWorldK encR 2 c.w (c.ρ k) 0 nn d' os).heap[b]? = c.w.heap[b]? := fun b hb hn => by rw [hheap b hb,if_neg hn]
            have htake : cs1.toList.take (l.length * 2) = cellsR d'.toList := by
              have hle : l.length * 2 ≤ cs.size := by have := Nat.mul_le_mul_right 2 s2; omega
              rw [← flatK_list d']
              apply List.ext_getElem?
              intro t
              rw [List.getElem?_take,Array.getElem?_toList,Array.getElem?_toList]
              by_cases ht : t < l.length * 2
              · rw [if_pos ht]
                have h3 : t < F.size := by omega
                have h4 : t < cs1.size := by omega
                rw [Array.getElem?_eq_getElem h4]
                show some ((putCells id 0 F cs)[t]'h4) = F[t]?
                rw [Array.getElem?_eq_getElem h3]
                simp only [putCells,Array.getElem_mapIdx,Nat.sub_zero,id_eq]
                rw [if_pos ⟨Nat.zero_le _,by omega⟩,getElem!_pos F t h3]
              · rw [if_neg ht,Array.getElem?_eq_none (by simp [hsz']; omega)]
            have rep := h.setObj (o := .row el (.pair (.int .u64) tv) l) (o' := .row el (.pair (.int .u64) tv) (srt (l : List (Int×tv.den)))) ho (w1 := sortWorldK encR 2 c.w (c.ρ k) 0 nn d' os) c.ok
              (h.kept.one rfl rfl rfl hsize (c.ρ k) hmine.2.1 (fun i hi hn => hother i hi hn)) hsize
              (fun b hb => by
                have hlt : b < c.w.heap.size := by
                  rcases hb with hb | ⟨k',_,hb,rfl⟩
                  · exact h.zlt hb
                  · exact (h.mine k' hb).2.2
                refine hother b hlt ?_
                rcases hb with hb | ⟨k',hk',hb,rfl⟩
                · exact hne2 b hb
                · exact fun he => hk' (h.apart k' k hb hown he))
              (fun _ hb => hb) (fun b hb => ⟨Nat.lt_of_lt_of_le (h.ok b hb) hsize,fun k' _ hk' he => (h.mine k' hk').1 (he ▸ hb)⟩)
              (fun t1 l1 hl => by
                obtain ⟨rfl,hl⟩ := hl.row
                exact ⟨l,.inl ⟨el,rfl⟩,by rw [hl]; exact hlen.symm⟩)
              (by
                refine ⟨some ⟨c.ρ k,0,none⟩,n,by rw [hlen]; exact s1,by rw [hlen]; exact s2,s3,.inr ⟨rfl,cs1,⟨el,?_,fun x hx => Option.some.inj hx⟩,by rw [hcs1,hsz2]; exact s6,?_,by rw [hsz2]; omega⟩⟩
                · show (sortWorldK encR 2 c.w (c.ρ k) 0 nn d' os).heap[c.ρ k]? = _
                  rw [hheap _ hmine.2.2,if_pos rfl]
                · rw [hlen,hsz2,htake,hu]
                  exact (dats_of small_wf h2).move (fun b hb => hother b (h.ok b hb) (hne2 b (.inl (.inl hb)))) (fun _ hb => hb))
              (fun hw => ⟨by
                obtain ⟨A',n',m',z1,z2⟩ := hw
                exact ⟨A',n',m',z1,z2⟩,hmine.1⟩)
            exact ⟨_,.tup [],_,{ w := sortWorldK encR 2 c.w (c.ρ k) 0 nn d' os,ok := c.ok,ρ := c.ρ,σ := c.σ,pin := c.pin,a := c.a,q := c.q,ob := (st.setO k (.row el (.pair (.int .u64) tv) (srt (l : List (Int×tv.den))))).obj },rfl,rfl,hr,rep,by simp only [RepV]; exact ⟨#[],rfl,by simp [RepL]⟩⟩
      · simp at hr1
    · simp at hr1
  · simp at hr
theorem sortI_congr {R : Type} {g : FuncId} {e : TypeId} {tv : Ty} {xs : List PV} {st : St} {K K' : PV → St → Option R} (h : ∀ v st1,Obj st st1 → K v st1 = K' v st1) : sortI g e tv xs st K = sortI g e tv xs st K' := by
  unfold sortI
  split
  · congr 1
    split
    · split
      · congr 1
        exact h _ _ (Obj.setO _ _ _)
      · rfl
    · rfl
  · rfl
theorem Ctx.Sound.addS {C : Ctx} (hC : C.Sound) {f g : FuncId} {e : TypeId} {tv : Ty} (htv : tv.size = 1) (hp : SortPays C.P f g) : (C.addS f g e tv).Sound := by
  refine ⟨⟨fun f' args R K x hr => hC.1.1 f' args R K x hr,fun i xs st R K x hr m w0 a c vs hG h ha => ?_⟩,fun i xs st R K K' h => ?_⟩
  · simp only [Ctx.addS] at hr
    cases hb : Nat.beq i f with
    | false => rw [hb] at hr; exact hC.1.2 i xs st R K x hr m w0 a c vs hG h ha
    | true =>
      rw [hb] at hr
      have := beq_true.1 hb
      subst this
      exact sortI_sound (e := e) hp htv hr h ha
  · simp only [Ctx.addS]
    cases Nat.beq i f with
    | false => exact hC.2 i xs st R K K' h
    | true => exact sortI_congr (e := e) h
end Go.Fw
