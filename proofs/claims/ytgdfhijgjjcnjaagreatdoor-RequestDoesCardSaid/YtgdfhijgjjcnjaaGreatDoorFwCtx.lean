/- Functions by their laws: a context is built function by function; a law is true. -/
import Derived.Test.YtgdfhijgjjcnjaaGreatDoorFwFunc
set_option linter.unusedVariables false
set_option linter.unusedSimpArgs false
namespace Go.Fw
open Go.RowKit (Below)

inductive ATy where
  | one (t : Ty) | agg (t : Ty)
  | nil (e : TypeId) (t : Ty)
  | oneA (t : Ty) | aggA (t : Ty)
  | fn (f : FuncId)
@[reducible] def ATy.den : ATy → Type
  | .one t => t.den
  | .agg t => t.den
  | .nil .. => Unit
  | .oneA t => t.den
  | .aggA t => t.den
  | .fn _ => Unit
def ATy.dec : (t : ATy) → PV → Option t.den
  | .one t,p => match p with | .agg _ => none | p => t.of [p]
  | .agg t,p => match p with | .agg c => t.of c | _ => none
  | .oneA t,p => match p with | .agg _ => none | p => t.of [p.untag]
  | .aggA t,p => match p with | .agg c => t.of (c.map PV.untag) | _ => none
  | .nil e t,p => match p with | .full e' t' [] => if e' = e ∧ t' = t then some () else none | _ => none
  | .fn f,p => match p with | .fn f' [] => bif Nat.beq f' f then some () else none | _ => none
def ATy.enc : (t : ATy) → t.den → PV
  | .one t,x => match t.leaves x with | [p] => p | _ => .undef
  | .agg t,x => .agg (t.leaves x)
  | .nil e t,_ => .full e t []
  | .oneA t,x => match t.leaves x with | [p] => p.tag | _ => .undef
  | .aggA t,x => .agg ((t.leaves x).map PV.tag)
  | .fn f,_ => .fn f []
@[reducible] def dens : List ATy → Type
  | [] => Unit
  | [t] => t.den
  | t :: r => t.den×dens r
def decs : (ts : List ATy) → List PV → Option (dens ts)
  | [],[] => some ()
  | [t],[p] => t.dec p
  | t :: u :: r,p :: ps => match t.dec p,decs (u :: r) ps with | some x,some y => some (x,y) | _,_ => none
  | _,_ => none
def encs : (ts : List ATy) → dens ts → List PV
  | [],_ => []
  | [t],x => [t.enc x]
  | t :: u :: r,x => t.enc x.1 :: encs (u :: r) x.2

section
variable {c : Cx}
theorem ATy.dec_rep {t : ATy} {p : PV} {x : t.den} {v : Value} (h : t.dec p = some x) (hv : RepV c p v) : RepV c (t.enc x) v := by
  cases t with
  | one t =>
    simp only [ATy.dec] at h
    split at h
    · simp at h
    · have hd := Ty.of_dat (c := c) (vs := [v]) h (by simp only [RepL]; exact ⟨v,[],rfl,hv,rfl⟩)
      have hl := hd.leaves (c := c)
      simp only [ATy.enc]
      split
      · rename_i q hq
        rw [hq] at hl
        simp only [RepL] at hl
        obtain ⟨v',r',e1,e2,_⟩ := hl
        simp only [List.cons.injEq] at e1
        rw [e1.1]; exact e2
      · exact RepV.undef_ _ _
  | agg t =>
    simp only [ATy.dec] at h
    split at h
    · simp only [RepV] at hv
      obtain ⟨a,rfl,hl⟩ := hv
      have hd := Ty.of_dat (c := c) h hl
      simp only [ATy.enc,RepV]
      exact ⟨a,rfl,hd.leaves⟩
    · simp at h
  | oneA t =>
    simp only [ATy.dec] at h
    split at h
    · simp at h
    · have hd : Dat c.w c.ra t x [v] := Ty.of_dat (c := c.wide) (vs := [v]) h (by simp only [RepL]; exact ⟨v,[],rfl,hv.untag,rfl⟩)
      have hl := hd.leavesA (c := c)
      simp only [ATy.enc]
      split
      · rename_i q hq
        rw [hq] at hl
        simp only [List.map,RepL] at hl
        obtain ⟨v',r',e1,e2,_⟩ := hl
        simp only [List.cons.injEq] at e1
        rw [e1.1]; exact e2
      · exact RepV.undef_ _ _
  | aggA t =>
    simp only [ATy.dec] at h
    split at h
    · simp only [RepV] at hv
      obtain ⟨a,rfl,hl⟩ := hv
      have hd : Dat c.w c.ra t x a.toList := Ty.of_dat (c := c.wide) h hl.untag
      simp only [ATy.enc,RepV]
      exact ⟨a,rfl,hd.leavesA⟩
    · simp at h
  | nil e t =>
    simp only [ATy.dec] at h
    split at h
    · split at h
      · rename_i hh
        obtain ⟨rfl,rfl⟩ := hh
        exact hv
      · simp at h
    · simp at h
  | fn f =>
    simp only [ATy.dec] at h
    split at h
    · rename_i f'
      cases hb : Nat.beq f' f with
      | false => rw [hb] at h; simp at h
      | true =>
        have := beq_true.1 hb
        subst this
        exact hv
    · simp at h
theorem decs_rep : ∀ {ts : List ATy} {ps : List PV} {x : dens ts} {vs : List Value},decs ts ps = some x → RepL c ps vs → RepL c (encs ts x) vs
  | [],[],_,_,_,hl => hl
  | [],_ :: _,_,_,h,_ => by simp [decs] at h
  | [t],[p],x,vs,h,hl => by
    simp only [RepL] at hl
    obtain ⟨v,r',rfl,e1,rfl⟩ := hl
    simp only [encs,RepL]
    exact ⟨v,[],rfl,ATy.dec_rep h e1,rfl⟩
  | [t],[],_,_,h,_ => by simp [decs] at h
  | [t],_ :: _ :: _,_,_,h,_ => by simp [decs] at h
  | t :: u :: r,[],_,_,h,_ => by simp [decs] at h
  | t :: u :: r,p :: ps,x,vs,h,hl => by
    simp only [RepL] at hl
    obtain ⟨v,r',rfl,e1,e2⟩ := hl
    simp only [decs] at h
    split at h
    · rename_i y z hy hz
      simp only [Option.some.injEq] at h
      subst h
      simp only [encs,RepL]
      exact ⟨v,r',rfl,ATy.dec_rep hy e1,decs_rep hz e2⟩
    · simp at h
theorem ATy.enc_nogd (t : ATy) (x : t.den) : (t.enc x).isGd = false := by
  cases t with
  | one t =>
    simp only [ATy.enc]
    split
    · rename_i p hp
      exact leaves_nogd t x p (by rw [hp]; simp)
    · rfl
  | agg t => rfl
  | oneA t =>
    simp only [ATy.enc]
    split
    · rename_i p hp
      have := leaves_nogd t x p (by rw [hp]; simp)
      cases p <;> first | rfl | (simp [PV.isGd] at this)
    · rfl
  | aggA t => rfl
  | nil e t => rfl
  | fn f => rfl
theorem encs_nogd : ∀ (ts : List ATy) (x : dens ts),∀ p ∈ encs ts x,p.isGd = false
  | [],_,p,h => by simp [encs] at h
  | [t],x,p,h => by simp only [encs,List.mem_singleton] at h; rw [h]; exact ATy.enc_nogd t x
  | t :: u :: r,x,p,h => by
    simp only [encs] at h
    rcases List.mem_cons.1 h with h | h
    · rw [h]; exact ATy.enc_nogd t _
    · exact encs_nogd (u :: r) x.2 p h
end

inductive RL where
  | int (k : IntKind) | bool | str | sl (e : TypeId) (t : Ty) | fresh (e : TypeId) (t : Ty) | mp (m : MTy)
@[reducible] def RL.den : RL → Type
  | .int _ => Int | .bool => Bool | .str => List Int | .sl _ t => List t.den | .fresh _ t => List t.den | .mp m => List (m.k.den×m.v.den)
def RL.dec : (r : RL) → PV → Option r.den
  | .int k,.int k' n => if k' = k then some n else none
  | .bool,.bool b => some b
  | .str,.str s => some s
  | .sl e t,.sl e' t' l => if e' = e then if h : t' = t then some (h ▸ l) else none else none
  | .fresh e t,.fresh e' t' l => if e' = e then if h : t' = t then some (h ▸ l) else none else none
  | .sl e t,.fresh e' t' l => if e' = e then if h : t' = t then some (h ▸ l) else none else none
  | .mp m,.mp m' l => if h : m' = m then some (h ▸ l) else none
  | _,_ => none
def RL.enc : (r : RL) → r.den → PV
  | .int k,n => .int k n | .bool,b => .bool b | .str,s => .str s | .sl e t,l => .sl e t l | .fresh e t,l => .fresh e t l | .mp m,l => .mp m l
@[reducible] def RL.dens : List RL → Type
  | [] => Unit
  | [r] => r.den
  | r :: q => r.den×RL.dens q
def RL.decs : (rs : List RL) → List PV → Option (RL.dens rs)
  | [],[] => some ()
  | [r],[p] => r.dec p
  | r :: u :: q,p :: ps => match r.dec p,RL.decs (u :: q) ps with | some x,some y => some (x,y) | _,_ => none
  | _,_ => none
def RL.encs : (rs : List RL) → RL.dens rs → List PV
  | [],_ => []
  | [r],x => [r.enc x]
  | r :: u :: q,x => r.enc x.1 :: RL.encs (u :: q) x.2
inductive RO where
  | leaf (r : RL) | agg (l : List RL)
@[reducible] def RO.den : RO → Type
  | .leaf r => r.den | .agg l => RL.dens l
def RO.dec : (r : RO) → PV → Option r.den
  | .leaf r,p => r.dec p
  | .agg l,.agg c => RL.decs l c
  | .agg _,_ => none
def RO.enc : (r : RO) → r.den → PV
  | .leaf r,x => r.enc x | .agg l,x => .agg (RL.encs l x)
@[reducible] def RO.dens : List RO → Type
  | [] => Unit
  | [r] => r.den
  | r :: q => r.den×RO.dens q
def RO.decs : (rs : List RO) → List PV → Option (RO.dens rs)
  | [],[] => some ()
  | [r],[p] => r.dec p
  | r :: u :: q,p :: ps => match r.dec p,RO.decs (u :: q) ps with | some x,some y => some (x,y) | _,_ => none
  | _,_ => none
def RO.encs : (rs : List RO) → RO.dens rs → List PV
  | [],_ => []
  | [r],x => [r.enc x]
  | r :: u :: q,x => r.enc x.1 :: RO.encs (u :: q) x.2
inductive RT where
  | one (r : RO) | tup (l : List RO)
@[reducible] def RT.den : RT → Type
  | .one r => r.den | .tup l => RO.dens l
def RT.dec : (r : RT) → PV → Option r.den
  | .one r,p => r.dec p
  | .tup l,.tup c => RO.decs l c
  | .tup _,_ => none
def RT.enc : (r : RT) → r.den → PV
  | .one r,x => r.enc x | .tup l,x => .tup (RO.encs l x)
theorem RL.weak {w : World} {ok : Nat → Prop} {r : RL} {p : PV} {x : r.den} (h : r.dec p = some x) {v : Value} {bs : List Nat} (hp : ResLeaf w ok p v bs) : ∃ ad bs2,(ad ++ bs2).Perm bs ∧ ResLeaf w (fun b => ok b ∨ b ∈ ad) (r.enc x) v bs2 := by
  have same : p = r.enc x → ∃ ad bs2,(ad ++ bs2).Perm bs ∧ ResLeaf w (fun b => ok b ∨ b ∈ ad) (r.enc x) v bs2 := fun he => ⟨[],bs,.refl _,ResLeaf.mono (ok := ok) (fun b hb => Or.inl hb) (he ▸ hp)⟩
  cases r <;> cases p <;> simp only [RL.dec] at h <;> try (simp at h; done)
  case int.int => split at h <;> simp_all [RL.enc]
  case bool.bool => exact same (by simp_all [RL.enc])
  case str.str => exact same (by simp_all [RL.enc])
  case sl.sl =>
    split at h
    · split at h
      · rename_i h1 h2; subst h1; subst h2; exact same (by simp_all [RL.enc])
      · simp at h
    · simp at h
  case fresh.fresh =>
    split at h
    · split at h
      · rename_i h1 h2; subst h1; subst h2; exact same (by simp_all [RL.enc])
      · simp at h
    · simp at h
  case mp.mp =>
    split at h
    · rename_i h1; subst h1; exact same (by simp_all [RL.enc])
    · simp at h
  case sl.fresh e t e' t' l =>
    split at h
    · split at h
      · rename_i h1 h2
        subst h1; subst h2
        simp only [Option.some.injEq] at h
        subst h
        obtain ⟨A,n,q1,q2,q3,q4⟩ := hp
        rcases q4 with ⟨q4,rfl⟩ | ⟨g,rfl,g2,cs,g3,g4,g5,g6⟩
        · refine ⟨[],[],.refl _,rfl,?_⟩
          simp only [RepV,RL.enc]
          exact ⟨A,n,q1,q2,q3,fun h0 => by omega⟩
        · refine ⟨[g],[],by simp,rfl,?_⟩
          simp only [RepV,RL.enc]
          refine ⟨A,n,q1,q2,q3,fun h0 => ⟨g,0,g2,.inr (by simp),?_⟩⟩
          exact row_reads g3 (g5.move (w1 := w) (ok1 := fun b => ok b ∨ b ∈ [g]) (fun _ _ => rfl) (fun b hb => .inl hb))
      · simp at h
    · simp at h
theorem perm_join {a1 b1 a2 b2 c1 c2 : List Nat} (h1 : (a1 ++ b1).Perm c1) (h2 : (a2 ++ b2).Perm c2) : ((a1 ++ a2) ++ (b1 ++ b2)).Perm (c1 ++ c2) := by
  refine List.Perm.trans ?_ (h1.append h2)
  rw [List.append_assoc,List.append_assoc]
  refine List.Perm.append_left a1 ?_
  rw [← List.append_assoc,← List.append_assoc]
  exact List.Perm.append_right b2 (List.perm_append_comm)
theorem RL.weaks {w : World} {ok : Nat → Prop} : ∀ {rs : List RL} {ps : List PV} {x : RL.dens rs} {vs : List Value} {bs : List Nat},RL.decs rs ps = some x → ResL w ok ps vs bs → ∃ ad bs2,(ad ++ bs2).Perm bs ∧ ResL w (fun b => ok b ∨ b ∈ ad) (RL.encs rs x) vs bs2
  | [],[],_,vs,bs,_,h => ⟨[],bs,.refl _,ResL.mono (fun b hb => .inl hb) h⟩
  | [],_ :: _,_,_,_,h,_ => by simp [RL.decs] at h
  | [r],[p],x,vs,bs,h,⟨v,r',b1,b2,h1,h2,h3,h4⟩ => by
    obtain ⟨ad,bs2,k1,k2⟩ := RL.weak (r := r) h h3
    obtain ⟨h5,h6⟩ := h4
    subst h5; subst h6; subst h2
    rw [List.append_nil]
    exact ⟨ad,bs2,k1,v,[],bs2,[],h1,by simp,k2,rfl,rfl⟩
  | [r],[],_,_,_,h,_ => by simp [RL.decs] at h
  | [r],_ :: _ :: _,_,_,_,h,_ => by simp [RL.decs] at h
  | r :: u :: q,[],_,_,_,h,_ => by simp [RL.decs] at h
  | r :: u :: q,p :: ps,x,vs,bs,h,⟨v,r',b1,b2,h1,h2,h3,h4⟩ => by
    simp only [RL.decs] at h
    split at h
    · rename_i y z hy hz
      simp only [Option.some.injEq] at h
      subst h
      obtain ⟨a1,c1,k1,k2⟩ := RL.weak hy h3
      obtain ⟨a2,c2,k3,k4⟩ := RL.weaks hz h4
      subst h2
      refine ⟨a1 ++ a2,c1 ++ c2,perm_join k1 k3,v,r',c1,c2,h1,rfl,k2.mono ?_,k4.mono ?_⟩
      · intro b hb; rcases hb with hb | hb; exact .inl hb; exact .inr (List.mem_append_left _ hb)
      · intro b hb; rcases hb with hb | hb; exact .inl hb; exact .inr (List.mem_append_right _ hb)
    · simp at h
theorem RO.weak {w : World} {ok : Nat → Prop} {r : RO} {p : PV} {x : r.den} (h : r.dec p = some x) {v : Value} {bs : List Nat} (hp : ResOne w ok p v bs) : ∃ ad bs2,(ad ++ bs2).Perm bs ∧ ResOne w (fun b => ok b ∨ b ∈ ad) (r.enc x) v bs2 := by
  cases r with
  | leaf r =>
    have hl : ResLeaf w ok p v bs := by
      cases p <;> first | exact hp | (cases r <;> simp [RO.dec,RL.dec] at h)
    obtain ⟨ad,bs2,k1,k2⟩ := RL.weak h hl
    refine ⟨ad,bs2,k1,?_⟩
    have hne : ∀ c,RL.enc r x ≠ .agg c := by intro c; cases r <;> simp [RL.enc]
    simp only [RO.enc]
    cases he : RL.enc r x <;> rw [he] at k2 hne <;> first | exact k2 | exact absurd rfl (hne _)
  | agg l =>
    cases p <;> simp only [RO.dec] at h <;> try (simp at h; done)
    obtain ⟨a,h1,h2⟩ := hp
    obtain ⟨ad,bs2,k1,k2⟩ := RL.weaks h h2
    exact ⟨ad,bs2,k1,a,h1,k2⟩
theorem RO.weaks {w : World} {ok : Nat → Prop} : ∀ {rs : List RO} {ps : List PV} {x : RO.dens rs} {vs : List Value} {bs : List Nat},RO.decs rs ps = some x → ResAll w ok ps vs bs → ∃ ad bs2,(ad ++ bs2).Perm bs ∧ ResAll w (fun b => ok b ∨ b ∈ ad) (RO.encs rs x) vs bs2
  | [],[],_,vs,bs,_,h => ⟨[],bs,.refl _,ResAll.mono (fun b hb => .inl hb) h⟩
  | [],_ :: _,_,_,_,h,_ => by simp [RO.decs] at h
  | [r],[p],x,vs,bs,h,⟨v,r',b1,b2,h1,h2,h3,h4⟩ => by
    obtain ⟨ad,bs2,k1,k2⟩ := RO.weak (r := r) h h3
    obtain ⟨h5,h6⟩ := h4
    subst h5; subst h6; subst h2
    rw [List.append_nil]
    exact ⟨ad,bs2,k1,v,[],bs2,[],h1,by simp,k2,rfl,rfl⟩
  | [r],[],_,_,_,h,_ => by simp [RO.decs] at h
  | [r],_ :: _ :: _,_,_,_,h,_ => by simp [RO.decs] at h
  | r :: u :: q,[],_,_,_,h,_ => by simp [RO.decs] at h
  | r :: u :: q,p :: ps,x,vs,bs,h,⟨v,r',b1,b2,h1,h2,h3,h4⟩ => by
    simp only [RO.decs] at h
    split at h
    · rename_i y z hy hz
      simp only [Option.some.injEq] at h
      subst h
      obtain ⟨a1,c1,k1,k2⟩ := RO.weak hy h3
      obtain ⟨a2,c2,k3,k4⟩ := RO.weaks hz h4
      subst h2
      refine ⟨a1 ++ a2,c1 ++ c2,perm_join k1 k3,v,r',c1,c2,h1,rfl,k2.mono ?_,k4.mono ?_⟩
      · intro b hb; rcases hb with hb | hb; exact .inl hb; exact .inr (List.mem_append_left _ hb)
      · intro b hb; rcases hb with hb | hb; exact .inl hb; exact .inr (List.mem_append_right _ hb)
    · simp at h
theorem RT.dec_enc (r : RT) (p : PV) (x : r.den) (h : r.dec p = some x) : Weak p (r.enc x) := by
  intro w ok v bs hp
  cases r with
  | one r =>
    have hl : ResOne w ok p v bs := by
      cases p <;> first | exact hp | (cases r with | leaf r => cases r <;> simp [RT.dec,RO.dec,RL.dec] at h | agg l => simp [RT.dec,RO.dec] at h)
    obtain ⟨ad,bs2,k1,k2⟩ := RO.weak h hl
    refine ⟨ad,bs2,k1,?_⟩
    have hne : ∀ c,RO.enc r x ≠ .tup c := by
      intro c
      cases r with
      | leaf r => cases r <;> simp [RO.enc,RL.enc]
      | agg l => simp [RO.enc]
    simp only [RT.enc]
    cases he : RO.enc r x <;> rw [he] at k2 hne <;> first | exact k2 | exact absurd rfl (hne _)
  | tup l =>
    cases p <;> simp only [RT.dec] at h <;> try (simp at h; done)
    obtain ⟨a,h1,h2⟩ := hp
    obtain ⟨ad,bs2,k1,k2⟩ := RO.weaks h h2
    exact ⟨ad,bs2,k1,a,h1,k2⟩

def Ctx.nil (P : Program) : Ctx := { P := P,call := fun _ _ _ _ => none }
theorem Ctx.nil_sound (P : Program) : (Ctx.nil P).Sound := ⟨⟨fun _ _ _ _ _ h => by simp [Ctx.nil] at h,fun _ _ _ _ _ _ h => by simp [Ctx.nil] at h⟩,fun _ _ _ _ _ _ _ => rfl⟩
def Ctx.nilG (P : Program) (G : Nat → Option ((t : Ty)×List t.den)) : Ctx := { P := P,call := fun _ _ _ _ => none,glob := G }
theorem Ctx.nilG_sound (P : Program) (G : Nat → Option ((t : Ty)×List t.den)) : (Ctx.nilG P G).Sound := ⟨⟨fun _ _ _ _ _ h => by simp [Ctx.nilG] at h,fun _ _ _ _ _ _ h => by simp [Ctx.nilG] at h⟩,fun _ _ _ _ _ _ _ => rfl⟩
def Ctx.add (C : Ctx) (f : FuncId) (ts : List ATy) (r : RT) (F : dens ts → Option r.den) : Ctx :=
  { C with call := fun f' args _ K => bif Nat.beq f' f then (match decs ts args with | some b => (F b).bind fun x => K (r.enc x) [] | none => C.call f' args K) else C.call f' args K,marks := [] }
theorem Contract.weaken {P : Program} {G : World → Prop} {f : FuncId} {ts : List ATy} {args : List PV} {b : dens ts} {res : PV} (hd : decs ts args = some b) (h : Contract P G f (encs ts b) res) : Contract P G f args res :=
  fun w ok a vs hg hok ha => h w ok a vs hg hok (decs_rep hd ha)
theorem Ctx.Sound.of {C : Ctx} (hC : C.Sound) {f : FuncId} {ts : List ATy} {r : RT} {F : dens ts → Option r.den} (h : ∀ b q,F b = some q → Contract C.P C.GlobW f (encs ts b) (r.enc q)) : (C.add f ts r F).Sound := by
  refine ⟨⟨?_,fun g as st R K x hr => hC.1.2 g as st R K x hr⟩,fun g as st R K K' h => hC.2 g as st R K K' h⟩
  intro f' args R K x hr
  simp only [Ctx.add] at hr
  cases hb : Nat.beq f' f with
  | false => rw [hb] at hr; exact hC.1.1 f' args R K x hr
  | true =>
    rw [hb] at hr
    have := beq_true.1 hb
    subst this
    simp only [cond_true] at hr
    split at hr
    · rename_i b hd
      cases hF : F b with
      | none => rw [hF] at hr; simp at hr
      | some q =>
        rw [hF] at hr
        simp only [Option.bind_some] at hr
        exact ⟨r.enc q,Contract.weaken hd (h b q hF),hr⟩
    · exact hC.1.1 _ args R K x hr
theorem Ctx.Sound.add {C : Ctx} (hm : C.P.follows .mixedOrders = true) (hC : C.Sound) {H : Nat → Head} {f : FuncId} {fn : Func} (hf : C.P.funcs[f]? = some fn) {ts : List ATy} {r : RT} {F : dens ts → Option r.den}
    (h : ∀ b,evF C H fn (encs ts b) r.dec = F b) : (C.add f ts r F).Sound :=
  hC.of fun b q hq => evF_contract r.dec_enc hm hC hf (encs_nogd ts b) (by rw [h,hq])
def Ctx.addA (C : Ctx) (f : FuncId) (ts : List ATy) (r : RT) (F : dens ts → Option r.den) : Ctx :=
  { C.add f ts r F with nw := fun g => bif Nat.beq g f then true else C.nw g }
theorem Ctx.Sound.addA {C : Ctx} (hm : C.P.follows .mixedOrders = true) (hC : C.Sound) {H : Nat → Head} {f : FuncId} {fn : Func} (hf : C.P.funcs[f]? = some fn) {ts : List ATy} {r : RT} {F : dens ts → Option r.den}
    (h : ∀ b,evF C H fn (encs ts b) r.dec = F b) : (C.addA f ts r F).Sound :=
  hC.add hm hf h
theorem Ctx.Sound.fix {C : Ctx} (hm : C.P.follows .mixedOrders = true) (hC : C.Sound) {H : Nat → Head} {f : FuncId} {fn : Func} (hf : C.P.funcs[f]? = some fn) {ts : List ATy} {r : RT} {B : (dens ts → Option r.den) → dens ts → Option r.den}
    (h : ∀ F b,evF (C.add f ts r F) H fn (encs ts b) r.dec = B F b) : (C.add f ts r (lfp B)).Sound := by
  have key : ∀ n,(C.add f ts r (iter B n)).Sound := by
    intro n
    induction n with
    | zero => exact hC.of fun b q hq => by simp [iter] at hq
    | succ n ih => exact hC.of fun b q hq => evF_contract (C := C.add f ts r (iter B n)) r.dec_enc hm ih hf (encs_nogd ts b) (by rw [h]; exact hq)
  refine hC.of fun b q hq => ?_
  obtain ⟨n,hn⟩ := lfp_some hq
  cases n with
  | zero => simp [iter] at hn
  | succ n => exact evF_contract (C := C.add f ts r (iter B n)) r.dec_enc hm (key n) hf (encs_nogd ts b) (by rw [h]; exact hn)

theorem sweep_obj (v : PV) (old : List (Nat×Nat×Ob)) : ∀ (l : List (Nat×Nat×Ob)) (st : St),Obj st (sweep v old l st)
  | [],st => Obj.refl _
  | (k,_,_) :: r,st => by
    simp only [sweep]
    refine Obj.trans ?_ (sweep_obj v old r _)
    cases liveO old k || v.refs k || st.s.refs k || refsO st.o k || (st.obj k).isNone with
    | true => exact Obj.refl _
    | false => exact Obj.del _ _
theorem sweep_rep (v : PV) (old : List (Nat×Nat×Ob)) {m : MM} {w0 : World} {a : Act} : ∀ (l : List (Nat×Nat×Ob)) (st : St) (c : Cx),Rep m w0 st a c → ∃ c' : Cx,c'.w = c.w ∧ Rep m w0 (sweep v old l st) a c' ∧ ∀ p u,RepV c p u → RepV c' p u
  | [],st,c,h => ⟨c,rfl,h,fun _ _ x => x⟩
  | (k,_,_) :: r,st,c,h => by
    simp only [sweep]
    cases hb : liveO old k || v.refs k || st.s.refs k || refsO st.o k || (st.obj k).isNone with
    | true => exact sweep_rep v old r st c h
    | false =>
      simp only [Bool.or_eq_false_iff] at hb
      cases ho : st.obj k with
      | none => rw [ho] at hb; simp at hb
      | some o =>
        have hd := h.del ho
        obtain ⟨c',e1,h1,h2⟩ := sweep_rep v old r (st.del k) _ hd
        refine ⟨c',e1,h1,fun p u hp => h2 p u (RepV.move (S := fun _ => True) (c := c) ?_ p u (fun _ _ => trivial) hp)⟩
        exact h.setMv ho c.ok (fun _ _ => rfl) (fun _ hb => hb) (fun t l hl => by simp [RowAt] at hl) (by simp)
theorem evC_agree {C : Ctx} (hF : C.Fair) {H : Nat → Head} {code : Code} {st : St} {R : Type} {K : Ex → St → Option R} {r : R} (hr : evC C H code st K = some r) :
    evC C H code st (fun e st' => open Classical in if Agree (dsts code) st st' then K e st' else none) = some r := by
  rw [← hr]
  exact evC_congr C hF H code st _ _ fun e st' h => if_pos h
theorem evI_congr {C : Ctx} (hF : C.Fair) {H : Nat → Head} {k : Nat} {fn : Func} {args : List PV} {st : St} {R : Type} {K K' : PV → St → Option R} (h : ∀ v st1,Obj st st1 → K v st1 = K' v st1) : evI C H k fn args st K = evI C H k fn args st K' := by
  unfold evI
  congr 1
  split
  · rename_i code st1 hb hn
    split
    · rename_i v0 x hv
      refine evC_congr { C with marks := (H 4000000).stay } hF H code st1 _ _ fun e st' hag => ?_
      have ho : ∀ v,Obj st (sweep v st.o (st'.del k).o ⟨st.s,(st'.del k).o⟩) := fun v => Obj.trans (st1 := ⟨st.s,(st'.del k).o⟩) ⟨rfl,((Obj.new hn).ob.trans hag.ob).trans (Obj.del st' k).ob⟩ (sweep_obj v _ _ _)
      cases e with
      | exit i => rfl
      | normal =>
        simp only
        split
        · congr 1
          split
          · exact h _ _ (ho _)
          · exact h _ _ (ho _)
          · rfl
        · rfl
      | ret =>
        simp only
        split
        · congr 1
          split
          · exact h _ _ (ho _)
          · exact h _ _ (ho _)
          · rfl
        · rfl
    · rfl
  · rfl
theorem evI_sound {C : Ctx} (hm : C.P.follows .mixedOrders = true) (hS : C.Sound) {H : Nat → Head} {k : Nat} {f : FuncId} {fn : Func} (hf : C.P.funcs[f]? = some fn) {args : List PV} {st : St} {R : Type} {K : PV → St → Option R} {r : R}
    (hr : evI C H k fn args st K = some r) {m : MM} {w0 : World} {a : Act} {c : Cx} {vs : Array Value} (hG : C.GlobM m w0) (h : Rep m w0 st a c) (hargs : RepL c args vs.toList) :
    Calls C.P f vs c.w fun e w' => ∃ u v st' c',e = .returned u ∧ c'.w = w' ∧ K v st' = some r ∧ Rep m w0 st' a c' ∧ RepV c' v u := by
  unfold evI at hr
  cases hgd : args.any PV.isGd with
  | true => rw [hgd] at hr; simp at hr
  | false =>
  rw [hgd] at hr
  simp only [cond_false] at hr
  split at hr
  · rename_i code st1 hb hn
    split at hr
    · rename_i v0 x hv0
      obtain ⟨g1,g2,g3,g4,g5,g6⟩ := new_spec hn
      let m1 : MM := { m with pin := fun i => if i = k then a.tmps.toList else m.pin i }
      let c0 : Cx := { c with pin := m1.pin }
      have mv0 : Mv (fun _ => True) c c0 := (.of (fun _ _ => rfl) (fun _ h => h) (fun _ _ => rfl) (fun _ _ => rfl) (fun i t l _ hl => ⟨l,hl,rfl⟩) (fun _ ha => ha) (fun _ hb => hb) (fun hl => hl))
      have hlen := hargs.length
      have hsz : vs.size = args.length := by simpa using hlen
      have hgd' : ∀ p ∈ args,p.isGd = false := by
        intro p hp
        have := List.any_eq_false.1 hgd p hp
        simpa using this
      have R0 : Rep m1 w0 ⟨Sl.init (args.length + (fn.ntmps - args.length)) args,st.o⟩ { tmps := vs ++ Array.replicate (fn.ntmps - vs.size) undef,defers := [] } c0 := by
        refine ⟨by rw [show (vs ++ Array.replicate (fn.ntmps - vs.size) undef).size = args.length + (fn.ntmps - args.length) by simp [hsz]]; exact Sized.init _ _,fun d => ?_,rfl,fun i => h.ob i,fun i o ho => ?_,fun i j hi hj he => h.apart i j hi hj he,fun i hi => h.mine i hi,h.ok,h.kept,h.old,h.new,rfl,h.a,h.low,h.q⟩
        · have hg : St.get ⟨Sl.init (args.length + (fn.ntmps - args.length)) args,st.o⟩ d = (args[d]?).getD .undef := by
            exact go_init args (by omega) d
          rw [hg]
          cases hd : args[d]? with
          | none => simp [SlotOK,RepV]
          | some p =>
            obtain ⟨v,hv1,hv2⟩ := hargs.get d hd
            simp only [Option.getD_some]
            have : (vs ++ Array.replicate (fn.ntmps - vs.size) undef).getD d undef = v := by
              rw [Array.getD_eq_getD_getElem?,Array.getElem?_append]
              have : d < vs.size := by
                have := (List.getElem?_eq_some_iff.1 hv1).1
                simpa using this
              rw [if_pos this,← Array.getElem?_toList,hv1]
              rfl
            rw [this]
            exact SlotOK.of (RepV.move mv0 _ _ (fun _ _ => trivial) hv2) (ne_gd (hgd' p (List.mem_of_getElem? hd)))
        · by_cases hi : i = k
          · subst hi
            have ho' : st.obj i = some o := by rw [← h.ob]; exact ho
            have g4' : st.obj i = none ∨ st.obj i = some .gone := g4
            rcases g4' with g4' | g4' <;> rw [g4'] at ho' <;> simp at ho'
            subst ho'
            trivial
          · refine (h.objs i o ho).move mv0 (fun _ _ => trivial) trivial (fun _ => rfl) ?_
            show (if i = k then a.tmps.toList else m.pin i) = c.pin i
            rw [if_neg hi,h.pin]
      have R1 := R0.newObj hn (w1 := c0.w) 0 undef R0.kept (Nat.le_refl _) (fun _ _ => rfl) (by
        refine ⟨?_,fun d => ?_⟩
        · show Sized (if k = k then a.tmps.toList else m.pin k).length _
          rw [if_pos rfl,Array.length_toList]
          exact h.size
        · show SlotOK _ { tmps := (if k = k then a.tmps.toList else m.pin k).toArray,defers := [] } _ ((if k = k then a.tmps.toList else m.pin k).getD d undef)
          rw [if_pos rfl]
          have hs := h.slots d
          have e1 : a.tmps.toList.getD d undef = a.tmps.getD d undef := by simp [List.getD_eq_getElem?_getD,Array.getD_eq_getD_getElem?]
          rw [e1]
          have hs2 : SlotOK c { tmps := a.tmps.toList.toArray,defers := [] } (st.get d) (a.tmps.getD d undef) := by
            revert hs
            cases st.get d <;> simp only [SlotOK] <;> exact fun x => x
          refine SlotOK.move (S := fun i => i ≠ k) ?_ (fun i hi => ?_) hs2
          · refine (.of (fun _ _ => rfl) (fun _ hb => hb) (fun i hi => by simp [hi,c0]) (fun i hi => by simp [hi,c0]) (fun i t l hi hl => ⟨l,?_,rfl⟩) (fun _ ha => ha) (fun _ hb => hb) (fun hl => ?_))
            · rw [h.ob]
              have : st1.obj i = st.obj i := by rw [g5,if_neg hi]; rfl
              simp only at hl
              rw [this] at hl
              exact hl
            · have hl' : st1.obj QK = some .live := hl
              rw [g5] at hl'
              rw [h.ob]
              by_cases hq : QK = k
              · rw [if_pos hq] at hl'; simp at hl'
              · rw [if_neg hq] at hl'; exact hl'
          · rintro rfl
            have := go_refs st.s d i hi
            simp only [Ob.refs] at g6
            rw [g6] at this
            simp at this) (fun hw => by simp [OwnsO] at hw)
      replace hr := evC_agree (C := { C with marks := (H 4000000).stay }) hS.2 hr
      refine calls_of_wp hf hb ?_
      have W := fun Q => evC_sound (C := { C with marks := (H 4000000).stay }) hm hS H code _ _ r m1 w0 _ _ Q hG R1 hr
      refine W _ ?_ ?_
      · rintro ch a w' ⟨_,_,_,_,_,he,_⟩
        simp at he
      · intro e st' a' c' hk h'
        split at hk
        · rename_i hagr
          cases e
          case exit i => simp at hk
          all_goals
            refine ⟨h'.defers,?_⟩
            obtain ⟨v',x',hf',hle,heq⟩ := hagr.ob k v0 x hv0
            rw [hf'] at hk
            simp only at hk
            obtain ⟨hvv0,hk1⟩ := cond_some hk
            clear hk
            have hk := hk1
            clear hk1
            have hvv := beq_true.1 hvv0
            clear hvv0
            subst hvv
            have hx := heq rfl
            have hx0 : x = .held st.s := by
              have := g5 k
              rw [if_pos rfl] at this
              unfold St.obj at this
              rw [hv0] at this
              simpa using this
            rw [hx,hx0] at hf'
            have hobj : st'.obj k = some (.held st.s) := by unfold St.obj; rw [hf']
            have hheld : RepO c' k (.held st.s) := h'.objs k _ (by rw [h'.ob]; exact hobj)
            have hd := h'.del hobj
            have hdo : ∀ i,(st'.del k).obj i = if i = k then some .gone else st'.obj i := by
              intro i
              unfold St.del
              rw [obj_setO]
              by_cases hi : i = k
              · rw [if_pos hi,if_pos hi,hobj]; rfl
              · rw [if_neg hi,if_neg hi]
            let c2 : Cx := { c' with pin := m.pin,ob := (st'.del k).obj }
            have mv3 : Mv (fun _ => True) { c' with ob := (st'.del k).obj } c2 := (.of (fun _ _ => rfl) (fun _ h => h) (fun _ _ => rfl) (fun _ _ => rfl) (fun i t l _ hl => ⟨l,hl,rfl⟩) (fun _ ha => ha) (fun _ hb => hb) (fun hl => hl))
            have mv2 : Mv (fun _ => True) c' c2 := (h'.setMv hobj c'.ok (fun _ _ => rfl) (fun _ hb => hb) (fun t l hl => by simp [RowAt] at hl) (by simp)).trans mv3
            have hpin : c'.pin = m1.pin := h'.pin
            have R2 : Rep m w0 ⟨st.s,(st'.del k).o⟩ a c2 := by
              refine ⟨h.size,fun d => ?_,h.defers,fun i => rfl,fun i o ho => ?_,fun i j hi hj he => hd.apart i j hi hj he,fun i hi => hd.mine i hi,hd.ok,hd.kept,hd.old,hd.new,rfl,hd.a,hd.low,hd.q⟩
              · have hs := hheld.2 d
                rw [hpin] at hs
                simp only [m1,if_true] at hs
                have e1 : a.tmps.toList.getD d undef = a.tmps.getD d undef := by simp [List.getD_eq_getElem?_getD,Array.getD_eq_getD_getElem?]
                rw [e1] at hs
                have hs2 : SlotOK c' a (st.s.go d) (a.tmps.getD d undef) := by
                  revert hs
                  cases st.s.go d <;> simp only [SlotOK] <;> exact fun x => x
                exact SlotOK.move mv2 (fun _ _ => trivial) hs2
              · by_cases hi : i = k
                · have ho' : (st'.del k).obj i = some o := ho
                  rw [hdo,if_pos hi] at ho'
                  simp only [Option.some.injEq] at ho'
                  subst ho'
                  trivial
                · refine (hd.objs i o ho).move mv3 (fun _ _ => trivial) trivial (fun _ => rfl) ?_
                  show m.pin i = c'.pin i
                  rw [hpin]
                  simp [m1,hi]
            split at hk
            · rename_i q hq
              obtain ⟨us,hrun,hus⟩ := resultsPV_sound h' hq
              have hres := results_run hrun
              simp only [RepL] at hus
              obtain ⟨u,r',rfl,hu,rfl⟩ := hus
              obtain ⟨c3,e3,R3,v3⟩ := sweep_rep q st.o (st'.del k).o _ _ R2
              exact ⟨u,hres,u,q,_,c3,rfl,e3,hk,R3,v3 _ _ (RepV.move mv2 _ _ (fun _ _ => trivial) hu)⟩
            · rename_i qs hne hq
              obtain ⟨us,hrun,hus⟩ := resultsPV_sound h' hq
              have hres := results_run hrun
              have hl := hus.length
              have hres' : (results fn a'.tmps).run C.P c'.w = .ok (.tuple us.toArray) c'.w := by
                rw [hres]
                congr 1
                split
                · simp only [List.length_singleton] at hl
                  obtain ⟨q,hq'⟩ := List.length_eq_one_iff.1 hl.symm
                  exact absurd hq' (by intro hh; subst hh; exact hne q rfl)
                · rfl
              obtain ⟨c3,e3,R3,v3⟩ := sweep_rep (.tup qs) st.o (st'.del k).o _ _ R2
              refine ⟨_,hres',_,.tup qs,_,c3,rfl,e3,hk,R3,v3 _ _ ?_⟩
              simp only [RepV]
              exact ⟨us.toArray,rfl,by simpa using RepL.move mv2 _ _ (fun _ _ => trivial) hus⟩
            · simp at hk
        · simp at hk
    · simp at hr
  · simp at hr
noncomputable def Ctx.addI (C : Ctx) (f : FuncId) (H : Nat → Head) (k : Nat) (fn : Func) : Ctx :=
  { C with inlined := fun g => bif Nat.beq g f then true else C.inlined g,inl := fun g as st _ K => bif Nat.beq g f then evI C H k fn as st K else C.inl g as st K,marks := [] }
theorem Ctx.Sound.addI {C : Ctx} (hm : C.P.follows .mixedOrders = true) (hC : C.Sound) {H : Nat → Head} {k : Nat} {f : FuncId} {fn : Func} (hf : C.P.funcs[f]? = some fn) : (C.addI f H k fn).Sound := by
  refine ⟨⟨fun f' args R K x hr => hC.1.1 f' args R K x hr,fun g as st R K x hr m w0 a c vs hG h ha => ?_⟩,fun g as st R K K' h => ?_⟩
  · simp only [Ctx.addI] at hr
    cases hb : Nat.beq g f with
    | false => rw [hb] at hr; exact hC.1.2 g as st R K x hr m w0 a c vs hG h ha
    | true =>
      rw [hb] at hr
      have := beq_true.1 hb
      subst this
      exact evI_sound hm hC hf hr hG h ha
  · simp only [Ctx.addI]
    cases Nat.beq g f with
    | false => exact hC.2 g as st R K K' h
    | true => exact evI_congr hC.2 h

theorem Contract.law {P : Program} {G : World → Prop} {f : FuncId} {args : List PV} (h : Contract P G f args (.bool true)) {w : World} (hg : G w) {ok : Nat → Prop} {vs : Array Value} (hok : ∀ b,ok b → b < w.heap.size) (ha : RepL (shut w ok) args vs.toList) :
    Calls P f vs w fun e w' => e = .returned (.bool true) ∧ Below w.heap.size w w' := by
  refine (h w ok (fun _ => False) vs hg (fun b hb => hb.elim (hok b) (fun h => h.elim)) ha).mono ?_
  rintro e w' ⟨v,ok',bs,rfl,hk,_,_,hv,_⟩
  have : v = .bool true := by
    simp only [ResV,ResOne,ResLeaf,RepV] at hv
    exact hv.2
  rw [this]
  exact ⟨rfl,hk.below⟩
theorem law_of {C : Ctx} (hm : C.P.follows .mixedOrders = true) (hC : C.Sound) {H : Nat → Head} {f : FuncId} {fn : Func} (hf : C.P.funcs[f]? = some fn) {ts : List ATy} {F : dens ts → Option Bool}
    (h : ∀ b,evF C H fn (encs ts b) (RT.dec (.one (.leaf .bool))) = F b) {b : dens ts} (hb : F b = some true) {w : World} (hg : C.GlobW w) {ok : Nat → Prop} {vs : Array Value} (hok : ∀ b,ok b → b < w.heap.size) (ha : RepL (shut w ok) (encs ts b) vs.toList) :
    Calls C.P f vs w fun e w' => e = .returned (.bool true) ∧ Below w.heap.size w w' :=
  Contract.law (evF_contract (RT.dec_enc (.one (.leaf .bool))) hm hC hf (encs_nogd ts b) (by rw [h]; exact hb)) hg hok ha
theorem both_self {R : Type} (a : Option R) : both a a = a := by unfold both; rw [if_pos rfl]
end Go.Fw
