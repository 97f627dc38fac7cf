/- Part 14: lemmas that the last text needs. -/
import Derived.Test.YtkihadlgknhpkaaGreatDoorX13
import Derived.ChangeSlices
import Derived.ChangeOld
import Derived.ChangeArms
import Derived.ChangeShapes
import Derived.WideShapes
import Derived.Carry
import Derived.OpenShut
set_option linter.all false
set_option autoImplicit true
set_option relaxedAutoImplicit true
namespace Go.Fw
open Go.RowKit (Below)
inductive ATy where
 |one (t:Ty)|agg (t:Ty)
 |nil (e:TypeId) (t:Ty)
 |fn (f:FuncId)
@[reducible] def ATy.den:ATy->Type
 | .one t=>t.den
 | .agg t=>t.den
 | .nil ..=>Unit
 | .fn _=>Unit
def ATy.dec:(t:ATy)->PV->Option t.den
 | .one t,p=>match p with| .agg _=>none|p=>t.of [p]
 | .agg t,p=>match p with| .agg c=>t.of c|_=>none
 | .nil e t,p=>match p with| .full j C []=>if j=e/\C=t then some () else none|_=>none
 | .fn f,p=>match p with| .fn I []=>bif Nat.beq I f then some () else none|_=>none
def ATy.enc:(t:ATy)->t.den->PV
 | .one t,x=>match t.leaves x with| [p]=>p|_=> .undef
 | .agg t,x=> .agg (t.leaves x)
 | .nil e t,_=> .full e t []
 | .fn f,_=> .fn f []
@[reducible] def lF:List ATy->Type
 | []=>Unit
 | [t]=>t.den
 |t::r=>t.den×lF r
def oM:(ts:List ATy)->List PV->Option (lF ts)
 | [],[]=>some ()
 | [t],[p]=>t.dec p
 |t::u::r,p::j=>match t.dec p,oM (u::r) j with|some x,some y=>some (x,y)|_,_=>none
 |_,_=>none
def encs:(ts:List ATy)->lF ts->List PV
 | [],_=> []
 | [t],x=> [t.enc x]
 |t::u::r,x=>t.enc x.1::encs (u::r) x.2
section
variable {c:Cx}
theorem ATy.Xk {t:ATy} {p:PV} {x:t.den} {v:Value} (h:t.dec p=some x) (b:RepV c p v):RepV c (t.enc x) v:=by
 cases t with
 |one t=>
  simp only [ATy.dec] at h;split at h
  ·grind
  ·have hd:=Ty.fU (c:=c) (vs:= [v]) h (by grind[au]);have d:=hd.leaves (c:=c)
   grind[ATy.enc,au,RepV.vq]
 |agg t=>
  simp only [ATy.dec] at h;split at h
  ·simp only [RepV] at b;obtain ⟨a,rfl,d⟩:=b;have hd:=Ty.fU (c:=c) h d;simp only [ATy.enc,RepV];exact ⟨a,rfl,hd.leaves⟩
  grind
 |nil e t=>
  simp only [ATy.dec] at h;split at h
  ·split at h
   ·rename_i g;obtain ⟨rfl,rfl⟩:=g;exact b
   grind
  grind
 |fn f=>
  simp only [ATy.dec] at h;split at h
  ·rename_i i
   cases j:Nat.beq i f with
   |false=>grind
   |true=>
    have:=dD.1 j;subst this;exact b
  grind
theorem Wb:∀{ts:List ATy} {a:List PV} {x:lF ts} {vs:List Value},oM ts a=some x->au c a vs->au c (encs ts x) vs
 | [],[],_,_,_,j=>j
 | [],_::_,_,_,h,_=>by grind[oM]
 | [t],[p],x,vs,h,j=>by
   simp only [au] at j;obtain ⟨v,I,rfl,C,rfl⟩:=j;simp only [encs,au];exact ⟨v,[],rfl,ATy.Xk h C,rfl⟩
 | [t],[],_,_,h,_=>by grind[oM]
 | [t],_::_::_,_,_,h,_=>by grind[oM]
 |t::u::r,[],_,_,h,_=>by grind[oM]
 |t::u::r,p::a,x,vs,h,j=>by
  simp only [au] at j;obtain ⟨v,I,rfl,C,b⟩:=j;simp only [oM] at h;split at h
  ·rename_i y z d e;simp only [aB] at h;subst h;simp only [encs,au];exact ⟨v,I,rfl,ATy.Xk d C,Wb e b⟩
  grind
theorem ATy.Xj (t:ATy) (x:t.den):(t.enc x).isGd=false:=by
 cases t with
 |one t=>
  simp only [ATy.enc];split
  ·grind[CT]
  ·rfl
 |agg t=>rfl
 |nil e t=>rfl
 |fn f=>rfl
theorem Di:∀ (ts:List ATy) (x:lF ts),∀p ∈ encs ts x,p.isGd=false
 | [],_,p,h=>by grind[encs]
 | [t],x,p,h=>by grind[encs,ATy.Xj]
 |t::u::r,x,p,h=>by
  simp only [encs] at h;rcases a8.1 h with h|h
  ·grind[ATy.Xj]
  ·exact Di (u::r) x.2 p h
end
inductive RL where
 |int (k:IntKind)|bool|str|flt|sl (e:TypeId) (t:Ty)|fresh (e:TypeId) (t:Ty)|mp (m:MTy)
@[reducible] def RL.den:RL->Type
 | .int _=>Int| .bool=>Bool| .str=>List Int| .flt=>Int| .sl _ t=>List t.den| .fresh _ t=>List t.den| .mp m=>List (m.k.den×m.v.den)
def RL.dec:(r:RL)->PV->Option r.den
 | .int k,.int I n=>if I=k then some n else none
 | .bool,.bool b=>some b
 | .str,.str s=>some s
 | .flt,.flt x=>some x
 | .sl e t,.sl j C l=>if j=e then if h:C=t then some (h ▸ l) else none else none
 | .fresh e t,.fresh j C l=>if j=e then if h:C=t then some (h ▸ l) else none else none
 | .sl e t,.fresh j C l=>if j=e then if h:C=t then some (h ▸ l) else none else none
 | .mp m,.mp m' l=>if h:m'=m then some (h ▸ l) else none
 |_,_=>none
def RL.enc:(r:RL)->r.den->PV
 | .int k,n=> .int k n| .bool,b=> .bool b| .str,s=> .str s| .flt,x=> .flt x| .sl e t,l=> .sl e t l| .fresh e t,l=> .fresh e t l| .mp m,l=> .mp m l
@[reducible] def RL.yy:List RL->Type
 | []=>Unit
 | [r]=>r.den
 |r::q=>r.den×RL.yy q
def RL.qo:(a:List RL)->List PV->Option (RL.yy a)
 | [],[]=>some ()
 | [r],[p]=>r.dec p
 |r::u::q,p::j=>match r.dec p,RL.qo (u::q) j with|some x,some y=>some (x,y)|_,_=>none
 |_,_=>none
def RL.encs:(a:List RL)->RL.yy a->List PV
 | [],_=> []
 | [r],x=> [r.enc x]
 |r::u::q,x=>r.enc x.1::RL.encs (u::q) x.2
inductive RO where
 |leaf (r:RL)|agg (l:List RL)
 |agt (t:Ty)
@[reducible] def RO.den:RO->Type
 | .leaf r=>r.den| .agg l=>RL.yy l| .agt t=>t.den
def PV.Dq:PV->PV
 | .fresh e t l=> .sl e t l
 |v=>v
def RO.dec:(r:RO)->PV->Option r.den
 | .leaf r,p=>r.dec p
 | .agg l,.agg c=>RL.qo l c
 | .agg _,_=>none
 | .agt t,.agg c=>t.of (c.map PV.Dq)
 | .agt _,_=>none
def RO.enc:(r:RO)->r.den->PV
 | .leaf r,x=>r.enc x| .agg l,x=> .agg (RL.encs l x)| .agt t,x=> .agg (t.leaves x)
@[reducible] def RO.yx:List RO->Type
 | []=>Unit
 | [r]=>r.den
 |r::q=>r.den×RO.yx q
def RO.qn:(a:List RO)->List PV->Option (RO.yx a)
 | [],[]=>some ()
 | [r],[p]=>r.dec p
 |r::u::q,p::j=>match r.dec p,RO.qn (u::q) j with|some x,some y=>some (x,y)|_,_=>none
 |_,_=>none
def RO.encs:(a:List RO)->RO.yx a->List PV
 | [],_=> []
 | [r],x=> [r.enc x]
 |r::u::q,x=>r.enc x.1::RO.encs (u::q) x.2
inductive RT where
 |one (r:RO)|tup (l:List RO)
@[reducible] def RT.den:RT->Type
 | .one r=>r.den| .tup l=>RO.yx l
def RT.dec:(r:RT)->PV->Option r.den
 | .one r,p=>r.dec p
 | .tup l,.tup c=>RO.qn l c
 | .tup _,_=>none
def RT.enc:(r:RT)->r.den->PV
 | .one r,x=>r.enc x| .tup l,x=> .tup (RO.encs l x)
theorem gx.mono {w:World} {ok ok':Nat->Prop} (a:∀b,ok b->ok' b) {p:PV} {v:Value} {d:List Nat} (h:gx w ok p v d):gx w ok' p v d:=by
 have mv:Mv (λ_=>True) (cA w ok) (cA w ok'):=⟨λ_ _=>rfl,a,λ_ _=>rfl,λ_ _=>rfl,λk e t l _ i=>⟨e,l,i,rfl⟩⟩;cases p
 case fresh e t l=>
  obtain ⟨A,n,j,m,o,f⟩:=h;refine ⟨A,n,j,m,o,?_⟩;rcases f with f| ⟨g,g1,q,cs,r,s,u,x⟩
  ·grind
  ·exact .inr ⟨g,g1,q,cs,r,s,u.move (λ_ _=>rfl) a,x⟩
 all_goals exact ⟨h.1,RepV.move mv _ _ (λ_ _=>aO) h.2⟩
theorem iD.mono {w:World} {ok ok':Nat->Prop} (a:∀b,ok b->ok' b):∀{l:List PV} {vs:List Value} {d:List Nat},iD w ok l vs d->iD w ok' l vs d
 | [],_,_,h=>h
 |_::_,_,_,⟨v,j,b1,C,I,J,R,U⟩=>⟨v,j,b1,C,I,J,R.mono a,iD.mono a U⟩
theorem gJ.mono {w:World} {ok ok':Nat->Prop} (d:∀b,ok b->ok' b) {p:PV} {v:Value} {e:List Nat} (h:gJ w ok p v e):gJ w ok' p v e:=by
 cases p
 case agg c=>obtain ⟨a,f,g⟩:=h;exact ⟨a,f,g.mono d⟩
 all_goals (simp only [gJ] at h ⊢;exact h.mono d)
theorem iF.mono {w:World} {ok ok':Nat->Prop} (a:∀b,ok b->ok' b):∀{l:List PV} {vs:List Value} {d:List Nat},iF w ok l vs d->iF w ok' l vs d
 | [],_,_,h=>h
 |_::_,_,_,⟨v,j,b1,C,I,J,R,U⟩=>⟨v,j,b1,C,I,J,R.mono a,iF.mono a U⟩
theorem RL.JC {w:World} {ok:Nat->Prop} {r:RL} {p:PV} {x:r.den} (h:r.dec p=some x) {v:Value} {f:List Nat} (j:gx w ok p v f):∃d a,(d++a).Perm f/\gx w (λb=>ok b\/b ∈ d) (r.enc x) v a:=by
 have same:p=r.enc x->∃d a,(d++a).Perm f/\gx w (λb=>ok b\/b ∈ d) (r.enc x) v a:=λq=>⟨[],f,.refl _,gx.mono (ok:=ok) (λb i=>Or.inl i) (q ▸ j)⟩
 cases r <;>cases p <;>simp only [RL.dec] at h <;>try (simp at h;done)
 case int.int=>grind[RL.enc]
 case bool.bool=>grind[RL.enc]
 case str.str=>grind[RL.enc]
 case flt.flt=>grind[RL.enc]
 case sl.sl=>
  grind[RL.enc]
 case fresh.fresh=>
  grind[RL.enc]
 case mp.mp=>
  grind[RL.enc]
 case sl.fresh e t D E l=>
  split at h
  ·split at h
   ·rename_i s u;subst s;subst u;simp only [aB] at h;subst h;obtain ⟨A,n,q1,k,m,o⟩:=j;rcases o with ⟨o,rfl⟩| ⟨g,rfl,y,cs,z,F,B,G⟩
    ·refine ⟨[],[],.refl _,rfl,?_⟩;simp only [RepV,RL.enc];exact ⟨A,n,q1,k,m,λC=>by omega⟩
    ·refine ⟨[g],[],by simp,rfl,?_⟩;simp only [RepV,RL.enc];refine ⟨A,n,q1,k,m,λC=>⟨g,0,y,.inr (by simp),?_⟩⟩;exact uN z (B.move (w1:=w) (ok1:=λb=>ok b\/b ∈ [g]) (λ_ _=>rfl) (λb i=> .inl i))
   grind
  grind
theorem UN {a b1 b d c1 e:List Nat} (f:(a++b1).Perm c1) (g:(b++d).Perm e):((a++b)++ (b1++d)).Perm (c1++e):=by
 grind
theorem RL.W6 {w:World} {ok:Nat->Prop}:∀{f:List RL} {g:List PV} {x:RL.yy f} {vs:List Value} {d:List Nat},RL.qo f g=some x->iD w ok g vs d->∃e a,(e++a).Perm d/\iD w (λb=>ok b\/b ∈ e) (RL.encs f x) vs a
 | [],[],_,vs,d,_,h=>⟨[],d,.refl _,iD.mono (λb k=> .inl k) h⟩
 | [],_::_,_,_,_,h,_=>by grind[RL.qo]
 | [r],[p],x,vs,d,h,⟨v,r',b1,b2,j,C,I,J⟩=>by
   obtain ⟨e,a,R,U⟩:=RL.JC (r:=r) h I;obtain ⟨l,m⟩:=J;subst l;subst m;subst C;rw [ji];exact ⟨e,a,R,v,[],a,[],j,by simp,U,rfl,rfl⟩
 | [r],[],_,_,_,h,_=>by grind[RL.qo]
 | [r],_::_::_,_,_,_,h,_=>by grind[RL.qo]
 |r::u::q,[],_,_,_,h,_=>by grind[RL.qo]
 |r::u::q,p::g,x,vs,d,h,⟨v,r',b1,b2,j,C,I,J⟩=>by
  simp only [RL.qo] at h;split at h
  ·rename_i y z n o;simp only [aB] at h;subst h;obtain ⟨s,c1,R,U⟩:=RL.JC n I;obtain ⟨t,i,A,B⟩:=RL.W6 o J;subst C;refine ⟨s++t,c1++i,UN R A,v,r',c1,i,j,rfl,U.mono ?_,B.mono ?_⟩
   all_goals grind
  grind
theorem aiZ {w:World} {ok:Nat->Prop} {p:PV} {v:Value} {a:List Nat} (h:gx w ok p v a):RepV (cA w λb=>ok b\/b ∈ a) p.Dq v:=by
 have mv:Mv (λ_=>True) (cA w ok) (cA w λb=>ok b\/b ∈ a):=⟨λ_ _=>rfl,λ_ h=> .inl h,λ_ _=>rfl,λ_ _=>rfl,λk e t l _ f=>⟨e,l,f,rfl⟩⟩;cases p
 case fresh e t l=>
  obtain ⟨A,n,q1,i,j,d⟩:=h;simp only [PV.Dq,RepV];refine ⟨A,n,q1,i,j,λs=> ?_⟩;rcases d with ⟨d,rfl⟩| ⟨g,rfl,m,cs,o,u,q,x⟩
  ·omega
  ·exact ⟨g,0,m,.inr (by simp),uN o (q.move (w1:=w) (ok1:=λb=>ok b\/b ∈ [g]) (λ_ _=>rfl) (λb r=> .inl r))⟩
 all_goals exact RepV.move mv _ _ (λ_ _=>aO) h.2
theorem Uv {w:World} {ok:Nat->Prop}:∀{l:List PV} {vs:List Value} {d:List Nat},iD w ok l vs d->au (cA w λb=>ok b\/b ∈ d) (l.map PV.Dq) vs
 | [],_,_,⟨h,_⟩=>by grind[au]
 |p::r,vs,d,⟨v,I,b1,j,J,R,U,h4⟩=>by
  subst R;have mv:∀C:List Nat,(∀b ∈ C,b ∈ b1++j)->Mv (λ_=>True) (cA w λb=>ok b\/b ∈ C) (cA w λb=>ok b\/b ∈ b1++j):=λC a=>⟨λ_ _=>rfl,λ_ h=>h.imp_right (a _),λ_ _=>rfl,λ_ _=>rfl,λk e t l _ f=>⟨e,l,f,rfl⟩⟩
  simp only [eX,au];exact ⟨v,I,J,RepV.move (mv b1 λ_ a=>lL j a) _ _ (λ_ _=>aO) (aiZ U),au.move (mv j λ_ a=>lK b1 a) _ _ (λ_ _=>aO) (Uv h4)⟩
theorem Iv:∀ (t:Ty) (x:t.den) (p:PV),p ∈ t.leaves x->∀e j l,p≠ .fresh e j l
 | .int _,_,p,h| .bool,_,p,h| .flt,_,p,h| .str,_,p,h| .slice _ _,_,p,h=>by grind[Ty.leaves]
 | .unit,_,p,h=>by grind[Ty.leaves]
 | .pair a b,x,p,h=>by
   simp only [Ty.leaves] at h;rcases cz.1 h with h|h
   ·exact Iv a _ p h
   ·exact Iv b _ p h
theorem UL {w:World} {ok:Nat->Prop}:∀{l:List PV} {vs:List Value},(∀p ∈ l,∀e t x,p≠ .fresh e t x)->au (cA w ok) l vs->iD w ok l vs []
 | [],_,_,h=>⟨by grind[au],rfl⟩
 |p::r,vs,j,h=>by
  simp only [au] at h;obtain ⟨v,C,I,J,R⟩:=h;refine ⟨v,C,[],[],I,rfl,?_,UL (λq a=>j q (by grind)) R⟩;cases p
  case fresh e t x=>grind
  all_goals exact ⟨rfl,J⟩
theorem RO.JB {w:World} {ok:Nat->Prop} {r:RO} {p:PV} {x:r.den} (h:r.dec p=some x) {v:Value} {f:List Nat} (i:gJ w ok p v f):∃e d,(e++d).Perm f/\gJ w (λb=>ok b\/b ∈ e) (r.enc x) v d:=by
 cases r with
 |leaf r=>
  have o:gx w ok p v f:=by
   cases p <;>first|exact i| grind[RO.dec,RL.dec]
  obtain ⟨e,d,j,g⟩:=RL.JC h o;refine ⟨e,d,j,?_⟩;have k:∀c,RL.enc r x≠ .agg c:=by intro c;cases r <;>simp [RL.enc]
  simp only [RO.enc];cases q:RL.enc r x <;>rw [q] at g k <;>first|exact g|grind
 |agg l=>
  cases p <;>simp only [RO.dec] at h <;>try (simp at h;done)
  obtain ⟨a,m,n⟩:=i;obtain ⟨e,d,j,g⟩:=RL.W6 h n;exact ⟨e,d,j,a,m,g⟩
 |agt t=>
  cases p <;>simp only [RO.dec] at h <;>try (simp at h;done)
  obtain ⟨a,m,n⟩:=i;exact ⟨f,[],by simp,a,m,UL (Iv t x) (Ty.fU h (Uv n)).leaves⟩
theorem RO.W5 {w:World} {ok:Nat->Prop}:∀{f:List RO} {g:List PV} {x:RO.yx f} {vs:List Value} {d:List Nat},RO.qn f g=some x->iF w ok g vs d->∃e a,(e++a).Perm d/\iF w (λb=>ok b\/b ∈ e) (RO.encs f x) vs a
 | [],[],_,vs,d,_,h=>⟨[],d,.refl _,iF.mono (λb k=> .inl k) h⟩
 | [],_::_,_,_,_,h,_=>by grind[RO.qn]
 | [r],[p],x,vs,d,h,⟨v,r',b1,b2,j,C,I,J⟩=>by
   obtain ⟨e,a,R,U⟩:=RO.JB (r:=r) h I;obtain ⟨l,m⟩:=J;subst l;subst m;subst C;rw [ji];exact ⟨e,a,R,v,[],a,[],j,by simp,U,rfl,rfl⟩
 | [r],[],_,_,_,h,_=>by grind[RO.qn]
 | [r],_::_::_,_,_,_,h,_=>by grind[RO.qn]
 |r::u::q,[],_,_,_,h,_=>by grind[RO.qn]
 |r::u::q,p::g,x,vs,d,h,⟨v,r',b1,b2,j,C,I,J⟩=>by
  simp only [RO.qn] at h;split at h
  ·rename_i y z n o;simp only [aB] at h;subst h;obtain ⟨s,c1,R,U⟩:=RO.JB n I;obtain ⟨t,i,A,B⟩:=RO.W5 o J;subst C;refine ⟨s++t,c1++i,UN R A,v,r',c1,i,j,rfl,U.mono ?_,B.mono ?_⟩
   all_goals grind
  grind
theorem RT.JA (r:RT) (p:PV) (x:r.den) (h:r.dec p=some x):WI p (r.enc x):=by
 intro w ok v j i
 cases r with
 |one r=>
  have k:gJ w ok p v j:=by
   cases p <;>first|exact i| grind[RT.dec,RO.dec,RL.dec]
  obtain ⟨e,b,f,d⟩:=RO.JB h k;refine ⟨e,b,f,?_⟩
  have g:∀c,RO.enc r x≠ .tup c:=by
   intro c
   cases r with
   |leaf r=>cases r <;>simp [RO.enc,RL.enc]
   |agg l=>simp [RO.enc]
   |agt t=>simp [RO.enc]
  simp only [RT.enc];cases m:RO.enc r x <;>rw [m] at d g <;>first|exact d|grind
 |tup l=>
  cases p <;>simp only [RT.dec] at h <;>try (simp at h;done)
  obtain ⟨a,n,o⟩:=i;obtain ⟨e,b,f,d⟩:=RO.W5 h o;exact ⟨e,b,f,a,n,d⟩
def Ctx.nil (P:Program):Ctx:={P:=P,call:=λ_ _ _ _=>none}
theorem Ctx.alZ (P:Program):(Ctx.nil P).Sound:=⟨⟨λ_ _ _ _ _ h=>by grind[Ctx.nil],λ_ _ _ _ _ _ h=>by grind[Ctx.nil],λ_ _ _ h=>by grind[Ctx.nil]⟩,λ_ _ _ _ _ _ _=>rfl⟩
def Ctx.yC (P:Program) (G:Nat->Option ((t:Ty)×List t.den)):Ctx:={P:=P,call:=λ_ _ _ _=>none,glob:=G}
theorem Ctx.al0 (P:Program) (G:Nat->Option ((t:Ty)×List t.den)):(Ctx.yC P G).Sound:=⟨⟨λ_ _ _ _ _ h=>by grind[Ctx.yC],λ_ _ _ _ _ _ h=>by grind[Ctx.yC],λ_ _ _ h=>by grind[Ctx.yC]⟩,λ_ _ _ _ _ _ _=>rfl⟩
def Ctx.add (C:Ctx) (f:FuncId) (ts:List ATy) (r:RT) (F:lF ts->Option r.den):Ctx:=
 {C with call:=λa args _ K=>bif Nat.beq a f then (match oM ts args with|some b=>(F b).bind λx=>K (r.enc x) [] |none=>C.call a args K) else C.call a args K,marks:= []}
theorem iH.weaken {P:Program} {G:World->(Nat->Prop)->Prop} {f:FuncId} {ts:List ATy} {args:List PV} {b:lF ts} {a:PV} (hd:oM ts args=some b) (h:iH P G f (encs ts b) a):iH P G f args a:=
 λw ok vs e d g=>h w ok vs e d (Wb hd g)
theorem Ctx.Sound.of {C:Ctx} (d:C.Sound) {f:FuncId} {ts:List ATy} {r:RT} {F:lF ts->Option r.den} (h:∀b q,F b=some q->iH C.P C.GlobW f (encs ts b) (r.enc q)):(C.add f ts r F).Sound:=by
 refine ⟨⟨?_,λg as e R K x a=>d.1.2.1 g as e R K x a,λf args v l m=>d.1.2.2 f args v l m⟩,λg as e R K K' h=>d.2 g as e R K K' h⟩;intro j args R K x a;simp only [Ctx.add] at a
 cases i:Nat.beq j f with
 |false=>rw [i] at a;exact d.1.1 j args R K x a
 |true=>
  rw [i] at a;have:=dD.1 i;subst this;simp only [ah] at a;split at a
  ·rename_i b hd
   cases k:F b with
   |none=>grind
   |some q=>
    rw [k] at a;simp only [ai] at a;exact ⟨r.enc q,iH.weaken hd (h b q k),a⟩
  ·exact d.1.1 _ args R K x a
theorem Ctx.Sound.add {C:Ctx} (d:C.P.follows .mixedOrders=true) (a:C.Sound) {H:Nat->Head} {f:FuncId} {fn:Func} (e:C.P.funcs[f]?=some fn) {ts:List ATy} {r:RT} {F:lF ts->Option r.den}
 (h:∀b,iC C H fn (encs ts b) r.dec=F b):(C.add f ts r F).Sound:=
 a.of λb q g=>IZ r.JA d a e (Di ts b) (by rw [h,g])
theorem Uo (v:PV) (a:List (Nat×Nat×Ob)):∀ (l:List (Nat×Nat×Ob)) (b:St),Obj b (pW v a l b)
 | [],b=>Obj.refl _
 | (k,_,_)::r,b=>by
   simp only [pW];refine Obj.trans ?_ (Uo v a r _)
   grind[Obj.refl,Obj.del]
theorem Cj (v:PV) (d:List (Nat×Nat×Ob)) {m:MM} {w0:World} {a:Act}:∀ (l:List (Nat×Nat×Ob)) (b:St) (c:Cx),Rep m w0 b a c->∃j:Cx,j.w=c.w/\Rep m w0 (pW v d l b) a j/\∀p u,RepV c p u->RepV j p u
 | [],b,c,h=>⟨c,rfl,h,λ_ _ x=>x⟩
 | (k,_,_)::r,b,c,h=>by
   simp only [pW]
   cases C:U6 d k || v.refs k || b.s.refs k || jz b.o k || (b.obj k).isNone with
   |true=>exact Cj v d r b c h
   |false=>
    simp only [DS] at C
    cases I:b.obj k with
    |none=>grind
    |some o=>
     have hd:=h.del I;obtain ⟨j,n,q,y⟩:=Cj v d r (b.del k) _ hd;refine ⟨j,n,q,λp u z=>y p u (RepV.move (S:=λ_=>True) (c:=c) ?_ p u (λ_ _=>aO) z)⟩;refine ⟨λ_ _=>rfl,λ_ C=>C,λ_ _=>rfl,λ_ _=>rfl,λi e t l _ f=> ?_⟩
     have A:(b.del k).obj i=if i=k then some .gone else b.obj i:=by
      grind[St.del,gR]
     simp only [A] at f;by_cases g:i=k
     ·grind
     ·rw [ak g] at f;exact ⟨e,l,by rw [h.ob];exact f,rfl⟩
theorem akx {C:Ctx} (d:C.nC) {H:Nat->Head} {a:Code} {b:St} {R:Type} {K:Ex->St->Option R} {r:R} (f:cF C H a b K=some r):
 cF C H a b (λe j=>open Classical in if Agree (cS a) b j then K e j else none)=some r:=by
 grind[jE]
theorem akw {C:Ctx} (g:C.nC) {H:Nat->Head} {k:Nat} {fn:Func} {args:List PV} {b:St} {R:Type} {K K':PV->St->Option R} (h:∀v st1,Obj b st1->K v st1=K' v st1):uZ C H k fn args b K=uZ C H k fn args b K':=by
 unfold uZ;congr 1;split
 ·rename_i d st1 j i;split
  ·rename_i v0 x l;refine jE {C with marks:=(H 4000000).stay} g H d st1 _ _ λe a f=> ?_
   have m:∀v,Obj b (pW v b.o (a.del k).o ⟨b.s,(a.del k).o⟩):=λv=>Obj.trans (st1:=⟨b.s,(a.del k).o⟩) ⟨rfl,((Obj.new i).ob.trans f.ob).trans (Obj.del a k).ob⟩ (Uo v _ _ _)
   grind
  ·rfl
 ·rfl
theorem akv {C:Ctx} (hm:C.P.follows .mixedOrders=true) (hS:C.Sound) {H:Nat->Head} {k:Nat} {f:FuncId} {fn:Func} (hf:C.P.funcs[f]?=some fn) {args:List PV} {st:St} {R:Type} {K:PV->St->Option R} {r:R}
 (hr:uZ C H k fn args st K=some r) {m:MM} {w0:World} {a:Act} {c:Cx} {vs:Array Value} (hG:C.GlobM m w0) (h:Rep m w0 st a c) (hargs:au c args vs.toList):
 Calls C.P f vs c.w λe w'=>∃u v st' c',e= .returned u/\c'.w=w'/\K v st'=some r/\Rep m w0 st' a c'/\RepV c' v u:=by
 unfold uZ at hr
 cases hgd:args.any PV.isGd with
 |true=>grind
 |false=>
 rw [hgd] at hr;simp only [aa] at hr;split at hr
 ·rename_i code st1 hb hn;split at hr
  ·rename_i v0 x hv0;obtain ⟨g1,g2,g3,g4,g5,g6⟩:=jA hn
   let m1:MM:={m with pin:=λi=>if i=k then a.tmps.toList else m.pin i}
   let c0:Cx:={c with pin:=m1.pin}
   have mv0:Mv (λ_=>True) c c0:=⟨λ_ _=>rfl,λ_ h=>h,λ_ _=>rfl,λ_ _=>rfl,λi e t l _ hl=>⟨e,l,hl,rfl⟩⟩;have hlen:=hargs.length;have hsz:vs.size=args.length:=by omega
   have hgd':∀p ∈ args,p.isGd=false:=by
    grind
   have R0:Rep m1 w0 ⟨Sl.oP (args.length+ (fn.ntmps - args.length)) args,st.o⟩ {tmps:=vs++Array.replicate (fn.ntmps - vs.size) undef,defers:= []} c0:=by
    refine ⟨by grind[Sized.Jz],λd=> ?_,rfl,λi=>h.ob i,λi o ho=> ?_,λi j hi hj he=>h.apart i j hi hj he,λi hi=>h.mine i hi,h.ok,h.kept,h.old,h.new,rfl⟩
    ·have hg:St.get ⟨Sl.oP (args.length+ (fn.ntmps - args.length)) args,st.o⟩ d=(args[d]?).getD .undef:=by
      exact VH args (by omega) d
     rw [hg]
     cases hd:args[d]? with
     |none=>simp [bI,RepV]
     |some p=>
      obtain ⟨v,hv1,hv2⟩:=hargs.get d hd;simp only [yG]
      have:(vs++Array.replicate (fn.ntmps - vs.size) undef).getD d undef=v:=by
       rw [oV,Kc]
       grind
      rw [this];exact bI.of (RepV.move mv0 _ _ (λ_ _=>aO) hv2) (np (hgd' p (kG hd)))
    ·by_cases hi:i=k
     ·subst hi;have ho':st.obj i=some o:=by rw [<-h.ob];exact ho
      have g4':st.obj i=none\/st.obj i=some .gone:=g4;rcases g4' with g4'|g4' <;>rw [g4'] at ho' <;>simp at ho'
      subst ho';trivial
     ·refine (h.objs i o ho).move mv0 (λ_ _=>aO) aO (λ_=>rfl) ?_;show (if i=k then a.tmps.toList else m.pin i)=c.pin i;rw [ak hi,h.pin]
   have R1:=R0.newObj hn (w1:=c0.w) 0 undef R0.kept (aR _) (λ_ _=>rfl) (by
    refine ⟨?_,λd=> ?_⟩
    ·show Sized (if k=k then a.tmps.toList else m.pin k).length _;rw [aw rfl,sN];exact h.size
    ·show bI _ {tmps:=(if k=k then a.tmps.toList else m.pin k).toArray,defers:= []} _ ((if k=k then a.tmps.toList else m.pin k).getD d undef);rw [aw rfl];have hs:=h.slots d;have e1:a.tmps.toList.getD d undef=a.tmps.getD d undef:=by simp_all
     rw [e1]
     have hs2:bI c {tmps:=a.tmps.toList.toArray,defers:= []} (st.get d) (a.tmps.getD d undef):=by
      revert hs;cases st.get d <;>simp only [bI] <;>exact λx=>x
     refine bI.move (S:=λi=>i≠k) ?_ (λi hi=> ?_) hs2
     ·refine ⟨λ_ _=>rfl,λ_ hb=>hb,λi hi=>by grind,λi hi=>by grind,λi e t l hi hl=>⟨e,l,?_,rfl⟩⟩;rw [h.ob];have:st1.obj i=st.obj i:=by rw [g5,ak hi];rfl
      grind
     grind[Da,Ob.refs]) (λhw=>by grind[gm])
   replace hr:=akx (C:={C with marks:=(H 4000000).stay}) hS.2 hr
   refine calls_of_wp hf hb ?_;have W:=λQ=>lD (C:={C with marks:=(H 4000000).stay}) hm hS H code _ _ r m1 w0 _ _ Q hG R1 hr
   refine W _ ?_ ?_
   ·rintro ch a w' ⟨_,_,_,_,_,he,_⟩
    grind
   ·intro e st' a' c' hk h';split at hk
    ·rename_i hagr;cases e
     case exit i=>grind
     all_goals
      refine ⟨h'.defers,?_⟩;obtain ⟨v',x',hf',hle,heq⟩:=hagr.ob k v0 x hv0;rw [hf'] at hk;simp only at hk;obtain ⟨hvv0,hk1⟩:=b6 hk;clear hk;have hk:=hk1;clear hk1;have hvv:=dD.1 hvv0;clear hvv0;subst hvv;have hx:=heq rfl
      have hx0:x= .held st.s:=by
       grind[St.obj]
      rw [hx,hx0] at hf';have hobj:st'.obj k=some (.held st.s):=by grind[St.obj]
      have hheld:mz c' k (.held st.s):=h'.objs k _ (by rw [h'.ob];omega);have hd:=h'.del hobj
      have hdo:∀i,(st'.del k).obj i=if i=k then some .gone else st'.obj i:=by
       grind[St.del,gR]
      let c2:Cx:={c' with pin:=m.pin,ob:=(st'.del k).obj}
      have mv2:Mv (λ_=>True) c' c2:=⟨λ_ _=>rfl,λ_ h=>h,λ_ _=>rfl,λ_ _=>rfl,λi e t l _ hl=>by
       simp only [c2,hdo] at hl;rw [h'.ob]
       grind⟩
      have mv3:Mv (λ_=>True) {c' with ob:=(st'.del k).obj} c2:=⟨λ_ _=>rfl,λ_ h=>h,λ_ _=>rfl,λ_ _=>rfl,λi e t l _ hl=>⟨e,l,hl,rfl⟩⟩;have hpin:c'.pin=m1.pin:=h'.pin
      have R2:Rep m w0 ⟨st.s,(st'.del k).o⟩ a c2:=by
       refine ⟨h.size,λd=> ?_,h.defers,λi=>rfl,λi o ho=> ?_,λi j hi hj he=>hd.apart i j hi hj he,λi hi=>hd.mine i hi,hd.ok,hd.kept,hd.old,hd.new,rfl⟩
       ·have hs:=hheld.2 d;rw [hpin] at hs;simp only [m1,aI] at hs;have e1:a.tmps.toList.getD d undef=a.tmps.getD d undef:=by simp_all
        rw [e1] at hs
        have hs2:bI c' a (st.s.go d) (a.tmps.getD d undef):=by
         revert hs;cases st.s.go d <;>simp only [bI] <;>exact λx=>x
        exact bI.move mv2 (λ_ _=>aO) hs2
       ·by_cases hi:i=k
        ·have ho':(st'.del k).obj i=some o:=ho;rw [hdo,aw hi] at ho';simp only [aB] at ho';subst ho';trivial
        ·refine (hd.objs i o ho).move mv3 (λ_ _=>aO) aO (λ_=>rfl) ?_
         grind
      split at hk
      ·rename_i q hq;obtain ⟨us,hrun,hus⟩:=Cs h' hq;have hres:=HR hrun;simp only [au] at hus;obtain ⟨u,r',rfl,hu,rfl⟩:=hus;obtain ⟨c3,e3,R3,v3⟩:=Cj q st.o (st'.del k).o _ _ R2;exact ⟨u,hres,u,q,_,c3,rfl,e3,hk,R3,v3 _ _ (RepV.move mv2 _ _ (λ_ _=>aO) hu)⟩
      ·rename_i qs hne hq;obtain ⟨us,hrun,hus⟩:=Cs h' hq;have hres:=HR hrun;have hl:=hus.length
       have hres':(results fn a'.tmps).run C.P c'.w= .ok (.tuple us.toArray) c'.w:=by
        rw [hres];congr 1;split
        all_goals grind[List.length_eq_one_iff]
       obtain ⟨c3,e3,R3,v3⟩:=Cj (.tup qs) st.o (st'.del k).o _ _ R2;refine ⟨_,hres',_,.tup qs,_,c3,rfl,e3,hk,R3,v3 _ _ ?_⟩
       grind[RepV,au.move]
      grind
    grind
  grind
 grind
noncomputable def Ctx.addI (C:Ctx) (f:FuncId) (H:Nat->Head) (k:Nat) (fn:Func):Ctx:=
 {C with inlined:=λg=>bif Nat.beq g f then true else C.inlined g,inl:=λg as a _ K=>bif Nat.beq g f then uZ C H k fn as a K else C.inl g as a K,marks:= []}
theorem Ctx.Sound.addI {C:Ctx} (n:C.P.follows .mixedOrders=true) (d:C.Sound) {H:Nat->Head} {k:Nat} {f:FuncId} {fn:Func} (o:C.P.funcs[f]?=some fn):(C.addI f H k fn).Sound:=by
 refine ⟨⟨λp args R K x b=>d.1.1 p args R K x b,λg as e R K x b m w0 a c vs j h l=> ?_,d.1.2.2⟩,λg as e R K K' h=> ?_⟩
 ·simp only [Ctx.addI] at b
  cases i:Nat.beq g f with
  |false=>rw [i] at b;exact d.1.2.1 g as e R K x b m w0 a c vs j h l
  |true=>
   rw [i] at b;have:=dD.1 i;subst this;exact akv n d o b j h l
 ·simp only [Ctx.addI]
  cases Nat.beq g f with
  |false=>exact d.2 g as e R K K' h
  |true=>exact akw d.2 h
def Ctx.Globs (C:Ctx) (w:World):Prop:=∀g t l,C.glob g=some ⟨t,l⟩->sC w g t l
theorem iH.law {C:Ctx} {P:Program} {f:FuncId} {args:List PV} (h:iH P C.GlobW f args (.bool true)) {w:World} (i:C.Globs w) {ok:Nat->Prop} {vs:Array Value} (d:∀b,ok b->b<w.heap.size) (j:au (cA w ok) args vs.toList):
 Calls P f vs w λe w'=>e= .returned (.bool true)/\Below w.heap.size w w':=by
 refine (h w (λb=>b<w.heap.size) vs (λg t l a=>⟨(i g t l a).1,i g t l a⟩) (λ_ m=>m) (au.move (c:=cA w ok) (c1:=cA w λb=>b<w.heap.size) (S:=λ_=>True) ⟨λ_ _=>rfl,d,λ_ _=>rfl,λ_ _=>rfl,λk e t l _ n=>⟨e,l,n,rfl⟩⟩ _ _ (λ_ _=>aO) j)).mono ?_;rintro e w' ⟨v,ok',p,rfl,o,_,_,q,_⟩
 have:v= .bool true:=by
  grind[hZ,gJ,gx,RepV]
 rw [this];exact ⟨rfl,o.below⟩
theorem Vj {C:Ctx} (d:C.P.follows .mixedOrders=true) (g:C.Sound) {H:Nat->Head} {f:FuncId} {fn:Func} (i:C.P.funcs[f]?=some fn) {ts:List ATy} {F:lF ts->Option Bool}
 (h:∀b,iC C H fn (encs ts b) (RT.dec (.one (.leaf .bool)))=F b) {b:lF ts} (j:F b=some true) {w:World} (k:C.Globs w) {ok:Nat->Prop} {vs:Array Value} (a:∀b,ok b->b<w.heap.size) (l:au (cA w ok) (encs ts b) vs.toList):
 Calls C.P f vs w λe w'=>e= .returned (.bool true)/\Below w.heap.size w w':=
 iH.law (IZ (RT.JA (.one (.leaf .bool))) d g i (Di ts b) (by rw [h];exact j)) k a l
theorem bC {R:Type} (a:Option R):aj a a=a:=by grind[aj]
end Go.Fw
namespace Go.Fw
theorem Jd {w:World} (h:w.cell? x=some v):x.spot=none/\x.block<w.heap.size:=by
 unfold World.cell? at h;split at h
 ·rename_i c e m a;refine ⟨?_,(gM.1 a).1⟩
  simp_all
 grind
end Go.Fw
namespace Go.Fw
open Go.RowKit (Below)
open Go.ChangeShapes Go.WideShapes
def Good:(t:Ty)->t.den->Prop
 | .int k,n=>(Lit.int k n).wf=true
 | .bool,_=>True
 | .flt,x=>∃b,aX b=x
 | .str,s=>(∀n ∈ s,0<=n/\n<256)/\s.length<=9223372036854775807
 | .unit,_=>True
 | .pair a b,x=>Good a x.1/\Good b x.2
 | .slice _ t,l=>l.length<=9223372036854775807/\∀x ∈ (l:List t.den),Good t x
theorem aJ.good :∀{t} {x} {cs},aJ w ok t x cs->Good t x
 | .int _,_,_,h=>h.2
 | .bool,_,_,h=>aO
 | .flt,_,_,⟨b,_,h⟩=>⟨b,h⟩
 | .str,_,_,⟨b,_,h,I⟩=>by
   subst h;refine ⟨λn C=> ?_,by simpa [bytesOf] using I⟩;simp only [bytesOf,iK] at C;obtain ⟨c,_,rfl⟩:=C;have:=c.toNat_lt;omega
 | .unit,_,_,h=>aO
 | .pair _ _,_,_,⟨_,_,_,a,d⟩=>⟨a.good,d.good⟩
 | .slice _ t,l,_,⟨A,n,h,m,C,e⟩=>by
   refine ⟨by omega,λx f=> ?_⟩;obtain ⟨j,g⟩:=JM f;have i:0<l.length:=by grind
   obtain ⟨b,off,_,_,k⟩:=e i;obtain ⟨c,hd,_⟩:=k j x g;exact hd.good
def LD (w:World) (ok:Nat->Prop):List Lf->List Value->Prop
 | [],cs=>cs= []
 | .data t::r,cs=>∃c j,cs=c::j/\(∃d,aJ w ok t d [c])/\LD w ok r j
 |_::_,_=>True
def je:List Lf->Bool
 | []=>true
 | .data _::r=>je r
 |_::_=>false
theorem Wd:∀{a b},je (a++b)=true->je a=true/\je b=true
 | [],b,h=>⟨rfl,h⟩
 | .data t::a,b,h=>Wd (a:=a) h
 | .ptr::a,b,h=>by grind[je]
 | .fn::a,b,h=>by grind[je]
 | .err::a,b,h=>by grind[je]
theorem LD.append :∀{a b} {c1 d},je a=true->LD w ok a c1->LD w ok b d->LD w ok (a++b) (c1++d)
 | [],b,c1,d,_,j,C=>by
   have:c1= []:=j
   grind
 | .data t::a,b,c1,d,hd,⟨c,e,f,g,j⟩,C=>by subst f;exact ⟨c,e++d,rfl,g,LD.append (a:=a) hd j C⟩
 | .ptr::a,_,_,_,hd,_,_=>by grind[je]
 | .fn::a,_,_,_,hd,_,_=>by grind[je]
 | .err::a,_,_,_,hd,_,_=>by grind[je]
theorem HC:∀{ls} {b},jb ls=some b->je ls=true
 | [],_,_=>rfl
 | [.data t],_,_=>rfl
 | .data t::a::r,b,h=>by
   simp only [jb,Dw] at h;obtain ⟨x,j,_⟩:=h;exact HC (ls:=a::r) j
 | .ptr::_,_,h=>by grind[jb]
 | .fn::_,_,h=>by grind[jb]
 | .err::_,_,h=>by grind[jb]
theorem LD.dat :∀{ls} {b} {cs},jb ls=some b->LD w ok ls cs->∃d,aJ w ok b d cs
 | [],b,cs,h,C=>by
   simp only [jb,aB] at h;subst h;exact ⟨(),C⟩
 | [.data t],b,cs,h,C=>by
   simp only [jb,aB] at h;subst h;obtain ⟨c,j,rfl,⟨d,hd⟩,I⟩:=C;have:j= []:=I
   grind
 | .data t::a::r,b,cs,h,C=>by
   simp only [jb,Dw] at h;obtain ⟨x,e,rfl⟩:=h;obtain ⟨c,j,rfl,⟨d,hd⟩,I⟩:=C;obtain ⟨y,f⟩:=LD.dat (ls:=a::r) e I;exact ⟨(d,y),[c],j,rfl,hd,f⟩
 | .ptr::_,_,_,h,_=>by grind[jb]
 | .fn::_,_,_,h,_=>by grind[jb]
 | .err::_,_,_,h,_=>by grind[jb]
def yg (P:Program) (f:TypeId->Bool):Nat->List Field->Nat->Bool
 |off,[],n=>Nat.beq off n
 |off,x::r,n=>Nat.beq x.offset off && f x.type && yg P f (off+P.cellsOf x.type) r n
def qf (P:Program)
 |0,_=>false
 |n+1,t=>match P.underlying t with
  |some (.struct j)=>yg P (qf P n) 0 j.toList (P.cellsOf t)
  |some (.slice e)=>qf P n e && Nat.blt 0 (P.cellsOf e)
  |some .bool|some (.int _)|some (.float .f64)|some .string=>true
  |_=>false
theorem Wg {α:Type} {Q:Nat->α->Prop}:∀n,(∀i,i<n->∃x,Q i x)->∃l:List α,l.length=n/\∀j x,l[j]?=some x->Q j x
 |0,_=>⟨[],rfl,λj x h=>by grind⟩
 |n+1,h=>by
  obtain ⟨l,C,I⟩:=Wg n (λi a=>h i (by omega));obtain ⟨x,b⟩:=h n (by omega);refine ⟨l++ [x],by grind,λj y c=> ?_⟩
  grind
section
variable {H:Type} {enc:TypeId×Value->H} {P:Program} {w:World} {spare:Nat->Bool} {held:Bool}
theorem VY {leaf:TypeId->Option (List Lf)} {cs:List Value} (hlen:cs.length=tot)
 (e:∀t ls,leaf t=some ls->je ls=true->g t=true->∀cs x,DataW.trod enc P w 0 spare held n t cs=some x->LD w (λb=>b<w.heap.size) ls cs):
 ∀ (d) (off:Nat) (ls:List Lf),d.foldr (λf r=>match leaf f.type,r with|some a,some b=>some (a++b)|_,_=>none) (some [])=some ls->je ls=true->
  yg P g off d tot=true->(∀f ∈ d,∃x,DataW.trod enc P w 0 spare held n f.type ((cs.drop f.offset).take (P.cellsOf f.type))=some x)->LD w (λb=>b<w.heap.size) ls (cs.drop off)
 | [],off,ls,j,_,C,_=>by
   simp only [List.foldr_nil,aB] at j;subst j;simp only [yg,dD] at C;show _=_
   grind
 |f::r,off,ls,j,hd,C,R=>by
  simp only [List.foldr_cons] at j;split at j
  ·rename_i a b U hb;simp only [aB] at j;subst j;obtain ⟨I,J⟩:=Wd hd;simp only [yg,bb,dD] at C;obtain ⟨⟨h,i⟩,k⟩:=C;obtain ⟨x,c⟩:=R f (by simp);rw [h] at c;have l:=e f.type a U I i _ _ c;have m:=VY hlen e r (off+P.cellsOf f.type) b hb J k (λg o=>R g (by grind))
   grind[List.drop_drop,List.take_append_drop,LD.append]
  grind
theorem aiE (a:P.underlying t=some (.float k)) (h:DataW.trod enc P w 0 spare held n t cs=some x):∃b,cs= [.float k b]:=by
 cases n with
 |zero=>simp [DataW.trod] at h
 |succ n=>
  unfold DataW.trod at h
  grind
theorem HD:∀ (k m) (t) (ls),qa P k t=some ls->je ls=true->qf P m t=true->∀ (n) (cs) (x),DataW.trod enc P w 0 spare held n t cs=some x->LD w (λb=>b<w.heap.size) ls cs
 |0,_,t,ls,h,_,_=>by grind[qa]
 |_+1,0,t,ls,_,_,h=>by grind[qf]
 |k+1,m+1,t,ls,h,hd,p=>by
  intro n cs x C;unfold qa at h;unfold qf at p
  cases I:P.underlying t with
  |none=>grind
  |some d=>
   rw [I] at h p;cases d <;>(try simp only at h p) <;>try (simp at h p;done)
   case bool=>
    simp only [aB] at h;subst h;obtain ⟨b,rfl,_⟩:=DataW.trod_bool I C;exact ⟨_,[],rfl,⟨b,rfl⟩,rfl⟩
   case float M=>
    cases M
    ·grind
    simp only [aB] at h;subst h;obtain ⟨z,rfl⟩:=aiE I C;exact ⟨_,[],rfl,⟨aX z,z,rfl,rfl⟩,rfl⟩
   case int M=>
    simp only [aB] at h;subst h;obtain ⟨z,rfl,_,N⟩:=DataW.trod_int I C;exact ⟨_,[],rfl,⟨z,rfl,N⟩,rfl⟩
   case string=>
    simp only [aB] at h;subst h;obtain ⟨b,rfl,_,N⟩:=DataW.trod_string I C;exact ⟨_,[],rfl,⟨bytesOf b,b,rfl,rfl,by grind[maxLen]⟩,rfl⟩
   case slice e=>
    split at h
    ·rename_i r o;simp only [aB] at h;subst h;simp only [JI] at o;obtain ⟨le,E,s⟩:=o;simp only [bb] at p;obtain ⟨F,Y⟩:=p;have O:0<P.cellsOf e:=by simp_all
     rcases DataW.trod_slice I C with ⟨rfl,_⟩| ⟨a,len,cap,elems,rest,D,_,rfl,_,_,Z,hm,hlen,v,_⟩
     ·refine ⟨_,[],rfl,⟨([]:List r.den),?_⟩,rfl⟩;exact ⟨none,0,rfl,aR _,by omega,λR=>by grind⟩
     ·have A:∀i,i<len->∃x,∃c,aJ w (λb=>b<w.heap.size) r x c/\c.length=P.cellsOf e/\(∀ (q) (u),c[q]?=some u->w.cell? ((a.add (i*P.cellsOf e)).add q)=some u):=by
       intro i hi;have B:=v i hi
       cases G:elems[i]? with
       |none=>grind
       |some y=>
        rw [G] at B;simp only [JI] at B;obtain ⟨c,hc,o⟩:=B;have hL:=HD k m e le E (HC s) F D c y o;obtain ⟨d,hdd⟩:=LD.dat s hL;obtain ⟨_,c2,c3⟩:=World.cells?_some hc
        grind
      obtain ⟨l,J,S⟩:=Wg (α:=r.den) (Q:=λi x=>∃c,aJ w (λb=>b<w.heap.size) r x c/\c.length=P.cellsOf e/\(∀ (q) (u:Value),c[q]?=some u->w.cell? ((a.add (i*P.cellsOf e)).add q)=some u)) len A;subst J;refine ⟨_,[],rfl,⟨l,?_⟩,rfl⟩;refine ⟨some a,cap,rfl,Z,by grind[maxLen],λR=> ?_⟩;obtain ⟨T,d0,d1,d2⟩:=S 0 l[0] (cK R);have K:0<T.length:=by omega
      have U:=d2 0 T[0] (cK K);have ea:(a.add (0*P.cellsOf e)).add 0=a:=by simp [Addr.add]
      rw [ea] at U;obtain ⟨V,W⟩:=Jd U;obtain ⟨b,off,X⟩:=a;simp only at V W;subst V;refine ⟨b,off,rfl,W,λj y G=> ?_⟩;obtain ⟨c,e0,e1,e2⟩:=S j y G;have L:c.length=r.size:=e0.len
      grind[my]
    grind
   case struct fs=>
    obtain ⟨xs,D,_,_,hlen,L,v⟩:=DataW.trod_struct I C
    have:=VY (enc:=enc) (P:=P) (w:=w) (spare:=spare) (held:=held) (n:=D) (g:=qf P m) (leaf:=qa P k) (cs:=cs) (tot:=P.cellsOf t) hlen
     (λt ls B h2 h3 cs x C=>HD k m t ls B h2 h3 D cs x C) fs.toList 0 ls h hd p (λf p=>by
      grind[List.getElem?_of_mem])
    grind
def Jj (P:Program) (t:TypeId):Option ATy:=match nf P t with
 |some a=>bif qf P 17 t then (match P.underlying t with
  |some (.struct _)=>some (.agg a)
  |some (.slice _)|some (.int _)|some .bool|some .string=>some (.one a)
  |_=>none) else none
 |none=>none
def vk (P:Program):List TypeId->Option (List ATy)
 | []=>some []
 |t::r=>match Jj P t,vk P r with|some a,some b=>some (a::b)|_,_=>none
def ATy.Good:(t:ATy)->t.den->Prop
 | .one t,x=>Fw.Good t x
 | .agg t,x=>Fw.Good t x
 | .nil ..,_=>True
 | .fn _,_=>True
def Ds:(ts:List ATy)->lF ts->Prop
 | [],_=>True
 | [t],x=>t.Good x
 |t::u::r,x=>t.Good x.1/\Ds (u::r) x.2
theorem aju {base} (f:Jj P t=some a) (j:Value.okWide P w r base t v) (hd:DataW.Trod enc P w 0 spare held t v d C):
 ∃x,a.Good x/\RepV (cA w λb=>b<w.heap.size) (a.enc x) v:=by
 unfold Jj at f;split at f
 ·rename_i o g
  cases i:qf P 17 t with
  |false=>grind
  |true=>
   rw [i] at f;simp only [ah] at f;unfold nf Fw.leaves at g;simp only [JI] at g;obtain ⟨ls,m,g⟩:=g;obtain ⟨n,q⟩:=hd;have s:=HD 16 17 t ls m (HC g) i n _ _ q;obtain ⟨x,l⟩:=LD.dat g s
   have one:∀cs,v.cells.toList=cs->cs= [v]->∃x,Fw.Good o x/\RepV (cA w λb=>b<w.heap.size) (ATy.enc (.one o) x) v:=by
    intro cs u y;rw [u,y] at l;refine ⟨x,l.good,?_⟩;have p:=aJ.leaves (c:=cA w λb=>b<w.heap.size) l
    grind[ATy.enc,au,RepV.vq]
   split at f
   ·rename_i A h;simp only [aB] at f;subst f;simp only [Value.okWide,h] at j;obtain ⟨cs,rfl,_⟩:=j;refine ⟨x,l.good,?_⟩;have p:=aJ.leaves (c:=cA w λb=>b<w.heap.size) l;simp only [ATy.enc,RepV];exact ⟨cs,rfl,p⟩
   ·rename_i e h;simp only [aB] at f;subst f;obtain ⟨B,len,cap,rfl⟩:=okWide_slice h j;exact one _ rfl rfl
   ·rename_i k h;simp only [aB] at f;subst f;obtain ⟨z,rfl⟩:=okWide_int h j;exact one _ rfl rfl
   ·rename_i h;simp only [aB] at f;subst f;obtain ⟨z,rfl⟩:=okWide_bool h j;exact one _ rfl rfl
   ·rename_i h;simp only [aB] at f;subst f;obtain ⟨z,rfl⟩:=okWide_string h j;exact one _ rfl rfl
   grind
 grind
theorem Ii {base}:∀{ts} {as} {vs} {c} {d},vk P ts=some as->
 (∀ (j:Nat) t v,ts[j]?=some t->vs[j]?=some v->Value.okWide P w r base t v)->DataW.TrodAll enc P w 0 spare held ts vs c d->
 ∃b,Ds as b/\au (cA w λb=>b<w.heap.size) (encs as b) vs
 | [],as,vs,c,d,C,_,h=>by
   simp only [vk,aB] at C;subst C;obtain ⟨rfl,rfl,rfl⟩:=trodAll_nil h;exact ⟨(),aO,rfl⟩
 |t::ts,as,vs,c,d,C,e,h=>by
  simp only [vk] at C;split at C
  ·rename_i a b g i;simp only [aB] at C;subst C;obtain ⟨v0,k,p,l,q,s,rfl,rfl,rfl,m,n⟩:=trodAll_cons h;obtain ⟨x,f,z⟩:=aju g (e 0 t v0 rfl rfl) m;obtain ⟨y,o,A⟩:=Ii (ts:=ts) i (λj t v B D=>e (j+1) t v (by grind) (by grind)) n
   cases b with
   |nil=>
    refine ⟨x,f,?_⟩
    grind[encs,au]
   |cons u E=>
    refine ⟨(x,y),⟨f,o⟩,?_⟩
    grind[encs,au]
  grind
theorem Jn:∀{ts} {vs} {a} {b},DataW.TrodAll enc P w 0 spare held ts vs a b->a.length=ts.length
 | [],vs,a,b,h=>by
   obtain ⟨rfl,rfl,rfl⟩:=trodAll_nil h;rfl
 |t::ts,vs,a,b,h=>by
  obtain ⟨v0,c,f,d,g,i,rfl,rfl,rfl,j,e⟩:=trodAll_cons h;simp [Jn e]
theorem Ji (e:laidOutB P=true) (f:Below W.heap.size W j):∀{ts} {vs} {a} {c},
 (ts.all λt=>P.readableRec t && decide (t<P.types.size))=true->DataW.TrodAll enc P W 0 (λ_=>true) true ts vs a c->DataW.TrodAll enc P j 0 (λb=>decide (b<W.heap.size)) true ts vs a c
 | [],vs,a,c,_,h=>by
   obtain ⟨rfl,rfl,rfl⟩:=trodAll_nil h;exact trodAll_mk0
 |t::ts,vs,a,c,d,h=>by
  simp only [JY,bb,db] at d;obtain ⟨v0,i,o,k,p,q,rfl,rfl,rfl,g,l⟩:=trodAll_cons h;refine trodAll_cons_mk (Below.trod e d.1.1 d.1.2 g f ?_) (Ji e f d.2 l);obtain ⟨m,n⟩:=g;exact DataW.trod_lt m _ _ _ n
end
end Go.Fw
