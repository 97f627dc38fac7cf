/- Part 47: lemmas that the last text needs. -/
import Derived.Test.YtkihadlgknhpkaaGreatDoorX46
import Derived.Test.YtkihadlgknhpkaaGreatDoorX42
import Derived.Test.YtkihadlgknhpkaaGreatDoorX43
import Derived.Test.YtkihadlgknhpkaaGreatDoorX41
set_option linter.all false
set_option autoImplicit true
set_option relaxedAutoImplicit true
namespace Go.Proofs.YtkihadlgknhpkaaGreatDoor.T
open Go Go.Fw Go.Proofs RB
set_option maxRecDepth 20000
def zW:aQ:=([],[],[],[],0,[],0,0)
structure WlOk (w:aQ):Prop where
 led:LedOk w.1
 ledT:∀c ∈ w.1,ChTy c
 wts:w.2.1.length<=32
 inv:InOk w.2.2.1
 invT:∀x ∈ w.2.2.1,InTy x
 pay:PyOk w.2.2.2.1
 payT:∀p ∈ w.2.2.2.1,PyTy p
 fd:FdOk (w.2.2.2.2.1,w.2.2.2.2.2.1)
 nx1:1<=w.2.2.2.2.2.2.1
 nx2:w.2.2.2.2.2.2.1<=4611686018427387904
 lt:∀p ∈ w.2.2.2.1,p.1<w.2.2.2.2.2.2.1
 ag:AgOk w.2.2.2.1 w.1
 tick:ay w.2.2.2.2.2.2.2
theorem mW (k:WlOk w):jX w=some 0:=by
 obtain ⟨C,W,I,P,g,h,N,i⟩:=w;have a:=k.led;have c:=k.wts;have d:=k.nx1;have e:=k.nx2;have f:=k.lt;simp only at a c d e f;unfold jX;dsimp -beta -proj only;simp only;rw [uq k.ledT,aw a,ai,FQ k.inv,FP k.fd];simp only [al,ax,bJ,ah,ai,aa];rw [aq (show ¬ (32:Int) <(W.length:Int) by omega),aq (show ¬N=0 by omega),aq (show ¬4611686018427387904<N by omega),agS k.pay a k.ag];simp only [aa,ai,al,ax]
 cases j:P with
 |nil=>rfl
 |cons p r=>
  have b:(0:Int) <((p::r).length:Int):=by grind
  have hlen:(p::r).length<=256:=by have:=k.pay.few;grind
  grind[oX,aV,aU]
structure WlSm (w:aQ):Prop where
 cl:w.1.length<=1000
 hl:∀c ∈ w.1,c.2.2.2.2.2.1.length<=1000
 wl:w.2.1.length<=1000
 il:w.2.2.1.length<=1000
 pl:w.2.2.2.1.length<=1000
 fl:w.2.2.2.2.2.1.length<=1000
theorem WlOk.sm (k:WlOk w):WlSm w where
 cl:=by have:=k.led.few;omega
 hl c a:=by have:=(k.led.ch c a).few;omega
 wl:=by have:=k.wts;omega
 il:=by have:=k.inv.few;omega
 pl:=by have:=k.pay.few;omega
 fl:=by have:=k.fd.len;grind
theorem FI (h:l.length<=1000000):ui l=some l:=by
 grind[az,ui,bC]
theorem aeP {C} (e:C.length<=1000) (f:∀c ∈ C,c.2.2.2.2.2.1.length<=1000) (K:List D2->Option α) {r:α} (g:K C=some r):
 aD (λ(b:(Int×List D2)->Option α) (a:Int×List D2)=>
 bif decide (a.1<(C.length:Int)) then (
 bif ae a.1 a.2.length then
 (lj (rd Y8 a.2 a.1).2.2.2.2.2.1).bind λj=>
 bif ae a.1 a.2.length then
 b ((IntKind.wrap .i64 (a.1+1)),(a.2.set a.1.toNat ((rd Y8 a.2 a.1).1,(rd Y8 a.2 a.1).2.1,(rd Y8 a.2 a.1).2.2.1,(rd Y8 a.2 a.1).2.2.2.1,(rd Y8 a.2 a.1).2.2.2.2.1,j,(rd Y8 a.2 a.1).2.2.2.2.2.2)))
 else none
 else none)
 else (
 K a.2)) (0,C)=some r:=by
 refine fA C.length (λi:Nat=>((i:Int),C)) (λx:Int×List D2=>x.1.toNat) (λi _=>by simp) r (λi h d=> ?_) (λd=> ?_)
 all_goals grind[aV,aU,ru,cx,List.set_getElem_self]
theorem A0 (s:WlSm w):js w=some w:=by
 have a:=s.cl;have b:=s.wl;have c:=s.il;have d:=s.pl;have e:=s.fl;unfold js;dsimp -beta -proj only;rw [A8 (by omega),ai,FI (by omega),ai,uh (by omega),ai,xk (by omega),ai,A7 (by omega),ai];exact aeP a s.hl (λx=>some (x,w.2.1,w.2.2.1,w.2.2.2.1,w.2.2.2.2.1,w.2.2.2.2.2.1,w.2.2.2.2.2.2)) rfl
theorem DY (h:bB CK l) (a:aN CK q l=true) (d):cB (gy q d l)=cB (b7 CK q l)++ (d.2.2.2.2.2.1.map (λh=>((d.1,h):D9))++cB (bQ CK q l).tail)/\cB l=cB (b7 CK q l)++ ((dB q l).2.2.2.2.2.1.map (λh=>(((dB q l).1,h):D9))++cB (bQ CK q l).tail):=by
 grind[jU,gy,cB]
theorem ae2 (k:LedOk l) (a:AgOk P l) (b:aN CK q l=true) (c:d.1=(dB q l).1) (e:d.2.2.2.2.2.1=(dB q l).2.2.2.2.2.1):AgOk P (gy q d l):=by
 obtain ⟨f,i⟩:=DY k.inc b d;rw [c,e] at f;have:cB (gy q d l)=cB l:=by grind
 exact ⟨λp g h=>by rw [this];exact a.mem p g h,by rw [this];exact a.len⟩
theorem ae3 (k:LedOk l) (b:AgOk P l) (c:aN CK q l=true) {id n hash:Int} (f:d.1=(dB q l).1) (g:d.2.2.2.2.2.1=mL (id,n) (dB q l).2.2.2.2.2.1)
 (h:∀p ∈ j,p ∈ P\/p=(id,hash,q,n,1)) (hlen:(j.filter fB).length=(P.filter fB).length+1):AgOk j (gy q d l):=by
 obtain ⟨i,m⟩:=DY k.inc c d;obtain ⟨_,g1,_⟩:=jU k.inc c;rw [f,g,g1] at i;rw [g1] at m
 have e:(cB (gy q d l)).Perm (((q,id,n):D9)::cB l):=by
  grind[Eu]
 refine ⟨λp a o=> ?_,by rw [e.length_eq,aW,hlen,b.len]⟩;rw [e.mem_iff,a8];rcases h p a with a|rfl
 ·exact .inr (b.mem p a o)
 grind
theorem ae4 (k:LedOk l) (b:AgOk P l) (e:aN CK c.1 l=true) (f:dB c.1 l=c) {id:Int} (g:d.1=c.1) (a:bB HK c.2.2.2.2.2.1) (r:aN HK id c.2.2.2.2.2.1=true) (h:d.2.2.2.2.2.1=lU id c.2.2.2.2.2.1)
 (i:∀p ∈ j,fB p=true->p ∈ P/\p.1≠id) (hlen:(j.filter fB).length+1=(P.filter fB).length):AgOk j (gy c.1 d l):=by
 obtain ⟨m,n⟩:=DY k.inc e d;rw [g,h] at m;rw [f] at n
 have o:(((c.1,id,gN id c.2.2.2.2.2.1):D9)::cB (gy c.1 d l)).Perm (cB l):=by
  grind[Lc]
 refine ⟨λp q a=> ?_,?_⟩
 ·obtain ⟨p1,p2⟩:=i p q a;have:=b.mem p p1 a
  grind
 ·have:=o.length_eq;rw [aW,<-b.len] at this;omega
theorem Xy (h:c.2.2.2.2.2.1= []):cB (b7 CK c.1 l++c::bQ CK c.1 l)=cB l:=by
 grind[eQ,cB]
def gA (w:aQ) (k a n:Int):aQ×Int:=
 if (gv (w.2.2.2.2.1,w.2.2.2.2.2.1) k a n).2.2=0 then ((w.1,w.2.1,w.2.2.1,w.2.2.2.1,(gv (w.2.2.2.2.1,w.2.2.2.2.2.1) k a n).1.1,(gv (w.2.2.2.2.1,w.2.2.2.2.2.1) k a n).1.2,w.2.2.2.2.2.2),0) else (zW,(gv (w.2.2.2.2.1,w.2.2.2.2.2.1) k a n).2.2)
theorem td (k:WlOk w) (b:0<=i/\i<16) (c:ay a) (d:ay n) (h:gA w i a n=(v,0)):WlOk v/\v.1=w.1:=by
 unfold gA at h;split at h
 ·rename_i e;simp only [aL,dn] at h;subst h;obtain ⟨s,f⟩:∃s,gv (w.2.2.2.2.1,w.2.2.2.2.2.1) i a n=((gv (w.2.2.2.2.1,w.2.2.2.2.2.1) i a n).1,s,0):=⟨_,by rw [<-e]⟩;exact ⟨⟨k.led,k.ledT,k.wts,k.inv,k.invT,k.pay,k.payT,Nf k.fd b c d f,k.nx1,k.nx2,k.lt,k.ag,k.tick⟩,rfl⟩
 grind
theorem Lm (s:WlSm w) (k:FdOk (w.2.2.2.2.1,w.2.2.2.2.2.1)) :WlSm (w.1,w.2.1,w.2.2.1,w.2.2.2.1,(gv (w.2.2.2.2.1,w.2.2.2.2.2.1) i a n).1.1,(gv (w.2.2.2.2.1,w.2.2.2.2.2.1) i a n).1.2,w.2.2.2.2.2.2):=by
 refine ⟨s.cl,s.hl,s.wl,s.il,s.pl,?_⟩
 grind[gv,zF]
theorem qL (s:WlSm w) (k:FdOk (w.2.2.2.2.1,w.2.2.2.2.2.1)) {i a n} (d:0<=i/\i<16) {J:aQ×Int->Option (aQ×Int)} (e:J=λc=>bif (!decide (c.2=0)) then some (([],[],[],[],0,[],0,0),c.2) else (js c.1).bind λf=>some (f,0)):
 ((lh ((w.2.2.2.2.1,w.2.2.2.2.2.1),i,a,n)).bind λb=>bif (!decide (b.2.2=0)) then J (w,b.2.2) else J ((w.1,w.2.1,w.2.2.1,w.2.2.2.1,b.1.1,b.1.2,w.2.2.2.2.2.2),0))=some (gA w i a n):=by
 subst e;rw [Oa k d,ai];unfold gA
 grind[A0,Lm,zW]
open Classical in
noncomputable def pj (w:aQ) (c:D2):aQ×Int:=if (kN w.1 c).2=0 then gA ((kN w.1 c).1,w.2) 6 c.1 c.2.1 else (zW,(kN w.1 c).2)
theorem Kz (k:WlOk w) (h:LedOk C):WlSm (C,w.2):=
 ⟨by have:=h.few;grind,λc a=>by have:=(h.ch c a).few;omega,k.sm.wl,k.sm.il,k.sm.pl,k.sm.fl⟩
theorem agZ (k:WlOk w) (a:ChTy c):BA (w,c)=some (pj w c):=by
 unfold BA pj;simp only [jc,bC];rw [mW k,ai];simp only [al,ax,aa];rw [agH k.ledT k.led a,ai];by_cases b:(kN w.1 c).2=0
 ·simp only [b,al,ax,aa,aI];obtain ⟨m,d⟩:∃m,kN w.1 c=(m,0):=⟨_,aM rfl b⟩;rw [d];exact qL (w:=(m,w.2)) (Kz k (Li k.ledT a d).1) k.fd (by decide) rfl
 grind[zW]
theorem Lh (k:WlOk w) (a:ChTy c) (h:pj w c=(v,0)):WlOk v/\aP v.1=aP w.1+cZ c/\ChOk c:=by
 unfold pj at h;split at h
 ·rename_i e;obtain ⟨m,b⟩:∃m,kN w.1 c=(m,0):=⟨_,aM rfl e⟩;rw [b] at h;obtain ⟨f,g,n,o,q,r⟩:=Li k.ledT a b
  have i:WlOk (m,w.2):=⟨f,g,k.wts,k.inv,k.invT,k.pay,k.payT,k.fd,k.nx1,k.nx2,k.lt,by
   have d:cB m=cB w.1:=by grind[Xy]
   exact ⟨λp j l=>by rw [d];exact k.ag.mem p j l,by rw [d];exact k.ag.len⟩,k.tick⟩
  obtain ⟨g1,s⟩:=td i (by decide) a.id a.loc h
  grind
 grind
theorem ME {q} {f} (h:eR l q f=(m,0)):aN CK q l=true/\(f (dB q l)).2=0/\m=gy q (f (dB q l)).1 l:=by
 grind[eR]
theorem MF (k:WlOk w) (e:∀c d,ChTy c->ChOk c->f c=(d,0)->ChTy d/\ChOk d/\cZ d=cZ c/\d.1=c.1/\d.2.2.2.2.2.1=c.2.2.2.2.2.1) (h:eR w.1 q f=(m,0)):WlOk (m,w.2)/\aP m=aP w.1:=by
 obtain ⟨a,g,rfl⟩:=ME h;obtain ⟨_,g1,b,_⟩:=jU k.led.inc a;obtain ⟨i,j,t3,t4,t5⟩:=e (dB q w.1) (f (dB q w.1)).1 (k.ledT _ b) (k.led.ch _ b) (aM rfl g);obtain ⟨l,n,s3⟩:=k.led.set k.ledT a i j t3 t4 ⟨_,rfl,.inl (by rw [t5])⟩;exact ⟨⟨l,n,k.wts,k.inv,k.invT,k.pay,k.payT,k.fd,k.nx1,k.nx2,k.lt,ae2 k.led k.ag a t4 t5,k.tick⟩,s3⟩
def wB (w:aQ) (q):=if (eR w.1 q jV).2=0 then gA ((eR w.1 q jV).1,w.2) 7 q 0 else (zW,(eR w.1 q jV).2)
theorem MD (k:WlOk w) (h:eR w.1 q jV=(m,0)):WlOk (m,w.2)/\aP m=aP w.1:=MF k (λc d a b e=>aeO a b e) h
theorem agY (k:WlOk w) :Bz (w,q)=some (wB w q):=by
 unfold Bz wB;simp only [jc,bC];rw [mW k,ai];simp only [al,ax,aa];rw [agG k.ledT k.led,ai];by_cases a:(eR w.1 q jV).2=0
 ·simp only [a,al,ax,aa,aI];obtain ⟨m,b⟩:∃m,eR w.1 q jV=(m,0):=⟨_,aM rfl a⟩;rw [b];exact qL (w:=(m,w.2)) (Kz k (MD k b).1.led) k.fd (by decide) rfl
 grind[zW]
theorem MC (k:WlOk w) (b:ay q) (h:wB w q=(v,0)):WlOk v/\aP v.1=aP w.1:=by
 unfold wB at h;split at h
 ·rename_i c;obtain ⟨m,a⟩:∃m,eR w.1 q jV=(m,0):=⟨_,aM rfl c⟩;rw [a] at h;obtain ⟨d,e⟩:=MD k a;obtain ⟨g1,f⟩:=td d (by decide) b ⟨by omega,by omega⟩ h
  grind
 grind
theorem Kx (k:WlOk w) (h:InOk I):WlSm (w.1,w.2.1,I,w.2.2.2):=
 ⟨k.sm.cl,k.sm.hl,k.sm.wl,by have:=h.few;grind,k.sm.pl,k.sm.fl⟩
theorem WlOk.inv' (k:WlOk w) (h:InOk I) (a:∀x ∈ I,InTy x):WlOk (w.1,w.2.1,I,w.2.2.2):=⟨k.led,k.ledT,k.wts,h,a,k.pay,k.payT,k.fd,k.nx1,k.nx2,k.lt,k.ag,k.tick⟩
def pk (w:aQ) (q n till):=if (lV w.2.2.1 q n till).2=0 then gA (w.1,w.2.1,(lV w.2.2.1 q n till).1,w.2.2.2) 3 q n else (zW,(lV w.2.2.1 q n till).2)
theorem agq (k:WlOk w) (c:ay q) (d:ay n) (e:ay till):wW (w,q,n,till)=some (pk w q n till):=by
 unfold wW pk;simp only [jc,bC];rw [mW k,ai];simp only [al,ax,aa];rw [agd k.inv,ai];by_cases a:(lV w.2.2.1 q n till).2=0
 ·simp only [a,al,ax,aa,aI];obtain ⟨m,b⟩:∃m,lV w.2.2.1 q n till=(m,0):=⟨_,aM rfl a⟩;rw [b];exact qL (w:=(w.1,w.2.1,m,w.2.2.2)) (Kx k (MA k.inv k.invT c d e b).1) k.fd (by decide) rfl
 grind[zW]
theorem adE (k:WlOk w) (a:ay q) (b:ay n) (d:ay till) (h:pk w q n till=(v,0)):WlOk v/\v.1=w.1:=by
 unfold pk at h;split at h
 ·rename_i e;obtain ⟨m,c⟩:∃m,lV w.2.2.1 q n till=(m,0):=⟨_,aM rfl e⟩;rw [c] at h;obtain ⟨f,g⟩:=MA k.inv k.invT a b d c;exact td (w:=(w.1,w.2.1,m,w.2.2.2)) (k.inv' f g) (by decide) a b h
 grind
def pA (w:aQ) (q):=if (gq w.2.2.1 q w.2.2.2.2.2.2.2 4611686018427387904 3).2=0 then gA (w.1,w.2.1,(gq w.2.2.1 q w.2.2.2.2.2.2.2 4611686018427387904 3).1,w.2.2.2) 4 q 0 else (zW,(gq w.2.2.1 q w.2.2.2.2.2.2.2 4611686018427387904 3).2)
theorem agp (k:WlOk w) :tY (w,q)=some (pA w q):=by
 unfold tY pA;simp only [jc,bC];rw [mW k,ai];simp only [al,ax,aa];rw [agc k.inv,ai];by_cases a:(gq w.2.2.1 q w.2.2.2.2.2.2.2 4611686018427387904 3).2=0
 ·simp only [a,al,ax,aa,aI];obtain ⟨m,b⟩:∃m,gq w.2.2.1 q w.2.2.2.2.2.2.2 4611686018427387904 3=(m,0):=⟨_,aM rfl a⟩;rw [b];exact qL (w:=(w.1,w.2.1,m,w.2.2.2)) (Kx k (E0 k.inv k.invT (by decide) b).1) k.fd (by decide) rfl
 grind[zW]
theorem aeR (k:WlOk w) (b:ay q) (h:pA w q=(v,0)):WlOk v/\v.1=w.1:=by
 unfold pA at h;split at h
 ·rename_i c;obtain ⟨m,a⟩:∃m,gq w.2.2.1 q w.2.2.2.2.2.2.2 4611686018427387904 3=(m,0):=⟨_,aM rfl c⟩;rw [a] at h;obtain ⟨d,e⟩:=E0 k.inv k.invT (by decide) a;exact td (w:=(w.1,w.2.1,m,w.2.2.2)) (k.inv' d e) (by decide) b ⟨by omega,by omega⟩ h
 grind
def nW (w:aQ) (l:List (Int×Int)):aQ×Int:=if 32<l.length then (zW,1) else ((w.1,l,w.2.2),0)
theorem agX (k:WlOk w) :Bw (w,l)=some (nW w l):=by
 unfold Bw nW;simp only [jc,bC];rw [mW k,ai];simp only [al,ah];by_cases h:32<l.length
 ·rw [aw h,aq (show ¬ (l.length:Int)<=32 by omega)];rfl
 ·rw [ak h,aF (show (l.length:Int)<=32 by omega)];simp only [ax,aa,al];rw [A0 (w:=(w.1,l,w.2.2)) ⟨k.sm.cl,k.sm.hl,by grind,k.sm.il,k.sm.pl,k.sm.fl⟩];rfl
theorem EH (k:WlOk w) (h:nW w l=(v,0)):WlOk v/\v.1=w.1:=by
 unfold nW at h;split at h
 ·grind
 ·simp only [aL,dn] at h;subst h;exact ⟨⟨k.led,k.ledT,by grind,k.inv,k.invT,k.pay,k.payT,k.fd,k.nx1,k.nx2,k.lt,k.ag,k.tick⟩,rfl⟩
def wg (w:aQ) (t:Int):aQ×Int:=if t<w.2.2.2.2.2.2.2 then (zW,13) else ((w.1,w.2.1,w.2.2.1.filter (λx=> !jQ t x),w.2.2.2.1,w.2.2.2.2.1,w.2.2.2.2.2.1,w.2.2.2.2.2.2.1,t),0)
theorem agW (k:WlOk w) :Bv (w,t)=some (wg w t):=by
 unfold Bv wg;simp only [jc,bC];rw [mW k,ai];simp only [al,ah];by_cases h:t<w.2.2.2.2.2.2.2
 ·rw [aw h,aq (show ¬w.2.2.2.2.2.2.2<=t by omega)];rfl
 ·rw [ak h,aF (show w.2.2.2.2.2.2.2<=t by omega)];simp only [ax,aa,al];rw [agF k.inv,ai];simp only [ax,aa,al];rw [A0 (w:=(w.1,w.2.1,w.2.2.1.filter (λx=> !jQ t x),w.2.2.2.1,w.2.2.2.2.1,w.2.2.2.2.2.1,w.2.2.2.2.2.2.1,t)) ⟨k.sm.cl,k.sm.hl,k.sm.wl,b9 (sH _ _) k.sm.il,k.sm.pl,k.sm.fl⟩];rfl
theorem LL (k:WlOk w) (a:ay t) (h:wg w t=(v,0)):WlOk v/\v.1=w.1:=by
 unfold wg at h;split at h
 ·grind
 ·simp only [aL,dn] at h;subst h;obtain ⟨b,c⟩:=XE k.inv k.invT (λx=> !jQ t x);exact ⟨⟨k.led,k.ledT,k.wts,b,c,k.pay,k.payT,k.fd,k.nx1,k.nx2,k.lt,k.ag,a⟩,rfl⟩
end Go.Proofs.YtkihadlgknhpkaaGreatDoor.T
namespace Go.Proofs.YtkihadlgknhpkaaGreatDoor.T
open Go Go.Fw Go.Proofs RB
set_option maxRecDepth 20000
def vV (w:aQ) (q n a):=
 if (gq w.2.2.1 q w.2.2.2.2.2.2.2 n 2).2=0 then
  (if (eR w.1 a (λc=>jP c n)).2=0 then gA ((eR w.1 a (λc=>jP c n)).1,w.2.1,(gq w.2.2.1 q w.2.2.2.2.2.2.2 n 2).1,w.2.2.2) 5 q n else (zW,(eR w.1 a (λc=>jP c n)).2))
 else (zW,(gq w.2.2.1 q w.2.2.2.2.2.2.2 n 2).2)
theorem KH (k:WlOk w) (a:ay n) (b:gq w.2.2.1 q w.2.2.2.2.2.2.2 n 2=(I,0)) (e:eR w.1 J (λc=>jP c n)=(C,0)):WlOk (C,w.2.1,I,w.2.2.2)/\aP C=aP w.1:=by
 obtain ⟨f,g⟩:=E0 k.inv k.invT (by decide) b;have h:=k.inv' f g;exact MF (w:=(w.1,w.2.1,I,w.2.2.2)) h (λc d g1 i j=>ac9 g1 i a j) e
theorem ag0 (k:WlOk w) (b:ay n):BB (w,q,n,a)=some (vV w q n a):=by
 unfold BB vV;simp only [jc,bC];rw [mW k,ai];simp only [al,ax,aa];rw [agJ k.inv,ai];by_cases d:(gq w.2.2.1 q w.2.2.2.2.2.2.2 n 2).2=0
 ·simp only [d,al,ax,aa,aI];rw [agI k.ledT k.led b,ai];by_cases e:(eR w.1 a (λc=>jP c n)).2=0
  ·simp only [e,al,ax,aa,aI];obtain ⟨I,f⟩:∃m,gq w.2.2.1 q w.2.2.2.2.2.2.2 n 2=(m,0):=⟨_,aM rfl d⟩;obtain ⟨C,g⟩:∃m,eR w.1 a (λc=>jP c n)=(m,0):=⟨_,aM rfl e⟩;rw [f,g];exact qL (w:=(C,w.2.1,I,w.2.2.2)) (KH k b f g).1.sm k.fd (by decide) rfl
  grind[zW]
 grind[zW]
theorem KI (k:WlOk w) (e:ay q) (a:ay n) (h:vV w q n j=(v,0)):WlOk v/\aP v.1=aP w.1:=by
 unfold vV at h;split at h
 ·rename_i f;split at h
  ·rename_i g;obtain ⟨I,b⟩:∃m,gq w.2.2.1 q w.2.2.2.2.2.2.2 n 2=(m,0):=⟨_,aM rfl f⟩;obtain ⟨C,d⟩:∃m,eR w.1 j (λc=>jP c n)=(m,0):=⟨_,aM rfl g⟩;rw [b,d] at h;obtain ⟨i,l⟩:=KH k a b d;obtain ⟨g1,o⟩:=td (w:=(C,w.2.1,I,w.2.2.2)) i (by decide) e a h
   grind
  grind
 grind
def wy (w:aQ) (q:Int) (a):=
 if (mN w.2.2.2.1 q a).2=0 then
  (if (lT w.1 q a).2.2=0 then gA ((lT w.1 q a).1,w.2.1,w.2.2.1,(mN w.2.2.2.1 q a).1,w.2.2.2.2) (bif a then 1 else 2) q (lT w.1 q a).2.1 else (zW,(lT w.1 q a).2.2))
 else (zW,(mN w.2.2.2.1 q a).2)
theorem Mo (k:WlOk w) (f:mN w.2.2.2.1 q j=(P,0)) (h:lT w.1 q j=(C,n,0)):
 WlOk (C,w.2.1,w.2.2.1,P,w.2.2.2.2)/\aP C=aP w.1/\ay n:=by
 unfold mN at f;split at f
 ·rename_i i;split at f
  ·rename_i l;simp only [aL,dn] at f;obtain ⟨e,g1,m,_⟩:=fN (z:=dJ) k.pay.inc i;have J:=k.pay.may _ m;have d:=k.payT _ m;generalize B:bw PK dJ q w.2.2.2.1=p at*;unfold lT at h
   cases s:iM q w.1 with
   |none=>grind
   |some c=>
    rw [s] at h;simp only [aL,dn] at h;obtain ⟨rfl,rfl⟩:=h;obtain ⟨c1,K,t,u,v⟩:=Kh k.led s;have o:jn c q j=((jn c q j).1,gN q c.2.2.2.2.2.1,0):=by grind[jn]
    obtain ⟨D,E,t3,t4,t5,L,x,F⟩:=aeF (k.ledT _ c1) (k.led.ch _ c1) o;have g:=k.led.ch _ c1
    obtain ⟨G,H,s3⟩:=k.led.set k.ledT u D E (by grind) (by grind) ⟨_,rfl,.inr (.inl ⟨q,by
     rw [v,x]
     exact (Lc g.inc t).map (·.1)⟩)⟩
    have A:fB p=true:=aF l;have hd:fB (p.1,p.2.1,p.2.2.1,p.2.2.2.1,bif j then 2 else 3)=false:=by cases j <;>rfl
    have I:∀y ∈ b7 PK q w.2.2.2.1++ (bQ PK q w.2.2.2.1).tail,y ∈ w.2.2.2.1/\y.1≠q:=λy a=>by
     have r:=k.pay.inc;rw [e] at r;have M:=kE.1 r
     grind[List.pairwise_cons]
    subst f
    have b:∀y ∈ iP PK q (p.1,p.2.1,p.2.2.1,p.2.2.2.1,bif j then 2 else 3) w.2.2.2.1,y=(p.1,p.2.1,p.2.2.1,p.2.2.2.1,bif j then 2 else 3)\/(y ∈ w.2.2.2.1/\y.1≠q):=λy a=>by
     rcases cz.1 a with a|a
     all_goals grind
    refine ⟨⟨G,H,k.wts,k.inv,k.invT,⟨?_,λy a=> ?_,zL (z:=dJ) k.pay.inc i g1⟩,λy a=> ?_,k.fd,k.nx1,k.nx2,λy a=> ?_,?_,k.tick⟩,s3,F⟩
    ·simp only;rw [zD (z:=dJ) k.pay.inc i];exact k.pay.few
    ·rcases b y a with rfl|a
     ·grind
     ·exact k.pay.may y a.1
    ·rcases b y a with rfl|a
     ·exact ⟨d.id,d.hash,d.ch,d.n⟩
     ·exact k.payT y a.1
    ·rcases b y a with rfl|a
     ·show p.1<_;exact k.lt p m
     ·exact k.lt y a.1
    ·refine ae4 k.led k.ag u v t4 g.inc t x (λy a r=> ?_) ?_
     ·grind
     grind[iP]
  grind
 grind
theorem ag1 (k:WlOk w) :BC (w,q,a)=some (wy w q a):=by
 unfold BC wy;dsimp -beta -proj only;simp only [jc,bC];rw [mW k,ai];simp only [al,ax,aa];rw [agM k.pay,ai];by_cases b:(mN w.2.2.2.1 q a).2=0
 ·simp only [b,al,ax,aa,aI];rw [agL k.ledT k.led,ai];by_cases c:(lT w.1 q a).2.2=0
  ·simp only [c,al,ax,aa,aI];obtain ⟨P,d⟩:∃m,mN w.2.2.2.1 q a=(m,0):=⟨_,aM rfl b⟩;obtain ⟨C,n,e⟩:∃m n,lT w.1 q a=(m,n,0):=⟨_,_,aM rfl (aM rfl c)⟩;rw [d,e];have f:=(Mo k d e).1.sm
   cases a with
   |true=>exact qL (w:=(C,w.2.1,w.2.2.1,P,w.2.2.2.2)) f k.fd (by decide) rfl
   |false=>exact qL (w:=(C,w.2.1,w.2.2.1,P,w.2.2.2.2)) f k.fd (by decide) rfl
  grind[zW]
 grind[zW]
theorem Mp (k:WlOk w) (c:ay q) (h:wy w q j=(v,0)):WlOk v/\aP v.1=aP w.1:=by
 unfold wy at h;split at h
 ·rename_i d;split at h
  ·rename_i e;obtain ⟨P,a⟩:∃m,mN w.2.2.2.1 q j=(m,0):=⟨_,aM rfl d⟩;obtain ⟨C,n,b⟩:∃m n,lT w.1 q j=(m,n,0):=⟨_,_,aM rfl (aM rfl e)⟩;rw [a,b] at h;obtain ⟨f,i,g⟩:=Mo k a b;obtain ⟨g1,l⟩:=td (w:=(C,w.2.1,w.2.2.1,P,w.2.2.2.2)) f (by grind) c g h
   grind
  grind
 grind
def jR (w:aQ) (hash n:Int):D3:=(w.2.2.2.2.2.2.1,hash,(kR w.2.1 n w.1).1,n,1)
def lR (w:aQ) (n):=eR w.1 (kR w.2.1 n w.1).1 (λc=>if (iM w.2.2.2.2.2.2.1 w.1).isSome then (c,6) else nZ c w.2.2.2.2.2.2.1 n)
def sQ (v:aQ):aQ:=(v.1,v.2.1,v.2.2.1,v.2.2.2.1,v.2.2.2.2.1,v.2.2.2.2.2.1,v.2.2.2.2.2.2.1+1,v.2.2.2.2.2.2.2)
def fL (w) (hash n):=
 if ¬ (0<n/\n<=4611686018427387904) then (zW,0,1) else if (kR w.2.1 n w.1).2≠0 then (zW,0,9) else if w.2.2.2.2.2.2.1=4611686018427387904 then (zW,0,7) else
 if (ic w.2.2.2.1 (jR w hash n)).2≠0 then (zW,0,(ic w.2.2.2.1 (jR w hash n)).2) else if (lR w n).2≠0 then (zW,0,(lR w n).2) else
 if (gA ((lR w n).1,w.2.1,w.2.2.1,(ic w.2.2.2.1 (jR w hash n)).1,w.2.2.2.2) 0 w.2.2.2.2.2.2.1 n).2=0 then (sQ (gA ((lR w n).1,w.2.1,w.2.2.1,(ic w.2.2.2.1 (jR w hash n)).1,w.2.2.2.2) 0 w.2.2.2.2.2.2.1 n).1,w.2.2.2.2.2.2.1,0)
 else (zW,0,(gA ((lR w n).1,w.2.1,w.2.2.1,(ic w.2.2.2.1 (jR w hash n)).1,w.2.2.2.2) 0 w.2.2.2.2.2.2.1 n).2)
theorem XI (k:PyOk l) (h:ic l p=(m,0)):m.length<=256/\(∀x ∈ m,x ∈ l\/x=p)/\(fB p=true->(m.filter fB).length=(l.filter fB).length+1)/\∃a,m=a++ [p]/\a.Sublist l:=by
 have f:=k.few;unfold ic at h;split at h
 ·rename_i g
  cases c:l.findIdx? (λx=> !decide (x.2.2.2.2=1)) with
  |none=>grind
  |some j=>
   rw [c] at h;simp only [aL,dn] at h;subst h;obtain ⟨d,i,_⟩:=Xq.1 c;have e:fB l[j]=false:=by grind[fB]
   refine ⟨?_,λx n=> ?_,λo=> ?_,_,rfl,List.eraseIdx_sublist _ _⟩
   ·grind
   ·grind[List.mem_of_mem_eraseIdx]
   ·have b:=vX (cK d);have:=(b.filter fB).length_eq
    grind
 grind
theorem Ld (k:WlOk w) {hash n:Int} (r:ay hash) (L:0<n/\n<=4611686018427387904) (t:ic w.2.2.2.1 (jR w hash n)=(P,0)) (u:lR w n=(C,0)):
 WlSm (C,w.2.1,w.2.2.1,P,w.2.2.2.2)/\aP C=aP w.1/\(w.2.2.2.2.2.2.1<4611686018427387904->∀v,gA (C,w.2.1,w.2.2.1,P,w.2.2.2.2) 0 w.2.2.2.2.2.2.1 n=(v,0)->WlOk (sQ v)/\v.1=C):=by
 have z:=k.nx1;have A:=k.nx2;obtain ⟨p1,p2,p3,a,p4,m⟩:=XI k.pay t;obtain ⟨q1,f,rfl⟩:=ME u;have g:ay n:=⟨by omega,by omega⟩;have i:ay w.2.2.2.2.2.2.1:=⟨by omega,by omega⟩;obtain ⟨_,g1,o,_⟩:=jU k.led.inc q1
 cases B:iM w.2.2.2.2.2.2.1 w.1 with
 |some c=>grind
 |none=>
  rw [B] at f;simp only [JG,dQ,aH] at f ⊢
  have d:w.2.2.2.2.2.2.1 ∉ cY w.1:=by
   rcases yT (h:=w.2.2.2.2.2.2.1) w.1 0 with ⟨_,h⟩| ⟨c,j,h,_⟩
   all_goals grind
  obtain ⟨D,E,t3,t4,t5,M,F,N,t9⟩:=ad1 (k.ledT _ o) (k.led.ch _ o) i g (aM rfl f)
  obtain ⟨l,G,s3⟩:=k.led.set k.ledT q1 D E t3 t4 ⟨_,rfl,.inr (.inr ⟨w.2.2.2.2.2.2.1,by
   grind[Eu],d⟩)⟩
  have p:(kR w.2.1 n w.1).1=(dB (kR w.2.1 n w.1).1 w.1).1:=g1.symm;refine ⟨⟨b9 l.few (by decide),λc H=>by have:=(l.ch c H).few;omega,k.sm.wl,k.sm.il,by grind,k.sm.fl⟩,s3,λI v e=> ?_⟩;unfold gA at e;split at e
  ·rename_i J;simp only [aL,dn] at e;subst e;obtain ⟨s,K⟩:∃s,gv (w.2.2.2.2.1,w.2.2.2.2.2.1) 0 w.2.2.2.2.2.2.1 n=((gv (w.2.2.2.2.1,w.2.2.2.2.2.1) 0 w.2.2.2.2.2.2.1 n).1,s,0):=⟨_,aM rfl (aM rfl J)⟩;refine ⟨⟨l,G,k.wts,k.inv,k.invT,⟨p1,λx b=> ?_,?_⟩,λx b=> ?_,Nf k.fd (by decide) i g K,?_,?_,λx b=> ?_,?_,k.tick⟩,rfl⟩
   ·rcases p2 x b with b|rfl
    ·exact k.pay.may x b
    grind[jR]
   ·simp only [sQ];rw [p4];refine kE.2 ⟨yR m k.pay.inc,by simp,λx b y q=> ?_⟩;simp only [eP] at q;subst q;exact k.lt x (m.subset b)
   ·rcases p2 x b with b|rfl
    ·exact k.payT x b
    ·exact ⟨i,r,aef k.ledT _ _,g⟩
   ·grind[sQ]
   ·grind[sQ]
   ·simp only [sQ];rcases p2 x b with b|rfl
    ·have:=k.lt x b;omega
    grind[jR]
   ·refine ae3 (hash:=hash) k.led k.ag q1 t4 F (λx b=> ?_) (p3 rfl);rcases p2 x b with b|rfl
    ·grind
    ·exact .inr rfl
  grind
theorem N1 (k:WlOk w) {hash n:Int} (q:ay hash) (r:ay n):oq (w,hash,n)=some (fL w hash n):=by
 have s:=k.nx1;have t:=k.nx2;have x:=k.wts;unfold oq fL;dsimp -beta -proj only;simp only [jc,bC];rw [mW k,ai,tJ];rw [agh k.led k.ledT (show w.2.1.length<=1099511627776 by omega)];by_cases c1:0<n/\n<=4611686018427387904
 ·rw [ak (show ¬¬ (0<n/\n<=4611686018427387904) from λh=>h c1),aF c1.1,aw c1.2];simp only [bJ,ah,ai,al,ax,aa];by_cases c:(kR w.2.1 n w.1).2=0
  ·simp only [c,al,ax,aa,cU,dm,aH];by_cases d:w.2.2.2.2.2.2.1=4611686018427387904
   ·grind[zW]
   ·simp only [d,aK,bm,ax,aa,aH,al];have e:wQ (w.2.2.2.1,w.2.2.2.2.2.2.1,hash,(kR w.2.1 n w.1).1,n,1)=some (ic w.2.2.2.1 (jR w hash n)):=agf k.pay (p:=jR w hash n) ⟨c1,rfl⟩ k.lt;rw [e,ai];by_cases g:(ic w.2.2.2.1 (jR w hash n)).2=0
    ·simp only [g,al,ax,aa,dm,aH];have f:wP (w.1,(kR w.2.1 n w.1).1,w.2.2.2.2.2.2.1,n)=some (lR w n):=age k.ledT k.led r;rw [f,ai];by_cases j:(lR w n).2=0
     ·simp only [j,al,ax,aa,dm,aH];obtain ⟨P,l⟩:∃m,ic w.2.2.2.1 (jR w hash n)=(m,0):=⟨_,aM rfl g⟩;obtain ⟨C,o⟩:∃m,lR w n=(m,0):=⟨_,aM rfl j⟩;obtain ⟨u,y,z⟩:=Ld k q c1 l o;rw [l,o];simp only;rw [Oa k.fd (by decide),ai];have b:=Lm (w:=(C,w.2.1,w.2.2.1,P,w.2.2.2.2)) u k.fd (i:=0) (a:=w.2.2.2.2.2.2.1) (n:=n);unfold gA;by_cases v:(gv (w.2.2.2.2.1,w.2.2.2.2.2.1) 0 w.2.2.2.2.2.2.1 n).2.2=0
      ·have w1:IntKind.wrap .u64 (w.2.2.2.2.2.2.1+1)=w.2.2.2.2.2.2.1+1:=fY (by omega) (by omega);simp only [v,al,ax,aa,aI,w1];rw [A0 (w:=(C,w.2.1,w.2.2.1,P,(gv (w.2.2.2.2.1,w.2.2.2.2.2.1) 0 w.2.2.2.2.2.2.1 n).1.1,(gv (w.2.2.2.2.1,w.2.2.2.2.2.1) 0 w.2.2.2.2.2.2.1 n).1.2,w.2.2.2.2.2.2.1+1,w.2.2.2.2.2.2.2)) ⟨b.cl,b.hl,b.wl,b.il,b.pl,b.fl⟩];rfl
      grind[zW]
     grind[zW]
    grind[zW]
  grind[zW]
 ·rw [aw c1];by_cases c:0<n
  ·have d:¬n<=4611686018427387904:=λh=>c1 ⟨c,h⟩
   rw [aF c,ak d];simp only [bJ,ah,ai,al,bm,show decide ((1:Int)=0)=false from rfl,zW,aa]
  ·rw [aq c];simp only [show (false==true)=false from rfl,ah,aa,ai,al,bm,show decide ((1:Int)=0)=false from rfl,zW]
theorem Ew (k:WlOk w) {hash n id} (f:ay hash) (p:ay n) (h:fL w hash n=(v,id,0)):WlOk v/\aP v.1=aP w.1/\id=w.2.2.2.2.2.2.1:=by
 have g:=k.nx2;unfold fL at h;split at h
 ·grind
 split at h
 ·grind
 split at h
 ·grind
 split at h
 ·grind
 split at h
 ·grind
 split at h
 ·rename_i c1 q r a b c;have i:=jL a;have j:=jL b;obtain ⟨P,d⟩:∃m,ic w.2.2.2.1 (jR w hash n)=(m,0):=⟨_,aM rfl (nM.1 a)⟩;obtain ⟨C,e⟩:∃m,lR w n=(m,0):=⟨_,aM rfl (nM.1 b)⟩;obtain ⟨s,t,l⟩:=Ld k f (nM.1 c1) d e;rw [d,e] at h c;simp only [aL,dn] at h;obtain ⟨rfl,rfl⟩:=h;obtain ⟨o,m2⟩:=l (by omega) _ (aM rfl c);refine ⟨o,?_,rfl⟩;show aP (gA (C,w.2.1,w.2.2.1,P,w.2.2.2.2) 0 w.2.2.2.2.2.2.1 n).1.1=_
  grind
 grind
def kV:aQ->List It->Nat->List Int->aQ×List Int×Int×Int
 |w,[],_,ids=>(w,ids,0,0)
 |w,x::r,i,ids=>if (fL w x.1 x.2).2.2=0 then kV (fL w x.1 x.2).1 r (i+1) (ids.set i (fL w x.1 x.2).2.1) else (zW,[],i,(fL w x.1 x.2).2.2)
def mK (w) (l):=if (ga l).2=0 then kV w l 0 (List.replicate l.length 0) else (zW,[],0,(ga l).2)
theorem MV:∀ (l) (w) (i) (ids),WlOk w->(∀x ∈ l,ay x.1/\ay x.2)->(∀n ∈ ids,ay n)->
 (∀v o j,kV w l i ids=(v,o,j,0)->WlOk v/\aP v.1=aP w.1/\o.length=ids.length/\∀n ∈ o,ay n)/\((kV w l i ids).2.2.2≠0->(kV w l i ids).2.1= [])
 | [],w,i,ids,k,C,I=>⟨λv o j h=>by
  grind[kV],λh=>absurd rfl h⟩
 |x::r,w,i,ids,k,C,I=>by
  obtain ⟨J,R⟩:=C x (JL ..);unfold kV;by_cases a:(fL w x.1 x.2).2.2=0
  ·rw [aw a];obtain ⟨v,id,b⟩:∃v id,fL w x.1 x.2=(v,id,0):=⟨_,_,aM rfl (aM rfl a)⟩;rw [b];obtain ⟨c,f,d⟩:=Ew k J R b;have g:ay id:=by rw [d];exact ⟨by have:=k.nx1;omega,by have:=k.nx2;omega⟩
   obtain ⟨g1,m⟩:=MV r v (i+1) (ids.set i id) c (λy e=>C y (iL _ e)) (λn p=>by
    grind)
   grind
  grind
theorem agr (k:WlOk w) (q:∀x ∈ l,ay x.1/\ay x.2) (y:l.length<=9223372036854775807):wX (w,l)=some (mK w l):=by
 unfold wX mK;dsimp -beta -proj only;simp only;rw [FX y q,ai];by_cases h:(ga l).2=0
 ·rw [aw h]
  have z:l.length<=16:=by
   grind[ga]
  have A:=eq_true (by omega);have j:(l.length*8<=az)=True:=eq_true (by grind[az]);simp only [h,al,ax,aa,bu,A,j,jM,ah]
  have key:=bE (B:=(λ(f:(BX)->Option ((List D2× (List (Int×Int))×List D1×List D3×Int×List D1×Int×Int)×List Int×Int×Int)) (d:BX)=>
 bif decide (d.2.2.2.1<(l.length:Int)) then (
 bif ae d.2.2.2.1 l.length then
 (oq (d.2.2.2.2.2,(rd Y0 l d.2.2.2.1))).bind λm=>
 bif (!decide (m.2.2=0)) then (
 some (([],[],[],[],0,[],0,0),[],d.2.2.2.1,m.2.2))
 else (
 bif ae d.2.2.2.1 d.2.2.2.2.1.length then
 f (d.1,d.2.1,d.2.2.1,(IntKind.wrap .i64 (d.2.2.2.1+1)),(d.2.2.2.2.1.set d.2.2.2.1.toNat m.2.1),m.1)
 else none)
 else none)
 else (
 some (d.2.2.2.2.2,d.2.2.2.2.1,0,0)))) (λx=>∃i:Nat,i<=l.length/\x.2.2.2.1=(i:Int)/\x.2.2.2.2.1.length=l.length/\WlOk x.2.2.2.2.2) (λx=>l.length - x.2.2.2.1.toNat)
   (λx=>kV x.2.2.2.2.2 (l.drop x.2.2.2.1.toNat) x.2.2.2.1.toNat x.2.2.2.2.1) ?_ (([]:List Int),0,0,0,(List.replicate l.length 0:List Int),w) ⟨0,gK _,rfl,by simp,k⟩
  ·grind
  ·rintro ⟨a,b,c,F,ids,v⟩ ⟨i,G,j,r,o⟩ C g;simp only at j r o ⊢;subst j;simp only [bu] at*;rcases jh i l.length with e|D
   ·obtain ⟨s,d⟩:=q _ (bt e);rw [aF (eA e),aV e,aU (t:=Y0) e,ah,ah];have E:oq (v,l[i])=some (fL v l[i].1 l[i].2):=N1 o s d;rw [E,ai,gT e]
    conv=>rhs;rw [kV]
    by_cases n:(fL v l[i].1 l[i].2).2.2=0
    ·rw [aw n];obtain ⟨p,id,u⟩:∃p id,fL v l[i].1 l[i].2=(p,id,0):=⟨_,_,aM rfl (aM rfl n)⟩;rw [u];simp only [al,ax,aa,r,aV e,ah];rw [cx (by omega)];have:=g (a,b,c,((i+1:Nat):Int),ids.set i id,p) ⟨i+1,e,rfl,by grind,(Ew o s d u).1⟩ (by grind)
     grind
    ·rw [ak n,aq n];rfl
   ·have:i=l.length:=by omega
    subst this;rw [aq (by omega),aa,JX];rfl
 ·rw [ak h,aq h];rfl
theorem adD (k:WlOk w) (a:∀x ∈ l,ay x.1/\ay x.2) (h:mK w l=(v,o,j,0)):WlOk v/\aP v.1=aP w.1/\o.length=l.length/\l.length<=16/\∀n ∈ o,ay n:=by
 unfold mK at h;split at h
 ·grind[MV,bN,ga]
 grind
theorem Ke (n):ay (IntKind.wrap .u64 n):=by
 show 0<=n % 2^64/\n % 2^64<18446744073709551616;omega
theorem agb (a:ChTy c) (b:ChOk c):AK c=some (bn c.2.2.2.2.2.1,0):=by
 grind[AK,xg]
theorem agm (e:∀c ∈ l,ChTy c) (k:LedOk l):∃a n,tX l=some (a,n,0)/\ay a/\ay n:=by
 unfold tX;dsimp -beta -proj only;rw [uq e,aw k,ai];simp only [al,ax,aa];have hlen:=k.few;have key:=λ(P:Option (Int×Int×Int)->Prop) (h:∀a n,ay a/\ay n->P (some (a,n,0)))=>P
 let b:Nat->D5:=λi=>((l.take i).foldl (λa c=>if c.2.2.2.2.2.2=true then IntKind.wrap .u64 (a+c.2.1) else a) 0,(l.take i).foldl (λa c=>IntKind.wrap .u64 (a+bn c.2.2.2.2.2.1)) 0,0,(i:Int))
 refine ⟨(b l.length).1,(b l.length).2.1,?_,?_,?_⟩
 ·refine fA l.length b (λx=>x.2.2.2.toNat) (λi _=>by grind) _ (λi f d=> ?_) (λd=> ?_)
  ·simp only [b];have j:=k.ch _ (bt f)
   grind[aV,aU,agb,cx,List.take_succ_eq_append_getElem]
  grind
 ·have:∀ (m:List D2) (a:Int),ay a->ay (m.foldl (λa c=>if c.2.2.2.2.2.2=true then IntKind.wrap .u64 (a+c.2.1) else a) a):=by
   intro m
   induction m with
   |nil=>grind
   |cons c r g=>
    grind[Ke]
  grind[bN]
 ·have:∀ (m:List D2) (a:Int),ay a->ay (m.foldl (λa c=>IntKind.wrap .u64 (a+bn c.2.2.2.2.2.1)) a):=by
   intro m
   induction m with
   |nil=>grind
   |cons c r g=>
    grind[Ke]
  grind[bN]
def zG:cM:=(zW,[],[],[],[])
def Fp (b):=Bs b/\(tq b).2=0/\(tq b).1.2.1=0
structure GdOk (g:cM):Prop where
 wl:WlOk g.1
 ar:Ar.valid g.2.1
 rt:RtOk g.2.2.1
 ky:KyOk g.2.2.2.1
 kr:∀x ∈ g.2.2.2.1,Fp x.2.2.1
 ct:CtOk g.2.2.2.2
theorem wJ (k:GdOk g):pE g=some 0:=by
 unfold pE;dsimp -beta -proj only;rw [mW k.wl,ai,Ar.Hm,aw k.ar,ai,OB k.rt,ai,OA k.ky,ai,FZ k.ct,ai]
 exact rY 6 (λm a=>by
  obtain ⟨m,rfl⟩:∃n,m=n+6:=⟨m - 6,by omega⟩
  rfl)
theorem Le {l:List D0} (b:l.length<=1000) (c:∀x ∈ l,x.2.1.length<=4096/\x.2.2.1.length<=4096) 
 (d:∀i (h:i<l.length) (a:Int×List D0->Option R),cg l[i].2.1=some l[i].2.1->cg l[i].2.2.1=some l[i].2.2.1->rd bA l (i:Int)=l[i]->ae (i:Int) l.length=true->decide ((i:Int) <(l.length:Int))=true->IntKind.wrap .i64 ((i:Int)+1)=((i+1:Nat):Int)->B a ((i:Int),l)=a (((i+1:Nat):Int),l))
 (e:∀a:Int×List D0->Option R,decide (((l.length:Nat):Int) <(l.length:Int))=false->B a ((l.length:Int),l)=some r):aD B (0,l)=some r:=by
 refine fA l.length (λi:Nat=>((i:Int),l)) (λx:Int×List D0=>x.1.toNat) (λi _=>by simp) r (λi f a=> ?_) (λa=> ?_)
 all_goals grind[qS,aU,aV,cx]
theorem Lg (b:Ar.valid l) 
 (d:∀i (h:i<l.length) (a:Int×List bZ->Option R),cg l[i].2.2=some l[i].2.2->rd eB l (i:Int)=l[i]->ae (i:Int) l.length=true->decide ((i:Int) <(l.length:Int))=true->IntKind.wrap .i64 ((i:Int)+1)=((i+1:Nat):Int)->B a ((i:Int),l)=a (((i+1:Nat):Int),l))
 (e:∀a:Int×List bZ->Option R,decide (((l.length:Nat):Int) <(l.length:Int))=false->B a ((l.length:Int),l)=some r):aD B (0,l)=some r:=by
 have f:=b.len;refine fA l.length (λi:Nat=>((i:Int),l)) (λx:Int×List bZ=>x.1.toNat) (λi _=>by simp) r (λi c a=> ?_) (λa=> ?_)
 ·have g:=b.text _ (bt c)
  grind[qS,aU,aV,cx]
 grind
theorem Ol (h:l.length<=1000000):xj l=some l:=by
 grind[az,xj,bC]
theorem agN (s:WlSm g.1) (b:Ar.valid g.2.1) (f:g.2.2.1.length<=1000) (c:KyOk g.2.2.2.1) (h:g.2.2.2.2.length<=1000):rA g=some g:=by
 obtain ⟨w,A,y,j,z⟩:=g;have k:=s.cl;have m:=s.wl;have s3:=s.il;have s4:=s.pl;have n:=s.fl;have s6:=s.hl;have o:=c.few;have p:=b.len;simp only at k m s3 s4 n s6 f h o p;unfold rA;dsimp -beta -proj only;simp only;rw [A8 (by omega),ai,FI (by omega),ai,uh (by omega),ai,xk (by omega),ai,A7 (by omega),ai];refine fA w.1.length (λi=>((i:Int),w.1)) (λx=>x.1.toNat) (λi _=>by simp) _ (λi d a=> ?_) (λa=> ?_)
 ·grind[aV,aU,ru,cx,List.set_getElem_self]
 ·simp only;rw [aq (by omega),aa,Ar.B9 (by omega),ai,xm (by omega),ai,Ol (by omega),ai,FF (by omega),ai];refine Lg (l:=A) b (λi d a q r t u v=> ?_) (λa e=> ?_)
  ·grind[List.set_getElem_self]
  simp only [e,aa];refine Le (l:=j) (by omega) c.sh (λi d a q r t u v B=> ?_) (λa e=> ?_)
  all_goals grind[bC,List.set_getElem_self]
abbrev A16:Type:=(Int×Int)× (Int×Int)× (Int×Int)× (Int×Int)× (Int×Int)× (Int×Int)× (Int×Int)× (Int×Int)× (Int×Int)× (Int×Int)× (Int×Int)× (Int×Int)× (Int×Int)× (Int×Int)× (Int×Int)× (Int×Int)
theorem agT (s:WlSm g.1) (b:Ar.valid g.2.1) (f:g.2.2.1.length<=1000) (c:KyOk g.2.2.2.1) (h:g.2.2.2.2.length<=1000):eD (g,u)=some (g,u):=by
 obtain ⟨w,A,z,j,B⟩:=g;have k:=s.cl;have m:=s.wl;have s3:=s.il;have s4:=s.pl;have n:=s.fl;have s6:=s.hl;have o:=c.few;have p:=b.len;simp only at k m s3 s4 n s6 f h o p;unfold eD;dsimp -beta -proj only;simp only;rw [A8 (by omega),ai,FI (by omega),ai,uh (by omega),ai,xk (by omega),ai,A7 (by omega),ai];refine fA w.1.length (λi=>((i:Int),w.1)) (λx=>x.1.toNat) (λi _=>by simp) _ (λi d a=> ?_) (λa=> ?_)
 ·grind[aV,aU,ru,cx,List.set_getElem_self]
 ·simp only;rw [aq (by omega),aa,Ar.B9 (by omega),ai,xm (by omega),ai,Ol (by omega),ai,FF (by omega),ai];refine Lg (l:=A) b (λi d a q r t v y=> ?_) (λa e=> ?_)
  ·grind[List.set_getElem_self]
  simp only [e,aa];refine Le (l:=j) (by omega) c.sh (λi d a q r t v y C=> ?_) (λa e=> ?_)
  all_goals grind[List.set_getElem_self]
noncomputable def gr (g:cM) (f:List dC×Int) (q key:Int):cM×cD×Int:=
 if f.2=0 then (if (Ar.iZ g.2.1 q key).2.2=0 then ((g.1,(Ar.iZ g.2.1 q key).1,f.1,g.2.2.2),(Ar.iZ g.2.1 q key).2.1,0) else (zG,(0,[],0),(Ar.iZ g.2.1 q key).2.2)) else (zG,(0,[],0),f.2)
theorem ED (h:Ar.iZ a q key=(b,t,0)):Ar.valid b:=by
 unfold Ar.iZ at h;split at h
 ·rename_i c;simp only [aL,dn] at h;obtain ⟨rfl,_⟩:=h;exact (Ar.Hi (aM rfl (aM rfl c))).2.2.2.2.2.2 ⟨by grind,λh=>by grind⟩
 grind
theorem qT (k:GdOk g) (b:∀m,f=(m,0)->RtOk m) (h:gr g f q key=(v,t,0)):GdOk v/\v.1=g.1:=by
 unfold gr at h;split at h
 ·rename_i c;split at h
  ·rename_i d;simp only [aL,dn] at h;obtain ⟨rfl,_⟩:=h;exact ⟨⟨k.wl,ED (q:=q) (key:=key) (a:=g.2.1) (aM rfl (aM rfl d)),b _ (aM rfl c),k.ky,k.kr,k.ct⟩,rfl⟩
  grind
 grind
theorem GdOk.own (k:GdOk g):rA g=some g:=agN k.wl.sm k.ar (by have:=k.rt.few;omega) k.ky (by have:=k.ct.few;omega)
theorem GdOk.own2 (k:GdOk g) :eD (g,u)=some (g,u):=agT k.wl.sm k.ar (by have:=k.rt.few;omega) k.ky (by have:=k.ct.few;omega)
theorem NJ (k:GdOk g) (a:ay q) (h:ay key):oh (g,q,key)=some (gr g (gu g.2.2.1 q key) q key):=by
 unfold oh FT gr;simp only;rw [wJ k,ai,ag2 k.rt,ai];by_cases c:(gu g.2.2.1 q key).2=0
 ·simp only [c,al,ax,aa,aI];rw [Ar.TL a.1,ai];by_cases d:(Ar.iZ g.2.1 q key).2.2=0
  ·simp only [d,al,ax,aa,aI];obtain ⟨m,e⟩:∃m,gu g.2.2.1 q key=(m,0):=⟨_,aM rfl c⟩;obtain ⟨b,t,f⟩:∃b t,Ar.iZ g.2.1 q key=(b,t,0):=⟨_,_,aM rfl (aM rfl d)⟩;rw [e,f];have i:GdOk (g.1,b,m,g.2.2.2):=⟨k.wl,ED f,tz k.rt a h e,k.ky,k.kr,k.ct⟩;rw [i.own];rfl
  grind[zG,zW]
 grind[zG,zW]
theorem agV (k:GdOk g) (f:ay q) (h:ay key):Bu (g,q,key)=some (gr g (oY g.2.2.1 q key) q key):=by
 unfold Bu FR gr;simp only;rw [wJ k,ai,agE k.rt,ai];by_cases a:(oY g.2.2.1 q key).2=0
 ·simp only [a,al,ax,aa,aI];rw [Ar.TL f.1,ai];by_cases c:(Ar.iZ g.2.1 q key).2.2=0
  ·simp only [c,al,ax,aa,aI];obtain ⟨m,d⟩:∃m,oY g.2.2.1 q key=(m,0):=⟨_,aM rfl a⟩;obtain ⟨b,t,e⟩:∃b t,Ar.iZ g.2.1 q key=(b,t,0):=⟨_,_,aM rfl (aM rfl c)⟩;rw [d,e];have i:GdOk (g.1,b,m,g.2.2.2):=⟨k.wl,ED e,DX k.rt h d,k.ky,k.kr,k.ct⟩;rw [i.own];rfl
  grind[zG,zW]
 grind[zG,zW]
def nQ (g:cM) (q:Int):cM×Int:=if (nP g.2.2.1 q).2=0 then ((g.1,g.2.1,(nP g.2.2.1 q).1,g.2.2.2),0) else (zG,(nP g.2.2.1 q).2)
theorem KG (k:GdOk g) (h:nQ g q=(v,0)):GdOk v/\v.1=g.1:=by
 unfold nQ at h;split at h
 ·rename_i a;simp only [aL,dn] at h;subst h;exact ⟨⟨k.wl,k.ar,KF k.rt (aM rfl a),k.ky,k.kr,k.ct⟩,rfl⟩
 ·rename_i a;simp only [aL] at h;exact absurd h.2 a
theorem agU (k:GdOk g) :Br (g,q)=some (nQ g q):=by
 unfold Br nQ;simp only;rw [wJ k,ai,agD k.rt,ai];by_cases a:(nP g.2.2.1 q).2=0
 ·simp only [a,al,ax,aa,aI];obtain ⟨m,b⟩:∃m,nP g.2.2.1 q=(m,0):=⟨_,aM rfl a⟩;rw [b];have c:GdOk (g.1,g.2.1,m,g.2.2.2):=⟨k.wl,k.ar,KF k.rt b,k.ky,k.kr,k.ct⟩;rw [c.own];rfl
 ·simp only [a,aK,bm,ah,aH,zG,zW,al,ax,aa,ai]
theorem Fc (h:RqOk r):ay (fP r).1:=by
 unfold fP;split
 ·split
  ·exact h.n
  ·split
   ·unfold ga;split
    ·exact bN
    ·split
     ·exact bN
     ·rename_i b;exact ⟨yU (λx a=>(h.its x a).2.1),by omega⟩
   ·exact bN
 ·exact bN
noncomputable def nN (g:cM) (r:Rq) (s:Int):D1:=(g.1.2.2.2.2.2.2.2,r.me,(fP r).1,s)
def lP (l:List dC) (q:Int):Int×Int:=if aN RK q l=true then (if (bw RK zR q l).2.2=true then (0,13) else ((bw RK zR q l).2.1,0)) else (0,5)
noncomputable def wc (g) (r) (s):=
 if (fP r).2≠0 then (false,1) else if (lP g.2.2.1 r.tok.1).2≠0 then (false,0) else
 if (Ar.mg g.2.1 (lP g.2.2.1 r.tok.1).1 r.tok).2≠0\/(Ar.mg g.2.1 (lP g.2.2.1 r.tok.1).1 r.tok).1=false then (false,(Ar.mg g.2.1 (lP g.2.2.1 r.tok.1).1 r.tok).2) else
 if (Cv.mZ r.tok.2.1 (nN g r s)).2≠0\/(Cv.mZ r.tok.2.1 (nN g r s)).1=false then (false,(Cv.mZ r.tok.2.1 (nN g r s)).2) else
 if (nV g.2.2.2.2 r.tok.1 r.tok.2.1 (fP r).1).2≠0\/(nV g.2.2.2.2 r.tok.1 r.tok.2.1 (fP r).1).1=false then (false,(nV g.2.2.2.2 r.tok.1 r.tok.2.1 (fP r).1).2) else (true,0)
theorem On (k:GdOk g) (a:RqOk r) (m:ay s):rG (g,r,s)=some (wc g r s):=by
 have i:=Fc a;have d:Cv.Gf (nN g r s):=⟨k.wl.tick,a.me,i,m⟩;unfold rG FA wc;dsimp -beta -proj only;simp only;rw [Fs a,ai];by_cases j:(fP r).2=0
 ·simp only [j,al,ax,bJ,ah,wJ k,ai,aa,cU,dm,aH];rw [af4 k.rt,ai];show (bif (!decide ((lP g.2.2.1 r.tok.1).2=0)) then _ else _)=_;by_cases l:(lP g.2.2.1 r.tok.1).2=0
  ·simp only [l,al,ax,aa,dm,aH];have e:wN (g.2.1,(lP g.2.2.1 r.tok.1).1,r.2.2.2.1,r.2.2.2.2.1,r.2.2.2.2.2.1)=some (Ar.mg g.2.1 (lP g.2.2.1 r.tok.1).1 r.tok):=Ar.ahx a.tok a.l1;have f:wM (r.2.2.2.2.1,g.1.2.2.2.2.2.2.2,r.2.1,(fP r).1,s)=some (Cv.mZ r.tok.2.1 (nN g r s)):=Cv.ahk a.tok.2.1 d;have h:wL (g.2.2.2.2,r.2.2.2.1,r.2.2.2.2.1,(fP r).1)=some (nV g.2.2.2.2 r.tok.1 r.tok.2.1 (fP r).1):=af1 k.ct a.tok.2.1 i;rw [show ae 0 3=true from rfl,ah]
   erw [e]
   rw [ai];cases o:(Ar.mg g.2.1 (lP g.2.2.1 r.tok.1).1 r.tok).1 <;>by_cases b:(Ar.mg g.2.1 (lP g.2.2.1 r.tok.1).1 r.tok).2=0
   ·simp [b]
   ·simp [b]
   ·simp only [b,al,ax,aa,dm,qu,DR,aH];rw [show ae 1 3=true from rfl,ah,f,ai];cases p:(Cv.mZ r.tok.2.1 (nN g r s)).1 <;>by_cases c:(Cv.mZ r.tok.2.1 (nN g r s)).2=0
    ·simp [c]
    ·simp [c]
    ·simp only [c,al,ax,aa,dm,qu,DR,aH];rw [show ae 2 3=true from rfl,ah,h,ai];cases q:(nV g.2.2.2.2 r.tok.1 r.tok.2.1 (fP r).1).1 <;>by_cases n:(nV g.2.2.2.2 r.tok.1 r.tok.2.1 (fP r).1).2=0 <;>simp [n]
    ·simp [c]
   ·simp [b]
  ·simp only [l,aK,bm,ah,iI,aI]
 ·simp only [j,aK,bm,ah,cU,iI,aI,show (true==false)=false from rfl,aa,ai,show decide ((1:Int)=0)=false from rfl]
end Go.Proofs.YtkihadlgknhpkaaGreatDoor.T
