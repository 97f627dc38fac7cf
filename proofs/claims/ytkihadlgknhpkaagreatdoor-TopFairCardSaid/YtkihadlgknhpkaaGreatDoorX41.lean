/- Part 41: lemmas that the last text needs. -/
import Derived.Test.YtkihadlgknhpkaaGreatDoorX40
set_option linter.all false
set_option autoImplicit true
set_option relaxedAutoImplicit true
namespace Go.Proofs.YtkihadlgknhpkaaGreatDoor.T
open Go Go.Fw Go.Proofs RB
set_option maxRecDepth 20000
def iQ (r):=(dK r).flatMap bG
theorem zM {l:List br} (h:∀q ∈ l,q.2.length<=k):(l.flatMap bG).length<= (18+k)*l.length:=
 Ms λq a=>by have:=E2 q;have:=h q a;omega
theorem Em (k:dR r):(iQ r).length<=2500:=by
 have j:=vZ k;obtain ⟨m,_⟩:=sZ k;have c:=λn=>fD n
 have e:iQ r=((([(1,aC r.id),(2,aC r.me)]++opt (!decide (r.key=0)) 3 (aC r.key)).flatMap bG++bG (4,dA r.tok))++ ((opt (!decide (r.a=0)) 5 (aC r.a)++opt (!decide (r.n=0)) 6 (aC r.n)++opt (!decide (r.till=0)) 7 (aC r.till)).flatMap bG))++ (ba eI 16 r.its).flatMap bG++ (ba bl 32 r.cvs).flatMap bG:=by
  unfold iQ dK;simp only [vF,fK,kJ,DK,ji]
 rw [e];have o:=gz (!decide (r.key=0)) 3 (aC r.key);have p:=gz (!decide (r.a=0)) 5 (aC r.a);have s:=gz (!decide (r.n=0)) 6 (aC r.n);have t:=gz (!decide (r.till=0)) 7 (aC r.till)
 have b1:=zM (l:= [(1,aC r.id),(2,aC r.me)]++opt (!decide (r.key=0)) 3 (aC r.key)) (k:=9) (by
  intro q b;simp only [cz,a8,eu,ep] at b;rcases b with (rfl|rfl)|b
  ·exact c _
  ·exact c _
  ·rw [gp b];exact c _)
 have u:(bG (4,dA r.tok)).length<=504:=by
  have:=E2 (4,dA r.tok);have:(dA r.tok).length<=486:=qI k.2;simp only at*;omega
 have f:=zM (l:=opt (!decide (r.a=0)) 5 (aC r.a)++opt (!decide (r.n=0)) 6 (aC r.n)++opt (!decide (r.till=0)) 7 (aC r.till)) (k:=9) (by
  intro q b;simp only [cz] at b
  rcases b with (b|b)|b <;>(rw [gp b];exact c _))
 have g:=zM (l:=ba eI 16 r.its) (k:=18) (by
  intro q b;obtain ⟨⟨x,h,d⟩,_⟩:=iT eI _ _ _ b
  rw [d];exact E3 x)
 have i:=zM (l:=ba bl 32 r.cvs) (k:=27) (by
  intro q b;obtain ⟨⟨x,h,d⟩,_⟩:=iT bl _ _ _ b
  rw [d];exact tw x)
 simp only [cq,kO,aW,dy] at b1 f g i ⊢;omega
open Classical in
theorem NX {r:Rq} (h:RqOk r):tO r=some (if dR r then (iQ r,0) else ([],1)):=by
 have a:pD (r.1,(r.2.1,(r.2.2.1,(r.2.2.2.1,(r.2.2.2.2.1,(r.2.2.2.2.2.1,(r.2.2.2.2.2.2.1,(r.2.2.2.2.2.2.2.1,(r.2.2.2.2.2.2.2.2.1,(r.2.2.2.2.2.2.2.2.2.1,r.2.2.2.2.2.2.2.2.2.2))))))))))=some (if dR r then 0 else 1):=Ft h;unfold tO;simp only [a,ai];by_cases k:dR r
 ·have b:re (r.1,(r.2.1,(r.2.2.1,(r.2.2.2.1,(r.2.2.2.2.1,(r.2.2.2.2.2.1,(r.2.2.2.2.2.2.1,(r.2.2.2.2.2.2.2.1,(r.2.2.2.2.2.2.2.2.1,(r.2.2.2.2.2.2.2.2.2.1,r.2.2.2.2.2.2.2.2.2.2))))))))))=some (dK r,0):=NO h k;have c:=Em k
  have d:kM (dK r)=(iQ r,0):=by
   unfold kM;rw [aw (zb k),ak (by unfold iQ at c;omega)];rfl
  have hd:decide (4096<((iQ r).length:Int))=false:=aq (by omega);simp only [k,aI,b,ai,al,ax,aa,Ai (za h k),d,hd]
 ·simp [k]
def zQ:Rq:=(0,(0,(0,(0,([],(0,(0,(0,(0,([],[]))))))))))
def Rq.setId (r:Rq) (n:Int):Rq:=(n,r.2)
def Rq.setMe (r:Rq) (n:Int):Rq:=(r.1,(n,r.2.2))
def Rq.setKey (r:Rq) (n:Int):Rq:=(r.1,(r.2.1,(n,r.2.2.2)))
def Rq.setTok (r:Rq) (t:fm):Rq:=(r.1,(r.2.1,(r.2.2.1,(t.1,(t.2.1,(t.2.2,r.2.2.2.2.2.2))))))
def Rq.setA (r:Rq) (n:Int):Rq:=(r.1,(r.2.1,(r.2.2.1,(r.2.2.2.1,(r.2.2.2.2.1,(r.2.2.2.2.2.1,(n,r.2.2.2.2.2.2.2)))))))
def Rq.setN (r:Rq) (n:Int):Rq:=(r.1,(r.2.1,(r.2.2.1,(r.2.2.2.1,(r.2.2.2.2.1,(r.2.2.2.2.2.1,(r.2.2.2.2.2.2.1,(n,r.2.2.2.2.2.2.2.2))))))))
def Rq.setTill (r:Rq) (n:Int):Rq:=(r.1,(r.2.1,(r.2.2.1,(r.2.2.2.1,(r.2.2.2.2.1,(r.2.2.2.2.2.1,(r.2.2.2.2.2.2.1,(r.2.2.2.2.2.2.2.1,(n,r.2.2.2.2.2.2.2.2.2)))))))))
def Rq.addI (r:Rq) (x:It):Rq:=(r.1,(r.2.1,(r.2.2.1,(r.2.2.2.1,(r.2.2.2.2.1,(r.2.2.2.2.2.1,(r.2.2.2.2.2.2.1,(r.2.2.2.2.2.2.2.1,(r.2.2.2.2.2.2.2.2.1,(r.its++ [x],r.cvs))))))))))
def Rq.addC (r:Rq) (x:Cv):Rq:=(r.1,(r.2.1,(r.2.2.1,(r.2.2.2.1,(r.2.2.2.2.1,(r.2.2.2.2.2.1,(r.2.2.2.2.2.2.1,(r.2.2.2.2.2.2.2.1,(r.2.2.2.2.2.2.2.2.1,(r.its,r.cvs++ [x]))))))))))
noncomputable def jO (r:Rq) (q:br):=
 if q.1=4 then (if (fC q.2).2=0 then some (r.setTok (fC q.2).1) else none)
 else if 48<=q.1 then (if (eH q.2).2=0 then some (r.addC (eH q.2).1) else none)
 else if 32<=q.1 then (match bU q.2 with| ([h,n],0)=>some (r.addI (h,n))|_=>none)
 else none
noncomputable def eG (r:Rq) (q:br):Option Rq:=match bU q.2 with
 | ([n],0)=>if q.1=1 then some (r.setId n) else if q.1=3 then some (r.setKey n) else if q.1=5 then some (r.setA n) else if q.1=6 then some (r.setN n) else if q.1=7 then some (r.setTill n)
   else if q.1=2/\n<16 then some (r.setMe n) else jO r q
 |_=>jO r q
noncomputable def dh:Rq->List br->Option Rq
 |r,[]=>some r
 |r,q::l=>match eG r q with|some j=>dh j l|none=>none
theorem KP (h:RqOk r) (g:Bs q.2) (s:r.its.length<=1000/\r.cvs.length<=1000) (e:jO r q=some j):RqOk j/\j.its.length<=r.its.length+1/\j.cvs.length<=r.cvs.length+1:=by
 have i:=wD g;unfold jO at e;split at e
 ·split at e
  ·rename_i k;obtain ⟨l,t⟩:=L6 g k;simp only [aB] at e;subst e;exact ⟨⟨h.id,h.me,h.key,l,h.a,h.n,h.till,h.its,h.cvs,by simp only [Rq.tok,Rq.setTok];omega,h.l2,h.l3⟩,dI _,dI _⟩
  ·simp at e
 ·split at e
  ·split at e
   ·rename_i m;obtain ⟨_,o,_⟩:=L9 g (d:=(eH q.2).1) (aM rfl m);simp only [aB] at e;subst e;have f:(r.addC (eH q.2).1).cvs=r.cvs++ [(eH q.2).1]:=rfl;refine ⟨⟨h.id,h.me,h.key,h.tok,h.a,h.n,h.till,h.its,?_,h.l1,h.l2,?_⟩,dI _,?_⟩
    ·rw [f];intro c b;rcases cz.1 b with b|b
     ·exact h.cvs c b
     ·simp only [eP] at b;rw [b];exact o
    ·rw [f,cq,nI];omega
    ·rw [f,cq,nI];exact aR _
   ·simp at e
  ·split at e
   ·split at e
    ·rename_i a n p;rw [p] at i;simp only [aB] at e;subst e;have f:(r.addI (a,n)).its=r.its++ [(a,n)]:=rfl;refine ⟨⟨h.id,h.me,h.key,h.tok,h.a,h.n,h.till,?_,h.cvs,h.l1,?_,h.l3⟩,?_,dI _⟩
     ·rw [f];intro c b;rcases cz.1 b with b|b
      ·exact h.its c b
      ·simp only [eP] at b;rw [b];exact ⟨i a (by simp),i n (by simp)⟩
     ·rw [f,cq,nI];omega
     ·rw [f,cq,nI];exact aR _
    ·simp at e
   ·simp at e
theorem KO (h:RqOk r) (d:Bs q.2) (e:r.its.length<=1000/\r.cvs.length<=1000) (b:eG r q=some j):RqOk j/\j.its.length<=r.its.length+1/\j.cvs.length<=r.cvs.length+1:=by
 have f:=wD d;unfold eG at b;split at b
 ·rename_i n g;rw [g] at f;have c:=f n (by simp);split at b
  ·simp only [aB] at b;subst b;exact ⟨⟨c,h.me,h.key,h.tok,h.a,h.n,h.till,h.its,h.cvs,h.l1,h.l2,h.l3⟩,dI _,dI _⟩
  split at b
  ·simp only [aB] at b;subst b;exact ⟨⟨h.id,h.me,c,h.tok,h.a,h.n,h.till,h.its,h.cvs,h.l1,h.l2,h.l3⟩,dI _,dI _⟩
  split at b
  ·simp only [aB] at b;subst b;exact ⟨⟨h.id,h.me,h.key,h.tok,c,h.n,h.till,h.its,h.cvs,h.l1,h.l2,h.l3⟩,dI _,dI _⟩
  split at b
  ·simp only [aB] at b;subst b;exact ⟨⟨h.id,h.me,h.key,h.tok,h.a,c,h.till,h.its,h.cvs,h.l1,h.l2,h.l3⟩,dI _,dI _⟩
  split at b
  ·simp only [aB] at b;subst b;exact ⟨⟨h.id,h.me,h.key,h.tok,h.a,h.n,c,h.its,h.cvs,h.l1,h.l2,h.l3⟩,dI _,dI _⟩
  split at b
  ·rename_i i;simp only [aB] at b;subst b;exact ⟨⟨h.id,⟨by have:=c.1;simp only [Rq.setMe,Rq.me];omega,by simp only [Rq.setMe,Rq.me];omega⟩,h.key,h.tok,h.a,h.n,h.till,h.its,h.cvs,h.l1,h.l2,h.l3⟩,dI _,dI _⟩
  ·exact KP h d e b
 ·exact KP h d e b
theorem KX:∀ (l m) (r),dh r (l++m)=(dh r l).bind λj=>dh j m
 | [],m,r=>rfl
 |q::l,m,r=>by
  rw [dP,dh,dh]
  cases eG r q with
  |none=>rfl
  |some j=>exact KX l m j
theorem zg (a:c=true->eG r (t,v)=some j) (b:c=false->r=j):dh r (opt c t v)=some j:=by
 cases c with
 |true=>simp [opt,dh,a rfl]
 |false=>simp [opt,dh,b rfl]
theorem KU:∀ (l) (i) (r),16<=i->i+l.length<=32->(∀x ∈ l,ay x.1/\ay x.2)->dh r (ba eI i l)=some (r.1,(r.2.1,(r.2.2.1,(r.2.2.2.1,(r.2.2.2.2.1,(r.2.2.2.2.2.1,(r.2.2.2.2.2.2.1,(r.2.2.2.2.2.2.2.1,(r.2.2.2.2.2.2.2.2.1,(r.its++l,r.cvs))))))))))
 | [],i,r,_,_,_=>by simp [ba,dh]
 |x::l,i,r,I,j,h=>by
  obtain ⟨J,C⟩:=h x (by simp);rw [aW] at j
  have a:bU (eI x)=([x.1,x.2],0):=by
   unfold eI;refine zY ?_ (by simp);intro n b;simp only [a8,eu,ep] at b;rcases b with rfl|rfl
   ·exact J
   ·exact C
  rw [ba,dh]
  have c:eG r (((16+i:Nat):Int),eI x)=some (r.addI x):=by
   unfold eG;simp only [a];unfold jO;simp only [a];rw [ak (by omega),ak (by omega),aw (by omega)]
  rw [c];simp only;rw [KU l (i+1) _ (by omega) (by omega) (λy C=>h y (iL _ C))];simp [Rq.addI,Rq.its,Rq.cvs]
theorem aeG (d:dV c) (e:cr c=0) (r) (f:48<=t):eG r (t,bl c)=some (r.addC c):=by
 have a:=Ma d e [];rw [ji,aw rfl] at a
 have b:jO r (t,bl c)=some (r.addC c):=by
  unfold jO;simp only [a];rw [ak (by omega),aw (by omega),aw aO]
 unfold eG;split
 ·rw [ak (by simp only;omega),ak (by simp only;omega),ak (by simp only;omega),ak (by simp only;omega),ak (by simp only;omega),ak (by simp only;omega)];exact b
 ·exact b
theorem KW:∀ (l) (i) (r),32<=i->(∀x ∈ l,dV x/\cr x=0)->dh r (ba bl i l)=some (r.1,(r.2.1,(r.2.2.1,(r.2.2.2.1,(r.2.2.2.2.1,(r.2.2.2.2.2.1,(r.2.2.2.2.2.2.1,(r.2.2.2.2.2.2.2.1,(r.2.2.2.2.2.2.2.2.1,(r.its,r.cvs++l))))))))))
 | [],i,r,_,_=>by simp [ba,dh]
 |x::l,i,r,C,h=>by
  obtain ⟨I,j⟩:=h x (by simp);rw [ba,dh,aeG I j r (by omega)];simp only;rw [KW l (i+1) _ (by omega) (λy j=>h y (iL _ j))];simp [Rq.addC,Rq.its,Rq.cvs]
theorem ac1 (h:RqOk r) (k:dR r):dh zQ (dK r)=some r:=by
 have F:=vZ k;obtain ⟨b,g⟩:=sZ k;have s:=Ey k;have j:=k.2;obtain ⟨t,G,u,v,w,y,z,A,B,_,_,_⟩:=h;obtain ⟨i,m,c,d,L,e,a,n,l,its,cvs⟩:=r;simp only [Rq.id,Rq.me,Rq.key,Rq.tok,Rq.a,Rq.n,Rq.till,Rq.its,Rq.cvs] at*;have C:ay m:=⟨by omega,by omega⟩;unfold dK;simp only [Rq.id,Rq.me,Rq.key,Rq.tok,Rq.a,Rq.n,Rq.till,Rq.its,Rq.cvs];simp only [KX,fK]
 have D:dh zQ [(1,aC i),(2,aC m)]=some (i,(m,zQ.2.2)):=by
  have o:eG zQ (1,aC i)=some (zQ.setId i):=by
   unfold eG;simp only [lY t];simp
  have f:eG (zQ.setId i) (2,aC m)=some ((zQ.setId i).setMe m):=by
   unfold eG;simp only [lY C];rw [ak (by decide),ak (by decide),ak (by decide),ak (by decide),ak (by decide),aw ⟨by trivial,by omega⟩]
  simp only [dh,o,f];rfl
 rw [D,ai]
 have s3:dh (i,(m,zQ.2.2)) (opt (!decide (c=0)) 3 (aC c))=some (i,(m,(c,zQ.2.2.2))):=by
  refine zg (λb=> ?_) (λb=> ?_)
  ·unfold eG;simp only [lY u];simp [Rq.setKey]
  ·simp at b;subst b;rfl
 rw [s3,ai]
 have s4:dh (i,(m,(c,zQ.2.2.2))) [(4,dA (d,(L,e)))]=some (i,(m,(c,(d,(L,(e,zQ.2.2.2.2.2.2)))))):=by
  have f:jO (i,(m,(c,zQ.2.2.2))) (4,dA (d,(L,e)))=some (i,(m,(c,(d,(L,(e,zQ.2.2.2.2.2.2)))))):=by
   unfold jO;simp only [L8 v j];simp [Rq.setTok]
  have o:eG (i,(m,(c,zQ.2.2.2))) (4,dA (d,(L,e)))=some (i,(m,(c,(d,(L,(e,zQ.2.2.2.2.2.2)))))):=by
   unfold eG;split
   ·rw [ak (by simp),ak (by simp),ak (by simp),ak (by simp),ak (by simp),ak (λq=>absurd q.1 (by simp))];exact f
   ·exact f
  simp only [dh,o]
 rw [s4,ai]
 have E:dh (i,(m,(c,(d,(L,(e,zQ.2.2.2.2.2.2)))))) (opt (!decide (a=0)) 5 (aC a))=some (i,(m,(c,(d,(L,(e,(a,zQ.2.2.2.2.2.2.2))))))):=by
  refine zg (λb=> ?_) (λb=> ?_)
  ·unfold eG;simp only [lY w];simp [Rq.setA]
  ·simp at b;subst b;rfl
 rw [E,ai]
 have s6:dh (i,(m,(c,(d,(L,(e,(a,zQ.2.2.2.2.2.2.2))))))) (opt (!decide (n=0)) 6 (aC n))=some (i,(m,(c,(d,(L,(e,(a,(n,zQ.2.2.2.2.2.2.2.2)))))))):=by
  refine zg (λb=> ?_) (λb=> ?_)
  ·unfold eG;simp only [lY y];simp [Rq.setN]
  ·simp at b;subst b;rfl
 rw [s6,ai]
 have s7:dh (i,(m,(c,(d,(L,(e,(a,(n,zQ.2.2.2.2.2.2.2.2)))))))) (opt (!decide (l=0)) 7 (aC l))=some (i,(m,(c,(d,(L,(e,(a,(n,(l,zQ.2.2.2.2.2.2.2.2.2))))))))):=by
  refine zg (λb=> ?_) (λb=> ?_)
  ·unfold eG;simp only [lY z];simp [Rq.setTill]
  ·simp at b;subst b;rfl
 rw [s7,ai,KU its 16 _ (by omega) (by omega) A,ai,KW cvs 32 _ (by omega) (λx p=>⟨B x p,g x p⟩)];simp [Rq.its,Rq.cvs,zQ]
theorem KS:∀ (l) (r C),RqOk r->r.its.length+l.length<=1000/\r.cvs.length+l.length<=1000->(∀q ∈ l,Bs q.2/\q.2.length<=4096)->dh r l=some C->RqOk C
 | [],r,C,h,_,_,j=>by simp only [dh,aB] at j;subst j;exact h
 |q::l,r,C,h,R,J,j=>by
  rw [dh] at j;rw [aW] at R
  cases I:eG r q with
  |none=>rw [I] at j;simp at j
  |some U=>
   rw [I] at j;obtain ⟨o1,o2,o3⟩:=KO h (J q (by simp)).1 (by omega) I;exact KS l U C o1 (by omega) (λx a=>J x (iL _ a)) j
theorem yS:RqOk zQ where
 id:=⟨by decide,by decide⟩
 me:=⟨by decide,by decide⟩
 key:=⟨by decide,by decide⟩
 tok:=⟨⟨by decide,by decide⟩,by simp [zQ],by decide,by decide⟩
 a:=⟨by decide,by decide⟩
 n:=⟨by decide,by decide⟩
 till:=⟨by decide,by decide⟩
 its:=by simp [zQ,Rq.its]
 cvs:=by simp [zQ,Rq.cvs]
 l1:=by simp [zQ]
 l2:=by simp [zQ,Rq.its]
 l3:=by simp [zQ,Rq.cvs]
open Classical in
noncomputable def n9 (b:List Int) (e:Int):Option Rq->Rq×Int
 |none=>(zQ,2)
 |some r=>if e=0/\dR r/\iQ r=b then (r,0) else (zQ,2)
noncomputable def fM (b):=if 4096<b.length then (zQ,4) else n9 b (du b).2 (dh zQ (du b).1)
theorem ad9 (c:Bs b) (h:(fM b).2=0):RqOk (fM b).1/\dR (fM b).1/\iQ (fM b).1=b:=by
 unfold fM at h ⊢;split at h
 ·simp at h
 rename_i d;rw [ak d];obtain ⟨f,m2⟩:=ES c
 cases a:dh zQ (du b).1 with
 |none=>rw [a] at h;simp [n9] at h
 |some r=>
  rw [a] at h;have e:=KS _ _ _ yS (by simp [zQ,Rq.its,Rq.cvs];omega) m2 a;unfold n9 at h ⊢;simp only at h ⊢;split at h
  ·rename_i q;rw [aw q];exact ⟨e,q.2.1,q.2.2⟩
  ·simp at h
theorem aec (c:b.length<=4096) (h:(fM b).2≠0):fM b=(zQ,2):=by
 unfold fM at h ⊢;rw [ak (by omega)] at h ⊢
 cases a:dh zQ (du b).1 with
 |none=>rfl
 |some r=>
  rw [a] at h;unfold n9 at h ⊢;simp only at h ⊢;split at h
  ·simp at h
  ·rename_i q;rw [ak q]
theorem aeb (h:RqOk r) (k:dR r):fM (iQ r)=(r,0):=by
 have hlen:=Em k;have a:du (iQ r)=(dK r,0):=L4 (za h k) (zb k) (by unfold iQ at hlen;omega);unfold fM;rw [ak (by omega),a];simp only [ac1 h k];unfold n9;simp only;rw [aw ⟨by trivial,k,by trivial⟩]
theorem acW (h:RqOk r) (k:dR r):Bs (iQ r):=Mr (za h k)
end Go.Proofs.YtkihadlgknhpkaaGreatDoor.T
namespace Go.Proofs.YtkihadlgknhpkaaGreatDoor.T
open Go Go.Fw Go.Proofs RB
set_option maxRecDepth 20000
abbrev SQ:=Int×Int×List It×List Cv× ((Int× (Int× (Int× (Int× (List Cv× (Int× (Int× (Int×Int))))))))× (Unit×Unit))
def qK (x:SQ):Rq:=(x.2.2.2.2.1.1,(x.2.2.2.2.1.2.1,(x.2.2.2.2.1.2.2.1,(x.2.2.2.2.1.2.2.2.1,(x.2.2.2.2.1.2.2.2.2.1,(x.2.2.2.2.1.2.2.2.2.2.1,(x.2.2.2.2.1.2.2.2.2.2.2.1,(x.2.2.2.2.1.2.2.2.2.2.2.2.1,(x.2.2.2.2.1.2.2.2.2.2.2.2.2,(x.2.2.1,x.2.2.2.1))))))))))
def mF (q i:Int) (r:Rq):SQ:=(q,(i,(r.its,(r.cvs,((r.1,(r.2.1,(r.2.2.1,(r.2.2.2.1,(r.2.2.2.2.1,(r.2.2.2.2.2.1,(r.2.2.2.2.2.2.1,(r.2.2.2.2.2.2.2.1,r.2.2.2.2.2.2.2.2.1)))))))),((),()))))))
theorem acX (h:bU q.2=([n],0)):eG r q=if q.1=1 then some (r.setId n) else if q.1=3 then some (r.setKey n) else if q.1=5 then some (r.setA n) else if q.1=6 then some (r.setN n) else if q.1=7 then some (r.setTill n)
 else if q.1=2/\n<16 then some (r.setMe n) else jO r q:=by
 unfold eG;split
 ·rename_i b a;rw [h] at a;simp only [aL,oU,dn] at a;rw [a]
 ·rename_i a;exact absurd h (a n)
theorem acY (h:¬ ((bU q.2).2=0/\(bU q.2).1.length=1)):eG r q=jO r q:=by
 unfold eG;split
 ·rename_i n a;exact absurd (by rw [a];exact ⟨rfl,rfl⟩) h
 ·rfl
set_option maxHeartbeats 4000000 in
theorem Ov {b:List Int} (hb:Bs b):xt b=some (fM b):=by
 unfold xt fM;dsimp -beta -proj only;by_cases hl:4096<b.length
 ·have:(4096:Int) <(b.length:Int):=by omega
  rw [aw hl];simp only [this,al,ah];rfl
 ·have hl':¬ (4096:Int) <(b.length:Int):=by omega
  rw [ak hl];simp only [hl',aK,aa,FB hb,ai,bC];obtain ⟨m1,m2⟩:=ES hb;generalize (du b).2=e;generalize (du b).1=m at m1 m2 ⊢;refine bE (λ(x:SQ)=>∃i:Nat,x.2.1=(i:Int)/\i<=m.length/\RqOk (qK x)/\(qK x).its.length<=i/\(qK x).cvs.length<=i) (λx=>m.length - x.2.1.toNat) (λx=>n9 b e (dh (qK x) (m.drop x.2.1.toNat))) ?_ (mF 0 0 zQ) ⟨0,rfl,by omega,yS,by simp [qK,mF,zQ,Rq.its],by simp [qK,mF,zQ,Rq.cvs]⟩;rintro ⟨q,i',I,L,⟨id,me,o,u,y,A,a,n,p⟩,u1,u2⟩ ⟨i,H,hi,E,J,K⟩ B C;simp only at H;subst H;simp only [qK] at E J K C ⊢;rw [bu];by_cases F:i<m.length
  ·have V:((i:Int) <(m.length:Int)):=by omega
   obtain ⟨j,hql⟩:=m2 _ (bt F);simp only [Rq.its,Rq.cvs] at J K;simp only [V,al,ah,bp (dp i) V,aU (t:=tR) F,NS j,ai];rw [RB.dO (n:=(i:Int)+1) (by omega) (by omega),gT F,dh]
   have c:∀D,eG (id,(me,(o,(u,(y,(A,(a,(n,(p,(I,L)))))))))) m[i]=some D->B (mF q ((i:Int)+1) D)=some (n9 b e (dh D (m.drop (i+1)))):=by
    intro D d;obtain ⟨o1,o2,o3⟩:=KO E j (by simp only [Rq.its,Rq.cvs];omega) d;simp only [Rq.its,Rq.cvs] at o2 o3;have:=C (mF q ((i:Int)+1) D) ⟨i+1,by simp [mF],by omega,o1,by simp only [mF,Rq.its,Rq.cvs];omega,by simp only [mF,Rq.its,Rq.cvs];omega⟩ (by simp only [mF];omega);rw [this];simp only [mF];congr 3
   have kC:(L.length+1)*24<=az:=by unfold az;omega
   have kI:(I.length+1)*16<=az:=by unfold az;omega
   generalize hq:m[i]=qq at*;obtain ⟨t,v⟩:=qq;simp only at j hql ⊢;have eC:=NP (b:=v) j (by omega);have eK:=NR (b:=v) j;have hu:=wD j;simp only [eC,eK,ai,kC,kI,al,ah]
   have l:eG (id,(me,(o,(u,(y,(A,(a,(n,(p,(I,L)))))))))) (t,v)=jO (id,(me,(o,(u,(y,(A,(a,(n,(p,(I,L)))))))))) (t,v)->
    (bif decide (t=4) then
     (bif !decide ((fC v).snd=0) then some (((0,0,0,0,([]:List (Int× (Int×Int))),0,0,0,0,([]:List (Int×Int)),([]:List (Int× (Int×Int)))),2):Rq×Int)
     else B (q,(i:Int)+1,I,L,(id,me,o,(fC v).fst.fst,(fC v).fst.snd.fst,(fC v).fst.snd.snd,a,n,p),(),()))
    else
     bif decide (48<=t) then
      (bif !decide ((eH v).snd=0) then some ((0,0,0,0,([]:List (Int× (Int×Int))),0,0,0,0,([]:List (Int×Int)),([]:List (Int× (Int×Int)))),2)
      else B (q,(i:Int)+1,I,L++ [((eH v).fst.fst,(eH v).fst.snd.fst,(eH v).fst.snd.snd)],(id,me,o,u,y,A,a,n,p),(),()))
     else
      bif (bif (bif decide (32<=t) then decide ((bU v).snd=0) else false) then decide (((bU v).fst.length:Int)=2) else false) then
       (bif ae 0 (bU v).fst.length then
        bif ae 1 (bU v).fst.length then
         B (q,(i:Int)+1,I++ [(rd (.int .u64) (bU v).fst 0,rd (.int .u64) (bU v).fst 1)],L,(id,me,o,u,y,A,a,n,p),(),())
        else none
       else none)
      else some ((0,0,0,0,([]:List (Int× (Int×Int))),0,0,0,0,([]:List (Int×Int)),([]:List (Int× (Int×Int)))),2))=
    some (n9 b e (match eG (id,(me,(o,(u,(y,(A,(a,(n,(p,(I,L)))))))))) (t,v) with|some D=>dh D (m.drop (i+1))|none=>none)):=by
    intro heq;rw [heq] at c ⊢;unfold jO at c ⊢;simp only at c ⊢;by_cases c4:t=4
    ·simp only [c4,al,ah,aI] at c ⊢;by_cases M:(fC v).2=0
     ·simp only [M,al,ax,aa,aI] at c ⊢;exact c _ rfl
     ·simp only [M,aK,bm,ah,aH];rfl
    ·simp only [c4,aK,aa,aH] at c ⊢;by_cases O:48<=t
     ·simp only [O,al,ah,aI] at c ⊢;by_cases M:(eH v).2=0
      ·simp only [M,al,ax,aa,aI] at c ⊢;exact c _ rfl
      ·simp only [M,aK,bm,ah,aH];rfl
     ·simp only [O,aK,aa,aH] at c ⊢;by_cases P:32<=t
      ·simp only [P,al,ah,aI] at c ⊢;generalize bU v=N at c ⊢;obtain ⟨N,e2⟩:=N;by_cases c0:e2=0
       ·subst c0;rcases N with _| ⟨x0,_| ⟨x1,_| ⟨x2,N⟩⟩⟩
        ·rfl
        ·rfl
        ·exact c _ rfl
        ·have:decide ((((x0::x1::x2::N).length:Nat):Int)=2)=false:=aq (by simp only [aW];omega);simp only [this,al,ah,aa];rfl
       ·simp only [c0,aK,aa];split
        ·rename_i D hm;split at hm
         ·rename_i hh nn Q;simp only [aL] at Q;exact absurd Q.2 c0
         ·simp at hm
        ·rfl
      ·simp only [P,aK,aa,aH];rfl
   by_cases h:(bU v).2=0/\(bU v).1.length=1
   ·obtain ⟨w,R⟩:∃w,bU v=([w],0):=by
     generalize bU v=N at h;obtain ⟨N,e2⟩:=N;obtain ⟨rfl,s⟩:=h;obtain ⟨w,rfl⟩:=DE.1 s;exact ⟨w,rfl⟩
    have uw:ay w:=hu w (by rw [R];simp);have d:=acX (r:=(id,(me,(o,(u,(y,(A,(a,(n,(p,(I,L))))))))))) (q:=(t,v)) R;have s:(bif decide ((bU v).snd=0) then decide (((bU v).fst.length:Int)=1) else false)=true:=by rw [R];rfl
    have f:ae 0 (bU v).fst.length=true:=by rw [R];rfl
    have g:rd (.int .u64) (bU v).fst 0=w:=by rw [R];rfl
    simp only at d;by_cases c1:t=1
    ·have d1:decide (t=1)=true:=aF c1;rw [aw c1] at d;simp only [d1,ah,s,f,g,d];exact c _ d
    have d1:decide (t=1)=false:=aq c1;rw [ak c1] at d;simp only [d1,aa];by_cases W:t=3
    ·have d3:decide (t=3)=true:=aF W;rw [aw W] at d;simp only [d3,ah,s,f,g,d];exact c _ d
    have d3:decide (t=3)=false:=aq W;rw [ak W] at d;simp only [d3,aa];by_cases X:t=5
    ·have d5:decide (t=5)=true:=aF X;rw [aw X] at d;simp only [d5,ah,s,f,g,d];exact c _ d
    have d5:decide (t=5)=false:=aq X;rw [ak X] at d;simp only [d5,aa];by_cases Y:t=6
    ·have d6:decide (t=6)=true:=aF Y;rw [aw Y] at d;simp only [d6,ah,s,f,g,d];exact c _ d
    have d6:decide (t=6)=false:=aq Y;rw [ak Y] at d;simp only [d6,aa];by_cases Z:t=7
    ·have d7:decide (t=7)=true:=aF Z;rw [aw Z] at d;simp only [d7,ah,s,f,g,d];exact c _ d
    have d7:decide (t=7)=false:=aq Z;rw [ak Z] at d;simp only [d7,aa];by_cases c2:t=2
    ·have d2:decide (t=2)=true:=aF c2;simp only [d2,ah,s,f,g,bJ];by_cases cw:w<16
     ·have hww:IntKind.wrap .i64 w=w:=RB.dO (by have:=uw.1;omega) (by omega);rw [aw ⟨c2,cw⟩] at d;simp only [cw,al,ah,hww,d];exact c _ d
     ·rw [ak (λq=>cw q.2)] at d;simp only [cw,aK,aa];have l:=l d;simp only [f,ah,g] at l;exact l
    ·have d2:decide (t=2)=false:=aq c2;rw [ak (λq=>c2 q.1)] at d;simp only [d2,aa,show (false==true)=false from rfl];exact l d
   ·have d:=acY (r:=(id,(me,(o,(u,(y,(A,(a,(n,(p,(I,L))))))))))) (q:=(t,v)) h
    have s:(bif decide ((bU v).snd=0) then decide (((bU v).fst.length:Int)=1) else false)=false:=by
     by_cases z:(bU v).2=0
     ·have:¬ ((bU v).1.length:Int)=1:=λq=>h ⟨z,by omega⟩
      simp [z,this]
     ·simp [z]
    have h2:((bif decide (t=2) then (bif decide ((bU v).snd=0) then decide (((bU v).fst.length:Int)=1) else false) else false)==true)=false:=by
     rw [s];cases decide (t=2) <;>rfl
    simp only [h2,aa];simp only [s,aa];have l:=l d
    cases decide (t=1) with
    |true=>exact l
    |false=>
    cases decide (t=3) with
    |true=>exact l
    |false=>
    cases decide (t=5) with
    |true=>exact l
    |false=>
    cases decide (t=6) with
    |true=>exact l
    |false=>
    cases decide (t=7) with
    |true=>exact l
    |false=>exact l
  ·have V:¬ ((i:Int) <(m.length:Int)):=by omega
   have G:m.drop i= []:=vG (by omega);have S:=NX E;simp only [V,aK,aa,G,dh,n9,S,ai];by_cases k:dR (id,(me,(o,(u,(y,(A,(a,(n,(p,(I,L))))))))))
   ·simp only [k,aI,al,ax,qt];by_cases T:e=0
    ·simp only [T,al,ax,aa,bJ,ah,jr,ai,qt];by_cases U:iQ (id,(me,(o,(u,(y,(A,(a,(n,(p,(I,L))))))))))=b
     ·simp only [U,al,ax,aa,aI]
     ·simp only [U,aK,bm,ah,aH];rfl
    ·simp only [T,aK,bm,ah,show (true==false)=false from rfl,aa,false_and,aH];rfl
   ·simp only [k,aH,false_and,and_false,show decide ((1:Int)=0)=false from rfl,bm];by_cases T:e=0
    ·simp only [T,al,ax,aa,show (true==false)=false from rfl];rfl
    ·simp only [T,aK,bm,ah,show (true==false)=false from rfl,aa];rfl
theorem ag3 (a:l.length<=9223372036854775807):BH (l,())=some (l.any λx=>decide (x.2.1<0) || decide (16<=x.2.1)):=by
 obtain ⟨r,b,c⟩:=qP (t:= .pair (.int .u64) (.pair (.int .i64) (.pair (.int .u64) (.int .u64)))) (l:=l) a (p:=λx=>decide (x.2.1<0) || decide (16<=x.2.1)) (G:=BI) (λx d=>by
  unfold BI
  cases decide (x.2.1<0) <;>rfl)
 have:FJ (l,())=some r:=b;unfold BH;simp only [this,ai,c]
open Classical in
theorem afS {r:Rp} (h:RpOk r):Af r=some (if okP r then 0 else 1):=by
 unfold Af;dsimp -beta -proj only;simp only [ag3 h.evl,ai,eF,wH h.tok h.tkl];by_cases c1:r.2.1<0
 ·have:¬okP r:=λk=>by have:=k.e;omega
  simp [c1,this]
 by_cases a:14<r.2.1
 ·have:¬okP r:=λk=>by have:=k.e;omega
  simp [c1,a,this]
 by_cases c:r.2.2.2.2.1<0
 ·have:¬okP r:=λk=>by have:=k.st;omega
  simp [c1,a,c,this]
 by_cases g:4<r.2.2.2.2.1
 ·have:¬okP r:=λk=>by have:=k.st;omega
  simp [c1,a,c,g,this]
 by_cases d:(16:Int) <(if (r.2.2.2.2.2.1.length:Int) <(r.2.2.2.2.2.2.1.length:Int) then (r.2.2.2.2.2.2.1.length:Int) else (r.2.2.2.2.2.1.length:Int))
 ·have:¬okP r:=λk=>by have:=k.ids;have:=k.evl;split at d <;>omega
  simp only [c1,a,c,g,d,al,aK,ah,aa,this,aH];rfl
 simp only [c1,a,c,g,d,al,aK,ah,aa]
 cases l:r.2.2.2.2.2.2.1.any (λx=>decide (x.2.1<0) || decide (16<=x.2.1)) with
 |true=>
  obtain ⟨x,i,m⟩:=qB.1 l
  have:¬okP r:=λk=>by
   have:=k.evs x i;simp only [mE,db] at m;omega
  simp [this]
 |false=>
  have j:∀x ∈ r.2.2.2.2.2.2.1,0<=x.2.1/\x.2.1<16:=λx i=>by
   have:=nL.1 l x i;simp only [mE,db] at this;omega
  have b:r.2.2.2.2.2.1.length<=16/\r.2.2.2.2.2.2.1.length<=16:=by split at d <;>omega
  by_cases f:ew r.2.2.2.2.2.2.2
  ·have:okP r:=⟨by omega,by omega,b.1,b.2,j,f⟩;simp [this,f]
  ·have:¬okP r:=λk=>f k.tok
   simp [this,f]
open Classical in
theorem Az {r:Rp} (h:RpOk r):iX r=some (if okP r then (gn r,0) else ([],1)):=by
 obtain ⟨i,e,a,n,b,ids,evs,tok⟩:=r;unfold iX;dsimp -beta -proj only;simp only [bC,eF];rw [afS h,ai];by_cases k:okP (i,e,a,n,b,ids,evs,tok)
 ·have he:=k.e;have o:=k.st;have F:=k.ids;have G:=k.evl;have p:=h.id.1;have q:=h.a.1;have s:=h.n.1;have hids:=h.ids;have d:=h.evs;have f:=k.evs;have g:=k.tok;have hT:=h.tok;have v:=h.tkl;simp only at he o F G p q s hids d f g hT v;have H:IntKind.wrap .u64 e=e:=iO (by omega) (by omega);have I:IntKind.wrap .u64 b=b:=iO (by omega) (by omega);simp only [k,aI,al,ax,aa,H,I];rw [LO [] 1 _ (by simp) (k9 p)];dsimp only;have l1:([]++ [((1:Int),aC i)]:List br).length<=1:=by simp
  generalize J:([]++ [((1:Int),aC i)]:List br)=K at l1 ⊢;rw [wh _ K 2 _ (by omega) (k9 he.1)];dsimp only;have l2:(K++opt (!decide (e=0)) 2 (aC e)).length<=2:=by have:=gz (!decide (e=0)) 2 (aC e);rw [cq];omega
  generalize L:K++opt (!decide (e=0)) 2 (aC e)=M at l2 ⊢;rw [wh _ M 3 _ (by omega) (k9 q)];dsimp only;have l3:(M++opt (!decide (a=0)) 3 (aC a)).length<=3:=by have:=gz (!decide (a=0)) 3 (aC a);rw [cq];omega
  generalize N:M++opt (!decide (a=0)) 3 (aC a)=O at l3 ⊢;rw [wh _ O 4 _ (by omega) (k9 s)];dsimp only;have l4:(O++opt (!decide (n=0)) 4 (aC n)).length<=4:=by have:=gz (!decide (n=0)) 4 (aC n);rw [cq];omega
  generalize P:O++opt (!decide (n=0)) 4 (aC n)=Q at l4 ⊢;rw [wh _ Q 5 _ (by omega) (k9 o.1)];dsimp only;have l5:(Q++opt (!decide (b=0)) 5 (aC b)).length<=5:=by have:=gz (!decide (b=0)) 5 (aC b);rw [cq];omega
  generalize R:Q++opt (!decide (b=0)) 5 (aC b)=S at l5 ⊢;rw [wh _ S 6 _ (by omega) (qZ (l:=ids) (λm C=>(hids m C).1) (by omega))];dsimp only;have l6:(S++opt (decide (0<(ids.length:Int))) 6 (ids.flatMap aC)).length<=6:=by have:=gz (decide (0<(ids.length:Int))) 6 (ids.flatMap aC);rw [cq];omega
  generalize T:S++opt (decide (0<(ids.length:Int))) 6 (ids.flatMap aC)=U at l6 ⊢;have w:qY tok=some (dA tok,0):=by rw [NK hT v,aw g]
  rw [agK (show tok.2.1.length<=4611686018427387904 from by have:=g.1;omega),ai,adS _ U _ (by omega) w];dsimp only;have l7:(U++opt (!decide (tok=(0,([],0)))) 7 (dA tok)).length<=7:=by have:=gz (!decide (tok=(0,([],0)))) 7 (dA tok);rw [cq];omega
  generalize V:U++opt (!decide (tok=(0,([],0)))) 7 (dA tok)=x7 at l7 ⊢
  have z:ie (i,e,a,n,b,ids,evs,tok)=x7++ba iV 0 evs:=by
   subst V T R P N L J;rfl
  refine bE (λ(x:Int×List br× (Unit×Unit))=>∃j:Nat,x.1=(j:Int)/\j<=evs.length/\x.2.1=x7++ba iV 0 (evs.take j)) (λx=>evs.length - x.1.toNat) (λ_=>(gn (i,e,a,n,b,ids,evs,tok),0)) ?_ _ ⟨0,rfl,by omega,by simp [ba]⟩;rintro ⟨j',y,u⟩ ⟨j,A,hj,D⟩ rec W;simp only at A D;subst A;simp only;by_cases c:j<evs.length
  ·have E:((j:Int) <(evs.length:Int)):=by omega
   have hyl:y.length<=7+j:=by rw [D,cq,kO,dZ];omega
   have X:=d _ (bt c);have B:=f _ (bt c);have Y:IntKind.wrap .u64 (evs[j].2.1)=evs[j].2.1:=iO B.1 (by omega);simp only [E,al,ah,bp (dp j) E,aU (t:= .pair (.int .u64) (.pair (.int .i64) (.pair (.int .u64) (.int .u64)))) c,Y];rw [iO (n:=(j:Int)) (by omega) (by omega),iO (n:=16+ (j:Int)) (by omega) (by omega),RB.dO (n:=(j:Int)+1) (by omega) (by omega)]
   have hF:cm [evs[j].1,evs[j].2.1,evs[j].2.2.1,evs[j].2.2.2]=some (iV evs[j]):=qZ (λm C=>by
    simp only [a8,eu,ep] at C;rcases C with rfl|rfl|rfl|rfl
    ·exact X.1.1
    ·exact B.1
    ·exact X.2.2.1.1
    ·exact X.2.2.2.1) (by simp)
   rw [LO y (16+ (j:Int)) _ (by omega) hF];refine W _ ⟨j+1,by simp,by omega,?_⟩ (by simp only;omega);simp only;rw [D,fg c,wa,fK,dZ,qw (by omega)];simp
  ·have E:¬ ((j:Int) <(evs.length:Int)):=by omega
   have Z:j=evs.length:=by omega
   simp only [E,aK,aa];have hyt:y=ie (i,e,a,n,b,ids,evs,tok):=by rw [D,Z,fX,z]
   rw [hyt,Ai (Ej h k),ac3 k];rfl
 ·simp [k]
open Classical in
theorem Om {b:List Int} (hb:Bs b):xo b=some (tq b):=by
 unfold xo tq;dsimp -beta -proj only;by_cases hl:4096<b.length
 ·have:(4096:Int) <(b.length:Int):=by omega
  rw [aw hl];simp only [this,al,ah];rfl
 ·have U:¬ (4096:Int) <(b.length:Int):=by omega
  rw [ak hl];simp only [U,aK,aa,FB hb,ai,bC];obtain ⟨m1,m2⟩:=ES hb;generalize (du b).2=e;generalize (du b).1=m at m1 m2 ⊢;refine bE (λ(x:SP)=>∃i:Nat,x.2.1=(i:Int)/\i<=m.length/\RpOk (v7 x)/\(v7 x).2.2.2.2.2.2.1.length<=i) (λx=>m.length - x.2.1.toNat) (λx=>wx b e (eY (v7 x) (m.drop x.2.1.toNat))) ?_ (oZ 0 0 zP) ⟨0,rfl,by omega,Xu,by simp [v7,oZ,zP]⟩;rintro ⟨q,i',L,⟨id,f,a,n,s,ids⟩,T⟩ ⟨i,D,hi,w,y⟩ V p;simp only at D;subst D;simp only [v7] at w y p ⊢;rw [bu];by_cases z:i<m.length
  ·have G:((i:Int) <(m.length:Int)):=by omega
   obtain ⟨l,W⟩:=m2 _ (bt z);simp only [G,al,ah,bp (dp i) G,aU (t:=tR) z];rw [RB.dO (n:=(i:Int)+1) (by omega) (by omega),gT z,eY]
   have d:∀E,ec (id,(f,(a,(n,(s,(ids,(L,T))))))) m[i]=some E->V (oZ q ((i:Int)+1) E)=some (wx b e (eY E (m.drop (i+1)))):=by
    intro E h;obtain ⟨o1,o2⟩:=acZ w l W (by simp only at y ⊢;omega) h;have:=p (oZ q ((i:Int)+1) E) ⟨i+1,by simp [oZ],by omega,o1,by simp only [oZ] at y ⊢;simp only at o2;omega⟩ (by simp only [oZ];omega);rw [this];simp only [oZ];congr 3
   by_cases r:m[i].1=7
   ·simp only [r,al,ah,NR l,ai];by_cases H:(fC m[i].2).2=0
    ·have h:ec (id,(f,(a,(n,(s,(ids,(L,T))))))) m[i]=some (id,(f,(a,(n,(s,(ids,(L,(fC m[i].2).1))))))):=by unfold ec;rw [aw r,aw H]
     simp only [H,al,ax,aa,h];exact d _ h
    ·have h:ec (id,(f,(a,(n,(s,(ids,(L,T))))))) m[i]=none:=by unfold ec;rw [aw r,ak H]
     simp only [H,aK,bm,ah,h];rfl
   ·simp only [r,aK,aa,NS l,ai];by_cases I:(bU m[i].2).2=0
    ·have A:¬ ((bU m[i].2).2≠0):=λq=>q I
     have J:=wD l;simp only [I,al,ax,aa];by_cases F:m[i].1=6
     ·have h:ec (id,(f,(a,(n,(s,(ids,(L,T))))))) m[i]=some (id,(f,(a,(n,(s,((bU m[i].2).1,(L,T))))))):=by unfold ec;rw [ak r,ak A,aw F]
      simp only [F,al,ah,h];exact d _ h
     ·simp only [F,aK,aa];by_cases o:16<=m[i].1
      ·have c:ec (id,(f,(a,(n,(s,(ids,(L,T))))))) m[i]=(match (bU m[i].2).1 with
        | [a',k,x,B]=>if 16<=k then none else some (id,(f,(a,(n,(s,(ids,(L++ [(a',(k,(x,B)))],T)))))))
        |_=>none):=by unfold ec;rw [ak r,ak A,ak F,aw o];first|done| (generalize (bU m[i].2).1=N;rcases N with _| ⟨x0,_| ⟨j,_| ⟨u,_| ⟨v,_| ⟨x4,N⟩⟩⟩⟩⟩ <;>rfl)
       simp only [o,al,ah];generalize (bU m[i].2).1=N at J c ⊢;rcases N with _| ⟨x0,_| ⟨j,_| ⟨u,_| ⟨v,_| ⟨x4,N⟩⟩⟩⟩⟩
       ·rw [c];rfl
       ·rw [c];rfl
       ·rw [c];rfl
       ·rw [c];rfl
       ·have X:rd (.int .u64) [x0,j,u,v] 0=x0:=rfl;have r1:rd (.int .u64) [x0,j,u,v] 1=j:=rfl;have r2:rd (.int .u64) [x0,j,u,v] 2=u:=rfl;have r3:rd (.int .u64) [x0,j,u,v] 3=v:=rfl;have u1:=J j (by simp);have k3:(L.length+1)*32<=az:=by unfold az;omega
        simp only [aW,dy,show decide (((0+1+1+1+1:Nat):Int)=4)=true from rfl,ax,bJ,ah,X,r1,r2,r3,
         show ae 0 (0+1+1+1+1)=true from rfl,show ae 1 (0+1+1+1+1)=true from rfl,show ae 2 (0+1+1+1+1)=true from rfl,show ae 3 (0+1+1+1+1)=true from rfl,k3,al]
        by_cases K:16<=j
        ·have h:ec (id,(f,(a,(n,(s,(ids,(L,T))))))) m[i]=none:=by rw [c];simp only;rw [aw K]
         simp only [K,al,ah,h];rfl
        ·have h:ec (id,(f,(a,(n,(s,(ids,(L,T))))))) m[i]=some (id,(f,(a,(n,(s,(ids,(L++ [(x0,(j,(u,v)))],T))))))):=by rw [c];simp only;rw [ak K]
         have hw:IntKind.wrap .i64 j=j:=RB.dO (by have:=u1.1;omega) (by omega);simp only [K,aK,aa,h,hw];exact d _ h
       ·have C:¬ (((x0::j::u::v::x4::N).length:Int)=4):=by simp only [aW];omega
        rw [c];simp only [C,aK,bm,show (true==false)=false from rfl,aa];rfl
      ·have c:ec (id,(f,(a,(n,(s,(ids,(L,T))))))) m[i]=(match (bU m[i].2).1 with
        | [B]=>
          if m[i].1=1 then some (B,(f,(a,(n,(s,(ids,(L,T))))))) else
          if m[i].1=2 then some (id,(lX B,(a,(n,(s,(ids,(L,T))))))) else
          if m[i].1=3 then some (id,(f,(B,(n,(s,(ids,(L,T))))))) else
          if m[i].1=4 then some (id,(f,(a,(B,(s,(ids,(L,T))))))) else
          if m[i].1=5 then some (id,(f,(a,(n,(lX B,(ids,(L,T))))))) else none
        |_=>none):=by unfold ec;rw [ak r,ak A,ak F,ak o];first|done| (generalize (bU m[i].2).1=N;rcases N with _| ⟨x0,_| ⟨j,N⟩⟩ <;>rfl)
       simp only [o,aK,aa];generalize (bU m[i].2).1=N at J c ⊢;rcases N with _| ⟨x0,_| ⟨j,N⟩⟩
       ·rw [c];rfl
       ·have X:rd (.int .u64) [x0] 0=x0:=rfl;have u0:=J x0 (by simp)
        have Y:IntKind.wrap .i64 (if 4096<x0 then 4096 else x0)=lX x0:=by
         have:=u0.1;unfold lX;by_cases g:4096<x0
         ·rw [aw g,ak (by omega)];rfl
         ·rw [ak g,RB.dO (by omega) (by omega)];split <;>omega
        simp only [aW,dy,show decide (((0+1:Nat):Int)=1)=true from rfl,ax,aa,ah,X,show ae 0 (0+1)=true from rfl,Y];simp only at c;by_cases M:m[i].1=1
        ·rw [aw M] at c;simp only [M,al,ah,c];exact d _ c
        rw [ak M] at c;simp only [M,aK,aa];by_cases O:m[i].1=2
        ·rw [aw O] at c;simp only [O,al,ah,c];exact d _ c
        rw [ak O] at c;simp only [O,aK,aa];by_cases P:m[i].1=3
        ·rw [aw P] at c;simp only [P,al,ah,c];exact d _ c
        rw [ak P] at c;simp only [P,aK,aa];by_cases Q:m[i].1=4
        ·rw [aw Q] at c;simp only [Q,al,ah,c];exact d _ c
        rw [ak Q] at c;simp only [Q,aK,aa];by_cases R:m[i].1=5
        ·rw [aw R] at c;simp only [R,al,ah,c];exact d _ c
        rw [ak R] at c;simp only [R,aK,aa,c];rfl
       ·have C:¬ (((x0::j::N).length:Int)=1):=by simp only [aW];omega
        rw [c];simp only [C,aK,bm,ah];rfl
    ·have h:ec (id,(f,(a,(n,(s,(ids,(L,T))))))) m[i]=none:=by unfold ec;rw [ak r,aw I]
     simp only [I,aK,bm,ah,h];rfl
  ·have G:¬ ((i:Int) <(m.length:Int)):=by omega
   have:m.drop i= []:=vG (by omega);simp only [G,aK,aa,this,eY];rw [Az w];unfold wx;by_cases S:e=0
   ·by_cases Z:okP (id,(f,(a,(n,(s,(ids,(L,T)))))))
    ·by_cases kb:gn (id,(f,(a,(n,(s,(ids,(L,T)))))))=b
     ·simp [S,Z,kb,jr]
     ·simp [S,Z,kb,jr,zP]
    ·simp [S,Z,zP]
   ·simp [S,zP]
end Go.Proofs.YtkihadlgknhpkaaGreatDoor.T
