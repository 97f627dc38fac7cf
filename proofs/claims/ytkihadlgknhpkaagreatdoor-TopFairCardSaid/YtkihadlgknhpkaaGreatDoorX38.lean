/- Part 38: lemmas that the last text needs. -/
import Derived.Test.YtkihadlgknhpkaaGreatDoorX37
set_option linter.all false
set_option autoImplicit true
set_option relaxedAutoImplicit true
namespace Go.Proofs.YtkihadlgknhpkaaGreatDoor.T
open Go Go.Fw Go.Proofs RB
set_option maxRecDepth 20000
abbrev It:=Int×Int
abbrev Rq:=Int× (Int× (Int× (Int× (List Cv× (Int× (Int× (Int× (Int× (List It×List Cv)))))))))
namespace Rq
@[reducible] def id (r:Rq):=r.1
@[reducible] def me (r:Rq):=r.2.1
@[reducible] def key (r:Rq):=r.2.2.1
@[reducible] def tok (r:Rq):fm:=(r.2.2.2.1,(r.2.2.2.2.1,r.2.2.2.2.2.1))
@[reducible] def a (r:Rq):=r.2.2.2.2.2.2.1
@[reducible] def n (r:Rq):=r.2.2.2.2.2.2.2.1
@[reducible] def till (r:Rq):=r.2.2.2.2.2.2.2.2.1
@[reducible] def its (r:Rq):=r.2.2.2.2.2.2.2.2.2.1
@[reducible] def cvs (r:Rq):=r.2.2.2.2.2.2.2.2.2.2
end Rq
def I64 (n):= -9223372036854775808<=n/\n<=9223372036854775807
structure RqOk (r:Rq):Prop where
 id:ay r.id
 me:I64 r.me
 key:ay r.key
 tok:gh r.tok
 a:ay r.a
 n:ay r.n
 till:ay r.till
 its:∀x ∈ r.its,ay x.1/\ay x.2
 cvs:∀c ∈ r.cvs,dV c
 l1:r.tok.2.1.length<=9223372036854775807
 l2:r.its.length<=9223372036854775807
 l3:r.cvs.length<=9223372036854775807
theorem ahb (a b):pN [a,b]=some (if a<b then b else a):=by
 unfold pN;dsimp -beta -proj only;simp only [aW,dy];have e0:rd (.int .u64) [a,b] 0=a:=rfl;have d:rd (.int .u64) [a,b] 1=b:=rfl;refine (bE (λx=>x=(a,1)\/x=(if a<b then b else a,2)) (λx=>2 - x.2.toNat) (λ_=>(if a<b then b else a)) ?_ (rd (.int .u64) [a,b] 0,1) (.inl rfl));rintro x (rfl|rfl) e c
 ·have:=c (if a<b then b else a,2) (.inr rfl) (by simp);simp [ae,d,IntKind.wrap,IntKind.signed,IntKind.bits];exact this
 ·simp
theorem afW (a b):fu [a,b]=some (if 4611686018427387904<a\/4611686018427387904<b then 1 else 0):=by
 unfold fu;simp only [aW,dy,ahb,ai];by_cases h:a<b
 ·by_cases c:4611686018427387904<b
  ·simp [h,c]
  ·have d:¬4611686018427387904<a:=by omega
   simp [h,c,d]
 ·by_cases c:4611686018427387904<a
  ·simp [h,c]
  ·have d:¬4611686018427387904<b:=by omega
   simp [h,c,d]
def nT (x:It):=decide (x.2=0) || decide (4611686018427387904<x.2)
theorem agR (x):xp x=some (nT x):=by
 obtain ⟨h,n⟩:=x;unfold xp nT;simp only [Aq,ai];by_cases a:n=0
 ·simp [a]
 ·by_cases b:4611686018427387904<n <;>simp [a,b]
theorem afN (a:l.length<=9223372036854775807):Bp (l,())=some (l.any nT):=by
 obtain ⟨r,b,c⟩:=qP (t:= .pair (.int .u64) (.int .u64)) (l:=l) a (p:=nT) (G:=xp) (λx d=>agR x);have:FE (l,())=some r:=b;unfold Bp;simp only [this,ai,c]
theorem ag8 (h:dV c):xC c=some (decide (cr c≠0)):=by
 unfold xC;simp only [eF,ux h,ai];by_cases q:cr c=0 <;>simp [q]
theorem afP (a:l.length<=9223372036854775807) (h:∀c ∈ l,dV c):BM (l,())=some (l.any λc=>decide (cr c≠0)):=by
 obtain ⟨r,b,d⟩:=qP (t:= .pair (.int .i64) (.pair (.int .u64) (.int .u64))) (l:=l) a (p:=λc=>decide (cr c≠0)) (G:=xC) (λx e=>ag8 (h x e));have:FM (l,())=some r:=b;unfold BM;simp only [this,ai,d]
def Ff (a b:Int):Int×Int:=if 4611686018427387904<a\/4611686018427387904<b then (0,1) else if 4611686018427387904<a+b then (0,8) else (a+b,0)
theorem afV (i:ay a) (j:ay b):jW [a,b]=some (Ff a b):=by
 unfold jW Ff;dsimp -beta -proj only;simp only [afW,ai];obtain ⟨e,f⟩:=i;obtain ⟨k,l⟩:=j;by_cases h:4611686018427387904<a\/4611686018427387904<b
 ·simp [h]
 ·have m:¬4611686018427387904<a:=λg=>h (.inl g)
  have q:=λg=>h (.inr g)
  simp only [h,aH,al,ax,aa,aW,dy];have e0:rd (.int .u64) [a,b] 0=a:=rfl;have n:rd (.int .u64) [a,b] 1=b:=rfl;have w0:IntKind.wrap .u64 (0+a)=a:=by rw [Int.zero_add];exact RB.ln e f
  have w1:IntKind.wrap .u64 (a+b)=a+b:=RB.ln (by omega) (by omega);refine (bE (λx=>x=(0,0,0)\/x=(a,0,1)\/(x=(a+b,0,2)/\¬4611686018427387904<a+b)) (λx=>2 - x.2.2.toNat) (λ_=>(if 4611686018427387904<a+b then (0,8) else (a+b,0))) ?_ (0,0,0) (.inl rfl));rintro x (rfl|rfl| ⟨rfl,o⟩) p c
  ·have:=c (a,0,1) (.inr (.inl rfl)) (by simp);simp only [e0,w0,m,ae,aK,aa];simpa [IntKind.wrap,IntKind.signed,IntKind.bits] using this
  ·simp only [n,w1,ae];by_cases d:4611686018427387904<a+b
   ·simp [d]
   ·have:=c (a+b,0,2) (.inr (.inr ⟨rfl,d⟩)) (by simp);simp [d,IntKind.wrap,IntKind.signed,IntKind.bits];simpa [d] using this
  ·simp [o]
def tot:List It->Int
 | []=>0
 |x::r=>x.2+tot r
theorem Ea:∀ (a b),tot (a++b)=tot a+tot b
 | [],b=>by simp [tot]
 |x::r,b=>by simp only [dP,tot,Ea r b];omega
theorem yU:∀{l},(∀x ∈ l,0<=x.2)->0<=tot l
 | [],_=>by simp [tot]
 |x::r,h=>by
  have:=h x (by simp);have:=yU (l:=r) (λy a=>h y (by simp [a]));simp only [tot];omega
def ga (l:List It):Int×Int:=if l= []\/16<l.length\/l.any nT=true then (0,1) else if 4611686018427387904<tot l then (0,8) else (tot l,0)
theorem FX (C:l.length<=9223372036854775807) (h:∀x ∈ l,ay x.1/\ay x.2):uv l=some (ga l):=by
 unfold uv ga;dsimp -beta -proj only;simp only [afN C,ai];by_cases d:l= []
 ·subst d;simp
 have H:=oR.2 d;have p:¬ (l.length:Int)=0:=by omega
 by_cases q:16<l.length
 ·have k:(16:Int) <(l.length:Int):=by omega
  simp [d,q,p,k]
 have k:¬ (16:Int) <(l.length:Int):=by omega
 cases D:l.any nT with
 |true=>simp [d,q,p,k]
 |false=>
  simp only [d,q,p,k,aK,aa,bJ,ah,qu,dQ,aH]
  have f:=λx m=>by
   have:=nL.1 D x m;simpa [nT] using this
  refine bE (λx=>∃i:Nat,x.2.2=(i:Int)/\i<=l.length/\x.1=tot (l.take i)/\¬4611686018427387904<tot (l.take i)) (λx=>l.length - x.2.2.toNat) (λ_=>if 4611686018427387904<tot l then (0,8) else (tot l,0)) ?_ (0,0,0) ⟨0,rfl,by omega,rfl,by simp [tot]⟩;rintro ⟨s,e,I⟩ ⟨i,g,J,w,z⟩ E j;simp only at g w;subst g;subst w;by_cases c:i<l.length
  ·have o:((i:Int) <(l.length:Int)):=by omega
   have m:=bt c;have F:=(h _ m).2;have K:=f _ m;have r:0<=tot (l.take i):=yU λy u=>(h y (lJ u)).2.1
   have A:tot (l.take (i+1))=tot (l.take i)+l[i].2:=by
    rw [vB,cK c,vy,Ea];simp [tot]
   simp only [o,al,ah,bp (dp i) o,aU (t:= .pair (.int .u64) (.int .u64)) c,afV (a:=tot (l.take i)) (b:=l[i].2) ⟨r,by omega⟩ F,ai];rw [RB.dO (n:=(i:Int)+1) (by omega) (by omega)];unfold Ff;have G:¬ (4611686018427387904<tot (l.take i)\/4611686018427387904<l[i].2):=by omega
   simp only [G,aH];by_cases v:4611686018427387904<tot (l.take i)+l[i].2
   ·have hd:0<=tot (l.drop (i+1)):=yU λy u=>(h y (iJ u)).2.1
    have B:tot l=tot (l.take (i+1))+tot (l.drop (i+1)):=by rw [<-Ea,mC]
    have:4611686018427387904<tot l:=by omega
    simp [v,this]
   ·simp only [v,aH,al,ax,aa];exact j (tot (l.take i)+l[i].2,0,(i:Int)+1) ⟨i+1,by simp,by omega,A.symm,by rw [A];exact v⟩ (by simp only;omega)
  ·have o:¬ ((i:Int) <(l.length:Int)):=by omega
   rw [kD (by omega)] at z ⊢;simp [o,z]
def fZ (m:Int):Int:=if m=1 then 71 else if m=2 then 17 else if m=3 then 79 else if m=4 then 3 else if m=5 then 2 else if m=6 then 2 else if m=7 then 0 else if m=8 then 6 else if m=9 then 4 else if m=10 then 32 else 0
def po (m:Int):=decide (1<=m) && decide (m<=10)
theorem ag9 (m):BO m=some (fZ m,po m):=by
 unfold BO po;by_cases c:m<=0
 ·have a:¬1<=m:=by omega
  have b:fZ m=0:=by unfold fZ;repeat (rw [ak (by omega)])
  simp [c,a,b]
 by_cases d:11<=m
 ·have a:¬m<=10:=by omega
  have b:fZ m=0:=by unfold fZ;repeat (rw [ak (by omega)])
  simp [c,a,d,b]
 have e:m=1\/m=2\/m=3\/m=4\/m=5\/m=6\/m=7\/m=8\/m=9\/m=10:=by omega
 rcases e with rfl|rfl|rfl|rfl|rfl|rfl|rfl|rfl|rfl|rfl <;>simp [ae,fZ] <;>rfl
def kL (a:Int) (ok:Bool) (x:Int× (Bool×Bool)):=ok && (bif decide (df .and .i64 a x.1=0) then !x.2.1 else x.2.2)
theorem XG (h:decide (df .and .i64 j x.1=0)=true):kL j ok x=(bif ok then !x.2.1 else false):=by
 unfold kL;rw [h];cases ok <;>rfl
theorem XH (h:decide (df .and .i64 j x.1=0)=false):kL j ok x=(bif ok then x.2.2 else false):=by
 unfold kL;rw [h];cases ok <;>rfl
abbrev tL:Ty:= .pair (.int .i64) (.pair .bool .bool)
theorem adG (a) (l:List (Int× (Bool×Bool))) (r:l.length<=100) (c) {G:Bool->Option Int} {g:Bool->Int} (p:∀b,G b=some (g b)):
 aD (λ(e:(Bool×Int)->Option Int) (d:Bool×Int)=>
  bif decide (d.2<(l.length:Int)) then (
  bif ae d.2 l.length then
  bif (!decide ((df .and .i64 a (rd tL l d.2).1)=0)) then (
  e ((bif d.1 then ((rd tL l d.2).2).2 else false),(IntKind.wrap .i64 (d.2+1))))
  else (
  e ((bif d.1 then (!((rd tL l d.2).2).1) else false),(IntKind.wrap .i64 (d.2+1))))
  else none)
  else G d.1) (c,0)=some (g (l.foldl (kL a) c)):=by
 refine bE (λx=>∃i:Nat,x.2=(i:Int)/\i<=l.length/\x.1=(l.take i).foldl (kL a) c) (λx=>l.length - x.2.toNat) (λ_=>g (l.foldl (kL a) c)) ?_ (c,0) ⟨0,rfl,by omega,rfl⟩;rintro ⟨b,s⟩ ⟨i,h,u,o⟩ q f;simp only at h o;subst h;subst o;by_cases j:i<l.length
 ·have k:((i:Int) <(l.length:Int)):=by omega
  have m:(l.take (i+1)).foldl (kL a) c=kL a ((l.take i).foldl (kL a) c) l[i]:=by
   rw [vB,cK j,vy,JQ];rfl
  simp only [k,al,ah,bp (dp i) k,aU (t:=tL) j];rw [RB.dO (n:=(i:Int)+1) (by omega) (by omega)]
  cases hd:decide (df .and .i64 a l[i].1=0) with
  |true=>
   rw [XG hd] at m;simp only [ax,aa];exact f _ ⟨i+1,by simp,by omega,m.symm⟩ (by simp only;omega)
  |false=>
   rw [XH hd] at m;simp only [bm,ah];exact f _ ⟨i+1,by simp,by omega,m.symm⟩ (by simp only;omega)
 ·have k:¬ ((i:Int) <(l.length:Int)):=by omega
  rw [kD (by omega)];simp [k,p]
def looks (r:Rq) (a3:Bool) (b:Bool):List (Int× (Bool×Bool)):=
 [(1,((!decide (r.key=0)),true)),(2,((!decide (r.a=0)),true)),(4,((!decide (r.n=0)),a3)),(8,((!decide (r.till=0)),true)),(16,(decide (0<(r.its.length:Int)),decide ((ga r.its).2=0))),(32,(decide (0<(r.cvs.length:Int)),b))]
def tn (r:Rq):=decide (df .and .i64 (fZ r.me) 64=0) || (decide (0<r.n) && !decide (4611686018427387904<r.n))
def pq (r:Rq):=decide (0<r.cvs.length) && (decide (r.cvs.length<=16) && !(r.cvs.any λc=>decide (cr c≠0)))
def Lj (r):=(looks r (tn r) (pq r)).foldl (kL (fZ r.me)) (po r.me)
def dR (r):=Lj r=true/\ew r.tok
open Classical in
theorem aei {r:Rq} (h:RqOk r) {a3 d e:Bool} (j:a3=tn r) (k:d=pq r) (l:decide (0<(r.cvs.length:Int))=e):
 aD (λ(c:(Bool×Int)->Option Int) (a:Bool×Int)=>
  bif decide (a.2<(([(1,((!decide (r.2.2.1=0)),true)),(2,((!decide (r.2.2.2.2.2.2.1=0)),true)),(4,((!decide (r.2.2.2.2.2.2.2.1=0)),a3)),(8,((!decide (r.2.2.2.2.2.2.2.2.1=0)),true)),(16,(decide (0<(r.2.2.2.2.2.2.2.2.2.1.length:Int)),decide ((ga r.2.2.2.2.2.2.2.2.2.1).2=0))),(32,(e,d))]).length:Int)) then (
  bif ae a.2 ([(1,((!decide (r.2.2.1=0)),true)),(2,((!decide (r.2.2.2.2.2.2.1=0)),true)),(4,((!decide (r.2.2.2.2.2.2.2.1=0)),a3)),(8,((!decide (r.2.2.2.2.2.2.2.2.1=0)),true)),(16,(decide (0<(r.2.2.2.2.2.2.2.2.2.1.length:Int)),decide ((ga r.2.2.2.2.2.2.2.2.2.1).2=0))),(32,(e,d))]).length then
  bif (!decide ((df .and .i64 (fZ r.2.1) ((rd (.pair (.int .i64) (.pair .bool .bool)) ([(1,((!decide (r.2.2.1=0)),true)),(2,((!decide (r.2.2.2.2.2.2.1=0)),true)),(4,((!decide (r.2.2.2.2.2.2.2.1=0)),a3)),(8,((!decide (r.2.2.2.2.2.2.2.2.1=0)),true)),(16,(decide (0<(r.2.2.2.2.2.2.2.2.2.1.length:Int)),decide ((ga r.2.2.2.2.2.2.2.2.2.1).2=0))),(32,(e,d))]) a.2).1))=0)) then (
  c ((bif a.1 then ((rd (.pair (.int .i64) (.pair .bool .bool)) ([(1,((!decide (r.2.2.1=0)),true)),(2,((!decide (r.2.2.2.2.2.2.1=0)),true)),(4,((!decide (r.2.2.2.2.2.2.2.1=0)),a3)),(8,((!decide (r.2.2.2.2.2.2.2.2.1=0)),true)),(16,(decide (0<(r.2.2.2.2.2.2.2.2.2.1.length:Int)),decide ((ga r.2.2.2.2.2.2.2.2.2.1).2=0))),(32,(e,d))]) a.2).2).2 else false),(IntKind.wrap .i64 (a.2+1))))
  else (
  c ((bif a.1 then (!((rd (.pair (.int .i64) (.pair .bool .bool)) ([(1,((!decide (r.2.2.1=0)),true)),(2,((!decide (r.2.2.2.2.2.2.1=0)),true)),(4,((!decide (r.2.2.2.2.2.2.2.1=0)),a3)),(8,((!decide (r.2.2.2.2.2.2.2.2.1=0)),true)),(16,(decide (0<(r.2.2.2.2.2.2.2.2.2.1.length:Int)),decide ((ga r.2.2.2.2.2.2.2.2.2.1).2=0))),(32,(e,d))]) a.2).2).1) else false),(IntKind.wrap .i64 (a.2+1))))
  else none)
  else (
  bif ((!a.1)==false) then (
  (mS (r.2.2.2.1,(r.2.2.2.2.1,r.2.2.2.2.2.1))).bind λg=>
  bif (!decide (g=0)) then (
  some 1)
  else (
  some 0))
  else (
  some 1))) ((po r.2.1),0)=some (if dR r then 0 else 1):=by
  have f:∀b:Bool,(bif ((!b)==false) then ((mS (r.2.2.2.1,(r.2.2.2.2.1,r.2.2.2.2.2.1))).bind λg=>bif (!decide (g=0)) then (some 1) else (some (0:Int))) else (some 1))=some (if b=true/\ew r.tok then 0 else 1):=by
   intro b;have:=wH (t:=r.tok) h.tok h.l1;simp only [Rq.tok] at this;simp only [this,ai]
   cases b with
   |false=>simp
   |true=>by_cases i:ew r.tok <;>simp [Rq.tok] at i <;>simp [i]
  subst j k l;refine (adG (fZ r.me) (looks r (tn r) (pq r)) (by simp [looks]) (po r.me) f).trans ?_;have:((looks r (tn r) (pq r)).foldl (kL (fZ r.me)) (po r.me)=true/\ew r.tok)↔dR r:=Iff.rfl;by_cases q:dR r
  ·rw [aw q,aw (this.2 q)]
  ·rw [ak q,ak (λm=>q (this.1 m))]
open Classical in
theorem Ft {r:Rq} (h:RqOk r):pD r=some (if dR r then 0 else 1):=by
 unfold pD;dsimp -beta -proj only;simp only [ag9,FX h.l2 h.its,Aq,afP h.l3 h.cvs,ai]
 have g:∀b1 a b,decide (df .and .i64 (fZ r.me) 64=0)=b1->decide (0<r.n)=a->decide (4611686018427387904<r.n)=b->tn r=(b1 || (a && !b)):=by
  rintro _ _ _ rfl rfl rfl;rfl
 have f:decide ((if 4611686018427387904<r.n then (1:Int) else 0)=0)= !decide (4611686018427387904<r.n):=by by_cases q:4611686018427387904<r.n <;>simp [q]
 have i:∀b1 a b,decide (0<(r.cvs.length:Int))=b1->decide ((r.cvs.length:Int)<=16)=a->(r.cvs.any λc=>decide (cr c≠0))=b->pq r=(b1 && (a && !b)):=by
  rintro _ _ _ rfl rfl rfl;unfold pq;congr 1
  ·rw [Du];omega
  ·congr 1;rw [Du];omega
 cases b1:decide (df .and .i64 (fZ r.me) 64=0) <;>cases a:decide (0<r.n) <;>cases b:decide (4611686018427387904<r.n) <;>
  cases c1:decide (0<(r.cvs.length:Int)) <;>cases d:decide ((r.cvs.length:Int)<=16) <;>cases e:(r.cvs.any λc=>decide (cr c≠0)) <;>
  simp only [Rq.me,Rq.n,Rq.cvs] at b1 a b c1 d e f <;>
  simp only [b1,a,b,c1,d,e,f,bC,bJ,ah,aa,show (true==false)=false from rfl,show (false==true)=false from rfl,ax,bm] <;>
  exact aei h (by rw [g _ _ _ b1 a b];rfl) (by rw [i _ _ _ c1 d e];rfl) c1
end Go.Proofs.YtkihadlgknhpkaaGreatDoor.T
namespace Go.Proofs.YtkihadlgknhpkaaGreatDoor.T
open Go Go.Fw Go.Proofs RB
set_option maxRecDepth 20000
theorem Ez (r):Lj r=(((((((po r.me) && (bif decide (df .and .i64 (fZ r.me) 1=0) then !!decide (r.key=0) else true)) && (bif decide (df .and .i64 (fZ r.me) 2=0) then !!decide (r.a=0) else true)) &&
 (bif decide (df .and .i64 (fZ r.me) 4=0) then !!decide (r.n=0) else tn r)) && (bif decide (df .and .i64 (fZ r.me) 8=0) then !!decide (r.till=0) else true)) &&
 (bif decide (df .and .i64 (fZ r.me) 16=0) then !decide (0<(r.its.length:Int)) else decide ((ga r.its).2=0))) && (bif decide (df .and .i64 (fZ r.me) 32=0) then !decide (0<(r.cvs.length:Int)) else pq r)):=rfl
theorem Ey (h:dR r):1<=r.me/\r.me<=10:=by
 have a:=h.1;rw [Ez] at a;simp only [bb] at a;have:=a.1.1.1.1.1.1;simpa [po] using this
theorem XF (h:(ga l).2=0):l≠ []/\l.length<=16/\(∀x ∈ l,nT x=false)/\tot l<=4611686018427387904/\(ga l).1=tot l:=by
 unfold ga at h ⊢;split at h
 ·simp at h
 ·rename_i q;split at h
  ·simp at h
  ·rename_i a;have b:=λe=>q (.inl e)
   have g:=λe=>q (.inr (.inl e))
   have c:=λe=>q (.inr (.inr e))
   rw [ak q,ak a];refine ⟨b,by omega,λx d=> ?_,by omega,rfl⟩
   cases f:nT x with
   |false=>rfl
   |true=>exact absurd (qB.2 ⟨x,d,f⟩) c
theorem vZ (h:dR r):r.its.length<=16:=by
 have a:=h.1;rw [Ez] at a;simp only [bb] at a;have:=a.1.2
 cases hd:decide (df .and .i64 (fZ r.me) 16=0) with
 |true=>
  rw [hd] at this;simp only [ah,sL,yF] at this;omega
 |false=>
  rw [hd] at this;simp only [aa,db] at this;exact (XF this).2.1
theorem sZ (h:dR r):r.cvs.length<=16/\∀c ∈ r.cvs,cr c=0:=by
 have a:=h.1;rw [Ez] at a;simp only [bb] at a;have:=a.2
 cases hd:decide (df .and .i64 (fZ r.me) 32=0) with
 |true=>
  rw [hd] at this;simp only [ah,sL,yF] at this;have:r.cvs= []:=JV (by omega);rw [this];simp
 |false=>
  rw [hd] at this;simp only [aa,pq,bb,db,sL] at this;refine ⟨this.2.1,λc b=> ?_⟩;have:=nL.1 this.2.2 c b;simpa using this
def eI (x:It):= [x.1,x.2].flatMap aC
def dK (r:Rq):List br:=
 [(1,aC r.id),(2,aC r.me)]++opt (!decide (r.key=0)) 3 (aC r.key)++ [(4,dA r.tok)]++opt (!decide (r.a=0)) 5 (aC r.a)++opt (!decide (r.n=0)) 6 (aC r.n)++opt (!decide (r.till=0)) 7 (aC r.till)
   ++ba eI 16 r.its++ba bl 32 r.cvs
theorem XL (k) (c:ef a) (d:ef b) (e:∀x ∈ a,x.1<k) (f:∀y ∈ b,k<=y.1):ef (a++b):=
 kE.2 ⟨c,d,λx g y h=>Int.lt_of_lt_of_le (e x g) (f y h)⟩
theorem adh (c) (t) (v):ef (opt c t v):=by cases c <;>simp [opt,ef]
theorem adi (h:q ∈ opt c t v):q=(t,v):=by cases c <;>simp [opt] at h;exact h
def SB (a) (k):=ef a/\∀q ∈ a,1<=q.1/\q.1<k
theorem SB.app (h:SB a k) (i:1<=k) (C:k<=j) (e:ef b) (d:∀q ∈ b,k<=q.1/\q.1<j):SB (a++b) j:=by
 refine ⟨XL k h.1 e (λx f=>(h.2 x f).2) (λy g=>(d y g).1),λq c=> ?_⟩;rcases cz.1 c with c|c
 ·have:=h.2 q c;omega
 ·have:=d q c;omega
theorem SB.opt (h:SB a k) (b:1<=k) (c) (v):SB (a++opt c k v) (k+1):=
 h.app b (by omega) (adh c k v) (λq d=>by rw [adi d];simp only;omega)
theorem KM (f:r.its.length<=16):SB (dK r) (48+r.cvs.length):=by
 have d:=v8 eI r.its 16;have e:=v8 bl r.cvs 32
 have g:∀q ∈ ba eI 16 r.its,(32:Int)<=q.1/\q.1<48:=λq c=>by
  have h:=d.2 q c;have i:=(iT eI r.its 16 q c).2.2;omega
 have m2:∀q ∈ ba bl 32 r.cvs,(48:Int)<=q.1/\q.1<48+r.cvs.length:=λq c=>by
  have h:=e.2 q c;have i:=(iT bl r.cvs 32 q c).2.2;omega
 have j:SB [(1,aC r.id),(2,aC r.me)] 3:=by
  refine ⟨by simp [ef],λq c=> ?_⟩;simp only [a8,eu,ep] at c;rcases c with rfl|rfl <;>simp
 have k:=j.opt (by omega) (!decide (r.key=0)) (aC r.key);have l:SB _ 5:=k.app (b:= [(4,dA r.tok)]) (by omega) (by omega) (by simp [ef]) (λq c=>by rw [eP.1 c];simp);have s3:=l.opt (by omega) (!decide (r.a=0)) (aC r.a);have s4:=s3.opt (by omega) (!decide (r.n=0)) (aC r.n);have m:=s4.opt (by omega) (!decide (r.till=0)) (aC r.till);have s6:SB _ 48:=m.app (b:=ba eI 16 r.its) (by omega) (by omega) d.1 (λq c=>by have:=g q c;omega);exact s6.app (b:=ba bl 32 r.cvs) (by omega) (by omega) e.1 m2
def mJ (r:Rq):List (Int×Int):= [(3,r.key),(5,r.a),(6,r.n),(7,r.till)]
def ig (l:List (Int×Int)):List br:=(l.filter λe=> !decide (e.2=0)).map λe=>(e.1,aC e.2)
theorem K5 (l) (e):ig (l++ [e])=ig l++ (if e.2=0 then [] else [(e.1,aC e.2)]):=by
 unfold ig;rw [oT,lM];by_cases h:e.2=0 <;>simp [h]
theorem acV (r:Rq) (hd:d.Perm (mJ r)):(([(4,dA r.tok),(1,aC r.id),(2,aC r.me)]++ig d)++ba eI 16 r.its++ba bl 32 r.cvs).Perm (dK r):=by
 have b:(ig d).Perm (opt (!decide (r.key=0)) 3 (aC r.key)++opt (!decide (r.a=0)) 5 (aC r.a)++opt (!decide (r.n=0)) 6 (aC r.n)++opt (!decide (r.till=0)) 7 (aC r.till)):=by
  refine ((hd.filter _).map _).trans (List.Perm.of_eq ?_);unfold mJ opt;by_cases c1:r.key=0 <;>by_cases c:r.a=0 <;>by_cases e:r.n=0 <;>by_cases f:r.till=0 <;>simp [List.filter_cons,c1,c,e,f]
 refine (((List.Perm.append_left _ b).append_right _).append_right _).trans ?_;unfold dK;rw [List.perm_iff_count];intro q;simp only [List.count_append,List.count_cons,List.count_nil];omega
theorem LM :∀{l:List (Int×I)},l.Pairwise (λa b=>a.1≠b.1)->ml l=true
 | [],_=>rfl
 |x::r,h=>by
  rw [eO] at h;simp only [ml,bb,gU,sL,yF];exact ⟨λy j=>λC=>h.1 y j C.symm,LM h.2⟩
theorem XK (d:r.its.length<=16) (k:r.cvs.length<=16) (c:L.Perm (dK r)):lp L=true/\jx L=dK r:=by
 have e:=KM d;have f:(dK r).Pairwise (λa b=>a.1≠b.1):=e.1.imp λh=>by omega
 have i:=LM ((c.pairwise_iff (R:=λa b=>a.1≠b.1) (λh=>Ne.symm h)).2 f);have g:(dK r).Pairwise (λa b=>a.1<=b.1):=e.1.imp λh=>by omega
 refine ⟨?_,Ur i c g⟩;simp only [lp,bb,i,db,dn];refine ⟨gU.2 λq j=> ?_,?_⟩
 ·have:=e.2 q (c.mem_iff.1 j);simp only [Iy,bb,db];omega
 ·rw [c.length_eq];unfold dK;simp only [cq,kO,aW,dy];have:=gz (!decide (r.key=0)) 3 (aC r.key);have:=gz (!decide (r.a=0)) 5 (aC r.a);have:=gz (!decide (r.n=0)) 6 (aC r.n);have:=gz (!decide (r.till=0)) 7 (aC r.till);omega
theorem afU (d:0<=a) (e:0<=b):cm [a,b]=some (eI (a,b)):=
 qZ (l:= [a,b]) (λn c=>by simp only [a8,eu,ep] at c;rcases c with rfl|rfl <;>assumption) (by simp)
theorem we (h:n<=1000):decide ((n+1)*32<=az)=true:=aF (by unfold az;omega)
theorem aeZ {f:α->List α->Option R} (a:l≠ []) (h:∀i x,l[i]?=some x->f x (l.eraseIdx i)=some r):jf l f=some r:=by
 unfold jf;have b:∃r,l≠ []/\∀i x,l[i]?=some x->f x (l.eraseIdx i)=some r:=⟨r,a,h⟩;rw [dif_pos b];have:=b.choose_spec.2
 cases l with
 |nil=>exact absurd rfl a
 |cons x t=>
  have c:=this 0 x rfl;rw [h 0 x rfl] at c;exact c.symm
theorem aer {α:Type} {l:List α} (h):(l[i]::l.eraseIdx i).Perm l:=by
 have e:l=l.take i++l[i]::l.drop (i+1):=by rw [<-gT h,mC]
 rw [List.eraseIdx_eq_take_drop_succ];exact (JJ.symm).trans (List.Perm.of_eq e.symm)
theorem ac7 (h:(d++left).Perm (mJ r)):(ig d).length<=4:=by
 have a:=h.length_eq;simp only [cq,mJ,aW,dy] at a;unfold ig;rw [sG];have:=sH (λe=> !decide (e.2=0)) d;omega
theorem NO (h:RqOk r) (F:dR r):re r=some (dK r,0):=by
 have I:=vZ F;obtain ⟨w,y⟩:=sZ F;have J:=Ey F;have O:1<=r.2.1/\r.2.1<=10:=J;have K:IntKind.wrap .u64 r.2.1=r.2.1:=iO (by omega) (by omega)
 have T:bK (.int .u64) (.int .u64) (bK (.int .u64) (.int .u64) (bK (.int .u64) (.int .u64) (bK (.int .u64) (.int .u64) ([]:List (Int×Int)) 3 r.2.2.1) 5 r.2.2.2.2.2.2.1) 6 r.2.2.2.2.2.2.2.1) 7 r.2.2.2.2.2.2.2.2.1=mJ r:=by
  simp [bK,cj,mJ]
 have z:qY (r.2.2.2.1,(r.2.2.2.2.1,r.2.2.2.2.2.1))=some (dA r.tok,0):=by rw [NK (t:=r.tok) h.tok h.l1,aw F.2]
 unfold re;simp only [z,ai,al,ax,aa,bC,K,k9 h.id.1,k9 (n:=r.2.1) (by omega),T];simp only [cq,aW,dy,we (n:=0+1) (by omega),we (n:=0+1+ (0+1)) (by omega),ah]
 let base:List br:= [(4,dA r.tok),(1,aC r.id),(2,aC r.me)]
 refine bE (λ(x:List (Int×Int)×List br× (Unit×Unit))=>∃d,(d++x.1).Perm (mJ r)/\x.2.1=base++ig d) (λx=>x.1.length) (λ_=>(dK r,0)) ?_ _ ⟨[],by simp,by simp [ig,base]⟩;rintro ⟨left,A,u⟩ ⟨d,hd,b⟩ U k;simp only at hd b;subst b;have V:=ac7 hd;simp only;by_cases P:left= []
 ·subst P;rw [ji] at hd;have W:=acV r hd;obtain ⟨X,Y⟩:=XK I w W;simp only [yP,ah];refine bE (λ(x:Int×List br× (Unit×Unit))=>∃i:Nat,x.1=(i:Int)/\i<=r.its.length/\x.2.1=(base++ig d)++ba eI 16 (r.its.take i)) (λx=>r.its.length - x.1.toNat) (λ_=>(dK r,0)) ?_ _ ⟨0,rfl,by omega,by simp [ba]⟩;rintro ⟨Z,A,u2⟩ ⟨i,B,G,b⟩ Q o;simp only at B b;subst B;subst b;simp only;by_cases p:i<r.its.length
  ·have s:((i:Int) <(r.its.length:Int)):=by omega
   have v:=h.its _ (bt p)
   have hlen:((base++ig d)++ba eI 16 (r.its.take i)).length<=1000:=by
    simp only [cq,kO,dZ,base,aW,dy];omega
   have w1:IntKind.wrap .u64 (32+IntKind.wrap .u64 (i:Int))=32+ (i:Int):=by rw [iO (n:=(i:Int)) (by omega) (by omega),iO (by omega) (by omega)]
   have g:=aU (t:= .pair (.int .u64) (.int .u64)) p;simp only [Rq.its] at s g;simp only [Rq.its] at v;simp only [s,al,ah,bp (dp i) s,g,afU v.1.1 v.2.1,ai,w1,we hlen];rw [RB.dO (n:=(i:Int)+1) (by omega) (by omega)];refine o _ ⟨i+1,by simp,by omega,?_⟩ (by simp only;omega);simp only;rw [fg p,wa,fK];congr 3;have:=by omega
   simp only [dZ,this,eI];congr 2;omega
  ·have s:¬ ((i:Int) <(r.its.length:Int)):=by omega
   rw [kD (by omega)];simp only [Rq.its] at s;simp only [s,aK,aa];refine bE (λ(x:List br×Int×Int×List br× (Unit×Unit))=>∃i:Nat,x.2.2.1=(i:Int)/\i<=r.cvs.length/\x.2.2.2.1=((base++ig d)++ba eI 16 r.its)++ba bl 32 (r.cvs.take i)) (λx=>r.cvs.length - x.2.2.1.toNat) (λ_=>(dK r,0)) ?_ _ ⟨0,rfl,by omega,by simp [ba]⟩;rintro ⟨z1,z2,j',A,u3⟩ ⟨j,C,hj,b⟩ R q;simp only at C b;subst C;subst b;simp only;by_cases c:j<r.cvs.length
   ·have f:((j:Int) <(r.cvs.length:Int)):=by omega
    have v:=h.cvs _ (bt c);have D:=y _ (bt c)
    have hlen:(((base++ig d)++ba eI 16 r.its)++ba bl 32 (r.cvs.take j)).length<=1000:=by
     simp only [cq,kO,dZ,base,aW,dy];omega
    have w1:IntKind.wrap .u64 (48+IntKind.wrap .u64 (j:Int))=48+ (j:Int):=by rw [iO (n:=(j:Int)) (by omega) (by omega),iO (by omega) (by omega)]
    have g:=aU (t:= .pair (.int .i64) (.pair (.int .u64) (.int .u64))) c;simp only [Rq.cvs] at f g;simp only [Rq.cvs] at v D;simp only [Rq.its,Rq.cvs] at hlen;simp only [f,al,ah,bp (dp j) f,g,eF,FW v,ai,pg,D,aI,ax,aa,w1,we hlen];rw [RB.dO (n:=(j:Int)+1) (by omega) (by omega)];refine q _ ⟨j+1,by simp,by omega,?_⟩ (by simp only;omega);simp only;rw [fg c,wa,fK];congr 3;have:min j r.cvs.length=j:=by omega
    simp only [dZ,this];congr 2;omega
   ·have f:¬ ((j:Int) <(r.cvs.length:Int)):=by omega
    rw [kD (by omega)];simp only [Rq.cvs] at f;simp only [f,aK,aa];rw [show lp ((base++ig d)++ba eI 16 r.its++ba bl 32 r.cvs)=true from X];simp only [ah];rw [show jx ((base++ig d)++ba eI 16 r.its++ba bl 32 r.cvs)=dK r from Y]
 ·have L:left.isEmpty=false:=by cases left <;>simp_all
  simp only [L,aa];refine aeZ P λi e G=> ?_
  have l:i<left.length:=(oS.1 G).1;have M:left[i]=e:=(oS.1 G).2
  have E:((d++ [e])++left.eraseIdx i).Perm (mJ r):=by
   refine List.Perm.trans ?_ hd;rw [fK];refine List.Perm.append_left d ?_;rw [<-M];exact aer l
  have m:(left.eraseIdx i).length<left.length:=by rw [List.length_eraseIdx,aw l];omega
  have hu:e.2=0\/0<=e.2:=by
   have S:e ∈ mJ r:=hd.mem_iff.1 (lK _ (kG G));simp only [mJ,a8,eu,ep] at S;rcases S with rfl|rfl|rfl|rfl
   ·exact .inr h.key.1
   ·exact .inr h.a.1
   ·exact .inr h.n.1
   ·exact .inr h.till.1
  have hlen:(base++ig d).length<=1000:=by simp only [cq,base,aW,dy];omega
  by_cases H:e.2=0
  ·simp only [H,al,ax,aa];exact k _ ⟨d++ [e],E,by simp only;rw [K5,aw H,ji]⟩ m
  ·have N:0<=e.2:=by omega
   simp only [H,aK,bm,ah,k9 N,ai,we hlen];exact k _ ⟨d++ [e],E,by simp only;rw [K5,ak H,fK]⟩ m
def del (q:br):=decide (q.1=1) || decide (q.1=4)
def lQ (q):= !del q
theorem N3 (q):wZ q=some (del q):=by
 obtain ⟨t,v⟩:=q;unfold wZ del;by_cases h:t=1 <;>simp [h]
def wm (p:br->Bool) (l:List br):Int:=match l.findIdx? p with|some j=>(j:Int)|none=> -1
theorem adX (m:l.length<=9223372036854775807):AP (l,())=some (wm del l):=by
 unfold AP
 let a:=λi=>match (l.drop i).findIdx? del with|some j=>((i+j:Nat):Int)|none=> -1
 have b:∀i,(h:i<l.length)->del l[i]=false->a i=a (i+1):=by
  intro i h f;simp only [a];rw [gT h,JR,f];simp only [dQ,aH]
  cases (l.drop (i+1)).findIdx? del with
  |none=>rfl
  |some j=>simp only [sD];congr 1;omega
 have e0:wm del l=a 0:=by simp only [wm,a,qz];cases l.findIdx? del <;>simp
 rw [e0];show _=some (a ((0,0):Int×Int).2.toNat);refine bE (λ(x:Int×Int)=>∃i:Nat,x.2=(i:Int)/\i<=l.length) (λx=>l.length - x.2.toNat) (λx=>a x.2.toNat) ?_ (0,0) ⟨0,rfl,by omega⟩;rintro ⟨y,o⟩ ⟨i,d,p⟩ k e;simp only at d;subst d;simp only [bu];by_cases c:i<l.length
 ·have g:((i:Int) <(l.length:Int)):=by omega
  simp only [g,al,ah,bp (dp i) g,aU (t:=tR) c,eF,N3,ai]
  cases f:del l[i] with
  |true=>
   simp only [ah,a];rw [gT c,JR,f];simp
  |false=>
   simp only [aa];rw [RB.dO (n:=(i:Int)+1) (by omega) (by omega),b i c f];have:=e (y,(i:Int)+1) ⟨i+1,by simp,by omega⟩ (by simp only;omega);rw [this];simp only;congr 2
 ·have g:¬ ((i:Int) <(l.length:Int)):=by omega
  simp only [g,aK,aa,a];rw [vG (by omega)];simp
theorem El (h:q ∈ dK r):q=(1,aC r.id)\/q=(2,aC r.me)\/q=(3,aC r.key)\/q=(4,dA r.tok)\/q=(5,aC r.a)\/q=(6,aC r.n)\/q=(7,aC r.till)\/q ∈ ba eI 16 r.its\/q ∈ ba bl 32 r.cvs:=by
 unfold dK at h;simp only [cz,a8,eu,ep] at h;rcases h with (((((((h|h)|h)|h)|h)|h)|h)|h)|h
 ·exact .inl h
 ·exact .inr (.inl h)
 ·exact .inr (.inr (.inl (gp h)))
 ·exact .inr (.inr (.inr (.inl h)))
 ·exact .inr (.inr (.inr (.inr (.inl (gp h)))))
 ·exact .inr (.inr (.inr (.inr (.inr (.inl (gp h))))))
 ·exact .inr (.inr (.inr (.inr (.inr (.inr (.inl (gp h)))))))
 ·exact .inr (.inr (.inr (.inr (.inr (.inr (.inr (.inl h)))))))
 ·exact .inr (.inr (.inr (.inr (.inr (.inr (.inr (.inr h)))))))
theorem E3 (x):(eI x).length<=18:=by
 have a:=fD x.1;have b:=fD x.2;simp only [eI,kJ,DK,cq,dy];omega
theorem za (h:RqOk r) (k:dR r):∀q ∈ dK r,k8 q:=by
 intro q c;have j:=Ey k;have u:=vZ k;obtain ⟨w,f⟩:=sZ k;have b:∀ (t) (v),0<=t->t<100->Bs v->k8 (t,v):=λt v m d o=>⟨⟨m,by simp only;omega⟩,o⟩
 rcases El c with rfl|rfl|rfl|rfl|rfl|rfl|rfl|c|c
 ·exact b _ _ (by decide) (by decide) (gb h.id.1)
 ·exact b _ _ (by decide) (by decide) (gb (by omega))
 ·exact b _ _ (by decide) (by decide) (gb h.key.1)
 ·exact b _ _ (by decide) (by decide) (Ko h.tok k.2)
 ·exact b _ _ (by decide) (by decide) (gb h.a.1)
 ·exact b _ _ (by decide) (by decide) (gb h.n.1)
 ·exact b _ _ (by decide) (by decide) (gb h.till.1)
 ·obtain ⟨⟨x,e,d⟩,p,s⟩:=iT eI _ _ _ c;have g:=h.its x e;refine ⟨⟨by omega,by omega⟩,?_⟩;rw [d]
  exact E1 (l:= [x.1,x.2]) λn i=>by
   simp only [a8,eu,ep] at i;rcases i with rfl|rfl
   ·exact g.1.1
   ·exact g.2.1
 ·obtain ⟨⟨x,e,d⟩,p,s⟩:=iT bl _ _ _ c;refine ⟨⟨by omega,by omega⟩,?_⟩;rw [d];exact Mw (h.cvs x e) (f x e)
theorem zb (k:dR r):fi (dK r):=by
 have e:=vZ k;obtain ⟨h,f⟩:=sZ k;refine ⟨?_,λq c=> ?_,(KM e).1⟩
 ·unfold dK;simp only [cq,kO,aW,dy];have:=gz (!decide (r.key=0)) 3 (aC r.key);have:=gz (!decide (r.a=0)) 5 (aC r.a);have:=gz (!decide (r.n=0)) 6 (aC r.n);have:=gz (!decide (r.till=0)) 7 (aC r.till);omega
 ·have b:=λn=>fD n
  rcases El c with rfl|rfl|rfl|rfl|rfl|rfl|rfl|c|c
  ·have:=b r.id;simp only;omega
  ·have:=b r.me;simp only;omega
  ·have:=b r.key;simp only;omega
  ·have:(dA r.tok).length<=486:=qI k.2;simp only;omega
  ·have:=b r.a;simp only;omega
  ·have:=b r.n;simp only;omega
  ·have:=b r.till;simp only;omega
  ·obtain ⟨⟨x,g,d⟩,_⟩:=iT eI _ _ _ c;have:=E3 x;rw [d];omega
  ·obtain ⟨⟨x,g,d⟩,_⟩:=iT bl _ _ _ c;have:=tw x;rw [d];omega
theorem adk (h:fi l) (p):fi (l.filter p):=
 ⟨b9 (sH p l) h.1,λq a=>h.2.1 q ((nH.1 a).1),h.2.2.filter p⟩
theorem Ms {l:List br} (h:∀q ∈ l,(bG q).length<=k):(l.flatMap bG).length<=k*l.length:=by
 induction l with
 |nil=>simp
 |cons q r a=>
  rw [kJ,cq,aW,Nat.mul_add,Nat.mul_one];have c:=h q (by simp);have:=a (λx b=>h x (by simp [b]));omega
theorem E2 (q):(bG q).length<=18+q.2.length:=by
 have a:=fD q.1;have b:=fD (q.2.length:Int);simp only [bG,cq];omega
theorem acU (k:dR r):∀q ∈ dK r,q.2.length<=486:=by
 intro q c;have b:=λn=>fD n
 rcases El c with rfl|rfl|rfl|rfl|rfl|rfl|rfl|c|c
 ·have:=b r.id;simp only;omega
 ·have:=b r.me;simp only;omega
 ·have:=b r.key;simp only;omega
 ·exact qI k.2
 ·have:=b r.a;simp only;omega
 ·have:=b r.n;simp only;omega
 ·have:=b r.till;simp only;omega
 ·obtain ⟨⟨x,e,d⟩,_⟩:=iT eI _ _ _ c;have:=E3 x;rw [d];omega
 ·obtain ⟨⟨x,e,d⟩,_⟩:=iT bl _ _ _ c;have:=tw x;rw [d];omega
def mH (r):=(dK r).filter lQ
theorem ac4 (k:dR r):kM (mH r)=((mH r).flatMap bG,0):=by
 unfold kM;have a:=adk (zb k) lQ;have d:=Ms (l:=mH r) (k:=504) (λq b=>by have e:=acU k q (nH.1 b).1;have:=E2 q;omega);have c:=a.1;have f:(mH r).length<=64:=c;rw [aw (show fi (mH r) from a),ak (by omega)]
theorem aeg {l:List br} (h:l.findIdx? del=some j):∃e,del l[j]=true/\∀i (a:i<j),del (l[i]'(by omega))=false:=by
 obtain ⟨b,c,d⟩:=Xq.1 h;exact ⟨b,c,λi a=>by simpa using d i a⟩
theorem Mh {l:List br} (h:∀q ∈ l,del q=false):l.filter lQ=l:=by
 rw [JT];intro q a;simp [lQ,h q a]
open Classical in
theorem Oe {r:Rq} (h:RqOk r):xf r=some (if dR r then ((mH r).flatMap bG,0) else ([],1)):=by
 have p:pD (r.1,(r.2.1,(r.2.2.1,(r.2.2.2.1,(r.2.2.2.2.1,(r.2.2.2.2.2.1,(r.2.2.2.2.2.2.1,(r.2.2.2.2.2.2.2.1,(r.2.2.2.2.2.2.2.2.1,(r.2.2.2.2.2.2.2.2.2.1,r.2.2.2.2.2.2.2.2.2.2))))))))))=some (if dR r then 0 else 1):=Ft h;unfold xf;dsimp -beta -proj only;simp only [p,ai];by_cases k:dR r
 ·have s:re (r.1,(r.2.1,(r.2.2.1,(r.2.2.2.1,(r.2.2.2.2.1,(r.2.2.2.2.2.1,(r.2.2.2.2.2.2.1,(r.2.2.2.2.2.2.2.1,(r.2.2.2.2.2.2.2.2.1,(r.2.2.2.2.2.2.2.2.2.1,r.2.2.2.2.2.2.2.2.2.2))))))))))=some (dK r,0):=NO h k;have M:=zb k;have N:=za h k;have C:=M.1
  have a:om ((dK r).filter lQ)=some ((mH r).flatMap bG,0):=by
   rw [Ai (λq u=>N q ((nH.1 u).1)),ac4 k|>.symm];rfl
  simp only [k,aI,s,ai,al,ax,aa,adX (l:=dK r) (by omega)];generalize X:dK r=L at M N C a ⊢
  cases A:L.findIdx? del with
  |none=>
   have m:∀q ∈ L,del q=false:=λq u=>by
    have:=List.findIdx?_eq_none_iff.1 A q u;simpa using this
   rw [Mh m] at a;simp only [wm,A,al,ah,a,ai]
  |some b=>
   obtain ⟨D,E,v⟩:=aeg A;have F:¬ (b:Int)= -1:=by omega
   simp only [wm,A,F,aK,aa];rw [RB.dO (n:=(b:Int)+1) (by omega) (by omega)]
   have c:L.take b=(L.take (b+1)).filter lQ:=by
    rw [fg D,oT,Mh (λq u=>by
     obtain ⟨i,O,rfl⟩:=kH u;have G:i<b:=by rw [dZ] at O;omega
     rw [List.getElem_take];exact v i G)]
    simp [lQ,E]
   refine bE (λ(x:Int×Int×List br)=>∃i j:Nat,x.1=(i:Int)/\x.2.1=(j:Int)/\i<j/\j<=L.length/\x.2.2.length=L.length/\x.2.2.take i=(L.take j).filter lQ/\x.2.2.drop j=L.drop j) (λx=>L.length - x.2.1.toNat)
    (λ_=>((mH r).flatMap bG,0)) ?_ ((b:Int),(b:Int)+1,L) ⟨b,b+1,rfl,by simp,by omega,by omega,rfl,c,rfl⟩
   rintro ⟨Y,Z,xs⟩ ⟨i,j,w,y,P,Q,hlen,d,e⟩ R f;simp only at w y hlen d e;subst w;subst y;simp only;by_cases o:j<L.length
   ·have B:((j:Int) <(xs.length:Int)):=by omega
    have H:((i:Int) <(xs.length:Int)):=by omega
    have z:j<xs.length:=by omega
    have I:xs[j]=L[j]:=by
     have S:xs.drop j=xs[j]::xs.drop (j+1):=gT z;have T:L.drop j=L[j]::L.drop (j+1):=gT o;rw [S,T] at e;exact (List.cons.inj e).1
    have g:xs.drop (j+1)=L.drop (j+1):=by
     rw [<-vH,<-vH,e]
    simp only [B,al,ah,bp (dp j) B,bp (dp i) H,aU (t:=tR) z,eF,N3,ai,I,bu];rw [RB.dO (n:=(j:Int)+1) (by omega) (by omega),RB.dO (n:=(i:Int)+1) (by omega) (by omega)]
    cases hd:del L[j] with
    |true=>
     simp only [ax,aa];refine f _ ⟨i,j+1,rfl,by simp,by omega,by omega,hlen,?_,g⟩ (by simp only;omega);simp only;rw [d,fg o,oT];simp [lQ,hd]
    |false=>
     simp only [bm,ah];refine f _ ⟨i+1,j+1,by simp,by simp,by omega,by omega,by simpa using hlen,?_,?_⟩ (by simp only;omega)
     ·simp only;rw [fg (by simp;omega),List.take_set_of_le (by omega),d,List.getElem_set_self,fg o,oT];simp [lQ,hd]
     ·simp only;rw [List.drop_set_of_lt (by omega)];exact g
   ·have B:¬ ((j:Int) <(xs.length:Int)):=by omega
    have U:j=L.length:=by omega
    have g1:ae (i:Int) (xs.length+1)=true:=bp (dp i) (by omega);have V:decide (i+ (xs.length - i)<=xs.length)=true:=aF (by omega);have W:∀ (ys:List br),ys.length=xs.length->ae (i:Int) (ys.length+1)=true:=λys hy=>bp (dp i) (by omega)
    have J:(xs.take i++ (List.replicate (xs.length - i) (0,[]):List (Int×List Int))++xs.drop (i+ (xs.length - i))).length=xs.length:=by
     simp only [cq,dZ,yO,gL];omega
    have K:(xs.take i++ (List.replicate (xs.length - i) (0,[]):List (Int×List Int))++xs.drop (i+ (xs.length - i))).take i=L.filter lQ:=by
     rw [fK,List.take_append_of_le_length (by simp;omega),yK,Nat.min_self,d,U,fX]
    simp only [B,aK,aa,bu,g1,V,W _ J,ah,K,a,ai]
 ·simp [k]
end Go.Proofs.YtkihadlgknhpkaaGreatDoor.T
namespace Go.Proofs.YtkihadlgknhpkaaGreatDoor.T
open Go Go.Fw Go.Proofs RB
set_option maxRecDepth 20000
def few (r:Rq):Bool:=decide (r.tok.2.1.length<=20) && (decide (r.its.length<=20) && decide (r.cvs.length<=20))
open Classical in
noncomputable def fP (r:Rq):Int×Int:=if dR r then (if r.me=1 then (r.n,0) else if r.me=2 then ga r.its else (0,0)) else (0,1)
theorem Fs (h:RqOk r):q9 r=some (fP r):=by
 have a:=Ft h;unfold q9 fP;rw [a];simp only [ai,FX h.l2 h.its];by_cases k:dR r
 ·by_cases b:r.2.1=1
  ·simp [k,b,Rq.me,Rq.n]
  ·by_cases c:r.2.1=2
   ·simp [k,b,c,Rq.me,Rq.its]
   ·simp [k,b,c,Rq.me]
 ·simp [k]
end Go.Proofs.YtkihadlgknhpkaaGreatDoor.T
namespace Go.Proofs.YtkihadlgknhpkaaGreatDoor.T
open Go Go.Fw Go.Proofs RB
set_option maxRecDepth 20000
theorem af0 (e:a.length<=4611686018427387904):Ay (a,b)=some (decide (a=b)):=by
 unfold Ay;dsimp -beta -proj only;by_cases d:a.length=b.length
 ·have:(a.length:Int)=(b.length:Int):=by omega
  simp only [this,al,ax,aa];rw [<-this];refine TN (t:= .pair (.int .i64) (.pair (.int .u64) (.int .u64))) e d (G:=λx y K=>K (decide (x.1=y.1) && (decide (x.2.1=y.2.1) && decide (x.2.2=y.2.2)))) ?_;intro i j k K;congr 1;rw [J1];simp only [bb,db];constructor
  ·rintro ⟨q1,f,g⟩;exact aM q1 (aM f g)
  ·intro q;rw [q];exact ⟨rfl,rfl,rfl⟩
 ·have:¬ (a.length:Int)=(b.length:Int):=by omega
  have c:a≠b:=λh=>d (by rw [h])
  simp [this,c]
theorem agK (d:a.2.1.length<=4611686018427387904):Bm (a,b)=some (decide (a=b)):=by
 obtain ⟨e,f,a3⟩:=a;obtain ⟨b1,g,h⟩:=b;unfold Bm;simp only [af0 d,ai];by_cases c1:e=b1
 ·by_cases c:a3=h
  ·by_cases i:f=g <;>simp [c1,c,i]
  ·simp [c1,c]
 ·simp [c1]
end Go.Proofs.YtkihadlgknhpkaaGreatDoor.T
