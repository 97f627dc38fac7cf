/- Part 46: lemmas that the last text needs. -/
import Derived.Test.YtkihadlgknhpkaaGreatDoorX45
import Derived.Test.YtkihadlgknhpkaaGreatDoorX43
set_option linter.all false
set_option autoImplicit true
set_option relaxedAutoImplicit true
namespace Go.Proofs.YtkihadlgknhpkaaGreatDoor.T
open Go Go.Fw Go.Proofs RB
set_option maxRecDepth 20000
structure FdOk (f:jY):Prop where
 lo:1<=f.1
 hi:f.1<=4611686018427387904
 len:(f.2.length:Int)=min (f.1 - 1) 64
 ev:∀i (h:i<f.2.length),f.2[i].1=f.1 - f.2.length+i/\0<=f.2[i].2.1/\f.2[i].2.1<16
 ty:∀e ∈ f.2,ay e.2.2.1/\ay e.2.2.2
theorem MX:∀ (r:List D1) (s),(∀i (h:i<r.length),r[i].1=s - 1 - i/\0<=r[i].2.1/\r[i].2.1<16)->mu s r=true
 | [],_,_=>rfl
 |e::r,s,h=>by
  have j:=h 0 (by simp);simp only [Xo,DP,Int.sub_zero] at j
  have a:=MX r (s - 1) (λi b=>by
   have:=h (i+1) (by grind)
   grind)
  grind[mu]
theorem FP (k:FdOk f):rF f=some 0:=by
 unfold rF jG;have c:=k.lo;have d:=k.hi
 have a:mu f.1 f.2.reverse=true:=MX _ _ (λi b=>by
  rw [List.length_reverse] at b;have:=k.ev (f.2.length - 1 - i) (by omega)
  grind)
 rw [aq (show ¬f.1=0 by omega),aq (show ¬4611686018427387904<f.1 by omega),aF k.len,a];rfl
theorem agB (k):A6 k=some (decide (0<=k/\k<16)):=by
 grind[A6]
theorem A7 (h:l.length<=1000000):rv l=some l:=by
 grind[az,rv,bC]
def zF:jY:=(0,[])
def gv (f:jY) (k a n:Int):jY×Int×Int:=
 if f.1=4611686018427387904 then (zF,0,7) else ((f.1+1,(f.2++ [(f.1,k,a,n)]).drop (f.2.length+1 - 64)),f.1,0)
theorem Oa (h:FdOk f) (b:0<=k/\k<16):lh (f,k,a,n)=some (gv f k a n):=by
 have d:=h.lo;have e:=h.hi;have g:=h.len;unfold lh gv;dsimp -beta -proj only;simp only;rw [FP h,ai,agB,ai,aF b];simp only [al,ax,aa,bJ,ah];by_cases c:f.1=4611686018427387904
 ·simp [c,zF]
 ·have i:=by omega
  have g1:(f.2.length+1)*32<=az:=by grind[az]
  have hlen:(f.2++ [(f.1,k,a,n)]).length=f.2.length+1:=by simp
  grind[cX,fY,aV,A7]
theorem Nf (h:FdOk f) (p:0<=k/\k<16) (q:ay a) (r:ay n) (j:gv f k a n=(g,s,0)):FdOk g:=by
 unfold gv at j;split at j
 ·grind
 ·rename_i c;simp only [aL,dn] at j;obtain ⟨rfl,_⟩:=j;have t:=h.lo;have u:=h.hi;have v:=h.len
  have hlen:((f.2++ [(f.1,k,a,n)]).drop (f.2.length+1 - 64)).length=min (f.2.length+1) 64:=by
   grind
  refine ⟨by omega,by omega,?_,λi m=> ?_,λe b=> ?_⟩
  ·grind
  ·simp only at m ⊢;have l:=m;rw [hlen] at l;rw [hlen,List.getElem_drop];rcases jh (f.2.length+1 - 64+i) f.2.length with d|o
   ·rw [Xp d];have:=h.ev _ d;omega
   grind[List.getElem_singleton]
  ·have b:=iJ b;rcases cz.1 b with b|b
   ·exact h.ty e b
   grind
theorem aga (h:FdOk f):AJ f=some (f.1 - f.2.length,0):=by
 have a:=h.lo;have b:=h.hi;have c:=h.len
 grind[AJ,FP,fY]
def kQ (f:jY) (s:Int×Int):Int:=if 0<s.1 / 65536\/f.1<=s.2 then 1 else if s.2+1<f.1 - f.2.length then 13 else 0
theorem N0 (h:FdOk f) (a:ay s.1/\ay s.2):tW (f,s)=some (kQ f s):=by
 have b:=h.hi;unfold tW kQ;simp only;rw [aga h,ai];have e:(2:Int)^ (min (16:Int).toNat 64)=65536:=rfl;rw [e];by_cases c1:0<s.1 / 65536
 ·grind
 ·by_cases c:f.1<=s.2
  ·grind
  ·have w:IntKind.wrap .u64 (s.2+1)=s.2+1:=fY (by have:=a.2.1;omega) (by omega)
   grind
def kU (f:jY) (s:Int×Int) (most:Int) (a:List D1):List D1× (Int×Int)×Int:=
 if (a.length:Int) <most then (a,(s.1,f.1 - 1),0) else if 0<most then (a,(s.1,(a.getD (most - 1).toNat (0,0,0,0)).1),0) else (a,s,0)
def ib (f:jY) (s:Int×Int) (most:Int):List D1->List D1->List D1× (Int×Int)×Int
 |a,[]=>kU f s most a
 |a,e::r=>if (a.length:Int)=most then kU f s most a else if df .and .u64 (s.1 / 2^ (min e.2.1.toNat 64)) 1=0 then ib f s most a r else ib f s most (a++ [e]) r
theorem Mg (f) (s) (most) (d:0<=most) (a) (c:(a.length:Int)<=most) (b:∀e ∈ a,e ∈ f.2):
 ((kU f s most a).1.length:Int)<=most/\(∀e ∈ (kU f s most a).1,e ∈ f.2)/\(kU f s most a).2.1.1=s.1/\(kU f s most a).2.2=0/\
 ((kU f s most a).2.1.2=f.1 - 1\/(kU f s most a).2.1.2=s.2\/∃e ∈ f.2,(kU f s most a).2.1.2=e.1):=by
 unfold kU;split
 ·grind
 ·split
  ·rename_i c1 g;refine ⟨c,b,rfl,rfl,.inr (.inr ⟨a[(most - 1).toNat]'(by omega),b _ (bt _),?_⟩)⟩;simp only;rw [DJ,cK (by omega)];rfl
  grind
theorem Ec (f) (s) (most) (b:0<=most):∀ (l a),(a.length:Int)<=most->(∀e ∈ a,e ∈ f.2)->(∀e ∈ l,e ∈ f.2)->
 ((ib f s most a l).1.length:Int)<=most/\(∀e ∈ (ib f s most a l).1,e ∈ f.2)/\(ib f s most a l).2.1.1=s.1/\(ib f s most a l).2.2=0/\
 ((ib f s most a l).2.1.2=f.1 - 1\/(ib f s most a l).2.1.2=s.2\/∃e ∈ f.2,(ib f s most a l).2.1.2=e.1)
 | [],a,j,C,I=>Mg f s most b a j C
 |e::r,a,j,C,I=>by
  unfold ib;split
  ·exact Mg f s most b a j C
  ·split
   ·exact Ec f s most b r a j C (λx c=>I x (by grind))
   ·refine Ec f s most b r (a++ [e]) (by grind) (λx c=> ?_) (λx c=>I x (by grind))
    grind
def oc (f:jY) (s:Int×Int):=f.2.drop (f.2.length -(f.1 - 1 - s.2).toNat)
theorem agl (h:FdOk f) (q:ay s.1/\ay s.2) (I:0<=most/\most<=1000):tV (f,s,most)=some (if kQ f s=0 then ib f s most [] (oc f s) else ([],(0,0),kQ f s)):=by
 have J:=h.lo;have K:=h.hi;have L:=h.len;have r:=q.2.1;unfold tV;dsimp -beta -proj only;simp only;rw [N0 h q,ai];by_cases c:kQ f s=0
 ·have d:=c;unfold kQ at d;split at d
  ·omega
  split at d
  ·omega
  rename_i M m2;have w1:IntKind.wrap .u64 (f.1 - 1)=f.1 - 1:=fY (by omega) (by omega);have u:IntKind.wrap .u64 (f.1 - 1 - s.2)=f.1 - 1 - s.2:=fY (by omega) (by omega);have v:IntKind.wrap .i64 (f.1 - 1 - s.2)=f.1 - 1 - s.2:=cX (by omega) (by omega);have w:IntKind.wrap .i64 ((f.2.length:Int) -(f.1 - 1 - s.2))=((f.2.length -(f.1 - 1 - s.2).toNat:Nat):Int):=by grind[cX]
  have y:ae ((f.2.length -(f.1 - 1 - s.2).toNat:Nat):Int) (f.2.length+1)=true:=aV (by omega);rw [aw c,c];simp only [al,ax,aa,show decide (most<0)=false from aq (by omega),w1,u,v,w,y,ah,bu];have z:(oc f s).length<=f.2.length:=by grind[oc]
  have n:∀e ∈ oc f s,e ∈ f.2:=λe A=>iJ A
  change aD _ (([]:List D1),(0:Int))=_;have C:f.2.drop (f.2.length -(f.1 - 1 - s.2).toNat)=oc f s:=rfl;rw [C];generalize oc f s=B at*
  have fin:∀a:List D1,(a.length:Int)<=most->(bif decide ((a.length:Int) <most) then some (a,(s.1,f.1 - 1),(0:Int)) else bif decide (0<most) then bif ae (IntKind.wrap .i64 (most - 1)) a.length then some (a,(s.1,(rd Y2 a (IntKind.wrap .i64 (most - 1))).1),0) else none else some (a,s,0))=some (kU f s most a):=by
   intro a o;unfold kU;by_cases q1:(a.length:Int) <most
   ·grind
   ·by_cases l:0<most
    ·have D:IntKind.wrap .i64 (most - 1)=most - 1:=cX (by omega) (by omega);have E:ae (most - 1) a.length=true:=bp (by omega) (by omega);simp only [q1,l,aK,al,aa,ah,aH,aI,D,E];rfl
    grind
  refine bE (λ(x:List D1×Int)=>∃i:Nat,x.2=(i:Int)/\i<=B.length/\(x.1.length:Int)<=most) (λx=>B.length - x.2.toNat) (λx=>ib f s most x.1 (B.drop x.2.toNat)) ?_ _ ⟨0,rfl,gK _,by grind⟩;rintro ⟨a,N⟩ ⟨i,m,O,o⟩ F k;simp only at m o;subst m;simp only [bu];rcases jh i B.length with b|G
  ·rw [aF (eA b),ah,aV b,ah,aU (t:=Y2) b,cx (by omega),gT b]
   have p:0<=B[i].2.1:=by
    obtain ⟨j,H,e⟩:=kH (n _ (bt b));have:=(h.ev j H).2.1
    grind
   unfold ib;by_cases q1:(a.length:Int)=most
   ·grind
   ·rw [aq q1,ak q1,aa,aF p,ah];by_cases l:df .and .u64 (s.1 / 2^ (min B[i].2.1.toNat 64)) 1=0
    ·rw [aF l,aw l,ah];have:=k (a,((i+1:Nat):Int)) ⟨i+1,rfl,b,o⟩ (by omega)
     grind
    ·have g:(a.length+1)*32<=az:=by grind[az]
     rw [aq l,ak l,aa,aF g,ah];have:=k (a++ [B[i]],((i+1:Nat):Int)) ⟨i+1,rfl,b,by grind⟩ (by omega)
     grind
  grind[ib]
 grind
structure RtOk (l:List dC):Prop where
 few:l.length<=64
 inc:bB RK l
 keys:(l.map (·.2.1)).Nodup
 ty:∀r ∈ l,ay r.1/\ay r.2.1
theorem xm (h:l.length<=1000000):pJ l=some l:=by
 grind[az,pJ,bC]
def nO (l:List dC) (key):=l.any λr=>decide (r.2.1=key)
theorem FO (c:l.length<=1099511627776) (key):uk (l,key)=some (nO l key):=by
 unfold uk;refine (qM l.length (λi=>((0:Int),(i:Int))) (λx=>x.2.toNat) (λi _=>by simp) (λi=>∀h,¬l[i].2.1=key) false true (λi d b a=> ?_) (λb a=> ?_)).trans ?_
 all_goals grind[aV,aU,cx,decide_eq_false,nO,List.getElem_of_mem]
theorem XC {l:List dC} (k:(l.map (·.2.1)).Nodup) (a):nO (l.take i) l[i].2.1=false:=by
 grind[nO,List.getElem_of_mem,List.pairwise_iff_getElem]
theorem OB (k:RtOk l):xE l=some 0:=by
 have f:=k.few;unfold xE;dsimp -beta -proj only;rw [aq (show ¬ (64:Int) <(l.length:Int) by omega),aa];refine fA l.length (λi=>((0:Int),(i:Int))) (λx=>x.2.toNat) (λi _=>by simp) 0 (λi a b=> ?_) (λb=> ?_)
 ·simp only;have e:ae (i:Int) (l.length+1)=true:=aV (by omega);have c:=FO (l:=l.take i) (by grind) l[i].2.1;rw [XC k.keys a] at c;rw [aF (eA a),ah,aV a,ah,aU (t:=cQ) a,e,ah,bu,c,ai,aa,cx (by omega)]
  cases i with
  |zero=>rfl
  |succ j=>
   have d:j<l.length:=by omega
   rw [aF (show (0:Int) <((j+1:Nat):Int) by omega)];simp only [bJ,ah]
   rw [oX (by omega),aV d,ah,aU (t:=cQ) d,Ou,ai,aq (show ¬0<=cT l[j].1 l[j+1].1 by
    rw [pz];have:=mM k.inc (show j<j+1 by omega) a
    grind)]
   rfl
 grind
def zR:dC:=(0,0,false)
theorem Oy (k:RtOk l) :xA (l,q)=some ((bj RK q l:Int),aN RK q l,0):=by
 have a:=k.few;unfold xA;rw [OB k,ai];simp only [al,ax,aa];rw [agQ (by omega) k.inc];rfl
def gu (l:List dC) (q key:Int):List dC×Int:=
 if aN RK q l=true\/nO l key=true then ([],6) else if l.length=64 then ([],7) else (b7 RK q l++ (q,key,false)::bQ RK q l,0)
theorem ag2 (k:RtOk l) :BF (l,q,key)=some (gu l q key):=by
 have a:=k.few;unfold BF gu;simp only;rw [Oy k,ai];simp only [al,ax,aa]
 cases b:aN RK q l with
 |true=>simp
 |false=>
  simp only [bJ,ah,FO (show l.length<=1099511627776 by omega),ai]
  grind[ph,bp,az,Int.toNat_natCast,tp,xm]
theorem tz (k:RtOk l) (g:ay q) (i:ay key) (h:gu l q key=(m,0)):RtOk m:=by
 unfold gu at h;split at h
 ·grind
 split at h
 ·grind
 rename_i j n;simp only [aL,dn] at h;subst h;have e:=eQ (k:=RK) q l;have c:aN RK q l=false:=by grind
 have b:nO l key=false:=by grind
 refine ⟨?_,wj k.inc c rfl,?_,λr a=> ?_⟩
 ·have:=bz List.length e;have o:=k.few
  grind
 ·have d:(b7 RK q l++ (q,key,false)::bQ RK q l).Perm ((q,key,false)::l):=by
   grind
  rw [(d.map (·.2.1)).nodup_iff,eX,kF];refine ⟨λf=> ?_,k.keys⟩;obtain ⟨r,a,p⟩:=iK.1 f;have:=nL.1 b r a
  grind
 ·rcases cz.1 a with a|a
  ·exact k.ty r (by grind)
  ·rcases a8.1 a with rfl|a
   ·grind
   ·exact k.ty r (by grind)
theorem Fq (k:RtOk l) :tH (l,q)=some (if aN RK q l=true then (if (bw RK zR q l).2.2=true then (0,13) else ((bj RK q l:Int),0)) else (0,5)):=by
 unfold tH;rw [Oy k,ai];simp only [al,ax,aa]
 cases a:aN RK q l with
 |false=>simp
 |true=>
  obtain ⟨_,_,_,b,_⟩:=fN (z:=zR) k.inc a;simp only [ax,aa,aV b,ah,jN (t:=cQ) (k:=RK) (z:=zR) k.inc a,aI]
  grind
theorem af4 (k:RtOk l) :AD (l,q)=some (if aN RK q l=true then (if (bw RK zR q l).2.2=true then (0,13) else ((bw RK zR q l).2.1,0)) else (0,5)):=by
 unfold AD;rw [Fq k,ai]
 cases a:aN RK q l with
 |false=>simp
 |true=>
  obtain ⟨_,_,_,b,_⟩:=fN (z:=zR) k.inc a
  cases c:(bw RK zR q l).2.2 with
  |true=>simp
  |false=>
   simp only [aI,dQ,aH,al,ax,aa,aV b,ah,jN (t:=cQ) (k:=RK) (z:=zR) k.inc a]
def oY (l:List dC) (q key:Int):List dC×Int:=
 if aN RK q l=true then (if (bw RK zR q l).2.2=true then ([],13) else if nO l key=true then ([],6) else (iP RK q ((bw RK zR q l).1,key,(bw RK zR q l).2.2) l,0)) else ([],5)
theorem agE (k:RtOk l) :Ba (l,q,key)=some (oY l q key):=by
 have d:=k.few;unfold Ba oY;simp only;rw [Fq k,ai]
 cases a:aN RK q l with
 |false=>simp
 |true=>
  obtain ⟨_,_,_,b,_⟩:=fN (z:=zR) k.inc a
  cases c:(bw RK zR q l).2.2 with
  |true=>simp
  |false=>
   simp only [aI,dQ,aH,al,ax,aa,xm (show l.length<=1000000 by omega),ai,aV b,ah,FO (show l.length<=1099511627776 by omega),jN (t:=cQ) (k:=RK) (z:=zR) k.inc a,bu]
   cases nO l key with
   |true=>rfl
   |false=>
    simp only [aa,dQ,aH];rw [qJ (z:=zR) k.inc a,c]
def nP (l:List dC) (q:Int):List dC×Int:=
 if aN RK q l=true then (if (bw RK zR q l).2.2=true then ([],13) else (iP RK q ((bw RK zR q l).1,(bw RK zR q l).2.1,true) l,0)) else ([],5)
theorem agD (k:RtOk l) :A9 (l,q)=some (nP l q):=by
 have c:=k.few;unfold A9 nP;rw [Fq k,ai]
 cases a:aN RK q l with
 |false=>simp
 |true=>
  obtain ⟨_,_,_,b,_⟩:=fN (z:=zR) k.inc a
  cases d:(bw RK zR q l).2.2 with
  |true=>simp
  |false=>
   simp only [aI,dQ,aH,al,ax,aa,xm (show l.length<=1000000 by omega),ai,aV b,ah,jN (t:=cQ) (k:=RK) (z:=zR) k.inc a,bu];rw [qJ (z:=zR) k.inc a]
theorem KA (k:RtOk l) (d:aN RK q l=true) (i:ay key) (a:key=(bw RK zR q l).2.1\/nO l key=false):RtOk (iP RK q ((bw RK zR q l).1,key,b) l):=by
 obtain ⟨e,g1,j,_⟩:=fN (z:=zR) k.inc d;refine ⟨by rw [zD (z:=zR) k.inc d];exact k.few,zL (z:=zR) k.inc d g1,?_,λr c=> ?_⟩
 ·have f:=k.keys;rw [e] at f;have p1:(b7 RK q l++bw RK zR q l::(bQ RK q l).tail).Perm (bw RK zR q l::(b7 RK q l++ (bQ RK q l).tail)):=JJ;have p2:(iP RK q ((bw RK zR q l).1,key,b) l).Perm (((bw RK zR q l).1,key,b)::(b7 RK q l++ (bQ RK q l).tail)):=JJ;rw [(p1.map (·.2.1)).nodup_iff,eX,kF] at f;rw [(p2.map (·.2.1)).nodup_iff,eX,kF];refine ⟨λm=> ?_,f.2⟩;rcases a with rfl|g
  ·grind
  ·obtain ⟨r,c,n⟩:=iK.1 m
   have h:r ∈ l:=by
    grind
   have:=nL.1 g r h
   grind
 ·rcases EE c with rfl|c
  ·exact ⟨(k.ty _ j).1,i⟩
  ·exact k.ty r c
theorem DX (k:RtOk l) (a:ay key) (h:oY l q key=(m,0)):RtOk m:=by
 grind[oY,KA]
theorem KF (k:RtOk l) (h:nP l q=(m,0)):RtOk m:=by
 unfold nP at h;split at h
 ·split at h
  ·grind
  rename_i a _;simp only [aL,dn] at h;subst h;obtain ⟨_,_,b,_⟩:=fN (z:=zR) k.inc a;exact KA k a (k.ty _ b).2 (.inl rfl)
 grind
structure KyOk (l:List D0):Prop where
 few:l.length<=128
 sh:∀x ∈ l,x.2.1.length<=4096/\x.2.2.1.length<=4096
 inc:bB KK l
theorem Ot (x):xq x=some (decide (x.2.1.length<=4096/\x.2.2.1.length<=4096)):=by
 unfold xq;dsimp -beta -proj only;congr 1
 grind
theorem OA (k:KyOk l):rJ l=some 0:=by
 have d:=k.few;unfold rJ;dsimp -beta -proj only;rw [aq (show ¬ (128:Int) <(l.length:Int) by omega),aa];refine fA l.length (λi=>((0:Int),(i:Int))) (λx=>x.2.toNat) (λi _=>by simp) 0 (λi a b=> ?_) (λb=> ?_)
 ·simp only;rw [aF (eA a),ah,aV a,ah,aU (t:=bA) a,Ot,ai,aF (k.sh _ (bt a))];simp only [ax,bJ,ah];rw [cx (by omega)]
  cases i with
  |zero=>rfl
  |succ j=>
   have c:j<l.length:=by omega
   rw [aF (show (0:Int) <((j+1:Nat):Int) by omega)];simp only [bJ,ah];rw [oX (by omega),aV c,ah,aU (t:=bA) c,Oq,ai,aq,aa];rw [pz];have:=mM k.inc (show j<j+1 by omega) a
   grind
 grind
def gV (l:List D0) (tick):=l.filter λx=>decide (tick<=x.2.2.2)
theorem vT (k:KyOk l) (tick):KyOk (gV l tick):=
 ⟨b9 (sH _ _) k.few,λx a=>k.sh x (nH.1 a).1,yR DL k.inc⟩
theorem agj (k:KyOk l) (tick):tP (l,tick)=some (gV l tick,0):=by
 unfold tP;simp only;rw [OA k]
 have b:(decide (l.length<=1000) && l.all (λx=>decide (x.2.1.length<=4096) && decide (x.2.2.1.length<=4096)))=true:=by
  rw [aF (by have:=k.few;omega),Bool.true_and,gU];intro x a;rw [aF (k.sh x a).1,aF (k.sh x a).2];rfl
 simp only [ai,al,ah,b];rfl
theorem N2 (k:KyOk l) (q tick):wY (l,q,tick)=some (gV l tick,(bj KK q (gV l tick):Int),aN KK q (gV l tick),0):=by
 have a:=vT k tick;have b:=a.few;unfold wY;simp only;rw [agj k,ai];simp only [al,ax,aa];rw [agi (by omega) a.inc];rfl
def zK:D0:=(0,[],[],0)
def tf (l:List D0) (q:Int) (p:List Int) (tick:Int):List Int×Int:=
 if aN KK q (gV l tick)=true then (if (bw KK zK q (gV l tick)).2.1=p then ((bw KK zK q (gV l tick)).2.2.1,0) else ([],12)) else ([],5)
theorem agz (k:KyOk l) (q tick) (p):xe (l,q,p,tick)=some (tf l q p tick):=by
 have a:=vT k tick;unfold xe tf;dsimp -beta -proj only;simp only;rw [N2 k,ai]
 cases b:aN KK q (gV l tick) with
 |false=>simp
 |true=>
  obtain ⟨_,_,_,c,_⟩:=fN (z:=zK) a.inc b;simp only [al,ax,aa,aV c,ah,jN (t:=bA) (k:=KK) (z:=zK) a.inc b,jr,ai,aI]
  grind
theorem qS (h:l.length<=1000000):cg l=some l:=by
 grind[az,cg,bC]
def pf (l:List D0) (x:D0) (tick:Int):List D0×Int:=
 if ¬ (x.2.1.length<=4096/\x.2.2.1.length<=4096) then ([],1) else if aN KK x.1 (gV l tick)=true then ([],6) else if (gV l tick).length=128 then ([],7) else
 (b7 KK x.1 (gV l tick)++x::bQ KK x.1 (gV l tick),0)
theorem agy (k:KyOk l) (x) (tick):mT (l,x,tick)=some (pf l x tick):=by
 have a:=vT k tick;have b:=a.few;unfold mT pf;simp only;rw [N2 k,ai,Ot]
 grind[ph,bp,az,wS,qS,Int.toNat_natCast,tp]
theorem ac6 (k:KyOk l) (h:pf l x tick=(m,0)):KyOk m/\∀y ∈ m,y=x\/y ∈ l:=by
 have c:=vT k tick;have d:=c.few;unfold pf at h;split at h
 ·grind
 split at h
 ·grind
 split at h
 ·grind
 rename_i f g i;simp only [aL,dn] at h;subst h;have e:=eQ (k:=KK) x.1 (gV l tick)
 have a:∀y ∈ b7 KK x.1 (gV l tick)++x::bQ KK x.1 (gV l tick),y=x\/y ∈ gV l tick:=λy b=>by
  grind
 refine ⟨⟨?_,λy b=> ?_,wj c.inc (by grind) rfl⟩,λy b=> ?_⟩
 ·grind
 ·rcases a y b with rfl|b
  ·omega
  ·exact c.sh y b
 ·rcases a y b with rfl|b
  ·grind
  ·exact .inr (nH.1 b).1
abbrev SK:D9->Int:=λc=>c.1*18446744073709551616+c.2.1
structure CtOk (l:List D9):Prop where
 few:l.length<=128
 may:∀c ∈ l,0<c.2.2/\c.2.2<=4611686018427387904
 inc:bB SK l
 ty:∀c ∈ l,ay c.1/\ay c.2.1
theorem Oo (a b):rC (a,b)=some (bif decide (cT a.1 b.1=0) then cT a.2.1 b.2.1 else cT a.1 b.1):=by
 grind[rC,pM,Of]
theorem MB (c:ay a.2.1) (d:ay b.2.1):((bif decide (cT a.1 b.1=0) then cT a.2.1 b.2.1 else cT a.1 b.1) <0↔SK a<SK b)/\((bif decide (cT a.1 b.1=0) then cT a.2.1 b.2.1 else cT a.1 b.1)=0↔SK a=SK b):=by
 obtain ⟨e,f⟩:=c;obtain ⟨g,h⟩:=d
 grind[E5,zU]
theorem FZ (k:CtOk l):uy l=some 0:=by
 have f:=k.few;unfold uy;dsimp -beta -proj only;rw [aq (show ¬ (128:Int) <(l.length:Int) by omega),aa];refine fA l.length (λi=>((0:Int),(i:Int))) (λx=>x.2.toNat) (λi _=>by simp) 0 (λi a b=> ?_) (λb=> ?_)
 ·simp only;have d:=k.may _ (bt a);rw [aF (eA a),ah,aV a,ah,aU (t:=bY) a,tJ,aw d.2,aq (show ¬l[i].2.2=0 by omega)];simp only [bJ,ah,ai,al,ax];rw [cx (by omega)]
  cases i with
  |zero=>rfl
  |succ j=>
   have c:j<l.length:=by omega
   rw [aF (show (0:Int) <((j+1:Nat):Int) by omega)];simp only [bJ,ah];rw [oX (by omega),aV c,ah,aU (t:=bY) c,Oo,ai,aq,aa];have e:=mM k.inc (show j<j+1 by omega) a;have:=(MB (k.ty _ (bt c)).2 (k.ty _ (bt a)).2).1.2 e;omega
 grind
def kS (root b:Int):=root*18446744073709551616+b
def zS:D9:=(0,0,0)
def jk (l) (root b):=if aN SK (kS root b) l=true then (bw SK zS (kS root b) l).2.2 else 0
theorem agP (j:l.length<=1000000) (f:bB SK l) (g:∀c ∈ l,ay c.1/\ay c.2.1) (h:ay b):Bn (l,(root,b,0),())=some ((bj SK (kS root b) l:Int),aN SK (kS root b) l):=by
 unfold Bn;dsimp -beta -proj only;simp only [bC];have e:∀c ∈ l,((bif decide (cT c.1 root=0) then cT c.2.1 b else cT c.1 root) <0↔SK c<kS root b)/\((bif decide (cT c.1 root=0) then cT c.2.1 b else cT c.1 root)=0↔SK c=kS root b):=λc e=>MB (a:=c) (b:=(root,b,0)) (g c e).2 h
 rw [MS (t:=bY) (l:=l) (G:=λx=>rC (x,(root,b,0))) (c:=λc=>bif decide (cT c.1 root=0) then cT c.2.1 b else cT c.1 root) (λx _=>Oo x (root,b,0)) (by omega) (ph (k:=SK) (kS root b) l) (λi d=>by
  rw [(e _ (bt d)).1];exact K8 f i d)]
 congr 2
 grind[L0,zU]
theorem FU (d:l.length<=1000000) (a:bB SK l) (e:∀c ∈ l,ay c.1/\ay c.2.1) (f:ay b):rI (l,root,b)=some (jk l root b,(bj SK (kS root b) l:Int),aN SK (kS root b) l):=by
 unfold rI jk;simp only;rw [agP d a e f,ai]
 cases g:aN SK (kS root b) l with
 |false=>simp
 |true=>
  obtain ⟨_,_,_,h,_⟩:=fN (z:=zS) a g
  grind[aV,jN]
theorem Ed (k:CtOk l) (root b):0<=jk l root b/\jk l root b<=4611686018427387904:=by
 unfold jk;split
 ·rename_i h;obtain ⟨_,_,a,_⟩:=fN (z:=zS) k.inc h;have:=k.may _ a;omega
 ·omega
def iS (l:List D9) (root n:Int) (e:Int×Int):=decide ((eJ [jk l root e.1,n]).2=0) && decide ((eJ [jk l root e.1,n]).1<=e.2)
theorem Fb {f:α->List α->Option R} (c:l≠ []) (h:∀i x,l[i]?=some x->f x (l.eraseIdx i)=some r):jf l f=some r:=by
 unfold jf;have b:∃r,l≠ []/\∀i x,l[i]?=some x->f x (l.eraseIdx i)=some r:=⟨r,c,h⟩;rw [dif_pos b];obtain ⟨_,d⟩:=b.choose_spec
 cases l with
 |nil=>grind
 |cons a t=>exact (d 0 a rfl).symm.trans (h 0 a rfl)
theorem vX {α:Type}:∀{l} {i} {x:α},l[i]?=some x->(x::l.eraseIdx i).Perm l
 | [],i,x,h=>by grind
 |a::r,0,x,h=>by
  simp_all
 |a::r,i+1,x,h=>by
  simp only [nJ] at h;exact (List.Perm.swap a x _).trans ((vX h).cons a)
theorem al6 {α:Type} {p} {l m:List α} (h:l.Perm m):l.all p=m.all p:=by
 grind
def nV (l:List D9) (root:Int) (cs:List D9) (n:Int):Bool×Int:=if (Cv.gZ cs).2≠0 then (false,1) else if 4611686018427387904<n then (false,1) else ((Cv.gZ cs).1.all (iS l root n),0)
theorem ML (cs):(Cv.gZ cs).2=0\/(Cv.gZ cs).2=1:=by grind[Cv.gZ]
theorem E8 (d:∀c ∈ cs,dV c):((Cv.gZ cs).1.map (·.1)).Nodup/\(∀e ∈ (Cv.gZ cs).1,ay e.1)/\(Cv.gZ cs).1.length<=16:=by
 unfold Cv.gZ;split
 ·rename_i h;obtain ⟨f,g⟩:=Cv.OX cs [] mD;refine ⟨f,λe i=> ?_,?_⟩
  ·rcases g e i with h| ⟨c,a,j,b,_⟩
   ·grind
   ·rw [<-b];exact (d c a).2.2
  grind[Cv.OW,Cv.iY]
 grind
theorem af1 (k:CtOk l) (f:∀c ∈ cs,dV c) (p:ay n):wL (l,root,cs,n)=some (nV l root cs n):=by
 have A:=k.few;unfold wL nV;simp only;rw [Cv.O0 f,ai];obtain ⟨c1,r,B⟩:=E8 f;rcases ML cs with g|g
 ·rw [g];simp only [al,ax,bJ,ah,FZ k,ai,tJ,cU,dm,aH];by_cases s:n<=4611686018427387904
  ·rw [aw s,ak (by omega)];simp only [al,ax,aa];refine bE (λx:uB=>∀e ∈ x.2.1,ay e.1) (λx=>x.2.1.length) (λx=>(x.2.1.all (iS l root n),(0:Int))) ?_ (0,(Cv.gZ cs).1,[]) r;rintro ⟨q,left,u⟩ h v j;simp only at h ⊢
   cases w:left with
   |nil=>rfl
   |cons a t=>
    rw [<-w];have d:left≠ []:=by grind
    rw [show left.isEmpty=false by grind,aa];refine Fb d (λi e m=> ?_);have y:=vX m;have b:e ∈ left:=kG m;have C:=Ed k root e.1
    rw [FU (by omega) k.inc k.ty (h e b),ai,wK (by simp) (by
     intro x z;simp only [a8,eu,ep] at z;have:=p.1
     omega),ai]
    have o:left.all (iS l root n)=(iS l root n e && (left.eraseIdx i).all (iS l root n)):=by grind
    grind[iS]
  grind
 grind
def iR (root:Int) (l:List D9) (e:Int×Int):=if aN SK (kS root e.1) l=true then iP SK (kS root e.1) (root,e.1,e.2) l else b7 SK (kS root e.1) l++ (root,e.1,e.2)::bQ SK (kS root e.1) l
theorem K1 :∀ (m) (k) (v),k ∉ m.map (·.1)->bK (.int .u64) vt m k v=m++ [(k,v)]
 | [],k,v,_=>rfl
 |e::r,k,v,h=>by
  have j:¬k=e.1:=λa=>h (by grind)
  have b:k ∉ r.map (·.1):=λa=>h (by grind)
  simp only [bK,cj,j,aK,aa,K1 r k v b,dP]
theorem zm (h:bB SK l):bB SK (iR root l e):=by
 unfold iR;split
 ·rename_i a;exact zL (z:=zS) h a rfl
 ·rename_i a;exact wj h (by grind) rfl
theorem Eo (h:bB SK l) (x):x ∈ iR root l e↔x=(root,e.1,e.2)\/(x ∈ l/\SK x≠kS root e.1):=by
 have d:=eQ (k:=SK) (kS root e.1) l;have a:= @zA _ SK (kS root e.1) l;have b:=wq (q:=kS root e.1) h;unfold iR;split
 ·rename_i c;obtain ⟨x0,r,f,g,_⟩:=pr h c
  grind[bB,List.pairwise_cons,iP]
 grind[aN]
theorem LS :∀{a b},bB k a->bB k b->(∀x,x ∈ a↔x ∈ b)->a=b
 | [],[],_,_,_=>rfl
 | [],y::s,_,_,h=>by have:=(h y).2 (by simp);grind
 |x::r,[],_,_,h=>by have:=(h x).1 (by simp);grind
 |x::r,y::s,d,e,h=>by
  have f:=eO.1 d;have g:=eO.1 e
  have c:x=y:=by
   grind
  subst c;congr 1;refine LS f.2 g.2 (λz=>⟨λi=> ?_,λi=> ?_⟩)
  all_goals grind
def gB (root:Int) (l:List D9) (m:List (Int×Int)):=m.foldl (iR root) l
theorem zx :∀{m} {l},bB SK l->bB SK (gB root l m)
 | [],_,h=>h
 |e::r,l,h=>zx (m:=r) (zm h)
theorem adQ (h:kS root a=kS root b):a=b:=by grind[kS]
theorem LB :∀{m} {l},bB SK l->(m.map (·.1)).Nodup->∀x,x ∈ gB root l m↔ (∃e ∈ m,x=(root,e.1,e.2))\/(x ∈ l/\∀e ∈ m,SK x≠kS root e.1)
 | [],l,_,_,x=>by simp [gB]
 |e::r,l,h,j,x=>by
  rw [eX,kF] at j;show x ∈ gB root (iR root l e) r↔_;rw [LB (zm h) j.2,Eo h];constructor
  ·grind
  ·rintro (⟨f,C,rfl⟩| ⟨R,I⟩)
   ·rcases a8.1 C with rfl|C
    ·refine .inr ⟨.inl rfl,λg U J=> ?_⟩;have:=adQ (root:=root) (a:=f.1) (b:=g.1) J
     grind
    grind
   grind
theorem Ly (h:bB SK l) (a:(m.map (·.1)).Nodup) (b:m.Perm m'):gB root l m=gB root l m':=by
 have c:=(b.map (·.1)).nodup_iff.1 a;refine LS (zx h) (zx h) (λx=> ?_)
 grind[LB]
theorem ac5 (h:bB SK l):(iR root l e).length<=l.length+1:=by
 unfold iR;split
 ·rename_i a;rw [zD (z:=zS) h a];omega
 grind[eQ]
theorem K4 (h:bB SK l) (a:ay root) (b:ay e.1) (d:∀c ∈ l,ay c.1/\ay c.2.1):∀c ∈ iR root l e,ay c.1/\ay c.2.1:=λc f=>by
 grind[Eo]
theorem FF (h:l.length<=1000000):ug l=some l:=by
 grind[az,ug,bC]
def sS (root n:Int) (l:List D9) (m:List (Int×Int)):List D9×Int:=if n=0 then (l,0) else if 128<(gB root l m).length then ([],7) else (gB root l m,0)
def nU (l:List D9) (root n:Int) (cs:List (Int×Int)):=cs.map λe=>(e.1,(eJ [jk l root e.1,n]).1)
def addS (l:List D9) (root:Int) (cs:List D9) (n):=
 if (Cv.gZ cs).2≠0 then ([],1) else if 4611686018427387904<n then ([],1) else if (Cv.gZ cs).1.all (iS l root n)=true then sS root n l (nU l root n (Cv.gZ cs).1) else ([],8)
theorem ac2 (J:bB SK l) (K:∀c ∈ l,ay c.1/\ay c.2.1) (L:ay root) (M:∀e ∈ m,ay e.1) (N:(m.map (·.1)).Nodup) (O:l.length+m.length<=1000):
 aD (λ(j:(xG)->Option (List D9×Int)) (d:xG)=>
 bif d.2.isEmpty then (
 bif decide (128<(d.1.length:Int)) then (
 some ([],7))
 else (
 some (d.1,0)))
 else (
 jf d.2 (λ(o:Int×Int) (G:List (Int×Int))=>
  (rI (d.1,root,o.1)).bind λf=>
  bif (!f.2.2) then (
  bif (ae f.2.1 (d.1.length+1) && decide ((d.1.length+1)*24<=az)) then
  bif ae f.2.1 (de d.1 f.2.1.toNat (root,o.1,0)).length then
  j (((de d.1 f.2.1.toNat (root,o.1,0)).set f.2.1.toNat ((rd bY (de d.1 f.2.1.toNat (root,o.1,0)) f.2.1).1,(rd bY (de d.1 f.2.1.toNat (root,o.1,0)) f.2.1).2.1,o.2)),G)
  else none
  else none)
  else (
  bif ae f.2.1 d.1.length then
  j ((d.1.set f.2.1.toNat ((rd bY d.1 f.2.1).1,(rd bY d.1 f.2.1).2.1,o.2)),G)
  else none)))) (l,m)=some (if 128<(gB root l m).length then ([],7) else (gB root l m,0)):=by
 refine bE (λx:xG=>bB SK x.1/\(∀c ∈ x.1,ay c.1/\ay c.2.1)/\(∀e ∈ x.2,ay e.1)/\(x.2.map (·.1)).Nodup/\x.1.length+x.2.length<=1000) (λx=>x.2.length) (λx=>if 128<(gB root x.1 x.2).length then ([],7) else (gB root x.1 x.2,0)) ?_ (l,m) ⟨J,K,M,N,O⟩;rintro ⟨a,b⟩ ⟨n,y,p,A,P⟩ B q;simp only at n y p A P ⊢
 cases Q:b with
 |nil=>
  grind[gB]
 |cons e0 t=>
  rw [<-Q];have C:b≠ []:=by grind
  rw [show b.isEmpty=false by grind,aa];refine Fb C (λi e r=> ?_);have h:=vX r;have g:=kG r;have hlen:=h.length_eq;simp only [aW] at hlen;have s:gB root a b=gB root (iR root a e) (b.eraseIdx i):=(Ly n A h.symm).trans rfl;have u:((e::b.eraseIdx i).map (·.1)).Nodup:=((h.map (·.1)).nodup_iff).2 A;rw [eX,kF] at u
  have fin:B (iR root a e,b.eraseIdx i)=some (if 128<(gB root a b).length then ([],7) else (gB root a b,0)):=by
   rw [s];refine q (iR root a e,b.eraseIdx i) ⟨zm n,K4 n L (p e g) y,λx R=>p x (h.mem_iff.1 (iL _ R)),u.2,?_⟩ (by grind)
   grind[ac5]
  rw [FU (by omega) n y (p e g),ai];have V:=ph (k:=SK) (kS root e.1) a
  cases D:aN SK (kS root e.1) a with
  |true=>
   obtain ⟨_,g1,E,S,_⟩:=fN (z:=zS) n D;simp only [ax,aa,aV S,ah,jN (t:=bY) (k:=SK) (z:=zS) n D,bu];rw [qJ (z:=zS) n D]
   have H:(bw SK zS (kS root e.1) a).1=root/\(bw SK zS (kS root e.1) a).2.1=e.1:=by
    have T:=y _ E;have U:=p e g;have W:(bw SK zS (kS root e.1) a).1*18446744073709551616+ (bw SK zS (kS root e.1) a).2.1=root*18446744073709551616+e.1:=g1;obtain ⟨⟨_,_⟩,⟨_,_⟩⟩:=T;obtain ⟨_,_⟩:=U;omega
   grind[iR]
  |false=>
   have g1:ae (bj SK (kS root e.1) a:Int) (a.length+1)=true:=bp (by omega) (by omega);have E:(a.length+1)*24<=az:=by grind[az]
   have F:(de a (bj SK (kS root e.1) a) ((root,e.1,0):D9)).length=a.length+1:=by
    grind[de]
   have v:bj SK (kS root e.1) a<(de a (bj SK (kS root e.1) a) ((root,e.1,0):D9)).length:=by omega
   have w:(de a (bj SK (kS root e.1) a) ((root,e.1,0):D9))[bj SK (kS root e.1) a]=(root,e.1,0):=by
    grind[de]
   simp only [bm,ah,g1,E,al,jM,bu,aV v,aU (t:=bY) v,w]
   have I:(de a (bj SK (kS root e.1) a) ((root,e.1,0):D9)).set (bj SK (kS root e.1) a) (root,e.1,e.2)=iR root a e:=by
    grind[iR,tp,bj,b7]
   grind
theorem Od (k:CtOk l) (H:ay root) (C:∀c ∈ cs,dV c) (I:ay n):rm (l,root,cs,n)=some (addS l root cs n):=by
 have L:=k.few;unfold rm addS;dsimp -beta -proj only;simp only;rw [Cv.O0 C,ai];obtain ⟨c1,J,M⟩:=E8 C;rcases ML cs with D|D
 ·rw [D];simp only [al,ax,bJ,ah,FZ k,ai,tJ,cU,dm,aH];by_cases y:n<=4611686018427387904
  ·rw [aw y,ak (show ¬4611686018427387904<n by omega)];simp only [al,ax,aa];refine (bE (λx:uB=>(∀e ∈ x.2.1,ay e.1)/\(∀e ∈ x.2.2,ay e.1)/\(x.2.2.map (·.1)++x.2.1.map (·.1)).Nodup/\x.2.2.length+x.2.1.length<=16) (λx=>x.2.1.length) (λx=>if x.2.1.all (iS l root n)=true then sS root n l (x.2.2++nU l root n x.2.1) else ([],8)) ?_ (0,(Cv.gZ cs).1,[]) ⟨J,by simp,by grind,by grind⟩).trans (by simp);rintro ⟨q,left,b⟩ ⟨z,h,f,j⟩ K m;simp only at z h f j ⊢
   cases E:left with
   |nil=>
    rw [E] at f j;simp only [yP,ah,FF (show l.length<=1000000 by omega),ai,List.all_nil,aI,nU,DC,ji];unfold sS;by_cases F:n=0
    ·grind
    ·rw [aq F,ak F,aa];exact ac2 k.inc k.ty H h (by grind) (by omega)
   |cons a t=>
    rw [<-E];have A:left≠ []:=by grind
    rw [show left.isEmpty=false by grind,aa];refine Fb A (λi e G=> ?_);have o:=vX G;have p:e ∈ left:=kG G;have N:=Ed k root e.1;have hlen:=o.length_eq;simp only [aW] at hlen
    rw [FU (by omega) k.inc k.ty (z e p),ai,wK (by simp) (by
     intro x w;simp only [a8,eu,ep] at w;have:=I.1
     omega),ai]
    have r:left.all (iS l root n)=(iS l root n e && (left.eraseIdx i).all (iS l root n)):=by grind
    rw [r]
    have d:(bif (!decide ((eJ [jk l root e.1,n]).2=0)) then true else decide (e.2<(eJ [jk l root e.1,n]).1))= !iS l root n e:=by
     grind[iS]
    rw [d]
    cases O:iS l root n e with
    |false=>rfl
    |true=>
     simp only [ax,aa,Bool.true_and]
     have s:(b.map (·.1)++ (e.1::(left.eraseIdx i).map (·.1))).Nodup:=by
      grind
     have u:e.1 ∉ b.map (·.1):=λy=>(nG.1 s).2.2 _ y _ (JL ..) rfl
     have v:bK (.int .u64) (.int .u64) b e.1 (eJ [jk l root e.1,n]).1=b++ [(e.1,(eJ [jk l root e.1,n]).1)]:=K1 (vt:= .int .u64) b _ _ u;rw [v]
     have:=m (q,left.eraseIdx i,b++ [(e.1,(eJ [jk l root e.1,n]).1)]) ⟨λx w=>z x (o.mem_iff.1 (iL _ w)),λx w=>by
      grind,by grind,by grind⟩ (by grind)
     rw [this];simp only;congr 1;split
     ·unfold sS
      have B:(b++nU l root n left).Perm ((b++ [(e.1,(eJ [jk l root e.1,n]).1)])++nU l root n (left.eraseIdx i)):=by
       grind[nU]
      have g:((b++nU l root n left).map (·.1)).Nodup:=by
       rw [lM];unfold nU;rw [vD];exact f
      rw [Ly k.inc g B]
     ·rfl
  grind
 grind
theorem LA (a:ay root):∀{m} {l},bB SK l->(∀c ∈ l,ay c.1/\ay c.2.1)->(∀c ∈ l,0<c.2.2/\c.2.2<=4611686018427387904)->(∀e ∈ m,ay e.1/\0<e.2/\e.2<=4611686018427387904)->
 (∀c ∈ gB root l m,ay c.1/\ay c.2.1)/\∀c ∈ gB root l m,0<c.2.2/\c.2.2<=4611686018427387904
 | [],l,_,j,C,_=>⟨j,C⟩
 |e::r,l,I,j,C,J=>LA a (m:=r) (zm I) (K4 I a (J e (by simp)).1 j) (λc b=>by
  grind[Eo]) (λf d=>J f (by grind))
theorem ae5 (k:CtOk l) (d:ay root) (f:∀c ∈ cs,dV c) (g:ay n) (h:addS l root cs n=(m,0)):CtOk m:=by
 obtain ⟨c1,r,s⟩:=E8 f;unfold addS at h;split at h
 ·grind
 split at h
 ·grind
 split at h
 ·rename_i a;unfold sS at h;split at h
  ·grind
  ·split at h
   ·grind
   ·rename_i t hlen;simp only [aL,dn] at h;subst h
    obtain ⟨i,j⟩:=LA d (m:=nU l root n (Cv.gZ cs).1) k.inc k.ty k.may (λe o=>by
     obtain ⟨x,p,rfl⟩:=iK.1 o;have b:=gU.1 a x p;unfold iS at b;simp only [bb,db] at b;have u:=Ed k root x.1;have q:=g.1
     grind[Fg])
    exact ⟨by omega,j,zx k.inc,i⟩
 grind
def y0 (c:D2):=
 if c.2.2.2.2.2.2=false\/c.2.2.2.2.2.1.length=64\/c.2.1<c.2.2.2.1 then 0 else if c.2.2.2.2.1 - bn c.2.2.2.2.2.1<c.2.1 - c.2.2.2.1 then c.2.2.2.2.1 - bn c.2.2.2.2.2.1 else c.2.1 - c.2.2.2.1
theorem NV (a:ChTy c) (k:ChOk c):wO c=some (y0 c,0):=by
 have b:=a.loc;have d:=a.rem;have e:=a.res;have h:=nY (l:=c.2.2.2.2.2.1) (λx f=>(a.holds x f).2.1);have i:=k.all;have j:=k.hm;have m:=k.most;unfold wO y0;dsimp -beta -proj only;rw [xg a,aw k,ai];simp only [al,ax,aa]
 cases n:c.2.2.2.2.2.2 with
 |false=>simp
 |true=>
  by_cases o:c.2.2.2.2.2.1.length=64
  ·grind
  ·have g:=by omega
   rw [NY b e,aw ⟨by have:=d.1;omega,k.res⟩]
   grind[fY]
def qG:List (Int×Int)->Int->Int
 | [],_=>4607182418800017408
 |x::r,id=>if x.1=id then x.2 else qG r id
theorem af5 (c:l.length<=1099511627776) (id):AA (l,id)=some (qG l id):=by
 unfold AA
 have:=zB (B:=λ(b:(Int×Int)->Option Int) (a:Int×Int)=>
 bif decide (a.2<(l.length:Int)) then (
 bif ae a.2 l.length then
 bif decide ((rd Y9 l a.2).1=id) then (
 bif decide (a.2<0) then (
 some 4607182418800017408)
 else (
 bif ae a.2 l.length then
 some (rd Y9 l a.2).2
 else none))
 else (
 b (a.1,(IntKind.wrap .i64 (a.2+1))))
 else none)
 else (
 some 4607182418800017408)) l.length (λi=>((0:Int),(i:Int))) (λx=>x.2.toNat) (λi _=>by simp) (λi=>qG (l.drop i) id) ?_
 all_goals grind[aV,aU,cx,List.drop_eq_getElem_cons,qG]
def zr (c) (w n):=nv .mul w (nv .quo (nv .sub (oJ (y0 c)) n) (oJ (cZ c)))
theorem af6 (a:ChTy c) (k:ChOk c) (w n):AB (c,w,n)=some (zr c w n,0):=by
 unfold AB;simp only;rw [NV a k,ai];simp only [al,ax,aa];rw [BR a,aw k,ai];rfl
def EX (n) (c):=c.2.2.2.2.2.2 && decide ((if n<1 then 1 else n)<=y0 c)
def Ef (W) (n) (c):=if jD .neq (zr c (qG W c.1) (oJ n)) (zr c (qG W c.1) (oJ n))=true then aX (9221120237041090561:Int).toNat else zr c (qG W c.1) (oJ n)
def ik (W:List (Int×Int)) (n:Int) (l:List D2):=(l.filter (EX n)).map λc=>(c.1,Ef W n c)
def sX (W) (n) (l):=(gQ (ik W n l)).map (·.1)
theorem aeM (h:bB HK l):ml l=true:=by
 induction l with
 |nil=>rfl
 |cons x r a=>
  have p:=eO.1 h;unfold ml;rw [a p.2,Bool.and_true,gU]
  grind
theorem adC (k:LedOk l) (b:∀c ∈ l,ChTy c) (W:List (Int×Int)) (n:Int):rQ (ik W n l)=true/\(ik W n l).length<=32:=by
 have hlen:(ik W n l).length<=32:=by
  unfold ik;rw [sG];exact b9 (sH _ _) k.few
 have a:bB HK (ik W n l):=by
  unfold ik bB;rw [List.pairwise_map];exact yR DL k.inc
 refine ⟨?_,hlen⟩;unfold rQ;rw [aeM a,Bool.and_true,bb,db,gU];refine ⟨λx d=> ?_,by omega⟩;obtain ⟨c,e,rfl⟩:=iK.1 d;have:=(b c (nH.1 e).1).id;simp only [bb,db];exact ⟨this.1,by have:=this.2;omega⟩
theorem af8 (k:LedOk l) (e:∀c ∈ l,ChTy c) (q:W.length<=1099511627776) (n:Int):AG (l,W,n)=some (sX W n l,0):=by
 have r:=k.few;obtain ⟨f,g⟩:=adC k e W n;unfold AG;dsimp -beta -proj only;simp only;rw [uq e,aw k,ai];simp only [al,ax,aa,bC];refine fA l.length (λi:Nat=>(([],0,ik W n (l.take i),(i:Int)):F5)) (λx=>x.2.2.2.toNat) (λi _=>by simp) (sX W n l,0) (λi d a=> ?_) (λa=> ?_)
 ·simp only;have h:=e _ (bt d);have j:=k.ch _ (bt d)
  have b:ik W n (l.take (i+1))=ik W n (l.take i)++ (if EX n l[i]=true then [(l[i].1,Ef W n l[i])] else []):=by
   grind[ik,List.take_succ_eq_append_getElem]
  have m:(ik W n (l.take i)).length<=32:=by
   grind[ik]
  rw [aF (eA d),ah,aV d,ah,aU (t:=Y8) d,NV h j,ai,cx (by omega),b]
  grind[EX,az,Fy,Fx,af5,af6,Ef]
 ·simp only;rw [aq (by omega),aa,fX,f,ah];have o:(gQ (ik W n l)).length=(ik W n l).length:=(uJ _).length_eq;unfold sX;generalize gQ (ik W n l)=S at*;have g1:(0:Int)<= (S.length:Int):=by omega
  have s:((S.length:Int).toNat)*8<=az:=by grind[az]
  have p:S.length*8<=az:=by omega
  simp only [g1,p,al,jM,ah,bu];have e0:((0,(List.replicate S.length 0:List Int)):uA)=(λi:Nat=>(((i:Int),(S.map (·.1)).take i++List.replicate (S.length - i) (0:Int)):uA)) 0:=by simp
  rw [e0];refine fA S.length (λi:Nat=>(((i:Int),(S.map (·.1)).take i++List.replicate (S.length - i) (0:Int)):uA)) (λx:uA=>x.1.toNat) (λi _=>by simp) ((S.map (·.1),0):List Int×Int) (λi d a=> ?_) (λa=> ?_)
  ·grind[List.length_append,aV,aU,cx,Int.toNat_natCast,List.take_succ_eq_append_getElem]
  grind[List.length_map]
def kR (W:List (Int×Int)) (n:Int) (l:List D2):Int×Int:=match sX W n l with| []=>(0,5)|x::_=>(x,0)
theorem agh (k:LedOk l) (a:∀c ∈ l,ChTy c) (b:W.length<=1099511627776) (n):AN (l,W,n)=some (kR W n l):=by
 unfold AN kR;rw [af8 k a b,ai];simp only [al,ax,aa]
 cases sX W n l with
 |nil=>rfl
 |cons x r=>
  have d:¬ (((x::r).length:Int)=0):=by grind
  have e:ae 0 (x::r).length=true:=bp (by omega) (by omega);rw [aq d,aa,e,ah];rfl
theorem aef (a:∀c ∈ l,ChTy c) (W) (n):ay (kR W n l).1:=by
 unfold kR;split
 ·exact ⟨by simp,by simp⟩
 ·rename_i x r h;have b:x ∈ sX W n l:=by grind
  obtain ⟨m,d,rfl⟩:=iK.1 b;have:=(uJ _).mem_iff.1 d;obtain ⟨c,e,rfl⟩:=iK.1 this;exact (a c (nH.1 e).1).id
end Go.Proofs.YtkihadlgknhpkaaGreatDoor.T
