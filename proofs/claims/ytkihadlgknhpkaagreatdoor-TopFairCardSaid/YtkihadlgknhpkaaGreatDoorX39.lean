/- Part 39: lemmas that the last text needs. -/
import Derived.Test.YtkihadlgknhpkaaGreatDoorX38
set_option linter.all false
set_option autoImplicit true
set_option relaxedAutoImplicit true
namespace Go.Proofs.YtkihadlgknhpkaaGreatDoor.T
open Go Go.Fw Go.Proofs RB
set_option maxRecDepth 20000
theorem l8 (h:l.length<=1000000):cg l=some l:=by
 unfold cg;dsimp -beta -proj only;have k:(([]:List Int).length+l.length)*1<=az:=by unfold az;simp;omega
 simp only [k,al,ah,fJ]
 cases l with
 |nil=>simp [bC]
 |cons a r=>rfl
theorem afO (t) (k:ef l) (A:l.length<=1000000):Bq (l,t,())=some ((pos l t:Int),pt l t):=by
 unfold Bq;dsimp -beta -proj only;have o:=Es l t;refine bE (λx=>∃i j:Nat,x.1=(i:Int)/\x.2=(j:Int)/\i<=pos l t/\pos l t<=j/\j<=l.length) (λx=>x.2.toNat - x.1.toNat) (λ_=>((pos l t:Int),pt l t)) ?_ (0,(l.length:Int)) ⟨0,l.length,rfl,rfl,by omega,o,by omega⟩;rintro ⟨B,C⟩ ⟨i,j,d,e,p,q,r⟩ s a;simp only at d e;subst d;subst e;simp only;by_cases f:(i:Int) <(j:Int)
 ·have u:IntKind.wrap .i64 ((IntKind.wrap .u64 (IntKind.wrap .i64 ((i:Int)+ (j:Int)))) / 2^ (min (1:Int).toNat 64))=(((i+j) / 2:Nat):Int):=by
   rw [cX (n:=(i:Int)+j) (by omega) (by omega),fY (by omega) (by omega),show (2:Int)^ (min (1:Int).toNat 64)=2 from rfl,cX (by omega) (by omega)];omega
  have b:(i+j) / 2<l.length:=by omega
  have h:ae (((i+j) / 2:Nat):Int) l.length=true:=bp (by omega) (by omega);simp only [f,al,ah,u,h,aU (t:=tR) b,tI,ai];by_cases c:l[(i+j) / 2].1<t
  ·simp only [c,aI,show decide ((-1:Int) <0)=true from rfl,ah];rw [cX (n:=(((i+j) / 2:Nat):Int)+1) (by omega) (by omega)];refine a _ ⟨(i+j) / 2+1,j,by simp,rfl,?_,q,r⟩ (by simp only;omega);apply jL;intro v;have:=Et l t ((i+j) / 2) b k (by omega);omega
  ·have:decide ((if t<l[(i+j) / 2].1 then (1:Int) else 0) <0)=false:=by split <;>rfl
   simp only [c,aH,this,aa];refine a _ ⟨i,(i+j) / 2,rfl,rfl,p,?_,by omega⟩ (by simp only;omega);apply jL;intro v;have:=K7 l t ((i+j) / 2) b (by omega);exact c this
 ·have w:i=pos l t:=by omega
  subst w;simp only [f,aK,aa];by_cases c:pos l t<l.length
  ·have g:((pos l t:Nat):Int) <(l.length:Int):=by omega
   have h:ae ((pos l t:Nat):Int) l.length=true:=bp (by omega) g;simp only [g,al,bJ,ah,h,aU (t:=tR) c,tI,ai,EW l t c,aB,aL,qt];have:=Et l t (pos l t) c k (aR _);by_cases m:l[pos l t].1=t
   ·simp [m]
   ·have y:¬l[pos l t].1<t:=by omega
    have z:t<l[pos l t].1:=by omega
    simp [m,y,z]
  ·have g:¬ ((pos l t:Nat):Int) <(l.length:Int):=by omega
   have:=EV l t (by omega);simp [g,this]
theorem FY (l) (t):xD (l,t)=some (dM l t):=by
 unfold xD dM;simp only [Oz,ai];by_cases h:fi l
 ·have d:=h.1;simp only [h,aI,al,ax,aa,afO t h.2.2 (by omega),ai];rw [LH];by_cases c:pos l t<l.length
  ·rw [EW l t c];by_cases a:l[pos l t].1=t
   ·have b:ae ((pos l t:Nat):Int) l.length=true:=bp (by omega) (by omega);have e:=h.2.1 _ (bt c);simp only [a,al,ax,aa,b,ah,aU (t:=tR) c,l8 (l:=l[pos l t].2) (by omega),ai,c,vw,aI]
   ·simp [c,a]
  ·have:=Es l t;have:=EV l t (by omega);simp [c,this]
 ·simp [h]
theorem al5 (h:∀r ∈ l,r.2.length<=1000000) (o:l.length<=1000000):
 aD (λ(c:(Int×List (Int×List Int))->Option ((List (Int×List Int))×Int)) (a:Int×List (Int×List Int))=>
  bif decide (a.1<(l.length:Int)) then (
  bif ae a.1 a.2.length then
  (cg ((rd (.pair (.int .u64) (.slice 5 (.int .u8))) a.2 a.1).2)).bind λj=>
  bif ae a.1 a.2.length then
  c ((IntKind.wrap .i64 (a.1+1)),(a.2.set a.1.toNat ((rd (.pair (.int .u64) (.slice 5 (.int .u8))) a.2 a.1).1,j)))
  else none
  else none)
  else (
  some (a.2,0))) (0,l)=some (l,0):=by
 refine bE (λx=>∃i:Nat,x.1=(i:Int)/\i<=l.length/\x.2=l) (λx=>l.length - x.1.toNat) (λ_=>(l,0)) ?_ (0,l) ⟨0,rfl,by omega,rfl⟩;rintro ⟨p,q⟩ ⟨i,d,s,e⟩ k f;simp only at d e;subst d;rw [e];simp only;by_cases b:i<l.length
 ·have g:((i:Int) <(l.length:Int)):=by omega
  have m:=h _ (bt b);simp only [g,al,ah,bp (dp i) g,aU (t:=tR) b,l8 m,ai];rw [cX (n:=(i:Int)+1) (by omega) (by omega)];refine f _ ⟨i+1,by simp,by omega,?_⟩ (by simp only;omega);simp only [bu];exact yL b
 ·have g:¬ ((i:Int) <(l.length:Int)):=by omega
  simp only [g,aK,aa]
theorem ma (h:∀n ∈ l,cJ n) (M:l.length<=4611686018427387904):iw l=some (aE l):=by
 unfold iw;dsimp -beta -proj only
 cases l with
 |nil=>rfl
 |cons c r=>
  have k:=h c (by simp);have C:∀n ∈ r,cJ n:=λn d=>h n (by simp [d])
  have N:=Ki c;have e0:(decide (((c::r).length:Int)=0)==false)=true:=by simp;omega
  have D:ae 0 (c::r).length=true:=bp (by omega) (by simp);have E:IntKind.wrap .i64 ((wd c:Int)+1)=(wd c:Int)+1:=cX (by omega) (by omega);have F:rd (.int .u8) (c::r) 0=c:=rfl;rw [F];simp only [e0,D,ah,ag5 k,ai,E,aE];by_cases z:r.length<wd c
  ·rw [aw z];have:((c::r).length:Int)<= (wd c:Int):=by simp;omega
   simp only [this,al,ah]
  ·rw [ak z];have m:¬ ((c::r).length:Int)<= (wd c:Int):=by simp;omega
   simp only [m,aK,aa];by_cases A:wd c=0
   ·rw [aw A];have:((wd c:Int)=0):=by omega
    have o:=fY k.1 (by have:=k.2;omega);simp only [this,al,ah,o]
   ·rw [ak A];have p:¬ ((wd c:Int)=0):=by omega
    have G:(ae ((wd c:Int)+1) ((c::r).length+1) && (decide ((0:Nat)<=1) && decide ((1:Int)<= (wd c:Int)+1)))=true:=by
     have:ae ((wd c:Int)+1) ((c::r).length+1)=true:=bp (by omega) (by simp only [aW];omega);rw [this];simp;omega
    have H:((c::r).take ((wd c:Int)+1).toNat).drop ((1:Int).toNat)=r.take (wd c):=by
     rw [show ((wd c:Int)+1).toNat=wd c+1 by omega];rfl
    simp only [p,aK,aa,G,ah,H];have hlen:(r.take (wd c)).length=wd c:=by rw [dZ];omega
    have q:∀n ∈ r.take (wd c),cJ n:=λn d=>C n (lJ d)
    refine bE (λx=>∃i:Nat,x.2=(i:Int)/\i<=wd c/\x.1=bv 0 ((r.take (wd c)).take i)) (λx=>wd c - x.2.toNat) (λ_=>if fst (bv 0 (r.take (wd c)))=c then (bv 0 (r.take (wd c)),(wd c:Int)+1,0) else (0,0,2)) ?_ ((0:Int),(0:Int)) ⟨0,rfl,by omega,rfl⟩;rintro ⟨s,O⟩ ⟨i,rfl,P,rfl⟩ I e;simp only;by_cases J:i<wd c
    ·have f:((i:Int) <((r.take (wd c)).length:Int)):=by omega
     obtain ⟨Q,u⟩:=zf (t:= .int .u8) (l:=r.take (wd c)) (i:=i) (by omega) f;have g:i<(r.take (wd c)).length:=by omega
     have a:rd (.int .u8) (r.take (wd c)) i=(r.take (wd c))[i]:=by rw [u];simp
     have b:cJ (rd (.int .u8) (r.take (wd c)) i):=by rw [a];exact q _ (bt _)
     have j:∀n ∈ (r.take (wd c)).take i,cJ n:=λn d=>q n (lJ d)
     have K:=wC ((r.take (wd c)).take i) 0 (by omega) j;have b1:=E9 ((r.take (wd c)).take i) 0 j;have v:((r.take (wd c)).take i).length=i:=by rw [dZ];omega
     have L:bv 0 ((r.take (wd c)).take i) <72057594037927936:=by
      rw [v] at b1
      have:(2:Int)^ (8*i)<=2^56:=by
       have:=Nat.pow_le_pow_right (n:=2) (by omega) (show 8*i<=56 by omega)
       exact_mod_cast this
      simp at b1;omega
     have w:IntKind.wrap .u64 (rd (.int .u8) (r.take (wd c)) i)=rd (.int .u8) (r.take (wd c)) i:=fY b.1 (by have:=b.2;omega);simp only [f,al,ah,bp (dp i) f];rw [show (2:Int)^ (min (8:Int).toNat 64)=256 by rfl,fY (n:=bv 0 _*256) (by omega) (by omega),w,adg K L b,cX (by omega) (by omega)];refine e _ ⟨i+1,by simp,by omega,?_⟩ (by simp only;omega);simp only;rw [vB,cK g,vy,MP,a]
    ·have f:¬ ((i:Int) <((r.take (wd c)).length:Int)):=by omega
     have y:=wC (r.take (wd c)) 0 (by omega) q;simp only [f,aK,aa];rw [show (r.take (wd c)).take i=r.take (wd c) from kD (by omega),Ox y];simp only [ai];by_cases B:fst (bv 0 (r.take (wd c)))=c
     ·simp [B]
     ·simp [B]
theorem FB (o:Bs b):tU b=some (du b):=by
 unfold tU du;dsimp -beta -proj only;by_cases S:65535<b.length
 ·have A:(65535:Int) <(b.length:Int):=by omega
  simp only [S,A,al,ah,aI];refine rY 1 λm hm=> ?_
  obtain ⟨k,rfl⟩:=Nat.exists_eq_add_of_le hm;rw [Nat.add_comm];simp only [iter,show decide ((4:Int)=0)=false from rfl,aa,bm,ah]
 ·have A:¬ (65535:Int) <(b.length:Int):=by omega
  simp only [S,A,aK,aa,aH]
  refine bE (λx=>Bs x.2.1/\x.1.length<=64/\x.2.1.length<=65535) (λx=>2*x.2.1.length+ (if x.2.2=0 then 1 else 0))
   (λx=>if x.2.2≠0 then ([],x.2.2) else jm x.1 x.2.1) ?_ ([],(b,0)) ⟨o,by simp,by simp only;omega⟩
  rintro ⟨a,b,e⟩ ⟨o,ha,S⟩ T l;simp only at o ha S l ⊢;by_cases U:e=0
  ·subst U;by_cases B:b= []
   ·subst B;simp [jm]
   ·have hpos:=oR.2 B;have C:(0:Int) <(b.length:Int):=by omega
    have V:¬IntKind.wrap .u64 (b.length:Int) <0:=by rw [RB.ln (by omega) (by omega)];omega
    have c:∀ (L:List Int) (M:Int),M≠0->L.length<=b.length->Bs L->T (a,(L,M))=some ([],M):=by
     intro L M h1 h2 h3;have:=l (a,(L,M)) ⟨h3,ha,by simp only;omega⟩ (by simp only [h1,aH,aI];omega);rw [this];simp only [cU,h1,iI,aI]
    simp only [cU,dm,aH,al,ah,C];rw [jm,ak B];have g:∀q:Bool,(bif q then false else false)=false:=λq=>by cases q <;>rfl
    have p:ae 0 (b.length+1)=true:=RB.oC (by omega) (by omega)
    have r:0<a.length->(if IntKind.wrap .i64 ((a.length:Int) - 1) <0 then 0 else IntKind.wrap .i64 ((a.length:Int) - 1))=((a.length - 1:Nat):Int):=by
     intro h;rw [RB.dO (by omega) (by omega),ak (by omega)];omega
    have s:0<a.length->ae ((a.length - 1:Nat):Int) a.length=true:=λh=>RB.oC (by omega) (by omega)
    have hwbd:decide (IntKind.wrap .u64 (b.length:Int) <0)=false:=aq V;by_cases i:0<a.length
    ·have n:decide ((0:Int) <(a.length:Int))=true:=aF (by omega);have D:a.length - 1<a.length:=by omega
     by_cases N:a.length=64
     ·have u:decide ((a.length:Int)=64)=true:=aF (by omega);rw [aw N];simp only [u,ah,n,bJ,r i,s i,aU (t:=tR) D,eF,tI,ai,g,aa];exact c b 4 (by decide) (aR _) o
     ·have u:decide ((a.length:Int)=64)=false:=aq (by omega);rw [ak N];simp only [u,aa,ax,ma o (by omega),ai];rcases n5 o with ⟨g1,W,E,g4,g5⟩| ⟨g1,W,E⟩
      ·have F:decide ((aE b).2.2=0)=true:=aF g1;rw [ak (show ¬ ((aE b).2.2≠0) from λh=>h g1)];simp only [E,ah,n,bJ,r i,s i,aU (t:=tR) D,tI,ai,F,EJ i,ax,aa];by_cases O:(a[a.length - 1]).1<(aE b).1
       ·simp only [O,aI,show decide ((0:Int)<= -1)=false from rfl,aa,dm,aH];have d:=mO o (aE b).2.1.toNat;have P:(b.drop (aE b).2.1.toNat).length<=65535:=by omega
        generalize X:b.drop (aE b).2.1.toNat=b1 at*;rcases n5 d with ⟨p1,p2,p3,p4,p5⟩| ⟨p1,p2,p3⟩
        ·have G:decide ((aE b1).2.2=0)=true:=aF p1;rw [ak (show ¬ ((aE b1).2.2≠0) from λh=>h p1)];simp only [ma d (by omega),ai,p3,ah,G,g,aa];have j:=mO d (aE b1).2.1.toNat;generalize Y:b1.drop (aE b1).2.1.toNat=f at*;have H:IntKind.wrap .u64 (f.length:Int)=(f.length:Int):=RB.ln (by omega) (by omega);rw [H];by_cases c1:4096<(aE b1).1
         ·simp only [c1,al,ah,aI];exact c f 4 (by decide) (by omega) j
         ·by_cases Q:(f.length:Int) <(aE b1).1
          ·simp only [c1,Q,al,aK,ah,aa,aI,aH];exact c f 3 (by decide) (by omega) j
          ·have I:ae (aE b1).1 (f.length+1)=true:=RB.oC p2.1 (by omega);have J:(f.take (aE b1).1.toNat).length<=1000000:=by rw [dZ];omega
           have v:(a.length+1)*32<=az:=by unfold az;omega
           have K:(f.drop (aE b1).1.toNat).length<b.length:=by rw [gL];omega
           have w:(f.drop (aE b1).1.toNat).length<=65535:=by omega
           simp only [c1,Q,aK,aa,aH,I,ah,l8 J,ai,v,al,K,vw,p1];rw [l (a++ [((aE b).1,f.take (aE b1).1.toNat)],(f.drop (aE b1).1.toNat,0)) ⟨mO j _,by simp only [cq,nI];omega,w⟩ (by simp only [aI];omega)];simp only [cU,dm,aH]
        ·have G:decide ((aE b1).2.2=0)=false:=aq p1;rw [aw p1];have y:ae 0 (b1.length+1)=true:=RB.oC (by omega) (by omega);simp only [ma d (by omega),ai,p3,y,ah,G,g,aa,DO,qz];exact c b1 _ p1 (by omega) d
       ·have Z:decide ((0:Int)<= (if (aE b).1<(a[a.length - 1]).1 then 1 else 0))=true:=by split <;>rfl
        simp only [O,aH,Z,ah,g,aa,iI,aI];exact c _ 2 (by decide) (by omega) (mO o _)
      ·have F:decide ((aE b).2.2=0)=false:=aq g1;rw [aw g1];simp only [E,p,ah,n,bJ,r i,s i,aU (t:=tR) D,tI,ai,F,g,aa,bm,DO,qz];exact c b _ g1 (aR _) o
    ·have n:decide ((0:Int) <(a.length:Int))=false:=aq (by omega);have R:a= []:=jK.1 (by omega);subst R;rw [ak (show ¬ ([]:List br).length=64 by simp)];have u:decide (((([]:List br).length:Nat):Int)=64)=false:=rfl;have z:decide ((0:Int) <((([]:List br).length:Nat):Int))=false:=rfl;simp only [u,aa,ax,ma o (by omega),ai];rcases n5 o with ⟨g1,W,E,g4,g5⟩| ⟨g1,W,E⟩
     ·have F:decide ((aE b).2.2=0)=true:=aF g1;rw [ak (show ¬ ((aE b).2.2≠0) from λh=>h g1),ak (show ¬¬qN [] <(aE b).1 from λh=>h (by show (-1:Int) <_;omega))];simp only [E,ah,z,show ((false==true)=false) from rfl,F,ax,aa]
      skip
      have d:=mO o (aE b).2.1.toNat;have P:(b.drop (aE b).2.1.toNat).length<=65535:=by omega
      generalize X:b.drop (aE b).2.1.toNat=b1 at*;rcases n5 d with ⟨p1,p2,p3,p4,p5⟩| ⟨p1,p2,p3⟩
      ·have G:decide ((aE b1).2.2=0)=true:=aF p1;rw [ak (show ¬ ((aE b1).2.2≠0) from λh=>h p1)];simp only [ma d (by omega),ai,p3,ah,G,g,aa];have j:=mO d (aE b1).2.1.toNat;generalize Y:b1.drop (aE b1).2.1.toNat=f at*;have H:IntKind.wrap .u64 (f.length:Int)=(f.length:Int):=RB.ln (by omega) (by omega);rw [H];by_cases c1:4096<(aE b1).1
       ·simp only [c1,al,ah,aI];exact c f 4 (by decide) (by omega) j
       ·by_cases Q:(f.length:Int) <(aE b1).1
        ·simp only [c1,Q,al,aK,ah,aa,aI,aH];exact c f 3 (by decide) (by omega) j
        ·have I:ae (aE b1).1 (f.length+1)=true:=RB.oC p2.1 (by omega);have J:(f.take (aE b1).1.toNat).length<=1000000:=by rw [dZ];omega
         have v:(([]:List br).length+1)*32<=az:=by unfold az;omega
         have K:(f.drop (aE b1).1.toNat).length<b.length:=by rw [gL];omega
         have w:(f.drop (aE b1).1.toNat).length<=65535:=by omega
         simp only [c1,Q,aK,aa,aH,I,ah,l8 J,ai,v,al,K,vw,p1];rw [l (([]:List br)++ [((aE b).1,f.take (aE b1).1.toNat)],(f.drop (aE b1).1.toNat,0)) ⟨mO j _,by simp only [cq,nI];omega,w⟩ (by simp only [aI];omega)];simp only [cU,dm,aH]
      ·have G:decide ((aE b1).2.2=0)=false:=aq p1;rw [aw p1];have y:ae 0 (b1.length+1)=true:=RB.oC (by omega) (by omega);simp only [ma d (by omega),ai,p3,y,ah,G,g,aa,DO,qz];exact c b1 _ p1 (by omega) d
     ·have F:decide ((aE b).2.2=0)=false:=aq g1;rw [aw g1];simp only [E,p,ah,z,show ((false==true)=false) from rfl,F,g,aa,bm,DO,qz];exact c b _ g1 (aR _) o
  ·have he':decide (e=0)=false:=aq U;simp only [he',aa,bm,ah];rw [aw U]
end Go.Proofs.YtkihadlgknhpkaaGreatDoor.T
