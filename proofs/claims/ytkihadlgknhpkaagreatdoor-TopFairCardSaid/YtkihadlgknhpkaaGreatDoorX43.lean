/- Part 43: lemmas that the last text needs. -/
import Derived.Test.YtkihadlgknhpkaaGreatDoorX42
import Derived.Test.YtkihadlgknhpkaaGreatDoorX36
import Derived.Test.YtkihadlgknhpkaaGreatDoorX41
import Derived.Test.YtkihadlgknhpkaaGreatDoorX37
import Derived.Test.YtkihadlgknhpkaaGreatDoorX52
set_option linter.all false
set_option autoImplicit true
set_option relaxedAutoImplicit true
namespace Go.Proofs.YtkihadlgknhpkaaGreatDoor.T.Se
open Go Go.Fw Go.Proofs RB
abbrev ir:=Bool× (List Int× (Bool× (List (List Int)×List Int)))
def cL:ir:=(false,([],(false,([],[]))))
def fp:ir:=(true,([],(false,([],[]))))
def kX (l:List (List Int)):=l.any λf=>decide (4096<f.length)
open Classical in
noncomputable def kZ (s:ir):Int:=if (s.1=false/\s≠cL)\/8<s.2.2.2.1.length\/16384<s.2.2.2.2.length\/kX s.2.2.2.1=true then 1 else gD (s.2.1,s.2.2.1)
open Classical in
noncomputable def dN (s:ir):Int:=if kZ s≠0\/s.1=true then kZ s else 14
def og:List (List Int)->Nat->Int
 | [],_=> -1
 |a::r,i=>if 4096<a.length then (i:Int) else og r (i+1)
theorem Nn:∀ (l) (i),decide (0<=og l i)=kX l
 | [],i=>rfl
 |a::r,i=>by
  by_cases h:4096<a.length
  ·simp [og,kX,h]
  ·simp only [og,h,aH,Nn r (i+1)];simp [kX,h]
theorem afC (o:l.length<=9223372036854775807):An (l,())=some (kX l):=by
 have e:BS (l,())=some (og l 0):=by
  unfold BS
  have:=bE (B:=(λ(b:(Int×Int)->Option Int) (a:Int×Int)=>
   bif decide (a.2<(l.length:Int)) then (
   bif ae a.2 l.length then
   (Ap (rd (.slice 5 (.int .u8)) l a.2)).bind λk=>
   bif k then (
   some a.2)
   else (
   b (a.1,(IntKind.wrap .i64 (a.2+1))))
   else none)
   else (
   some (-1)))) (λx=>∃i:Nat,x.2=(i:Int)/\i<=l.length) (λx=>l.length - x.2.toNat) (λx=>og (l.drop x.2.toNat) x.2.toNat) ?_ (0,0) ⟨0,rfl,by omega⟩
  ·simpa using this
  rintro ⟨q,p⟩ ⟨i,d,r⟩ m f;simp only at d;subst d;simp only [bu];by_cases g:i<l.length
  ·have h:((i:Int) <(l.length:Int)):=by omega
   simp only [h,al,ah,bp (dp i) h,aU (t:= .slice 5 (.int .u8)) g,Ap,ai];rw [gT g];by_cases c:4096<l[i].length
   ·have j:(4096:Int) <(l[i].length:Int):=by omega
    simp only [j,al,ah,og,c,aI]
   ·have j:¬ (4096:Int) <(l[i].length:Int):=by omega
    simp only [j,aK,aa,og,c,aH];rw [cX (n:=(i:Int)+1) (by omega) (by omega)];have:=f (q,(i:Int)+1) ⟨i+1,by simp,by omega⟩ (by simp only;omega);rw [this];simp only;rw [show ((i:Int)+1).toNat=i+1 by omega]
  ·have h:¬ ((i:Int) <(l.length:Int)):=by omega
   have:l.drop i= []:=DM (by omega);simp only [h,aK,aa,this,og]
 unfold An;simp only [e,ai,Nn]
theorem Nu (a b):jr (a,b)=some (decide (a=b)):=rfl
theorem afB (e:b.length<=4611686018427387904):BT (a,b,())=some (decide (a=b)):=by
 unfold BT;simp only;by_cases d:a.length=b.length
 ·have e0:(a.length:Int)=(b.length:Int):=by omega
  simp only [e0,al,ax,aa];rw [<-e0];exact TN (t:= .slice 5 (.int .u8)) (a:=a) (b:=b) (by omega) d (G:=λx y K=>(jr (x,y)).bind K) (λi f g K=>by simp only [Nu,ai])
 ·have e0:¬ (a.length:Int)=(b.length:Int):=by omega
  simp only [e0,aK,bm,ah,aB];symm;rw [yF];intro c;subst c;exact d rfl
theorem afE (p:t.2.2.2.1.length<=4611686018427387904):Ao (s,t)=some (decide (s=t)):=by
 obtain ⟨a,b,c,d,e⟩:=s;obtain ⟨l,i,j,m,n⟩:=t;unfold Ao;simp only [afL,afB p,Nu,ai];by_cases g:a=l
 ·by_cases f:(b,c)=(i,j)
  ·by_cases k:d=m
   ·by_cases o:e=n
    ·simp only [aL] at f;simp [g,f,k,o]
    ·simp only [aL] at f;simp [g,f,k,o]
   ·simp only [aL] at f;simp [g,f,k]
  ·have h:¬ (b=i/\c=j):=by simpa using f
   have:¬ ((b,c,d,e)=(i,j,m,n)):=by simp only [aL];intro q;exact h ⟨q.1,q.2.1⟩
   simp [g,h,f,this]
 ·have:(a==l)=false:=by simpa using g
  simp [g,this]
theorem Nx (f:cd s.2.1) (g:s.2.2.2.1.length<=9223372036854775807):ub s=some (kZ s):=by
 unfold ub;dsimp -beta -proj only;rw [show ((false,([],(false,([],[])))):ir)=cL from rfl];simp only [eF,afE (s:=s) (t:=cL) (by simp [cL]),Nw (r:=(s.2.1,s.2.2.1)) f,afC g,ai];unfold kZ;have h:decide (8<(s.2.2.2.1.length:Int))=decide (8<s.2.2.2.1.length):=by apply Du.2;omega
 have d:decide (16384<(s.2.2.2.2.length:Int))=decide (16384<s.2.2.2.2.length):=by apply Du.2;omega
 rw [h,d]
 cases i:s.1 with
 |true=>
  by_cases a:8<s.2.2.2.1.length <;>by_cases b:16384<s.2.2.2.2.length <;>cases c:kX s.2.2.2.1 <;>simp [a,b,c]
 |false=>
  by_cases e:s=cL
  ·have q:=eq_true e;clear e;by_cases a:8<s.2.2.2.1.length <;>by_cases b:16384<s.2.2.2.2.length <;>cases c:kX s.2.2.2.1 <;>simp [q,a,b,c]
  ·by_cases a:8<s.2.2.2.1.length <;>by_cases b:16384<s.2.2.2.2.length <;>cases c:kX s.2.2.2.1 <;>simp [e,a,b,c]
theorem tE (a:cd s.2.1) (b:s.2.2.2.1.length<=9223372036854775807):ou s=some (dN s):=by
 unfold ou dN;simp only [eF,Nx a b,ai];by_cases h:kZ s=0 <;>cases c:s.1 <;>simp [h,c]
structure OkS (s:ir):Prop where
 fr:s.2.2.2.1.length<=8
 out:s.2.2.2.2.length<=16384
 each:∀f ∈ s.2.2.2.1,f.length<=4096
 buf:s.2.1.length<=5000
 rdr:gD (s.2.1,s.2.2.1)=0
theorem Nr (h:gD r=0):r.1.length<=5000:=by
 unfold gD at h;by_cases c:(r.2=true/\r.1≠ [])\/(2<=r.1.length/\(4096<c9 r.1\/2+c9 r.1<=r.1.length))
 ·rw [aw c] at h;simp at h
 ·simp only [not_or,not_and,Decidable.not_not] at c;by_cases a:2<=r.1.length
  ·have:=c.2 a;omega
  ·omega
theorem qV (h:dN s=0):OkS s/\s.1=true:=by
 unfold dN at h;split at h
 ·rename_i c;unfold kZ at h;split at h
  ·simp at h
  ·rename_i d;simp only [not_or,not_and] at d
   have e:s.1=true:=by
    rcases c with c|c
    ·exfalso;apply c;unfold kZ;rw [ak (by simp only [not_or,not_and];exact d)];exact h
    ·exact c
   refine ⟨⟨by omega,by omega,λf a=> ?_,Nr h,h⟩,e⟩;have:=d.2.2.2;simp only [kX,qB,db,not_exists,not_and] at this;have:=this f a;omega
 ·simp at h
theorem Fj (h:OkS s) (b:s.1=true):dN s=0:=by
 have c:¬ ((s.1=false/\s≠cL)\/8<s.2.2.2.1.length\/16384<s.2.2.2.2.length\/kX s.2.2.2.1=true):=by
  rintro (a|a|a|a)
  ·rw [b] at a;simp at a
  ·have:=h.fr;omega
  ·have:=h.out;omega
  ·simp only [kX,qB,db] at a;obtain ⟨f,d,g⟩:=a;have:=h.each f d;omega
 have e:kZ s=0:=by unfold kZ;rw [ak c];exact h.rdr
 unfold dN;rw [aw (.inr b),e]
theorem NA (h:l.length<=1000000):uz l=some l:=by
 unfold uz;dsimp -beta -proj only;have k:(([]:List (List Int)).length+l.length)*24<=az:=by unfold az;simp;omega
 simp only [k,al,ah,fJ]
 cases l with
 |nil=>simp [bC]
 |cons a r=>rfl
theorem aft {G:List (List Int)->R} (h:∀r ∈ l,r.length<=1000000) (o:l.length<=1000000):
 aD (λ(c:(Int×List (List Int))->Option R) (a:Int×List (List Int))=>
 bif decide (a.1<(l.length:Int)) then (
 bif ae a.1 a.2.length then
 (cg (rd (.slice 5 (.int .u8)) a.2 a.1)).bind λj=>
 bif ae a.1 a.2.length then
 c ((IntKind.wrap .i64 (a.1+1)),(a.2.set a.1.toNat j))
 else none
 else none)
 else (
 some (G a.2))) (0,l)=some (G l):=by
 refine bE (λx=>∃i:Nat,x.1=(i:Int)/\i<=l.length/\x.2=l) (λx=>l.length - x.1.toNat) (λ_=>G l) ?_ (0,l) ⟨0,rfl,by omega,rfl⟩;rintro ⟨p,q⟩ ⟨i,d,s,e⟩ k f;simp only at d e;subst d;rw [e];simp only;by_cases b:i<l.length
 ·have g:((i:Int) <(l.length:Int)):=by omega
  have m:=h _ (bt b);simp only [g,al,ah,bp (dp i) g,aU (t:= .slice 5 (.int .u8)) b,l8 m,ai,bu];rw [cX (n:=(i:Int)+1) (by omega) (by omega)];rw [yL b];exact f ((i:Int)+1,l) ⟨i+1,by simp,by omega,rfl⟩ (by simp only;omega)
 ·have g:¬ ((i:Int) <(l.length:Int)):=by omega
  simp only [g,aK,aa]
theorem Aa (h:OkS s):rz s=some s:=by
 obtain ⟨d,e,a,f,g⟩:=h;have b:=aft (l:=s.2.2.2.1) (G:=λy=>((s.1,s.2.1,s.2.2.1,y,s.2.2.2.2):ir)) (λr c=>by have:=a r c;omega) (by omega);unfold rz;simp only [bC,l8 (l:=s.2.1) (by omega),NA (l:=s.2.2.2.1) (by omega),l8 (l:=s.2.2.2.2) (by omega),ai];exact b
open Classical in
noncomputable def oe (s:ir):ir×Int:=if dN s=14 then (fp,0) else if dN s=0 then (cL,10) else (cL,dN s)
theorem Nz (c:cd s.2.1) (d:s.2.2.2.1.length<=9223372036854775807):rH s=some (oe s):=by
 unfold rH oe;simp only [eF,tE c d,ai];by_cases a:dN s=14
 ·simp [a,fp]
 ·by_cases b:dN s=0
  ·simp [b,cL]
  ·simp [a,b,cL]
theorem afK (a:cd s.2.1) (b:s.2.2.2.1.length<=9223372036854775807):BE s=some (cL,dN s):=by
 unfold BE;simp only [eF,tE a b,ai];rfl
end Go.Proofs.YtkihadlgknhpkaaGreatDoor.T.Se
namespace Go.Proofs.YtkihadlgknhpkaaGreatDoor.T.Se
open Go Go.Fw Go.Proofs RB
theorem Nt (b):qX b=some (dd b):=by
 by_cases h:b.length<=1000000
 ·exact afD h
 ·unfold qX dd;dsimp -beta -proj only;have a:4096<b.length:=by omega
  have:(4096:Int) <(b.length:Int):=by omega
  simp [a,this]
theorem z6 (h:b.length<=4096):dd b=([(b.length:Int) / 256,(b.length:Int) % 256]++b,0):=by
 unfold dd;rw [ak (by omega)]
theorem afo (c:cd b):cd (dd b).1:=by
 unfold dd;split
 ·intro n a;simp at a
 ·intro n a;rename_i h;simp only [dP,fJ,a8] at a;rcases a with rfl|rfl|a
  ·exact ⟨by omega,by omega⟩
  ·exact ⟨by omega,by omega⟩
  ·exact c n a
theorem afp (b:f.length<=4096) (m) (a):fq a ((dd f).1++m)=fq (a++ [f]) m:=by
 rw [z6 b,fq];have c:c9 (([(f.length:Int) / 256,(f.length:Int) % 256]++f)++m)=f.length:=by simp [c9] <;>omega
 have d:¬ (([(f.length:Int) / 256,(f.length:Int) % 256]++f)++m).length<2:=by simp <;>omega
 have e:¬ (4096:Int) <(f.length:Int):=by omega
 have g:¬ ((([(f.length:Int) / 256,(f.length:Int) % 256]++f)++m).length:Int) <2+ (f.length:Int):=by simp <;>omega
 have h:(0:Int)<= (f.length:Int)/\2<= (([(f.length:Int) / 256,(f.length:Int) % 256]++f)++m).length:=⟨by omega,by simp <;>omega⟩;simp only [c,d,e,g,aH,h,vx,vw];have i:(2+ (f.length:Int)).toNat=f.length+2:=by omega
 rw [i];simp
theorem afq:∀ (n) (l) (b),l.length<=n->∀f ∈ (fq b l).2,f ∈ b\/f.length<=4096:=by
 intro n
 induction n with
 |zero=>
  intro l b h f a;have:l= []:=jK.1 (by omega);subst this;rw [Fl] at a;exact .inl a
 |succ n d=>
  intro l b h f a;rw [fq] at a;split at a
  ·exact .inl a
  ·split at a
   ·exact .inl a
   ·split at a
    ·exact .inl a
    ·split at a
     ·rename_i c1 e g i;rcases d _ _ (by rw [gL];omega) f a with c|c
      ·rcases cz.1 c with c|c
       ·exact .inl c
       ·right;simp only [eP] at c;subst c;simp only [gL,dZ];omega
      ·exact .inr c
     ·exact .inl a
theorem Np (d:cd r.1) (e:cd b) (h:gD r=0):(eT r b).2.2=0->gD (eT r b).1=0/\cd (eT r b).1.1/\(eT r b).2.1.length<=r.1.length+b.length/\∀f ∈ (eT r b).2.1,f.length<=4096:=by
 unfold eT;rw [ak (by simpa using h)];split
 ·simp
 ·split
  ·intro _;exact ⟨h,d,by simp,by simp⟩
  ·intro _;have a:=afr _ (r.1++b) [] (aR _) (Fo d e);refine ⟨a.1,a.2.1,?_,λf g=> ?_⟩
   ·have:=a.2.2;simp at this ⊢;omega
   ·rcases afq _ (r.1++b) [] (aR _) f g with c|c
    ·simp at c
    ·exact c
open Classical in
noncomputable def kY (s:ir) (b:List Int):ir×Int×Int:=
 if dN s≠0 then (cL,0,dN s) else if (eT (s.2.1,s.2.2.1) b).2.2≠0 then (cL,0,(eT (s.2.1,s.2.2.1) b).2.2)
 else if 8<s.2.2.2.1.length+ (eT (s.2.1,s.2.2.1) b).2.1.length then (cL,0,7)
 else ((s.1,((eT (s.2.1,s.2.2.1) b).1.1,((eT (s.2.1,s.2.2.1) b).1.2,(s.2.2.2.1++ (eT (s.2.1,s.2.2.1) b).2.1,s.2.2.2.2)))),((eT (s.2.1,s.2.2.1) b).2.1.length:Int),0)
theorem Ny (e:cd s.2.1) (d:cd b) (i:s.2.2.2.1.length<=9223372036854775807):ur (s,b)=some (kY s b):=by
 unfold ur kY;dsimp -beta -proj only;simp only [eF,tE e i,ai];by_cases f:dN s=0
 ·obtain ⟨ok,g⟩:=qV f;simp only [f,al,ax,aa,cU,dm,aH,afG (r:=(s.2.1,s.2.2.1)) e d (by have:=ok.buf;simp only;omega),ai];by_cases c:(eT (s.2.1,s.2.2.1) b).2.2=0
  ·have j:=Np (r:=(s.2.1,s.2.2.1)) e d ok.rdr c
   have l:b.length<=65535:=by
    apply jL;intro p;unfold eT at c;rw [ak (by simpa using ok.rdr),aw (by omega)] at c;simp at c
   have m:(eT (s.2.1,s.2.2.1) b).2.1.length<=s.2.1.length+b.length:=j.2.2.1;have n:=ok.buf;have o:=ok.fr;simp only [c,al,ax,aa,dm,aH];rw [cX (by omega) (by omega)];by_cases h:8<s.2.2.2.1.length+ (eT (s.2.1,s.2.2.1) b).2.1.length
   ·have a:(8:Int) <(s.2.2.2.1.length:Int)+ ((eT (s.2.1,s.2.2.1) b).2.1.length:Int):=by omega
    simp only [h,a,al,ah,aI];rfl
   ·have a:¬ (8:Int) <(s.2.2.2.1.length:Int)+ ((eT (s.2.1,s.2.2.1) b).2.1.length:Int):=by omega
    have k:(s.2.2.2.1.length+ (eT (s.2.1,s.2.2.1) b).2.1.length)*24<=az:=by unfold az;omega
    simp only [h,a,aK,aa,aH,Aa ok,ai,bC,k,al,ah]
  ·simp only [c,aK,bm,ah,iI,aI];rfl
 ·simp only [f,aK,bm,ah,cU,iI,aI];rfl
open Classical in
noncomputable def pB (s:ir):List Int×ir×Int:=
 if dN s≠0 then ([],cL,dN s) else match s.2.2.2.1 with
 | []=>([],cL,5)
 |f::r=>(f,(s.1,(s.2.1,(s.2.2.1,(r,s.2.2.2.2)))),0)
theorem afJ (i:cd s.2.1) (j:s.2.2.2.1.length<=9223372036854775807):BD s=some (pB s):=by
 unfold BD pB;simp only [eF,tE i j,ai];by_cases g:dN s=0
 ·obtain ⟨ok,h⟩:=qV g;simp only [g,al,ax,aa,cU,dm,aH,Aa ok,ai];obtain ⟨a,b,c,d,e⟩:=s
  cases d with
  |nil=>simp [cL]
  |cons f r=>
   have k:¬ (((f::r).length:Nat):Int)=0:=by simp <;>omega
   simp only [k,aK,aa];rw [bp (by omega) (by simp <;>omega),bp (by omega) (by simp <;>omega)];simp [rd]
 ·simp only [g,aK,bm,ah,cU,iI,aI];rfl
theorem Fk (b):(dd b).1.length<=4098:=by
 unfold dd;split
 ·simp
 ·simp;omega
theorem Nl:OkS fp:=⟨by simp [fp],by simp [fp],by simp [fp],by simp [fp],by simp [fp,gD]⟩
theorem Nq:kZ cL=0:=by unfold kZ;simp [cL,kX,gD]
theorem Nk:dN cL=14:=by unfold dN;simp [Nq];simp [cL]
theorem afn:dN fp=0:=Fj Nl rfl
theorem afj:rH cL=some (fp,0):=by
 rw [Nz (by intro n a;simp [cL] at a) (by simp [cL])];simp [oe,Nk]
end Go.Proofs.YtkihadlgknhpkaaGreatDoor.T.Se
namespace Go.Proofs.YtkihadlgknhpkaaGreatDoor.T.Se
open Go Go.Fw Go.Proofs RB
set_option maxRecDepth 20000
theorem afz (h:Fw.Good (.slice 5 (.int .u8)) l):cd l:=λn a=>TO (h.2 n a)
end Go.Proofs.YtkihadlgknhpkaaGreatDoor.T.Se
namespace Go.Proofs.YtkihadlgknhpkaaGreatDoor.T.Cv
open Go Go.Fw Go.Proofs RB
abbrev Us:=Int× (Int× (Int×Int))
def Gf (u:Us):=ay u.1/\(-9223372036854775808<=u.2.1/\u.2.1<=9223372036854775807)/\ay u.2.2.1/\ay u.2.2.2
def may (u:Us):=decide (0<=u.2.1) && (decide (u.2.1<16) && decide (u.2.2.1<=4611686018427387904))
theorem OZ (u):wF u=some (may u):=by
 obtain ⟨t,m,a,w⟩:=u;unfold wF may;simp only [Aq,ai];by_cases b:0<=m
 ·by_cases c:m<16
  ·by_cases d:4611686018427387904<a
   ·simp [b,c,d]
   ·simp [b,c,d];omega
  ·simp [b,c]
 ·simp [b]
def OY (n m:Int):=decide (n / 2^m.toNat % 2=1)
theorem ahh (a:0<=n) (d:n<18446744073709551616):df .and .u64 n 1=n % 2:=by
 obtain ⟨n,rfl⟩:=qC a;show IntKind.wrap .u64 ((BitVec.ofInt 64 (n:Int) &&& BitVec.ofInt 64 (1:Int)).toNat:Int)=_
 have e:(BitVec.ofInt 64 (n:Int) &&& BitVec.ofInt 64 (1:Int)).toNat=n % 2:=by
  rw [BitVec.toNat_and];have b:(BitVec.ofInt 64 (n:Int)).toNat=n:=by rw [BitVec.ofInt_natCast,BitVec.toNat_ofNat];omega
  have c:(BitVec.ofInt 64 (1:Int)).toNat=1:=by decide
  rw [b,c,Nat.and_one_is_mod]
 rw [e];exact (fY (by omega) (by omega)).trans (by omega)
def holds (c:Cv) (u:Us):=
 if c.1=1 then decide (u.1<=c.2.1) else if c.1=2 then OY c.2.1 u.2.1 else if c.1=5 then decide (u.2.2.2=c.2.1) else decide (u.2.2.1<=c.2.1)
def Ge (c:Cv) (u:Us):Bool×Int:=if cr c=0/\may u=true then (holds c u,0) else (false,1)
theorem ahe (h:may u=true):0<=u.2.1/\u.2.1<16/\u.2.2.1<=4611686018427387904:=by
 simpa [may] using h
theorem ahj (g:dV c) (z:Gf u):Ag (c,u)=some (Ge c u):=by
 unfold Ag Ge;dsimp -beta -proj only;have i:=ux g;have j:=OZ u;obtain ⟨k,a,b⟩:=c;obtain ⟨t,m,l,w⟩:=u;simp only [i,j,ai];by_cases d:cr (k,a,b)=0
 ·have n:=zV d;simp only at n;by_cases e:may (t,m,l,w)=true
  ·have h:=ahe e;simp only at h;have f:=g.2.1;simp only at f;simp only [d,e,al,ax,bJ,ah,aa,vx,aI,holds];by_cases o:k=1
   ·subst o;simp
   by_cases p:k=2
   ·subst p;have q:(0:Int) <2^m.toNat:=vI (by omega);have q1:=Int.ediv_nonneg f.1 (vJ q);have r:a / 2^m.toNat<18446744073709551616:=Int.lt_of_le_of_lt (Int.ediv_le_self _ f.1) f.2;have s:min m.toNat 64=m.toNat:=by omega
    simp [h.1,s,ahh q1 r,OY]
   by_cases v:k=3
   ·subst v;simp
   by_cases x:k=4
   ·subst x;simp
   have y:k=5:=by omega
   subst y;simp
  ·simp only [d,e,al,ax,bJ,ah,and_false,aH];simp [e]
 ·simp [d]
def mZ (l:List Cv) (u:Us):Bool×Int:=
 if l.length<=16/\may u=true then (if l.all (λc=>decide (cr c=0))=true then (l.all (λc=>holds c u),0) else (false,1)) else (false,1)
theorem ahk (s:∀c ∈ l,dV c) (v:Gf u):wM (l,u)=some (mZ l u):=by
 unfold wM mZ;dsimp -beta -proj only;simp only [eF,OZ,ai];by_cases z:16<l.length
 ·have:(16:Int) <(l.length:Int):=by omega
  have j:¬l.length<=16:=by omega
  simp [this,j]
 ·have p:¬ (16:Int) <(l.length:Int):=by omega
  have j:l.length<=16:=by omega
  by_cases k:may u=true
  ·simp only [p,aK,bJ,ah,k,ax,aa,j,vx,aI]
   refine bE (λx=>∃i:Nat,x.2.2.2=(i:Int)/\i<=l.length/\(l.take i).all (λc=>decide (cr c=0))=true/\x.2.2.1=(l.take i).all (λc=>holds c u)) (λx=>l.length - x.2.2.2.toNat)
    (λ_=>if l.all (λc=>decide (cr c=0))=true then (l.all (λc=>holds c u),0) else (false,1)) ?_ (false,0,true,0) ⟨0,rfl,by omega,rfl,rfl⟩
   rintro ⟨A,B,v3,C⟩ ⟨i,rfl,D,a,q⟩ w b;simp only at q;subst q;simp only;by_cases d:i<l.length
   ·have e:(i:Int) <(l.length:Int):=by omega
    obtain ⟨E,m⟩:=zf (t:= .pair (.int .i64) (.pair (.int .u64) (.int .u64))) (l:=l) (i:=i) (by omega) e;have f:rd (.pair (.int .i64) (.pair (.int .u64) (.int .u64))) l i=l[i]:=by rw [m];simp
    have y:dV l[i]:=s _ (bt _);have r:l.take (i+1)=l.take i++ [l[i]]:=by rw [vB,cK d,vy]
    simp only [e,al,ah,bp (dp i) e,f,ahj y v,ai];rw [cX (n:=(i:Int)+1) (by omega) (by omega)];unfold Ge;by_cases g:cr l[i]=0
    ·simp only [g,k,vx,aI,al,ax,aa];refine b _ ⟨i+1,by simp,by omega,?_,?_⟩ (by simp only;omega)
     ·rw [r,JZ,a];simp [g]
     ·simp only;rw [r,JZ];cases (l.take i).all (λc=>holds c u) <;>simp
    ·have:¬l.all (λc=>decide (cr c=0))=true:=λh=>by
      have:=gU.1 h _ (bt d);exact g (by simpa using this)
     simp [g,this]
   ·have e:¬ (i:Int) <(l.length:Int):=by omega
    rw [kD (by omega)] at a ⊢;simp only [e,aK,aa,a,aI]
  ·have o:may u=false:=by simpa using k
   simp [p,o]
abbrev MK:Ty:= .int .u64
abbrev En:=Int×Int
def G (l:List En) (k:Int):Int:=cC MK MK (0:Int) l k
def Hs (l:List En) (k:Int):=dv MK MK l k
def Up (l:List En) (k v:Int):List En:=bK MK MK l k v
theorem ahi (e) (r) (k):Hs (e::r) k=(decide (k=e.1) || Hs r k):=rfl
theorem Gg (e) (r) (k v):Up (e::r) k v=if k=e.1 then (k,v)::r else e::Up r k v:=by
 by_cases h:k=e.1 <;>simp [Up,bK,cj,h]
theorem OU (k v):∀a,(Up a k v).length=if Hs a k=true then a.length else a.length+1
 | []=>by simp [Up,Hs,bK,dv]
 |e::r=>by
  rw [Gg,ahi];by_cases h:k=e.1
  ·simp [h]
  ·simp only [ak h,aW,OU k v r,aq h,vL];split <;>rfl
theorem Gd :∀{a},x ∈ Up a k v->x=(k,v)\/x ∈ a
 | [],h=>by simp [Up,bK] at h;exact .inl h
 |e::r,h=>by
  rw [Gg] at h;split at h
  ·rcases a8.1 h with h|h
   ·exact .inl h
   ·exact .inr (iL _ h)
  ·rcases a8.1 h with h|h
   ·exact .inr (by rw [h];simp)
   ·exact (Gd h).imp_right (iL _)
theorem OV (k v):∀{a},(a.map (·.1)).Nodup->((Up a k v).map (·.1)).Nodup
 | [],_=>by simp [Up,bK]
 |e::r,h=>by
  rw [Gg];simp only [eX,kF] at h;by_cases j:k=e.1
  ·rw [aw j];simp only [eX,kF];rw [j];exact h
  ·rw [ak j];simp only [eX,kF];refine ⟨λJ=> ?_,OV k v h.2⟩;obtain ⟨x,C,I⟩:=iK.1 J;rcases Gd C with rfl|C
   ·exact j I
   ·exact h.1 (iK.2 ⟨x,C,I⟩)
def ju (m:List En) (c:Cv):=if c.1=4 then (if Hs m c.2.2=false\/c.2.1<G m c.2.2 then Up m c.2.2 c.2.1 else m) else m
def iY (l:List Cv):=l.foldl ju []
theorem ahg (l) (c):iY (l++ [c])=ju (iY l) c:=by simp [iY,JQ]
theorem ahf (m) (c):m.length<= (ju m c).length/\(ju m c).length<=m.length+1:=by
 unfold ju;split
 ·split
  ·rw [OU];split <;>omega
  ·omega
 ·omega
theorem OW:∀ (l:List Cv) (m),(l.foldl ju m).length<=m.length+l.length
 | [],m=>by simp
 |c::r,m=>by
  simp only [nK,aW];have:=OW r (ju m c);have:=(ahf m c).2;omega
theorem OX:∀ (l:List Cv) (m),(m.map (·.1)).Nodup->((l.foldl ju m).map (·.1)).Nodup/\∀e ∈ l.foldl ju m,e ∈ m\/∃c ∈ l,c.1=4/\c.2.2=e.1/\c.2.1=e.2
 | [],m,h=>⟨h,λe j=> .inl j⟩
 |c::r,m,h=>by
  simp only [nK]
  have C:((ju m c).map (·.1)).Nodup:=by
   unfold ju;split
   ·split
    ·exact OV _ _ h
    ·exact h
   ·exact h
  obtain ⟨b,f⟩:=OX r (ju m c) C;refine ⟨b,λe j=> ?_⟩;rcases f e j with a| ⟨d,hd,g⟩
  ·unfold ju at a;split at a
   ·rename_i i;split at a
    ·rcases Gd a with rfl|a
     ·exact .inr ⟨c,by simp,i,rfl,rfl⟩
     ·exact .inl a
    ·exact .inl a
   ·exact .inl a
  ·exact .inr ⟨d,by simp [hd],g⟩
def gZ (l:List Cv):List En×Int:=if l.length<=16/\l.all (λc=>decide (cr c=0))=true then (iY l,0) else ([],1)
theorem O0 (w:∀c ∈ l,dV c):xw l=some (gZ l):=by
 unfold xw gZ;dsimp -beta -proj only;by_cases B:16<l.length
 ·have:(16:Int) <(l.length:Int):=by omega
  have o:¬l.length<=16:=by omega
  simp [this,o]
 ·have y:¬ (16:Int) <(l.length:Int):=by omega
  have o:l.length<=16:=by omega
  simp only [y,aK,aa,o,qt]
  refine bE (λx=>∃i:Nat,x.2.1=(i:Int)/\i<=l.length/\(l.take i).all (λc=>decide (cr c=0))=true/\x.2.2=iY (l.take i)) (λx=>l.length - x.2.1.toNat)
   (λ_=>if l.all (λc=>decide (cr c=0))=true then (iY l,0) else ([],1)) ?_ (0,0,[]) ⟨0,rfl,by omega,rfl,rfl⟩
  rintro ⟨p,C,v3⟩ ⟨i,rfl,D,b,r⟩ d e;simp only at r;subst r;simp only;by_cases f:i<l.length
  ·have g:(i:Int) <(l.length:Int):=by omega
   obtain ⟨E,q⟩:=zf (t:= .pair (.int .i64) (.pair (.int .u64) (.int .u64))) (l:=l) (i:=i) (by omega) g;have j:rd (.pair (.int .i64) (.pair (.int .u64) (.int .u64))) l i=l[i]:=by rw [q];simp
   have z:dV l[i]:=w _ (bt _);have s:l.take (i+1)=l.take i++ [l[i]]:=by rw [vB,cK f,vy]
   simp only [g,al,ah,bp (dp i) g,j,eF,ux z,ai];rw [cX (n:=(i:Int)+1) (by omega) (by omega)];by_cases k:cr l[i]=0
   ·have next:∀m,m=iY (l.take (i+1))->d (p,(i:Int)+1,m)=some (if l.all (λc=>decide (cr c=0))=true then (iY l,0) else ([],1)):=by
     intro m A;refine e _ ⟨i+1,by simp,by omega,?_,A⟩ (by simp only;omega);rw [s,JZ,b];simp [k]
    rw [s,ahg] at next;unfold ju at next;simp only [k,al,ax,aa];by_cases u:l[i].1=4
    ·simp only [u,al,ax,aa,aI] at next ⊢;change (bif (bif !(Hs (iY (l.take i)) l[i].2.2) then true else decide (l[i].2.1<G (iY (l.take i)) l[i].2.2)) then d (p,(i:Int)+1,Up (iY (l.take i)) l[i].2.2 l[i].2.1) else d (p,(i:Int)+1,iY (l.take i)))=_
     cases v:Hs (iY (l.take i)) l[i].2.2 with
     |false=>
      simp only [bm,ah];exact next _ (by simp [v])
     |true=>
      simp only [ax,aa];by_cases a:l[i].2.1<G (iY (l.take i)) l[i].2.2
      ·simp only [a,al,ah];exact next _ (by simp [a])
      ·simp only [a,aK,aa];exact next _ (by simp [v,a])
    ·simp only [u,aK,bm,ah,aH] at next ⊢;exact next _ rfl
   ·have:¬l.all (λc=>decide (cr c=0))=true:=λh=>by
     have:=gU.1 h _ (bt f);exact k (by simpa using this)
    rcases E6 l[i] with h|h
    ·exact absurd h k
    ·simp [h,this]
  ·have g:¬ (i:Int) <(l.length:Int):=by omega
   rw [kD (by omega)] at b ⊢;simp only [g,aK,aa,b,aI]
end Go.Proofs.YtkihadlgknhpkaaGreatDoor.T.Cv
namespace Go.Proofs.YtkihadlgknhpkaaGreatDoor.T
open Go Go.Fw Go.Proofs RB
set_option maxRecDepth 20000
section
variable {S R:Type} {B:(S->Option R)->S->Option R}
theorem zB (n) (σ:Nat->S) (ix:S->Nat) (a:∀i,i<=n->ix (σ i)=i) (b:Nat->R)
 (h:∀i,i<=n->∀c,(i<n->c (σ (i+1))=some (b (i+1)))->B c (σ i)=some (b i)):aD B (σ 0)=some (b 0):=by
 have:=bE (B:=B) (λx=>∃i,i<=n/\x=σ i) (λx=>n - ix x) (λx=>b (ix x)) ?_ (σ 0) ⟨0,gK _,rfl⟩
 ·rw [this,a 0 (gK _)]
 ·rintro x ⟨i,f,rfl⟩ c e;rw [a i f];refine h i f c (λd=> ?_);have:=e (σ (i+1)) ⟨i+1,d,rfl⟩ (by simp only [a i f,a (i+1) d];omega);rw [this,a (i+1) d]
open Classical in
theorem qM (n:Nat) (σ:Nat->S) (ix:S->Nat) (d:∀i,i<=n->ix (σ i)=i) (ok:Nat->Prop) (good c:R)
 (h:∀i,i<n->(∀j,j<i->ok j)->∀a:S->Option R,B a (σ i)=if ok i then a (σ (i+1)) else some c)
 (m:(∀i,i<n->ok i)->∀a:S->Option R,B a (σ n)=some good):aD B (σ 0)=some (if ∀i,i<n->ok i then good else c):=by
 have key:=bE (B:=B) (λx=>∃i,i<=n/\x=σ i/\∀j,j<i->ok j) (λx=>n - ix x) (λ_=>if ∀i,i<n->ok i then good else c) ?_ (σ 0) ⟨0,gK _,rfl,λj f=>by omega⟩
 ·exact key
 ·rintro x ⟨i,o,rfl,g⟩ a e;rcases jh i n with b|p
  ·rw [h i b g];by_cases l:ok i
   ·rw [aw l];exact e (σ (i+1)) ⟨i+1,b,rfl,λj f=>by rcases Xn.1 f with f|rfl;exact g j f;exact l⟩ (by simp only [d i o,d (i+1) b];omega)
   ·rw [ak l,ak (λq=>l (q i b))]
  ·have:i=n:=by omega
   subst this;rw [m g,aw g]
theorem fA (n) (σ:Nat->S) (ix:S->Nat) (c:∀i,i<=n->ix (σ i)=i) (good)
 (h:∀i,i<n->∀a,B a (σ i)=a (σ (i+1))) (d:∀a,B a (σ n)=some good):aD B (σ 0)=some good:=
 zB n σ ix c (λ_=>good) (λi g a e=>by
  rcases jh i n with b|f
  ·rw [h i b];exact e b
  ·have:i=n:=by omega
   subst this;exact d a)
end
theorem EI (n) (σ:Nat->S) (h:∀i,i<n->∀a:S->Option R,B a (σ i)=a (σ (i+1))) (d:∀a,B a (σ n)=none):aD B (σ 0)=none:=by
 have key:∀m i,i<=n->iter B m (σ i)=none:=by
  intro m
  induction m with
  |zero=>intro i _;rfl
  |succ m e=>
   intro i j;show B (iter B m) (σ i)=none;rcases jh i n with b|f
   ·rw [h i b];exact e (i+1) b
   ·have:i=n:=by omega
    rw [this];exact d _
 cases g:aD B (σ 0) with
 |none=>rfl
 |some r=>
  obtain ⟨m,c⟩:=U8 g;rw [key m 0 (gK _)] at c;cases c
open Classical in
theorem adJ {S R:Type} {B:(S->Option R)->S->Option R} (n:Nat) (σ:Nat->S) (ix:S->Nat) (d:∀i,i<=n->ix (σ i)=i) (ok:Nat->Prop) (good:Option R) (b:R)
 (h:∀i,i<n->(∀j,j<i->ok j)->∀a:S->Option R,B a (σ i)=if ok i then a (σ (i+1)) else some b)
 (e:(∀i,i<n->ok i)->∀a:S->Option R,B a (σ n)=good):aD B (σ 0)=if ∀i,i<n->ok i then good else some b:=by
 by_cases c:∀i,i<n->ok i
 ·rw [aw c]
  cases good with
  |none=>exact EI n σ (λi f a=>by rw [h i f (λj m=>c j (by omega)) a,aw (c i f)]) (e c)
  |some g=>
   rw [qM n σ ix d ok g b h e,aw c]
 ·rw [ak c,qM n σ ix d ok b b h (λl=>absurd l c)];split <;>rfl
theorem cx {i:Nat} (h:i<=4611686018427387904):IntKind.wrap .i64 ((i:Int)+1)=((i+1:Nat):Int):=by rw [cX (by omega) (by omega)];omega
theorem oX (h:i<=4611686018427387904):IntKind.wrap .i64 (((i+1:Nat):Int) - 1)=(i:Int):=by rw [cX (by omega) (by omega)];omega
theorem eA {i n:Nat} (h:i<n):((i:Int) <(n:Int)):=by omega
theorem aV {i n:Nat} (h:i<n):ae (i:Int) n=true:=bp (by omega) (by omega)
abbrev HK:Int×Int->Int:=λx=>x.1
abbrev CK:D2->Int:=λx=>x.1
abbrev IK:D1->Int:=λx=>x.1
abbrev PK:D3->Int:=λx=>x.1
abbrev RK:dC->Int:=λx=>x.1
abbrev KK:D0->Int:=λx=>x.1
section
variable {α:Type} (k:α->Int)
def bB (l:List α):=l.Pairwise λa b=>k a<k b
def bj (q:Int) (l:List α):=(l.takeWhile λx=>decide (k x<q)).length
def b7 (q:Int) (l:List α):=l.takeWhile λx=>decide (k x<q)
def bQ (q:Int) (l:List α):=l.dropWhile λx=>decide (k x<q)
def aN (q:Int) (l:List α):=l.any λx=>decide (k x=q)
variable {k}
theorem eQ (q) (l):b7 k q l++bQ k q l=l:=List.takeWhile_append_dropWhile
theorem zA :∀x ∈ b7 k q l,k x<q:=λx a=>by
 have:=gU.1 (List.all_takeWhile (p:=λx=>decide (k x<q)) (l:=l)) x a;simpa using this
theorem wq:∀{q} {l},bB k l->∀x ∈ bQ k q l,q<=k x
 |q,[],_,x,j=>by simp [bQ] at j
 |q,a::r,h,x,j=>by
  have C:=eO.1 h;unfold bQ at j;rw [List.dropWhile_cons] at j;by_cases b:k a<q
  ·rw [aF b] at j;exact wq C.2 x j
  ·rw [aq b] at j;rcases a8.1 j with rfl|j
   ·omega
   ·have:=C.1 x j;omega
theorem K6 (q) (l):l.take (bj k q l)=b7 k q l:=by
 have:=DA (l₁:=b7 k q l) (l₂:=bQ k q l) rfl;rw [eQ] at this;exact this
theorem La (q) (l):l.drop (bj k q l)=bQ k q l:=by
 have:=List.drop_left' (l₁:=b7 k q l) (l₂:=bQ k q l) rfl;rw [eQ] at this;exact this
theorem ph (q) (l):bj k q l<=l.length:=by
 have:=bz List.length (eQ (k:=k) q l);rw [cq] at this;unfold bj;unfold b7 at this;omega
theorem tp (q) (l) (x):de l (bj k q l) x=b7 k q l++x::bQ k q l:=by
 unfold de;rw [K6,La]
theorem mM (h:bB k l) {i j} (a:i<j) (b:j<l.length):k (l[i]'(by omega)) <k l[j]:=yM.1 h i j (by omega) b a
theorem ad4 (h:bB k l):aN k q l=match bQ k q l with| []=>false|x::_=>decide (k x=q):=by
 have e:=eQ (k:=k) q l;have c:=wq (q:=q) h;have d:= @zA _ k q l;unfold aN
 conv=>lhs;rw [<-e]
 rw [List.any_append]
 have f:(b7 k q l).any (λx=>decide (k x=q))=false:=by
  rw [nL];intro x b;have:=d x b;simp;omega
 rw [f,vL];generalize bQ k q l=H at*
 cases H with
 |nil=>rfl
 |cons x r=>
  rw [List.any_cons];by_cases b:k x=q
  ·simp [b]
  ·simp only [b,aK,vL];rw [nL];intro y g;have a:=(kE.1 (e ▸ h)).2.1;have i:=(eO.1 a).1 y g;have j:=c x (by simp);simp;omega
theorem pr (h:bB k l) (a:aN k q l=true):∃x r,bQ k q l=x::r/\k x=q/\bj k q l<l.length/\l[bj k q l]?=some x:=by
 rw [ad4 h] at a;have e:=eQ (k:=k) q l
 cases b:bQ k q l with
 |nil=>rw [b] at a;simp at a
 |cons x r=>
  rw [b] at a;simp only [db] at a;have d:bj k q l=(b7 k q l).length:=rfl;have hlen:=bz List.length e;rw [b,cq,aW] at hlen;refine ⟨x,r,rfl,a,by omega,?_⟩;have c:(b7 k q l++x::r)[(b7 k q l).length]?=some x:=by simp
  rw [<-b,e] at c;exact c
theorem ad2 {l} (h:bB k l) (b:aN k q l=false):∀x ∈ bQ k q l,q<k x:=λx a=>by
 have d:=wq (q:=q) h x a;have c:x ∈ l:=by rw [<-eQ (k:=k) q l];exact lK _ a
 have:=nL.1 b x c;simp at this;omega
theorem wj (h:bB k l) (g:aN k q l=false) (j:k x=q):bB k (b7 k q l++x::bQ k q l):=by
 have e:=eQ (k:=k) q l;have c:=kE.1 (show (b7 k q l++bQ k q l).Pairwise _ by rw [e];exact h);refine kE.2 ⟨c.1,eO.2 ⟨λy i=>by have:=ad2 h g y i;omega,c.2.1⟩,λa f b d=> ?_⟩;rcases a8.1 d with rfl|d
 ·have:=zA a f;omega
 ·exact c.2.2 a f b d
theorem MS {t:Ty} {l:List t.den} {c:t.den->Int} {G:t.den->Option Int} (u:∀x ∈ l,G x=some (c x)) (E:l.length<=1099511627776) {n:Nat} (v:n<=l.length) (f:∀i (h:i<l.length),c l[i] <0↔i<n):
 aD (λ(d:(Int×Int)->Option (Int×Bool)) (a:Int×Int)=>
 bif decide (a.1<a.2) then (
 bif ae (IntKind.wrap .i64 ((IntKind.wrap .u64 (IntKind.wrap .i64 (a.1+a.2))) / 2^ (min (1:Int).toNat 64))) l.length then
 (G (rd t l (IntKind.wrap .i64 ((IntKind.wrap .u64 (IntKind.wrap .i64 (a.1+a.2))) / 2^ (min (1:Int).toNat 64))))).bind λw=>
 bif decide (w<0) then (
 d ((IntKind.wrap .i64 ((IntKind.wrap .i64 ((IntKind.wrap .u64 (IntKind.wrap .i64 (a.1+a.2))) / 2^ (min (1:Int).toNat 64)))+1)),a.2))
 else (
 d (a.1,(IntKind.wrap .i64 ((IntKind.wrap .u64 (IntKind.wrap .i64 (a.1+a.2))) / 2^ (min (1:Int).toNat 64)))))
 else none)
 else (
 bif (decide (a.1<(l.length:Int))==true) then (
 bif ae a.1 l.length then
 (G (rd t l a.1)).bind λy=>
 some (a.1,decide (y=0))
 else none)
 else (
 some (a.1,false)))) (0,(l.length:Int))=some ((n:Int),decide (∃h:n<l.length,c l[n]=0)):=by
 refine bE (λx=>∃i j:Nat,x=((i:Int),(j:Int))/\i<=n/\n<=j/\j<=l.length) (λx=>x.2.toNat - x.1.toNat) (λ_=>((n:Int),decide (∃h:n<l.length,c l[n]=0))) ?_ (0,(l.length:Int)) ⟨0,l.length,rfl,gK _,v,aR _⟩;rintro _ ⟨i,j,rfl,z,A,r⟩ C e;simp only
 have g:IntKind.wrap .i64 ((IntKind.wrap .u64 (IntKind.wrap .i64 ((i:Int)+ (j:Int)))) / 2^ (min (1:Int).toNat 64))=(((i+j) / 2:Nat):Int):=by
  rw [cX (n:=(i:Int)+ (j:Int)) (by omega) (by omega),fY (by omega) (by omega)];have D:((i:Int)+ (j:Int)) / 2^ (min (1:Int).toNat 64)=((i:Int)+ (j:Int)) / 2:=rfl;rw [D,cX (by omega) (by omega)];omega
 rw [g];rcases jh i j with m|m
 ·have o:(i+j) / 2<l.length:=by omega
  simp only [eA m,al,ah,aV o,aU o,u _ (bt o),ai];by_cases q:c l[(i+j) / 2] <0
  ·have:=(f _ o).1 q;rw [aF q,ah,cx (by omega)];exact e _ ⟨_,j,rfl,by omega,A,r⟩ (by simp only [bu];omega)
  ·have:¬ (i+j) / 2<n:=λh=>q ((f _ o).2 h)
   rw [aq q,aa];exact e _ ⟨i,_,rfl,z,by omega,by omega⟩ (by simp only [bu];omega)
 ·have s:i=n:=by omega
  have p:¬ ((i:Int) <(j:Int)):=by omega
  subst s;simp only [p,aK,aa];by_cases b:i<l.length
  ·simp only [eA b,al,bJ,ah,aV b,aU b,u _ (bt b),ai,b,exists_true_left]
  ·have:¬ ((i:Int) <(l.length:Int)):=by omega
   simp only [this,aK,show (false==true)=false from rfl,aa];have:¬∃h:i<l.length,c l[i]=0:=λ⟨h,_⟩=>b h
   rw [aq this]
theorem K8 {l} (h:bB k l):∀i (b),k l[i] <q↔i<bj k q l:=by
 intro i b;have e:=eQ (k:=k) q l;have f:bj k q l=(b7 k q l).length:=rfl;constructor
 ·intro g;apply jL;intro j
  have c:=by
   have a:l[i]?=(b7 k q l++bQ k q l)[i]?:=by rw [e]
   rw [JO (by omega),cK b] at a;exact kG a.symm
  have:=wq (q:=q) h _ c;omega
 ·intro d;have a:l[i]?=(b7 k q l++bQ k q l)[i]?:=by rw [e]
  rw [DI (by omega),cK b] at a;exact zA _ (kG a.symm)
theorem E5 :cT a b<0↔a<b:=by
 unfold cT;by_cases h:a<b
 ·simp [h]
 ·by_cases c:b<a <;>simp [h,c]
theorem pz :0<=cT a b↔b<=a:=by
 have:= @E5 a b;omega
theorem zU :cT a b=0↔a=b:=by
 unfold cT;by_cases h:a<b
 ·simp [h];omega
 ·by_cases c:b<a
  ·simp [h,c];omega
  ·simp [h,c];omega
theorem L0 (h:bB k l):aN k q l=decide (∃a,cT (k l[bj k q l]) q=0):=by
 cases b:aN k q l with
 |true=>
  obtain ⟨x,r,_,e,c,d⟩:=pr h b;rw [cK c] at d;symm;exact aF ⟨c,zU.2 (by rw [mA d];exact e)⟩
 |false=>
  symm;refine aq ?_;rintro ⟨a,f⟩;have:=nL.1 b _ (bt a);simp only [db] at this;exact this (zU.1 f)
end
theorem tx {k} {l} {q} {G:t.den->Option Int} (d:∀x,G x=some (cT (k x) q)) (e:l.length<=1099511627776) (h:bB k l):
 aD (λ(b:(Int×Int)->Option (Int×Bool)) (a:Int×Int)=>
 bif decide (a.1<a.2) then (
 bif ae (IntKind.wrap .i64 ((IntKind.wrap .u64 (IntKind.wrap .i64 (a.1+a.2))) / 2^ (min (1:Int).toNat 64))) l.length then
 (G (rd t l (IntKind.wrap .i64 ((IntKind.wrap .u64 (IntKind.wrap .i64 (a.1+a.2))) / 2^ (min (1:Int).toNat 64))))).bind λf=>
 bif decide (f<0) then (
 b ((IntKind.wrap .i64 ((IntKind.wrap .i64 ((IntKind.wrap .u64 (IntKind.wrap .i64 (a.1+a.2))) / 2^ (min (1:Int).toNat 64)))+1)),a.2))
 else (
 b (a.1,(IntKind.wrap .i64 ((IntKind.wrap .u64 (IntKind.wrap .i64 (a.1+a.2))) / 2^ (min (1:Int).toNat 64)))))
 else none)
 else (
 bif (decide (a.1<(l.length:Int))==true) then (
 bif ae a.1 l.length then
 (G (rd t l a.1)).bind λg=>
 some (a.1,decide (g=0))
 else none)
 else (
 some (a.1,false)))) (0,(l.length:Int))=some ((bj k q l:Int),aN k q l):=by
 rw [MS (c:=λx=>cT (k x) q) (λx _=>d x) e (ph q l) (λi j=>by rw [E5];exact K8 h i j),L0 h]
theorem NT (x) (q):rf (x,q)=some (cT x.1 q):=by unfold rf;rw [pM];rfl
theorem N7 (x) (q):rk (x,q)=some (cT x.1 q):=by unfold rk;rw [pM];rfl
theorem Oi (x) (q):rq (x,q)=some (cT x.1 q):=by unfold rq;rw [pM];rfl
theorem N4 (x) (q):ri (x,q)=some (cT x.1 q):=by unfold ri;rw [pM];rfl
theorem Ou (x) (q):rE (x,q)=some (cT x.1 q):=by unfold rE;rw [pM];rfl
theorem Oq (x) (q):rD (x,q)=some (cT x.1 q):=by unfold rD;rw [pM];rfl
theorem NW (a:l.length<=1099511627776) (h:bB HK l):tN (l,q,())=some ((bj HK q l:Int),aN HK q l):=by
 unfold tN;dsimp -beta -proj only;exact tx (t:=Y0) (k:=HK) (G:=λx=>rf (x,q)) (λx=>NT x q) a h
theorem N8 (a:l.length<=1099511627776) (h:bB CK l):xa (l,q,())=some ((bj CK q l:Int),aN CK q l):=by
 unfold xa;dsimp -beta -proj only;exact tx (t:=Y8) (k:=CK) (G:=λx=>rk (x,q)) (λx=>N7 x q) a h
theorem af9 (a:l.length<=1099511627776) (h:bB IK l):AH (l,q,())=some ((bj IK q l:Int),aN IK q l):=by
 unfold AH;dsimp -beta -proj only;exact tx (t:=bH) (k:=IK) (G:=λx=>rq (x,q)) (λx=>Oi x q) a h
theorem agk (a:l.length<=1099511627776) (h:bB PK l):AT (l,q,())=some ((bj PK q l:Int),aN PK q l):=by
 unfold AT;dsimp -beta -proj only;exact tx (t:=bF) (k:=PK) (G:=λx=>ri (x,q)) (λx=>N4 x q) a h
theorem agQ (a:l.length<=1099511627776) (h:bB RK l):Bo (l,q,())=some ((bj RK q l:Int),aN RK q l):=by
 unfold Bo;dsimp -beta -proj only;exact tx (t:=cQ) (k:=RK) (G:=λx=>rE (x,q)) (λx=>Ou x q) a h
theorem agi (a:l.length<=1099511627776) (h:bB KK l):AO (l,q,())=some ((bj KK q l:Int),aN KK q l):=by
 unfold AO;dsimp -beta -proj only;exact tx (t:=bA) (k:=KK) (G:=λx=>rD (x,q)) (λx=>Oq x q) a h
end Go.Proofs.YtkihadlgknhpkaaGreatDoor.T
