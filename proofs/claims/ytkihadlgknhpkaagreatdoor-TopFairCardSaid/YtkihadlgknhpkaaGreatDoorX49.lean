/- Part 49: lemmas that the last text needs. -/
import Derived.Test.YtkihadlgknhpkaaGreatDoorX48
import Derived.Test.YtkihadlgknhpkaaGreatDoorX43
set_option linter.all false
set_option autoImplicit true
set_option relaxedAutoImplicit true
namespace Go.Proofs.YtkihadlgknhpkaaGreatDoor.T.Se
open Go Go.Fw Go.Proofs RB
set_option maxRecDepth 20000
structure SeOk (s:ir):Prop where
 buf:cd s.2.1
 fr:∀f ∈ s.2.2.2.1,cd f
 st:s=cL\/(OkS s/\s.1=true)
theorem SeOk.Ns:SeOk cL:=⟨by simp [cL,cd],by simp [cL],.inl rfl⟩
theorem SeOk.up:SeOk fp:=⟨by simp [fp,cd],by simp [fp],.inr ⟨Nl,rfl⟩⟩
theorem SeOk.few (k:SeOk s):s.2.2.2.1.length<=8:=by
 rcases k.st with h|h
 ·rw [h];simp [cL]
 ·exact h.1.fr
theorem SeOk.len (k:SeOk s):s.2.2.2.1.length<=9223372036854775807:=by have:=k.few;omega
theorem SeOk.tD (k:SeOk s):dN s=if s.1=true then 0 else 14:=by
 rcases k.st with h|h
 ·rw [h];exact Nk
 ·rw [aw h.2];exact Fj h.1 h.2
theorem SeOk.live (k:SeOk s) (h:s.1=true):OkS s:=by
 rcases k.st with a|a
 ·rw [a] at h;cases h
 ·exact a.1
theorem SeOk.chk (k:SeOk s):kZ s=0:=by
 rcases k.st with h|h
 ·rw [h];exact Nq
 ·have:=Fj h.1 h.2;unfold dN at this;rw [aw (.inr h.2)] at this;exact this
theorem SeOk.f26 (k:SeOk s):ub s=some 0:=by rw [Nx k.buf k.len,k.chk]
theorem afs:∀ (n) (l) (b),l.length<=n->cd l->∀f ∈ (fq b l).2,f ∈ b\/cd f:=by
 intro n
 induction n with
 |zero=>
  intro l b h d f a;have:l= []:=jK.1 (by omega);subst this;rw [Fl] at a;exact .inl a
 |succ n e=>
  intro l b h d f a;rw [fq] at a;split at a
  ·exact .inl a
  ·split at a
   ·exact .inl a
   ·split at a
    ·exact .inl a
    ·split at a
     ·rename_i c1 g i j;rcases e _ _ (by rw [gL];omega) (z7 d _) f a with c|c
      ·rcases cz.1 c with c|c
       ·exact .inl c
       ·right;simp only [eP] at c;subst c;exact z7 (afy d _) _
      ·exact .inr c
     ·exact .inl a
theorem afx (a:cd r.1) (c:cd b):∀f ∈ (eT r b).2.1,cd f:=by
 unfold eT;split
 ·simp
 ·split
  ·simp
  ·split
   ·simp
   ·intro f d;rcases afs _ (r.1++b) [] (aR _) (Fo a c) f d with h|h
    ·simp at h
    ·exact h
theorem No (k:SeOk s) (c:cd b) (h:(kY s b).2.2=0):SeOk (kY s b).1:=by
 unfold kY at h ⊢;split at h
 ·exact absurd h (by assumption)
 ·rename_i d;rw [ak d];split at h
  ·exact absurd h (by assumption)
  ·rename_i e;rw [ak e];split at h
   ·simp at h
   ·rename_i g;rw [ak g];obtain ⟨ok,i⟩:=qV (nM.1 d);obtain ⟨c1,j,m,l⟩:=Np (r:=(s.2.1,s.2.2.1)) k.buf c ok.rdr (nM.1 e);refine ⟨j,λf a=> ?_,.inr ⟨⟨by simp only [cq];omega,ok.out,λf a=> ?_,Nr c1,c1⟩,i⟩⟩
    ·rcases cz.1 a with a|a
     ·exact k.fr f a
     ·exact afx (r:=(s.2.1,s.2.2.1)) k.buf c f a
    ·rcases cz.1 a with a|a
     ·exact ok.each f a
     ·exact l f a
theorem afu (k:SeOk s) (h:s.1=true) (a:s.2.2.2.1=f::r):pB s=(f,(s.1,s.2.1,s.2.2.1,r,s.2.2.2.2),0)/\SeOk (s.1,s.2.1,s.2.2.1,r,s.2.2.2.2)/\cd f:=by
 have ok:=k.live h;refine ⟨?_,⟨k.buf,λx b=>k.fr x (by rw [a];simp [b]),.inr ⟨⟨by have:=ok.fr;rw [a] at this;simp only [aW] at this;simp only;omega,ok.out,λx b=>ok.each x (by rw [a];simp [b]),ok.buf,ok.rdr⟩,h⟩⟩,k.fr f (by rw [a];simp)⟩;unfold pB;rw [k.tD,aw h,ak (by simp),a]
theorem afv (k:SeOk s) (h:s.1=true) (a:s.2.2.2.1= []):pB s=([],cL,5):=by
 unfold pB;rw [k.tD,aw h,ak (by simp),a]
theorem afw (k:SeOk s) (h:¬s.1=true):pB s=([],cL,14):=by
 unfold pB;rw [k.tD,ak h,aw (by decide)]
noncomputable def kW (s) (b):=if dN s≠0 then (cL,dN s) else if (dd b).2≠0 then (cL,(dd b).2) else
 if 16384<s.2.2.2.2.length+ (dd b).1.length then (cL,7) else ((s.1,s.2.1,s.2.2.1,s.2.2.2.1,s.2.2.2.2++ (dd b).1),0)
theorem afI (k:SeOk s) :xv (s,b)=some (kW s b):=by
 unfold xv kW;simp only [eF];rw [tE k.buf k.len,ai];by_cases a:dN s=0
 ·obtain ⟨ok,g⟩:=qV a;simp only [a,al,ax,aa,cU,dm,aH];rw [Nt,ai];by_cases c:(dd b).2=0
  ·simp only [c,al,ax,aa,dm,aH];have h:=Fk b;have i:=ok.out
   have e:IntKind.wrap .i64 ((s.2.2.2.2.length:Int)+ ((dd b).1.length:Int))=((s.2.2.2.2.length+ (dd b).1.length:Nat):Int):=by
    rw [RB.dO (by omega) (by omega)];omega
   rw [e];by_cases d:16384<s.2.2.2.2.length+ (dd b).1.length
   ·rw [aw d,aF (by omega),ah];rfl
   ·have f:(s.2.2.2.2.length+ (dd b).1.length)*1<=az:=by unfold az;omega
    rw [ak d,aq (by omega),aa,Aa ok,ai,aF f,ah]
  ·simp only [c,aK,bm,ah,iI,aI];rfl
 ·simp only [a,aK,bm,ah,cU,iI,aI];rfl
theorem afl (k:SeOk s) (h:(kW s b).2=0):SeOk (kW s b).1/\(kW s b).1.1=s.1/\(kW s b).1.2.2.2.1=s.2.2.2.1:=by
 unfold kW at h ⊢;split at h
 ·exact absurd h (by assumption)
 ·rename_i a;rw [ak a];split at h
  ·exact absurd h (by assumption)
  ·rename_i c;rw [ak c];split at h
   ·simp at h
   ·rename_i d;rw [ak d];obtain ⟨ok,e⟩:=qV (nM.1 a);exact ⟨⟨k.buf,k.fr,.inr ⟨⟨ok.fr,by simp only [cq];omega,ok.each,ok.buf,ok.rdr⟩,e⟩⟩,rfl,rfl⟩
theorem afm (k:SeOk s) (h:s.1=true) (a:b.length<=4096) (d:s.2.2.2.2.length<=12286):(kW s b).2=0:=by
 have c:=Fk b;unfold kW;rw [k.tD,aw h,ak (by simp),z6 a,ak (by simp),ak (by rw [z6 a] at c;omega)]
noncomputable def iW (s) (n):=if n<0 then ([],cL,1) else if dN s≠0 then ([],cL,dN s) else
 (s.2.2.2.2.take (if (s.2.2.2.2.length:Int) <n then (s.2.2.2.2.length:Int) else n).toNat,(s.1,s.2.1,s.2.2.1,s.2.2.2.1,s.2.2.2.2.drop (if (s.2.2.2.2.length:Int) <n then (s.2.2.2.2.length:Int) else n).toNat),0)
theorem afH (k:SeOk s) :xu (s,n)=some (iW s n):=by
 unfold xu iW;dsimp -beta -proj only;simp only [eF];by_cases a:n<0
 ·rw [aw a,aF a,ah];rfl
 ·rw [ak a,aq a,aa,tE k.buf k.len,ai];by_cases b:dN s=0
  ·obtain ⟨ok,f⟩:=qV b;simp only [b,al,ax,aa,cU,dm,aH];have g:=ok.out;rw [Aa ok,ai];generalize d:(if (s.2.2.2.2.length:Int) <n then (s.2.2.2.2.length:Int) else n)=m;have c:0<=m/\m<=s.2.2.2.2.length:=by rw [<-d];split <;>omega
   have e:ae m (s.2.2.2.2.length+1)=true:=bp c.1 (by omega);rw [e,ah,T.qS (by rw [dZ];omega),ai,ah]
  ·simp only [b,aK,bm,ah,cU,iI,aI];rfl
theorem afk (k:SeOk s) (h:(iW s n).2.2=0):SeOk (iW s n).2.1/\(iW s n).2.1.1=s.1/\(iW s n).2.1.2.2.2.1=s.2.2.2.1:=by
 unfold iW at h ⊢;split at h
 ·simp at h
 ·rename_i b;rw [ak b];split at h
  ·exact absurd h (by assumption)
  ·rename_i a;rw [ak a];obtain ⟨ok,c⟩:=qV (nM.1 a);exact ⟨⟨k.buf,k.fr,.inr ⟨⟨ok.fr,by simp only [gL];have:=ok.out;omega,ok.each,ok.buf,ok.rdr⟩,c⟩⟩,rfl,rfl⟩
theorem Nj (k:SeOk s) (h:s.1=true):(iW s 16384).2.2=0/\(iW s 16384).2.1.2.2.2.2= []:=by
 have ok:=k.live h;have:=ok.out;unfold iW;rw [ak (by decide),k.tD,aw h,ak (by simp)];refine ⟨rfl,?_⟩;simp only;split
 ·rw [bu,JX]
 ·rename_i h;rw [List.drop_eq_nil_iff];omega
theorem afi (k:SeOk s) (h:(oe s).2=0):(oe s).1=fp:=by
 unfold oe at h ⊢;rw [k.tD] at h ⊢;split <;>simp_all
end Go.Proofs.YtkihadlgknhpkaaGreatDoor.T.Se
namespace Go.Proofs.YtkihadlgknhpkaaGreatDoor.T
open Go Go.Fw Go.Proofs RB
open T.Se
set_option maxRecDepth 20000
abbrev YS:Ty:= .pair .bool cG
theorem adF (h:lx A=lx B):A=B:=by
 simp only [lx,oU,dn] at h;obtain ⟨i,j,k,l,m,n,o,p,q,a,b,c,d,e,f,g⟩:=h;exact aM i (aM j (aM k (aM l (aM m (aM n (aM o (aM p (aM q (aM a (aM b (aM c (aM d (aM e (aM f g))))))))))))))
theorem Xv {A} {i:Nat} (h:i<16):da A (i:Int) (bg t A (i:Int))=A:=by
 refine adF ?_;rw [DW _ _ i h,ze t A h,yL]
structure PlOk (p:cn):Prop where
 md:MdOk p.1
 se:∀s ∈ mj p.2,SeOk s
theorem PlOk.at (k:PlOk p) (h:0<=i/\i<16):SeOk (bg YS p.2 i):=k.se _ (KN (t:=YS) h)
theorem BN (k:PlOk p):rK p=some 0:=by
 unfold rK;refine fA 16 (λi:Nat=>((0:Int),(i:Int))) (λx:Int×Int=>x.2.toNat) (λi _=>by simp) _ (λi c a=> ?_) (λa=> ?_)
 ·have b:0<= (i:Int)/\(i:Int) <16:=⟨by omega,by omega⟩;simp only;rw [aF b.2,ah,nX b,ah]
  erw [(k.at b).f26]
  rw [ai,aF rfl,cx (by omega)];rfl
 ·simp only;rw [aq (by decide),aa,AX k.md];rfl
def mI (mv:fc):=decide (mv.1=6) || (decide (1<=mv.1) && (decide (mv.1<6) && (decide (0<=mv.2.1) && decide (mv.2.1<16))))
theorem NU (mv):Au mv=some (mI mv):=by
 unfold Au mI;cases decide (mv.1=6) <;>cases decide (1<=mv.1) <;>cases decide (mv.1<6) <;>cases decide (0<=mv.2.1) <;>cases decide (mv.2.1<16) <;>rfl
structure MvTy (mv:fc):Prop where
 data:cd mv.2.2.2.1
 hp:HpTy mv.2.2.2.2
theorem MH:ChTy (0,0,0,0,0,[],false):=⟨bN,bN,bN,bN,bN,by simp⟩
theorem LZ (c a) (b:ay a) (l):HpTy (c,a,0,0,false,0,0,0,0,0,[],false,l):=⟨b,bN,bN,MH⟩
def qR (mv:fc) (e:Int):=if mv.1=6/\e=0 then tu mv.2.2.2.2 else 0
theorem PlOk.upd (k:PlOk p) (b:MdOk m) (h:0<=i/\i<16) (c:SeOk s):PlOk (m,da p.2 i s):=
 ⟨b,λx a=>by
  rcases zy h a with rfl|a
  ·exact c
  ·exact k.se x a⟩
def fQ (p:cn) (mv:fc) (v:cn) (o:bZ):=PlOk v/\aP v.1.1.1.1=aP p.1.1.1.1+qR mv o.1/\(mv.1=6->o.1=0->mv.2.2.2.2.1=3->ChOk (lW mv.2.2.2.2))
theorem fQ.stay (k:PlOk p) (a:e≠0) :fQ p mv p (e,o):=
 ⟨k,by unfold qR;rw [ak (λh=>a h.2)];omega,λ_ h=>absurd h a⟩
theorem fQ.go (k:PlOk v) (a:mv.1≠6) (b:aP v.1.1.1.1=aP p.1.1.1.1):fQ p mv v o:=
 ⟨k,by unfold qR;rw [ak (λh=>a h.1),b];omega,λh=>absurd h a⟩
theorem EC (k:PlOk p) (t:mv.1=4) (e:0<=mv.2.1/\mv.2.1<16):
 ∃v o,jq (p,mv)=some (v,o)/\fQ p mv v o/\((bg YS p.2 mv.2.1).1=true->(bg YS p.2 mv.2.1).2.2.2.2.length<=12286->
  ((bg YS p.2 mv.2.1).2.2.2.1= []->v=p/\o.1=5)/\(∀f r,(bg YS p.2 mv.2.1).2.2.2.1=f::r->o.1=0/\(∃m,pL (p.1,mv.2.1,f)=some (m,o.2.2,0))/\∃s,v.2=da p.2 mv.2.1 s/\s.1=true/\s.2.2.2.1=r)):=by
 have g:=nX e;have a:=k.at e;have u:mv.1≠6:=by omega
 generalize w:bg YS p.2 mv.2.1=s at a ⊢;have x:=w;unfold jq;dsimp -beta -proj only;simp only [bC];rw [aq (show ¬mv.1=0 by omega),aa,aq (show ¬mv.1=1 by omega),aa,aq (show ¬mv.1=2 by omega),aa,aq (show ¬mv.1=3 by omega),aa,aF t,ah,g];simp only [ah,x];have c:=afJ a.buf a.len;by_cases d:s.1=true
 ·cases j:s.2.2.2.1 with
  |nil=>
   rw [afv a d j] at c
   erw [c]
   refine ⟨p,(5,0,[]),?_,fQ.stay k (by decide),λ_ _=>⟨λ_=>⟨rfl,rfl⟩,λf r h=>by cases h⟩⟩;rfl
  |cons f r=>
   obtain ⟨y,i,z⟩:=afu a d j;rw [y] at c
   erw [c]
   rw [ai];simp only [al,ax,aa];by_cases l:s.2.2.2.2.length<=12286
   ·rw [aq (show ¬ (12286:Int) <(s.2.2.2.2.length:Int) by omega),aa];obtain ⟨v,rep,n,A,a3,a4,a5⟩:=aeX k.md (b:=f) z e;rw [n,ai];simp only [al,ax,aa];have q:(kW (s.1,s.2.1,s.2.2.1,r,s.2.2.2.2) rep).2=0:=afm i d a5 l;have B:xv ((s.1,s.2.1,s.2.2.1,r,s.2.2.2.2),rep)=some (kW (s.1,s.2.1,s.2.2.1,r,s.2.2.2.2) rep):=afI i;obtain ⟨b1,C,D⟩:=afl i q
    erw [B]
    rw [ai,q];refine ⟨(v,da p.2 mv.2.1 (kW (s.1,s.2.1,s.2.2.1,r,s.2.2.2.2) rep).1),(0,0,rep),rfl,fQ.go (k.upd A e b1) u a3,λ_ _=>⟨λh=>(by cases h),λE F h=> ?_⟩⟩;cases h;exact ⟨rfl,⟨v,n⟩,_,rfl,by rw [C];exact d,D⟩
   ·rw [aF (show (12286:Int) <(s.2.2.2.2.length:Int) by omega),ah];exact ⟨p,(7,0,[]),rfl,fQ.stay k (by decide),λ_ h=>absurd h l⟩
 ·rw [afw a d] at c
  erw [c]
  exact ⟨p,(14,0,[]),rfl,fQ.stay k (by decide),λh=>absurd h d⟩
theorem EB (k:PlOk p) (g:mv.1=5) (d:0<=mv.2.1/\mv.2.1<16):
 ∃v o,jq (p,mv)=some (v,o)/\fQ p mv v o/\((bg YS p.2 mv.2.1).1=true->mv.2.2.1=16384->o.1=0/\∃s,v.2=da p.2 mv.2.1 s/\s.1=true/\s.2.2.2.1=(bg YS p.2 mv.2.1).2.2.2.1/\s.2.2.2.2= []):=by
 have e:=nX d;have a:=k.at d;have h:mv.1≠6:=by omega
 generalize i:bg YS p.2 mv.2.1=s at a ⊢;have j:=i;unfold jq;dsimp -beta -proj only;simp only [bC];rw [aq (show ¬mv.1=0 by omega),aa,aq (show ¬mv.1=1 by omega),aa,aq (show ¬mv.1=2 by omega),aa,aq (show ¬mv.1=3 by omega),aa,aq (show ¬mv.1=4 by omega),aa,aF g,ah,e];simp only [ah,j];have l:xu (s,mv.2.2.1)=some (iW s mv.2.2.1):=afH a
 erw [l]
 rw [ai];by_cases b:(iW s mv.2.2.1).2.2=0
 ·obtain ⟨b1,m,n⟩:=afk a b;rw [aF b];refine ⟨(p.1,da p.2 mv.2.1 (iW s mv.2.2.1).2.1),(0,0,(iW s mv.2.2.1).1),rfl,fQ.go (k.upd k.md d b1) h rfl,λc f=>⟨rfl,_,rfl,by rw [m];exact c,n,?_⟩⟩;rw [f];exact (Nj a c).2
 ·rw [aq b];refine ⟨p,((iW s mv.2.2.1).2.2,0,[]),rfl,fQ.stay k b,λc f=>absurd ?_ b⟩;rw [f];exact (Nj a c).1
theorem ady (k:PlOk p) (m:MvTy mv) (q:mI mv=true):∃v o,jq (p,mv)=some (v,o)/\fQ p mv v o:=by
 unfold mI at q;simp only [mE,bb,db] at q;by_cases r:mv.1=4
 ·obtain ⟨v,o,a,b,_⟩:=EC k r (by omega);exact ⟨v,o,a,b⟩
 by_cases u:mv.1=5
 ·obtain ⟨v,o,a,b,_⟩:=EB k u (by omega);exact ⟨v,o,a,b⟩
 by_cases g:mv.1=6
 ·unfold jq;dsimp -beta -proj only;simp only [bC];rw [aq (show ¬mv.1=0 by omega),aa,aq (show ¬mv.1=1 by omega),aa,aq (show ¬mv.1=2 by omega),aa,aq (show ¬mv.1=3 by omega),aa,aq r,aa,aq u,aa,aF g,ah,BV k.md m.hp,ai];by_cases d:(jl p.1 mv.2.2.2.2).2.2=0
  ·obtain ⟨v,t,h⟩:∃v t,jl p.1 mv.2.2.2.2=(v,t,0):=⟨_,_,aM rfl (aM rfl d)⟩;obtain ⟨a,b,c⟩:=EO k.md m.hp h;rw [h];exact ⟨(v,p.2),(0,0,[]),rfl,⟨a,k.se⟩,by unfold qR;rw [aw ⟨g,rfl⟩];exact b,λ_ _=>c⟩
  ·rw [aq d];exact ⟨p,((jl p.1 mv.2.2.2.2).2.2,0,[]),rfl,fQ.stay k d⟩
 have i:0<=mv.2.1/\mv.2.1<16:=by omega
 have f:=nX i;have e:=k.at i;generalize z:bg YS p.2 mv.2.1=s at e;have n:=z;unfold jq;dsimp -beta -proj only;simp only [bC];rw [aq (show ¬mv.1=0 by omega),aa];by_cases w:mv.1=1
 ·rw [aF w,ah,f];simp only [ah,n];have j:=Nz e.buf e.len
  erw [j]
  rw [ai];by_cases d:(oe s).2=0
  ·rw [aF d];refine ⟨(p.1,da p.2 mv.2.1 (oe s).1),(0,0,[]),rfl,fQ.go (k.upd k.md i ?_) g rfl⟩;rw [afi e d];exact SeOk.up
  ·rw [aq d];exact ⟨p,((oe s).2,0,[]),rfl,fQ.stay k d⟩
 rw [aq w,aa];by_cases x:mv.1=2
 ·rw [aF x,ah,f];simp only [ah,n];have j:=afK e.buf e.len
  erw [j]
  rw [ai];by_cases d:dN s=0
  ·have A:IntKind.wrap .u64 mv.2.1=mv.2.1:=RB.ln (by omega) (by omega);have y:=LZ 10 mv.2.1 ⟨by omega,by omega⟩ [];simp only [d,al,ax,aa];rw [A,BV k.md y,ai];by_cases l:(jl p.1 (10,mv.2.1,0,0,false,0,0,0,0,0,[],false,[])).2.2=0
   ·obtain ⟨v,t,h⟩:∃v t,jl p.1 (10,mv.2.1,0,0,false,0,0,0,0,0,[],false,[])=(v,t,0):=⟨_,_,aM rfl (aM rfl l)⟩;obtain ⟨a,b,c⟩:=EO k.md y h;rw [h];exact ⟨(v,da p.2 mv.2.1 cL),(0,0,[]),rfl,fQ.go (k.upd a i SeOk.Ns) g (by rw [b];simp [tu])⟩
   ·rw [aq l];exact ⟨p,(_,0,[]),rfl,fQ.stay k l⟩
  ·simp only [aq d,bm,ah];exact ⟨p,(dN s,0,[]),rfl,fQ.stay k d⟩
 rw [aq x,aa];have l:mv.1=3:=by omega
 rw [aF l,ah,f];simp only [ah,n];have j:ur (s,mv.2.2.2.1)=some (kY s mv.2.2.2.1):=Ny e.buf m.data e.len
 erw [j]
 rw [ai];by_cases d:(kY s mv.2.2.2.1).2.2=0
 ·rw [aF d];exact ⟨(p.1,da p.2 mv.2.1 (kY s mv.2.2.2.1).1),(0,(kY s mv.2.2.2.1).2.1,[]),rfl,fQ.go (k.upd k.md i (No e m.data d)) g rfl⟩
 ·rw [aq d];exact ⟨p,((kY s mv.2.2.2.1).2.2,0,[]),rfl,fQ.stay k d⟩
theorem Ni (k:SeOk s):s.2.1.length<=1000000/\s.2.2.2.1.length<=8/\s.2.2.2.2.length<=1000000/\∀f ∈ s.2.2.2.1,f.length<=1000000:=by
 rcases k.st with h|h
 ·rw [h];simp [cL]
 ·exact ⟨b9 h.1.buf (by decide),h.1.fr,b9 h.1.out (by decide),λf a=>b9 (h.1.each f a) (by decide)⟩
noncomputable def dL (p:cn):cn:=if (nW p.1.1.1 p.1.1.1.2.1).2=0 then ((((nW p.1.1.1 p.1.1.1.2.1).1,p.1.1.2),p.1.2),p.2) else p
theorem afX (k:PlOk p):As p=some (dL p):=by
 have D:=k.md.gd.wl;unfold As;dsimp -beta -proj only;refine fA 16 (λi=>((i:Int),p)) (λx=>x.1.toNat) (λi _=>by simp) _ (λi n a=> ?_) (λa=> ?_)
 ·have f:0<= (i:Int)/\(i:Int) <16:=⟨by omega,by omega⟩;have g:=k.at f;have c:da p.2 (i:Int) (bg YS p.2 (i:Int))=p.2:=Xv (t:=YS) n;generalize o:bg YS p.2 (i:Int)=s at g c;have q:=o;obtain ⟨r,E,z3,z4⟩:=Ni g;simp only [q];have c1:=qS r;have u:=qS z3;have v:uz s.2.2.2.1=some s.2.2.2.1:=NA (by omega);rw [aF f.2,ah,nX f,ah]
  erw [c1,ai,v,ai,u,ai]
  have go:∀ (B:(Int×List (List Int)->Option cn)->Int×List (List Int)->Option cn),(∀j,j<s.2.2.2.1.length->∀b:Int×List (List Int)->Option cn,B b ((j:Int),s.2.2.2.1)=b (((j+1:Nat):Int),s.2.2.2.1))->(∀b,B b ((s.2.2.2.1.length:Int),s.2.2.2.1)=a (((i+1:Nat):Int),p))->aD B (0,s.2.2.2.1)=a (((i+1:Nat):Int),p):=λB h l=>by
   cases m:a (((i+1:Nat):Int),p) with
   |some y=>exact fA _ (λj:Nat=>((j:Int),s.2.2.2.1)) (λx:Int×List (List Int)=>x.1.toNat) (λj _=>by simp) y h (λb=>by rw [l,m])
   |none=>exact EI _ (λj:Nat=>((j:Int),s.2.2.2.1)) h (λb=>by rw [l,m])
  refine go _ (λj d b=> ?_) (λb=> ?_)
  ·have w:cg s.2.2.2.1[j]=some s.2.2.2.1[j]:=qS (z4 _ (bt d));simp only;rw [aF (eA d),ah,aV d,ah,aU (t:=aY) d]
   erw [w]
   rw [ai,ah,cx (by omega),bu,yL d]
  ·simp only;rw [aq (by omega),aa,ah,cx (by omega)]
   erw [c]
 ·simp only;rw [aq (by decide),aa];have z:=LZ 5 0 bN p.1.1.1.2.1;have A:oz (p.1,5,0,0,0,false,0,0,0,0,0,[],false,p.1.1.1.2.1)=_:=BV k.md z
  have C:jl p.1 (5,0,0,0,false,0,0,0,0,0,[],false,p.1.1.1.2.1)=jT p.1 (nW p.1.1.1 p.1.1.1.2.1):=by
   unfold jl;rw [ak (by simp),ak (by simp),ak (by simp),ak (by simp),aw rfl]
  rw [A,ai,C];unfold jT dL;by_cases e:(nW p.1.1.1 p.1.1.1.2.1).2=0
  ·rw [aw e,aw e];rfl
  ·rw [ak e,ak e,aq e];rfl
theorem zq (k:PlOk p):PlOk (dL p)/\aP (dL p).1.1.1.1=aP p.1.1.1.1/\(dL p).2=p.2:=by
 unfold dL;split
 ·rename_i h;obtain ⟨a,b⟩:=EH k.md.gd.wl (aM rfl h);exact ⟨⟨k.md.putW a,k.se⟩,by simp only;rw [b],rfl⟩
 ·exact ⟨k,rfl,rfl⟩
def dq:ir:=(false,[],false,[],[])
theorem pC (k:PlOk p) (f:MvTy mv) (b:mI mv=true) (h:jq (p,mv)=some (v,o)) (c:PlOk v):F9 (p,mv)=some (dL v,o,0):=by
 have d:ud (p,[mv])=some (dL v,[o],0):=by
  unfold ud;dsimp -beta -proj only;rw [BN k,ai];simp only [al,ax,aa];refine fA 1 (λi=>(([]:List bZ),(0:Int),(i:Int))) (λx=>x.2.2.toNat) (λi _=>by simp) _ (λi g a=> ?_) (λa=> ?_)
  ·have:i=0:=by omega
   subst this;simp only;rw [aF (show ((0:Nat):Int) <(([mv]:List fc).length:Int) by simp),ah,show ae ((0:Nat):Int) ([mv]:List fc).length=true from rfl,ah,show rd eL [mv] ((0:Nat):Int)=mv from rfl,NU,b,ai,ax,aa,cx (by decide)]
  ·simp only;rw [aq (show ¬ ((1:Nat):Int) <(([mv]:List fc).length:Int) by simp),aa,aq (show ¬ (4096:Int) <(([mv]:List fc).length:Int) by simp),aa];have e:(([]:List bZ).length+1)*40<=az:=by unfold az;simp
   refine rY 2 (λq j=> ?_);obtain ⟨q,rfl⟩:∃n,q=n+2:=⟨q - 2,by omega⟩;have w1:IntKind.wrap .i64 ((0:Int)+1)=1:=RB.dO (by omega) (by omega);simp only [iter];rw [aF (show (0:Int) <(([mv]:List fc).length:Int) by simp),ah,show ae (0:Int) ([mv]:List fc).length=true from rfl,ah,show rd eL [mv] (0:Int)=mv from rfl,h,ai,aF e,ah,w1,aq (show ¬ (1:Int) <(([mv]:List fc).length:Int) by simp),aa];simp only;rw [afX c,ai];rfl
 unfold F9;simp only [bC];rw [d,ai];rfl
def DT:cn:=(lN,dq,dq,dq,dq,dq,dq,dq,dq,dq,dq,dq,dq,dq,dq,dq,dq)
theorem afR (k:PlOk p) (a:mI mv=false):F9 (p,mv)=some (DT,(0,0,[]),1):=by
 have b:ud (p,[mv])=some (DT,[],1):=by
  unfold ud;dsimp -beta -proj only;rw [BN k,ai];simp only [al,ax,aa];refine rY 1 (λq c=> ?_);obtain ⟨q,rfl⟩:∃n,q=n+1:=⟨q - 1,by omega⟩;simp only [iter];rw [aF (show (0:Int) <(([mv]:List fc).length:Int) by simp),ah,show ae (0:Int) ([mv]:List fc).length=true from rfl,ah,show rd eL [mv] (0:Int)=mv from rfl,NU,a,ai];rfl
 unfold F9;simp only [bC];rw [b,ai];rfl
theorem Mx (k:PlOk p) (c:MvTy mv):(∃e v o,F9 (p,mv)=some (v,o,e)/\e≠0)\/(mI mv=true/\∃v o,F9 (p,mv)=some (v,o,0)/\fQ p mv v o):=by
 cases b:mI mv with
 |false=>exact .inl ⟨1,_,_,afR k b,by decide⟩
 |true=>
  obtain ⟨v,o,h,a⟩:=ady k c b;obtain ⟨b1,d,f⟩:=zq a.1;exact .inr ⟨rfl,dL v,o,pC k c b h a.1,⟨b1,by rw [d];exact a.2.1,a.2.2⟩⟩
def dS:aQ:=([],[],[],[],1,[],1,0)
def eZ:cM:=(dS,[],[],[],[])
noncomputable def ij:cM->Nat->List Int->List cD->cM×List cD×Int
 |g,_,[],ts=>(g,ts,0)
 |g,i,x::r,ts=>if (gr g (gu g.2.2.1 ((i+1:Nat):Int) x) ((i+1:Nat):Int) x).2.2=0 then
  ij (gr g (gu g.2.2.1 ((i+1:Nat):Int) x) ((i+1:Nat):Int) x).1 (i+1) r (ts.set i (gr g (gu g.2.2.1 ((i+1:Nat):Int) x) ((i+1:Nat):Int) x).2.1)
  else (zG,[],(gr g (gu g.2.2.1 ((i+1:Nat):Int) x) ((i+1:Nat):Int) x).2.2)
theorem adm:WlOk dS where
 led:=⟨by simp [dS],by simp [dS],List.Pairwise.nil,by simp [dS,aP],mD⟩
 ledT:=by simp [dS]
 wts:=by simp [dS]
 inv:=⟨by simp [dS],by simp [dS],List.Pairwise.nil⟩
 invT:=by simp [dS]
 pay:=⟨by simp [dS],by simp [dS],List.Pairwise.nil⟩
 payT:=by simp [dS]
 fd:=⟨by simp [dS],by simp [dS],by decide,by simp [dS],by simp [dS]⟩
 nx1:=by simp [dS]
 nx2:=by simp [dS]
 lt:=by simp [dS]
 ag:=⟨by simp [dS],by simp [dS,cB]⟩
 tick:=bN
theorem zu:GdOk eZ:=⟨adm,Ar.TE,⟨by simp [eZ],List.Pairwise.nil,by simp [eZ],by simp [eZ]⟩,⟨by simp [eZ],by simp [eZ],List.Pairwise.nil⟩,by simp [eZ],⟨by simp [eZ],by simp [eZ],List.Pairwise.nil,by simp [eZ]⟩⟩
theorem Lr:∀ (l) (g) (i) (ts),GdOk g->(∀x ∈ l,ay x)->i+l.length<=1000->∀v t,ij g i l ts=(v,t,0)->GdOk v/\v.1=g.1/\t.length=ts.length
 | [],g,i,ts,k,_,_,v,t,h=>by
   simp only [ij,aL] at h;obtain ⟨rfl,rfl,_⟩:=h;exact ⟨k,rfl,rfl⟩
 |x::r,g,i,ts,k,j,n,v,t,h=>by
  simp only [aW] at n;unfold ij at h;split at h
  ·rename_i f;have o:ay ((i+1:Nat):Int):=⟨by omega,by omega⟩;obtain ⟨a,b⟩:=qT k (λm p=>tz k.rt o (j x (by simp)) p) (aM rfl (aM rfl f));obtain ⟨c,d,e⟩:=Lr r _ (i+1) _ a (λy q=>j y (by simp [q])) (by omega) v t h;exact ⟨c,by rw [d,b],by rw [e,DD]⟩
  ·rename_i f;simp only [aL] at h;exact absurd h.2.2 f
theorem afZ (s:∀x ∈ l,ay x) (E:l.length<=1000):Av l=some (ij eZ 0 l (List.replicate l.length fy)):=by
 have u:=eq_true (by omega);have v:(l.length*40<=az)=True:=eq_true (by unfold az;omega);have n:tF ()=some dS:=rfl;unfold Av;dsimp -beta -proj only;simp only [n,ai,al,bu,u,v,jM,ah,bC]
 have key:=bE (B:=(λ(e:(mY)->Option (cM×List cD×Int)) (d:mY)=>
 bif decide (d.2.2.1<(l.length:Int)) then (
 bif ae d.2.2.1 l.length then
 (oh (d.2.2.2.1,(IntKind.wrap .u64 ((IntKind.wrap .u64 d.2.2.1)+1)),(rd (.int .u64) l d.2.2.1))).bind λj=>
 bif (!decide (j.2.2=0)) then (
 some ((([],[],[],[],0,[],0,0),[],[],[],[]),[],j.2.2))
 else (
 bif ae d.2.2.1 d.2.2.2.2.length then
 e (d.1,d.2.1,(IntKind.wrap .i64 (d.2.2.1+1)),j.1,(d.2.2.2.2.set d.2.2.1.toNat j.2.1))
 else none)
 else none)
 else (
 some (d.2.2.2.1,d.2.2.2.2,0)))) (λx=>∃i,i<=l.length/\x.2.2.1=(i:Int)/\x.2.2.2.2.length=l.length/\GdOk x.2.2.2.1) (λx=>l.length - x.2.2.1.toNat)
  (λx=>ij x.2.2.2.1 x.2.2.1.toNat (l.drop x.2.2.1.toNat) x.2.2.2.2) ?_ (([]:List cD),0,0,eZ,(List.replicate l.length fy:List cD)) ⟨0,gK _,rfl,by simp,zu⟩
 ·exact key
 ·rintro ⟨a,b,F,g,ts⟩ ⟨i,G,p,o,k⟩ w f;simp only at p o k;subst p;simp only [bu];rcases jh i l.length with c|y
  ·have q:=s _ (bt c);have r:ay ((i+1:Nat):Int):=⟨by omega,by omega⟩;have w1:IntKind.wrap .u64 (i:Int)=(i:Int):=RB.ln (by omega) (by omega);have z:IntKind.wrap .u64 ((i:Int)+1)=((i+1:Nat):Int):=by rw [RB.ln (by omega) (by omega)];omega
   rw [aF (eA c),aV c,aU (t:= .int .u64) c,ah,ah,w1,z];have A:=NJ k r q;rw [A,ai,gT c]
   conv=>rhs;rw [ij]
   by_cases h:(gr g (gu g.2.2.1 ((i+1:Nat):Int) l[i]) ((i+1:Nat):Int) l[i]).2.2=0
   ·rw [aw h,aF h];simp only [ax,aa,o,aV c,ah];rw [cx (by omega)];have C:=(qT k (λm D=>tz k.rt r q D) (aM rfl (aM rfl h))).1;have:=f (a,b,((i+1:Nat):Int),(gr g (gu g.2.2.1 ((i+1:Nat):Int) l[i]) ((i+1:Nat):Int) l[i]).1,ts.set i (gr g (gu g.2.2.1 ((i+1:Nat):Int) l[i]) ((i+1:Nat):Int) l[i]).2.1) ⟨i+1,c,rfl,by simp [o],C⟩ (by simp only [bu];omega);rw [this];simp only [bu]
   ·rw [ak h,aq h];rfl
  ·have:i=l.length:=by omega
   subst this;rw [aq (by omega),aa,JX];rfl
def oW:=(dq,dq,dq,dq,dq,dq,dq,dq,dq,dq,dq,dq,dq,dq,dq,dq)
theorem NL (b:∀x ∈ l,ay x) (c:l.length<=1000):F8 l=some (if (ij eZ 0 l (List.replicate l.length fy)).2.2=0 then (((((ij eZ 0 l (List.replicate l.length fy)).1,kK),oW):cn),(ij eZ 0 l (List.replicate l.length fy)).2.1,(0:Int)) else (DT,[],(ij eZ 0 l (List.replicate l.length fy)).2.2)):=by
 unfold F8 FH;rw [afZ b c,ai];by_cases a:(ij eZ 0 l (List.replicate l.length fy)).2.2=0
 ·rw [aw a,aF a];rfl
 ·rw [ak a,aq a,bm,ah,ai];simp only [aq a,bm,ah];rfl
theorem Lq (k:GdOk g):PlOk ((g,kK),oW):=
 ⟨⟨k,λx a=>by
  have:=by
   simp only [mj,lx,kK,a8,eu,ep,vv] at a;exact a
  subst this
  exact ⟨by decide,bN⟩⟩,λs b=>by
  have:=by
   simp only [mj,lx,oW,a8,eu,ep,vv] at b;exact b
  subst this
  exact SeOk.Ns⟩
theorem Lp (d:∀x ∈ l,ay x) (f:l.length<=1000):∃p t e,F8 l=some (p,t,e)/\(e=0->PlOk p/\p.1.1.1=dS):=by
 rw [NL d f];by_cases c:(ij eZ 0 l (List.replicate l.length fy)).2.2=0
 ·rw [aw c];obtain ⟨a,b,_⟩:=Lr l eZ 0 (List.replicate l.length fy) zu d (by omega) _ _ (aM rfl (aM rfl c));exact ⟨_,_,_,rfl,λ_=>⟨Lq a,b⟩⟩
 ·rw [ak c];exact ⟨_,_,_,rfl,λh=>absurd h c⟩
def EY (m:fc):=bif (bif decide (3000<(m.2.2.2.1.length:Int)) then true else decide (20<(m.2.2.2.2.2.2.2.2.2.2.2.2.2.2.1.length:Int))) then true else decide (40<(m.2.2.2.2.2.2.2.2.2.2.2.2.2.2.2.2.length:Int))
theorem agC (f:M.length<=9223372036854775807) (n):∃b,Bf (M,n)=some b/\(b=true->(M.length:Int)<=n):=by
 unfold Bf;dsimp -beta -proj only;refine ⟨_,qM M.length (λi=>((false:Bool),(i:Int))) (λx=>x.2.toNat) (λi _=>by simp) (λi=>∀h,EY M[i]=false) (decide ((M.length:Int)<=n)) false (λi c _ a=> ?_) (λ_ a=> ?_),λh=> ?_⟩
 ·simp only;rw [aF (eA c),ah,aV c,ah,aU (t:=eL) c];show (bif EY M[i] then some false else a (false,IntKind.wrap .i64 ((i:Int)+1)))=_;have e:IntKind.wrap .i64 ((i:Int)+1)=((i+1:Nat):Int):=by rw [RB.dO (by omega) (by omega)];omega
  cases d:EY M[i] with
  |true=>rw [ak (λh=>absurd ((h c).symm.trans d) (by decide)),ah]
  |false=>rw [aw (λ_=>d),aa,e]
 ·simp only;rw [aq (by omega),aa]
 ·split at h
  ·exact nD h
  ·cases h
theorem NN (d:M.length<=9223372036854775807):∃b,F7 (l,M,50)=some b/\(b=true->l.length<=3/\M.length<=50):=by
 unfold F7;obtain ⟨e,g1,f⟩:=agC d 50;simp only;rw [g1,ai];by_cases a:0<(l.length:Int)
 ·by_cases c:(l.length:Int)<=3
  ·rw [aF a,ah,aF c];exact ⟨e,rfl,λg=>⟨by omega,by have:=f g;omega⟩⟩
  ·rw [aF a,ah,aq c];exact ⟨false,rfl,λh=>by cases h⟩
 ·rw [aq a];exact ⟨false,rfl,λh=>by cases h⟩
def wU (n):=IntKind.wrap .u64 n
theorem Kj (a b):wU (wU a+b)=wU (a+b):=by
 show (a % 2^64+b) % 2^64=(a+b) % 2^64;exact Int.emod_add_emod ..
theorem Ks {C:List D2} (e:∀c ∈ C,ChTy c) (ok:∀c ∈ C,ChOk c) (k:C.length<=1000) {d:Bool} {B:(oA->Option Bool)->oA->Option Bool}
 (f:∀j (h:j<C.length) (a:oA->Option Bool),mb C[j]=some (cZ C[j],0)->rd Y8 C (j:Int)=C[j]->ae (j:Int) C.length=true->decide ((j:Int) <(C.length:Int))=true->IntKind.wrap .i64 ((j:Int)+1)=((j+1:Nat):Int)->
  B a (d,wU (aP (C.take j)),(j:Int))=a (d,IntKind.wrap .u64 (wU (aP (C.take j))+cZ C[j]),((j+1:Nat):Int)))
 (g:∀a:oA->Option Bool,decide ((C.length:Int) <(C.length:Int))=false->B a (d,wU (aP C),(C.length:Int))=some true):aD B (d,0,0)=some true:=by
 refine fA C.length (λj:Nat=>(d,wU (aP (C.take j)),(j:Int))) (λx:oA=>x.2.2.toNat) (λj _=>by simp) true (λj b a=> ?_) (λa=> ?_)
 ·have i:mb C[j]=some (cZ C[j],0):=by rw [BR (e _ (bt b)),aw (ok _ (bt b))]
  rw [f j b a i (aU (t:=Y8) b) (aV b) (aF (eA b)) (cx (by omega))];show a (d,wU (wU _+_),_)=_;rw [Kj,show aP (C.take j)+cZ C[j]=aP (C.take (j+1)) by rw [fg b,qH];simp [aP]]
 ·rw [show aP (C.take C.length)=aP C by rw [fX]];exact g a (aq (by omega))
theorem af2 (K:∀x ∈ l,ay x) (L:∀m ∈ M,MvTy m) (N:M.length<=9223372036854775807) (O:F6 ()=some true):F3 (l,M)=some true:=by
 obtain ⟨P,Q,R⟩:=NN (l:=l) N;unfold F3;dsimp -beta -proj only;simp only;rw [O,ai,ax,aa,Q,ai]
 cases S:P with
 |false=>rfl
 |true=>
  obtain ⟨l3,T⟩:=R S;rw [ax,aa];obtain ⟨p0,t0,e0,U,V⟩:=Lp K (by omega);rw [U,ai];by_cases k:e0=0
  ·obtain ⟨W,X⟩:=V k;simp only [aF k,ax,aa];refine bE (λx=>∃i,i<=M.length/\x.2.2.1=(i:Int)/\PlOk x.2.2.2/\x.2.1=wU (aP x.2.2.2.1.1.1.1)) (λx=>M.length - x.2.2.1.toNat) (λ_=>true) ?_ _ ⟨0,gK _,rfl,W,by simp only;rw [X];rfl⟩;rintro ⟨b,s,i',p⟩ ⟨i,hi,g1,A,y⟩ B r;simp only at g1 A y ⊢;subst g1;rcases jh i M.length with a|Y
   ·have F:=L _ (bt a);rw [aF (eA a),aV a,aU (t:=eL) a,ah,ah];have C:IntKind.wrap .i64 ((i:Int)+1)=((i+1:Nat):Int):=cx (by omega);have next:∀ (G:Bool) (z:cn),PlOk z->B (G,wU (aP z.1.1.1.1),((i+1:Nat):Int),z)=some true:=λG z Z=>r _ ⟨i+1,a,rfl,Z,rfl⟩ (by simp only [bu];omega)
    rcases Mx A F with ⟨e,v,o,hd,he⟩| ⟨hm,v,o,hd,u,H,kc⟩
    ·rw [hd,ai];simp only [aq he,bm,ah,C];rw [y];exact next b p A
    ·rw [hd,ai];simp only [al,ax,aa];have D:=u.md.gd.wl.led;have w:=u.md.gd.wl.ledT;have I:v.1.1.1.1.length<=1000:=by have:=D.few;omega
     have d:=BN u;by_cases c:(M[i].1=6/\M[i].2.2.2.2.1=3)/\o.1=0
     ·rw [aF c.1.1,aF c.1.2,aF c.2];simp only [ah];have hc:=kc c.1.1 c.2 c.1.2;have f:mb (lW M[i].2.2.2.2)=some (cZ (lW M[i].2.2.2.2),0):=by rw [BR F.hp.ch,aw hc]
      unfold lW at f;rw [f,ai];simp only [al,ax,aa]
      have hsum:IntKind.wrap .u64 (s+cZ (lW M[i].2.2.2.2))=wU (aP v.1.1.1.1):=by
       show wU _=_;rw [y,Kj,H];unfold qR tu;rw [aw ⟨c.1.1,c.2⟩,aw c.1.2]
      unfold lW at hsum;refine Ks w D.ch I (λj hj E g n a3 a4 a5=> ?_) (λE e=> ?_)
      ·simp only [a4,a3,n,ah,g,ai,al,ax,aa,a5]
      ·simp only [e,aa,hsum,al,ax,bJ,ah,d,ai,C];exact next b v u
     ·have q:(bif (bif decide (M[i].1=6) then decide (M[i].2.2.2.2.1=3) else false) then decide (o.1=0) else false)=false:=by
       by_cases g:M[i].1=6
       ·by_cases n:M[i].2.2.2.2.1=3
        ·rw [aF g,aF n,ah,ah];exact aq (λh=>c ⟨⟨g,n⟩,h⟩)
        ·rw [aF g,aq n];rfl
       ·rw [aq g];rfl
      rw [q,aa]
      have hz:qR M[i] o.1=0:=by
       unfold qR;split
       ·rename_i J;unfold tu;rw [ak (λh=>c ⟨⟨J.1,h⟩,J.2⟩)]
       ·rfl
      have hsum:s=wU (aP v.1.1.1.1):=by rw [y,H,hz,vK]
      refine Ks w D.ch I (λj hj E g n a3 a4 a5=> ?_) (λE e=> ?_)
      ·simp only [a4,a3,n,ah,g,ai,al,ax,aa,a5]
      ·simp only [e,aa,<-hsum,al,ax,bJ,ah,d,ai,C];rw [hsum];exact next b v u
   ·have:i=M.length:=by omega
    subst this;rw [aq (by omega),aa]
  ·simp only [aq k,bm,ah]
def c1:D2:=(1,10,0,0,10,[],true)
def A1:List bZ:= [(5,-1,[1])]
def R1:List dC:= [(1,5,false)]
def w1:aQ:=([c1],[],[],[],2,[(1,6,1,10)],1,0)
def vQ:cD:=(1,[],0)
def q1:Rq:=(3,1,0,1,[],0,9,4,0,[],[])
def g1:cM:=(dS,A1,R1,[],[])
theorem Mt:aC 1= [1]:=by decide
theorem adz:Ar.iZ [] 1 5=(A1,vQ,0):=by
 unfold Ar.iZ;rw [Mt,Ar.ahn 5 [1] (by simp)];rfl
theorem MG:gr eZ (gu [] 1 5) 1 5=(g1,vQ,0):=by
 have e:gu [] 1 5=(R1,0):=rfl;unfold gr;rw [e];show (if (0:Int)=0 then (if (Ar.iZ [] 1 5).2.2=0 then _ else _) else _)=_;rw [aw rfl];simp only [eZ,adz,aI];rfl
theorem adn:F8 [5]=some (((g1,kK),oW),[vQ],0):=by
 have a:ij eZ 0 [5] (List.replicate ([5]:List Int).length fy)=(g1,[vQ],0):=by
  unfold ij;show (if (gr eZ (gu [] 1 5) 1 5).2.2=0 then ij (gr eZ (gu [] 1 5) 1 5).1 1 [] ([fy].set 0 (gr eZ (gu [] 1 5) 1 5).2.1) else _)=_;rw [MG];rfl
 rw [NL (by simp [ay]) (by simp),a];rfl
theorem Mc:GdOk g1:=by
 have a:ay 1:=⟨by decide,by decide⟩;have b:ay 5:=⟨by decide,by decide⟩;exact (qT zu (λm c=>tz zu.rt a b c) MG).1
theorem aeS:ChTy c1:=⟨⟨by decide,by decide⟩,⟨by decide,by decide⟩,bN,bN,⟨by decide,by decide⟩,by simp [c1]⟩
theorem MN:ChOk c1:=⟨by decide,by decide,by decide,.inl rfl,by simp [c1],List.Pairwise.nil,by decide,by decide⟩
theorem adL:LedOk [c1]:=⟨by decide,λc a=>by rw [eP] at a;subst a;exact MN,List.pairwise_singleton _ _,by decide,mD⟩
theorem adj:pj dS c1=(w1,0):=by
 have h:kN dS.1 c1=([c1],0):=by
  unfold kN;rw [ak (by rintro (h|h|h);exact h MN;cases h;exact h rfl),ak (show ¬aN CK c1.1 dS.1=true by decide),ak (show ¬dS.1.length=32 by decide)];exact aw adL
 unfold pj;rw [h];rfl
def gW:fc:=(6,0,0,[],3,0,0,0,false,1,10,0,0,10,[],true,[])
def p1:cn:=((g1,kK),oW)
def m2:cI:=((w1,A1,R1,[],[]),kK)
def p2:cn:=(m2,oW)
theorem zp:PlOk p1:=Lq Mc
theorem EA:MvTy gW:=⟨by simp [gW,cd],⟨bN,bN,bN,aeS⟩⟩
theorem L1:jl (g1,kK) gW.2.2.2.2=(m2,fy,0):=by
 unfold jl;rw [ak (by decide),ak (by decide),aw (by decide)];show jT (g1,kK) (pj dS c1)=_;rw [adj];rfl
theorem mv1:jq (p1,gW)=some (p2,0,0,[]):=by
 have a:oz ((g1,kK),gW.2.2.2.2)=some (jl (g1,kK) gW.2.2.2.2):=BV zp.md EA.hp;rw [L1] at a;unfold jq;dsimp -beta -proj only;simp only [bC];rw [aq (show ¬gW.1=0 by decide),aa,aq (show ¬gW.1=1 by decide),aa,aq (show ¬gW.1=2 by decide),aa,aq (show ¬gW.1=3 by decide),aa,aq (show ¬gW.1=4 by decide),aa,aq (show ¬gW.1=5 by decide),aa,aF (show gW.1=6 by decide),ah];show (oz ((g1,kK),gW.2.2.2.2)).bind _=_;rw [a];rfl
theorem sW:PlOk p2:=by
 obtain ⟨a,b⟩:=EO zp.md EA.hp L1;exact ⟨a,zp.se⟩
theorem do1:F9 (p1,gW)=some (p2,(0,0,[]),0):=pC zp EA (by decide) mv1 sW
def dU (k seat n:Int) (d:List Int):fc:=(k,seat,n,d,0,0,0,0,false,0,0,0,0,0,[],false,[])
theorem te (h:cd d):MvTy (dU k s n d):=⟨h,⟨bN,bN,bN,MH⟩⟩
def p3:cn:=(m2,da oW 0 fp)
theorem zo:PlOk p3:=sW.upd sW.md (i:=0) (by decide) SeOk.up
theorem Xw:F9 (p2,dU 1 0 0 [])=some (p3,(0,0,[]),0):=by
 refine pC sW (te (by simp [cd])) (by decide) ?_ zo;have a:rH dq=some (fp,0):=afj;unfold jq;dsimp -beta -proj only;simp only [bC];rw [aq (show ¬ (dU 1 0 0 []).1=0 by decide),aa,aF (show (dU 1 0 0 []).1=1 by decide),ah];show (rH dq).bind _=_;rw [a];rfl
theorem XJ:BJ ([5],(1,10,0,0,10,[],true),1)=some (p3,[vQ],true):=by
 unfold BJ;dsimp -beta -proj only;simp only;rw [adn,ai];show (fS (p1,gW)).bind _=_
 have a:fS (p1,gW)=some (p2,true):=by
  unfold fS;rw [do1];rfl
 have b:fS (p2,dU 1 0 0 [])=some (p3,true):=by
  unfold fS;rw [Xw];rfl
 rw [a,ai];refine rY 2 (λq c=> ?_);obtain ⟨q,rfl⟩:∃n,q=n+2:=⟨q - 2,by omega⟩;simp only [iter];rw [aF (show (0:Int) <1 by decide),ah];simp only [ah];show ((fS (p2,dU 1 0 0 [])).bind _)=_;rw [b];rfl
theorem nS:RqOk q1 where
 id:=⟨by decide,by decide⟩
 me:=⟨by decide,by decide⟩
 key:=bN
 tok:=⟨⟨by decide,by decide⟩,by simp [q1],⟨by decide,by decide⟩⟩
 a:=⟨by decide,by decide⟩
 n:=⟨by decide,by decide⟩
 till:=bN
 its:=λx b=>absurd b (by simp [q1,Rq.its])
 cvs:=λx b=>absurd b (by simp [q1,Rq.cvs])
 l1:=by simp [q1]
 l2:=by decide
 l3:=by decide
theorem pc:dR q1:=⟨by decide,by decide,by decide,by simp [q1]⟩
theorem Fe:fP q1=(4,0):=by
 unfold fP;rw [aw pc,aw (by decide)];rfl
theorem adB:wc (w1,A1,R1,[],[]) q1 0=(true,0):=by
 have b:Ar.mg A1 5 q1.tok=(true,0):=by
  rw [Ar.ahm (a:=A1) (key:=5) Mc.ar pc.2]
  have:Ar.fe A1 5 (aC q1.tok.1) (q1.tok.2.1.map bl)=some 0:=by
   have e:aC q1.tok.1= [1]:=Mt;rw [e];unfold Ar.fe;rw [aw (by decide)];rfl
  exact aM (@aF _ (_) ⟨0,rfl,this⟩) rfl
 have c:lP R1 q1.tok.1=(5,0):=rfl
 have d:Cv.mZ q1.tok.2.1 (nN (w1,A1,R1,[],[]) q1 0)=(true,0):=by
  unfold Cv.mZ nN;rw [Fe];rfl
 have f:nV [] q1.tok.1 q1.tok.2.1 4=(true,0):=rfl;unfold wc;simp only [Fe,c,b,d,f];simp
theorem adf:(fL w1 9 4).2=(1,0):=by
 rfl
noncomputable def b1:=iQ q1
theorem MZ:Bs b1:=acW nS pc
theorem MY:b1.length<=4096:=by have:=Em pc;unfold b1;omega
theorem ac8:dd b1=((dd b1).1,0):=by rw [z6 MY]
theorem EM:kY fp (dd b1).1=((true,[],false,[b1],[]),1,0):=by
 have a:fq [] (([]:List Int)++ (dd b1).1)=(([],false),[b1]):=by
  have:=afp (f:=b1) MY [] [];rw [ji] at this;rw [fJ,this,fJ,Fl]
 have c:=Fk b1
 have b:eT (fp.2.1,fp.2.2.1) (dd b1).1=(([],false),[b1],0):=by
  unfold eT;rw [ak (by simp [fp,gD]),ak (by omega),ak (by simp [fp])];show ((fq [] ([]++ (dd b1).1)).1,(fq [] ([]++ (dd b1).1)).2,0)=_;rw [a]
 unfold kY;rw [afn,ak (by decide),b,ak (by simp),ak (by simp [fp])];rfl
def sF (f:List Int):ir:=(true,[],false,[f],[])
noncomputable def p4:cn:=(m2,da (da oW 0 fp) 0 (sF b1))
theorem EU:cd (dd b1).1:=afo MZ
theorem ad3:F9 (p3,dU 3 0 0 (dd b1).1)=some (p4,(0,1,[]),0)/\PlOk p4:=by
 have a:=No SeOk.up EU (by rw [EM]);rw [EM] at a;have b:=zo.upd zo.md (i:=0) (by decide) a;refine ⟨pC zo (te EU) (by decide) ?_ b,b⟩;have c:=Ny SeOk.up.buf EU SeOk.up.len;rw [EM] at c;unfold jq;dsimp -beta -proj only;simp only [bC];rw [aq (show ¬ (dU 3 0 0 (dd b1).1).1=0 by decide),aa,aq (show ¬ (dU 3 0 0 (dd b1).1).1=1 by decide),aa,aq (show ¬ (dU 3 0 0 (dd b1).1).1=2 by decide),aa,aF (show (dU 3 0 0 (dd b1).1).1=3 by decide),ah];show (ur (fp,(dd b1).1)).bind _=_;rw [c];rfl
def o4:Rp:=(3,0,1,0,0,[],[],0,[],0)
theorem sR:RpOk o4/\okP o4:=KC (i:=3) ⟨by decide,by decide⟩ (mG (a:=1) ⟨by decide,by decide⟩ bN z4).1 (mG (a:=1) ⟨by decide,by decide⟩ bN z4).2
theorem aeY:∃v,pL (m2,0,b1)=some (v,gn o4,0):=by
 have k:MdOk m2:=sW.md;obtain ⟨e,v,t,i,u,b,j⟩:=Kf k (seat:=0) (by decide) nS pc;obtain ⟨f,l,h⟩:=j rfl;have m:fL m2.1.1 q1.a q1.n=((fL w1 9 4).1,1,0):=aM rfl adf;rw [m] at f l h;subst f;subst h;have wk:=b rfl;rw [Na];unfold zX;rw [AX k,ai];simp only [al,ax,aa];rw [aq (by decide),aq (by decide)];simp only [aa];have o:fM b1=(q1,0):=aeb nS pc;rw [Ov MZ,ai,o];simp only [al,ah];have p:=(On (g:=(w1,A1,R1,[],[])) sW.md.gd nS bN).trans (bz some adB);have c:IntKind.wrap .u64 (0:Int)=0:=rfl;rw [c];have d:rG ((m2.1.1,m2.1.2.1,m2.1.2.2.1,m2.1.2.2.2.1,[]),q1,0)=some (true,0):=p;rw [d,ai];simp only [al,ax,aa];rw [Oe nS,aw pc,ai];simp only [al,ax,aa];rw [aF (show q1.2.2.1=0 from rfl),ax,aa];unfold jS;rw [Fs nS,Fe,ai];simp only [al,ax,aa];have q:rm (m2.1.2.2.2.2,q1.2.2.2.1,q1.2.2.2.2.1,4)=some ([],0):=Od k.gd.ct nS.tok.1 nS.tok.2.1 (n:=4) ⟨by decide,by decide⟩;rw [q,ai];rw [aq (show ¬ (0:Int)=8 by decide),aa,aF rfl,ax,aa,i];unfold zJ;simp only [al,ax,aa]
 have r:iX (q1.1,0,1,0,0,[],[],0,[],0)=some (gn o4,0):=by
  show iX o4=_;rw [Az sR.1,aw sR.2]
 rw [r,ai];simp only [al,ax,aa];rw [aF (show q1.2.2.1=0 from rfl),ah];unfold j3;simp only [al,ax,aa];have s:MdOk ((v.1.1,v.1.2.1,v.1.2.2.1,v.1.2.2.2.1,[]),v.2):=⟨⟨wk.md.gd.wl,wk.md.gd.ar,wk.md.gd.rt,wk.md.gd.ky,wk.md.gd.kr,⟨by simp,by simp,List.Pairwise.nil,by simp⟩⟩,wk.md.sb⟩;rw [s.own];exact ⟨_,rfl⟩
theorem NQ:F6 ()=some true:=by
 obtain ⟨m,j⟩:=ad3;have n:bg YS p4.2 0=sF b1:=rfl;obtain ⟨v,o,p,q,r⟩:=EC j (mv:=dU 4 0 0 []) rfl (by decide);obtain ⟨_,s⟩:=r (by rfl) (by show (sF b1).2.2.2.2.length<=12286;simp [sF]);obtain ⟨t,⟨G,a⟩,u,w,x,_⟩:=s b1 [] rfl;obtain ⟨z,c⟩:=aeY
 have b:=by
  have:pL (p4.1,(dU 4 0 0 []).2.1,b1)=some (z,gn o4,0):=c;rw [this] at a;simp only [aB,aL] at a;exact a.2.1.symm
 have k:=q.1;obtain ⟨l,_,d⟩:=zq k;have A:=pC j (te (by simp [cd])) (by decide) p k;have e:bg YS (dL v).2 0=u:=by rw [d,w];rfl
 obtain ⟨y,H,B,C,t3⟩:=EB l (mv:=dU 5 0 16384 []) rfl (by decide);obtain ⟨f,_⟩:=t3 (by show (bg YS (dL v).2 0).1=true;rw [e];exact x) rfl;have D:=pC l (te (by simp [cd])) (by decide) B C.1;have g:tO q1=some (b1,0):=by rw [NX nS,aw pc];rfl
 have h:Aw (p3,0,q1)=some (dL y,gn o4,true):=by
  unfold Aw;simp only;rw [g,ai];simp only;rw [Nt,ac8,ai];simp only [al,ax,aa];have E:fS (p3,dU 3 0 0 (dd b1).1)=some (p4,true):=by unfold fS;rw [m];rfl
  have F:fS (dL v,dU 5 0 16384 [])=some (dL y,true):=by
   unfold fS;rw [D,ai,f];rfl
  show (fS (p3,dU 3 0 0 (dd b1).1)).bind _=_;rw [E,ai];simp only [ax,aa];show (F9 (p4,dU 4 0 0 [])).bind _=_;rw [A,ai];simp only [t,al,ax,aa];show (fS (dL v,dU 5 0 16384 [])).bind _=_;rw [F,ai,b]
 have i:xl (p3,0,q1)=some (dL y,o4,true):=by
  unfold xl;rw [h,ai];simp only;rw [Om (Ei sR.1 sR.2),L5 sR.1 sR.2];rfl
 unfold F6;dsimp -beta -proj only;simp only [bC];rw [XJ,ai];show (bif ae 0 1 then (xl (p3,0,q1)).bind _ else none)=_;rw [i];rfl
end Go.Proofs.YtkihadlgknhpkaaGreatDoor.T
