/- Part 42: lemmas that the last text needs. -/
import Derived.Test.YtkihadlgknhpkaaGreatDoorX36
import Derived.Test.YtkihadlgknhpkaaGreatDoorX41
set_option linter.all false
set_option autoImplicit true
set_option relaxedAutoImplicit true
namespace Go.Proofs.YtkihadlgknhpkaaGreatDoor.T.Ar
open Go Go.Fw Go.Proofs RB
set_option maxRecDepth 20000
abbrev Tm:=Int× (Int×List Int)
abbrev kT:Ty:= .pair (.int .u64) (.pair (.int .i64) .str)
abbrev tT:Ty:= .pair (.int .u64) (.pair (.int .i64) (.slice 5 (.int .u8)))
theorem Hl (k e):cj kT k e=decide (k=e):=by
 grind[cj]
def gE:Nat->List Tm->List (Tm×Int)
 |_,[]=> []
 |i,x::r=>(x,(i:Int))::gE (i+1) r
def ix:List Tm->Tm->Nat
 | [],_=>0
 |x::r,k=>if k=x then 0 else ix r k+1
theorem Hj:∀{a} {k},k ∈ a->ix a k<a.length
 | [],k,h=>by grind
 |x::r,k,h=>by
  simp only [ix];split
  ·simp
  ·rename_i j;have:=Hj (a:=r) (k:=k) ((a8.1 h).resolve_left j)
   grind
theorem Hk:∀{a} {k},k ∈ a->a[ix a k]?=some k
 | [],k,h=>by grind
 |x::r,k,h=>by
  simp only [ix];split
  ·grind
  ·rename_i j;simpa using Hk (a:=r) (k:=k) ((a8.1 h).resolve_left j)
theorem TG:∀{a} {k},k ∉ a->ix (a++ [k]) k=a.length
 | [],k,h=>by simp [ix]
 |x::r,k,h=>by
  simp only [a8,not_or] at h;simp only [dP,ix,ak h.1,TG h.2,aW]
theorem xJ (k):∀ (a) (i),dv kT (.int .i64) (gE i a) k=decide (k ∈ a)
 | [],i=>by simp [gE,dv]
 |x::r,i=>by
  simp only [gE,dv,Hl,xJ k r (i+1),a8]
  grind
theorem B8 (k):∀ (a) (i),k ∈ a->cC kT (.int .i64) 0 (gE i a) k=((i+ix a k:Nat):Int)
 | [],i,h=>by grind
 |x::r,i,h=>by
  simp only [gE,cC,Hl,ix];by_cases j:k=x
  ·grind
  ·simp only [j,aK,aa,aH];rw [B8 k r (i+1) ((a8.1 h).resolve_left j)]
   grind
theorem TF (k) (v):∀ (a) (i),k ∉ a->bK kT (.int .i64) (gE i a) k v=gE i a++ [(k,v)]
 | [],i,h=>by simp [gE,bK]
 |x::r,i,h=>by
  simp only [a8,not_or] at h;simp only [gE,bK,Hl,h.1,aK,aa,TF k v r (i+1) h.2,dP]
theorem TI (x):∀ (a) (i),gE i (a++ [x])=gE i a++ [(x,((i+a.length:Nat):Int))]
 | [],i=>by simp [gE]
 |y::r,i=>by
  simp only [dP,gE,TI x r (i+1),aW]
  grind
def ok1 (a:List Tm) (n):=n ∉ a/\(-1<=n.2.1/\n.2.1<a.length)/\(-1<n.2.1->n.1=0)/\n.2.2.length<=4096
instance (a:List Tm) (n:Tm):Decidable (ok1 a n):=by unfold ok1;infer_instance
structure valid (a:List Tm):Prop where
 len:a.length<=1048576
 ok:∀i (h:i<a.length),ok1 (a.take i) a[i]
open Classical in
theorem Hn (a:List Tm):uu a=some (if valid a then (gE 0 a,0) else ([],1)):=by
 unfold uu;dsimp -beta -proj only;by_cases E:1048576<a.length
 ·have p:(1048576:Int) <(a.length:Int):=by omega
  have F:¬valid a:=λh=>by have:=h.len;omega
  grind
 ·have p:¬ (1048576:Int) <(a.length:Int):=by omega
  simp only [p,aK,aa]
  refine bE (λ(x:Int×Int×List (Tm×Int))=>∃i:Nat,x.2.1=(i:Int)/\i<=a.length/\x.2.2=gE 0 (a.take i)/\∀j (h:j<a.length),j<i->ok1 (a.take j) a[j]) (λx=>a.length - x.2.1.toNat)
   (λ_=>if valid a then (gE 0 a,0) else ([],1)) ?_ ((0:Int),(0:Int),([]:List (Tm×Int))) ⟨0,rfl,by omega,rfl,λj _ g=>by omega⟩
  rintro ⟨u,G,v⟩ ⟨i,d,H,c,k⟩ w e;simp only at d c;subst d;simp only;by_cases f:i<a.length
  ·have l:((i:Int) <(a.length:Int)):=by omega
   have b:¬ok1 (a.take i) a[i]->¬valid a:=λh r=>h (r.ok i f)
   have y:(a.take i).length=i:=by grind
   simp only [l,al,ah,bp (dp i) l,aU (t:=tT) f,uj,ai,eF,c,xJ];by_cases c1:a[i] ∈ a.take i
   ·have:¬valid a:=b λh=>h.1 c1
    grind
   by_cases z:a[i].2.1< -1
   ·have:¬valid a:=b λh=>by have:=h.2.1;omega
    grind
   by_cases A:(i:Int)<=a[i].2.1
   ·have:¬valid a:=b λh=>by have:=h.2.1;omega
    grind
   by_cases s: -1<a[i].2.1/\a[i].1≠0
   ·have:¬valid a:=b λh=>s.2 (h.2.2.1 s.1)
    grind
   by_cases B:(4096:Int) <(a[i].2.2.length:Int)
   ·have:¬valid a:=b λh=>by have:=h.2.2.2;omega
    grind
   have m:(bif decide (-1<a[i].2.1) then !decide (a[i].1=0) else false)=false:=by
    grind
   simp only [c1,z,A,m,B,al,aK,ah,aa,bJ];rw [RB.dO (n:=(i:Int)+1) (by omega) (by omega),TF _ _ _ _ c1];refine e _ ⟨i+1,by simp,by omega,?_,λj g C=> ?_⟩ (by grind)
   ·grind[List.take_succ_eq_append_getElem,TI]
   ·by_cases o:j=i
    ·subst o;refine ⟨c1,⟨by omega,by omega⟩,λq=> ?_,by omega⟩;omega
    grind
  ·have l:¬ ((i:Int) <(a.length:Int)):=by omega
   have D:i=a.length:=by omega
   have r:valid a:=⟨by omega,λj g=>k j g (by omega)⟩
   grind
theorem B9 (h:l.length<=2000000):rr l=some l:=by
 grind[rr,az,bC]
theorem TH (o:l.length<=2000000) (k:∀n ∈ l,n.2.2.length<=4096) {R} (b:List Tm->Option R) (x) (g:b l=some x):
 aD (λ(c:(Int×List Tm)->Option R) (a:Int×List Tm)=>
  bif decide (a.1<(l.length:Int)) then (
  bif ae a.1 a.2.length then
  (cg (((rd tT a.2 a.1).2).2)).bind λC=>
  bif ae a.1 a.2.length then
  c ((IntKind.wrap .i64 (a.1+1)),(a.2.set a.1.toNat ((rd tT a.2 a.1).1,(((rd tT a.2 a.1).2).1,C))))
  else none
  else none)
  else b a.2) (0,l)=some x:=by
 refine bE (λ(y:Int×List Tm)=>∃i:Nat,y.1=(i:Int)/\i<=l.length/\y.2=l) (λy=>l.length - y.1.toNat) (λ_=>x) ?_ _ ⟨0,rfl,by omega,rfl⟩;rintro ⟨p,y⟩ ⟨i,d,q,h⟩ m e;simp only at d h;subst d;subst h;simp only;by_cases f:i<y.length
 ·have j:((i:Int) <(y.length:Int)):=by omega
  have r:=k _ (bt f);simp only [j,al,ah,bp (dp i) j,aU (t:=tT) f,l8 (l:=y[i].2.2) (by omega),ai,eF,bu,yL];rw [RB.dO (n:=(i:Int)+1) (by omega) (by omega)];exact e _ ⟨i+1,by simp,by omega,rfl⟩ (by omega)
 grind
open Classical in
noncomputable def gi (a:List Tm) (n:Tm):List Tm×Int×Int:=
 if ¬valid a\/(a.length:Int)<=n.2.1 then ([],0,1) else if 4096<n.2.2.length then ([],0,4) else if n ∈ a then (a,(ix a n:Int),0) else
  if a.length=1048576 then ([],0,7) else (a++ [n],(a.length:Int),0)
theorem valid.text (h:valid a):∀n ∈ a,n.2.2.length<=4096:=by
 intro n b;obtain ⟨i,c,rfl⟩:=kH b;exact (h.ok i c).2.2.2
theorem TK (a) (n):w6 (a,n)=some (gi a n):=by
 unfold w6 gi;dsimp -beta -proj only;simp only [eF,Hn,ai];by_cases b:valid a
 ·by_cases c1:(a.length:Int)<=n.2.1
  ·grind
  ·have hlen:=b.len;simp only [b,c1,aI,dm,qu,aH,al,ax,aa,aK];by_cases g:4096<n.2.2.length
   ·grind
   ·have d:¬ (4096:Int) <(n.2.2.length:Int):=by omega
    simp only [g,d,aK,aa,aH,uj,ai,eF,xJ];by_cases e:n ∈ a
    ·simp only [e,al,ax,aa,aI,B9 (l:=a) (by omega),ai,bC,B8 _ _ _ e,lI];exact TH (by omega) b.text (λl=>some (l,(ix a n:Int),0)) _ rfl
    ·simp only [e,aK,bm,ah,aH];by_cases h:a.length=1048576
     ·grind
     ·have f:¬ (a.length:Int)=1048576:=by omega
      have i:ae (a.length:Int) (a.length+1)=true:=bp (by omega) (by omega);have j:((a.take a.length).length+1)*40<=az:=by grind[az]
      simp only [h,f,aK,al,aa,aH,bC,i,jM,ah,bu,j,fX];have k:(a.length+1)*40<=az:=by grind
      simp only [k,al,ah,B9 (l:=a++ [n]) (by grind),ai]
      exact TH (l:=a++ [n]) (by grind) (λx c=>by
       rcases cz.1 c with c|c
       ·exact b.text x c
       grind) (λl=>some (l,(a.length:Int),0)) _ rfl
 grind
end Go.Proofs.YtkihadlgknhpkaaGreatDoor.T.Ar
namespace Go.Proofs.YtkihadlgknhpkaaGreatDoor.T.Ar
open Go Go.Fw Go.Proofs RB
set_option maxRecDepth 20000
theorem valid.snoc (h:valid a) (e:n ∉ a) (f: -1<=n.2.1/\n.2.1<a.length) (g: -1<n.2.1->n.1=0) (j:n.2.2.length<=4096) (l:a.length≠1048576):valid (a++ [n]):=by
 refine ⟨by have:=h.len;grind,λi k=> ?_⟩;simp only [cq,nI] at k;by_cases b:i<a.length
 ·have c:(a++ [n]).take i=a.take i:=by grind
  have d:(a++ [n])[i]'(by omega)=a[i]:=Xp b;rw [c,d];exact h.ok i b
 ·have:i=a.length:=by omega
  subst this;have c:(a++ [n]).take a.length=a:=by simp
  have d:(a++ [n])[a.length]'(by simp)=n:=by simp
  rw [c,d];exact ⟨e,f,g,j⟩
theorem Hi (h:gi a n=(b,x,0)):valid a/\n.2.1<a.length/\n ∈ b/\x=(ix b n:Int)/\a<+:b/\b.length<=a.length+1/\((-1<=n.2.1/\(-1<n.2.1->n.1=0))->valid b):=by
 unfold gi at h;by_cases d:¬valid a\/(a.length:Int)<=n.2.1
 ·grind
 ·rw [ak d] at h;have e:=jL λq=>d (.inl q)
  have f:n.2.1<a.length:=by
   omega
  by_cases i:4096<n.2.2.length
  ·grind
  ·rw [ak i] at h;by_cases c:n ∈ a
   ·grind
   ·rw [ak c] at h;by_cases g:a.length=1048576
    ·grind
    ·rw [ak g] at h;simp only [aL,dn] at h;obtain ⟨rfl,rfl⟩:=h;exact ⟨e,f,by simp,by rw [TG c],List.prefix_append _ _,by simp,λq=>e.snoc c ⟨q.1,f⟩ q.2 (by omega) g⟩
theorem ahA (a) (k) (t):A5 (a,k,t)=some (gi a (k,(-1,t))):=by
 grind[A5,TK]
theorem ahy (a) (g) (t):AI (a,g,t)=some (if g<0 then ([],0,1) else gi a (0,(g,t))):=by
 grind[AI,TK]
def wk (a:List Tm):Nat->List (List Int)->Option Nat
 |x,[]=>some x
 |x,t::r=>if (0,((x:Int),t)) ∈ a then wk a (ix a (0,((x:Int),t))) r else none
def fe (a) (k) (t) (l):=if (k,((-1:Int),t)) ∈ a then wk a (ix a (k,(-1,t))) l else none
theorem TB (a) (t):∀ (l) (x y),wk a x (l++ [t])=some y->∃z,wk a x l=some z/\(0,((z:Int),t)) ∈ a/\y=ix a (0,((z:Int),t))
 | [],x,y,h=>by
   grind[wk]
 |s::r,x,y,h=>by
  simp only [dP,wk] at h ⊢;split at h
  ·rename_i j;rw [aw j];exact TB a t r _ _ h
  grind
theorem aho (h:fe a k t (l++ [s])=some y):∃z,fe a k t l=some z/\a[y]?=some (0,((z:Int),s)):=by
 grind[fe,TB,Hk]
theorem ahp (h:fe a k t []=some y):a[y]?=some (k,(-1,t)):=by
 grind[fe,wk,Hk]
end Go.Proofs.YtkihadlgknhpkaaGreatDoor.T.Ar
namespace Go.Proofs.YtkihadlgknhpkaaGreatDoor.T.Ar
open Go Go.Fw Go.Proofs RB
set_option maxRecDepth 20000
open Classical in
theorem Hm (a:List Tm):tG a=some (if valid a then 0 else 1):=by
 grind[tG,Hn]
theorem TE:valid []:=⟨by simp,λi h=>by grind⟩
theorem ahn (k) (t) (h:t.length<=4096):gi [] (k,(-1,t))=([(k,(-1,t))],0,0):=by
 unfold gi;rw [ak (by grind[TE]),ak (by grind),ak (by simp),ak (by simp)];rfl
end Go.Proofs.YtkihadlgknhpkaaGreatDoor.T.Ar
namespace Go.Proofs.YtkihadlgknhpkaaGreatDoor.T.Ar
open Go Go.Fw Go.Proofs RB
set_option maxRecDepth 20000
theorem TD (a) (t):∀ (l) (x z),wk a x l=some z->wk a x (l++ [t])=if (0,((z:Int),t)) ∈ a then some (ix a (0,((z:Int),t))) else none
 | [],x,z,h=>by grind[wk]
 |s::r,x,z,h=>by
  simp only [dP,wk] at h ⊢;split at h
  ·rename_i j;rw [aw j];exact TD a t r _ _ h
  grind
theorem TC (a) (t):∀ (l) (x),wk a x l=none->wk a x (l++ [t])=none
 | [],x,h=>by grind[wk]
 |s::r,x,h=>by
  simp only [dP,wk] at h ⊢;split at h
  ·rename_i j;rw [aw j];exact TC a t r _ h
  grind
theorem ahr (h:fe a k u l=some z):fe a k u (l++ [t])=if (0,((z:Int),t)) ∈ a then some (ix a (0,((z:Int),t))) else none:=by
 grind[fe,TD]
theorem ahq (h:fe a k u l=none):fe a k u (l++ [t])=none:=by
 grind[fe,TC]
def iy (t:List Int):=decide (4096<(t.length:Int))
theorem ahv (a:l.length<=9223372036854775807):Am (l,())=some (l.any iy):=by
 obtain ⟨r,b,c⟩:=qP (t:= .slice 5 (.int .u8)) (l:=l) a (p:=iy) (G:=xy) (λx d=>rfl)
 grind[F2,Am]
open Classical in
noncomputable def uD (a:List Tm) (k:Int) (t:List Int) (l:List (List Int)):Int×Int:=
 if ¬valid a then (0,1) else if iy t=true\/l.any iy=true then (0,4) else match fe a k t l with|some y=>((y:Int),0)|none=>(0,5)
theorem ahw (m:l.length<=9223372036854775807):Ah (a,k,t,l)=some (uD a k t l):=by
 unfold Ah uD;dsimp -beta -proj only;simp only [Hn,ai,ahv m];by_cases o:valid a
 ·simp only [o,aI,al,ax,aa,dm,aH,xy,ai];by_cases c1:iy t=true
  ·grind[iy]
  ·have g:¬ (4096:Int) <(t.length:Int):=by grind[iy]
   simp only [c1,g,aK,bJ,ah,qu]
   cases r:l.any iy with
   |true=>simp
   |false=>
    simp only [aa,dQ,vv,aH]
    refine bE (λ(x:Int×Bool×Int)=>∃i:Nat,x.2.2=(i:Int)/\i<=l.length/\(match fe a k t (l.take i) with|some y=>x.1=(y:Int)/\x.2.1=true|none=>x.2.1=false)) (λx=>l.length - x.2.2.toNat)
     (λ_=>(match fe a k t l with|some y=>((y:Int),(0:Int))|none=>((0:Int),(5:Int)):Int×Int)) ?_ ((cC kT (.int .i64) 0 (gE 0 a) (k,(-1,t)):Int),dv kT (.int .i64) (gE 0 a) (k,(-1,t)),(0:Int)) ⟨0,rfl,by omega,?_⟩
    ·rintro ⟨p,s,u⟩ ⟨i,c,v,b⟩ q d;simp only at c b;subst c;simp only
     have stay:fe a k t (l.take i)=none->fe a k t l=none:=by
      intro h
      have:∀n,i<=n->n<=l.length->fe a k t (l.take n)=none:=by
       intro n w
       induction n with
       |zero=>grind
       |succ n z=>
        grind[List.take_succ_eq_append_getElem,ahq]
      grind
     by_cases e:i<l.length
     ·have j:((i:Int) <(l.length:Int)):=by omega
      simp only [j,al,ah,bp (dp i) j,aU (t:= .slice 5 (.int .u8)) e]
      cases f:fe a k t (l.take i) with
      |none=>
       grind
      |some y=>
       rw [f] at b;simp only at b;obtain ⟨rfl,rfl⟩:=b;simp only [ax,aa,xJ];rw [RB.dO (n:=(i:Int)+1) (by omega) (by omega)];refine d _ ⟨i+1,by simp,by omega,?_⟩ (by grind);rw [fg e,ahr f]
       grind[B8]
     grind
    grind[fe,wk,xJ,B8]
 grind
end Go.Proofs.YtkihadlgknhpkaaGreatDoor.T.Ar
namespace Go.Proofs.YtkihadlgknhpkaaGreatDoor.T.Ar
open Go Go.Fw Go.Proofs RB
set_option maxRecDepth 20000
theorem al7 (h:valid a) {k} {t} {l:List (List Int)} {y:Nat}:∀ (n:Nat) (l:List (List Int)) (y:Nat),l.length<=n->fe a k t l=some y->iy t=false/\l.any iy=false/\y<a.length:=by
 have b:∀{y:Nat} {m:Tm},a[y]?=some m->iy m.2.2=false/\y<a.length:=by
  intro y m d;obtain ⟨e,rfl⟩:=oS.1 d;have:=h.text _ (bt e)
  grind[iy]
 intro n
 induction n with
 |zero=>
  intro l y f c;have:l= []:=jK.1 (by omega);subst this;have:=b (ahp c)
  grind
 |succ n g=>
  intro l y f c;rcases List.eq_nil_or_concat l with rfl| ⟨m,s,rfl⟩
  all_goals grind[aho]
abbrev uE:fm:=(0,([],0))
noncomputable def iZ (a:List Tm) (root key:Int):List Tm×fm×Int:=
 if (gi a (key,(-1,aC root))).2.2=0 then ((gi a (key,(-1,aC root))).1,(root,([],(gi a (key,(-1,aC root))).2.1)),0) else ([],uE,(gi a (key,(-1,aC root))).2.2)
theorem TL (b:0<=root):xn (a,root,key)=some (iZ a root key):=by
 unfold xn iZ;simp only [bC,k9 b,ahA,ai];by_cases h:(gi a (key,(-1,aC root))).2.2=0
 ·simp [h]
 ·simp [h]
open Classical in
noncomputable def hU (a:List Tm) (t:fm) (c:Cv):List Tm×fm×Int:=
 if cr c≠0\/¬ew t\/¬valid a then ([],uE,1) else if t.2.1.length=16 then ([],uE,7) else
  if (gi a (0,(t.2.2,bl c))).2.2=0 then ((gi a (0,(t.2.2,bl c))).1,(t.1,(t.2.1++ [c],(gi a (0,(t.2.2,bl c))).2.1)),0) else ([],uE,(gi a (0,(t.2.2,bl c))).2.2)
theorem ahz (k:gh t) (l:t.2.1.length<=9223372036854775807) (m:dV c):oo (a,t,c)=some (hU a t c):=by
 unfold oo hU;dsimp -beta -proj only;simp only [bC,eF,FW m,wH k l,Hm,ai];by_cases e:cr c=0
 ·by_cases b:ew t
  ·by_cases g:valid a
   ·have n:=b.1;have d:¬t.2.2<0:=by have:=b.2.1;omega
    simp only [pg,e,b,g,aI,al,ax,bJ,ah,aa,dm,cU,vv,aH,ahy,d,ai];by_cases i:t.2.1.length=16
    ·simp [i]
    ·have f:¬ (t.2.1.length:Int)=16:=by omega
     have o:ae (t.2.1.length:Int) (t.2.1.length+1)=true:=bp (by omega) (by omega);have p:(t.2.1.length+1)*24<=az:=by unfold az;omega
     simp only [i,f,aK,aa,aH];by_cases j:(gi a (0,(t.2.2,bl c))).2.2=0
     ·simp only [j,al,ax,aa,o,jM,ah,bu,fX,p,aI]
     ·simp [j]
   ·simp [pg,e,b,g]
  ·simp [pg,e,b]
 ·rcases E6 c with h|h
  ·exact absurd h e
  ·simp [pg,h]
open Classical in
noncomputable def mg (a:List Tm) (key:Int) (t:fm):Bool×Int:=
 if ¬ew t\/¬valid a then (false,1) else (decide (uD a key (aC t.1) (t.2.1.map bl)=(t.2.2,0)),0)
theorem ahx (c:gh t) (f:t.2.1.length<=9223372036854775807):wN (a,key,t)=some (mg a key t):=by
 unfold wN mg;simp only [bC,eF,wH c f,Hm,ai];by_cases b:ew t
 ·by_cases d:valid a
  ·have g:=b.1;simp only [b,d,aI,al,ax,bJ,ah,aa,dm,vv,aH,k9 c.1.1,NM c b,ahw (a:=a) (k:=key) (t:=aC t.1) (l:=t.2.1.map bl) (by simp;omega),ai]
   rcases uD a key (aC t.1) (t.2.1.map bl) with ⟨h,i⟩
   simp only [aL];by_cases e:i=0
   ·by_cases q1:h=t.2.2 <;>simp [q1,e]
   ·simp [e]
  ·simp [b,d]
 ·simp [b]
theorem TJ (g:gh t) (i:dV c):gh (hU a t c).2.1/\(hU a t c).2.1.2.1.length<=16:=by
 have z:gh uE/\uE.2.1.length<=16:=⟨⟨⟨by decide,by decide⟩,by simp,by simp⟩,by simp⟩;unfold hU;split
 ·exact z
 ·split
  ·exact z
  ·rename_i j o;have k:=jL λq=>j (.inr (.inl q))
   split
   ·rename_i f;refine ⟨⟨g.1,λd hd=> ?_,?_⟩,?_⟩
    ·simp only [cz,eP] at hd;rcases hd with hd|rfl
     ·exact g.2.1 d hd
     ·exact i
    ·rcases h:gi a (0,(t.2.2,bl c)) with ⟨b,x,e⟩
     rw [h] at f;simp only at f;subst f;obtain ⟨l,_,m,p,_,n,_⟩:=Hi h;have:=Hj m;have:=l.len;simp only;omega
    ·have:=k.1;simp only [cq,nI];omega
   ·exact z
end Go.Proofs.YtkihadlgknhpkaaGreatDoor.T.Ar
namespace Go.Proofs.YtkihadlgknhpkaaGreatDoor.T.Ar
open Go Go.Fw Go.Proofs RB
set_option maxRecDepth 20000
theorem aht (n):iy (aC n)=false:=by
 have:=fD n;unfold iy;simp;omega
theorem ahs (l:List Cv):(l.map bl).any iy=false:=by
 rw [nL];intro x a;obtain ⟨c,_,rfl⟩:=iK.1 a;have:=tw c;unfold iy;simp;omega
theorem ahu (h:valid a) (k r) (l:List Cv) (g):uD a k (aC r) (l.map bl)=(g,0)↔∃y:Nat,g=(y:Int)/\fe a k (aC r) (l.map bl)=some y:=by
 unfold uD;rw [ak (by simpa using h),ak (by rw [aht,ahs];simp)]
 cases fe a k (aC r) (l.map bl) with
 |none=>simp
 |some y=>
  simp only [aL,dn,aB];constructor
  ·intro h;exact ⟨y,h.symm,rfl⟩
  ·rintro ⟨z,b,c⟩;omega
open Classical in
theorem ahm {a:List Tm} {key:Int} {t:fm} (b:valid a) (c:ew t):mg a key t=(decide (∃y:Nat,t.2.2=(y:Int)/\fe a key (aC t.1) (t.2.1.map bl)=some y),0):=by
 unfold mg;rw [ak (by rintro (q|q);exact q c;exact q b)];simp only [ahu b]
end Go.Proofs.YtkihadlgknhpkaaGreatDoor.T.Ar
namespace Go.Proofs.YtkihadlgknhpkaaGreatDoor.T.Se
open Go Go.Fw Go.Proofs RB
def c9:List Int->Int
 |a::c::_=>256*a+c
 |_=>0
def cd (l:List Int):=∀n ∈ l,cJ n
theorem Fm (h:cd l):0<=c9 l/\c9 l<=65535:=by
 unfold c9;split
 ·rename_i a c r;have b:=h a (by simp);have d:=h c (by simp);unfold cJ at b d;omega
 ·omega
theorem Nv (h:cd l):w7 l=some (if l.length<2 then (2,false) else (2+c9 l,true)):=by
 unfold w7
 match l,h with
 | [],_=>rfl
 | [a],_=>simp
 |a::c::r,h=>
  have b:=h a (by simp);have d:=h c (by simp);have e:rd (.int .u8) (a::c::r) 0=a:=rfl;have f:rd (.int .u8) (a::c::r) 1=c:=rfl;unfold cJ at b d;have g:¬ ((a::c::r).length:Int) <2:=by simp only [aW];omega
  have i:¬ (a::c::r).length<2:=by simp only [aW];omega
  have j:ae 0 (a::c::r).length=true:=bp (by omega) (by simp only [aW];omega);have k:ae 1 (a::c::r).length=true:=bp (by omega) (by simp only [aW];omega);simp only [g,aK,aa,j,k,ah,e,f,i,aH,c9];rw [show (2:Int)^ (min (8:Int).toNat 64)=256 from rfl,cX (n:=a) (by omega) (by omega),cX (n:=a*256) (by omega) (by omega),cX (n:=2+a*256) (by omega) (by omega),cX (n:=c) (by omega) (by omega),cX (by omega) (by omega)];simp only [aB,aL,dn];omega
abbrev z8:=List Int×Bool
def gD (r:z8):Int:=if (r.2=true/\r.1≠ [])\/(2<=r.1.length/\(4096<c9 r.1\/2+c9 r.1<=r.1.length)) then 1 else 0
theorem Nw (h:cd r.1):w9 r=some (gD r):=by
 obtain ⟨l,a⟩:=r;simp only at h;unfold w9 gD;have j:=Fm h;simp only [Nv h,ai];by_cases b:a=true/\l≠ []
 ·have c:=oR.2 b.2;have:=by omega
  simp [b.1,b.2,this,c]
 ·have f:((bif a then decide ((0:Int) <(l.length:Int)) else false)==false)=true:=by
   cases a with
   |false=>rfl
   |true=>
    have:=by simpa using b
    subst this;rfl
  simp only [f,ah,b,qu];by_cases d:l.length<2
  ·have:¬2<=l.length:=by omega
   simp [d,this]
  ·have g:2<=l.length:=by omega
   simp only [d,aH,bJ,ah,g,qt];by_cases e:4096<c9 l
   ·have:4098<2+c9 l:=by omega
    simp [e,this]
   ·have:¬4098<2+c9 l:=by omega
    by_cases i:2+c9 l<=l.length <;>simp [e,i,this]
theorem afA (g:0<=n) (i:n<=1099511627776):Aj ((),n)=some []:=by
 unfold Aj;dsimp -beta -proj only;have a:¬n<0:=by omega
 have b:IntKind.wrap .i64 ((([]:List Int).length:Int) -(([]:List Int).length:Int))=0:=by decide
 have c:IntKind.wrap .i64 (n - 0)=n:=by rw [Int.sub_zero];exact cX (by omega) (by omega)
 simp only [a,aK,aa,b,c];by_cases h:0<n
 ·have d:n.toNat*1<=az:=by unfold az;omega
  have e:ae (([]:List Int).length:Int) (([]:List Int).length+1)=true:=rfl;have f:ae (([]:List Int).length:Int) ((List.replicate n.toNat (0:Int)).length+1)=true:=bp (by simp) (by simp;omega);simp only [h,al,ah,e,d,jM,f];rfl
 ·simp [h]
theorem afF (j:a.length+b.length<=1000000):AU [a,b]=some (a++b):=by
 unfold AU;dsimp -beta -proj only;refine bE (λ(x:Int×Int)=>(x.2=0/\x.1=0)\/(x.2=1/\x.1=(a.length:Int))\/(x.2=2/\x.1=(a.length:Int)+ (b.length:Int))) (λx=>2 - x.2.toNat) (λ_=>a++b) ?_ (0,0) (.inl ⟨rfl,rfl⟩);have g:rd (.slice 5 (.int .u8)) [a,b] 0=a:=rfl;have h:rd (.slice 5 (.int .u8)) [a,b] 1=b:=rfl;rintro ⟨s,i⟩ (⟨rfl,rfl⟩| ⟨rfl,rfl⟩| ⟨rfl,rfl⟩) f c
 ·have k:¬ (a.length:Int) <0:=by omega
  simp only [aW,dy,show decide ((0:Int) <((0+1+1:Nat):Int))=true from rfl,ah,show ae 0 (0+1+1)=true from rfl,g,Int.zero_add];rw [cX (n:=(a.length:Int)) (by omega) (by omega),show IntKind.wrap .i64 1=1 by decide];simp only [k,aK,aa];exact c _ (.inr (.inl ⟨rfl,rfl⟩)) (by simp)
 ·have k:¬ (a.length:Int)+b.length<0:=by omega
  simp only [aW,dy,show decide ((1:Int) <((0+1+1:Nat):Int))=true from rfl,ah,show ae 1 (0+1+1)=true from rfl,h];rw [cX (n:=(a.length:Int)+b.length) (by omega) (by omega),show IntKind.wrap .i64 (1+1)=2 by decide];simp only [k,aK,aa];exact c _ (.inr (.inr ⟨rfl,rfl⟩)) (by simp)
 ·simp only [aW,dy,show decide ((2:Int) <((0+1+1:Nat):Int))=false from rfl,aa];rw [afA (by omega) (by omega)];simp only [ai];refine bE (λx=>(x.2=0/\x.1= [])\/(x.2=1/\x.1=a)\/(x.2=2/\x.1=a++b)) (λx=>2 - x.2.toNat) (λ_=>a++b) ?_ (([]:List Int),(0:Int)) (.inl ⟨rfl,rfl⟩);rintro ⟨s,i⟩ (⟨d,e⟩| ⟨d,e⟩| ⟨d,e⟩) f c <;>(simp only at d e;rw [d,e])
  ·have k:(([]:List Int).length+a.length)*1<=az:=by unfold az;simp;omega
   simp only [show decide ((0:Int) <((0+1+1:Nat):Int))=true from rfl,ah,show ae 0 (0+1+1)=true from rfl,g,k,al,fJ,Int.zero_add];rw [show IntKind.wrap .i64 1=1 by decide];exact c _ (.inr (.inl ⟨rfl,rfl⟩)) (by simp [d])
  ·have k:(a.length+b.length)*1<=az:=by unfold az;omega
   simp only [show decide ((1:Int) <((0+1+1:Nat):Int))=true from rfl,ah,show ae 1 (0+1+1)=true from rfl,h,k,al];rw [show IntKind.wrap .i64 (1+1)=2 by decide];exact c _ (.inr (.inr ⟨rfl,rfl⟩)) (by simp [d])
  ·simp only [show decide ((2:Int) <((0+1+1:Nat):Int))=false from rfl,aa]
def fq (a:List (List Int)) (l:List Int):z8×List (List Int):=
 if l.length<2 then ((l,false),a) else if 4096<c9 l then (([],true),a) else if (l.length:Int) <2+c9 l then ((l,false),a) else
 if h:0<=c9 l/\2<=l.length then fq (a++ [(l.take (2+c9 l).toNat).drop 2]) (l.drop (2+c9 l).toNat) else ((l,false),a)
 termination_by l.length
 decreasing_by rw [gL];omega
def eT (r:z8) (b:List Int):z8×List (List Int)×Int:=
 if gD r≠0 then (([],false),[],1) else if 65535<b.length then (([],false),[],4) else if r.2=true then (r,[],0) else ((fq [] (r.1++b)).1,(fq [] (r.1++b)).2,0)
theorem Fo (c:cd a) (d:cd b):cd (a++b):=λn e=>(cz.1 e).elim (c n) (d n)
theorem z7 (h:cd l) (k):cd (l.drop k):=λn a=>h n (iJ a)
theorem afy (h:cd l) (k):cd (l.take k):=λn a=>h n (lJ a)
theorem afG (m:cd r.1) (s:cd b) (D:r.1.length<=100000):BG (r,b)=some (eT r b):=by
 unfold BG eT;dsimp -beta -proj only;simp only [eF,Nw m,ai];by_cases f:gD r=0
 ·simp only [f,al,ax,aa,cU,dm,aH];by_cases n:65535<b.length
  ·have:(65535:Int) <(b.length:Int):=by omega
   simp [n,this]
  ·have:¬ (65535:Int) <(b.length:Int):=by omega
   simp only [this,aK,aa,n,aH]
   cases d:r.2 with
   |true=>
    have g:=by
     apply jL;intro q;unfold gD at f;rw [aw (.inl ⟨d,q⟩)] at f;simp at f
    have j:r=([],true):=aM g d;subst j;simp
   |false=>
    simp only [aa,dQ,aH,afF (a:=r.1) (b:=b) (by omega),ai];refine (bE (λx=>cd x.2.2.2/\x.2.2.2.length+x.2.2.1.length<=200000) (λx=>x.2.2.2.length) (λx=>((fq x.2.2.1 x.2.2.2).1,(fq x.2.2.1 x.2.2.2).2,0)) ?_ (([]:List (List Int)),(0:Int),([]:List (List Int)),r.1++b) ⟨Fo m s,by simp;omega⟩);rintro ⟨q1,t,h,l⟩ ⟨c,e⟩ u i;simp only at c e ⊢;have v:=Fm c;simp only [Nv c,ai];rw [fq];by_cases c1:l.length<2
    ·simp [c1,l8 (l:=l) (by omega)]
    ·simp only [c1,aH,ah];by_cases o:4096<c9 l
     ·have:4098<2+c9 l:=by omega
      simp [o,this]
     ·have:¬4098<2+c9 l:=by omega
      simp only [this,aK,aa,ax,o,aH];by_cases p:(l.length:Int) <2+c9 l
      ·simp [p,l8 (l:=l) (by omega)]
      ·have w:ae (2+c9 l) (l.length+1)=true:=bp (by omega) (by omega);have y:decide ((2:Int)<=2+c9 l)=true:=aF (by omega);have z:((l.take (2+c9 l).toNat).drop ((2:Int).toNat)).length<=1000000:=by simp only [gL,dZ];omega
       have A:(h.length+1)*24<=az:=by unfold az;omega
       have B:0<=c9 l/\2<=l.length:=⟨v.1,by omega⟩;have C:decide ((0:Nat)<=2)=true:=rfl;simp only [p,aK,aa,w,y,C,jM,ah,l8 z,ai,A,al,aH,B,vx,vw];have k:(l.drop (2+c9 l).toNat).length<l.length:=by rw [gL];omega
       refine (i (q1,t,h++ [(l.take (2+c9 l).toNat).drop ((2:Int).toNat)],l.drop (2+c9 l).toNat) ⟨z7 c _,?_⟩ k).trans rfl;simp only [cq,gL,aW,dy];omega
 ·simp [f]
theorem Fl (a):fq a []=(([],false),a):=by rw [fq];simp
theorem afr:∀ (n) (l) (a),l.length<=n->cd l->gD (fq a l).1=0/\cd (fq a l).1.1/\(fq a l).1.1.length+ (fq a l).2.length<=l.length+a.length:=by
 intro n
 induction n with
 |zero=>
  intro l a h b;have:l= []:=jK.1 (by omega);subst this;rw [fq];simp [gD];exact b
 |succ n f=>
  intro l a h b;have g:=Fm b;rw [fq];by_cases c1:l.length<2
  ·have:¬2<=l.length:=by omega
   simp [c1,gD,this];exact b
  ·by_cases c:4096<c9 l
   ·simp only [c1,c,aH,aI];exact ⟨by simp [gD],λn i=>by simp at i,by simp⟩
   ·by_cases e:(l.length:Int) <2+c9 l
    ·have j:=by omega
     simp only [c1,c,e,aH,aI];exact ⟨by simp [gD,c,j],b,by omega⟩
    ·have k:0<=c9 l/\2<=l.length:=⟨g.1,by omega⟩;have d:(l.drop (2+c9 l).toNat).length<=n:=by rw [gL];omega
     simp only [c1,c,e,k,aH,vx,vw];obtain ⟨m,o,p⟩:=f (l.drop (2+c9 l).toNat) (a++ [(l.take (2+c9 l).toNat).drop 2]) d (z7 b _);refine ⟨m,o,b9 p ?_⟩;simp only [gL,cq,aW,dy];omega
def dd (b:List Int):List Int×Int:=if 4096<b.length then ([],4) else ([(b.length:Int) / 256,(b.length:Int) % 256]++b,0)
theorem afD (t:b.length<=1000000):qX b=some (dd b):=by
 unfold qX dd;dsimp -beta -proj only;by_cases h:4096<b.length
 ·have:(4096:Int) <(b.length:Int):=by omega
  simp [h,this]
 ·have f:¬ (4096:Int) <(b.length:Int):=by omega
  simp only [f,aK,aa,h,aH];rw [cX (n:=2+ (b.length:Int)) (by omega) (by omega)];have g:(2+ (b.length:Int)).toNat=b.length+2:=by omega
  have i:(b.length+2)*1<=az:=by unfold az;omega
  have j:decide ((0:Int)<=2+ (b.length:Int))=true:=aF (by omega);have c:(List.replicate (b.length+2) (0:Int))=0::0::List.replicate b.length 0:=rfl;rw [g,c];have d:(2:Int)^ (min (8:Int).toNat 64)=256:=rfl;rw [d,qF,qF];have e:(((0:Int)::0::List.replicate b.length 0).set ((0:Int).toNat) ((b.length:Int) / 256 % 256)).set ((1:Int).toNat) ((b.length:Int) % 256)=((b.length:Int) / 256 % 256)::((b.length:Int) % 256)::List.replicate b.length 0:=rfl;have a:((0:Int)::0::List.replicate b.length 0).set ((0:Int).toNat) ((b.length:Int) / 256 % 256)=((b.length:Int) / 256 % 256)::0::List.replicate b.length 0:=rfl;rw [e,a];have k:ae 0 ((0:Int)::0::List.replicate b.length 0).length=true:=bp (by omega) (by simp only [aW];omega);have l:ae 1 (((b.length:Int) / 256 % 256)::0::List.replicate b.length 0).length=true:=bp (by omega) (by simp only [aW];omega);have m:ae 2 (b.length+2+1)=true:=bp (by omega) (by omega);have o:((((b.length:Int) / 256 % 256)::((b.length:Int) % 256)::List.replicate b.length 0).length)=b.length+2:=by simp
  have p:decide (b.length<=b.length+2 -((2:Int).toNat))=true:=aF (by omega);have q:decide ((2:Int).toNat+ (b.length+2 -((2:Int).toNat))<=b.length+2)=true:=aF (by omega);simp only [j,i,al,jM,ah,k,l,m,o,p,q,aB,aL,dn];have r:(((b.length:Int) / 256 % 256)::((b.length:Int) % 256)::List.replicate b.length 0).take ((2:Int).toNat)= [(b.length:Int) / 256 % 256,(b.length:Int) % 256]:=rfl
  have s:(((b.length:Int) / 256 % 256)::((b.length:Int) % 256)::List.replicate b.length 0).drop ((2:Int).toNat+b.length)= []:=by
   apply DM;simp;omega
  rw [r,s];have:(b.length:Int) / 256 % 256=(b.length:Int) / 256:=by omega
  rw [this];simp
theorem afL (a b):BU (a,b)=some (decide (a=b)):=by
 obtain ⟨x,p⟩:=a;obtain ⟨y,q⟩:=b;unfold BU jr;by_cases h:p=q
 ·subst h;by_cases c:x=y <;>simp [c]
 ·have:(p==q)=false:=by simpa using h
  simp [this,h]
end Go.Proofs.YtkihadlgknhpkaaGreatDoor.T.Se
