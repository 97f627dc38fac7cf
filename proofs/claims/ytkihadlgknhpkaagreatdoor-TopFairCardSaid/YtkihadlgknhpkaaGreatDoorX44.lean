/- Part 44: lemmas that the last text needs. -/
import Derived.Test.YtkihadlgknhpkaaGreatDoorX43
set_option linter.all false
set_option autoImplicit true
set_option relaxedAutoImplicit true
namespace Go.Proofs.YtkihadlgknhpkaaGreatDoor.T
open Go Go.Fw Go.Proofs RB
set_option maxRecDepth 20000
def mx (a b:Int):=if a<b then b else a
theorem adx :mx a b<=c↔a<=c/\b<=c:=by unfold mx;split <;>omega
theorem Md:∀{l:List Int} {a c},l.foldl mx a<=c↔a<=c/\∀x ∈ l,x<=c
 | [],a,c=>by simp
 |b::r,a,c=>by
  rw [nK,Md,adx];simp only [a8,Dt,and_assoc]
theorem ahd (l:r.length<=1099511627776):pN (a::r)=some (r.foldl mx a):=by
 unfold pN;dsimp -beta -proj only;have f:¬ (((a::r).length:Int) <1):=by simp only [aW];omega
 have g:ae 0 (a::r).length=true:=bp (by omega) (by simp only [aW];omega);rw [aq f,aa,g,ah]
 have:=zB (B:=λ(c:(Int×Int)->Option Int) (b:Int×Int)=>
 bif decide (b.2<((a::r).length:Int)) then (
 bif ae b.2 (a::r).length then
 c ((if b.1<(rd (.int .u64) (a::r) b.2) then (rd (.int .u64) (a::r) b.2) else b.1),(IntKind.wrap .i64 (b.2+1)))
 else none)
 else (
 some b.1)) r.length (λi=>((r.take i).foldl mx a,((i+1:Nat):Int))) (λx=>x.2.toNat - 1) (λi j=>by simp) (λ_=>r.foldl mx a) ?_
 ·exact this
 ·intro i j k d;simp only;rcases jh i r.length with h|h
  ·have e:i+1<(a::r).length:=by simp only [aW];omega
   rw [aF (eA e),ah,aV e,ah,aU (t:= .int .u64) e,cx (i:=i+1) (by omega)];have:=d h;rw [fg h,JQ] at this;simpa [mx] using this
  ·have e:¬ (((i+1:Nat):Int) <((a::r).length:Int)):=by simp only [aW];omega
   have:i=r.length:=by omega
   rw [aq e,aa,this,fX]
theorem tK (e:l.length<=1099511627776):fu l=some (if ∀x ∈ l,x<=4611686018427387904 then 0 else 1):=by
 unfold fu
 cases l with
 |nil=>simp
 |cons a r=>
  have f:(0:Int) <((a::r).length:Int):=by simp only [aW];omega
  rw [aF f];simp only [bJ,ah,ahd (a:=a) (r:=r) (by simp only [aW] at e;omega),ai];have:= @Md r a 4611686018427387904;by_cases h:r.foldl mx a<=4611686018427387904
  ·have c:=this.1 h;rw [aq (by omega),aa,aw];intro x b;rcases a8.1 b with rfl|b
   ·exact c.1
   ·exact c.2 x b
  ·rw [aF (by omega),ah,ak];intro d;exact h (this.2 ⟨d a (by simp),λx b=>d x (by simp [b])⟩)
theorem vU:∀{l:List Int},(∀x ∈ l,0<=x)->0<=l.sum
 | [],_=>by simp
 |a::r,h=>by
  have:=h a (by simp);have:=vU (l:=r) (λx b=>h x (by simp [b]));simp only [vC];omega
def eJ (l:List Int):Int×Int:=if ∀x ∈ l,x<=4611686018427387904 then (if 4611686018427387904<l.sum then (0,8) else (l.sum,0)) else (0,1)
theorem wK (k:l.length<=1099511627776) (d:∀x ∈ l,0<=x):jW l=some (eJ l):=by
 unfold jW eJ;dsimp -beta -proj only;rw [tK k,ai];by_cases b:∀x ∈ l,x<=4611686018427387904
 ·rw [aw b,aw b];simp only [al,ax,aa];refine (qM l.length (λi=>((l.take i).sum,(0:Int),(i:Int))) (λx=>x.2.2.toNat) (λi _=>by simp) (λi=>(l.take (i+1)).sum<=4611686018427387904) (l.sum,0) (0,8) ?_ ?_).trans ?_
  ·intro i a g e;simp only;have m:(l.take (i+1)).sum=(l.take i).sum+l[i]:=by rw [fg a,DB];simp
   have q:(l.take i).sum<=4611686018427387904:=by
    cases i with
    |zero=>simp
    |succ j=>exact g j (by omega)
   have o:=vU (l:=l.take i) (λx f=>d x (lJ f));have r:=b _ (bt a);have s:=d _ (bt a);rw [aF (eA a),ah,aV a,ah,aU (t:= .int .u64) a,fY (n:=(l.take i).sum+l[i]) (by omega) (by omega),cx (by omega),m];by_cases h:(l.take i).sum+l[i]<=4611686018427387904
   ·rw [aq (by omega),aa,aw h]
   ·rw [aF (by omega),ah,ak h]
  ·intro g e;simp only;rw [aq (by omega),aa,fX]
  ·congr 1;by_cases h:4611686018427387904<l.sum
   ·rw [aw h,ak];intro p
    cases c:l.length with
    |zero=>rw [jK.1 c] at h;simp at h
    |succ n=>
     have:=p n (by omega);rw [<-c,fX] at this;omega
   ·rw [ak h,aw];intro i a;have:(l.take (i+1)).sum+ (l.drop (i+1)).sum=l.sum:=by rw [<-DB,mC]
    have o:=vU (l:=l.drop (i+1)) (λx f=>d x (iJ f));omega
 ·rw [ak b,ak b];rfl
def bn (l:List (Int×Int)):=(l.map (·.2)).sum
structure ChTy (c:D2):Prop where
 id:ay c.1
 loc:ay c.2.1
 rem:ay c.2.2.1
 res:ay c.2.2.2.1
 most:ay c.2.2.2.2.1
 holds:∀h ∈ c.2.2.2.2.2.1,ay h.1/\ay h.2
structure ChOk (c:D2):Prop where
 res:c.2.2.2.1<=4611686018427387904
 most:c.2.2.2.2.1<=4611686018427387904
 few:c.2.2.2.2.2.1.length<=64
 op:c.2.2.2.2.2.2=true\/c.2.2.2.2.2.1= []
 pos:∀h ∈ c.2.2.2.2.2.1,0<h.2
 inc:bB HK c.2.2.2.2.2.1
 hm:bn c.2.2.2.2.2.1<=c.2.2.2.2.1
 all:bn c.2.2.2.2.2.1+c.2.1+c.2.2.1<=4611686018427387904
def cZ (c:D2):=bn c.2.2.2.2.2.1+c.2.1+c.2.2.1
theorem nY (h:∀x ∈ l,0<=x.2):0<=bn l:=vU (λy a=>by
 obtain ⟨x,b,rfl⟩:=iK.1 a
 exact h x b)
theorem wo (a b):bn (a++b)=bn a+bn b:=by unfold bn;rw [lM,DB]
theorem adZ (h:∀x ∈ l,0<=x.2) (i):bn (l.take i)<=bn l:=by
 have e:bn (l.take i)+bn (l.drop i)=bn l:=by rw [<-wo,mC]
 have:=nY (l:=l.drop i) (λx a=>h x (iJ a));omega
theorem EL :∀{l:List α},(∀i (h:i+1<l.length),k (l[i]'(by omega)) <k l[i+1])->bB k l
 | [],_=>List.Pairwise.nil
 | [a],_=>by simp [bB]
 |a::b::r,h=>by
  have j:=EL (k:=k) (l:=b::r) (λi e=>by
   have:=h (i+1) (by simp only [aW] at e ⊢;omega)
   simpa using this)
  have d:=h 0 (by simp);simp only [Xo,yQ] at d;refine eO.2 ⟨λx c=> ?_,j⟩;rcases a8.1 c with rfl|c
  ·exact d
  ·have:=(eO.1 j).1 x c;omega
theorem Fg (h:0<=a) (j:0<=b) (c:a<=4611686018427387904):eJ [a,b]=if a+b<=4611686018427387904 then (a+b,0) else if b<=4611686018427387904 then (0,8) else (0,1):=by
 unfold eJ;simp only [a8,eu,ep,Dt,yE,vC,List.sum_nil,vK];by_cases d:b<=4611686018427387904
 ·by_cases e:a+b<=4611686018427387904
  ·simp [c,d,e];try omega
  ·simp [c,d,e];try omega
 ·have:¬a+b<=4611686018427387904:=by omega
  simp [c,d,this]
theorem ae6 (h:0<=a) (C:0<=b) (j:0<=c):(eJ [a,b,c]).2=0↔a+b+c<=4611686018427387904:=by
 unfold eJ;simp only [a8,eu,ep,Dt,yE,vC,List.sum_nil,vK];by_cases d:a<=4611686018427387904/\b<=4611686018427387904/\c<=4611686018427387904
 ·rw [aw d];by_cases e:4611686018427387904<a+ (b+c)
  ·rw [aw e];simp;omega
  ·rw [ak e];simp;omega
 ·rw [ak d];simp;omega
theorem ae7 (h:(eJ l).2=0):(eJ l).1=l.sum:=by
 unfold eJ at h ⊢;split
 ·split
  ·rename_i a b;rw [aw a,aw b] at h;simp at h
  ·rfl
 ·rename_i a;rw [ak a] at h;simp at h
open Classical in
theorem xg {c:D2} (I:ChTy c):pG c=some (if ChOk c then (bn c.2.2.2.2.2.1,cZ c,0) else (0,0,1)):=by
 obtain ⟨id,loc,b,r,most,holds,op⟩:=c;obtain ⟨_,⟨s,y⟩,⟨u,z⟩,⟨A,B⟩,⟨C,D⟩,F⟩:=I;simp only at s y u z A B C D F;unfold pG;dsimp -beta -proj only;simp only;rw [tK (by simp),ai];simp only [a8,eu,ep,Dt,yE];by_cases c1:r<=4611686018427387904/\most<=4611686018427387904
 ·rw [aw c1];by_cases K:64<holds.length
  ·have:¬ChOk (id,loc,b,r,most,holds,op):=λk=>by have:=k.few;simp only at this;omega
   rw [ak this,aF (show (64:Int) <(holds.length:Int) by omega)];rfl
  ·rw [aq (show ¬ (64:Int) <(holds.length:Int) by omega)];simp only [al,ax,aa,bJ,ah];by_cases v:op=true\/holds= []
   ·have:(bif (!op) then decide (0<(holds.length:Int)) else false)=false:=by
     rcases v with rfl|rfl
     ·rfl
     ·cases op <;>rfl
    rw [this,aa];have w:∀x ∈ holds,0<=x.2:=λx d=>(F x d).2.1
    refine (qM holds.length (λi=>(bn (holds.take i),(0:Int),(0:Int),(i:Int))) (λx=>x.2.2.2.toNat) (λi _=>by simp)
     (λi=>(∀h:i<holds.length,0<holds[i].2)/\(∀ (h:i<holds.length),0<i->(holds[i - 1]'(by omega)).1<holds[i].1)/\bn (holds.take (i+1))<=most)
     (if bn holds+loc+b<=4611686018427387904 then (bn holds,bn holds+loc+b,0) else (0,0,1)) (0,0,1) ?_ ?_).trans ?_
    ·intro i a f g;simp only;have J:bn (holds.take (i+1))=bn (holds.take i)+holds[i].2:=by rw [fg a,wo];simp [bn]
     have L:bn (holds.take i)<=most:=by
      cases i with
      |zero=>simp [bn];omega
      |succ j=>exact (f j (by omega)).2.2
     have m:=nY (l:=holds.take i) (λx d=>w x (lJ d));have d:=w _ (bt a)
     have E:jW [bn (holds.take i),holds[i].2]=some (eJ [bn (holds.take i),holds[i].2]):=wK (by simp) (by
      intro x d;simp only [a8,eu,ep] at d
      rcases d with rfl|rfl <;>omega)
     have e:(bif (bif (!decide ((eJ [bn (holds.take i),holds[i].2]).2=0)) then true else decide (most<(eJ [bn (holds.take i),holds[i].2]).1)) then some (0,0,1) else g ((eJ [bn (holds.take i),holds[i].2]).1,0,(eJ [bn (holds.take i),holds[i].2]).2,((i+1:Nat):Int)))=if bn (holds.take (i+1))<=most then g (bn (holds.take (i+1)),0,0,((i+1:Nat):Int)) else some (0,0,1):=by
      rw [Fg m d (by omega),J];by_cases q:bn (holds.take i)+holds[i].2<=4611686018427387904
      ·rw [aw q];simp only [al,ax,aa];by_cases o:bn (holds.take i)+holds[i].2<=most
       ·rw [aq (by omega),aa,aw o]
       ·rw [aF (by omega),ah,ak o]
      ·have:¬bn (holds.take i)+holds[i].2<=most:=by omega
       rw [ak q,ak this];split <;>rfl
     rw [aF (eA a),ah,aV a,ah,aU (t:=Y0) a];by_cases p1:holds[i].2=0
     ·rw [aF p1,ak (λk=>by have:=k.1 a;omega)];rfl
     ·rw [aq p1];simp only [bJ,ah];rw [cx (by omega)]
      cases i with
      |zero=>
       simp only [DP,DQ,aK,show (false==true)=false from rfl,aa,lI,Int.natCast_one] at E e ⊢;rw [E,ai,e];by_cases q:bn (holds.take 1)<=most
       ·rw [aw q,aw ⟨λ_=>by omega,λ_ h=>absurd h (by omega),q⟩]
       ·rw [ak q,ak (λk=>q k.2.2)]
      |succ j=>
       have G:j<holds.length:=by omega
       rw [aF (show (0:Int) <((j+1:Nat):Int) by omega)];simp only [bJ,ah];rw [oX (by omega),aV G,ah,aU (t:=Y0) G,NT,ai];by_cases p2:holds[j].1<holds[j+1].1
       ·rw [aq (by rw [pz];omega),aa,E,ai,e];by_cases q:bn (holds.take (j+1+1))<=most
        ·rw [aw q,aw ⟨λ_=>by omega,λ_ _=>p2,q⟩]
        ·rw [ak q,ak (λk=>q k.2.2)]
       ·rw [aF (by rw [pz];omega),ah,ak (λk=>p2 (k.2.1 a (by omega)))]
    ·intro f g;simp only;rw [aq (by omega),aa,fX];have m:=nY w
     rw [wK (by simp) (by
      intro x d;simp only [a8,eu,ep] at d
      rcases d with rfl|rfl|rfl <;>omega),ai]
     have:=ae6 m s u;by_cases q:bn holds+loc+b<=4611686018427387904
     ·have o:=this.2 q;rw [o,aw q,ae7 o];simp [Int.add_assoc]
     ·have o:¬ (eJ [bn holds,loc,b]).2=0:=λh=>q (this.1 h)
      rw [aq o,ak q];rfl
    ·congr 1;by_cases f:∀i,i<holds.length->(∀h:i<holds.length,0<holds[i].2)/\(∀ (h:i<holds.length),0<i->(holds[i - 1]'(by omega)).1<holds[i].1)/\bn (holds.take (i+1))<=most
     ·rw [aw f]
      have p:bn holds<=most:=by
       cases H:holds.length with
       |zero=>rw [jK.1 H];simp [bn];omega
       |succ n=>
        have:=(f n (by omega)).2.2;rw [<-H,fX] at this;exact this
      by_cases q:bn holds+loc+b<=4611686018427387904
      ·rw [aw q,aw]
       ·rfl
       ·refine ⟨c1.1,c1.2,by simp only;omega,v,λx d=> ?_,EL (λi a=> ?_),p,q⟩
        ·obtain ⟨i,a,rfl⟩:=kH d;exact (f i a).1 a
        ·exact (f (i+1) a).2.1 a (by omega)
      ·rw [ak q,ak (λk=>q k.all)]
     ·rw [ak f,ak];intro k;refine f (λi a=>⟨λ_=>k.pos _ (bt a),λ_ M=>mM k.inc (by omega) a,?_⟩);exact Int.le_trans (adZ w _) k.hm
   ·have:(bif (!op) then decide (0<(holds.length:Int)) else false)=true:=by
     cases op with
     |true=>exact absurd (.inl rfl) v
     |false=>
      have:holds≠ []:=λh=>v (.inr h)
      have:=oR.2 this;simp;omega
    rw [this,ah,ak (λk=>v k.op)]
 ·rw [ak c1,ak (λk=>c1 ⟨k.res,k.most⟩)];rfl
open Classical in
theorem BR {c:D2} (a:ChTy c):mb c=some (if ChOk c then (cZ c,0) else (0,1)):=by
 unfold mb;rw [xg a,ai];split <;>rfl
open Classical in
theorem AY {c:D2} (a:ChTy c):pF c=some (if ChOk c then 0 else 1):=by
 unfold pF;rw [xg a,ai];split <;>rfl
end Go.Proofs.YtkihadlgknhpkaaGreatDoor.T
namespace Go.Proofs.YtkihadlgknhpkaaGreatDoor.T
open Go Go.Fw Go.Proofs RB
set_option maxRecDepth 20000
def cY (l:List D2):=l.flatMap λc=>c.2.2.2.2.2.1.map (·.1)
def aP (l:List D2):=(l.map cZ).sum
def gO:Nat->List D2->List (Int×Int)
 |_,[]=> []
 |i,c::r=>(c.2.2.2.2.2.1.map λh=>(h.1,(i:Int)))++gO (i+1) r
theorem MT (c):∀ (l) (i),gO i (l++ [c])=gO i l++c.2.2.2.2.2.1.map λh=>(h.1,((i+l.length:Nat):Int))
 | [],i=>by simp [gO]
 |a::r,i=>by
  simp only [dP,gO,MT c r (i+1),fK,aW];rw [show i+1+r.length=i+ (r.length+1) by omega]
theorem Fa:∀ (l) (i),(gO i l).map (·.1)=cY l
 | [],_=>rfl
 |c::r,i=>by
  simp only [gO,cY,kJ,lM,vD,Fa r (i+1)];rfl
theorem qH (a b):aP (a++b)=aP a+aP b:=by unfold aP;rw [lM,DB]
theorem Nd (h:ChTy c):0<=cZ c:=by
 have b:=nY (l:=c.2.2.2.2.2.1) (λx a=>(h.holds x a).2.1);have d:=h.loc.1;have e:=h.rem.1;unfold cZ;omega
theorem Kl (h:∀c ∈ l,ChTy c):0<=aP l:=vU (λx a=>by
 obtain ⟨c,b,rfl⟩:=iK.1 a
 exact Nd (h c b))
theorem EN:∀ (m) (k),dv (.int .u64) (.int .i64) m k=decide (k ∈ m.map (·.1))
 | [],k=>by simp [dv]
 |e::r,k=>by
  simp only [dv,EN r k,cj,eX,a8];by_cases h:k=e.1 <;>simp [h]
theorem K0:∀ (m) (k v),k ∉ m.map (·.1)->bK (.int .u64) (.int .i64) m k v=m++ [(k,v)]
 | [],k,v,_=>rfl
 |e::r,k,v,h=>by
  have j:¬k=e.1:=λa=>h (by simp [a])
  have b:=λa=>h (by simp only [eX,a8];exact .inr a)
  simp only [bK,cj,j,aK,aa,K0 r k v b,dP]
structure LedOk (l:List D2):Prop where
 few:l.length<=32
 ch:∀c ∈ l,ChOk c
 inc:bB CK l
 tot:aP l<=4611686018427387904
 nod:(cY l).Nodup
theorem Ln:∀{A B:List Int},A.Nodup->((A++B).Nodup↔∀j (h:j<B.length),B[j] ∉ A++B.take j):=by
 intro A B
 induction B generalizing A with
 |nil=>intro h;simp [h]
 |cons b r e=>
  intro f;constructor
  ·intro h j c;have g:A++b::r=(A++ (b::r).take j)++ (b::r).drop j:=by rw [fK,mC]
   rw [g] at h;intro i;have:=(nG.1 h).2.2 _ i _ (kG (by rw [qy,sE,cK c]:((b::r).drop j)[0]?=some (b::r)[j]));exact this rfl
  ·intro h;have k:b ∉ A:=by have:=h 0 (by simp);simpa using this
   have a:(A++ [b]).Nodup:=by
    rw [nG];exact ⟨f,by simp,λx l y d=>by simp only [eP] at d;subst d;rintro rfl;exact k l⟩
   have:=(e a).2 (λj c=>by
    have:=h (j+1) (by simp only [aW];omega)
    simpa using this)
   simpa using this
theorem adV {c:D2} (o:c.2.2.2.2.2.1.length<=1099511627776) (good) {K:D6->Option ((List (Int×Int))×Int)} (l:K (q,(c.2.2.2.2.2.1.length:Int),m++c.2.2.2.2.2.1.map λh=>(h.1,v))=good):
 open Classical in aD (λ(d:(D6)->Option ((List (Int×Int))×Int)) (a:D6)=>
 bif decide (a.2.1<(c.2.2.2.2.2.1.length:Int)) then (
 bif ae a.2.1 c.2.2.2.2.2.1.length then
 bif (dv (.int .u64) (.int .i64) a.2.2 (rd Y0 c.2.2.2.2.2.1 a.2.1).1) then (
 some (([]:List (Int×Int)),1))
 else (
 d (a.1,(IntKind.wrap .i64 (a.2.1+1)),(bK (.int .u64) (.int .i64) a.2.2 (rd Y0 c.2.2.2.2.2.1 a.2.1).1 v)))
 else none)
 else (
 K a)) (q,0,m)=if ∀j (h),c.2.2.2.2.2.1[j].1 ∉ m.map (·.1)++ (c.2.2.2.2.2.1.map (·.1)).take j then good else some ([],1):=by
 generalize c.2.2.2.2.2.1=H at*;have e0:((q,0,m):D6)=(λi:Nat=>((q,(i:Int),m++ (H.take i).map λh=>(h.1,v)):D6)) 0:=by simp
 rw [e0];refine (adJ H.length (λi=>((q,(i:Int),m++ (H.take i).map λh=>(h.1,v)):D6)) (λx=>x.2.1.toNat) (λi _=>by simp) (λj=>∀h,H[j].1 ∉ m.map (·.1)++ (H.map (·.1)).take j) good ([],1) ?_ ?_).trans ?_
 ·intro i b n e;simp only
  have f:(m++ (H.take i).map λh=>(h.1,v)).map (·.1)=m.map (·.1)++ (H.map (·.1)).take i:=by
   rw [lM,vD,<-List.map_take];rfl
  rw [aF (eA b),ah,aV b,ah,aU (t:=Y0) b,EN,f,cx (by omega)];by_cases h:H[i].1 ∈ m.map (·.1)++ (H.map (·.1)).take i
  ·rw [aF h,ah,ak (λk=>k b h)]
  ·rw [aq h,aa,aw (λ_=>h),K0 _ _ _ (by rw [f];exact h),fK];congr 4;rw [fg b,lM];rfl
 ·intro n e;simp only;rw [aq (by omega),aa,fX];exact l
 ·by_cases h:∀j (h),H[j].1 ∉ m.map (·.1)++ (H.map (·.1)).take j
  ·rw [aw h,aw (λi b _=>h i b)]
  ·rw [ak h,ak (λk=>h (λj g=>k j g g))]
open Classical in
theorem Oj {l:List D2} (A:∀c ∈ l,ChTy c):xi l=some (if LedOk l then (gO 0 l,0) else ([],1)):=by
 unfold xi;dsimp -beta -proj only;by_cases Q:32<l.length
 ·rw [aF (show (32:Int) <(l.length:Int) by omega),ah,ak (λk=>by have:=k.few;omega)]
 rw [aq (show ¬ (32:Int) <(l.length:Int) by omega),aa]
 refine (qM l.length (λi:Nat=>((0,aP (l.take i),(i:Int),gO 0 (l.take i)):D7)) (λx=>x.2.2.1.toNat) (λi _=>by simp)
  (λi=>∀h:i<l.length,ChOk l[i]/\(∀y:0<i,(l[i - 1]'(by omega)).1<l[i].1)/\aP (l.take (i+1))<=4611686018427387904/\∀j (d:j<l[i].2.2.2.2.2.1.length),l[i].2.2.2.2.2.1[j].1 ∉ cY (l.take i)++ (l[i].2.2.2.2.2.1.map (·.1)).take j)
  (gO 0 l,0) ([],1) ?_ ?_).trans ?_
 ·intro i b E g;simp only;have p:=A _ (bt b);have J:=Nd p;have F:aP (l.take (i+1))=aP (l.take i)+cZ l[i]:=by rw [fg b,qH];simp [aP]
  have L:aP (l.take i)<=4611686018427387904:=by
   cases i with
   |zero=>simp [aP]
   |succ j=>exact (E j (by omega) (by omega)).2.2.1
  have s:=Kl (l:=l.take i) (λc p=>A c (lJ p))
  have B:jW [aP (l.take i),cZ l[i]]=some (eJ [aP (l.take i),cZ l[i]]):=wK (by simp) (by
   intro x z;simp only [a8,eu,ep] at z
   rcases z with rfl|rfl <;>omega)
  rw [aF (eA b),ah,aV b,ah,aU (t:=Y8) b,BR p,ai];by_cases r:ChOk l[i]
  ·simp only [aw r,al,ax,bJ,ah]
   have inner:=adV (c:=l[i]) (v:=(i:Int)) (m:=gO 0 (l.take i)) (q:=0) (by have:=r.few;omega)
    (g (0,aP (l.take (i+1)),((i+1:Nat):Int),gO 0 (l.take (i+1)))) (K:=λf=>g (f.1,aP (l.take (i+1)),((i+1:Nat):Int),f.2.2)) (by
     simp only
     rw [fg b,MT,dZ,qw (by omega),lI])
   rw [Fa] at inner
   have o:(bif (!decide ((eJ [aP (l.take i),cZ l[i]]).2=0)) then some (([]:List (Int×Int)),(1:Int)) else
    aD (λ(u:(D6)->Option ((List (Int×Int))×Int)) (f:D6)=>
 bif decide (f.2.1<(l[i].2.2.2.2.2.1.length:Int)) then (
 bif ae f.2.1 l[i].2.2.2.2.2.1.length then
 bif (dv (.int .u64) (.int .i64) f.2.2 (rd Y0 l[i].2.2.2.2.2.1 f.2.1).1) then (
 some (([]:List (Int×Int)),1))
 else (
 u (f.1,(IntKind.wrap .i64 (f.2.1+1)),(bK (.int .u64) (.int .i64) f.2.2 (rd Y0 l[i].2.2.2.2.2.1 f.2.1).1 (i:Int))))
 else none)
 else (
 g (f.1,(eJ [aP (l.take i),cZ l[i]]).1,((i+1:Nat):Int),f.2.2))) (0,0,gO 0 (l.take i)))=
    if aP (l.take (i+1))<=4611686018427387904/\∀j (d:j<l[i].2.2.2.2.2.1.length),l[i].2.2.2.2.2.1[j].1 ∉ cY (l.take i)++ (l[i].2.2.2.2.2.1.map (·.1)).take j then g (0,aP (l.take (i+1)),((i+1:Nat):Int),gO 0 (l.take (i+1))) else some ([],1):=by
    rw [Fg s J L,F];by_cases q:aP (l.take i)+cZ l[i]<=4611686018427387904
    ·rw [aw q];simp only [al,ax,aa,q,qt];rw [F] at inner;exact inner
    ·have M:∀x:Int×Int,x.2≠0->(!decide (x.2=0))=true:=λx z=>by simp [z]
     rw [ak q,M _ (by split <;>simp),ah];exact (ak (λk=>q k.1)).symm
   cases i with
   |zero=>
    simp only [DP,DQ,aK,show (false==true)=false from rfl,aa,lI,Int.natCast_one] at B o ⊢;rw [B,ai];have w1:IntKind.wrap .i64 ((0:Int)+1)=1:=rfl;rw [w1,o];by_cases q:aP (l.take 1)<=4611686018427387904/\∀j (d:j<l[0].2.2.2.2.2.1.length),l[0].2.2.2.2.2.1[j].1 ∉ cY (l.take 0)++ (l[0].2.2.2.2.2.1.map (·.1)).take j
    ·rw [aw q,aw (λ_=>⟨r,λy=>absurd y (by omega),q⟩)]
    ·rw [ak q,ak (λk=>q (k b).2.2)]
   |succ j=>
    have d:j<l.length:=by omega
    rw [aF (show (0:Int) <((j+1:Nat):Int) by omega)];simp only [bJ,ah];rw [oX (by omega),aV d,ah,aU (t:=Y8) d,N7,ai,cx (by omega)];by_cases p2:l[j].1<l[j+1].1
    ·rw [aq (by rw [pz];omega),aa,B,ai,o];by_cases q:aP (l.take (j+1+1))<=4611686018427387904/\∀C (d:C<l[j+1].2.2.2.2.2.1.length),l[j+1].2.2.2.2.2.1[C].1 ∉ cY (l.take (j+1))++ (l[j+1].2.2.2.2.2.1.map (·.1)).take C
     ·rw [aw q,aw (λ_=>⟨r,λ_=>p2,q⟩)]
     ·rw [ak q,ak (λk=>q (k b).2.2)]
    ·rw [aF (by rw [pz];omega),ah,ak (λk=>p2 ((k b).2.1 (by omega)))]
  ·simp only [ak r];rw [ak (λk=>r (k b).1)];rfl
 ·intro E g;simp only;rw [aq (by omega),aa,fX]
 ·congr 1
  have D:∀n,n<=l.length->(∀i,i<n->∀ (h:i<l.length),∀j (d:j<l[i].2.2.2.2.2.1.length),l[i].2.2.2.2.2.1[j].1 ∉ cY (l.take i)++ (l[i].2.2.2.2.2.1.map (·.1)).take j)->(cY (l.take n)).Nodup:=by
   intro n
   induction n with
   |zero=>intro _ _;simp [cY]
   |succ n N=>
    intro s a;have G:=N (by omega) (λi b=>a i (by omega));have H:=a n (by omega) (by omega);rw [fg (by omega:n<l.length)];unfold cY at G H ⊢;rw [vF];simp only [kJ,DK,ji];refine (Ln G).2 (λj d=> ?_);rw [sG] at d;rw [DG];exact H j d
  by_cases a:∀i,i<l.length->∀h:i<l.length,ChOk l[i]/\(∀y:0<i,(l[i - 1]'(by omega)).1<l[i].1)/\aP (l.take (i+1))<=4611686018427387904/\∀j (d:j<l[i].2.2.2.2.2.1.length),l[i].2.2.2.2.2.1[j].1 ∉ cY (l.take i)++ (l[i].2.2.2.2.2.1.map (·.1)).take j
  ·rw [aw a,aw];refine ⟨by omega,λc p=> ?_,EL (λi b=>(a (i+1) b b).2.1 (by omega)),?_,?_⟩
   ·obtain ⟨i,b,rfl⟩:=kH p;exact (a i b b).1
   ·cases I:l.length with
    |zero=>rw [jK.1 I];simp [aP]
    |succ n=>
     have:=(a n (by omega) (by omega)).2.2.1;rw [<-I,fX] at this;exact this
   ·have:=D l.length (aR _) (λi b h=>(a i b h).2.2.2)
    rwa [fX] at this
  ·rw [ak a,ak];intro k;refine a (λi _ b=>⟨k.ch _ (bt b),λy=>mM k.inc (by omega) b,?_,λj d O=> ?_⟩)
   ·have e:aP (l.take (i+1))+aP (l.drop (i+1))=aP l:=by rw [<-qH,mC]
    have:=Kl (l:=l.drop (i+1)) (λc p=>A c (iJ p));have:=k.tot;omega
   ·have e:cY l=cY (l.take i)++ (l[i].2.2.2.2.2.1.map (·.1)++cY (l.drop (i+1))):=by
     unfold cY
     conv=>lhs;rw [<-mC i l,gT b]
     rw [vF,kJ]
    have s:=k.nod;rw [e,<-fK] at s;have w:=(nG.1 s).1;have P:=(nG.1 w).1;have:=(Ln P).1 w j (by rw [sG];exact d);rw [DG] at this;exact this O
open Classical in
theorem uq {l:List D2} (a:∀c ∈ l,ChTy c):ow l=some (if LedOk l then 0 else 1):=by
 unfold ow;rw [Oj a,ai];split <;>rfl
end Go.Proofs.YtkihadlgknhpkaaGreatDoor.T
namespace Go.Proofs.YtkihadlgknhpkaaGreatDoor.T
open Go Go.Fw Go.Proofs RB
set_option maxRecDepth 20000
def zC:D2:=(0,0,0,0,0,[],false)
theorem ru (h:l.length<=1000000):lj l=some l:=by
 grind[az,lj,bC]
theorem A8 (h:l.length<=1000000):ry l=some l:=by
 grind[az,ry,bC]
theorem N6 (h:c.2.2.2.2.2.1.length<=1000000):tZ c=some c:=by grind[tZ,ru]
theorem XQ {l} {G:t.den->Option t.den} (d:∀x ∈ l,G x=some x) (e:l.length<=1099511627776) (K:List t.den->Option α) {r} (f:K l=some r):
 aD (λ(b:(Int×List t.den)->Option α) (a:Int×List t.den)=>
 bif decide (a.1<(l.length:Int)) then (
 bif ae a.1 a.2.length then
 (G (rd t a.2 a.1)).bind λj=>
 bif ae a.1 a.2.length then
 b ((IntKind.wrap .i64 (a.1+1)),(a.2.set a.1.toNat j))
 else none
 else none)
 else (
 K a.2)) (0,l)=some r:=by
 refine fA l.length (λi:Nat=>((i:Int),l)) (λx=>x.1.toNat) (λi _=>by simp) r (λi g c=> ?_) (λc=> ?_)
 all_goals grind[aV,aU,cx,List.set_getElem_self]
theorem agu (a:l.length<=1000000) (h:∀c ∈ l,c.2.2.2.2.2.1.length<=1000000):l9 l=some l:=by
 unfold l9;rw [A8 a,ai];exact XQ (t:=Y8) (G:=tZ) (λc b=>N6 (h c b)) (by omega) (λx=>some x) rfl
def mL (x) (l):=b7 HK x.1 l++x::bQ HK x.1 l
def lU (q) (l):=b7 HK q l++ (bQ HK q l).tail
def gN (q:Int) (l:List (Int×Int)):Int:=match bQ HK q l with|x::_=>x.2| []=>0
def nZ (c:D2) (id n:Int):D2×Int:=
 if n=0\/4611686018427387904<n then (zC,1) else
 if c.2.2.2.2.2.2=false then (zC,14) else
 if aN HK id c.2.2.2.2.2.1=true then (zC,6) else
 if c.2.2.2.2.2.1.length=64 then (zC,7) else
 if c.2.1<c.2.2.2.1\/c.2.1 - c.2.2.2.1<n then (zC,9) else
 if c.2.2.2.2.1 - bn c.2.2.2.2.2.1<n then (zC,8) else
 ((c.1,c.2.1 - n,c.2.2.1,c.2.2.2.1,c.2.2.2.2.1,mL (id,n) c.2.2.2.2.2.1,c.2.2.2.2.2.2),0)
theorem af7 (a:ChTy c) (k:ChOk c) {id n} (g:ay n):AE (c,id,n)=some (nZ c id n):=by
 unfold AE nZ;dsimp -beta -proj only;have u:=k.few;rw [xg a,aw k,ai,NW (by omega) k.inc,ai];by_cases c1:n=0
 ·grind[zC]
 simp only [c1,al,aK,ax,aa,bJ,ah,qu];rw [tK (by simp)];simp only [ai,a8,eu,ep,yE];by_cases h:n<=4611686018427387904
 ·rw [aw h,ak (by omega)];simp only [al,ax,aa]
  cases v:c.2.2.2.2.2.2 with
  |false=>simp [zC]
  |true=>
   simp only [ax,aa,DR,aH]
   cases w:aN HK id c.2.2.2.2.2.1 with
   |true=>simp [zC]
   |false=>
    simp only [aa,dQ,aH];by_cases i:c.2.2.2.2.2.1.length=64
    ·grind[zC]
    ·have e:¬ (c.2.2.2.2.2.1.length:Int)=64:=by omega
     have b:=a.loc;have d:=a.res;have f:=a.most;have j:=nY (l:=c.2.2.2.2.2.1) (λx m=>(a.holds x m).2.1);have y:=k.hm;simp only [i,e,aK,aa,aH];by_cases o:c.2.1<c.2.2.2.1
     ·grind[zC]
     ·have w1:IntKind.wrap .u64 (c.2.1 - c.2.2.2.1)=c.2.1 - c.2.2.2.1:=fY (by omega) (by have:=b.2;have:=d.1;omega);have p:IntKind.wrap .u64 (c.2.2.2.2.1 - bn c.2.2.2.2.2.1)=c.2.2.2.2.1 - bn c.2.2.2.2.2.1:=fY (by omega) (by have:=f.2;omega);simp only [o,aK,aa,qu,w1,p];by_cases q:c.2.1 - c.2.2.2.1<n
      ·grind[zC]
      ·simp only [q,aK,aa,aH];by_cases r:c.2.2.2.2.1 - bn c.2.2.2.2.2.1<n
       ·grind[zC]
       ·have s:IntKind.wrap .u64 (c.2.1 - n)=c.2.1 - n:=fY (by have:=d.1;omega) (by have:=b.2;have:=g.1;omega);have z:=ph (k:=HK) id c.2.2.2.2.2.1;have g1:ae (bj HK id c.2.2.2.2.2.1:Int) (c.2.2.2.2.2.1.length+1)=true:=bp (by omega) (by omega);have t:(c.2.2.2.2.2.1.length+1)*16<=az:=by grind[az]
        simp only [r,aK,aa,aH,ru (show c.2.2.2.2.2.1.length<=1000000 by omega),ai,g1,t,al,jM,ah,s,bu,tp];rfl
 grind[zC]
theorem LX (q) (l):bn (b7 HK q l)+bn (bQ HK q l)=bn l:=by rw [<-wo,eQ]
theorem ad0 (x) (l):bn (mL x l)=bn l+x.2:=by
 unfold mL;rw [wo,<-LX x.1 l]
 grind[bn]
theorem LC :y ∈ mL x l↔y=x\/y ∈ l:=by
 grind[eQ,mL]
theorem Eu (x) (l):(mL x l).Perm (x::l):=by
 grind[eQ,mL]
theorem adK (x) (l):(mL x l).length=l.length+1:=by rw [(Eu x l).length_eq,aW]
theorem ad1 (a:ChTy c) (k:ChOk c) {id n:Int} (o:ay id) (j:ay n) (h:nZ c id n=(d,0)):
 ChTy d/\ChOk d/\cZ d=cZ c/\d.1=c.1/\0<n/\aN HK id c.2.2.2.2.2.1=false/\d.2.2.2.2.2.1=mL (id,n) c.2.2.2.2.2.1/\d.2.2.2.2.2.2=true/\c.2.2.2.2.2.2=true:=by
 unfold nZ at h;split at h
 ·grind
 rename_i c1;split at h
 ·grind
 rename_i p;split at h
 ·grind
 rename_i q;split at h
 ·grind
 rename_i r;split at h
 ·grind
 rename_i s;split at h
 ·grind
 rename_i t;simp only [aL,dn] at h;subst h;have f:aN HK id c.2.2.2.2.2.1=false:=by grind
 have b:c.2.2.2.2.2.2=true:=by grind
 have l:=a.loc;have g:=a.res;have:=j.1;have i:0<n:=by omega
 have m:=ad0 (id,n) c.2.2.2.2.2.1;simp only at m;refine ⟨⟨a.id,⟨by simp only;have:=g.1;omega,by simp only;have:=l.2;omega⟩,a.rem,a.res,a.most,?_⟩,⟨k.res,k.most,?_,.inl b,?_,?_,?_,?_⟩,?_,rfl,i,f,rfl,b,b⟩
 ·intro x e;rcases LC.1 e with rfl|e
  ·grind
  ·exact a.holds x e
 ·simp only [adK];have:=k.few;omega
 ·intro x e;rcases LC.1 e with rfl|e
  ·exact i
  ·exact k.pos x e
 ·exact wj k.inc f rfl
 ·grind
 ·have:=k.all
  grind
 grind[cZ]
def jn (c:D2) (id:Int) (a:Bool):D2×Int×Int:=
 if aN HK id c.2.2.2.2.2.1=true then
  ((c.1,bif a then c.2.1 else c.2.1+gN id c.2.2.2.2.2.1,bif a then c.2.2.1+gN id c.2.2.2.2.2.1 else c.2.2.1,c.2.2.2.1,c.2.2.2.2.1,lU id c.2.2.2.2.2.1,c.2.2.2.2.2.2),gN id c.2.2.2.2.2.1,0)
 else (zC,0,5)
theorem XD (q) (l):l.drop (bj k q l+1)=(bQ k q l).tail:=by
 rw [<-vH,La,List.drop_one]
theorem LY (h:bB HK l) (a:aN HK q l=true):bn (lU q l)+gN q l=bn l:=by
 obtain ⟨x,r,b,c,_⟩:=pr h a;have:=LX q l;unfold lU gN;rw [wo,b]
 grind[bn]
theorem aed (h:bB HK l) (a:aN HK q l=true):(q,gN q l) ∈ l:=by
 obtain ⟨x,r,b,c,_⟩:=pr h a
 grind[gN]
theorem Nb (b:ChTy c) (k:ChOk c) {id:Int} (d:aN HK id c.2.2.2.2.2.1=true):0<=gN id c.2.2.2.2.2.1/\gN id c.2.2.2.2.2.1+c.2.1+c.2.2.1<=4611686018427387904/\0<=bn (lU id c.2.2.2.2.2.1):=by
 have e:=LY k.inc d;have f:=(b.holds _ (aed k.inc d)).2.1
 have g:0<=bn (lU id c.2.2.2.2.2.1):=nY (λx a=>by
  have:x ∈ c.2.2.2.2.2.1:=by
   rw [<-eQ (k:=HK) id c.2.2.2.2.2.1];rcases cz.1 a with a|a
   all_goals grind[List.mem_of_mem_tail]
  exact (b.holds x this).2.1)
 have:=k.all;omega
theorem NZ (a:ChTy c) (k:ChOk c) {id}:AR (c,id,())=some (jn c id false)/\AQ (c,id,())=some (jn c id true):=by
 have n:=k.few;unfold AR AQ jn;dsimp -beta -proj only;rw [AY a,aw k,ai];simp only [al,ax,aa];rw [NW (by omega) k.inc,ai]
 cases d:aN HK id c.2.2.2.2.2.1 with
 |false=>simp [zC]
 |true=>
  obtain ⟨x,r,o,p,f,q⟩:=pr k.inc d;obtain ⟨g,g1,s⟩:=Nb a k d;have e:gN id c.2.2.2.2.2.1=x.2:=by grind[gN]
  have b:rd Y0 c.2.2.2.2.2.1 (bj HK id c.2.2.2.2.2.1:Int)=x:=by
   grind[aU]
  have h:=a.loc.1;have i:=a.rem.1;have w0:IntKind.wrap .i64 ((bj HK id c.2.2.2.2.2.1:Int)+1)=((bj HK id c.2.2.2.2.2.1+1:Nat):Int):=cx (by omega);have j:ae ((bj HK id c.2.2.2.2.2.1+1:Nat):Int) (c.2.2.2.2.2.1.length+1)=true:=aV (by omega);have l:((bj HK id c.2.2.2.2.2.1:Int)<= ((bj HK id c.2.2.2.2.2.1+1:Nat):Int)):=by omega
  rw [e] at g g1;have w1:IntKind.wrap .u64 (c.2.1+x.2)=c.2.1+x.2:=fY (by omega) (by omega);have m:IntKind.wrap .u64 (c.2.2.1+x.2)=c.2.2.1+x.2:=fY (by omega) (by omega);simp only [ax,aa,aV f,ah,ru (show c.2.2.2.2.2.1.length<=1000000 by omega),ai,b,w0,j,l,dp,al,jM,w1,m,bu,K6,XD,aI,e];exact ⟨rfl,rfl⟩
theorem agx (a:ChTy c) (k:ChOk c) {id}:A4 (c,id)=some (jn c id false):=by grind[A4,NZ]
theorem agw (a:ChTy c) (k:ChOk c) {id}:A3 (c,id)=some (jn c id true):=by grind[A3,NZ]
theorem LF (h:y ∈ lU q l):y ∈ l:=by
 rw [<-eQ (k:=HK) q l];rcases cz.1 h with a|a
 all_goals grind[List.mem_of_mem_tail]
theorem Lc (h:bB HK l) (a:aN HK q l=true):((q,gN q l)::lU q l).Perm l:=by
 obtain ⟨x,r,b,c,_⟩:=pr h a
 grind[eQ,gN,lU]
theorem aeF (b:ChTy c) (k:ChOk c) {id n} (h:jn c id j=(d,n,0)):
 ChTy d/\ChOk d/\cZ d=cZ c/\d.1=c.1/\aN HK id c.2.2.2.2.2.1=true/\n=gN id c.2.2.2.2.2.1/\d.2.2.2.2.2.1=lU id c.2.2.2.2.2.1/\ay n:=by
 unfold jn at h;split at h
 ·rename_i f;obtain ⟨l,g1,m⟩:=Nb b k f;have hd:=LY k.inc f;have g:=b.loc;have e:=b.rem;simp only [aL,dn] at h;obtain ⟨rfl,rfl⟩:=h
  have a:(lU id c.2.2.2.2.2.1).Sublist c.2.2.2.2.2.1:=by
   conv=>rhs;rw [<-eQ (k:=HK) id c.2.2.2.2.2.1]
   exact List.Sublist.append (List.Sublist.refl _) (List.tail_sublist _)
  refine ⟨⟨b.id,?_,?_,b.res,b.most,λx i=>b.holds x (LF i)⟩,⟨k.res,k.most,?_,?_,λx i=>k.pos x (LF i),yR a k.inc,?_,?_⟩,?_,rfl,f,rfl,rfl,⟨l,by have:=g.1;have:=e.1;omega⟩⟩
  ·cases j
   ·exact ⟨by simp only [aa];have:=g.1;omega,by simp only [aa];have:=e.1;omega⟩
   grind
  ·cases j
   ·exact e
   ·exact ⟨by simp only [ah];have:=e.1;omega,by simp only [ah];have:=g.1;omega⟩
  ·have:=a.length_le;have:=k.few;grind
  ·rcases k.op with h|h
   all_goals grind
  ·have:=k.hm;grind
  ·have:=k.all
   grind
  grind[cZ]
 grind
def jP (c:D2) (n:Int):D2×Int:=
 if 4611686018427387904<n then (zC,1) else if c.2.2.2.2.2.2=false then (zC,14) else if c.2.2.1<n then (zC,9) else
 ((c.1,c.2.1+n,c.2.2.1 - n,c.2.2.2.1,c.2.2.2.2.1,c.2.2.2.2.2.1,c.2.2.2.2.2.2),0)
theorem NY (c:ay a) (d:ay b):wR (a,b)=some (if a<=4611686018427387904/\b<=4611686018427387904 then (if a<b then (0,9) else (a - b,0)) else (0,1)):=by
 obtain ⟨e,f⟩:=c;obtain ⟨g,h⟩:=d
 grind[wR,tK,Cl,Ck]
theorem agv (a:ChTy c) (k:ChOk c) (d:ay n):AZ (c,n)=some (jP c n):=by
 unfold AZ jP;have g:=k.few;have b:=a.loc;have e:=a.rem;have h:=nY (l:=c.2.2.2.2.2.1) (λx f=>(a.holds x f).2.1);have i:=k.all;rw [AY a,aw k,ai];simp only [al,ax,bJ,ah];rw [tK (by simp)];simp only [ai,a8,eu,ep,yE];by_cases c1:n<=4611686018427387904
 ·rw [aw c1,ak (show ¬4611686018427387904<n by omega),NY e d,aw ⟨by have:=b.1;omega,c1⟩];simp only [al,ax,aa,ai]
  cases j:c.2.2.2.2.2.2 with
  |false=>simp [zC]
  |true=>
   simp only [ax,aa,DR,aH];by_cases m:c.2.2.1<n
   ·grind[zC]
   ·have w:IntKind.wrap .u64 (c.2.1+n)=c.2.1+n:=fY (by have:=b.1;have:=d.1;omega) (by have:=b.1;omega)
    grind[ru]
 grind[zC]
theorem ac9 (a:ChTy c) (k:ChOk c) (b:ay n) (h:jP c n=(d,0)):ChTy d/\ChOk d/\cZ d=cZ c/\d.1=c.1/\d.2.2.2.2.2.1=c.2.2.2.2.2.1:=by
 unfold jP at h;split at h
 ·grind
 split at h
 ·grind
 split at h
 ·grind
 rename_i c1 i j;simp only [aL,dn] at h;subst h;have e:=a.loc;have f:=a.rem;have m:=nY (l:=c.2.2.2.2.2.1) (λx g=>(a.holds x g).2.1);have o:=k.all;have:=b.1;refine ⟨⟨a.id,⟨by simp only;have:=e.1;omega,by grind⟩,⟨by grind,by simp only;have:=f.2;omega⟩,a.res,a.most,a.holds⟩,⟨k.res,k.most,k.few,k.op,k.pos,k.inc,k.hm,by grind⟩,by grind[cZ],rfl,rfl⟩
def jV (c:D2):D2×Int:=if c.2.2.2.2.2.2=false then (zC,14) else if c.2.2.2.2.2.1≠ [] then (zC,10) else ((c.1,c.2.1,c.2.2.1,c.2.2.2.1,c.2.2.2.2.1,[],false),0)
theorem ags (b:ChTy c) (k:ChOk c):AW c=some (jV c):=by
 unfold AW jV;rw [AY b,aw k,ai];simp only [al,ax,aa]
 cases c.2.2.2.2.2.2 with
 |false=>simp [zC]
 |true=>
  cases c.2.2.2.2.2.1 with
  |nil=>simp
  |cons a r=>
   grind[zC]
theorem aeO (b:ChTy c) (k:ChOk c) (h:jV c=(d,0)):ChTy d/\ChOk d/\cZ d=cZ c/\d.1=c.1/\d.2.2.2.2.2.1=c.2.2.2.2.2.1:=by
 unfold jV at h;split at h
 ·simp at h
 split at h
 ·simp at h
 rename_i c1 i;simp only [aL,dn] at h;subst h;have a:=by simpa using i
 have f:=k.all;have g:=k.hm;rw [a] at f g;refine ⟨⟨b.id,b.loc,b.rem,b.res,b.most,λx e=>by simp at e⟩,⟨k.res,k.most,by simp,.inr rfl,λx e=>by simp at e,List.Pairwise.nil,g,f⟩,by unfold cZ;rw [a],rfl,a.symm⟩
end Go.Proofs.YtkihadlgknhpkaaGreatDoor.T
