/- Part 40: lemmas that the last text needs. -/
import Derived.Test.YtkihadlgknhpkaaGreatDoorX39
set_option linter.all false
set_option autoImplicit true
set_option relaxedAutoImplicit true
namespace Go.Proofs.YtkihadlgknhpkaaGreatDoor.T
open Go Go.Fw Go.Proofs RB
set_option maxRecDepth 20000
def lS (c:Cv) (rest:List Int):Cv×Int:=if rest≠ []\/cr c≠0 then ((0,(0,0)),2) else (c,0)
def wu (n a:Int) (b:List Int):Cv×Int:=if (aE b).2.2≠0 then ((0,(0,0)),(aE b).2.2) else lS (n,(a,(aE b).1)) (b.drop (aE b).2.1.toNat)
def wv (n:Int) (b:List Int):Cv×Int:=if (aE b).2.2≠0 then ((0,(0,0)),(aE b).2.2) else
 if n=4 then wu n (aE b).1 (b.drop (aE b).2.1.toNat) else lS (n,((aE b).1,0)) (b.drop (aE b).2.1.toNat)
def eH (b:List Int):Cv×Int:=if (aE b).2.2≠0 then ((0,(0,0)),(aE b).2.2) else
 if (aE b).1<1\/5<(aE b).1 then ((0,(0,0)),2) else wv (aE b).1 (b.drop (aE b).2.1.toNat)
theorem ada (r:List Int):decide ((0:Int) <(r.length:Int))=decide (r≠ []):=by
 cases r with
 |nil=>rfl
 |cons a r=>grind
theorem aeh (c) (rest):(bif (decide (rest≠ [])==false) then (bif (!decide (cr c=0)) then some (((0,(0,0)),2):Cv×Int) else some (c,0)) else some ((0,(0,0)),2))=some (lS c rest):=by
 grind[lS]
theorem XP (a:1<=n) (b:n<=5):IntKind.wrap .i64 n=n:=cX (by omega) (by omega)
theorem tr (h:∀n ∈ b,cJ n):((aE b).2.2=0/\ay (aE b).1/\ae (aE b).2.1 (b.length+1)=true/\aC (aE b).1++b.drop (aE b).2.1.toNat=b/\(b.drop (aE b).2.1.toNat).length<b.length)\/((aE b).2.2≠0/\decide ((aE b).2.2=0)=false):=by
 rcases Mb h (y:=(aE b).1) (m:=(aE b).2.1) (e:=(aE b).2.2) rfl with ⟨a,c,d,f,g,i⟩| ⟨a,_⟩
 ·left;refine ⟨a,⟨c,d⟩,bp (by omega) (by omega),by simp_all,?_⟩
  grind
 grind
theorem wA {b:List Int} (h:∀n ∈ b,cJ n) (k):∀n ∈ b.drop k,cJ n:=λn a=>h n (iJ a)
theorem E4 (e:1<=k) (f:k<=5) (c:ay a) (d:ay b):dV (k,(a,b)):=⟨⟨by omega,by omega⟩,c,d⟩
theorem bN:ay 0:=⟨by omega,by omega⟩
def lO (x:List Int×Int×Int×Int×List Int):=
 if x.2.2.2.1=0 then eH x.1 else if x.2.2.2.1=1 then wv (x.2.2.2.2.getD 0 0) x.1 else
 if x.2.2.2.1=2 then (if x.2.2.2.2.getD 0 0=4 then wu (x.2.2.2.2.getD 0 0) (x.2.2.2.2.getD 1 0) x.1 else lS (x.2.2.2.2.getD 0 0,(x.2.2.2.2.getD 1 0,0)) x.1) else
 lS (x.2.2.2.2.getD 0 0,(x.2.2.2.2.getD 1 0,x.2.2.2.2.getD 2 0)) x.1
theorem NP (h:∀n ∈ b,cJ n) (E:b.length<=4611686018427387904):iu b=some (eH b):=by
 unfold iu;dsimp -beta -proj only
 refine (bE (λx=>(∀n ∈ x.1,cJ n)/\x.1.length<=4611686018427387904/\
  ((x.2.2.2.1=0/\x.2.2.1=2/\x.2.2.2.2= [0,0,0])\/
   (∃n,1<=n/\n<=5/\x.2.2.2.1=1/\x.2.2.1=(if n=4 then 3 else 2)/\x.2.2.2.2= [n,0,0])\/
   (∃n a,1<=n/\n<=5/\ay a/\x.2.2.2.1=2/\x.2.2.1=(if n=4 then 3 else 2)/\x.2.2.2.2= [n,a,0])\/
   (∃a c,ay a/\ay c/\x.2.2.2.1=3/\x.2.2.1=3/\x.2.2.2.2= [4,a,c]))) (λx=>3 - x.2.2.2.1.toNat) lO ?_ (b,(0:Int),(2:Int),(0:Int),[0,0,0]) ⟨h,E,.inl ⟨rfl,rfl,rfl⟩⟩).trans (by simp [lO])
 rintro ⟨b,q,e,i,g⟩ ⟨p,hlen,B⟩ F r;simp only at p hlen B
 have k:∀ (n a c:Int),1<=n->n<=5->ay a->ay c->i=e->g= [n,a,c]->(e=2\/e=3)->
  (bif ae 0 3 then bif ae 1 3 then bif ae 2 3 then
   bif (decide (0<(b.length:Int))==false) then (
   (mV ((IntKind.wrap .i64 (rd (.int .u64) g 0)),((rd (.int .u64) g 1),(rd (.int .u64) g 2)))).bind λG=>
   bif (!decide (G=0)) then some (((0,(0,0)),2):Cv×Int)
   else some (((IntKind.wrap .i64 (rd (.int .u64) g 0)),((rd (.int .u64) g 1),(rd (.int .u64) g 2))),0))
   else some ((0,(0,0)),2)
   else none else none else none)=some (lS (n,(a,c)) b):=by
  intro n a c v m t A s d j;subst d;have H:rd (.int .u64) [n,a,c] 0=n:=rfl;have I:rd (.int .u64) [n,a,c] 1=a:=rfl;have J:rd (.int .u64) [n,a,c] 2=c:=rfl;rw [H,I,J,XP v m,ux (E4 v m t A)];simp only [show ae 0 3=true from rfl,show ae 1 3=true from rfl,show ae 2 3=true from rfl,ah,ada,ai]
  grind[aeh]
 rcases B with ⟨s,j,d⟩| ⟨n,v,m,s,j,d⟩| ⟨n,a,v,m,t,s,j,d⟩| ⟨a,c,t,A,s,j,d⟩
 ·subst s;subst j;subst d;simp only [show decide ((0:Int) <2)=true from rfl,ah,ma p hlen,ai,lO,aI,eH,al,bJ,Bool.true_eq];rcases tr p with ⟨e0,y,o,C,w⟩| ⟨e0,D⟩
  ·simp only [e0,al,ax,aa,cU,dm,aH];by_cases q1:(aE b).1<1
   ·grind
   by_cases K:5<(aE b).1
   ·grind
   simp only [q1,K,aK,aa,vv,aH,o,ah,show ae 0 3=true from rfl];have z:=wA p (aE b).2.1.toNat;have w1:IntKind.wrap .i64 ((0:Int)+1)=1:=by decide
   have L:IntKind.wrap .i64 ((2:Int)+1)=3:=by decide
   have l:([0,0,0]:List Int).set (Int.toNat 0) (aE b).1= [(aE b).1,0,0]:=rfl;by_cases u:(aE b).1=4
   ·simp only [u,al,ah,w1,L]
    grind[lO]
   ·simp only [u,aK,aa,w1]
    grind[lO]
  grind
 ·subst s;subst d;have M:decide ((1:Int) <e)=true:=by rw [j];split <;>rfl
  simp only [M,ah,ma p hlen,ai,lO,wv,show ¬ ((1:Int)=0) by omega,aH,aI,aK,List.getD_cons_zero,show (false==true)=false from rfl,aa];rcases tr p with ⟨e0,y,o,C,w⟩| ⟨e0,D⟩
  ·simp only [e0,al,ax,aa,cU,dm,aH,o,ah,show ae 1 3=true from rfl];have z:=wA p (aE b).2.1.toNat;have w1:IntKind.wrap .i64 ((1:Int)+1)=2:=by decide
   have l:([n,0,0]:List Int).set (Int.toNat 1) (aE b).1= [n,(aE b).1,0]:=rfl;rw [w1,l,r (b.drop (aE b).2.1.toNat,q,e,2,[n,(aE b).1,0]) ⟨z,by grind,.inr (.inr (.inl ⟨n,_,by omega,by omega,y,rfl,j,rfl⟩))⟩ (by simp)];simp [lO]
  grind
 ·subst s;by_cases u:n=4
  ·subst u;simp only [aI] at j;subst j;subst d;simp only [show decide ((2:Int) <3)=true from rfl,ah,ma p hlen,ai,lO,wu,show ¬ ((2:Int)=0) by omega,show ¬ ((2:Int)=1) by omega,aH,aI,aK,List.getD_cons_zero,List.getD_cons_succ,show (false==true)=false from rfl,aa];rcases tr p with ⟨e0,y,o,C,w⟩| ⟨e0,D⟩
   ·simp only [e0,al,ax,aa,cU,dm,aH,o,ah,show ae 2 3=true from rfl];have z:=wA p (aE b).2.1.toNat;have w1:IntKind.wrap .i64 ((2:Int)+1)=3:=by decide
    have l:([4,a,0]:List Int).set (Int.toNat 2) (aE b).1= [4,a,(aE b).1]:=rfl;rw [w1,l,r (b.drop (aE b).2.1.toNat,q,3,3,[4,a,(aE b).1]) ⟨z,by grind,.inr (.inr (.inr ⟨a,_,t,y,rfl,rfl,rfl⟩))⟩ (by simp)];simp [lO]
   grind
  ·rw [ak u] at j;have f:=k n a 0 v m t bN j.symm d (.inl j);subst j;simp only [show decide ((2:Int) <2)=false from rfl,aa];refine f.trans ?_;subst d;simp [lO,u]
 ·have f:=k 4 a c (by omega) (by omega) t A (by omega) d (.inr j);subst s;subst j;simp only [show decide ((3:Int) <3)=false from rfl,aa];refine f.trans ?_;subst d;simp [lO]
theorem Ma (d:dV c) (h:cr c=0) (m):eH (bl c++m)=if m= [] then (c,0) else ((0,(0,0)),2):=by
 have k:=zV h;obtain ⟨n,a,b⟩:=c;have e:ay n:=⟨by omega,by omega⟩;have f:=d.2.1;have g:=d.2.2;simp only at k;unfold eH bl;simp only [fK,qQ e.1 e.2,zT,wv,qQ f.1 f.2];have i:=by omega
 simp only [cU,dm,aH,i];by_cases j:n=4
 ·subst j;simp only [aI,wu,qQ g.1 g.2,zT,dm,aH,lS,h]
  grind
 grind[lS]
theorem L9 (g:∀n ∈ b,cJ n) (h:eH b=(d,0)):cr d=0/\dV d/\bl d=b:=by
 unfold eH at h;rcases tr g with ⟨e0,x,y,z,p⟩| ⟨e0,A⟩
 ·rw [ak (λc=>c e0)] at h;split at h
  ·grind
  ·rename_i q;unfold wv at h;have i:=wA g (aE b).2.1.toNat;rcases tr i with ⟨e,r,s,t,j⟩| ⟨e,u⟩
   ·rw [ak (λc=>c e)] at h;have v:=wA i (aE (b.drop (aE b).2.1.toNat)).2.1.toNat;split at h
    ·rename_i w;unfold wu at h;rcases tr v with ⟨a,k,l,m,f⟩| ⟨a,o⟩
     ·rw [ak (λc=>c a)] at h;unfold lS at h
      grind[E4,bl]
     grind
    ·rename_i w;unfold lS at h
     grind[E4,bN,bl]
   grind
 grind
noncomputable def ey (m) (t):=
 if (dM m t).2≠0 then (0,(dM m t).2) else
 if (aE (dM m t).1).2.2≠0 then (0,(aE (dM m t).1).2.2) else
 if (aE (dM m t).1).2.1<((dM m t).1.length:Int) then (0,2) else ((aE (dM m t).1).1,0)
theorem LG:∀{l} {t} {v},fj l t=some v->∃r ∈ l,r.2=v
 | [],t,v,h=>by grind[fj]
 |a::r,t,v,h=>by
  unfold fj at h;split at h
  ·obtain ⟨x,j,C⟩:=LG h
   grind
  grind
theorem Mf (h:∀r ∈ m,Bs r.2) (a:fi m):Bs (dM m t).1/\(dM m t).1.length<=4096:=by
 unfold dM;rw [aw a]
 cases q:fj m t with
 |none=>exact ⟨by intro n c;grind,by simp⟩
 |some v=>
  obtain ⟨r,b,rfl⟩:=LG q;exact ⟨h r b,a.2.1 r b⟩
theorem NI (h:∀r ∈ m,Bs r.2) (a:fi m):BQ (m,t)=some (ey m t):=by
 obtain ⟨b,c⟩:=Mf (t:=t) h a;unfold BQ ey;simp only [FY,ai];by_cases c1:(dM m t).2=0
 ·simp only [c1,al,ax,aa,cU,dm,aH,ma b (by omega),ai]
  grind
 grind
theorem zt (h:∀r ∈ m,Bs r.2) (d:fi m) (a:(ey m t).2=0):∃v,fj m t=some v/\aC (ey m t).1=v/\ay (ey m t).1:=by
 obtain ⟨c,k⟩:=Mf (t:=t) h d;unfold ey at a ⊢;by_cases c1:(dM m t).2=0
 ·rw [ak (by omega)] at a ⊢
  have b:∃v,fj m t=some v/\(dM m t).1=v:=by
   grind[dM]
  obtain ⟨v,b,e⟩:=b;rw [e] at c a ⊢;rcases n5 c with ⟨e0,f,g,l,i⟩| ⟨e0,n⟩
  ·rw [ak (by omega)] at a ⊢;by_cases j:(aE v).2.1<(v.length:Int)
   ·grind
   ·rw [ak j];refine ⟨v,b,?_,⟨f.1,by omega⟩⟩
    grind[List.drop_eq_nil_of_le]
  grind
 grind
theorem Ll (b:fi m) (a:ay n) (c:fj m t=some (aC n)):ey m t=(n,0):=by
 have d:dM m t=(aC n,0):=by grind[dM]
 have e:=qQ a.1 a.2 []
 grind[zT,n5,ey]
def pl (i:Nat):=if i<2 then 1+ (i:Int) else 16+ ((i:Int) - 2)
theorem aha {i:Nat} (h:i<=1000):BP (i:Int)=some (pl i):=by
 grind[BP,pl,RB.ln,RB.dO]
def gX:List br->List Cv->List Cv×Int
 | [],a=>(a,0)
 |r::l,a=>if (eH r.2).2≠0 then ([],(eH r.2).2) else gX l (a++ [(eH r.2).1])
def qU (a b:Int) (p:List Cv×Int):fm×Int:=if p.2≠0 then ((0,([],0)),p.2) else ((a,(p.1,b)),0)
def od (m:List br) (a:Int) (i:Nat):Prop:=(1048576<a\/18<m.length)\/∃j,∃h:j<m.length,j<i/\m[j].1≠pl j
open Classical in
noncomputable def o9 (m:List br) (b a:Int):fm×Int:=if od m a m.length then ((0,([],0)),2) else qU b a (gX (m.drop 2) [])
noncomputable def nR (m:List br):fm×Int:=
 if (ey m 1).2≠0 then ((0,([],0)),(ey m 1).2) else
 if (ey m 2).2≠0 then ((0,([],0)),(ey m 2).2) else o9 m (ey m 1).1 (ey m 2).1
noncomputable def o8 (m:List br):fm×Int:=
 if (dM m 1).2≠0 then ((0,([],0)),5) else if (dM m 2).2≠0 then ((0,([],0)),5) else nR m
noncomputable def fC (b:List Int):fm×Int:=if (du b).2≠0 then ((0,([],0)),(du b).2) else o8 (du b).1
theorem MW (h):od m j (i+1)↔od m j i\/m[i].1≠pl i:=by
 grind[od]
theorem Me (h:(dM m t).2=0):m.length<=64/\∃v,fj m t=some v:=by
 unfold dM at h;split at h
 ·rename_i q;refine ⟨q.1,?_⟩
  grind
 omega
theorem Kk (c:fj m 1=some v) (d:fj m 2=some w):2<=m.length:=by
 match m,c,d with
 | [],h,_=>grind[fj]
 | [a],h,k=>
   grind[fj]
 |a::b::r,_,_=>simp
theorem NR (N:Bs b):iv b=some (fC b):=by
 unfold iv fC;dsimp -beta -proj only;simp only [FB N,ai];by_cases c1:(du b).2=0
 ·have y:=ET (m:=(du b).1) N (by grind);generalize (du b).1=m at y ⊢;obtain ⟨Q,w,hp⟩:=y;have d:∀r ∈ m,Bs r.2:=λr B=>(Q r B).2
  have hlen:m.length<=64:=w.1;simp only [c1,al,ax,aa,cU,dm,aH];refine bE (λ(x:Int×Int)=>x.2=0\/(x.2=1/\(dM m 1).2=0)\/(x.2=2/\(dM m 1).2=0/\(dM m 2).2=0)) (λx=>2 - x.2.toNat) (λ_=>o8 m) ?_ _ (.inl rfl);rintro ⟨q,i⟩ z o a;simp only at z;rcases z with rfl| ⟨rfl,C⟩| ⟨rfl,C,R⟩
  ·simp only [show decide ((0:Int) <2)=true from rfl,ah,show IntKind.wrap .u64 (1+ (IntKind.wrap .u64 0))=1 from rfl,FY,ai];by_cases k:(dM m 1).2=0
   ·simp only [k,al,ax,aa];exact a _ (.inr (.inl ⟨rfl,k⟩)) (by simp only;decide)
   grind[o8]
  ·simp only [show decide ((1:Int) <2)=true from rfl,ah,show IntKind.wrap .u64 (1+ (IntKind.wrap .u64 1))=2 from rfl,FY,ai];by_cases k:(dM m 2).2=0
   ·simp only [k,al,ax,aa];exact a _ (.inr (.inr ⟨rfl,C,k⟩)) (by simp only;decide)
   grind[o8]
  ·clear a;have S:o8 m=nR m:=by grind[o8]
   obtain ⟨_,v1,E⟩:=Me C;obtain ⟨_,v2,F⟩:=Me R;have T:=Kk E F;rw [S];simp only [show decide ((2:Int) <2)=false from rfl,aa];refine bE (λ(x:Int×Int×List Int)=>(x.2.1=0/\x.2.2= [0,0])\/(x.2.1=1/\x.2.2= [(ey m 1).1,0]/\(ey m 1).2=0)\/(x.2.1=2/\x.2.2= [(ey m 1).1,(ey m 2).1]/\(ey m 1).2=0/\(ey m 2).2=0)) (λx=>2 - x.2.1.toNat) (λ_=>nR m) ?_ _ (.inl ⟨rfl,rfl⟩);rintro ⟨q,i,U⟩ z o a;simp only at z;rcases z with ⟨rfl,rfl⟩| ⟨rfl,rfl,G⟩| ⟨rfl,rfl,G,V⟩
   ·simp only [show decide ((0:Int) <2)=true from rfl,ah,show IntKind.wrap .u64 (1+ (IntKind.wrap .u64 0))=1 from rfl,NI d w,ai,show ae 0 2=true from rfl];by_cases k:(ey m 1).2=0
    ·simp only [k,al,ax,aa];exact a _ (.inr (.inl ⟨rfl,rfl,k⟩)) (by simp only;decide)
    grind[nR]
   ·simp only [show decide ((1:Int) <2)=true from rfl,ah,show IntKind.wrap .u64 (1+ (IntKind.wrap .u64 1))=2 from rfl,NI d w,ai,show ae 1 2=true from rfl];by_cases k:(ey m 2).2=0
    ·simp only [k,al,ax,aa];exact a _ (.inr (.inr ⟨rfl,rfl,G,k⟩)) (by simp only;decide)
    grind[nR]
   ·clear a;have W:nR m=o9 m (ey m 1).1 (ey m 2).1:=by grind[nR]
    obtain ⟨_,_,_,X⟩:=zt d w G;obtain ⟨_,_,_,O⟩:=zt d w V;rw [W];generalize (ey m 1).1=l at X ⊢;generalize (ey m 2).1=e at O ⊢;have Y:rd (.int .u64) [l,e] 0=l:=rfl;have Z:rd (.int .u64) [l,e] 1=e:=rfl;simp only [show decide ((2:Int) <2)=false from rfl,aa,show ae 1 2=true from rfl,show ae 0 2=true from rfl,ah,Y,Z,bC];refine bE (λ(x:Bool×Int)=>∃i:Nat,x.2=(i:Int)/\i<=m.length/\(x.1=true↔od m e i)) (λx=>m.length - x.2.toNat) (λ_=>o9 m l e) ?_ _ ⟨0,rfl,by omega,?_⟩
    ·rintro ⟨f,i'⟩ ⟨i,g,hi,hf⟩ o a;simp only at g hf;subst g;simp only;by_cases c:i<m.length
     ·have s:((i:Int) <(m.length:Int)):=by omega
      simp only [s,al,ah,bp (dp i) s,aU (t:=tR) c];rw [RB.dO (n:=(i:Int)+1) (by omega) (by omega)]
      cases f with
      |false=>
       simp only [bJ,ah,aha (i:=i) (by omega),ai];refine a _ ⟨i+1,by simp,by omega,?_⟩ (by omega)
       grind[MW]
      |true=>
       simp only [show (true==false)=false from rfl,aa];refine a _ ⟨i+1,by simp,by omega,?_⟩ (by omega)
       grind[MW]
     ·have s:¬ ((i:Int) <(m.length:Int)):=by omega
      have H:i=m.length:=by omega
      clear a;subst H;simp only [s,aK,aa]
      cases f with
      |true=>
       grind[o9]
      |false=>
       have hnb:¬od m e m.length:=λh=>by grind
       have P:o9 m l e=qU l e (gX (m.drop 2) []):=by grind[o9]
       have hn:e<=1048576/\m.length<=18:=by
        grind[od]
       have k2:ae 2 (m.length+1)=true:=bp (by omega) (by omega);have I:((2:Int).toNat)=2:=rfl;simp only [k2,ah,aa,I,P];have J:(m.drop 2).length=m.length - 2:=gL;have j:∀r ∈ m.drop 2,Bs r.2/\r.2.length<=4096:=λr B=>⟨d r (iJ B),w.2.1 r (iJ B)⟩
       clear P;generalize m.drop 2=D at j J ⊢;refine bE (λ(x:Int×Int×List Cv× (Int×Int))=>∃i:Nat,x.2.1=(i:Int)/\i<=D.length/\x.2.2.1.length=i/\gX (D.drop i) x.2.2.1=gX D []/\x.2.2.2=(l,e)) (λx=>D.length - x.2.1.toNat) (λ_=>qU l e (gX D [])) ?_ _ ⟨0,rfl,by omega,rfl,rfl,?_⟩
       ·rintro ⟨q,i',u,p⟩ ⟨i,g,hi,K,L,A⟩ o a;simp only at g K L A;subst g;subst A;simp only;by_cases c:i<D.length
        ·have s:((i:Int) <(D.length:Int)):=by omega
         have M:Bs D[i].2:=(j _ (bt c)).1;have hbl:D[i].2.length<=4096:=(j _ (bt c)).2
         have v:gX (D.drop i) u=if (eH D[i].2).2≠0 then ([],(eH D[i].2).2) else gX (D.drop (i+1)) (u++ [(eH D[i].2).1]):=by
          rw [gT c,gX]
         simp only [s,al,ah,bp (dp i) s,aU (t:=tR) c,NP M (by omega),ai,eF];by_cases e0:(eH D[i].2).2=0
         ·have k3:(u.length+1)*24<=az:=by grind[az]
          rw [ak (by omega)] at v;simp only [e0,al,ax,aa,k3,ah];rw [RB.dO (n:=(i:Int)+1) (by omega) (by omega)];exact a _ ⟨i+1,by simp,by omega,by grind,by grind,rfl⟩ (by grind)
         grind[qU]
        grind[gX,qU]
       ·rw [RB.dO (by have:=O.1;omega) (by omega)]
    grind[od]
 grind
def zn:Nat->List br->Prop
 |_,[]=>True
 |i,r::l=>r.1=((16+i:Nat):Int)/\zn (i+1) l
theorem Lb:∀ (l) (i),(∀j (h),l[j].1=((16+ (i+j):Nat):Int))->zn i l
 | [],_,_=>aO
 |r::l,i,h=>⟨by grind,Lb l (i+1) λj C=>by
  have:=h (j+1) (by grind)
  grind⟩
theorem MI:∀ (l) (i) (a x),zn i l->(∀r ∈ l,Bs r.2)->gX l a=(x,0)->
 ∃cs,x=a++cs/\ba bl i cs=l/\∀c ∈ cs,dV c/\cr c=0
 | [],i,a,x,_,_,h=>by
   simp only [gX,aL,dn] at h;exact ⟨[],by simp [h],rfl,by simp⟩
 |r::l,i,a,x,j,C,h=>by
  unfold gX at h;by_cases e:(eH r.2).2=0
  ·rw [ak (by simp [e])] at h;obtain ⟨cs,J,I,R⟩:=MI l (i+1) _ x j.2 (λq b=>C q (iL _ b)) h;obtain ⟨g1,g,f⟩:=L9 (C r (by simp)) (d:=(eH r.2).1) (by grind);refine ⟨(eH r.2).1::cs,by grind,?_,λc k=> ?_⟩
   ·rw [ba,I,f,<-j.1]
   grind
  grind
theorem MJ:∀ (l) (i) (a),(∀c ∈ l,dV c/\cr c=0)->gX (ba bl i l) a=(a++l,0)
 | [],i,a,_=>by simp [ba,gX]
 |c::l,i,a,h=>by
  have j:=Ma (h c (by simp)).1 (h c (by simp)).2 [];rw [ji,aw rfl] at j;rw [ba,gX];simp only [j];rw [ak (by simp),MJ l (i+1) _ (λc b=>h c (iL _ b))];simp
theorem Lk:∀ (l) (i j) (h),(ba bl i l)[j].1=((16+ (i+j):Nat):Int)
 | [],i,j,h=>by grind[ba]
 |c::l,i,0,h=>by simp [ba]
 |c::l,i,j+1,h=>by
  have C:j<(ba bl (i+1) l).length:=by grind[ba]
  have:=Lk l (i+1) j C
  grind[ba]
theorem L7 (F:Bs b) (h:(fC b).2=0):gh (fC b).1/\ew (fC b).1/\dA (fC b).1=b:=by
 unfold fC at h ⊢;by_cases c1:(du b).2=0
 ·rw [ak (by omega)] at h ⊢;obtain ⟨l,u,v⟩:=ET (m:=(du b).1) F (by grind);generalize (du b).1=m at*;have a:=λr w=>(l r w).2
  unfold o8 at h ⊢;split at h
  ·omega
  rename_i G;split at h
  ·omega
  rename_i H;simp only [cU,nM] at G H;rw [ak (by omega),ak (by omega)];unfold nR at h ⊢;split at h
  ·omega
  rename_i x;split at h
  ·omega
  rename_i y;simp only [cU,nM] at x y;rw [ak (by omega),ak (by omega)];obtain ⟨I,n,O,J⟩:=zt a u x;obtain ⟨K,o,P,z⟩:=zt a u y;have p:=Kk n o;generalize (ey m 1).1=A at*;generalize (ey m 2).1=B at*;unfold o9 at h ⊢;split at h
  ·omega
  rename_i d;rw [ak d];have e:=λj s=>jL λq=>d (.inr ⟨j,s,s,q⟩)
  have L:=λq=>d (.inl (.inl q))
  have f:=λq=>d (.inl (.inr q))
  match m,p,l,v,a,e,n,o,f,h with
  |i::k::D,_,l,v,a,e,n,o,f,h=>
   have Q:i.1=1:=by grind[pl]
   have p1:k.1=2:=by grind[pl]
   have R:i.2=I:=by grind[fj]
   have g1:k.2=K:=by grind[fj]
   have g:zn 0 D:=Lb D 0 λj s=>by
    grind[pl]
   have hd:(i::k::D).drop 2=D:=rfl;rw [hd] at h ⊢;unfold qU at h ⊢;split at h
   ·omega
   rename_i q;rw [ak q];simp only [cU,nM] at q;obtain ⟨cs,C,S,E⟩:=MI D 0 [] (gX D []).1 g (λr w=>a r (by grind)) (by grind);rw [fJ] at C;rw [C];have M:cs.length=D.length:=by grind[kO]
   have N:ew (A,(cs,B)):=⟨by grind,⟨z.1,by grind⟩,λc t=>(E c t).2⟩;refine ⟨⟨J,λc t=>(E c t).1,⟨by have:=z.1;grind,by grind⟩⟩,N,?_⟩
   have T:fh (A,(cs,B))=i::k::D:=by
    grind[fh]
   grind[K3]
 grind
theorem L8 (f:gh t) (b:ew t):fC (dA t)=(t,0):=by
 have hlen:=qI b;have d:=Eb f b;have a:=Km b;have i:=λr e=>(d r e).2
 have k:du (dA t)=(fh t,0):=by
  unfold du dA;rw [ak (by omega),ER (fh t) [] (λr e=>⟨d r e,a.2.1 r e⟩) a.2.2 a.1];simp
 have l:fj (fh t) 1=some (aC t.1):=by simp [fh,fj]
 have m:fj (fh t) 2=some (aC t.2.2):=by simp [fh,fj]
 have o:dM (fh t) 1=(aC t.1,0):=by grind[dM]
 have p:dM (fh t) 2=(aC t.2.2,0):=by grind[dM]
 have s:=Ll a f.1 l;have u:=Ll (n:=t.2.2) a ⟨b.2.1.1,by have:=b.2.1.2;omega⟩ m
 have g:¬od (fh t) t.2.2 (fh t).length:=by
  have v:=b.2.1.2;have w:=b.1;rintro ((q|q)| ⟨j,x,_,q⟩)
  all_goals grind[fh,kO,pl,Lk]
 unfold fC;rw [k];simp only;rw [ak (by simp)];unfold o8;rw [o,p];simp only;rw [ak (by simp),ak (by simp)];unfold nR;rw [s,u];simp only;rw [ak (by simp),ak (by simp)];unfold o9;rw [ak g];have hd:(fh t).drop 2=ba bl 0 t.2.1:=rfl;rw [hd,MJ t.2.1 0 [] (λc h=>⟨f.2.1 c h,b.2.2 c h⟩)]
 grind[qU]
end Go.Proofs.YtkihadlgknhpkaaGreatDoor.T
namespace Go.Proofs.YtkihadlgknhpkaaGreatDoor.T
open Go Go.Fw Go.Proofs RB
set_option maxRecDepth 20000
def jo (a:List Int):List Int->List Int×Int
 | []=>(a,0)
 |c::r=>if (aE (c::r)).2.2≠0 then ([],(aE (c::r)).2.2) else jo (a++ [(aE (c::r)).1]) (r.drop ((aE (c::r)).2.1.toNat - 1))
 termination_by l=>l.length
 decreasing_by grind
theorem Nc:∀ (l a),(∀n ∈ l,0<=n/\n<18446744073709551616)->jo a (l.flatMap aC)=(a++l,0)
 | [],a,_=>by simp [jo]
 |n::l,a,h=>by
  obtain ⟨j,C⟩:=h n (by simp);have b:=qQ j C (l.flatMap aC);rw [kJ];have e:aC n++l.flatMap aC=fst n::(gg n (dz n)++l.flatMap aC):=rfl;rw [e] at b ⊢;rw [jo];simp only [b];have c:((dz n:Int)+1).toNat - 1=dz n:=by omega
  rw [ak (by simp),c,List.drop_append_of_le_length (by grind[pw]),DM (by grind[pw]),fJ,
   Nc l _ (λm d=>h m (by grind))]
  simp
def bU (l):=if 65535<l.length then ([],4) else jo [] l
theorem aeL {r:List Int} {k:Int} (h:1<=k):(c::r).drop k.toNat=r.drop (k.toNat - 1):=by
 obtain ⟨q,a⟩:∃q:Nat,k.toNat=q+1:=⟨k.toNat - 1,by omega⟩
 grind
theorem NS (h:∀n ∈ l,cJ n):wI l=some (bU l):=by
 unfold wI bU;by_cases b:65535<l.length
 ·grind
 ·have:¬ (65535:Int) <(l.length:Int):=by omega
  simp only [this,aK,aa,ak b];refine bE (λx=>(∀n ∈ x.1,cJ n)/\x.1.length+x.2.1.length<=65535) (λx=>x.1.length) (λx=>jo x.2.1 x.1) ?_ (l,([]:List Int),(0:Int)) ⟨h,by grind⟩;rintro ⟨s,d,q⟩ ⟨e,hlen⟩ f a;simp only at e hlen ⊢
  cases s with
  |nil=>simp [jo]
  |cons c r=>
   have g:(0:Int) <((c::r).length:Int):=by grind
   grind[aE,jo,ma,bp,az,aeL]
theorem ae1 :(bU l).1.length<=l.length:=by
 have key:∀ (n) (l a),l.length<=n->(jo a l).1.length<=a.length+l.length:=by
  intro n
  induction n with
  |zero=>grind[jo]
  |succ n b=>
   intro l a h
   cases l with
   |nil=>grind
   |cons c r=>
    grind[jo]
 unfold bU;split
 all_goals grind
def lX (n:Int):=if n<4096 then n else 4096
noncomputable def ec (r:Rp) (q:br):Option Rp:=
 if q.1=7 then (if (fC q.2).2=0 then some (r.1,(r.2.1,(r.2.2.1,(r.2.2.2.1,(r.2.2.2.2.1,(r.2.2.2.2.2.1,(r.2.2.2.2.2.2.1,(fC q.2).1))))))) else none)
 else if (bU q.2).2≠0 then none
 else if q.1=6 then some (r.1,(r.2.1,(r.2.2.1,(r.2.2.2.1,(r.2.2.2.2.1,((bU q.2).1,(r.2.2.2.2.2.2.1,r.2.2.2.2.2.2.2)))))))
 else if 16<=q.1 then (match (bU q.2).1 with
  | [a,k,x,n]=>if 16<=k then none else some (r.1,(r.2.1,(r.2.2.1,(r.2.2.2.1,(r.2.2.2.2.1,(r.2.2.2.2.2.1,(r.2.2.2.2.2.2.1++ [(a,(k,(x,n)))],r.2.2.2.2.2.2.2)))))))
  |_=>none)
 else match (bU q.2).1 with
  | [n]=>
    if q.1=1 then some (n,r.2) else
    if q.1=2 then some (r.1,(lX n,r.2.2)) else
    if q.1=3 then some (r.1,(r.2.1,(n,r.2.2.2))) else
    if q.1=4 then some (r.1,(r.2.1,(r.2.2.1,(n,r.2.2.2.2)))) else
    if q.1=5 then some (r.1,(r.2.1,(r.2.2.1,(r.2.2.2.1,(lX n,r.2.2.2.2.2))))) else none
  |_=>none
noncomputable def eY:Rp->List br->Option Rp
 |r,[]=>some r
 |r,q::l=>match ec r q with|some j=>eY j l|none=>none
def zP:Rp:=(0,(0,(0,(0,(0,([],([],(0,([],0)))))))))
theorem zY (h:∀n ∈ l,ay n) (b:l.length<=100):bU (l.flatMap aC)=(l,0):=by
 have hlen:=zO l;unfold bU;rw [ak (by omega),Nc l [] (λn a=>⟨(h n a).1,(h n a).2⟩)];simp
theorem lY (h:ay n):bU (aC n)=([n],0):=by
 have:=zY (l:= [n]) (by grind) (by simp)
 grind
theorem KR:∀ (l m) (r),eY r (l++m)=(eY r l).bind λj=>eY j m
 | [],m,r=>rfl
 |q::l,m,r=>by
  rw [dP,eY,eY]
  cases ec r q with
  |none=>rfl
  |some j=>exact KR l m j
theorem sV (a:c=true->ec r (t,v)=some j) (b:c=false->r=j):eY r (opt c t v)=some j:=by
 grind[opt,eY]
theorem KQ:∀ (l) (i) (r),(∀x ∈ l,xF x/\0<=x.2.1/\x.2.1<16)->eY r (ba iV i l)=some (r.1,(r.2.1,(r.2.2.1,(r.2.2.2.1,(r.2.2.2.2.1,(r.2.2.2.2.2.1,(r.2.2.2.2.2.2.1++l,r.2.2.2.2.2.2.2)))))))
 | [],i,r,_=>by simp [ba,eY]
 |x::l,i,r,h=>by
  obtain ⟨j,C,I⟩:=h x (by simp)
  have d:bU (iV x)=([x.1,x.2.1,x.2.2.1,x.2.2.2],0):=by
   unfold iV;refine zY ?_ (by simp);intro n a;simp only [a8,eu,ep] at a;rcases a with rfl|rfl|rfl|rfl
   ·exact j.1
   ·exact ⟨C,by omega⟩
   ·exact j.2.2.1
   ·exact j.2.2.2
  rw [ba,eY]
  have b:ec r (((16+i:Nat):Int),iV x)=some (r.1,(r.2.1,(r.2.2.1,(r.2.2.2.1,(r.2.2.2.2.1,(r.2.2.2.2.2.1,(r.2.2.2.2.2.2.1++ [x],r.2.2.2.2.2.2.2))))))):=by
   grind[ec]
  rw [b];simp only;rw [KQ l (i+1) _ (λy c=>h y (iL _ c))];simp
theorem ac0 (h:RpOk r) (k:okP r):eY zP (ie r)=some r:=by
 obtain ⟨i,e,a,n,s,ids,L,T⟩:=r;have l:=h.id;have d:=k.e;have c:=k.st;have u:=h.a;have v:=h.n;have hids:=h.ids;have f:=k.ids;have g:=h.tok;have m:=k.tok;have o:∀x ∈ L,xF x/\0<=x.2.1/\x.2.1<16:=λx j=>⟨h.evs x j,k.evs x j⟩
 simp only at d c;have w:ay e:=⟨d.1,by omega⟩;have y:ay s:=⟨c.1,by omega⟩;unfold ie;simp only [KR,fK]
 have p:eY zP [(1,aC i)]=some (i,zP.2):=by
  grind[eY,ec,lY]
 rw [p,ai]
 have q:eY (i,zP.2) (opt (!decide (e=0)) 2 (aC e))=some (i,(e,zP.2.2)):=by
  refine sV (λb=> ?_) (λb=> ?_)
  ·grind[ec,lY,lX]
  ·simp at b;subst b;rfl
 rw [q,ai]
 have s3:eY (i,(e,zP.2.2)) (opt (!decide (a=0)) 3 (aC a))=some (i,(e,(a,zP.2.2.2))):=by
  refine sV (λb=> ?_) (λb=> ?_)
  ·grind[ec,lY]
  ·simp at b;subst b;rfl
 rw [s3,ai]
 have s4:eY (i,(e,(a,zP.2.2.2))) (opt (!decide (n=0)) 4 (aC n))=some (i,(e,(a,(n,zP.2.2.2.2)))):=by
  refine sV (λb=> ?_) (λb=> ?_)
  ·grind[ec,lY]
  ·simp at b;subst b;rfl
 rw [s4,ai]
 have t:eY (i,(e,(a,(n,zP.2.2.2.2)))) (opt (!decide (s=0)) 5 (aC s))=some (i,(e,(a,(n,(s,zP.2.2.2.2.2))))):=by
  refine sV (λb=> ?_) (λb=> ?_)
  ·grind[ec,lY,lX]
  ·simp at b;subst b;rfl
 rw [t,ai]
 have s6:eY (i,(e,(a,(n,(s,zP.2.2.2.2.2))))) (opt (decide (0<(ids.length:Int))) 6 (ids.flatMap aC))=some (i,(e,(a,(n,(s,(ids,zP.2.2.2.2.2.2)))))):=by
  refine sV (λb=> ?_) (λb=> ?_)
  ·grind[ec,zY]
  ·simp at b;subst b;rfl
 rw [s6,ai]
 have s7:eY (i,(e,(a,(n,(s,(ids,zP.2.2.2.2.2.2)))))) (opt (!decide (T=(0,([],0)))) 7 (dA T))=some (i,(e,(a,(n,(s,(ids,([],T))))))):=by
  grind[sV,ec,L8,zP]
 grind[KQ]
theorem ae0:∀ (k) (l a),l.length<=k->Bs l->(∀n ∈ a,ay n)->∀n ∈ (jo a l).1,ay n:=by
 intro k
 induction k with
 |zero=>
  grind[jo]
 |succ k f=>
  intro l a h e i
  cases l with
  |nil=>grind
  |cons c r=>
   rw [jo];split
   ·grind
   ·rename_i j;rcases n5 e with ⟨g1,d,g,m,o⟩| ⟨g1,d,g⟩
    ·refine f _ _ ?_ (λn b=>e n (iL _ (iJ b))) ?_
     ·grind
     ·intro n b;rcases cz.1 b with b|b
      ·grind
      ·simp at b;subst b;exact ⟨d.1,d.2⟩
    omega
theorem wD (h:Bs l):∀n ∈ (bU l).1,ay n:=by
 unfold bU;split
 all_goals grind[ae0]
theorem aeQ (h:ay n):0<=lX n/\lX n<=4096:=by
 unfold lX;have:=h.1;omega
theorem L6 (a:Bs b) (h:(fC b).2=0):gh (fC b).1/\(fC b).1.2.1.length<=16:=⟨(L7 a h).1,(L7 a h).2.1.1⟩
theorem acZ (h:RpOk r) (D:Bs q.2) (N:q.2.length<=4096) (O:r.2.2.2.2.2.2.1.length<=1000) (b:ec r q=some I):RpOk I/\I.2.2.2.2.2.2.1.length<=r.2.2.2.2.2.2.1.length+1:=by
 have c:=wD D;have E:=ae1 (l:=q.2);obtain ⟨i,e,a,n,s,ids,L,T⟩:=r;obtain ⟨j,m,o,p,t,v,w,z,A,d,f⟩:=h;unfold ec at b;split at b
 ·split at b
  ·rename_i F;obtain ⟨G,P⟩:=L6 D F;simp only [aB] at b;subst b;exact ⟨⟨j,m,o,p,t,v,w,G,A,d,by grind⟩,by simp⟩
  grind
 ·split at b
  ·grind
  ·split at b
   ·simp only [aB] at b;subst b;exact ⟨⟨j,m,o,p,t,c,w,z,by grind,d,f⟩,by simp⟩
   ·split at b
    ·split at b
     ·rename_i H k x B C;rw [C] at c;split at b
      ·grind
      ·rename_i Q;simp only [aB] at b;subst b;have u:=c H (by simp);have J:=c k (by simp);have K:=c x (by simp);have M:=c B (by simp);refine ⟨⟨j,m,o,p,t,v,λy g=> ?_,z,A,by grind,f⟩,by simp⟩;rcases cz.1 g with g|g
       ·grind
       ·simp only [eP] at g;subst g;exact ⟨u,⟨by have:=J.1;grind,by grind⟩,K,M⟩
     grind
    ·split at b
     ·rename_i B C;rw [C] at c;have u:=c B (by simp);have R:=aeQ u
      repeat' split at b
      all_goals first
       | (simp at b;done)
       | (simp only [aB] at b;subst b;refine ⟨⟨?_,?_,?_,?_,?_,v,w,z,A,d,f⟩,by simp⟩ <;>first|exact u|exact j|exact m|exact o|exact p|exact t| grind)
     grind
end Go.Proofs.YtkihadlgknhpkaaGreatDoor.T
namespace Go.Proofs.YtkihadlgknhpkaaGreatDoor.T
open Go Go.Fw Go.Proofs RB
set_option maxRecDepth 20000
open Classical in
noncomputable def wx (b:List Int) (e:Int):Option Rp->Rp×Int
 |none=>(zP,2)
 |some r=>if e=0/\okP r/\gn r=b then (r,0) else (zP,2)
noncomputable def tq (b):=if 4096<b.length then (zP,4) else wx b (du b).2 (eY zP (du b).1)
abbrev SP:=Int×Int×List Ev× ((Int× (Int× (Int× (Int× (Int×List Int)))))×fm)
def v7 (x:SP):Rp:=(x.2.2.2.1.1,(x.2.2.2.1.2.1,(x.2.2.2.1.2.2.1,(x.2.2.2.1.2.2.2.1,(x.2.2.2.1.2.2.2.2.1,(x.2.2.2.1.2.2.2.2.2,(x.2.2.1,x.2.2.2.2)))))))
def oZ (q i:Int) (r:Rp):SP:=(q,(i,(r.2.2.2.2.2.2.1,((r.1,(r.2.1,(r.2.2.1,(r.2.2.2.1,(r.2.2.2.2.1,r.2.2.2.2.2.1))))),r.2.2.2.2.2.2.2))))
theorem Xu:RpOk zP:=by
 have z:ay 0:=⟨by decide,by decide⟩;exact ⟨z,by decide,z,z,by decide,by simp [zP],by simp [zP],⟨z,by simp [zP],by simp [zP]⟩,by simp [zP],by simp [zP],by simp [zP]⟩
theorem ES (f:Bs b):(du b).1.length<=64/\∀r ∈ (du b).1,Bs r.2/\r.2.length<=4096:=by
 by_cases h:(du b).2=0
 ·obtain ⟨g,d,k⟩:=ET (m:=(du b).1) f (by grind);exact ⟨d.1,λr e=>⟨(g r e).2,d.2.1 r e⟩⟩
 ·have:(du b).1= []:=by
   unfold du at h ⊢;split
   ·rfl
   ·rename_i i;rw [ak i] at h
    have key:∀ (n) (c) (a),c.length<=n->(jm a c).2≠0->(jm a c).1= []:=by
     intro n
     induction n with
     |zero=>
      grind[EP]
     |succ n l=>
      intro c a o j;rw [jm] at j ⊢;split
      all_goals grind
    grind
  grind
end Go.Proofs.YtkihadlgknhpkaaGreatDoor.T
namespace Go.Proofs.YtkihadlgknhpkaaGreatDoor.T
open Go Go.Fw Go.Proofs RB
set_option maxRecDepth 20000
theorem L4 (c:∀r ∈ l,k8 r) (a:fi l) (hlen:(l.flatMap bG).length<=65535):du (l.flatMap bG)=(l,0):=by
 unfold du;rw [ak (by omega),ER l [] (λr b=>⟨c r b,a.2.1 r b⟩) a.2.2 a.1];simp
theorem L5 (h:RpOk r) (k:okP r):tq (gn r)=(r,0):=by
 have hlen:=Ek k;have a:=L4 (Ej h k) (KJ k) (by omega)
 grind[tq,gn,ac0,wx]
theorem KE (k:okP r):(gn r).length<=1299:=Ek k
end Go.Proofs.YtkihadlgknhpkaaGreatDoor.T
