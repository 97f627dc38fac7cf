/- Part 37: lemmas that the last text needs. -/
import Derived.Test.YtkihadlgknhpkaaGreatDoorX14
import Derived.Test.YtkihadlgknhpkaaGreatDoorX36
set_option linter.all false
set_option autoImplicit true
set_option relaxedAutoImplicit true
namespace Go.Proofs.YtkihadlgknhpkaaGreatDoor.RB
open Go Go.Fw
theorem TM (h:(Lit.int k n).wf=true):k.wrap n=n:=by
 have a:=ja.1 h;cases k <;>simp [IntKind.wrap,IntKind.min,IntKind.max,IntKind.signed,IntKind.bits] at a ⊢ <;>omega
theorem dO (a: -9223372036854775808<=n) (b:n<=9223372036854775807):IntKind.wrap .i64 n=n:=
 TM (ja.2 ⟨by grind[IntKind.min,IntKind.signed,IntKind.bits],by simp_all⟩)
theorem ln (a:0<=n) (b:n<18446744073709551616):IntKind.wrap .u64 n=n:=
 TM (ja.2 ⟨by grind[IntKind.min],by grind[IntKind.max,IntKind.signed,IntKind.bits]⟩)
theorem al8 (n):IntKind.wrap .u8 n=n % 256:=by
 simp [IntKind.wrap,IntKind.signed,IntKind.bits]
theorem ahB (a:0<=i) (b:i<l.length):∃ (h:i.toNat<l.length),rd t l i=l[i.toNat]:=by
 grind[rd]
theorem aU {i:Nat} (a):rd t l (i:Int)=l[i]:=by
 obtain ⟨h,e⟩:=ahB (t:=t) (l:=l) (i:=(i:Int)) (by omega) (by omega)
 grind
theorem oC {i:Int} {n:Nat} (a:0<=i) (b:i<n):ae i n=true:=by grind[ae]
def ahC (n:Int):=0<=n/\n<256
def ay (n:Int):=0<=n/\n<18446744073709551616
theorem jZ (h:(Lit.int .u64 n).wf=true):ay n:=by
 have:=ja.1 h;simp [IntKind.min,IntKind.max,IntKind.signed,IntKind.bits] at this;exact ⟨this.1,by omega⟩
theorem TO (h:(Lit.int .u8 n).wf=true):ahC n:=by
 have:=ja.1 h;simp [IntKind.min,IntKind.max,IntKind.signed,IntKind.bits] at this;exact ⟨this.1,by omega⟩
theorem TN {t:Ty} [DecidableEq t.den] {a b:List t.den} (o:a.length<=4611686018427387904) (p:a.length=b.length) {G:t.den->t.den->(Bool->Option Bool)->Option Bool} (k:∀i (j:i<a.length) (h:i<b.length) K,G a[i] b[i] K=K (decide (a[i]=b[i]))):
 aD (λ(e:(Bool×Int)->Option Bool) (d:Bool×Int)=>
  bif decide (d.2<(a.length:Int)) then (
  bif ae d.2 a.length then
  bif ae d.2 b.length then
  G (rd t a d.2) (rd t b d.2) λr=>
  bif (!r) then some false else e (d.1,(IntKind.wrap .i64 (d.2+1)))
  else none
  else none)
  else some true) (false,0)=some (decide (a=b)):=by
 refine bE (λx=>∃i:Nat,x.2=(i:Int)/\i<=a.length/\a.take i=b.take i) (λx=>a.length - x.2.toNat) (λ_=>decide (a=b)) ?_ (false,0) ⟨0,rfl,by omega,rfl⟩;rintro ⟨y,q⟩ ⟨i,rfl,s,u⟩ l f;simp only;by_cases g:i<a.length
 ·have j:((i:Int) <(b.length:Int)):=by omega
  have h:((i:Int) <(a.length:Int)):=by omega
  have c:i<b.length:=by omega
  simp only [h,al,ah,oC (dp i) j,oC (dp i) h,aU g,aU c,k i g c];by_cases m:a[i]=b[i]
  ·simp only [m,al,ax,aa];rw [dO (n:=(i:Int)+1) (by omega) (by omega)];refine f _ ⟨i+1,by simp,by omega,?_⟩ (by omega)
   grind[List.take_add_one]
  grind[decide_eq_false_iff_not]
 grind
end Go.Proofs.YtkihadlgknhpkaaGreatDoor.RB
namespace Go.Proofs.YtkihadlgknhpkaaGreatDoor.T
open Go Go.Fw Go.Proofs
theorem Kd (h:(Lit.int k n).wf=true):k.wrap n=n:=by
 have a:=ja.1 h;cases k <;>simp [IntKind.wrap,IntKind.min,IntKind.max,IntKind.signed,IntKind.bits] at a ⊢ <;>omega
theorem cX (a: -9223372036854775808<=n) (b:n<=9223372036854775807):IntKind.wrap .i64 n=n:=
 Kd (ja.2 ⟨by grind[IntKind.min,IntKind.signed,IntKind.bits],by simp_all⟩)
theorem qF (n):IntKind.wrap .u8 n=n % 256:=by
 simp [IntKind.wrap,IntKind.signed,IntKind.bits]
def gg (n:Int)
 |0=> []
 |k+1=>(n / 2^ (8*k)) % 256::gg n k
def dz (n:Int):=if n<253 then 0 else if n<65536 then 2 else if n<4294967296 then 4 else 8
def fst (n:Int):=if n<253 then n else if n<65536 then 253 else if n<4294967296 then 254 else 255
def aC (n):=fst n::gg n (dz n)
theorem Ox (h:0<=n):xx n=some (fst n):=by
 grind[xx,fst,qF]
theorem FV (h:0<=n):mU (fst n)=some (dz n:Int):=by
 unfold mU fst dz;by_cases a:n<253
 ·grind
 ·by_cases b:n<65536
  ·simp [a,b,qF];rfl
  ·by_cases c:n<4294967296
   ·simp [a,b,c,qF];rfl
   ·simp [a,b,c,qF];rfl
theorem pw (n):∀k,(gg n k).length=k
 |0=>rfl
 |k+1=>by simp [gg,pw n k]
theorem Kg (n):dz n<=8:=by grind[dz]
theorem zf (a:0<=i) (b:i<l.length):∃ (h:i.toNat<l.length),rd t l i=l[i.toNat]:=by
 grind[rd]
theorem bp {i:Int} {n:Nat} (a:0<=i) (b:i<n):ae i n=true:=by grind[ae]
theorem adW (m:0<=n) {B} {r:List Int->Option (List Int)} {a} {b} (h:a.length<=1000000)
 (v:r (a++gg n (dz n))=some b)
 (o:B=λj c=>
  bif decide (c.2<(dz n:Int)) then (
  (mU (fst n)).bind λl=>
  bif decide (0<= (IntKind.wrap .i64 (8* (IntKind.wrap .i64 ((IntKind.wrap .i64 (l - 1)) - c.2))))) then
  bif decide ((c.1.length+1)*1<=az) then
  j ((c.1++ ([(IntKind.wrap .u8 (n / 2^ (min (IntKind.wrap .i64 (8* (IntKind.wrap .i64 ((IntKind.wrap .i64 (l - 1)) - c.2)))).toNat 64)))])),(IntKind.wrap .i64 (c.2+1)))
  else none
  else none)
  else (r c.1)):aD B (a,0)=some b:=by
 subst o;have w:=Kg n;refine bE (λx=>∃i:Nat,x.2=(i:Int)/\i<=dz n/\x.1.length=a.length+i/\x.1++gg n (dz n - i)=a++gg n (dz n)) (λx=>dz n - x.2.toNat) (λ_=>b) ?_ (a,0) ⟨0,rfl,by omega,rfl,rfl⟩;rintro ⟨y,z⟩ ⟨i,rfl,A,p,q⟩ s d;simp only at p q ⊢;by_cases t:i<dz n
 ·have u:((i:Int) <(dz n:Int)):=by omega
  obtain ⟨k,C⟩:∃k,dz n - i=k+1:=⟨dz n - i - 1,by omega⟩
  have f:(IntKind.wrap .i64 ((IntKind.wrap .i64 ((dz n:Int) - 1)) -(i:Int)))=k:=by
   grind[cX]
  have g:IntKind.wrap .i64 (8* (k:Int))=8*k:=cX (by omega) (by omega);have hlen:(y.length+1)*1<=az:=by grind[az]
  have e:min (8* (k:Int)).toNat 64=8*k:=by omega
  simp only [u,al,ah,FV m,ai,f,g,hlen,e,qF];rw [show decide (0<=8* (k:Int))=true by grind,ah];rw [cX (n:=(i:Int)+1) (by omega) (by omega)];refine d _ ⟨i+1,by simp,by omega,by grind,?_⟩ ?_
  ·grind[gg]
  omega
 grind[dz,gg]
theorem qZ (h:∀n ∈ l,0<=n) (o:l.length<=100000):cm l=some (l.flatMap aC):=by
 unfold cm;dsimp -beta -proj only;have g:∀n,(aC n).length<=9:=λn=>by grind[Kg,aC,pw]
 have j:∀m:List Int,(m.flatMap aC).length<=9*m.length:=by
  intro m
  induction m with
  |nil=>simp
  |cons a m p=>grind
 refine bE (λx=>∃i:Nat,x.2=(i:Int)/\i<=l.length/\x.1=(l.take i).flatMap aC) (λx=>l.length - x.2.toNat) (λ_=>l.flatMap aC) ?_ (([]:List Int),0) ⟨0,rfl,by omega,rfl⟩;rintro ⟨y,q⟩ ⟨i,rfl,s,rfl⟩ c b;simp only;by_cases d:i<l.length
 ·have e:((i:Int) <(l.length:Int)):=by omega
  obtain ⟨u,k⟩:=zf (t:= .int .u64) (l:=l) (i:=i) (by omega) e;have f:0<=rd (.int .u64) l i:=by simp_all
  have hlen:(((l.take i).flatMap aC).length+1)*1<=az:=by
   grind[az]
  simp only [e,al,ah,bp (dp i) e,Ox f,ai,hlen,FV f];refine adW f (r:=λz=>c (z,IntKind.wrap .i64 ((i:Int)+1))) ?_ ?_ (by grind[FV])
  ·grind
  ·rw [cX (n:=(i:Int)+1) (by omega) (by omega)];refine b _ ⟨i+1,by simp,by omega,?_⟩ (by omega);simp only;rw [vB,cK d,vy,vF,List.flatMap_singleton];simp only [aC,fK,List.singleton_append]
   grind
 grind
end Go.Proofs.YtkihadlgknhpkaaGreatDoor.T
namespace Go.Proofs.YtkihadlgknhpkaaGreatDoor.T
open Go Go.Fw Go.Proofs RB
abbrev br:=Int×List Int
def pos:List br->Int->Nat
 | [],_=>0
 |a::r,t=>if a.1<t then pos r t+1 else 0
def pt:List br->Int->Bool
 | [],_=>false
 |a::r,t=>if a.1<t then pt r t else decide (a.1=t)
def fj:List br->Int->Option (List Int)
 | [],_=>none
 |a::r,t=>if a.1<t then fj r t else if a.1=t then some a.2 else none
def qO:List br->br->List br
 | [],x=> [x]
 |a::r,x=>if a.1<x.1 then a::qO r x else if a.1=x.1 then x::r else x::a::r
def ef (l:List br):=l.Pairwise (λa b=>a.1<b.1)
def fi (l):=l.length<=64/\(∀r ∈ l,r.2.length<=4096)/\ef l
theorem Es:∀ (l) (t),pos l t<=l.length
 | [],_=>by simp [pos]
 |a::r,t=>by simp only [pos];split;have:=Es r t;simp;omega;simp
theorem K7:∀ (l) (t) (j) (h),j<pos l t->l[j].1<t
 | [],_,_,h,_=>by grind
 |a::r,t,j,h,C=>by
  simp only [pos] at C;split at C
  ·cases j with
   |zero=>grind
   |succ j=>simp only [yQ];exact K7 r t j (by grind) (by omega)
  ·omega
theorem Et:∀ (l) (t) (j) (h),ef l->pos l t<=j->t<=l[j].1
 | [],_,_,h,_,_=>by grind
 |a::r,t,j,h,I,C=>by
  obtain ⟨R,J⟩:=eO.1 I;simp only [pos] at C;split at C
  ·cases j with
   |zero=>omega
   |succ j=>simp only [yQ];exact Et r t j (by grind) J (by omega)
  grind
theorem EW:∀ (l) (t) (h),pt l t=decide (l[pos l t].1=t)
 | [],_,h=>by grind
 |a::r,t,h=>by
  by_cases c:a.1<t
  ·have e:pos (a::r) t=pos r t+1:=by simp [pos,c]
   have b:pos r t<r.length:=by grind
   simp only [pt,c,aI,EW r t b,e,yQ]
  grind[pos,pt]
theorem EV:∀ (l) (t),pos l t=l.length->pt l t=false
 | [],_,_=>rfl
 |a::r,t,h=>by
  by_cases c:a.1<t
  ·simp only [pos,c,aI,aW] at h;simp only [pt,c,aI];exact EV r t (by omega)
  grind[pos]
theorem LH:∀ (l) (t),fj l t=if h:pos l t<l.length then (if l[pos l t].1=t then some l[pos l t].2 else none) else none
 | [],_=>by simp [fj]
 |a::r,t=>by
  by_cases c:a.1<t
  ·have e:pos (a::r) t=pos r t+1:=by simp [pos,c]
   simp only [fj,c,aI,LH r t,e,aW,Nat.add_lt_add_iff_right,yQ]
  grind[pos,fj]
theorem LQ:∀ (l) (x y),y ∈ qO l x->y=x\/y ∈ l
 | [],x,y,h=>by grind[qO]
 |a::r,x,y,h=>by
  simp only [qO] at h;split at h
  ·rcases a8.1 h with h|h
   ·grind
   ·rcases LQ r x y h with h|h
    all_goals grind
  grind
theorem adU:∀ (l) (x),ef l->ef (qO l x)
 | [],x,_=>by simp [qO,ef]
 |a::r,x,h=>by
  obtain ⟨C,j⟩:=eO.1 h;simp only [qO];split
  ·rename_i c;refine eO.2 ⟨λy b=> ?_,adU r x j⟩
   grind[LQ]
  ·split
   ·rename_i c d;exact eO.2 ⟨λy b=>by grind,j⟩
   ·rename_i c d;refine eO.2 ⟨λy b=> ?_,h⟩
    grind
theorem tI (x) (t):la (x,t)=some (if x.1<t then -1 else if t<x.1 then 1 else 0):=by
 grind[la,gY,pK]
theorem Kt:∀ (l),(∀j (h),l[j].1<l[j+1].1)->ef l
 | [],_=>List.Pairwise.nil
 | [a],_=>by simp [ef]
 |a::b::r,h=>by
  have C:=Kt (b::r) (λj e=>h (j+1) (by grind));refine eO.2 ⟨λy c=> ?_,C⟩;have d:a.1<b.1:=h 0 (by simp);rcases a8.1 c with rfl|c
  ·exact d
  ·have:=(eO.1 C).1 y c;omega
abbrev tR:Ty:= .pair (.int .u64) (.slice 5 (.int .u8))
open Classical in
theorem Oz (l:List br):xB l=some (if fi l then 0 else 1):=by
 unfold xB;dsimp -beta -proj only;by_cases o:64<l.length
 ·grind[fi]
 ·have:¬ (64:Int) <(l.length:Int):=by omega
  simp only [this,aK,aa,bC]
  refine bE (λx=>∃i:Nat,x.2=(i:Int)/\i<=l.length/\(∀j (h:j<l.length),j<i->l[j].2.length<=4096)/\(∀j (h:j+1<l.length),j+1<i->l[j].1<l[j+1].1)) (λx=>l.length - x.2.toNat)
   (λ_=>if fi l then 0 else 1) ?_ (0,0) ⟨0,rfl,by omega,by omega,by omega⟩
  rintro ⟨q,u⟩ ⟨i,a,v,w,y⟩ e b;simp only at a;subst a;simp only;by_cases c:i<l.length
  ·have m:((i:Int) <(l.length:Int)):=by omega
   simp only [m,al,ah,bp (dp i) m,aU (t:=tR) c]
   have next:l[i].2.length<=4096->(∀h:0<i,l[i - 1].1<l[i].1)->e (q,IntKind.wrap .i64 ((i:Int)+1))=some (if fi l then 0 else 1):=by
    intro z A;rw [cX (n:=(i:Int)+1) (by omega) (by omega)];refine b _ ⟨i+1,by simp,by omega,λj p f=> ?_,λj p f=> ?_⟩ (by omega)
    all_goals grind
   by_cases c1:4096<l[i].2.length
   ·grind[fi]
   ·have g:¬ (4096:Int) <(l[i].2.length:Int):=by omega
    simp only [g,aK,bJ,ah];by_cases B:0<i
    ·have k:(0:Int) <(i:Int):=by omega
     have r:IntKind.wrap .i64 ((i:Int) - 1)=((i - 1:Nat):Int):=by grind[cX]
     have d:i - 1<l.length:=by omega
     have s:ae ((i - 1:Nat):Int) l.length=true:=bp (by omega) (by omega);simp only [k,al,bJ,ah,r,s,aU (t:=tR) d,tI,ai];by_cases C:l[i - 1].1<l[i].1
     ·grind
     ·have D:¬fi l:=λh=>by
       have:=yM.1 h.2.2 (i - 1) i d c (by omega);omega
      grind
    grind
  grind[fi,Kt,List.getElem_of_mem]
open Classical in
noncomputable def dM (l:List br) (t:Int):List Int×Int:=if fi l then (match fj l t with|some v=>(v,0)|none=>([],5)) else ([],1)
end Go.Proofs.YtkihadlgknhpkaaGreatDoor.T
namespace Go.Proofs.YtkihadlgknhpkaaGreatDoor.T
open Go Go.Fw Go.Proofs
def cJ (n:Int):=0<=n/\n<256
def bv (a:Int):List Int->Int
 | []=>a
 |c::r=>bv (a*256+c) r
theorem Ep (k):(2:Int)^ (8* (k+1))=2^ (8*k)*256:=by
 grind
theorem MQ:∀ (l) (a),(∀n ∈ l,cJ n)->bv a l / 2^ (8*l.length)=a
 | [],a,_=>by simp [bv]
 |c::r,a,h=>by
  have j:=h c (by simp);have b:(0:Int)<=2^ (8*r.length):=vJ (vI (by omega));rw [bv,aW,Ep,<-Xs b,MQ r _ (λn d=>h n (by grind))]
  grind[cJ]
theorem Mz:∀ (l) (a),(∀n ∈ l,cJ n)->gg (bv a l) l.length=l
 | [],a,_=>rfl
 |c::r,a,h=>by
  have j:=h c (by simp);have b:∀n ∈ r,cJ n:=λn d=>h n (by grind)
  rw [bv,aW,gg,Mz r _ b,MQ r _ b]
  grind[cJ]
theorem wC:∀ (l) (a),0<=a->(∀n ∈ l,cJ n)->0<=bv a l
 | [],a,h,_=>h
 |c::r,a,h,j=>wC r _ (by have:=(j c (by simp)).1;omega) (λn b=>j n (by grind))
theorem MP:∀ (l) (a c),bv a (l++ [c])=bv a l*256+c
 | [],a,c=>rfl
 |d::r,a,c=>by simp only [dP,bv];exact MP r _ c
theorem E9:∀ (l) (a),(∀n ∈ l,cJ n)->bv a l<(a+1)*2^ (8*l.length)
 | [],a,_=>by grind[bv]
 |c::r,a,h=>by
  have j:=h c (by simp);have b:(0:Int) <2^ (8*r.length):=vI (by omega);have:=E9 r (a*256+c) (λn d=>h n (by grind));rw [bv,aW,Ep];unfold cJ at j;have e:(a*256+c+1)*2^ (8*r.length)<= (a+1)*256*2^ (8*r.length):=Int.mul_le_mul_of_nonneg_right (by omega) (vJ b)
  grind
theorem fY (a:0<=n) (b:n<18446744073709551616):IntKind.wrap .u64 n=n:=
 Kd (ja.2 ⟨by grind[IntKind.min],by grind[IntKind.max,IntKind.signed,IntKind.bits]⟩)
theorem adg (f:0<=a) (k:a<72057594037927936) (d:cJ c):df .or .u64 (a*256) c=a*256+c:=by
 obtain ⟨a,rfl⟩:=qC f;obtain ⟨c,rfl⟩:=qC d.1;have g:=by have:=d.2;omega
 show IntKind.wrap .u64 ((BitVec.ofInt 64 ((a:Int)*256) ||| BitVec.ofInt 64 (c:Int)).toNat:Int)=_
 have e:(BitVec.ofInt 64 ((a:Int)*256) ||| BitVec.ofInt 64 (c:Int)).toNat=a*256+c:=by
  rw [BitVec.toNat_or]
  have h:(BitVec.ofInt 64 ((a:Int)*256)).toNat=a*256:=by
   rw [show ((a:Int)*256)=((a*256:Nat):Int) by omega,BitVec.ofInt_natCast,BitVec.toNat_ofNat];omega
  have j:(BitVec.ofInt 64 (c:Int)).toNat=c:=by
   grind
  rw [h,j];have:=Nat.two_pow_add_eq_or_of_lt (i:=8) (b:=c) (by omega) a
  grind
 grind[fY]
def wd (c:Int):=if c<253 then 0 else if c=253 then 2 else if c=254 then 4 else 8
theorem ag5 (h:cJ c):mU c=some (wd c:Int):=by
 unfold mU wd;unfold cJ at h;by_cases d:c<253
 ·grind
 ·by_cases a:c=253
  ·subst a;rfl
  ·by_cases b:c=254
   ·subst b;rfl
   ·have:c=255:=by omega
    subst this;rfl
theorem Ki (c):wd c<=8:=by grind[wd]
def aE:List Int->Int×Int×Int
 | []=>(0,0,3)
 |c::r=>if r.length<wd c then (0,0,3) else if wd c=0 then (c,1,0) else
  if fst (bv 0 (r.take (wd c)))=c then (bv 0 (r.take (wd c)),(wd c:Int)+1,0) else (0,0,2)
theorem DV (a:0<=n) (h:fst n=c):dz n=wd c:=by
 grind[fst,dz,wd]
theorem aeH (a:∀n ∈ s,cJ n) (b:s.length=wd c):aC (bv 0 s)=c::s↔fst (bv 0 s)=c:=by
 grind[wC,aC,DV,Mz]
theorem aeT (a:∀n ∈ s,cJ n) (b:s.length<=8):bv 0 s<18446744073709551616:=by
 have b1:=E9 s 0 a
 have:(2:Int)^ (8*s.length)<=2^64:=by
  have:=Nat.pow_le_pow_right (n:=2) (by omega) (show 8*s.length<=64 by omega)
  grind
 omega
theorem aee (h:0<=n):cJ (fst n):=by grind[fst,cJ]
theorem My (n):∀k,∀d ∈ gg n k,cJ d
 |0,d,h=>by grind[gg]
 |k+1,d,h=>by
  simp only [gg,a8] at h;rcases h with rfl|h
  ·grind[cJ]
  ·exact My n k d h
theorem gb (h:0<=n):∀d ∈ aC n,cJ d:=by
 grind[aC,aee,My]
theorem E1 {l:List Int} (h:∀n ∈ l,0<=n):∀d ∈ l.flatMap aC,cJ d:=by
 grind[gb]
theorem MR (n):∀ (k) (a),bv a (gg n k)=a*2^ (8*k)+n % 2^ (8*k)
 |0,a=>by simp [gg,bv]
 |k+1,a=>by
  rw [gg,bv,MR n k,Ep];have j:(0:Int) <2^ (8*k):=vI (by omega)
  have b:n % (2^ (8*k)*256)=2^ (8*k)* (n / 2^ (8*k) % 256)+n % 2^ (8*k):=by
   rw [Int.emod_def,Int.emod_def n (2^ (8*k)),Int.emod_def (n / 2^ (8*k)) 256,<-Xs (vJ j),Int.mul_sub,Int.mul_assoc];omega
  grind
theorem aeU (a:0<=n) (b:n<18446744073709551616) (c:dz n≠0):bv 0 (gg n (dz n))=n:=by
 grind[MR,dz]
theorem qQ (a:0<=n) (b:n<18446744073709551616) (m:List Int):aE (aC n++m)=(n,(dz n:Int)+1,0):=by
 grind[fst,dz,DV,pw,aC,aE,aeU]
theorem Mb (h:∀n ∈ l,cJ n) (a:aE l=(y,m,e)):
 (e=0/\0<=y/\y<18446744073709551616/\m=(dz y:Int)+1/\m<=l.length/\aC y=l.take m.toNat)\/(e≠0/\y=0/\m=0):=by
 cases l with
 |nil=>grind[aE]
 |cons c r=>
  have f:=h c (by simp);have k:∀n ∈ r,cJ n:=λn g=>h n (by grind)
  have s:=Ki c;simp only [aE] at a;have o:=f.1;have p:=f.2;by_cases q:r.length<wd c
  ·grind
  ·rw [ak q] at a;by_cases i:wd c=0
   ·rw [aw i] at a;simp only [aL] at a;obtain ⟨rfl,rfl,rfl⟩:=a
    grind[wd,dz,aC,fst,gg]
   ·rw [ak i] at a;have hlen:(r.take (wd c)).length=wd c:=by grind
    have b:∀n ∈ r.take (wd c),cJ n:=λn g=>k n (lJ g)
    have d:=wC (r.take (wd c)) 0 (by omega) b;by_cases j:fst (bv 0 (r.take (wd c)))=c
    ·rw [aw j] at a;simp only [aL] at a;obtain ⟨rfl,rfl,rfl⟩:=a;left;refine ⟨rfl,d,aeT b (by omega),by grind[DV],by grind,?_⟩;rw [(aeH b hlen).2 j,show ((wd c:Int)+1).toNat=wd c+1 by omega];rfl
    grind
end Go.Proofs.YtkihadlgknhpkaaGreatDoor.T
namespace Go.Proofs.YtkihadlgknhpkaaGreatDoor.T
open Go Go.Fw Go.Proofs RB
set_option maxRecDepth 20000
def Bs (l:List Int):=∀n ∈ l,cJ n
def k8 (r:br):=(0<=r.1/\r.1<18446744073709551616)/\Bs r.2
def bG (r:br):=aC r.1++ (aC (r.2.length:Int)++r.2)
theorem fD (n):(aC n).length<=9:=by
 grind[dz,aC,pw]
theorem aeI (r) (h:r.2.length<=4096):(bG r).length<=4114:=by
 grind[fD,bG]
theorem Mq:∀ (l:List br),(∀r ∈ l,r.2.length<=4096)->(l.flatMap bG).length<=4114*l.length
 | [],_=>by simp
 |a::r,h=>by
  have j:=aeI a (h a (by simp));have:=Mq r (λx b=>h x (by grind))
  grind
theorem afT (a:0<=t) (b:0<=n):cm [t,n]=some (aC t++aC n):=by
 grind[qZ]
open Classical in
noncomputable def kM (l:List br):List Int×Int:=if fi l then (if 65535<(l.flatMap bG).length then ([],4) else (l.flatMap bG,0)) else ([],1)
theorem Ai (k:∀r ∈ l,k8 r):om l=some (kM l):=by
 unfold om kM;dsimp -beta -proj only;simp only [bC,Oz,ai];by_cases f:fi l
 ·have m:=f.1;simp only [f,aI,al,ax,aa]
  refine bE (λx=>∃i:Nat,x.2=(i:Int)/\i<=l.length/\x.1=(l.take i).flatMap bG) (λx=>l.length - x.2.toNat)
   (λ_=>if 65535<(l.flatMap bG).length then ([],4) else (l.flatMap bG,0)) ?_ (([]:List Int),0) ⟨0,rfl,by omega,by simp⟩
  rintro ⟨b,u⟩ ⟨i,c,v,d⟩ o e;simp only at c d;subst c;simp only;by_cases a:i<l.length
  ·have j:((i:Int) <(l.length:Int)):=by omega
   have g:=k _ (bt a);have w:=f.2.1 _ (bt a);have h:=Mq (l.take i) (λr g=>f.2.1 r (lJ g));rw [dZ] at h;have y:=fD l[i].1;have z:=fD (l[i].2.length:Int)
   have p:(b.length+ (aC l[i].1++aC (l[i].2.length:Int)).length)*1<=az:=by
    grind[az]
   have q:((b++ (aC l[i].1++aC (l[i].2.length:Int))).length+l[i].2.length)*1<=az:=by
    grind[az]
   have s:IntKind.wrap .u64 (l[i].2.length:Int)=(l[i].2.length:Int):=RB.ln (by omega) (by omega);simp only [j,al,ah,bp (dp i) j,aU (t:=tR) a,s,afT g.1.1 (dp l[i].2.length),ai,p,q];rw [RB.dO (n:=(i:Int)+1) (by omega) (by omega)];refine e _ ⟨i+1,by simp,by omega,?_⟩ (by omega)
   grind[List.take_succ_eq_append_getElem,bG]
  grind
 grind
def qN (a:List br):=match a.getLast? with|some r=>r.1|none=> -1
def jm (a) (b):=
 if b= [] then (a,0) else if a.length=64 then ([],4) else
 if (aE b).2.2≠0 then ([],(aE b).2.2) else
 if ¬qN a<(aE b).1 then ([],2) else
 if (aE (b.drop (aE b).2.1.toNat)).2.2≠0 then ([],(aE (b.drop (aE b).2.1.toNat)).2.2) else
 if 4096<(aE (b.drop (aE b).2.1.toNat)).1 then ([],4) else
 if (((b.drop (aE b).2.1.toNat).drop (aE (b.drop (aE b).2.1.toNat)).2.1.toNat).length:Int) <(aE (b.drop (aE b).2.1.toNat)).1 then ([],3) else
 if h:(((b.drop (aE b).2.1.toNat).drop (aE (b.drop (aE b).2.1.toNat)).2.1.toNat).drop (aE (b.drop (aE b).2.1.toNat)).1.toNat).length<b.length then
  jm (a++ [((aE b).1,((b.drop (aE b).2.1.toNat).drop (aE (b.drop (aE b).2.1.toNat)).2.1.toNat).take (aE (b.drop (aE b).2.1.toNat)).1.toNat)])
   (((b.drop (aE b).2.1.toNat).drop (aE (b.drop (aE b).2.1.toNat)).2.1.toNat).drop (aE (b.drop (aE b).2.1.toNat)).1.toNat)
 else ([],0)
 termination_by b.length
 decreasing_by exact h
theorem n5 (h:Bs b):((aE b).2.2=0/\(0<= (aE b).1/\(aE b).1<18446744073709551616)/\ae (aE b).2.1 (b.length+1)=true/\aC (aE b).1++b.drop (aE b).2.1.toNat=b/\(b.drop (aE b).2.1.toNat).length<b.length)\/
 ((aE b).2.2≠0/\(aE b).1=0/\(aE b).2.1=0):=by
 rcases Mb h (y:=(aE b).1) (m:=(aE b).2.1) (e:=(aE b).2.2) rfl with ⟨a,c,d,f,g,i⟩| ⟨a,c,d⟩
 all_goals grind[RB.oC,List.take_append_drop]
theorem mO (h:Bs b) (k):Bs (b.drop k):=λn a=>h n (iJ a)
end Go.Proofs.YtkihadlgknhpkaaGreatDoor.T
namespace Go.Proofs.YtkihadlgknhpkaaGreatDoor.T
open Go Go.Fw Go.Proofs RB
theorem EJ (h:0<a.length):qN a=(a[a.length - 1]'(by omega)).1:=by
 grind[qN]
noncomputable def du (b):=if 65535<b.length then ([],4) else jm [] b
theorem zT (n) (m):(aC n++m).drop ((dz n:Int)+1).toNat=m:=by
 grind[aC,pw]
theorem aeJ (n) (m):aC n++m≠ []:=by simp [aC]
theorem adM (h:ef (a++r::l)) (c:0<=r.1):qN a<r.1:=by
 by_cases b:0<a.length
 ·rw [EJ b];exact (kE.1 h).2.2 _ (bt _) r (by simp)
 ·have:a= []:=jK.1 (by omega);subst this;show (-1:Int) <_;omega
theorem EP (a):jm a []=(a,0):=by grind[jm]
theorem ER:∀ (l a),(∀r ∈ l,k8 r/\r.2.length<=4096)->ef (a++l)->(a++l).length<=64->jm a (l.flatMap bG)=(a++l,0)
 | [],a,_,_,_=>by simp [EP]
 |r::l,a,C,I,hlen=>by
  have j:=C r (by simp);have f:=ER l (a++ [r]) (λx g=>C x (by grind)) (by grind) (by grind);have c:(r::l).flatMap bG=aC r.1++ (aC (r.2.length:Int)++ (r.2++l.flatMap bG)):=by simp [bG]
  rw [c];have d:=qQ j.1.1.1 j.1.1.2 (aC (r.2.length:Int)++ (r.2++l.flatMap bG));have e:=qQ (n:=(r.2.length:Int)) (by omega) (by omega) (r.2++l.flatMap bG);have b:¬a.length=64:=by grind
  rw [jm,ak (aeJ _ _),ak b];simp only [d,zT,e,cU,dm,aH,adM I j.1.1.1,bu,List.take_left,List.drop_left];have c1:=by omega
  have h:¬ ((r.2++l.flatMap bG).length:Int) <(r.2.length:Int):=by grind
  have i:(l.flatMap bG).length<(aC r.1++ (aC (r.2.length:Int)++ (r.2++l.flatMap bG))).length:=by
   grind[aC]
  grind
theorem ad7:∀ (n:Nat) (b:List Int) (a m:List br),b.length<=n->Bs b->ef a->a.length<=64->jm a b=(m,0)->
 ∃m',m=a++m'/\b=m'.flatMap bG/\(∀r ∈ m',k8 r/\r.2.length<=4096)/\ef m/\m.length<=64:=by
 intro n
 induction n with
 |zero=>
  intro b a m z g i A h;have:b= []:=jK.1 (by omega);subst this;rw [EP] at h
  simp_all
 |succ n B=>
  intro b a m z g i A h;rw [jm] at h;by_cases k:b= []
  ·simp_all
  ·rw [ak k] at h;by_cases l:a.length=64
   ·grind
   ·rw [ak l] at h;rcases n5 g with ⟨g1,u,C,M,N⟩| ⟨g1,u,C⟩
    ·rw [ak (show ¬ ((aE b).2.2≠0) from λq=>q g1)] at h;by_cases c:qN a<(aE b).1
     ·rw [ak (show ¬¬qN a<(aE b).1 from λq=>q c)] at h;have d:=mO g (aE b).2.1.toNat;generalize D:b.drop (aE b).2.1.toNat=b1 at*;rcases n5 d with ⟨p1,p2,p3,p4,O⟩| ⟨p1,p2,p3⟩
      ·rw [ak (show ¬ ((aE b1).2.2≠0) from λq=>q p1)] at h;have e:=mO d (aE b1).2.1.toNat;generalize E:b1.drop (aE b1).2.1.toNat=f at*;by_cases c1:4096<(aE b1).1
       ·grind
       ·rw [ak c1] at h;by_cases F:(f.length:Int) <(aE b1).1
        ·grind
        ·rw [ak F] at h;have G:(f.drop (aE b1).1.toNat).length<b.length:=by grind
         rw [dif_pos G] at h;have H:((f.take (aE b1).1.toNat).length:Int)=(aE b1).1:=by grind
         have o:ef (a++ [((aE b).1,f.take (aE b1).1.toNat)]):=by
          refine kE.2 ⟨i,by simp,λx p y v=> ?_⟩;simp only [eP] at v;subst v;obtain ⟨j,I,rfl⟩:=kH p;have J:0<a.length:=by omega
          rw [EJ J] at c;by_cases K:j=a.length - 1
          ·grind
          ·have:=yM.1 i j (a.length - 1) I (by omega) (by omega);omega
         obtain ⟨m',P,L,Q,s,t⟩:=B _ _ _ (by omega) (mO e _) o (by grind) h;refine ⟨((aE b).1,f.take (aE b1).1.toNat)::m',by grind,?_,?_,s,t⟩
         ·grind[bG,List.take_append_drop]
         ·intro r w;rcases a8.1 w with rfl|w
          ·exact ⟨⟨u,λx p=>e x (lJ p)⟩,by grind⟩
          grind
      grind
     grind
    grind
theorem Mr {l:List br} (h:∀r ∈ l,k8 r):Bs (l.flatMap bG):=by
 intro n b;obtain ⟨r,c,a⟩:=List.mem_flatMap.1 b;have:=h r c;simp only [bG,cz] at a;rcases a with a|a|a
 ·exact gb this.1.1 n a
 ·exact gb (by omega) n a
 ·exact this.2 n a
theorem ET (a:Bs b) (h:du b=(m,0)):(∀r ∈ m,k8 r)/\fi m/\kM m=(b,0):=by
 unfold du at h;by_cases c:65535<b.length
 ·grind
 ·rw [ak c] at h;obtain ⟨m',e,d,f,g,hlen⟩:=ad7 _ b [] m (aR _) a (by simp [ef]) (by simp) h
  grind[fi,kM]
theorem al3 (h:Fw.Good (.slice 26 tR) l):(∀r ∈ l,k8 r)/\l.length<=9223372036854775807:=⟨λr a=>⟨jZ (h.2 r a).1,λn b=>TO ((h.2 r a).2.2 n b)⟩,h.1⟩
end Go.Proofs.YtkihadlgknhpkaaGreatDoor.T
namespace Go.Proofs.YtkihadlgknhpkaaGreatDoor.T
open Go Go.Fw Go.Proofs RB
set_option maxRecDepth 20000
abbrev Cv:=Int× (Int×Int)
def dV (c:Cv):=(-9223372036854775808<=c.1/\c.1<=9223372036854775807)/\ay c.2.1/\ay c.2.2
theorem ahc (a):pN [a]=some a:=by
 unfold pN;dsimp -beta -proj only;simp only [nI];refine (bE (λx=>x=(a,1)) (λ_=>0) (λ_=>a) ?_ (a,1) rfl)
 grind
theorem Aq (a):fu [a]=some (if 4611686018427387904<a then 1 else 0):=by
 grind[fu,ahc]
def cr (c:Cv):Int:=if (c.1<1\/5<c.1)\/(c.1=2/\65535<c.2.1)\/((c.1=3\/c.1=4)/\4611686018427387904<c.2.1)\/(c.1≠4/\c.2.2≠0) then 1 else 0
theorem E6 (c):cr c=0\/cr c=1:=by grind[cr]
theorem ux (h:dV c):mV c=some (cr c):=by
 grind[mV,cr,Aq]
theorem zV (h:cr c=0):1<=c.1/\c.1<=5/\(c.1=2->c.2.1<=65535)/\(c.1≠4->c.2.2=0)/\(c.1=3\/c.1=4->c.2.1<=4611686018427387904):=by
 grind[cr]
theorem iO (a:0<=n) (b:n<=1048576):IntKind.wrap .u64 n=n:=RB.ln (by omega) (by omega)
def bl (c:Cv):=aC c.1++ (aC c.2.1++ (if c.1=4 then aC c.2.2 else []))
def pg (c:Cv):List Int×Int:=if cr c=0 then (bl c,0) else ([],1)
theorem FW (a:dV c):oy c=some (pg c):=by
 unfold oy pg;dsimp -beta -proj only;simp only [eF,ux a,ai];by_cases h:cr c=0
 ·have k:=zV h;have d:IntKind.wrap .u64 c.1=c.1:=iO (by omega) (by omega);have e:=a.2.1.1;have f:=a.2.2.1;by_cases b:c.1=4
  ·simp only [h,b,al,ax,aa,aI,bl];rw [iO (n:=4) (by omega) (by omega),qZ (by grind) (by simp)];simp
  ·simp only [h,b,al,aK,ax,bm,ah,aa,aI,aH,bl];rw [d,qZ (by grind) (by simp)];simp [ae]
 grind[E6]
theorem Mw (a:dV c) (h:cr c=0):∀d ∈ bl c,cJ d:=by
 have k:=zV h;intro d hd;unfold bl at hd;rcases cz.1 hd with hd|hd
 ·exact gb (by omega) d hd
 rcases cz.1 hd with hd|hd
 ·exact gb a.2.1.1 d hd
 ·split at hd
  ·exact gb a.2.2.1 d hd
  grind
theorem tw (c):(bl c).length<=27:=by
 grind[fD,bl]
theorem ag6 (h:dV c):xz c=some (decide (cr c≠0)):=by
 grind[xz,ux]
theorem qP {l:List t.den} (s:l.length<=9223372036854775807) {p:t.den->Bool} {G:t.den->Option Bool} (m:∀x ∈ l,G x=some (p x)):
 ∃r,aD (λ(e:(Int×Int)->Option Int) (d:Int×Int)=>
  bif decide (d.2<(l.length:Int)) then (
  bif ae d.2 l.length then
  (G (rd t l d.2)).bind λC=>
  bif C then (some d.2) else (e (d.1,(IntKind.wrap .i64 (d.2+1))))
  else none)
  else (some (-1))) (0,0)=some r/\decide (0<=r)=l.any p:=by
 let a:Nat->Int:=λi=>match (l.drop i).findIdx? p with|some j=>((i+j:Nat):Int)|none=> -1
 have b:∀i,(h:i<l.length)->p l[i]=false->a i=a (i+1):=by
  grind[List.drop_eq_getElem_cons]
 refine ⟨a 0,bE (λx=>∃i:Nat,x.2=(i:Int)/\i<=l.length) (λx=>l.length - x.2.toNat) (λx=>a x.2.toNat) ?_ (0,0) ⟨0,rfl,by omega⟩,?_⟩
 ·rintro ⟨y,u⟩ ⟨i,f,v⟩ o g;simp only at f;subst f;simp only [bu];by_cases c:i<l.length
  ·have k:((i:Int) <(l.length:Int)):=by omega
   simp only [k,al,ah,bp (dp i) k,aU c,m _ (bt c),ai]
   cases q:p l[i] with
   |true=>
    grind[List.drop_eq_getElem_cons]
   |false=>
    simp only [aa];rw [RB.dO (n:=(i:Int)+1) (by omega) (by omega),b i c q];have:=g (y,(i:Int)+1) ⟨i+1,by simp,by omega⟩ (by omega)
    simp_all
  grind
 grind
theorem afQ (a:l.length<=9223372036854775807) (h:∀c ∈ l,dV c):BL (l,())=some (l.any λc=>decide (cr c≠0)):=by
 obtain ⟨r,d,e⟩:=qP (t:= .pair (.int .i64) (.pair (.int .u64) (.int .u64))) (l:=l) a (p:=λc=>decide (cr c≠0)) (G:=xz) (λx b=>ag6 (h x b))
 grind[FK,BL]
abbrev fm:=Int× (List Cv×Int)
def gh (t:fm):=ay t.1/\(∀c ∈ t.2.1,dV c)/\(-9223372036854775808<=t.2.2/\t.2.2<=9223372036854775807)
def ew (t:fm):=t.2.1.length<=16/\(0<=t.2.2/\t.2.2<=1048576)/\∀c ∈ t.2.1,cr c=0
open Classical in
theorem wH {t:fm} (h:gh t) (a:t.2.1.length<=9223372036854775807):mS t=some (if ew t then 0 else 1):=by
 unfold mS;simp only [afQ a h.2.1,ai]
 grind[ew]
def ba {α:Type} (f:α->List Int):Nat->List α->List br
 |_,[]=> []
 |i,x::r=>(((16+i:Nat):Int),f x)::ba f (i+1) r
theorem kO (f):∀ (l:List α) (i),(ba f i l).length=l.length
 | [],_=>rfl
 |x::r,i=>by simp [ba,kO f r]
theorem wa (f):∀ (l) (i) (x:α),ba f i (l++ [x])=ba f i l++ [(((16+ (i+l.length):Nat):Int),f x)]
 | [],i,x=>by simp [ba]
 |y::r,i,x=>by
  rw [dP,ba,ba,wa f r (i+1) x,dP,aW,show i+1+r.length=i+ (r.length+1) by omega]
theorem iT (f):∀ (l:List α) (i) (q),q ∈ ba f i l->(∃x ∈ l,q.2=f x)/\16<=q.1/\q.1<16+i+l.length
 | [],i,q,h=>by grind[ba]
 |y::r,i,q,h=>by
  rcases a8.1 h with rfl|h
  ·grind
  ·obtain ⟨⟨x,j,C⟩,I,J⟩:=iT f r (i+1) q h
   grind
theorem v8 (f):∀ (l:List α) (i),ef (ba f i l)/\∀q ∈ ba f i l,(16+i:Int)<=q.1
 | [],i=>⟨by simp [ba,ef],by simp [ba]⟩
 |y::r,i=>by
  obtain ⟨j,C⟩:=v8 f r (i+1);refine ⟨eO.2 ⟨λq a=> ?_,j⟩,λq a=> ?_⟩
  ·grind
  ·rcases a8.1 a with rfl|a
   all_goals grind
def fh (t:fm):List br:=(1,aC t.1)::(2,aC t.2.2)::ba bl 0 t.2.1
theorem NM (h:gh t) (g:ew t):wG t=some (t.2.1.map bl):=by
 have k:=g.1;unfold wG;dsimp -beta -proj only;have l:t.2.1.length*24<=az:=by grind[az]
 simp only [dp,al,jM,l,ah,bu];refine bE (λ(x:Int×List (List Int))=>∃i:Nat,x.1=(i:Int)/\i<=t.2.1.length/\x.2=(t.2.1.take i).map bl++List.replicate (t.2.1.length - i) []) (λx=>t.2.1.length - x.1.toNat) (λ_=>t.2.1.map bl) ?_ ((0:Int),List.replicate t.2.1.length ([]:List Int)) ⟨0,rfl,by omega,by simp⟩;rintro ⟨r,y⟩ ⟨i,b,s,j⟩ m c;simp only at b j;subst b;simp only;by_cases a:i<t.2.1.length
 ·have d:((i:Int) <(t.2.1.length:Int)):=by omega
  have e:y.length=t.2.1.length:=by grind
  have o:((i:Int) <(y.length:Int)):=by omega
  have p:=h.2.1 _ (bt a);have f:=g.2.2 _ (bt a);simp only [d,al,ah,bp (dp i) d,bp (dp i) o,aU (t:= .pair (.int .i64) (.pair (.int .u64) (.int .u64))) a,eF,FW p,ai,pg,f,aI,bu];rw [RB.dO (n:=(i:Int)+1) (by omega) (by omega)];refine c _ ⟨i+1,by simp,by omega,?_⟩ (by omega);rw [j,List.set_append_right _ _ (by grind)];have q:i -((t.2.1.take i).map bl).length=0:=by grind
  rw [q,fg a,lM,fK];congr 1;obtain ⟨n,u⟩:∃n,t.2.1.length - i=n+1:=⟨t.2.1.length - i - 1,by omega⟩
  grind
 ·have d:=by omega
  have:i=t.2.1.length:=by omega
  simp_all
theorem k9 (h:0<=n):cm [n]=some (aC n):=by
 grind[qZ]
theorem Eb (h:gh t) (b:ew t):∀r ∈ fh t,k8 r:=by
 intro r a;unfold fh at a;have e:=b.1;rcases a8.1 a with rfl|a
 ·exact ⟨⟨by omega,by omega⟩,gb h.1.1⟩
 rcases a8.1 a with rfl|a
 ·exact ⟨⟨by omega,by omega⟩,gb b.2.1.1⟩
 obtain ⟨⟨c,d,f⟩,g,i⟩:=iT bl _ _ _ a;refine ⟨⟨by omega,by omega⟩,?_⟩;rw [f];exact Mw (h.2.1 c d) (b.2.2 c d)
theorem Km (d:ew t):fi (fh t):=by
 have e:=d.1;refine ⟨by grind[fh,kO],λr a=> ?_,?_⟩
 ·unfold fh at a;rcases a8.1 a with rfl|a
  ·grind[fD]
  rcases a8.1 a with rfl|a
  ·grind[fD]
  obtain ⟨⟨c,g,b⟩,_⟩:=iT bl _ _ _ a
  grind[tw]
 ·obtain ⟨b,h⟩:=v8 bl t.2.1 0;refine eO.2 ⟨λq f=> ?_,eO.2 ⟨λq f=> ?_,b⟩⟩
  all_goals grind
theorem XO (a:n<253):aC n= [n]:=by
 grind[aC,fst,dz,gg]
theorem wz (a:r.1<253) (b:r.2.length<253):(bG r).length=2+r.2.length:=by
 grind[bG,XO]
theorem qI (a:ew t):((fh t).flatMap bG).length<=486:=by
 have b:=a.1
 have d:∀ (l) (i),i+l.length<=16->((ba bl i l).flatMap bG).length<=29*l.length:=by
  intro l
  induction l with
  |nil=>grind[ba]
  |cons c r e=>
   grind[tw,wz,ba]
 grind[fD,wz,fh]
def dA (t):=(fh t).flatMap bG
theorem K3 (a:ew t):kM (fh t)=(dA t,0):=by
 unfold kM;have:=qI a;rw [aw (Km a),ak (by omega)];rfl
open Classical in
theorem NK {t:fm} (h:gh t) (j:t.2.1.length<=9223372036854775807):qY t=some (if ew t then (dA t,0) else ([],1)):=by
 unfold qY;simp only [eF,wH h j,ai];by_cases a:ew t
 ·have k:IntKind.wrap .u64 t.2.2=t.2.2:=iO a.2.1.1 a.2.1.2;have l:=a.1;simp only [a,aI,al,ax,aa,k,k9 h.1.1,k9 a.2.1.1,NM h a,ai,bC];refine bE (λ(x:List br×Int)=>∃i:Nat,x.2=(i:Int)/\i<=t.2.1.length/\x.1= [(1,aC t.1),(2,aC t.2.2)]++ba bl 0 (t.2.1.take i)) (λx=>t.2.1.length - x.2.toNat) (λ_=>(dA t,0)) ?_ _ ⟨0,rfl,by omega,by simp [ba]⟩;rintro ⟨y,s⟩ ⟨i,b,u,g⟩ m c;simp only at b g;subst b;simp only [sG];by_cases o:i<t.2.1.length
  ·have d:((i:Int) <(t.2.1.length:Int)):=by omega
   have e:i<(t.2.1.map bl).length:=by grind
   have p:y.length=2+i:=by grind[kO]
   have q:(y.length+1)*32<=az:=by grind[az]
   simp only [d,al,ah,bp (dp i) d,aU (t:= .slice 5 (.int .u8)) e,q];rw [iO (n:=(i:Int)) (by omega) (by omega),iO (n:=16+ (i:Int)) (by omega) (by omega),RB.dO (n:=(i:Int)+1) (by omega) (by omega)];refine c _ ⟨i+1,by simp,by omega,?_⟩ (by omega)
   grind[List.take_succ_eq_append_getElem,wa]
  ·have d:¬ ((i:Int) <(t.2.1.length:Int)):=by omega
   have f:i=t.2.1.length:=by omega
   simp only [d,aK,aa];have r:y=fh t:=by rw [g,f,fX];rfl
   grind[Ai,Eb,K3]
 grind
end Go.Proofs.YtkihadlgknhpkaaGreatDoor.T
namespace Go.Proofs.YtkihadlgknhpkaaGreatDoor.T
open Go Go.Fw Go.Proofs RB
set_option maxRecDepth 20000
abbrev Ev:=Int× (Int× (Int×Int))
abbrev Rp:=Int× (Int× (Int× (Int× (Int× (List Int× (List Ev×fm))))))
def xF (x:Ev):=ay x.1/\(-9223372036854775808<=x.2.1/\x.2.1<=9223372036854775807)/\ay x.2.2.1/\ay x.2.2.2
structure RpOk (r:Rp):Prop where
 id:ay r.1
 e: -9223372036854775808<=r.2.1/\r.2.1<=9223372036854775807
 a:ay r.2.2.1
 n:ay r.2.2.2.1
 st: -9223372036854775808<=r.2.2.2.2.1/\r.2.2.2.2.1<=9223372036854775807
 ids:∀n ∈ r.2.2.2.2.2.1,ay n
 evs:∀x ∈ r.2.2.2.2.2.2.1,xF x
 tok:gh r.2.2.2.2.2.2.2
 idl:r.2.2.2.2.2.1.length<=9223372036854775807
 evl:r.2.2.2.2.2.2.1.length<=9223372036854775807
 tkl:r.2.2.2.2.2.2.2.2.1.length<=9223372036854775807
structure okP (r:Rp):Prop where
 e:0<=r.2.1/\r.2.1<=14
 st:0<=r.2.2.2.2.1/\r.2.2.2.2.1<=4
 ids:r.2.2.2.2.2.1.length<=16
 evl:r.2.2.2.2.2.2.1.length<=16
 evs:∀x ∈ r.2.2.2.2.2.2.1,0<=x.2.1/\x.2.1<16
 tok:ew r.2.2.2.2.2.2.2
def iV (x:Ev):= [x.1,x.2.1,x.2.2.1,x.2.2.2].flatMap aC
def opt (c:Bool) (t:Int) (v:List Int):List br:=bif c then [(t,v)] else []
def ie (r:Rp):List br:=
 [(1,aC r.1)]++opt (!decide (r.2.1=0)) 2 (aC r.2.1)++opt (!decide (r.2.2.1=0)) 3 (aC r.2.2.1)++opt (!decide (r.2.2.2.1=0)) 4 (aC r.2.2.2.1)++opt (!decide (r.2.2.2.2.1=0)) 5 (aC r.2.2.2.2.1)
   ++opt (decide (0<(r.2.2.2.2.2.1.length:Int))) 6 (r.2.2.2.2.2.1.flatMap aC)++opt (!decide (r.2.2.2.2.2.2.2=(0,([],0)))) 7 (dA r.2.2.2.2.2.2.2)++ba iV 0 r.2.2.2.2.2.2.1
theorem gz (c) (t) (v):(opt c t v).length<=1:=by grind[opt]
theorem Mu (x):(iV x).length<=36:=by
 grind[fD,iV]
theorem zO:∀l:List Int,(l.flatMap aC).length<=9*l.length
 | []=>by simp
 |n::r=>by
  have j:=fD n;have a:=zO r
  grind
theorem gp (h:q ∈ opt c t v):q=(t,v):=by
 grind[opt]
theorem Ko (h:gh t) (c:ew t):Bs (dA t):=by
 intro n d;obtain ⟨r,e,a⟩:=List.mem_flatMap.1 d;have b:=Eb h c r e;unfold bG at a;rcases cz.1 a with a|a
 ·exact gb b.1.1 n a
 rcases cz.1 a with a|a
 ·exact gb (by omega) n a
 ·exact b.2 n a
theorem KL (h:q ∈ ie r):q=(1,aC r.1)\/q=(2,aC r.2.1)\/q=(3,aC r.2.2.1)\/q=(4,aC r.2.2.2.1)\/q=(5,aC r.2.2.2.2.1)\/q=(6,r.2.2.2.2.2.1.flatMap aC)\/
 q=(7,dA r.2.2.2.2.2.2.2)\/q ∈ ba iV 0 r.2.2.2.2.2.2.1:=by
 unfold ie at h;simp only [cz,eP] at h
 grind[gp]
theorem Ej (h:RpOk r) (k:okP r):∀q ∈ ie r,k8 q:=by
 intro q f;have b:∀ (t:Int) (v:List Int),0<=t->t<100->Bs v->k8 (t,v):=λt v j g l=>⟨⟨j,by omega⟩,l⟩
 rcases KL f with rfl|rfl|rfl|rfl|rfl|rfl|rfl|f
 ·exact b _ _ (by decide) (by decide) (gb h.id.1)
 ·exact b _ _ (by decide) (by decide) (gb k.e.1)
 ·exact b _ _ (by decide) (by decide) (gb h.a.1)
 ·exact b _ _ (by decide) (by decide) (gb h.n.1)
 ·exact b _ _ (by decide) (by decide) (gb k.st.1)
 ·exact b _ _ (by decide) (by decide) (E1 λn d=>(h.ids n d).1)
 ·exact b _ _ (by decide) (by decide) (Ko h.tok k.tok)
 ·obtain ⟨⟨x,i,g⟩,o,p⟩:=iT iV _ _ _ f;have:=k.evl;have c:=h.evs x i;have m:=k.evs x i;refine ⟨⟨by omega,by omega⟩,?_⟩;rw [g];refine E1 λn d=> ?_
  simp only [a8,eu,ep] at d;rcases d with rfl|rfl|rfl|rfl
  ·exact c.1.1
  ·omega
  ·exact c.2.2.1.1
  ·exact c.2.2.2.1
theorem sY :ef (opt c t v):=by cases c <;>simp [opt,ef]
theorem acT (r):ef (ie r):=by
 obtain ⟨e,f⟩:=v8 iV r.2.2.2.2.2.2.1 0;unfold ie ef;simp only [kE,cz,eP];refine ⟨⟨⟨⟨⟨⟨⟨by simp,sY,?_⟩,sY,?_⟩,sY,?_⟩,sY,?_⟩,sY,?_⟩,sY,?_⟩,e,?_⟩
 ·rintro a rfl b d;rw [gp d];omega
 ·rintro a (rfl|c) b d <;>rw [gp d]
  ·omega
  ·rw [gp c];omega
 ·rintro a ((rfl|c)|c) b d <;>rw [gp d]
  ·omega
  ·rw [gp c];omega
  ·rw [gp c];omega
 ·rintro a (((rfl|c)|c)|c) b d <;>rw [gp d]
  ·omega
  all_goals rw [gp c];omega
 ·rintro a ((((rfl|c)|c)|c)|c) b d <;>rw [gp d]
  ·omega
  all_goals rw [gp c];omega
 ·rintro a (((((rfl|c)|c)|c)|c)|c) b d <;>rw [gp d]
  ·omega
  all_goals rw [gp c];omega
 ·rintro a ((((((rfl|c)|c)|c)|c)|c)|c) b d <;>have g:=f b d
  ·omega
  all_goals rw [gp c];omega
theorem vY (c) (a:t<253) (b:v.length<253):((opt c t v).flatMap bG).length<=2+v.length:=by
 grind[opt,wz]
theorem Mj:∀ (l) (i),i+l.length<=16->((ba iV i l).flatMap bG).length<=38*l.length
 | [],i,_=>by simp [ba]
 |c::r,i,j=>by
  rw [aW] at j;have C:=Mj r (i+1) (by omega)
  grind[Mu,wz,ba]
theorem aeK (a:0<=n) (b:n<65536):(aC n).length<=3:=by
 grind[aC,dz,pw]
theorem Ek (k:okP r):((ie r).flatMap bG).length<=1299:=by
 have b:=fD r.1;have c:=fD r.2.1;have d:=fD r.2.2.1;have f:=fD r.2.2.2.1;have g:=fD r.2.2.2.2.1;have h:=zO r.2.2.2.2.2.1;have i:(dA r.2.2.2.2.2.2.2).length<=486:=qI k.tok;have j:=k.ids;have l:=k.evl;have a:=wz (r:=((1:Int),aC r.1)) (by omega) (by grind);have m:=vY (!decide (r.2.1=0)) (t:=2) (v:=aC r.2.1) (by decide) (by omega);have j3:=vY (!decide (r.2.2.1=0)) (t:=3) (v:=aC r.2.2.1) (by decide) (by omega);have o:=vY (!decide (r.2.2.2.1=0)) (t:=4) (v:=aC r.2.2.2.1) (by decide) (by omega);have p:=vY (!decide (r.2.2.2.2.1=0)) (t:=5) (v:=aC r.2.2.2.2.1) (by decide) (by omega);have q:=vY (decide (0<(r.2.2.2.2.2.1.length:Int))) (t:=6) (v:=r.2.2.2.2.2.1.flatMap aC) (by decide) (by omega)
 have s:((opt (!decide (r.2.2.2.2.2.2.2=(0,([],0)))) 7 (dA r.2.2.2.2.2.2.2)).flatMap bG).length<=490:=by
  cases (!decide (r.2.2.2.2.2.2.2=(0,([],0)))) with
  |false=>simp [opt]
  |true=>
   have e:=aeK (n:=((dA r.2.2.2.2.2.2.2).length:Int)) (by omega) (by omega);have u:(aC 7).length=1:=by decide
   grind[opt,bG]
 have w:=Mj r.2.2.2.2.2.2.1 0 (by omega);unfold ie;simp only [vF,cq,kJ,DK,ji,a];omega
theorem KJ (k:okP r):fi (ie r):=by
 have b:=k.evl;refine ⟨?_,λq a=> ?_,acT r⟩
 ·grind[ie,List.length_append,kO,gz]
 ·have c:=λn=>fD n
  rcases KL a with rfl|rfl|rfl|rfl|rfl|rfl|rfl|a
  ·grind
  ·grind
  ·grind
  ·grind
  ·grind
  ·have:=zO r.2.2.2.2.2.1;have:=k.ids;grind
  ·have:(dA r.2.2.2.2.2.2.2).length<=486:=qI k.tok
   grind
  ·obtain ⟨⟨x,d,e⟩,_⟩:=iT iV _ _ _ a
   grind[Mu]
theorem ac3 (k:okP r):kM (ie r)=((ie r).flatMap bG,0):=by
 grind[Ek,kM,KJ]
theorem LO (x) (t) (v) (hlen:x.length<=1000) (a:u=some v) (J:List br× (Unit×Unit)->Option R):
 cE J (λJ=>u.bind λq=>bif decide ((x.length+1)*32<=az) then J ((x++ ([(t,q)])),((),())) else none)=J (x++ [(t,v)],((),())):=by
 grind[jc,az]
theorem wh (c) (x) (t) (v) (hlen:x.length<=1000) (a:u=some v) (J:List br× (Unit×Unit)->Option R):
 cE J (λJ=>bif c then (u.bind λq=>bif decide ((x.length+1)*32<=az) then J ((x++ ([(t,q)])),((),())) else none) else J (x,((),())))=J (x++opt c t v,((),())):=by
 grind[jc,az,opt]
theorem adS (c) (x) (v) (hlen:x.length<=1000) (a:u=some (v,0)) (J:List Int×Int×List br× (Unit×Unit)->Option (List Int×Int)):
 cE J (λJ=>bif c then (u.bind λq=>bif (!decide (q.2=0)) then (some (([]:List Int),q.2)) else (bif decide ((x.length+1)*32<=az) then J ([],0,(x++ ([(7,q.1)])),((),())) else none)) else J ([],0,x,((),())))=J ([],0,x++opt c 7 v,((),())):=by
 grind[jc,az,opt]
def gn (r):=(ie r).flatMap bG
def only (s:Int) (l:List br):=l.filter λq=>decide (q.1=s)
end Go.Proofs.YtkihadlgknhpkaaGreatDoor.T
