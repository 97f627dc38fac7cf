/- Part 45: lemmas that the last text needs. -/
import Derived.Test.YtkihadlgknhpkaaGreatDoorX44
set_option linter.all false
set_option autoImplicit true
set_option relaxedAutoImplicit true
namespace Go.Proofs.YtkihadlgknhpkaaGreatDoor.T
open Go Go.Fw Go.Proofs RB
set_option maxRecDepth 20000
def gy (q) (d) (l):=b7 CK q l++d::(bQ CK q l).tail
def dB (q:Int) (l:List D2):D2:=match bQ CK q l with|x::_=>x| []=>zC
theorem jU (h:bB CK l) (c:aN CK q l=true):l=b7 CK q l++dB q l::(bQ CK q l).tail/\(dB q l).1=q/\dB q l ∈ l/\bj CK q l<l.length/\l[bj CK q l]?=some (dB q l):=by
 obtain ⟨x,r,a,d,f,b⟩:=pr h c;have e:=eQ (k:=CK) q l;have g:dB q l=x:=by unfold dB;rw [a]
 rw [g,a];refine ⟨by rw [List.tail_cons,<-a];exact e.symm,d,kG b,f,b⟩
theorem Ee (h:bB CK l) (b:aN CK q l=true) (d):l.set (bj CK q l) d=gy q d l:=by
 obtain ⟨a,_,_,c,_⟩:=jU h b;have e:bj CK q l=(b7 CK q l).length:=rfl;unfold gy
 conv=>lhs;rw [a]
 rw [show bj CK q (b7 CK q l++dB q l::(bQ CK q l).tail)=(b7 CK q l).length by rw [<-a];rfl];simp
theorem AS (a:∀c ∈ l,ChTy c) (k:LedOk l) :rh (l,q)=some (if aN CK q l=true then ((bj CK q l:Int),0) else (0,5)):=by
 have:=k.few;unfold rh;rw [uq a,aw k,ai];simp only [al,ax,aa];rw [N8 (by omega) k.inc,ai];cases aN CK q l <;>rfl
theorem ad8 :∀ (i),dv (.int .u64) (.int .i64) (gO i l) h=decide (h ∈ cY l):=λi=>by rw [EN,Fa]
theorem Lx :cC (.int .u64) (.int .i64) 0 (m++n) k=if k ∈ m.map (·.1) then cC (.int .u64) (.int .i64) 0 m k else cC (.int .u64) (.int .i64) 0 n k:=by
 induction m with
 |nil=>simp
 |cons e r c=>
  simp only [dP,cC,cj,c,eX,a8];by_cases h:k=e.1
  ·simp [h]
  ·have:(k=e.1\/k ∈ r.map (·.1))↔k ∈ r.map (·.1):=or_iff_right h;simp only [h,aK,aa];by_cases a:k ∈ r.map (·.1)
   ·rw [aw a];exact (aw (.inr a)).symm
   ·rw [ak a];exact (ak (by rintro (b|b);exact b;exact a b)).symm
theorem adA {H:List (Int×Int)} (h:k ∈ H.map (·.1)):cC (.int .u64) (.int .i64) 0 (H.map λx=>(x.1,v)) k=v:=by
 induction H with
 |nil=>simp at h
 |cons e r b=>
  simp only [eX,cC,cj];by_cases a:k=e.1
  ·simp [a]
  ·simp only [a,aK,aa];refine b ?_;simp only [eX,a8] at h;rcases h with h|h
   ·exact absurd h a
   ·exact h
def iM (h:Int):List D2->Option D2
 | []=>none
 |c::r=>if h ∈ c.2.2.2.2.2.1.map (·.1) then some c else iM h r
theorem yT :∀ (l) (i),(iM h l=none/\h ∉ cY l)\/∃c j,iM h l=some c/\h ∈ cY l/\l[j]?=some c/\cC (.int .u64) (.int .i64) 0 (gO i l) h=((i+j:Nat):Int)/\h ∈ c.2.2.2.2.2.1.map (·.1)
 | [],i=> .inl ⟨rfl,by simp [cY]⟩
 |c::r,i=>by
  have C:(c.2.2.2.2.2.1.map λx=>(x.1,(i:Int))).map (·.1)=c.2.2.2.2.2.1.map (·.1):=by rw [vD];rfl
  by_cases a:h ∈ c.2.2.2.2.2.1.map (·.1)
  ·refine .inr ⟨c,0,by simp only [iM,aw a],?_,rfl,?_,a⟩
   ·unfold cY;rw [kJ];exact lL _ a
   ·rw [gO,Lx,C,aw a,adA a,sE]
  ·rcases yT (h:=h) r (i+1) with ⟨e,b⟩| ⟨d,j,e,b,f,g,k⟩
   ·refine .inl ⟨by simp only [iM,ak a,e],?_⟩;unfold cY at b ⊢;rw [kJ,cz];rintro (h|h)
    ·exact a h
    ·exact b h
   ·refine .inr ⟨d,j+1,by simp only [iM,ak a,e],?_,by simpa using f,?_,k⟩
    ·unfold cY at b ⊢;rw [kJ];exact lK _ b
    ·rw [gO,Lx,C,ak a,g];congr 1;omega
theorem Oc (g:∀c ∈ l,ChTy c) (k:LedOk l) :xd (l,h)=some (match iM h l with|some c=>(c.1,0)|none=>(0,5)):=by
 unfold xd;dsimp -beta -proj only;rw [Oj g,aw k,ai];simp only [al,ax,aa,ad8];rcases yT (h:=h) l 0 with ⟨a,b⟩| ⟨c,j,a,b,d,f,_⟩
 ·simp only [a,b,aK,bm,ah]
 ·have e:=(oS.1 d).1;rw [lI] at f;simp only [a,b,al,ax,aa,f,aV e,ah,aU (t:=Y8) e];rw [cK e] at d;rw [mA d]
theorem LedOk.set (r:∀c ∈ l,ChTy c) (k:LedOk l) (z:aN CK q l=true) (B:ChTy d) (C:ChOk d) (s:cZ d=cZ (dB q l)) (t:d.1=(dB q l).1)
 (i:∃h,d.2.2.2.2.2.1.map (·.1)=h/\(h.Perm ((dB q l).2.2.2.2.2.1.map (·.1))\/(∃x,(x::h).Perm ((dB q l).2.2.2.2.2.1.map (·.1)))\/∃x,h.Perm (x::(dB q l).2.2.2.2.2.1.map (·.1))/\x ∉ cY l)):
 LedOk (gy q d l)/\(∀c ∈ gy q d l,ChTy c)/\aP (gy q d l)=aP l:=by
 obtain ⟨e,g1,I,J,K⟩:=jU k.inc z;generalize dB q l=x at*;generalize D:b7 CK q l=A at*;generalize E:(bQ CK q l).tail=n at*;have F:gy q d l=A++d::n:=by unfold gy;rw [D,E]
 rw [F];have f:∀y:D2,cY (A++y::n)=cY A++ (y.2.2.2.2.2.1.map (·.1)++cY n):=λy=>by unfold cY;rw [vF,kJ]
 refine ⟨⟨?_,?_,?_,?_,?_⟩,?_,?_⟩
 ·have:=k.few;rw [e] at this;simpa using this
 ·intro c g;rcases cz.1 g with g|g
  ·exact k.ch c (by rw [e];exact lL _ g)
  ·rcases a8.1 g with rfl|g
   ·exact C
   ·exact k.ch c (by rw [e];simp [g])
 ·have u:=k.inc;rw [e] at u;have p:=kE.1 u;have p2:=eO.1 p.2.1;refine kE.2 ⟨p.1,eO.2 ⟨λy G=>by have:=p2.1 y G;simp only [CK,t] at this ⊢;exact this,p2.2⟩,λa v b o=> ?_⟩;rcases a8.1 o with rfl|o
  ·have:=p.2.2 a v x (by simp);simp only [CK,t] at this ⊢;exact this
  ·exact p.2.2 a v b (by simp [o])
 ·have:=k.tot;rw [e] at this;simp only [qH] at this ⊢;simp only [aP,eX,vC,s] at this ⊢;exact this
 ·have w:=k.nod;rw [e,f] at w;rw [f];obtain ⟨h,rfl,i⟩:=i
  have m:((x.2.2.2.2.2.1.map (·.1))++ (cY A++cY n)).Nodup:=by
   refine (List.Perm.nodup_iff ?_).1 w;rw [<-fK,<-fK];exact List.perm_append_comm.append_right _
  have fin:((d.2.2.2.2.2.1.map (·.1))++ (cY A++cY n)).Nodup:=by
   rcases i with i| ⟨y,i⟩| ⟨y,i,H⟩
   ·exact (i.append_right _).nodup_iff.2 m
   ·have:=(i.append_right (cY A++cY n)).nodup_iff.2 m;rw [dP] at this;exact (kF.1 this).2
   ·refine (i.append_right _).nodup_iff.2 ?_;rw [dP];refine kF.2 ⟨λj=>H ?_,m⟩;rw [e,f];simp only [cz] at j ⊢;rcases j with j|j|j
    ·exact .inr (.inl j)
    ·exact .inl j
    ·exact .inr (.inr j)
  refine (List.Perm.nodup_iff ?_).1 fin;rw [<-fK,<-fK];exact List.perm_append_comm.append_right _
 ·intro c g;rcases cz.1 g with g|g
  ·exact r c (by rw [e];exact lL _ g)
  ·rcases a8.1 g with rfl|g
   ·exact B
   ·exact r c (by rw [e];simp [g])
 ·conv=>rhs;rw [e]
  simp only [qH];simp only [aP,eX,vC,s]
def eR (l:List D2) (q:Int) (f:D2->D2×Int):=if aN CK q l=true then (if (f (dB q l)).2=0 then (gy q (f (dB q l)).1 l,0) else ([],(f (dB q l)).2)) else ([],5)
theorem zH (k:LedOk l):l9 l=some l:=agu (by have:=k.few;omega) (λc a=>by have:=(k.ch c a).few;omega)
theorem E7 (k:LedOk l) (a:aN CK q l=true) :((l9 l).bind λb=>bif ae (bj CK q l:Int) b.length then some (b.set (bj CK q l:Int).toNat d,(0:Int)) else none)=some (gy q d l,0):=by
 obtain ⟨_,_,_,c,_⟩:=jU k.inc a;rw [zH k,ai,aV c,ah,bu,Ee k.inc a]
theorem zd (k:LedOk l) (c:aN CK q l=true):rd Y8 l (bj CK q l:Int)=dB q l:=by
 obtain ⟨_,_,_,a,b⟩:=jU k.inc c;rw [aU (t:=Y8) a];rw [cK a] at b;exact mA b
theorem agG (b:∀c ∈ l,ChTy c) (k:LedOk l) :Be (l,q)=some (eR l q jV):=by
 unfold Be eR;rw [AS b k,ai]
 cases a:aN CK q l with
 |false=>simp
 |true=>
  obtain ⟨_,_,d,f,_⟩:=jU k.inc a;simp only [aI,al,ax,aa,aV f,ah,zd k a,ags (b _ d) (k.ch _ d),ai];by_cases e:(jV (dB q l)).2=0
  ·simp only [e,aI,al,ax,aa];exact E7 k a
  ·simp [e]
theorem agI (b:∀c ∈ l,ChTy c) (k:LedOk l) (f:ay n):Bh (l,q,n)=some (eR l q (λc=>jP c n)):=by
 unfold Bh eR;simp only;rw [AS b k,ai]
 cases a:aN CK q l with
 |false=>simp
 |true=>
  obtain ⟨_,_,d,g,_⟩:=jU k.inc a;simp only [aI,al,ax,aa,aV g,ah,zd k a,agv (b _ d) (k.ch _ d) f,ai];by_cases e:(jP (dB q l) n).2=0
  ·simp only [e,aI,al,ax,aa];exact E7 k a
  ·simp [e]
theorem age (a:∀c ∈ l,ChTy c) (k:LedOk l) (f:ay n):wP (l,q,h,n)=some (eR l q (λc=>if (iM h l).isSome then (c,6) else nZ c h n)):=by
 unfold wP eR;simp only;rw [AS a k,ai]
 cases b:aN CK q l with
 |false=>simp
 |true=>
  obtain ⟨_,_,d,g,_⟩:=jU k.inc b;simp only [aI,al,ax,aa,aV g,ah,zd k b,af7 (a _ d) (k.ch _ d) f,Oc a k,ai]
  cases i:iM h l with
  |some c=>simp
  |none=>
   simp only [JG,dQ,aH];rw [aq (show ¬ ((0:Int),(5:Int)).2=0 by decide),aa];by_cases e:(nZ (dB q l) h n).2=0
   ·simp only [e,aI,al,ax,aa];exact E7 k b
   ·simp [e]
def lT (l:List D2) (h:Int) (a:Bool):List D2×Int×Int:=match iM h l with
 |none=>([],0,5)
 |some c=>(gy c.1 (jn c h a).1 l,gN h c.2.2.2.2.2.1,0)
theorem Kh (k:LedOk l) (n:iM h l=some c):c ∈ l/\h ∈ c.2.2.2.2.2.1.map (·.1)/\aN HK h c.2.2.2.2.2.1=true/\aN CK c.1 l=true/\dB c.1 l=c:=by
 rcases yT (h:=h) l 0 with ⟨f,_⟩| ⟨d,j,f,_,s,_,o⟩
 ·rw [n] at f;cases f
 ·rw [n] at f;cases f;have g:=kG s;have p:aN CK c.1 l=true:=by unfold aN;rw [qB];exact ⟨c,g,by simp⟩
  refine ⟨g,o,?_,p,?_⟩
  ·obtain ⟨x,t,u⟩:=iK.1 o;unfold aN;rw [qB];exact ⟨x,t,by simp [u]⟩
  ·obtain ⟨_,q,v,_⟩:=jU k.inc p;have r:=k.inc;obtain ⟨a,w,i⟩:=kH v;obtain ⟨b,y,m⟩:=kH g;rcases Nat.lt_trichotomy a b with e|e|e
   ·have:=mM r e y;simp only [CK,i,m,q] at this;omega
   ·subst e;rw [<-i,<-m]
   ·have:=mM r e w;simp only [CK,i,m,q] at this;omega
theorem agL (d:∀c ∈ l,ChTy c) (k:LedOk l) :Bj (l,h,a)=some (lT l h a):=by
 unfold Bj lT;simp only;rw [Oc d k,ai]
 cases i:iM h l with
 |none=>simp
 |some c=>
  obtain ⟨e,n,j,b,m⟩:=Kh k i;obtain ⟨_,_,_,f,_⟩:=jU k.inc b;have g:jn c h a=((jn c h a).1,gN h c.2.2.2.2.2.1,0):=by unfold jn;rw [aw j]
  simp only [al,ax,aa,AS d k,b,aI,ai,aV f,ah,zd k b,m]
  cases a with
  |true=>
   simp only [ah,agw (d _ e) (k.ch _ e),ai];rw [g];simp only [al,ax,aa,zH k,ai,aV f,ah,bu,Ee k.inc b]
  |false=>
   simp only [aa,agx (d _ e) (k.ch _ e),ai];rw [g];simp only [al,ax,aa,zH k,ai,aV f,ah,bu,Ee k.inc b]
open Classical in
noncomputable def kN (l:List D2) (c:D2):List D2×Int:=
 if ¬ChOk c\/c.2.2.2.2.2.2=false\/c.2.2.2.2.2.1≠ [] then ([],1) else if aN CK c.1 l=true then ([],6) else if l.length=32 then ([],7) else
 if LedOk (b7 CK c.1 l++c::bQ CK c.1 l) then (b7 CK c.1 l++c::bQ CK c.1 l,0) else ([],8)
theorem agH (b:∀c ∈ l,ChTy c) (k:LedOk l) (h:ChTy c):Bg (l,c)=some (kN l c):=by
 have i:=k.few;unfold Bg kN;simp only;rw [AY h,ai];by_cases c1:ChOk c
 ·simp only [aw c1,al,ax,aa]
  cases q:c.2.2.2.2.2.2 with
  |false=>simp
  |true=>
   cases n:c.2.2.2.2.2.1 with
   |cons a r=>
    have:(0:Int) <((a::r).length:Int):=by simp only [aW];omega
    simp [c1,this]
   |nil=>
    have o:¬ (¬ChOk c\/true=false\/([]:List (Int×Int))≠ []):=by simp [c1]
    rw [ak o];simp only [ax,aa,dy,DP,DQ,aK,bJ,ah];rw [uq b,aw k,ai];simp only [al,ax,aa];rw [N8 (by omega) k.inc,ai]
    cases s:aN CK c.1 l with
    |true=>simp
    |false=>
     simp only [aa,dQ,aH];by_cases j:l.length=32
     ·simp [j]
     ·have f:¬ (l.length:Int)=32:=by omega
      have t:=ph (k:=CK) c.1 l;have g1:ae (bj CK c.1 l:Int) (l.length+1)=true:=bp (by omega) (by omega);have p:(l.length+1)*72<=az:=by unfold az;omega
      have g:∀d ∈ b7 CK c.1 l++c::bQ CK c.1 l,ChTy d:=λd hd=>by
       have e:=eQ (k:=CK) c.1 l;rcases cz.1 hd with hd|hd
       ·exact b d (by rw [<-e];exact lL _ hd)
       ·rcases a8.1 hd with rfl|hd
        ·exact h
        ·exact b d (by rw [<-e];exact lK _ hd)
      simp only [j,f,aK,aa,aH,zH k,N6 (show c.2.2.2.2.2.1.length<=1000000 by rw [n];simp),ai,g1,p,al,jM,ah,bu,tp,uq g];by_cases m:LedOk (b7 CK c.1 l++c::bQ CK c.1 l)
      ·simp [m]
      ·simp [m]
 ·rw [ak c1,aw (Or.inl c1)];rfl
theorem Li (f:∀c ∈ l,ChTy c) (g:ChTy c) (h:kN l c=(m,0)):LedOk m/\(∀d ∈ m,ChTy d)/\aP m=aP l+cZ c/\ChOk c/\c.2.2.2.2.2.1= []/\m=b7 CK c.1 l++c::bQ CK c.1 l:=by
 unfold kN at h;split at h
 ·simp at h
 split at h
 ·simp at h
 split at h
 ·simp at h
 split at h
 ·rename_i c1 _ _ i;simp only [aL,dn] at h;subst h;have e:=eQ (k:=CK) c.1 l
  have a:ChOk c/\c.2.2.2.2.2.1= []:=by
   refine ⟨jL λb=>c1 (.inl b),jL λb=>c1 (.inr (.inr b))⟩
  refine ⟨i,λd hd=> ?_,?_,a.1,a.2,rfl⟩
  ·rcases cz.1 hd with hd|hd
   ·exact f d (by rw [<-e];exact lL _ hd)
   ·rcases a8.1 hd with rfl|hd
    ·exact g
    ·exact f d (by rw [<-e];exact lK _ hd)
  ·have j:aP l=aP (b7 CK c.1 l)+aP (bQ CK c.1 l):=by rw [<-qH,e]
   rw [qH,j];simp only [aP,eX,vC];omega
 ·simp at h
end Go.Proofs.YtkihadlgknhpkaaGreatDoor.T
namespace Go.Proofs.YtkihadlgknhpkaaGreatDoor.T
open Go Go.Fw Go.Proofs RB
set_option maxRecDepth 20000
section
variable {α:Type} {k:α->Int}
def iP (k:α->Int) (q:Int) (d) (l):=b7 k q l++d::(bQ k q l).tail
def bw (k:α->Int) (z:α) (q:Int) (l:List α):α:=match bQ k q l with|x::_=>x| []=>z
theorem fN (h:bB k l) (a:aN k q l=true):l=b7 k q l++bw k z q l::(bQ k q l).tail/\k (bw k z q l)=q/\bw k z q l ∈ l/\bj k q l<l.length/\l[bj k q l]?=some (bw k z q l):=by
 obtain ⟨x,r,b,c,d,e⟩:=pr h a
 grind[eQ,bw]
theorem qJ {z:α} {q} {l} (h:bB k l) (a:aN k q l=true) (d:α):l.set (bj k q l) d=iP k q d l:=by
 obtain ⟨b,_,_,c,_⟩:=fN (z:=z) h a
 grind[iP,bj,b7]
theorem zL {z:α} {q} {l} (h:bB k l) (e:aN k q l=true) {d} (hd:k d=q):bB k (iP k q d l):=by
 obtain ⟨f,g,_⟩:=fN (z:=z) h e;have c:=h;rw [f] at c;have p:=kE.1 c;have p2:=eO.1 p.2.1;refine kE.2 ⟨p.1,eO.2 ⟨λy i=>by grind,p2.2⟩,λa j b m=> ?_⟩
 grind
theorem EE (h:y ∈ iP k q d l):y=d\/y ∈ l:=by
 have e:=eQ (k:=k) q l;rcases cz.1 h with h|h
 all_goals grind[List.mem_of_mem_tail]
theorem zD {z:α} {q} {l} (h:bB k l) (a:aN k q l=true) {d}:(iP k q d l).length=l.length:=by rw [<-qJ (z:=z) h a,DD]
theorem jN {k} {l} (h:bB k l) (a:aN k q l=true):rd t l (bj k q l:Int)=bw k z q l:=by
 obtain ⟨_,_,_,b,c⟩:=fN (z:=z) h a
 grind[aU]
end
theorem adY {t:Ty} {l:List t.den} {G:t.den->Option Bool} {p:t.den->Bool} (d:∀x ∈ l,G x=some (p x)) (f:l.length<=1099511627776):
 aD (λ(b:(Int×Int)->Option Int) (a:Int×Int)=>
 bif decide (a.2<(l.length:Int)) then (
 bif ae a.2 l.length then
 (G (rd t l a.2)).bind λC=>
 bif C then (
 some a.2)
 else (
 b (a.1,(IntKind.wrap .i64 (a.2+1))))
 else none)
 else (
 some (-1))) (0,0)=some (match l.findIdx? p with|some j=>(j:Int)|none=> -1):=by
 have:=zB (B:=λ(b:(Int×Int)->Option Int) (a:Int×Int)=>
 bif decide (a.2<(l.length:Int)) then (
 bif ae a.2 l.length then
 (G (rd t l a.2)).bind λC=>
 bif C then (
 some a.2)
 else (
 b (a.1,(IntKind.wrap .i64 (a.2+1))))
 else none)
 else (
 some (-1))) l.length (λi=>((0:Int),(i:Int))) (λx=>x.2.toNat) (λi _=>by simp) (λi=>match (l.drop i).findIdx? p with|some j=>((i+j:Nat):Int)|none=> -1) ?_
 ·grind
 ·intro i g e c;simp only;rcases jh i l.length with h|h
  ·rw [aF (eA h),ah,aV h,ah,aU h,d _ (bt h),ai,cx (by omega),gT h,JR]
   grind
  grind
structure PyTy (p:D3):Prop where
 id:ay p.1
 hash:ay p.2.1
 ch:ay p.2.2.1
 n:ay p.2.2.2.1
structure PyOk (l:List D3):Prop where
 few:l.length<=256
 may:∀p ∈ l,(0<p.2.2.2.1/\p.2.2.2.1<=4611686018427387904)/\1<=p.2.2.2.2/\p.2.2.2.2<=3
 inc:bB PK l
theorem tJ (a):fu [a]=some (if a<=4611686018427387904 then 0 else 1):=by
 grind[tK]
theorem N5 (h:(0<p.2.2.2.1/\p.2.2.2.1<=4611686018427387904)/\1<=p.2.2.2.2/\p.2.2.2.2<=3):w8 p=some true:=by
 grind[w8,tJ]
theorem Og (k:PyOk l):xh l=some 0:=by
 have d:=k.few;unfold xh;dsimp -beta -proj only;rw [aq (show ¬ (256:Int) <(l.length:Int) by omega),aa];refine fA l.length (λi=>((0:Int),(i:Int))) (λx=>x.2.toNat) (λi _=>by simp) 0 (λi a b=> ?_) (λb=> ?_)
 ·simp only;rw [aF (eA a),ah,aV a,ah,aU (t:=bF) a,N5 (k.may _ (bt a)),ai];simp only [ax,bJ,ah];rw [cx (by omega)]
  cases i with
  |zero=>rfl
  |succ j=>
   have c:j<l.length:=by omega
   rw [aF (show (0:Int) <((j+1:Nat):Int) by omega)];simp only [bJ,ah];rw [oX (by omega),aV c,ah,aU (t:=bF) c,N4,ai,aq,aa];rw [pz];have:=mM k.inc (show j<j+1 by omega) a
   grind
 grind
theorem FD (k:PyOk l) :ua (l,q)=some ((bj PK q l:Int),if aN PK q l=true then 0 else 5):=by
 have a:=k.few;unfold ua;rw [Og k,ai];simp only [al,ax,aa];rw [agk (by omega) k.inc,ai]
 grind
theorem xk (h:l.length<=1000000):pI l=some l:=by
 grind[az,pI,bC]
def dJ:D3:=(0,0,0,0,0)
def mN (l:List D3) (q:Int) (a:Bool):List D3×Int:=
 if aN PK q l=true then (if (bw PK dJ q l).2.2.2.2=1 then (iP PK q ((bw PK dJ q l).1,(bw PK dJ q l).2.1,(bw PK dJ q l).2.2.1,(bw PK dJ q l).2.2.2.1,bif a then 2 else 3) l,0) else ([],10)) else ([],5)
theorem agM (k:PyOk l) :Bk (l,q,a)=some (mN l q a):=by
 have h:=k.few;unfold Bk mN;dsimp -beta -proj only;simp only;rw [FD k,ai]
 cases b:aN PK q l with
 |false=>simp
 |true=>
  obtain ⟨_,_,_,e,_⟩:=fN (z:=dJ) k.inc b;simp only [aI,al,ax,aa,aV e,ah,jN (t:=bF) (k:=PK) (z:=dJ) k.inc b];by_cases f:(bw PK dJ q l).2.2.2.2=1
  ·simp only [f,al,ax,aa,aI,xk (show l.length<=1000000 by omega),ai,aV e,ah,jN (t:=bF) (k:=PK) (z:=dJ) k.inc b,bu];have g:∀d,bj PK q l<(l.set (bj PK q l) d).length:=λd=>by grind
   have c:∀d,rd bF (l.set (bj PK q l) d) (bj PK q l:Int)=d:=λd=>by grind[aU]
   cases a with
   |true=>
    simp only [ah,aV (g _),c,List.set_set];rw [qJ (z:=dJ) k.inc b]
   |false=>
    simp only [aa];rw [qJ (z:=dJ) k.inc b]
  grind
def ic (l:List D3) (p:D3):List D3×Int:=
 if l.length=256 then (match l.findIdx? (λx=> !decide (x.2.2.2.2=1)) with|none=>([],7)|some j=>(l.eraseIdx j++ [p],0)) else (l++ [p],0)
theorem K9 :∀{l},(∀x ∈ l,k x<q)->bj k q l=l.length/\aN k q l=false
 | [],_=>⟨rfl,rfl⟩
 |a::r,h=>by
  obtain ⟨j,C⟩:=K9 (k:=k) (q:=q) (l:=r) (λx b=>h x (by grind))
  grind[bj,List.takeWhile_cons,aN]
theorem LR (l) (x:α):de l l.length x=l++ [x]:=by grind[de]
theorem agf (k:PyOk l) (c:(0<p.2.2.2.1/\p.2.2.2.1<=4611686018427387904)/\p.2.2.2.2=1) (b:∀x ∈ l,x.1<p.1):wQ (l,p)=some (ic l p):=by
 have g:=k.few;obtain ⟨d,e⟩:=K9 (k:=PK) (q:=p.1) b;unfold wQ ic;dsimp -beta -proj only;simp only;rw [FD k,ai,d,e,N5 ⟨c.1,by omega,by omega⟩];simp only [dQ,aH,show decide ((5:Int)=1)=false from rfl,bJ,ah,ai,ax,aa,c.2,al,show decide ((5:Int)=0)=false from rfl,xk (show l.length<=1000000 by omega)];by_cases h:l.length=256
 ·have f:(l.length:Int)=256:=by omega
  have a:AF (l,())=some (match l.findIdx? (λx=> !decide (x.2.2.2.2=1)) with|some j=>(j:Int)|none=> -1):=by
   unfold AF;exact adY (t:=bF) (G:=Fz) (p:=λx=> !decide (x.2.2.2.2=1)) (λx _=>rfl) (show l.length<=_ by omega)
  rw [aw h,aF f,ah,a,ai]
  cases i:l.findIdx? (λx=> !decide (x.2.2.2.2=1)) with
  |none=>simp
  |some j=>
   grind[List.findIdx?_eq_some_iff_getElem,cX,List.length_drop,aV,az,Int.toNat_natCast,LR,List.eraseIdx_eq_take_drop_succ]
 grind[aV,az,Int.toNat_natCast,LR]
theorem adI (n) (σ:Nat->S) (ix:S->Nat) (b:∀i,i<=n->ix (σ i)=i) (good)
 (h:∀i,i<n->∀a:S->Option R,B a (σ i)=a (σ (i+1))) (c:∀a,B a (σ n)=good):aD B (σ 0)=good:=by
 cases good with
 |none=>exact EI n σ h c
 |some g=>exact fA n σ ix b g h c
def cB (l:List D2):List D9:=l.flatMap λc=>c.2.2.2.2.2.1.map λh=>(c.1,h)
def fB (p:D3):=decide (p.2.2.2.2=1)
structure AgOk (P:List D3) (C:List D2):Prop where
 mem:∀p ∈ P,fB p=true->((p.2.2.1,p.1,p.2.2.2.1):D9) ∈ cB C
 len:(P.filter fB).length=(cB C).length
theorem zN (a b):cj bY a b=decide (a=b):=by
 grind[cj]
def lm (l:List D9):List (D9×Int):=l.map λt=>(t,1)
theorem EG:∀ (l) (q),cC bY (.int .i64) 0 (lm l) q=if q ∈ l then 1 else 0
 | [],q=>by simp [lm,cC]
 |a::r,q=>by
  have j:=EG r q
  grind[lm,cC,zN]
theorem LJ:∀ (l) (q),dv bY (.int .i64) (lm l) q=decide (q ∈ l)
 | [],q=>by simp [lm,dv]
 |a::r,q=>by
  have j:=LJ r q
  grind[lm,dv,zN]
theorem LI:∀ (l) (q),q ∉ l->mi bY (.int .i64) (lm l) q=l.length
 | [],q,_=>rfl
 |a::r,q,j=>by
  have C:¬q=a:=λh=>j (by simp [h])
  have b:q ∉ r:=λh=>j (by simp [h])
  have c:=LI r q b
  grind[lm,mi,zN]
theorem Lv (e) (x y):∀ (l),mset j vt (l++ [(e,x)]) l.length y=l++ [(e,y)]
 | []=>rfl
 |a::r=>by simp only [dP,aW,mset,Lv e x y r]
theorem Lw :∀ (l),q ∉ l->cC bY (.int .i64) 0 (lm l++ [(q,(0:Int))]) q=0
 | [],_=>by grind[lm,cC]
 |a::r,j=>by
  have C:¬q=a:=λh=>j (by simp [h])
  have b:q ∉ r:=λh=>j (by simp [h])
  have c:=Lw r b
  grind[lm,cC,zN]
theorem XB (a b):cB (a++b)=cB a++cB b:=by grind[cB]
theorem XA (l):(cB l).map (λt=>t.2.1)=cY l:=by
 unfold cB cY;rw [List.map_flatMap];congr 1;funext c
 simp_all
theorem Lo {α b:Type} (f:α->b):∀{l:List α},(l.map f).Nodup->l.Nodup
 | [],_=>mD
 |a::r,h=>by
  rw [eX,kF] at h;exact kF.2 ⟨λj=>h.1 (List.mem_map_of_mem j),Lo f h.2⟩
theorem Xz (k:LedOk l):(cB l).Nodup:=Lo (λt=>t.2.1) (by rw [XA];exact k.nod)
theorem DZ:∀{l},(∀c ∈ l,ChOk c)->(cB l).length<=l.length*64
 | [],_=>by simp [cB]
 |c::r,h=>by
  have j:=DZ (l:=r) (λx a=>h x (by grind));have:=(h c (by simp)).few
  grind[cB]
def im (l:List D2):List (Int×Int):=l.map λc=>(c.1,1)
theorem LW:∀ (l) (q),(∀c ∈ l,c.1≠q)->cC (.int .u64) (.int .i64) 0 (im l) q=0
 | [],q,_=>rfl
 |c::r,q,h=>by
  have j:¬q=c.1:=λa=>h c (by simp) a.symm
  have b:=LW r q (λx d=>h x (by grind))
  grind[im,cC,cj]
theorem LU:∀ (l) (q v),(∀c ∈ l,c.1≠q)->bK (.int .u64) (.int .i64) (im l) q v=im l++ [(q,v)]
 | [],q,v,_=>rfl
 |c::r,q,v,h=>by
  have j:¬q=c.1:=λa=>h c (by simp) a.symm
  have b:=LU r q v (λx d=>h x (by grind))
  grind[im,bK,cj]
theorem LV (q v):∀ (l),(∀c ∈ l,c.1≠q)->cC (.int .u64) (.int .i64) 0 (im l++ [(q,v)]) q=v
 | [],_=>by simp [im,cC,cj]
 |c::r,h=>by
  have j:¬q=c.1:=λa=>h c (by simp) a.symm
  have b:=LV q v r (λx d=>h x (by grind))
  grind[im,cC,cj]
theorem aej {P:List D3} {i:Nat} (h:i<P.length):((P.take (i+1)).filter fB).length=((P.take i).filter fB).length+ (if fB P[i]=true then 1 else 0):=by
 grind[List.take_succ_eq_append_getElem]
theorem agS (v:PyOk P) (k:LedOk C) (h:AgOk P C):xr (P,C)=some (true,0):=by
 have L:=k.few;have w:=v.few;have M:=Xz k;have N:=DZ k.ch;unfold xr;dsimp -beta -proj only;simp only;rw [Og v,ai,aq (show ¬ (32:Int) <(C.length:Int) by omega)];simp only [al,ax,aa];refine fA C.length (λi:Nat=>((false,0,((cB (C.take i)).length:Int),(i:Int),im (C.take i),lm (cB (C.take i))):Gc)) (λx=>x.2.2.2.1.toNat) (λi _=>by simp) (true,0) (λi m n=> ?_) (λn=> ?_)
 ·simp only
  have b:∀c ∈ C.take i,c.1≠C[i].1:=λc o=>by
   obtain ⟨j,f,rfl⟩:=kH o;rw [dZ] at f;have:=mM k.inc (show j<i by omega) m
   grind
  have w1:IntKind.wrap .i64 ((0:Int)+1)=1:=rfl;rw [aF (eA m),ah,aV m,ah,aU (t:=Y8) m,LW _ _ b,w1,LU _ _ _ b,LV _ _ _ b,cx (by omega)];simp only [DQ,aK,aa]
  have y:cB (C.take (i+1))=cB (C.take i)++C[i].2.2.2.2.2.1.map λh=>(C[i].1,h):=by
   grind[List.take_succ_eq_append_getElem,cB]
  have z:im (C.take i)++ [(C[i].1,1)]=im (C.take (i+1)):=by grind[im,List.take_succ_eq_append_getElem]
  have p:(cB (C.take (i+1))).Nodup:=by
   grind[XB,List.take_append_drop]
  have q:(cB (C.take (i+1))).length<=2048:=by
   have:=DZ (l:=C.take (i+1)) (λc o=>k.ch c (lJ o))
   grind
  rw [z];rw [y] at p q ⊢;generalize O:C[i].2.2.2.2.2.1=H at*;generalize C[i].1=a at*;generalize cB (C.take i)=t0 at*;have A:H.length<=2048:=by grind
  have e0:(((t0.length:Int),0,lm t0):xH)=(λj:Nat=>((((t0++ (H.take j).map λh=>((a,h):D9)).length:Int),(j:Int),lm (t0++ (H.take j).map λh=>(a,h))):xH)) 0:=by simp
  rw [e0];refine adI H.length (λj:Nat=>((((t0++ (H.take j).map λh=>((a,h):D9)).length:Int),(j:Int),lm (t0++ (H.take j).map λh=>(a,h))):xH)) (λx=>x.2.1.toNat) (λj _=>by simp) _ (λj f B=> ?_) (λB=> ?_)
  ·simp only
   have Q:(a,H[j]) ∉ t0++ (H.take j).map λh=>((a,h):D9):=by
    have e:t0++H.map (λh=>((a,h):D9))=(t0++ (H.take j).map λh=>((a,h):D9))++ (a,H[j])::(H.drop (j+1)).map λh=>(a,h):=by
     grind[List.drop_eq_getElem_cons,List.take_append_drop]
    grind
   have D:(t0++ (H.take j).map λh=>((a,h):D9)).length<=2048:=by
    grind
   have g:t0++ (H.take (j+1)).map (λh=>((a,h):D9))=(t0++ (H.take j).map λh=>((a,h):D9))++ [(a,H[j])]:=by
    grind[List.take_succ_eq_append_getElem]
   rw [g];generalize t0++ (H.take j).map (λh=>((a,h):D9))=d at*;have E:(lm d).length=d.length:=by grind[lm]
   have r:p7 bY (.int .i64) 0 (lm d) (a,H[j])=lm d++ [((a,H[j]),(0:Int))]:=by
    grind[p7,LJ]
   have s:mset bY (.int .i64) (lm d++ [((a,H[j]),(0:Int))]) d.length (1:Int)=lm (d++ [(a,H[j])]):=by
    grind[Lv,lm]
   have R:ae (d.length:Int) (lm d++ [(((a,H[j]):D9),(0:Int))]).length=true:=aV (by grind)
   grind[EG,aV,aU,bC,LI,Lw,cx]
  grind
 ·simp only;rw [aq (by omega),aa,fX];have F:((false,0,((cB C).length:Int),0):D8)=(λj:Nat=>((false,0,((cB C).length:Int) -(((P.take j).filter fB).length:Int),(j:Int)):D8)) 0:=by simp
  rw [F];refine fA P.length (λj:Nat=>((false,0,((cB C).length:Int) -(((P.take j).filter fB).length:Int),(j:Int)):D8)) (λx=>x.2.2.2.toNat) (λi _=>by simp) (true,0) (λj f G=> ?_) (λG=> ?_)
  ·simp only;have I:=aej f
   have J:((P.take j).filter fB).length<=256:=by
    grind
   rw [aF (eA f),ah,aV f,ah,aU (t:=bF) f,cx (by omega)];by_cases K:P[j].2.2.2.2=1
   ·have u:fB P[j]=true:=aF K;have S:=h.mem _ (bt f) u
    grind[EG,cX]
   grind[fB]
  ·simp only;rw [aq (by omega),aa,fX,h.len];simp
structure InTy (x:D1):Prop where
 hash:ay x.1
 n:ay x.2.1
 till:ay x.2.2.1
structure InOk (l:List D1):Prop where
 few:l.length<=256
 may:∀x ∈ l,(0<x.2.1/\x.2.1<=4611686018427387904)/\1<=x.2.2.2/\x.2.2.2<=3
 inc:bB IK l
theorem Oh (n):uf n=some (decide (0<n/\n<=4611686018427387904)):=by
 unfold uf;rw [tJ];by_cases h:0<n
 ·by_cases a:n<=4611686018427387904
  ·simp [h,a]
  ·rw [ak a];simp [h,a]
 ·simp [h]
theorem FQ (k:InOk l):uo l=some 0:=by
 have f:=k.few;unfold uo;dsimp -beta -proj only;rw [aq (show ¬ (256:Int) <(l.length:Int) by omega),aa];refine fA l.length (λi=>((0:Int),(i:Int))) (λx=>x.2.toNat) (λi _=>by simp) 0 (λi a b=> ?_) (λb=> ?_)
 ·simp only;have d:=k.may _ (bt a)
  have e:(bif (bif (!decide (0<l[i].2.1/\l[i].2.1<=4611686018427387904)) then true else decide (l[i].2.2.2<1)) then true else decide (3<l[i].2.2.2))=false:=by
   rw [aF d.1,aq (show ¬l[i].2.2.2<1 by omega),aq (show ¬3<l[i].2.2.2 by omega)];rfl
  rw [aF (eA a),ah,aV a,ah,aU (t:=bH) a,Oh,ai];rw [cx (by omega),e,aa]
  cases i with
  |zero=>rfl
  |succ j=>
   have c:j<l.length:=by omega
   rw [aF (show (0:Int) <((j+1:Nat):Int) by omega)];simp only [bJ,ah]
   rw [oX (by omega),aV c,ah,aU (t:=bH) c,Oi,ai,aq (show ¬0<=cT l[j].1 l[j+1].1 by
    rw [pz];have:=mM k.inc (show j<j+1 by omega) a
    simp only [IK] at this;omega)]
   rfl
 ·simp only;rw [aq (by omega),aa]
theorem FC (k:InOk l) :tQ (l,q)=some ((bj IK q l:Int),if aN IK q l=true then 0 else 5):=by
 have a:=k.few;unfold tQ;rw [FQ k,ai];simp only [al,ax,aa];rw [af9 (by omega) k.inc,ai];cases aN IK q l <;>rfl
theorem uh (h:l.length<=1000000):ot l=some l:=by
 have k:(0+l.length)*32<=az:=by unfold az;omega
 unfold ot;dsimp -beta -proj only
 cases l with
 |nil=>simp [bC,az]
 |cons a r=>simp only [DF,aa,dy,k,al,ah,fJ,bC]
def zI:D1:=(0,0,0,0)
def iU (x:D1) (tick):=if x.2.2.2=1/\x.2.2.1<tick then 4 else x.2.2.2
theorem AV (x) (tick):rj (x,tick)=some (iU x tick):=by
 unfold rj iU;by_cases h:x.2.2.2=1
 ·by_cases a:x.2.2.1<tick <;>simp [h,a]
 ·simp [h]
def gq (l:List D1) (q tick n a:Int):List D1×Int:=
 if aN IK q l=true then (if iU (bw IK zI q l) tick=4 then ([],13) else if iU (bw IK zI q l) tick≠1 then ([],10) else if n<(bw IK zI q l).2.1 then ([],9)
  else (iP IK q ((bw IK zI q l).1,(bw IK zI q l).2.1,(bw IK zI q l).2.2.1,a) l,0)) else ([],5)
theorem N9 (k:InOk l) :xc (l,q,tick,n,f)=some (gq l q tick n f):=by
 have g:=k.few;unfold xc gq;dsimp -beta -proj only;simp only;rw [FC k,ai]
 cases a:aN IK q l with
 |false=>simp
 |true=>
  obtain ⟨_,_,_,d,_⟩:=fN (z:=zI) k.inc a;simp only [aI,al,ax,aa,aV d,ah,jN (t:=bH) (k:=IK) (z:=zI) k.inc a,AV,ai];by_cases b:iU (bw IK zI q l) tick=4
  ·simp [b]
  ·by_cases c:iU (bw IK zI q l) tick=1
   ·by_cases e:n<(bw IK zI q l).2.1
    ·simp [b,c,e]
    ·have:¬ (1:Int)=4:=by decide
     simp only [c,this,e,aK,al,aa,ax,aH,cU,dm,uh (show l.length<=1000000 by omega),ai,aV d,ah,jN (t:=bH) (k:=IK) (z:=zI) k.inc a,bu];rw [qJ (z:=zI) k.inc a]
   ·simp [b,c]
theorem agJ (k:InOk l) :Bi (l,q,n,tick)=some (gq l q tick n 2):=by unfold Bi;rw [N9 k];rfl
theorem agc (k:InOk l) :AL (l,q,tick)=some (gq l q tick 4611686018427387904 3):=by unfold AL;rw [N9 k];rfl
theorem E0 (k:InOk l) (b:∀x ∈ l,InTy x) (e:1<=j/\j<=3) (h:gq l q tick n j=(m,0)):InOk m/\∀x ∈ m,InTy x:=by
 unfold gq at h;split at h
 ·rename_i d;split at h
  ·simp at h
  split at h
  ·simp at h
  split at h
  ·simp at h
  simp only [aL,dn] at h;subst h;obtain ⟨_,g1,c,_⟩:=fN (z:=zI) k.inc d;have f:=k.may _ c;refine ⟨⟨by rw [zD (z:=zI) k.inc d];exact k.few,λx a=> ?_,zL (z:=zI) k.inc d g1⟩,λx a=> ?_⟩
  ·rcases EE a with rfl|a
   ·exact ⟨f.1,e⟩
   ·exact k.may x a
  ·rcases EE a with rfl|a
   ·exact ⟨(b _ c).hash,(b _ c).n,(b _ c).till⟩
   ·exact b x a
 ·simp at h
def lV (l:List D1) (q n till:Int):List D1×Int:=
 if ¬ (0<n/\n<=4611686018427387904) then ([],1) else if aN IK q l=true then ([],6) else if l.length=256 then ([],7) else (b7 IK q l++ (q,n,till,1)::bQ IK q l,0)
theorem agd (k:InOk l) :AM (l,q,n,till)=some (lV l q n till):=by
 have g:=k.few;unfold AM lV;simp only;rw [FC k,ai,Oh];have e:∀b,(decide ((if b=true then (0:Int) else 5)=1)==false)=true:=by intro b;cases b <;>rfl
 simp only [e,ah,ai];by_cases a:0<n/\n<=4611686018427387904
 ·rw [aF a,ak (show ¬¬ (0<n/\n<=4611686018427387904) from λh=>h a)];simp only [ax,aa]
  cases i:aN IK q l with
  |true=>simp
  |false=>
   by_cases d:l.length=256
   ·simp [d]
   ·have c:¬ (l.length:Int)=256:=by omega
    have j:=ph (k:=IK) q l;have g1:ae (bj IK q l:Int) (l.length+1)=true:=bp (by omega) (by omega);have f:(l.length+1)*32<=az:=by unfold az;omega
    simp only [dQ,aH,show decide ((5:Int)=0)=false from rfl,aa,d,c,aK,uh (show l.length<=1000000 by omega),ai,g1,f,al,jM,ah,bu,tp]
 ·rw [aq a,aw a];rfl
theorem MA (k:InOk l) (d:∀x ∈ l,InTy x) (f:ay q) (g:ay n) (c:ay till) (h:lV l q n till=(m,0)):InOk m/\∀x ∈ m,InTy x:=by
 unfold lV at h;split at h
 ·simp at h
 split at h
 ·simp at h
 split at h
 ·simp at h
 rename_i i j o;simp only [aL,dn] at h;subst h;have e:=eQ (k:=IK) q l
 have b:∀x ∈ b7 IK q l++ (q,n,till,1)::bQ IK q l,x=(q,n,till,1)\/x ∈ l:=λx a=>by
  rcases cz.1 a with a|a
  ·exact .inr (by rw [<-e];exact lL _ a)
  ·rcases a8.1 a with a|a
   ·exact .inl a
   ·exact .inr (by rw [<-e];exact lK _ a)
 refine ⟨⟨?_,λx a=> ?_,wj k.inc (by simpa using j) rfl⟩,λx a=> ?_⟩
 ·have:=bz List.length e;have p:=k.few;rw [cq] at this;rw [cq,aW];omega
 ·rcases b x a with rfl|a
  ·exact ⟨by simpa using i,by simp,by simp⟩
  ·exact k.may x a
 ·rcases b x a with rfl|a
  ·exact ⟨f,g,c⟩
  ·exact d x a
def jQ (tick) (x):=bif decide (iU x tick=4) then true else decide (x.2.2.2=3)
theorem agF (k:InOk l) :Bc (l,tick)=some (l.filter (λx=> !jQ tick x),0):=by
 have O:=k.few;unfold Bc;dsimp -beta -proj only;simp only;rw [FQ k,ai];simp only [al,ax,aa];rw [uh (by omega),ai];refine bE (λx=>∃i:Nat,x=((0:Int),(i:Int))/\i<=l.length/\∀j (h:j<i) (n),jQ tick l[j]=false) (λx=>l.length - x.2.toNat) (λ_=>(l.filter (λx=> !jQ tick x),(0:Int))) ?_ (0,0) ⟨0,rfl,gK _,λj e=>by omega⟩;rintro _ ⟨i,rfl,P,g⟩ J o;simp only;rcases jh i l.length with b|K
 ·rw [aF (eA b),ah,aV b,ah,aU (t:=bH) b,AV,ai,cx (by omega)];have y:(bif decide (iU l[i] tick=4) then true else decide (l[i].2.2.2=3))=jQ tick l[i]:=rfl;rw [y]
  cases H:jQ tick l[i] with
  |false=>
   rw [aa];refine o ((0:Int),((i+1:Nat):Int)) ⟨i+1,rfl,b,λj e n=> ?_⟩ (by simp only [bu];omega);rcases Xn.1 e with e|rfl
   ·exact g j e n
   ·exact H
  |true=>
   rw [ah,aq (show ¬ ((i:Int)= -1) by omega),aa]
   have p:(l.take (i+1)).filter (λx=> !jQ tick x)=l.take i:=by
    rw [fg b,oT,JT.2 (λx A=>by
     obtain ⟨j,e,rfl⟩:=kH A;rw [dZ] at e
     rw [List.getElem_take,g j (by omega) (by omega)];rfl)]
    simp [H]
   refine bE (λx=>∃ (w r:Nat) (m:List D1),x=((w:Int),(r:Int),m)/\m.length=l.length/\w<r/\r<=l.length/\m.take w=(l.take r).filter (λx=> !jQ tick x)/\m.drop r=l.drop r) (λx=>l.length - x.2.1.toNat) (λ_=>(l.filter (λx=> !jQ tick x),(0:Int))) ?_ _ ⟨i,i+1,l,rfl,rfl,by omega,b,p.symm,rfl⟩;rintro _ ⟨w,r,m,rfl,v,L,Q,B,n⟩ I c;simp only [v];rcases jh r l.length with a|a
   ·have q:r<m.length:=by omega
    have f:=a
    have C:=by
     have:=bz (λz=>z[0]?) n;simp only [qy,sE,cK q,cK a] at this;exact mA this
    rw [aF (eA f),ah,aV f,ah,aU (t:=bH) q,AV,ai,C];have s:(bif decide (iU l[r] tick=4) then true else decide (l[r].2.2.2=3))=jQ tick l[r]:=rfl;rw [s,cx (by omega),cx (by omega)]
    have d:m.drop (r+1)=l.drop (r+1):=by
     have:=bz (List.drop 1) n;simpa [vH,Nat.add_comm] using this
    cases u:jQ tick l[r] with
    |true=>
     simp only [ax,aa];refine c _ ⟨w,r+1,m,rfl,v,by omega,a,?_,d⟩ (by simp only [bu];omega);rw [B,fg a,oT];simp [u]
    |false=>
     have D:w<l.length:=by omega
     simp only [bm,ah,aV D,bu];refine c _ ⟨w+1,r+1,m.set w l[r],rfl,by rw [DD];exact v,by omega,a,?_,?_⟩ (by simp only [bu];omega)
     ·rw [fg (by rw [DD];omega),List.take_set_of_le (aR _),B,fg a,oT];simp [u]
     ·rw [List.drop_set_of_lt (by omega)];exact d
   ·have E:r=l.length:=by omega
    subst E;have F:¬ ((l.length:Int) <(l.length:Int)):=by omega
    have M:ae (w:Int) (l.length+1)=true:=aV (by omega);have N:w+ (l.length - w)<=l.length:=by omega
    have hlen:(m.take w++ (List.replicate (l.length - w) (0,0,0,0):List D1)++m.drop (w+ (l.length - w))).length=l.length:=by
     simp only [cq,dZ,yO,gL,v];omega
    rw [aq F,aa];simp only [bu,M,ah,N,al,hlen];have G:(m.take w).length=w:=by rw [dZ];omega
    congr 2;rw [fK,DA G,B,fX]
 ·have:i=l.length:=by omega
  subst this;rw [aq (by omega),aa];congr 2;symm;rw [JT];intro x A;obtain ⟨j,e,rfl⟩:=kH A;rw [g j e e];rfl
theorem XE (k:InOk l) (b:∀x ∈ l,InTy x) (p):InOk (l.filter p)/\∀x ∈ l.filter p,InTy x:=
 ⟨⟨b9 (sH _ _) k.few,λx a=>k.may x (nH.1 a).1,yR DL k.inc⟩,λx a=>b x (nH.1 a).1⟩
theorem ago (k:InOk l) :wV (l,q,tick)=some (if aN IK q l=true then (iU (bw IK zI q l) tick,0) else (0,5)):=by
 unfold wV;simp only;rw [FC k,ai]
 cases a:aN IK q l with
 |false=>simp
 |true=>
  obtain ⟨_,_,_,b,_⟩:=fN (z:=zI) k.inc a;simp only [aI,al,ax,aa,aV b,ah,jN (t:=bH) (k:=IK) (z:=zI) k.inc a,AV,ai]
theorem agn (k:PyOk l) :wT (l,q)=some (if aN PK q l=true then (bw PK dJ q l,0) else (dJ,5)):=by
 unfold wT;rw [FD k,ai]
 cases a:aN PK q l with
 |false=>simp [dJ]
 |true=>
  obtain ⟨_,_,_,b,_⟩:=fN (z:=dJ) k.inc a;simp only [aI,al,ax,aa,aV b,ah,jN (t:=bF) (k:=PK) (z:=dJ) k.inc a]
end Go.Proofs.YtkihadlgknhpkaaGreatDoor.T
