/- Part 52: lemmas that the last text needs. -/
import Derived.Test.YtkihadlgknhpkaaGreatDoorX14
import Derived.Test.YtkihadlgknhpkaaGreatDoorX51
import Derived.Shelf.SlSortCmp.NoneTotal
import Derived.Laws.Externs
import Derived.Laws.IdiomCopy
set_option linter.all false
set_option autoImplicit true
set_option relaxedAutoImplicit true
namespace Go.Fw
noncomputable def uU {R:Type} (P:Program) (f:FuncId) (e:TypeId) (t:Ty) (xs:List PV) (a:St) (K:PV->St->Option R):=match xs with
 | [.own k,.int .i64 i,.own b]=>match a.obj k,(a.del k).obj b with
   |some (.row c d l),some (.row _ g [x])=>if c=e then if h:d=t then if j:g=t then bif ae i (l.length+1) && decide ((l.length+1)*P.bytesOf e<=az) then
    (match ki (a.del k) (50000000+4*f) (.row e t (de (h ▸ l) i.toNat (j ▸ x))) with|some (m,a)=>K (.own m) a|none=>none) else none else none else none else none
   |_,_=>none
 |_=>none
noncomputable def vg {R:Type} (f:FuncId) (e:TypeId) (t:Ty) (xs:List PV) (a:St) (K:PV->St->Option R):=match xs with
 | [.own k,.int .i64 i,.int .i64 j]=>match a.obj k with
   |some (.row c d l)=>if c=e then if b:d=t then bif decide (0<=i) && decide (i<=j) && ae j (l.length+1) then
    (match ki (a.del k) (50000000+4*f) (.row e t ((b ▸ l:List t.den).take i.toNat++ (b ▸ l:List t.den).drop j.toNat)) with|some (g,a)=>K (.own g) a|none=>none) else none else none else none
   |_=>none
 |_=>none
noncomputable def Ctx.addIns (C:Ctx) (f:FuncId) (e) (t):=
 {C with inlined:=λi=>bif Nat.beq i f then true else C.inlined i,inl:=λi xs a _ K=>bif Nat.beq i f then uU C.P f e t xs a K else C.inl i xs a K,marks:= []}
noncomputable def Ctx.addDel (C:Ctx) (f:FuncId) (e) (t):=
 {C with inlined:=λi=>bif Nat.beq i f then true else C.inlined i,inl:=λi xs a _ K=>bif Nat.beq i f then vg f e t xs a K else C.inl i xs a K,marks:= []}
end Go.Fw
namespace Go.Fw
open Go.Sort (HoldsK PermIn SortedIn flatK putRowK putRow mapBlock putCells onCells grow)
open Go.Proofs (ltOf sortWorldK)
section
variable {Q:Int×Value->Prop}
def fT (x: {x // Q x}):= [.int .u64 x.1.1,x.1.2]
end
structure SortPays (P:Program) (f g:FuncId) (Q:Int×Value->Prop) [Inhabited {x:Int×Value // Q x}] (cf: {x:Int×Value // Q x}->{x:Int×Value // Q x}->Int):Prop where
 some_:∀ (blk cap:Nat) (d:Array {x:Int×Value // Q x}) (w:World),HoldsK fT 2 w blk 0 d->blk<w.heap.size->d.size<4611686018427387904->
  Calls P f #[.slice (some ⟨blk,0,none⟩) d.size cap,.func (.func g) #[] #[]] w λe w'=>e= .returned (.tuple #[])/\∃d' n os,PermIn 0 d.size d d'/\SortedIn (ltOf cf) 0 d.size d'/\w'=sortWorldK fT 2 w blk 0 n d' os
 none_:∀ (p:Option Addr) (cap:Nat) (w:World),Calls P f #[.slice p 0 cap,.func (.func g) #[] #[]] w λe w'=>e= .returned (.tuple #[])/\w'=w
def jI {α β:Type} (R:α->β->Prop):List α->List β->Prop
 | [],[]=>True
 |x::r,y::s=>R x y/\jI R r s
 |_,_=>False
section
variable {α β:Type} {R:α->β->Prop}
theorem jI.length:∀{l} {m},jI R l m->l.length=m.length
 | [],[],_=>rfl
 |_::_,_::_,h=>by simp [jI.length h.2]
 | [],_::_,h=>h.elim
 |_::_,[],h=>h.elim
theorem jI.alU (g:m.Perm m'):∀{l},jI R l m->∃j,l.Perm j/\jI R j m':=by
 induction g with
 |nil=>
  intro l h
  cases l with
  |nil=>simp_all
  |cons _ _=>exact h.elim
 |cons x _ i=>
  intro l h
  cases l with
  |nil=>exact h.elim
  |cons y r=>
   obtain ⟨j,c,d⟩:=i h.2;exact ⟨y::j,c.cons y,h.1,d⟩
 |swap x y s=>
  intro l h
  cases l with
  |nil=>exact h.elim
  |cons a r=>
   cases r with
   |nil=>exact h.2.elim
   |cons b r=>exact ⟨b::a::r,.swap b a r,h.2.1,h.1,h.2.2⟩
 |trans _ _ e f=>
  intro l h;obtain ⟨p,c,d⟩:=e h;obtain ⟨k,n,o⟩:=f d;exact ⟨k,c.trans n,o⟩
theorem jI.get:∀{l} {m} (i:Nat) (x),jI R l m->l[i]?=some x->∃y,m[i]?=some y/\R x y
 | [],[],i,x,_,h=>by grind
 |a::r,b::s,0,x,h,j=>by
  simp only [sJ,aB] at j;subst j;exact ⟨b,rfl,h.1⟩
 |a::r,b::s,i+1,x,h,j=>by
  simp only [nJ] at j ⊢;exact jI.get i x h.2 j
 | [],_::_,_,_,h,_=>h.elim
 |_::_,[],_,_,h,_=>h.elim
end
def yz {Q:Int×Value->Prop} (w:World) (ok:Nat->Prop) (a:Ty) (x:Int×a.den) (y: {x // Q x}):=y.1.1=x.1/\aJ w ok a x.2 [y.1.2]
structure SortK (Q:Int×Value->Prop) [Inhabited {x:Int×Value // Q x}] (cf: {x:Int×Value // Q x}->{x:Int×Value // Q x}->Int) (tv:Ty) (okl:List (Int×tv.den)->Bool) (so:List (Int×tv.den)->List (Int×tv.den)):Prop where
 size:tv.size=1
 is:∀{l:List (Int×tv.den)},okl l=true->∀x ∈ l,∀{w:World} {ok:Nat->Prop} {v:Value},aJ w ok tv x.2 [v]->(Lit.int .u64 x.1).wf=true->Q (x.1,v)
 wf:∀y: {x:Int×Value // Q x},(Lit.int .u64 y.1.1).wf=true
 few:∀{l:List (Int×tv.den)},okl l=true->l.length<4611686018427387904
 nil:so []= []
 len:∀l,(so l).length=l.length
 uniq:∀{l l':List (Int×tv.den)} {w:World} {ok:Nat->Prop} {d:Array {x:Int×Value // Q x}},okl l=true->l.Perm l'->jI (yz w ok tv) l' d.toList->SortedIn (ltOf cf) 0 d.size d->so l=l'
section
variable {Q:Int×Value->Prop}
def mq (a:List {x // Q x}):=(a.map fT).flatten
theorem Wi:∀ (a:List {x // Q x}) (t),(mq a)[t]?=(a[t / 2]?).bind λx=>(fT x)[t % 2]?
 | [],t=>by simp [mq]
 |x::r,0=>by simp [mq,fT]
 |x::r,1=>by simp [mq,fT]
 |x::r,t+2=>by
  have j:(t+2) / 2=t / 2+1:=by omega
  have b:(t+2) % 2=t % 2:=by omega
  rw [j,b,nJ,<-Wi r t];simp [mq,fT]
theorem UD (a:d.size=1):∀{l} {cs},aT w ok (.pair (.int .u64) d) l cs->(∀x ∈ l,∀{v},aJ w ok d x.2 [v]->(Lit.int .u64 x.1).wf=true->Q (x.1,v))->∃b:List {x // Q x},jI (yz w ok d) l b/\cs=mq b
 | [],cs,h,_=>⟨[],aO,h⟩
 |x::r,_,⟨c,I,J,⟨c1,c2,U,h3,j⟩,h5⟩,C=>by
  obtain ⟨b,g1,g2⟩:=UD a h5 (λy f=>C y (iL _ f));obtain ⟨g,i⟩:=h3;have e:=j.len;rw [a] at e;obtain ⟨v,rfl⟩:=DE.1 e;refine ⟨⟨(x.1,v),C x (JL ..) j i⟩::b,⟨⟨rfl,j⟩,g1⟩,?_⟩;rw [J,U,g2,g];rfl
theorem Wc (a:∀y: {x // Q x},(Lit.int .u64 y.1.1).wf=true):∀{l} {b:List {x // Q x}},jI (yz w ok c) l b->aT w ok (.pair (.int .u64) c) l (mq b)
 | [],[],_=>rfl
 |x::r,y::s,h=>by
  refine ⟨[.int .u64 x.1,y.1.2],mq s,?_,⟨[.int .u64 x.1],[y.1.2],rfl,⟨rfl,?_⟩,h.1.2⟩,Wc a h.2⟩
  ·rw [<-h.1.1];rfl
  ·rw [<-h.1.1];grind
 | [],_::_,h=>h.elim
 |_::_,[],h=>h.elim
variable [Inhabited {x:Int×Value // Q x}]
theorem VT (d:Array {x // Q x}):(flatK fT 2 d).toList=mq d.toList:=by
 apply sK
 grind[Wi,fT,flatK]
def uL {R:Type} (g:FuncId) (a:Ty) (b:List (Int×a.den)->Bool) (e:List (Int×a.den)->List (Int×a.den)) (xs:List PV) (c:St) (K:PV->St->Option R):Option R:=match xs with
 | [.own k,.fn d []]=>bif Nat.beq d g then (match c.obj k with
   |some (.row f t l)=>if h:t= .pair (.int .u64) a then bif b (Wj h l:List (Int×a.den)) then K (.tup []) (c.setO k (.row f (.pair (.int .u64) a) (e (Wj h l:List (Int×a.den))))) else none else none
   |_=>none) else none
 | [.full _ _ l,.fn d []]=>bif Nat.beq d g && l.isEmpty then K (.tup []) c else none
 |_=>none
def Ctx.addS (C:Ctx) (f g:FuncId) (c:Ty) (a) (d):=
 {C with inlined:=λi=>bif Nat.beq i f then true else C.inlined i,inl:=λi xs b _ K=>bif Nat.beq i f then uL g c a d xs b K else C.inl i xs b K,marks:= []}
theorem aiX (hp:SortPays P f g Q cf) (hs:SortK Q cf C okl so) (H:uL g C okl so xs st K=some r)
 (h:Rep m w0 st a c) (s:au c xs vs.toList):
 Calls P f vs c.w λe w'=>∃u v st' c',e= .returned u/\c'.w=w'/\K v st'=some r/\Rep m w0 st' a c'/\RepV c' v u:=by
 unfold uL at H;split at H
 ·rename_i k g';obtain ⟨I,J⟩:=b6 H;clear H;have hg:=dD.1 I;clear I;subst hg;split at J
  ·rename_i W t l ho;split at J
   ·rename_i ht;subst ht;obtain ⟨L,hr0⟩:=b6 J;clear J;have H:K (.tup []) (st.setO k (.row W (.pair (.int .u64) C) (so (l:List (Int×C.den)))))=some r:=hr0;clear hr0
    replace L:okl (l:List (Int×C.den))=true:=L
    have hk3:=hs.few L;have htv:=hs.size;simp only [au] at s;obtain ⟨v1,q1,hv,T,v2,q2,hv',z,rfl⟩:=s;subst hv';simp only [RepV] at T z;obtain ⟨cap,z,M⟩:=z;simp only [au] at M;have B:cap= #[]:=by grind
    subst B
    have U:vs= #[c.σ k,.func (.func g') #[] #[]]:=by
     grind
    clear hv z;have hob:c.ob k=some (.row W (.pair (.int .u64) C) l):=by rw [h.ob];exact ho
    obtain ⟨A,n,s1,s2,s3,s4⟩:=h.objs k _ hob;rw [s1] at U;subst U;by_cases hl0:l= []
    ·subst hl0;have H:K (.tup []) (st.setO k (.row W (.pair (.int .u64) C) []))=some r:=by rw [hs.nil] at H;exact H
     refine (hp.none_ A n c.w).mono ?_;rintro e w' ⟨rfl,rfl⟩
     have rep:=h.setObj (o:= .row W (.pair (.int .u64) C) []) (o':= .row W (.pair (.int .u64) C) []) ho (w1:=c.w) c.ok h.kept (aR _) (λ_ _=>rfl) (λ_ p=>p) (λb p=>⟨h.ok b p,λk' _ N he=>(h.mine k' N).1 (he ▸ p)⟩)
      (λe1 t1 l1 X=>⟨e1,l1,X,rfl⟩) ⟨A,n,s1,s2,s3,s4⟩ (λhw=>⟨hw,(h.mine k ⟨_,hob,hw.congr rfl⟩).1⟩)
     exact ⟨_,.tup [],_,{w:=c.w,ok:=c.ok,ρ:=c.ρ,σ:=c.σ,pin:=c.pin,ob:=(st.setO k (.row W (.pair (.int .u64) C) [])).obj},rfl,rfl,H,rep,by grind[RepV,au]⟩
    ·have hlp:=oR.2 hl0;rcases s4 with s4| ⟨rfl,cs,s5,s6,s7,s8⟩
     ·omega
     ·have Y:(Ty.pair (.int .u64) C).size=2:=by grind[Ty.size]
      rw [Y] at s6 s7;obtain ⟨ds,d1,d2⟩:=UD (Q:=Q) htv s7 (λx hx {v} h1 h2=>hs.is L x hx h1 h2);have hdl:ds.length=l.length:=d1.length.symm;have O:bf c k:=⟨_,hob,_,_,n,s1,by omega⟩;have D:=h.mine k O;obtain ⟨el,s9,s10⟩:=s5;have hel:=s10 W rfl;subst hel
      have hcs:∀j,j<l.length*2->(mq ds)[j]?=some (cs[j]!):=by
       grind
      have hH:HoldsK fT 2 c.w (c.ρ k) 0 ds.toArray:=by
       intro j hj
       grind[flatK,VT,World.cell?,World.frozen?]
      have S:=hp.some_ (c.ρ k) n ds.toArray c.w hH D.2.2 (by grind);rw [show ds.toArray.size=l.length by omega] at S;refine S.mono ?_;rintro e w' ⟨rfl,G,nn,os,p1,p2,rfl⟩;obtain ⟨p3,_,p4⟩:=p1;have Z:G.size=l.length:=by grind
      have pe:∀ (x:Array {x:Int×Value // Q x}) (q:Nat),x.size=q->x.extract 0 q=x:=λx q hq=>by grind
      rw [pe G _ Z,pe ds.toArray _ (by omega)] at p4;obtain ⟨l',h1,h2⟩:=jI.alU (R:=yz c.w c.ok C) (m:=ds) (m':=G.toList) (by simpa using p4.symm) d1;have hu:so (l:List (Int×C.den))=l':=hs.uniq (d:=G) L h1 h2 (by grind);have hlen:=hs.len (l:List (Int×C.den))
      let F:=flatK fT 2 G
      have hF:F.size=l.length*2:=by simp [F,Z]
      let V:Array Value:=putCells id 0 F cs
      have hcs1:V.size=cs.size:=by grind[putCells]
      have hheap:∀b,b<c.w.heap.size->(sortWorldK fT 2 c.w (c.ρ k) 0 nn G os).heap[b]?=if b=c.ρ k then some (.cells V el (0,0)) else c.w.heap[b]?:=by
       intro b p;have hb2:b<(c.w.heap.modify (c.ρ k) (onCells (putCells id 0 F))).size:=by grind
       show ((c.w.heap.modify (c.ρ k) (onCells (putCells id 0 F)))++os)[b]?=_;rw [Kc,aw hb2,Array.getElem?_modify];by_cases hbk:b=c.ρ k
       ·subst hbk;rw [aw rfl,aw rfl,s9];rfl
       grind
      have E:c.w.heap.size<= (sortWorldK fT 2 c.w (c.ρ k) 0 nn G os).heap.size:=by
       grind
      have hne2:∀b,c.ok b->b≠c.ρ k:=λb p he=>(h.mine _ O).1 (he ▸ p)
      have y:∀b,b<c.w.heap.size->b≠c.ρ k->(sortWorldK fT 2 c.w (c.ρ k) 0 nn G os).heap[b]?=c.w.heap[b]?:=λb p hn=>by grind
      have htake:V.toList.take (l.length*2)=mq G.toList:=by
       have hle:l.length*2<=cs.size:=by omega
       rw [<-VT G];apply sK
       grind[putCells]
      have rep:=h.setObj (o:= .row el (.pair (.int .u64) C) l) (o':= .row el (.pair (.int .u64) C) (so (l:List (Int×C.den)))) ho (w1:=sortWorldK fT 2 c.w (c.ρ k) 0 nn G os) c.ok
       (h.kept.one rfl rfl rfl E (c.ρ k) D.2.1 (λi hi hn=>y i hi hn) (by show c.w.drawn<=c.w.drawn+nn;omega)) E
       (λb p=>by
        have hlt:b<c.w.heap.size:=by
         rcases p with p| ⟨k',_,p,rfl⟩
         ·exact h.ok _ p
         ·exact (h.mine k' p).2.2
        refine y b hlt ?_;rcases p with p| ⟨k',N,p,rfl⟩
        ·grind
        ·exact λhe=>N (h.apart k' k p O he))
       (λ_ p=>p) (λb p=>⟨eW (h.ok b p) E,λk' _ N he=>(h.mine k' N).1 (he ▸ p)⟩)
       (λe1 t1 l1 X=>by
        rcases X with X| ⟨n1,X⟩
        ·cases X
         grind
        grind)
       (by
        refine ⟨some ⟨c.ρ k,0,none⟩,n,by grind,by omega,s3,.inr ⟨rfl,V,⟨el,?_,λx hx=>mA hx⟩,by grind,?_,by omega⟩⟩
        ·grind
        ·rw [hlen,Y,htake,hu]
         exact (Wc hs.wf h2).move (λb p=>y b (h.ok b p) (hne2 b p)) (λ_ p=>p))
       (λhw=>⟨by
        obtain ⟨A',n',m',z1,z2⟩:=hw
        exact ⟨A',n',m',z1,z2⟩,D.1⟩)
      exact ⟨_,.tup [],_,{w:=sortWorldK fT 2 c.w (c.ρ k) 0 nn G os,ok:=c.ok,ρ:=c.ρ,σ:=c.σ,pin:=c.pin,ob:=(st.setO k (.row el (.pair (.int .u64) C) (so (l:List (Int×C.den))))).obj},rfl,rfl,H,rep,by grind[RepV,au]⟩
   grind
  grind
 ·rename_i W t l g';obtain ⟨I,J⟩:=b6 H;rw [bb] at I;have hg:=dD.1 I.1;subst hg
  have X:l= []:=by
   grind
  subst X;simp only [au] at s;obtain ⟨v1,q1,hv,T,v2,q2,hv',z,rfl⟩:=s;subst hv';simp only [RepV] at T z;obtain ⟨A,hA,_⟩:=T;obtain ⟨cap,z,M⟩:=z;simp only [au] at M;have B:cap= #[]:=by grind
  subst B
  have U:vs= #[.slice A 0 0,.func (.func g') #[] #[]]:=by
   grind
  subst U;refine (hp.none_ A 0 c.w).mono ?_
  grind[RepV,au]
 grind
end
def QR (x:Int×Value):=(0<=x.1/\x.1<4611686018427387904)/\x.2.oneCell'=true
instance:Inhabited {x:Int×Value // QR x}:=⟨⟨(0,.bool false),⟨by decide,by decide⟩,rfl⟩⟩
def qi (x y: {x // QR x}):=x.1.1 - y.1.1
theorem CQ (x y):ltOf qi x y=decide (x.1.1<y.1.1):=by
 grind[ltOf,qi]
theorem aiN:Go.Sort.SWO (ltOf qi) where
 irrefl x:=by grind[CQ]
 trans x y z a b:=by grind[CQ]
 ntrans x y z a b:=by grind[CQ]
theorem ai0 (n) (a:0<=n) (b:n<4611686018427387904):(Lit.int .u64 n).wf=true:=
 ja.2 ⟨by grind[IntKind.min],by grind[IntKind.max,IntKind.bits]⟩
theorem skR (c:C.size=1):SortK QR qi C lp jx where
 size:=c
 is h x n w ok v o z:=by
  simp only [lp,bb,gU] at h;have k:=h.1.1 x n;simp only [Iy,bb,db] at k;exact ⟨k,o.one v (by simp)⟩
 wf y:=ai0 _ y.2.1.1 y.2.1.2
 few h:=by grind[lp]
 nil:=rfl
 len l:=aiV l
 uniq {l e w ok d} h p f q:=by
  simp only [lp,bb,db] at h;refine Ur h.1.2 p ?_;rw [yM];intro i j r s g;have A:=f.length;obtain ⟨B,m,t⟩:=f.get i e[i] (cK r);obtain ⟨D,z3,z4⟩:=f.get j e[j] (cK s);have u:e.length=d.size:=by omega
  have a:i<d.size:=by omega
  have b:j<d.size:=by omega
  have:=q i j (gK _) g (by omega);rw [vO,sO a] at m;rw [vO,sO b] at z3;rw [getElem!_pos d i a,getElem!_pos d j b,mA m,mA z3,CQ,t.1,z4.1] at this
  grind
theorem aiY (h:∀v st1,Obj C st1->K v st1=K' v st1):uL g I j J xs C K=uL g I j J xs C K':=by
 unfold uL;split
 all_goals grind[Obj.setO,Obj.refl]
theorem Ctx.Sound.addS [Inhabited {x // Q x}] {C:Ctx} (d:C.Sound) (n:SortK Q I J j U) (o:SortPays C.P f g Q I):(C.addS f g J j U).Sound:=by
 refine ⟨⟨λp args R K x b=>d.1.1 p args R K x b,λi xs e R K x b m w0 a c vs q h l=> ?_,d.1.2.2⟩,λi xs e R K K' h=> ?_⟩
 ·simp only [Ctx.addS] at b
  cases k:Nat.beq i f with
  |false=>rw [k] at b;exact d.1.2.1 i xs e R K x b m w0 a c vs q h l
  |true=>
   rw [k] at b;have:=dD.1 k;subst this;exact aiX o n b h l
 ·simp only [Ctx.addS]
  cases Nat.beq i f with
  |false=>exact d.2 i xs e R K K' h
  |true=>exact aiY h
end Go.Fw
namespace Go.Fw
open Go.Sort (SortedIn SWO)
open Go.Proofs (ltOf)
open Ieee
theorem p9 :fG a b=true↔a.1<b.1\/a.1=b.1/\a.2<b.2:=by simp [fG]
theorem xX :fG a b=false↔¬ (a.1<b.1\/a.1=b.1/\a.2<b.2):=by grind[p9]
theorem Dk :eN a b<0↔fG (dW b.2) (dW a.2)=true\/(fG (dW a.2) (dW b.2)=false/\a.1<b.1):=by
 grind[eN,yn,cT]
theorem U0 (a):¬eN a a<0:=by
 grind[Dk,p9]
theorem UY (h:eN a b<0) (k:eN b c<0):eN a c<0:=by
 rw [Dk,p9,xX] at*;omega
theorem UZ (h:¬eN a b<0) (k:¬eN b c<0):¬eN a c<0:=by
 rw [Dk,p9,xX] at*;omega
theorem ajH (h:¬eN a b<0) (k:¬eN b a<0):a.1=b.1:=by
 rw [Dk,p9,xX] at*;omega
theorem IE (x):∀l,(sf x l).Perm (x::l)
 | []=> .refl _
 |y::r=>by
  unfold sf
  cases decide (eN y x<0) with
  |false=>grind
  |true=>exact ((IE x r).cons y).trans (.swap x y r)
theorem uJ:∀l,(gQ l).Perm l
 | []=> .refl _
 |x::r=>(IE x (gQ r)).trans ((uJ r).cons x)
theorem ajI (h:eN a b<0):¬eN b a<0:=λk=>U0 a (UY h k)
theorem Vx (x):∀{l},l.Pairwise (λa b=>¬eN b a<0)->(sf x l).Pairwise (λa b=>¬eN b a<0)
 | [],_=>by simp [sf]
 |y::r,h=>by
  unfold sf;rw [eO] at h;by_cases j:eN y x<0
  ·rw [aF j,ah,eO];refine ⟨λz C=> ?_,Vx x h.2⟩
   grind[IE,ajI]
  grind[List.pairwise_cons,UZ]
theorem Uu:∀l,(gQ l).Pairwise (λa b=>¬eN b a<0)
 | []=> .nil
 |x::r=>Vx x (Uu r)
theorem aiW (h:ml l=true) (c:l.Perm m) (d:m.Pairwise (λa b=>¬eN b a<0)):gQ l=m:=by
 refine Xr (le:=λa b=>¬eN b a<0) (λa b e f g i=> ?_) (Uu l) d ((uJ l).trans c)
 grind[I6,uJ,ajH]
def QM (x:Int×Value):=(Lit.int .u64 x.1).wf=true/\∃b,x.2= .float .f64 b
instance:Inhabited {x:Int×Value // QM x}:=⟨⟨(0,.float .f64 0),by decide,0,rfl⟩⟩
def lu (y: {x // QM x}):Int×Int:=(y.1.1,match y.1.2 with| .float .f64 b=>aX b|_=>0)
def oN (x y):=eN (lu x) (lu y)
theorem CR (x y):ltOf oN x y=true↔eN (lu x) (lu y) <0:=by grind[ltOf,oN]
theorem xU (x y):ltOf oN x y=false↔¬eN (lu x) (lu y) <0:=by grind[CR]
theorem aiO:SWO (ltOf oN) where
 irrefl x:=(xU _ _).2 (U0 _)
 trans x y z a b:=(CR _ _).2 (UY ((CR _ _).1 a) ((CR _ _).1 b))
 ntrans x y z a b:=(xU _ _).2 (UZ ((xU _ _).1 a) ((xU _ _).1 b))
theorem ajn (h:yz w ok .flt x y):lu y=x:=by
 obtain ⟨a,b,c,d⟩:=h
 grind[lu]
theorem skM:SortK QM oN .flt rQ gQ where
 size:=rfl
 is h x t w ok v g k:=by
  obtain ⟨b,f,_⟩:=g;simp only [oU,dn] at f;exact ⟨k,b,f⟩
 wf y:=y.2.1
 few h:=by grind[rQ]
 nil:=rfl
 len l:=(uJ l).length_eq
 uniq {l a w ok d} h m c n:=by
  simp only [rQ,bb,db] at h;refine aiW h.1.2 m ?_;rw [yM];intro i j o p e;have u:=c.length;obtain ⟨z,A,B⟩:=c.get i a[i] (cK o);obtain ⟨C,z3,z4⟩:=c.get j a[j] (cK p);have q:a.length=d.size:=by omega
  have r:=by omega
  have s:=by omega
  have:=n i j (gK _) e (by omega)
  grind[xU,ajn]
def yl:Datum->Prop
 | .number _ _ i=> -1074<=i
 |_=>True
theorem UG (w):yl (Ieee.double.read w):=by
 have a:Ieee.double.leastPlace= -1074:=by decide
 grind[Format.read,yl]
theorem ajN (a b):fG (0,a) (0,b)=decide (a<b):=by simp [fG]
theorem ai1 (s) (m u k):signed s m (u+k)=signed s m u* (2^k:Nat):=by
 grind[signed,Nat.shiftLeft_eq,Int.neg_mul]
theorem akJ (a b:Int):compare a b=if a<b then .lt else if b<a then .gt else .eq:=by
 show compareOfLessAndEq a b=_
 grind[compareOfLessAndEq]
theorem ajs (hd:yl d) (c:yl e) (a:d.isNaN=false) (b:e.isNaN=false):
 d.order e=some (if fG (ny d) (ny e)=true then .lt else if fG (ny e) (ny d)=true then .gt else .eq):=by
 cases d <;>cases e <;>simp only [Datum.isNaN] at a b <;>try (simp at a;done)
 all_goals try (simp at b;done)
 case number.number s m i t n j=>
  simp only [yl] at hd c;have f:(i+1074).toNat=(i - min i j).toNat+ (min i j+1074).toNat:=by omega
  have g:(j+1074).toNat=(j - min i j).toNat+ (min i j+1074).toNat:=by omega
  have h:=by
   have:=Nat.two_pow_pos (min i j+1074).toNat;omega
  grind[ny,ajN,ai1,Int.mul_lt_mul_right,Datum.order,akJ]
 case number.infinity s m i t=>grind[Datum.order,ny,fG]
 case infinity.number t s m i=>grind[Datum.order,ny,fG]
 case infinity.infinity s t=>cases s <;>cases t <;>decide
theorem al9 (b):aX b= -1↔ (Ieee.double.read b).isNaN=true:=by
 grind[aX,Datum.isNaN]
theorem IS (h:aX b≠ -1):aX b=b/\(Ieee.double.read b).isNaN=false:=by
 grind[aX,Datum.isNaN]
theorem IT (c:aX a≠ -1) (d:aX b≠ -1):lB (aX a) (aX b)=some (if fG (dW (aX a)) (dW (aX b))=true then .lt else if fG (dW (aX b)) (dW (aX a))=true then .gt else .eq):=by
 obtain ⟨e,f⟩:=IS c;obtain ⟨g,h⟩:=IS d;unfold lB dW;rw [ak (by omega),aq c,aq d,aa,aa,e,g];exact ajs (UG a) (UG b) f h
theorem akA (h:d.isNaN=false): -1<= (ny d).1:=by
 cases d <;>simp [Datum.isNaN] at h <;>simp [ny]
 grind
theorem IL:dW (-1)=(-2,0):=rfl
theorem VV (b:aX a≠ -1): -1<= (dW (aX a)).1:=by
 obtain ⟨c,d⟩:=IS b;unfold dW;rw [aq b,aa,c];exact akA d
theorem akn (a):jD .neq (aX a) (aX a)=decide (aX a= -1):=by
 by_cases h:aX a= -1
 ·rw [h];rfl
 grind[jD,IT,xX]
theorem ako (c:aX a≠ -1) (d:aX b≠ -1):jD .lss (aX a) (aX b)=fG (dW (aX a)) (dW (aX b)):=by
 grind[jD,IT]
theorem akq (c:aX a≠ -1) (d:aX b≠ -1):jD .gtr (aX a) (aX b)=fG (dW (aX b)) (dW (aX a)):=by
 grind[jD,IT,p9]
theorem akj (h:Kept (λ_=>False) W w'):∃q j,w'=Go.Sort.grow (W.drewN q) j:=by
 refine ⟨w'.drawn - W.drawn,w'.heap.extract W.heap.size w'.heap.size,?_⟩;obtain ⟨heap,tape,drawn,os,output⟩:=w';obtain ⟨a,b,c,d,e,f⟩:=h;simp only at a b c d e f;subst a;subst b;subst c;have hd:W.drawn+ (drawn - W.drawn)=drawn:=by omega
 have g:heap=W.heap++heap.extract W.heap.size heap.size:=by
  grind
 show World.mk heap W.tape drawn W.os W.output= {W.drewN (drawn - W.drawn) with heap:=(W.drewN (drawn - W.drawn)).heap++heap.extract W.heap.size heap.size}
 grind[World.drewN]
theorem akI (h:∀a b,(∃u v,aX u=a.2/\aX v=b.2)->iH P (λ_ _=>True) g [.agg [.int .u64 a.1,.flt a.2],.agg [.int .u64 b.1,.flt b.2]] (.int .i64 (eN a b))) (c off size:Nat) (w:World):
 Go.Proofs.CmpLays P g #[] fT 2 oN c off size w:=by
 intro m os e _ x y;obtain ⟨f,u,i⟩:=x.2;obtain ⟨j,v,k⟩:=y.2;have l:lu x=(x.1.1,aX u):=by grind[lu]
 have n:lu y=(y.1.1,aX v):=by grind[lu]
 refine (h (x.1.1,aX u) (y.1.1,aX v) ⟨u,v,rfl,rfl⟩ _ (λ_=>False) _ aO (λ_ d=>d.elim) ?_).mono ?_
 all_goals grind[fT,au,RepV,akj,hZ,gJ,gx,oN]
end Go.Fw
namespace Go.Fw
def HJ:List PV->Option PV
 | [.int .u64 x,.int .u64 y,.int .u64 (.ofNat 0)]=>some (.tup [.int .u64 (Ck x y),.int .u64 (Cl x y)])
 |_=>none
noncomputable def Jh:List PV->Option PV
 | [.int .u64 x]=>some (.flt (aX x.toNat))
 |_=>none
def Ctx.addX (C:Ctx) (f:FuncId) (E:List PV->Option PV):=
 {C with isExt:=λg=>bif Nat.beq g f then true else C.isExt g,ext:=λg zq=>bif Nat.beq g f then E zq else C.ext g zq,marks:= []}
def JD (P:Program) (f:FuncId) (E:List PV->Option PV):=∀args v,E args=some v->∀ (c) (vs),au c args vs.toList->∃u,(callFunc f vs).run P c.w= .ok (.value u) c.w/\RepV c v u
theorem Ctx.Sound.addX {C:Ctx} (b:C.Sound) (j:JD C.P f E):(C.addX f E).Sound:=by
 refine ⟨⟨λk args R K x c=>b.1.1 k args R K x c,λg zq d R K x c=>b.1.2.1 g zq d R K x c,λg args v e a=> ?_⟩,λg zq d R K K' h=>b.2 g zq d R K K' h⟩;simp only [Ctx.addX] at e a
 cases i:Nat.beq g f with
 |true=>
  rw [i] at a;have:=dD.1 i;subst this;exact j args v a
 |false=>
  rw [i] at e a;exact b.1.2.2 g args v e a
theorem Hz :(Lit.int .u64 n).wf=true↔0<=n/\n<18446744073709551616:=by
 simp only [Lit.wf,bb,db];rw [show IntKind.min .u64=0 by decide,show IntKind.max .u64=18446744073709551615 by decide];omega
theorem aiQ (j:P.funcs[f]?=some fn) (d:(fn.name== "runtime.NumGoroutine")=false) (k:fn.body.isNone=true) (l:Extern.findNext fn=none)
 (m:Extern.find fn=some e) (h:e=λargs=>do
  let (x,y,b)<-Extern.MathBitsCarry.three "Sub64" args
  pure (Extern.MathBitsCarry.pair ((x+Extern.MathBitsCarry.m64 - y - b) % Extern.MathBitsCarry.m64) (if x<y+b then 1 else 0))):JD P f HJ:=by
 subst h;intro args v g c vs a;unfold HJ at g;split at g
 ·rename_i x y;simp only [aB] at g;subst g;simp only [au,RepV] at a;obtain ⟨o,p,q,⟨rfl,w1⟩,r,s,rfl,⟨rfl,n⟩,v3,t,rfl,⟨rfl,u⟩,rfl⟩:=a;have i:vs= #[.int .u64 x,.int .u64 y,.int .u64 (Int.ofNat 0)]:=by grind
  subst i;refine ⟨Extern.MathBitsCarry.pair ((x.toNat+Extern.MathBitsCarry.m64 - y.toNat - 0) % Extern.MathBitsCarry.m64) (if x.toNat<y.toNat+0 then 1 else 0),by rw [run_callFunc_extern j d k l m];rfl,?_⟩;have b1:=Hz.1 w1;have w:=Hz.1 n;simp only [RepV,Extern.MathBitsCarry.pair]
  grind[au,RepV,Ck,Extern.MathBitsCarry.m64,Hz,Cl]
 grind
theorem akR (g:P.funcs[f]?=some fn) (b:(fn.name== "runtime.NumGoroutine")=false) (h:fn.body.isNone=true) (i:Extern.findNext fn=none)
 (j:Extern.find fn=some Extern.MathFloatBits.float64frombits):JD P f Jh:=by
 intro args v d c vs a;unfold Jh at d;split at d
 ·rename_i x;simp only [aB] at d;subst d;simp only [au,RepV] at a;obtain ⟨k,l,m,⟨rfl,w1⟩,rfl⟩:=a;have e:vs= #[.int .u64 x]:=by grind
  subst e;refine ⟨.float .f64 x.toNat,by rw [run_callFunc_extern g b h i j];rfl,?_⟩
  grind[RepV]
 grind
theorem rR (P:Program) (d:dj w b C cs) (g:∀u ∈ vals,u.oneCell'=true) (r:off+vals.length<=cs.size):
 ∃a,dj (w.setCells b off vals) b C a/\a.toList=cs.toList.take off++vals++cs.toList.drop (off+vals.length)/\a.size=cs.size/\Kept (λx=>x=b) w (w.setCells b off vals):=by
 obtain ⟨w1,a,g1,k,l,m,n,o,s,h⟩:=HP (P:=P) vals w cs off 0 d (by omega) g
 have c:∀j,j<vals.length->(w.cell? ⟨b,off+0+j,none⟩).isSome=true:=by
  intro j p;rw [d.cell (off+0+j) (sO (by omega))];rfl
 have f:∀j,j<vals.length->w.frozen? ⟨b,off+0+j,none⟩=false:=by
  intro j p;obtain ⟨e,t,_⟩:=d
  grind[World.frozen?]
 have e:=run_storeCells_cells (P:=P) b off vals 0 w c f g;rw [g1] at e;simp only [Result.ok.injEq,qt,sE] at e;subst e;refine ⟨a,k,by omega,?_,m,n,o,by omega,λi _ q=>h.1 i q,Dy h.2.symm⟩;have:=bz List.length l
 grind
theorem akG {α:Type} {C D Z a b:List α} {p q o x y:Nat} (c:D.length=q) (d:p<=C.length) (e:o=p+q) (f:a=C.take p++D++C.drop y) (g:b=a.take o++Z++a.drop x):b.take o=C.take p++D:=by
 grind
structure DelPays (P:Program) (f:FuncId) (K:Nat) (z:Value):Prop where
 same:∀ (A:Option Addr) (n cap i:Nat) (w:World),i<=n->n<=cap->cap<=9223372036854775807->Calls P f #[.slice A n cap,.int .i64 i,.int .i64 i] w λe w'=>e= .returned (.slice A n cap)/\w'=w
 walk:∀ (blk off n cap i j:Nat) (cs:List Value) (w:World),i<j->j<=n->n<=cap->cap<=9223372036854775807->cs.length=n*K->(∀t u,cs[t]?=some u->w.cell? ⟨blk,off+t,none⟩=some u)->(∀t,t<n*K->w.frozen? ⟨blk,off+t,none⟩=false)->(∀v ∈ cs,v.oneCell'=true)->
  Calls P f #[.slice (some ⟨blk,off,none⟩) n cap,.int .i64 i,.int .i64 j] w λe w'=>e= .returned (.slice (some ⟨blk,off,none⟩) (n -(j - i)) cap)/\
   w'=(w.drew.setCells blk (off+i*K) (cs.drop (j*K))).setCells blk (off+ (i+ (n - j))*K) (Builtin.zeroCells z.cells (j - i)).toList
theorem akC (hp:DelPays P f t.size z) (hz:∀ (c:Cx),aJ c.w c.ok t x0 z.cells.toList) (hzs:z.cells.size=t.size) (htp:0<t.size) (J:vg f e t xs st K=some r)
 (h:Rep m w0 st a c) (B:au c xs vs.toList):
 Calls P f vs c.w λe w'=>∃u v C R,e= .returned u/\R.w=w'/\K v C=some r/\Rep m w0 C a R/\RepV R v u:=by
 unfold vg at J;split at J
 ·rename_i k i j;split at J
  ·rename_i Z d l Q;split at J
   ·rename_i F;split at J
    ·rename_i ht;subst F;subst ht;obtain ⟨s,L⟩:=b6 J;clear J;simp only [bb,db,ae] at s;obtain ⟨⟨hi0,hij⟩,hj0,hjl⟩:=s;split at L
     ·rename_i k' st2 S;have hn:=newNum_spec S;have M:c.ob k=some (.row Z d l):=by rw [h.ob];exact Q
      obtain ⟨A,cap,q1,q2,q3,q4⟩:=h.objs k _ M;simp only [au,RepV] at B;obtain ⟨v1,r1,hv,hv1,v2,r2,rfl,⟨rfl,_⟩,v3,r3,rfl,⟨rfl,_⟩,rfl⟩:=B;have hvs:vs= #[.slice A l.length cap,.int .i64 i,.int .i64 j]:=by grind
      subst hvs;obtain ⟨n,rfl⟩:=qC hi0;obtain ⟨g,rfl⟩:=qC hj0;simp only [bu] at L hn S;have T:n<=g:=by omega
      have D:g<=l.length:=by omega
      have hll:(l.take n++l.drop g).length=l.length -(g - n):=by grind
      have U:=h.del Q
      have fin:∀ (G:World),Kept m.w w0 G->c.w.heap.size<=G.heap.size->(∀b,b≠c.ρ k\/cap=0->b<c.w.heap.size->G.heap[b]?=c.w.heap[b]?)->
       (cap=0\/(A=some ⟨c.ρ k,0,none⟩/\∃y:Array Value,dj G (c.ρ k) (some Z) y/\y.size=cap*d.size/\aT G c.ok d (l.take n++l.drop g) (y.toList.take ((l.take n++l.drop g).length*d.size))/\0<d.size))->
       ∃u v C R,Ending.returned (.slice A (l.length -(g - n)) cap)= .returned u/\R.w=G/\K v C=some r/\Rep m w0 C a R/\RepV R v u:=by
       intro G hk hs H hrow;have p:cap≠0->bf c k:=λx=>⟨_,M,A,_,cap,q1,x⟩
       have hne:∀b,(c.ok b\/∃k',bf {c with ob:=(st.del k).obj} k'/\c.ρ k'=b)->G.heap[b]?=c.w.heap[b]?:=by
        intro b s;by_cases x:cap=0
        ·rcases s with s| ⟨N,E,rfl⟩
         ·exact H b (.inr x) (h.ok b s)
         ·exact H _ (.inr x) (h.mine N (nl h Q E).2).2.2
        ·rcases s with s| ⟨N,E,rfl⟩
         ·exact H b (.inl λF=>(h.mine k (p x)).1 (F ▸ s)) (h.ok b s)
         ·obtain ⟨O,V⟩:=nl h Q E;exact H _ (.inl λF=>O (h.apart N k V (p x) F)) (h.mine N V).2.2
       have rep:=U.newObj hn (w1:=G) (c.ρ k) (.slice A (l.length -(g - n)) cap) hk hs hne
        ⟨A,cap,by grind,by grind,q3,by
         grind⟩
        (λhw=>by
         obtain ⟨A',n',m',O,V⟩:=hw;simp at O;have x:cap≠0:=by omega
         have o:=h.mine k (p x)
         exact ⟨o.1,o.2.1,eW o.2.2 hs,λN E F=>by
          obtain ⟨O,V⟩:=nl h Q E
          exact O (h.apart N k V (p x) F)⟩)
       exact ⟨_,.own k',st2,_,rfl,rfl,L,rep,by grind[RepV]⟩
      by_cases hlt:n<g
      ·rcases q4 with q4| ⟨rfl,cs,q5,q6,W,q8⟩
       ·omega
       ·have p:bf c k:=⟨_,M,_,_,cap,q1,by omega⟩;have o:=h.mine k p;have hcl:cs.toList.length=cap*d.size:=by omega
        have hL:l.length*d.size<=cap*d.size:=fH _ q2;have hJ:g*d.size<=l.length*d.size:=fH _ D;have hI:n*d.size<=g*d.size:=fH _ T;have hdat:=W.len;have htl:(cs.toList.take (l.length*d.size)).length=l.length*d.size:=by omega
        refine (hp.walk (c.ρ k) 0 l.length cap n g (cs.toList.take (l.length*d.size)) c.w hlt D q2 q3 htl (λq u hu=> ?_) (λq _=> ?_) W.one).mono ?_
        ·rw [sI] at hu;split at hu
         ·rw [lI];exact q5.cell q (by grind)
         grind
        ·obtain ⟨el,O,_⟩:=q5
         grind[World.frozen?]
        ·rintro e w' ⟨rfl,rfl⟩;have c0:dj c.w.drew (c.ρ k) (some Z) cs:=q5;have hd:=W.drop g;have X:=Hv (e:=Z) (c:=c) (hz c) hzs htp (g - n);have hzl:=X.len;rw [yO] at hzl;have hdl:((cs.toList.take (l.length*d.size)).drop (g*d.size)).length=(l.length - g)*d.size:=by grind[Nat.sub_mul]
         have hIJ:n*d.size+ (l.length - g)*d.size=(n+ (l.length - g))*d.size:=by grind
         have hIJ2:(n+ (l.length - g))*d.size+ (g - n)*d.size=l.length*d.size:=by rw [<-fI];grind
         obtain ⟨cs1,s1,s2,s3,s4⟩:=rR P c0 (vals:=(cs.toList.take (l.length*d.size)).drop (g*d.size)) (off:=0+n*d.size) hd.one (by omega);obtain ⟨y,u1,u2,u3,u4⟩:=rR P s1 (vals:=(Builtin.zeroCells z.cells (g - n)).toList) (off:=0+ (n+ (l.length - g))*d.size) X.one (by omega);have I:=s4.trans u4;refine fin _ ⟨I.os.trans h.kept.os,I.tape.trans h.kept.tape,I.output.trans h.kept.output,b9 h.kept.size I.size,λb s hm=>(I.block b (eW s h.kept.size) ?_).trans (h.kept.block b s hm),b9 h.kept.drawn (b9 (dI _) I.drawn)⟩ I.size (λb s Y=>I.block b Y ?_) (.inr ⟨rfl,y,u1,by omega,?_,q8⟩)
         ·grind
         ·omega
         ·have hmv:∀b,c.ok b->_:=λb s=>I.block b (h.ok b s) (λF=>o.1 (F ▸ s))
          refine aT.move (w:=c.w) hmv (λ_ s=>s) ?_
          have e1:y.toList.take ((l.take n++l.drop g).length*d.size)=(cs.toList.take (l.length*d.size)).take (n*d.size)++ (cs.toList.take (l.length*d.size)).drop (g*d.size):=by
           have hn':(l.take n++l.drop g).length*d.size=0+ (n+ (l.length - g))*d.size:=by grind
           rw [hn',akG hdl (by omega) (by omega) s2 u2,yK,lI,qw (by omega)]
          rw [e1];exact (W.take n).append (W.drop g)
      ·have:n=g:=by omega
       subst this;refine (hp.same A l.length cap n c.w D q2 q3).mono ?_;rintro e w' ⟨rfl,rfl⟩
       have:=fin c.w h.kept (aR _) (λ_ _ _=>rfl) (by
        simp_all)
       grind
     grind
    grind
   grind
  grind
 grind
theorem akD (h:∀v st1,Obj j st1->K v st1=K' v st1):vg f e t xs j K=vg f e t xs j K':=by
 unfold vg;split
 ·split
  ·split
   ·split
    ·congr 1;split
     ·rename_i a;exact h _ _ ((Obj.del _ _).trans (Obj.new (newNum_spec a)))
     ·rfl
    ·rfl
   ·rfl
  ·rfl
 ·rfl
theorem Ctx.Sound.addDel {C:Ctx} (d:C.Sound) (o:DelPays C.P f t.size z) (p:∀ (c:Cx),aJ c.w c.ok t x0 z.cells.toList) (g:z.cells.size=t.size) (j:0<t.size):(C.addDel f e t).Sound:=by
 refine ⟨⟨λq args R K x b=>d.1.1 q args R K x b,λi xs k R K x b m w0 a c vs r h n=> ?_,d.1.2.2⟩,λi xs k R K K' h=> ?_⟩
 ·simp only [Ctx.addDel] at b
  cases l:Nat.beq i f with
  |false=>rw [l] at b;exact d.1.2.1 i xs k R K x b m w0 a c vs r h n
  |true=>
   rw [l] at b;have:=dD.1 l;subst this;exact akC (e:=e) o p g j b h n
 ·simp only [Ctx.addDel]
  cases Nat.beq i f with
  |false=>exact d.2 i xs k R K K' h
  |true=>grind[akD]
end Go.Fw
