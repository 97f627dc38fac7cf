/- Part 7: lemmas that the last text needs. -/
import Derived.Test.YtkihadlgknhpkaaGreatDoorX5
import Derived.Laws.BytesString
set_option linter.all false
set_option autoImplicit true
set_option relaxedAutoImplicit true
namespace Go.Fw
open Go.RowKit (Below)
theorem I7 (s:List α) (b d) (l h) (e:b=none->l=0) (f:d=none->h=s.length):cut s b d l h=(s.take h).drop l:=by
 cases b <;>cases d <;>simp only [cut]
 all_goals grind
section
variable {P:Program} {m:MM} {w0:World} {st:St} {a:Act} {c:Cx} {R:Type} {K:St->Option R} {r:R} {o:Oper} {next:Act->World->Prop} {Q:Exit->Act->World->Prop}
theorem pZ {i:Int} {y:Nat} (b) (w) (d:0<=i) (e:i<=y):(Instr.sliceBound (.int k i) y b).run P w= .ok i.toNat w:=by
 grind[Instr.sliceBound,asIntOf,Sem.run_pure]
def fx (c:Cx):Option PV->Option Value->Prop
 |none,none=>True
 |some p,some v=>RepV c p v
 |_,_=>False
theorem ym (b) (w) (e:fx c u C) (p:fx c v I) (q:fx c mx J)
 (d:qh len u v mx=some (g,l,h,f)) (y:g=true) (B:len<=n):
 (Instr.sliceBounds b len n C I J).run P w= .ok (l,h,if f then h else n) w/\l<=h/\h<=len/\(u=none->l=0)/\(v=none->h=len):=by
 subst y;unfold qh at d;split at d
 ·simp only [aB,aL] at d;obtain ⟨d,rfl,rfl,rfl⟩:=d;rename_i k i;obtain ⟨s,q1⟩:=jd.1 d;cases C <;>simp only [fx] at e;cases J <;>simp only [fx] at q;cases I <;>simp only [fx,RepV] at p
  grind[Instr.sliceBounds,Sem.run_bind,Sem.run_pure,Result.andThen_ok,pZ]
 ·simp only [aB,aL] at d;obtain ⟨d,rfl,rfl,rfl⟩:=d;rename_i k i;obtain ⟨s,q1⟩:=jd.1 d;cases I <;>simp only [fx] at p;cases J <;>simp only [fx] at q;cases C <;>simp only [fx,RepV] at e
  grind[Instr.sliceBounds,Sem.run_bind,Sem.run_pure,Result.andThen_ok,pZ]
 ·simp only [aB,aL] at d;obtain ⟨d,rfl,rfl,rfl⟩:=d;rename_i k i x j;simp only [bb,db] at d;obtain ⟨d,t,z⟩:=d;obtain ⟨s,q1⟩:=jd.1 d;cases J <;>simp only [fx] at q;cases C <;>simp only [fx,RepV] at e;cases I <;>simp only [fx,RepV] at p;rw [e.1,p.1];refine ⟨?_,by omega,by omega,by simp,by simp⟩;simp only [Instr.sliceBounds,Sem.run_bind,Sem.run_pure,Result.andThen_ok,pZ _ w s (show j<= (n:Int) by omega),pZ _ w t (show i<= (j.toNat:Int) by omega)];rfl
 ·simp only [aB,aL] at d;obtain ⟨_,rfl,rfl,rfl⟩:=d;cases C <;>simp only [fx] at e;cases I <;>simp only [fx] at p;cases J <;>simp only [fx] at q;exact ⟨rfl,by omega,by omega,λ_=>rfl,λ_=>rfl⟩
 ·simp only [aB,aL] at d;obtain ⟨d,rfl,rfl,rfl⟩:=d;rename_i k i x j;simp only [bb,db] at d;obtain ⟨d,rfl⟩:=d;obtain ⟨s,q1⟩:=jd.1 d;cases C <;>simp only [fx] at e;cases I <;>simp only [fx,RepV] at p;cases J <;>simp only [fx,RepV] at q
  grind[Instr.sliceBounds,Sem.run_bind,Sem.run_pure,Result.andThen_ok,pZ]
 ·simp only [aB,aL] at d;obtain ⟨d,rfl,rfl,rfl⟩:=d;rename_i D A k i x j;simp only [bb,db] at d;obtain ⟨⟨d,t,z⟩,rfl⟩:=d;obtain ⟨s,q1⟩:=jd.1 d;cases C <;>simp only [fx,RepV] at e;cases I <;>simp only [fx,RepV] at p;cases J <;>simp only [fx,RepV] at q;rw [e.1,p.1,q.1];refine ⟨?_,by omega,by omega,by simp,by simp⟩;simp only [Instr.sliceBounds,Sem.run_bind,Sem.run_pure,Result.andThen_ok,pZ _ w s (show i<= (n:Int) by omega),pZ _ w s (show i<= (i.toNat:Int) by omega),pZ _ w t (show A<= (i.toNat:Int) by omega)];rfl
 grind
theorem akQ (b) (l h):bytesOf (b.extract l h)=((bytesOf b).take h).drop l:=by
 grind[bytesOf,ByteArray.data_extract,Array.toList_extract,List.map_take,List.map_drop,List.drop_take]
theorem jH.cut (f:jH w ok t A s) (g:l<=h) (i:h<=s.length) (k:h<=n):
 jH w ok t (if n=l then A else A.map (·.add (l*t.size))) ((s.take h).drop l):=by
 intro e;have hlen:((s.take h).drop l).length=h - l:=by grind
 obtain ⟨b,off,rfl,d,p⟩:=f (by omega);refine ⟨b,off+l*t.size,by grind[my],d,λj x q=> ?_⟩
 grind
theorem Rep.grow (h:Rep m w0 st a c) (ok1:Nat->Prop) (x:Kept m.w w0 w1) (B:c.w.heap.size<=w1.heap.size) (f:∀b,b<c.w.heap.size->w1.heap[b]?=c.w.heap[b]?)
 (g:∀b,c.ok b->ok1 b) (C:∀b,ok1 b->b<w1.heap.size/\(c.ok b\/c.w.heap.size<=b)):Rep m w0 st a {w:=w1,ok:=ok1,ρ:=c.ρ,σ:=c.σ,pin:=c.pin,ob:=c.ob}/\Mv (λ_=>True) c {w:=w1,ok:=ok1,ρ:=c.ρ,σ:=c.σ,pin:=c.pin,ob:=c.ob}:=by
 have p:Mv (λ_=>True) c {w:=w1,ok:=ok1,ρ:=c.ρ,σ:=c.σ,pin:=c.pin,ob:=c.ob}:=
  ⟨λb q=>f b (h.ok b q),g,λ_ _=>rfl,λ_ _=>rfl,λk e t l _ y=>⟨e,l,y,rfl⟩⟩
 have own:∀i,bf {w:=w1,ok:=ok1,ρ:=c.ρ,σ:=c.σ,pin:=c.pin,ob:=c.ob} i->bf c i:=by
  rintro i ⟨o',n,s⟩;exact ⟨o',n,s.congr (c:={w:=w1,ok:=ok1,ρ:=c.ρ,σ:=c.σ,pin:=c.pin,ob:=c.ob}) (c1:=c) rfl⟩
 refine ⟨⟨h.size,λd=>bI.move p (λ_ _=>aO) (h.slots d),h.defers,h.ob,λk o n=>(h.objs k o n).move p (λ_ _=>aO) aO (λs=>f _ (h.mine k ⟨o,n,s⟩).2.2),λi j u z A=>h.apart i j (own i u) (own j z) A,λi u=> ?_,λb f=>(C b f).1,x,λb f=>g b (h.old b f),λb f=> ?_,h.pin⟩,p⟩
 ·have:=h.mine i (own i u)
  grind
 ·rcases (C b f).2 with v|v
  ·exact h.new b v
  ·exact .inr (.inl (b9 h.kept.size v))
theorem oF (h:Rep m w0 st a c) (x:Option Operand):fx c (x.map (aG st)) (x.map a.eval):=by
 cases x with
 |none=>trivial
 |some x=>exact aZ h x
theorem akH (b:qh len j C mx=some (g,l,h,false)):mx=none:=by
 unfold qh at b
 grind
theorem ak5 {C:Ctx} {t:TypeId} {x:Operand} {z A mx:Option Operand} {n:Nat} {e:TypeId} (k:o.op= .slice t x z A mx) (D:C.P.underlying t=some (.array n e)) (h:Rep m w0 st a c) (E:∀x,o.dst=some x->bD st x)
 (f:Jk C.P n e (aG st x) z A mx (λv=>K (st.put o.dst v))=some r)
 (F:∀I J U,K I=some r->Rep m w0 I J U->next J U.w):o.upon C.P a next Q ((execOp a.eval o).run C.P c.w):=by
 unfold Jk at f;split at f
 ·rename_i l G p H;obtain ⟨g,f⟩:=b6 f;simp only [bb] at g;obtain ⟨⟨g,i⟩,B⟩:=g;have g:=dD.1 g;have i:0<G.size:=by simp_all
  have B:=Dz B;split at f
  ·rename_i S q;have s:=aZ h x;rw [p] at s;simp only [RepV] at s;obtain ⟨b,off,cs,L,u,M,T⟩:=s;obtain ⟨q1,N⟩:=Dj q M;refine bP (v:= .slice (some ⟨b,off,none⟩) n n) ?_ h E ?_ rfl f F
   ·simp [execOp,k,Sem.run_bind,L,Instr.sliceAt,bh D,Instr.sureAddr,Instr.sliceBounds,kf (show C.P.cellsOf e≠0 by omega),my]
   ·simp only [RepV];refine ⟨some ⟨b,off,none⟩,n,by rw [q1],by omega,by omega,λV=>⟨b,off,rfl,u,λj y O=> ?_⟩⟩;obtain ⟨d,W,X,Y⟩:=N.get j O
    grind
  grind
 grind
theorem alc (hC:C.P=P) (k:o.op= .slice t x lo hi mx) (hna:∀n e,C.P.underlying t≠some (.array n e)) (X:CO C o 0=false) (Y:CO C o 1=false) (h:Rep m w0 st a c) (hg:∀x,o.dst=some x->bD st x) (d:be C o st K=some r)
 (hK:∀J a' c',K J=some r->Rep m w0 J a' c'->next a' c'.w):o.upon P a next Q ((execOp a.eval o).run P c.w):=by
 subst hC;simp only [be,k,X,Y,aa] at d;split at d
 ·rename_i p st1 hp;obtain ⟨c1,e1,L,Z,s1,m1⟩:=CF h (eM (P:=C.P) (aZ h x) t) hp
  have move:∀ (y:Option PV) (v:Option Value),fx c y v->fx c1 y v:=by
   intro y v hy;cases y <;>cases v <;>first|exact hy|exact RepV.move m1 _ _ (λ_ _=>aO) hy
  have F:=move _ _ (oF h lo);have G:=move _ _ (oF h hi);have H:=move _ _ (oF h mx);have hg1:∀x,o.dst=some x->bD st1 x:=λx hx=>(hg x hx).of s1
  unfold Uw at d
  have fin:∀ (q:PV) (v:Value),(execOp a.eval o).run C.P c.w= .ok (.value v) c.w->RepV c1 q v->q.isGd=false->K (st1.put o.dst q)=some r->o.upon C.P a next Q ((execOp a.eval o).run C.P c.w):=
   λq v f hq hgd hkr=>bP (c1:=c1) (by grind) L hg1 hq hgd hkr hK
  split at d
  ·rename_i s S;split at d
   ·rename_i g l j I;obtain ⟨i,d⟩:=b6 d;simp only [RepV] at Z;obtain ⟨b,T,rfl,hbs⟩:=Z;rw [mr] at I;obtain ⟨U,M,N,V,W⟩:=ym (P:=C.P) false c.w F G H I i (aR _);refine fin (.str _) (.string (b.extract l j)) ?_ ?_ rfl d
    ·have hmn:mx=none:=by
      cases mx with
      |none=>rfl
      |some y=>grind[akH]
     subst hmn;simp only [execOp,k,Sem.run_bind,Instr.sliceAt,bh S,Result.andThen_ok,Instr.slice,T,Dv,JG,dQ,aH]
     simp_all
    grind[RepV,I7,mr,akQ]
   grind
  all_goals first
   | (simp at d;done)
   |skip
  all_goals
   rename_i e' e B s S;split at d
   ·rename_i u;obtain ⟨u,hne⟩:=u;have D:C.P.cellsOf e'≠0:=by omega
    have sl:∃A n,a.eval x= .slice A s.length n/\s.length<=n/\n<=9223372036854775807/\jH c1.w c1.ok B A s:=by
     grind[RepV]
    obtain ⟨A,n,T,q1,q2,q3⟩:=sl;have hlen:∀l h:Nat,l<=h->h<=s.length->((s.take h).drop l).length=h - l:=by grind
    split at d
    ·rename_i g l j I;obtain ⟨i,d⟩:=b6 d;obtain ⟨U,M,N,V,W⟩:=ym (P:=C.P) true c.w F G H I i q1
     have f:(execOp a.eval o).run C.P c.w= .ok (.value (.slice (if n=l then A else A.map (·.add (l*B.size))) (j - l) (n - l))) c.w:=by
      simp only [execOp,k,Sem.run_bind,Instr.sliceAt,bh S,Result.andThen_ok,Instr.slice,T,U,dQ,aH,kf D,Sem.run_pure,u]
     have E:RepV c1 (.sl e B (cut s (lo.map (aG st)) (hi.map (aG st)) l j)) (.slice (if n=l then A else A.map (·.add (l*B.size))) (j - l) (n - l)):=by
      rw [I7 _ _ _ _ _ V W];simp only [RepV];exact ⟨_,_,by rw [hlen l j M N],by grind,by omega,q3.cut M N (by omega)⟩
     cases O:s with
     |cons z zs=>
      subst O;exact fin _ _ f E rfl d
     |nil=>
      subst O
      first
       |exact fin (.sl e B _) _ f E rfl d
       | (refine fin (.full e B []) _ f ?_ rfl d
          simp only [RepV] at Z
          grind[RepV])
    ·rename_i g l j I;obtain ⟨i,d⟩:=b6 d;obtain ⟨U,M,N,V,W⟩:=ym (P:=C.P) true c.w F G H I i q1;refine fin (.full e B _) (.slice (if j=l then A else A.map (·.add (l*B.size))) (j - l) (j - l)) ?_ ?_ rfl d
     ·simp only [execOp,k,Sem.run_bind,Instr.sliceAt,bh S,Result.andThen_ok,Instr.slice,T,U,aI,kf D,Sem.run_pure,u]
     ·rw [I7 _ _ _ _ _ V W];simp only [RepV];exact ⟨_,by grind,by grind,q3.cut M N (aR _)⟩
    grind
   grind
 grind
theorem akP (s) (n) (h:(Lit.int .u8 n).wf=true):bytesOf (s.push (UInt8.ofNat n.toNat))=bytesOf s++ [n]:=by
 grind[ja,IntKind.min,IntKind.max,IntKind.signed,IntKind.bits,bytesOf,ByteArray.data_push,UInt8.toNat_ofNat']
theorem Wm:∀ (b) (s),(∀n ∈ b,(Lit.int .u8 n).wf=true)->bytesOf (b.foldl (λr n=>r.push (UInt8.ofNat n.toNat)) s)=bytesOf s++b
 | [],s,_=>by simp
 |n::r,s,h=>by
  rw [nK,Wm r _ (λm d=>h m (by grind)),akP s n (h n (by simp))];simp
theorem alx (hC:C.P=P) (M:o.op= .convert s d x) (h:Rep m w0 st a c) (hg:∀x,o.dst=some x->bD st x) (D:be C o st K=some r)
 (hK:∀st' a' c',K st'=some r->Rep m w0 st' a' c'->next a' c'.w):o.upon P a next Q ((execOp a.eval o).run P c.w):=by
 subst hC;simp only [be,M] at D;have p:=aZ h x;split at D
 ·
  rename_i e hs hd;split at D
  ·rename_i l E L;rw [E] at p;simp only [RepV] at p;obtain ⟨b,f,rfl,hbs⟩:=p
   let cap:=b.size+c.w.tape c.w.drawn (.appendCap b.size 0 e) % (2^63 - b.size)
   let cells:Array Value:=(b.data.map λb=> .int .u8 b.toNat)++Array.replicate (cap - b.size) (.int .u8 0)
   have Y:b.size<=cap/\cap<=9223372036854775807:=by
    have:c.w.tape c.w.drawn (.appendCap b.size 0 e) % (2^63 - b.size) <2^63 - b.size:=yJ _ (by omega);omega
   have hcs:cells.size=cap:=by simp [cells];omega
   let w1:World:={c.w with drawn:=c.w.drawn+1,heap:=c.w.heap.push (.cells cells e (cap,cap+1))}
   have B:(execOp a.eval o).run C.P c.w= .ok (.value (.slice (some ⟨c.w.heap.size,0,none⟩) b.size cap)) w1:=by
    have Z:(Conv.stringToBytes e b).run C.P c.w= .ok (.slice (some ⟨c.w.heap.size,0,none⟩) b.size cap) w1:=by
     have hf:(Question.appendCap b.size 0 e).forced=false:=rfl;simp only [Conv.stringToBytes,Sem.run_bind,run_choose,hf,dQ,aH,Result.andThen_ok,Question.cut,newRow,run_newObj,Sem.run_pure,markStringish,run_shape]
     have N:∀X:Array Value,({heap:=c.w.heap.push (Obj.cells X e),tape:=c.w.tape,drawn:=c.w.drawn+1,os:=c.w.os,output:=c.w.output}:World).shape? c.w.heap.size=some (e,X.size):=by
      grind[World.shape?]
     rw [N];simp only [run_freeze,Result.andThen_ok]
     have hmod:∀X:Array Value,(World.freeze ({heap:=c.w.heap.push (Obj.cells X e),tape:=c.w.tape,drawn:=c.w.drawn+1,os:=c.w.os,output:=c.w.output}:World) {block:=c.w.heap.size,off:=X.size} 1)
      = {c.w with drawn:=c.w.drawn+1,heap:=c.w.heap.push (.cells X e (X.size,X.size+1))}:=by
      intro X;simp only [World.freeze,Nat.one_ne_zero,aH];congr 1
      grind
     grind
    simp only [execOp,M,Sem.run_bind,f,convert,bh hs,bh hd,Result.andThen_ok,bh L,Z,Sem.run_pure]
   have g:∀i,w1.heap[i]?=if i=c.w.heap.size then some (.cells cells e (cap,cap+1)) else c.w.heap[i]?:=λi=>by grind
   obtain ⟨rep1,m1⟩:=h.grow (w1:=w1) (λb=>c.ok b\/b=c.w.heap.size)
    ⟨h.kept.os,h.kept.tape,h.kept.output,b9 h.kept.size (by grind),λi O hm=>by rw [g,if_neg (by have:=h.kept.size;omega)];exact h.kept.block i O hm,Nat.le_succ_of_le h.kept.drawn⟩
    (by grind) (λi O=>by grind) (λ_ f=> .inl f)
    (λi O=>⟨by rcases O with O|rfl;have:=h.ok i O;all_goals grind,by grind⟩)
   refine bP (c1:=_) B rep1 (λx p=>hg x p) ?_ rfl D hK;simp only [RepV];refine ⟨_,cap,by rw [mr],by grind[mr],Y.2,λh0=>⟨c.w.heap.size,0,rfl,.inr rfl,λj x p=> ?_⟩⟩;have S:j<b.size:=by grind[mr]
   have E:x=(b.data[j].toNat:Int):=by
    grind[bytesOf]
   have T:(Lit.int .u8 x).wf=true:=by
    rw [E];have:=b.data[j].toNat_lt
    grind[Lit.wf,IntKind.min,IntKind.max,IntKind.signed,IntKind.bits]
   refine ⟨[.int .u8 x],⟨rfl,T⟩,λi u L=> ?_⟩
   grind[World.cell?,Ty.size]
  grind
 ·
  rename_i e hs hd;split at D
  ·rename_i e' l hl L;obtain ⟨A,n,hv,k1,k2,F⟩:=h.list (eM (P:=C.P) p s) hl
   have T:∀x ∈ l,(Lit.int .u8 x).wf=true:=by
    intro x p;obtain ⟨j,S,rfl⟩:=kH p;obtain ⟨b,off,_,_,hc⟩:=F (by omega);obtain ⟨d,hd,_⟩:=hc j _ (cK S);exact hd.2
   have B:(Conv.bytesToString (a.eval x)).run C.P c.w= .ok (.string (l.foldl (λr n=>r.push (UInt8.ofNat n.toNat)) ByteArray.empty)) c.w:=by
    rw [hv]
    cases A with
    |none=>
     have:l= []:=by
      cases l with
      |nil=>rfl
      |cons y q=>obtain ⟨_,_,hA,_⟩:=F (by simp);grind
     subst this;rfl
    |some ad=>
     refine run_bytesToString c.w ad l.length n l ?_;by_cases h0:l= []
     ·subst h0;rfl
     ·obtain ⟨b,off,hA,_,hc⟩:=F (oR.2 h0);simp only [aB] at hA;subst hA;unfold loadCells
      rw [xQ l.length 0 #[] (l.map (Value.int .u8)) (by simp) (λj u L=>by
       rw [JN] at L
       cases S:l[j]? with
       |none=>grind
       |some y=>
        rw [S] at L;simp only [sD,aB] at L;obtain ⟨d,hd,G⟩:=hc j y S;have:=G 0 u (by rw [hd.1];grind)
        grind[Ty.size])]
      simp
   refine bP (v:= .string (l.foldl (λr n=>r.push (UInt8.ofNat n.toNat)) ByteArray.empty)) ?_ h hg ?_ rfl D hK
   ·grind[run_convert_bytes_string,execOp,Sem.run_bind,Result.andThen_ok,Sem.run_pure]
   ·simp only [RepV];have f:=Wm l ByteArray.empty T;have h0:bytesOf ByteArray.empty= []:=rfl
    grind[mr]
  grind
 ·
  rename_i e0 e hs hd;split at D
  ·rename_i L;obtain ⟨hsd,D⟩:=b6 D;have hsd':=dD.1 hsd;subst hsd';have hee:e0=e:=by grind
   subst hee;unfold I9 at D;split at D
   ·rename_i k E;rw [E] at p;simp only [RepV] at p;split at D
    ·rename_i W t l ho;have hob:c.ob k=some (.row W t l):=by rw [h.ob];exact ho
     obtain ⟨A,n,g1,g2,g3,g4⟩:=h.objs k _ hob
     cases hl:l with
     |nil=>grind
     |cons z zs=>
      have hr':K ((st.setO k (.frow W t l)).put o.dst (.sl W t l))=some r:=by grind
      have hlen:0<l.length:=by grind
      rcases g4 with g4| ⟨g4,cs,g5,g6,g7,g8⟩
      ·omega
      ·subst g4;have H:bf c k:=⟨_,hob,_,_,n,g1,by omega⟩;have I:=h.mine k H;obtain ⟨el,q1,q2⟩:=g5;have N:c.w.shape? (c.ρ k)=some (el,cs.size):=by grind[World.shape?]
       let w1:World:=c.w.freeze ⟨c.ρ k,cs.size,none⟩ 1
       have B:(execOp a.eval o).run C.P c.w= .ok (.value (a.eval x)) w1:=by
        simp only [execOp,M,Sem.run_bind,p.1,g1,convert,bh hs,bh hd,Result.andThen_ok,bJ,bh L,markStringish,run_shape,N,run_freeze,Sem.run_pure]
        grind
       have g:∀i,w1.heap[i]?=if i=c.ρ k then some (.cells cs el (cs.size,cs.size+1)) else c.w.heap[i]?:=λi=>by
        grind[World.freeze]
       have U:w1.heap.size=c.w.heap.size:=by grind[World.freeze]
       have G:∀off,w1.cell? ⟨c.ρ k,off,none⟩=c.w.cell? ⟨c.ρ k,off,none⟩:=λoff=>by grind[World.cell?]
       let ok1:Nat->Prop:=λb=>c.ok b\/(bf c k/\b=c.ρ k)
       have hne:∀b,c.ok b->b≠c.ρ k:=λb f V=>I.1 (V ▸ f)
       have rep:=h.setObj (o:= .row W t l) (o':= .frow W t l) ho (w1:=w1) ok1
        (h.kept.one rfl rfl rfl (by omega) (c.ρ k) I.2.1 (λi _ O=>by grind)) (by omega)
        (λb f=>by
         rw [g,ak];rcases f with f| ⟨k',J,f,rfl⟩
         ·grind
         ·exact λV=>J (h.apart k' k f H V))
        (λb f=> .inl f)
        (λb f=>by
         rw [U];rcases f with f| ⟨f,rfl⟩
         ·exact ⟨h.ok b f,λk' _ J V=>(h.mine k' J).1 (V ▸ f)⟩
         ·exact ⟨(h.mine k f).2.2,λk' hne J V=>hne (h.apart k' k J f V)⟩)
        (by simp)
        (by
         refine ⟨_,n,g1,g2,g3,λh0=>⟨c.ρ k,0,rfl,.inr ⟨H,rfl⟩,?_⟩⟩;have rd:=uN (w:=c.w) (ok:=c.ok) ⟨el,q1,q2⟩ g7;intro j y S;obtain ⟨cc,d1,d2⟩:=rd j y S;refine ⟨cc,d1.move (λb f=>by grind) (λb f=> .inl f),λi u L=> ?_⟩
         grind)
        (λhw=>by grind[gm])
       refine bP (c1:=_) B rep (λx p=>(hg x p).of rfl) ?_ rfl hr' hK;have hobj:=rep.objs k (.frow W t l) (by grind[gR]);obtain ⟨A2,n2,j1,j2,j3,j4⟩:=hobj
       grind[RepV]
    grind
   grind
  grind
 grind
end
theorem VF (b) (h:256<=b):∀ (d c),c<=2*b->Builtin.growBy b d c<=2*b
 |0,c,j=>j
 |n+1,c,j=>by
  simp only [Builtin.growBy];split
  ·exact j
  ·exact VF b h n _ (by omega)
theorem ajD (h:cap<j):Builtin.nextslicecap j cap<=2*j:=by
 grind[Builtin.nextslicecap,VF]
section
variable {P:Program} {m:MM} {w0:World} {st:St} {a:Act} {c:Cx} {R:Type} {K:St->Option R} {r:R} {o:Oper} {next:Act->World->Prop} {Q:Exit->Act->World->Prop}
theorem aje :∀ (l),(∀ (j) (x),l[j]?=some x->∃c,aJ w ok t x c/\∀ (i) (u),c[i]?=some u->w.cell? ⟨b,off+j*t.size+i,none⟩=some u)->
 ∃inner,aT w ok t l inner/\∀ (q) (u),inner[q]?=some u->w.cell? ⟨b,off+q,none⟩=some u:=by
 intro l h
 have key:∀n,n<=l.length->∃inner,aT w ok t (l.take n) inner/\∀ (q) (u),inner[q]?=some u->w.cell? ⟨b,off+q,none⟩=some u:=by
  intro n
  induction n with
  |zero=>intro _;exact ⟨[],by simp [aT],by simp⟩
  |succ n e=>
   intro p;obtain ⟨inner,d,f⟩:=e (by omega);obtain ⟨c,g,s⟩:=h n _ (cK (show n<l.length by omega));have k:=d.len;rw [dZ,qw (by omega)] at k;refine ⟨inner++c,?_,λq u v=> ?_⟩
   ·rw [fg (by omega)];exact d.append ⟨c,[],by simp,g,rfl⟩
   grind
 obtain ⟨inner,d,f⟩:=key l.length (aR _)
 grind
theorem IM (e:WZ w ok t A l) (f:0<t.size):
 ∃cs,(Builtin.firstCells t.size l.length (.slice A l.length cap)).run P w= .ok cs w/\aT w ok t l cs.toList:=by
 by_cases d:l= []
 ·subst d
  cases A with
  |none=>exact ⟨#[],rfl,rfl⟩
  |some i=>exact ⟨#[],by simp [Builtin.firstCells,loadCells,loadCellsFrom],rfl⟩
 ·obtain ⟨b,off,rfl,_,g⟩:=e (oR.2 d);obtain ⟨inner,h,k⟩:=aje l g;refine ⟨inner.toArray,?_,by omega⟩;simp only [Builtin.firstCells,loadCells];rw [xQ (l.length*t.size) 0 #[] inner h.len (λj u n=>by grind)];simp
theorem Cn (h:Rep m w0 st a c) (i:RepV c p v) (d:xO st t p=some l) (j:0<t.size):
 (∀w,(Builtin.lenOf v).run P w= .ok l.length w)/\∃cs,(Builtin.firstCells t.size l.length v).run P c.w= .ok cs c.w/\aT c.w c.ok t l cs.toList:=by
 have z:∀e (k) (q),st.list p=some ⟨e,k,q⟩->∀f:k=t,l=f ▸ q->(∀w,(Builtin.lenOf v).run P w= .ok l.length w)/\∃cs:Array Value,(Builtin.firstCells t.size l.length v).run P c.w= .ok cs c.w/\aT c.w c.ok t l cs.toList:=by
  intro e k q u f y;subst f;subst y;obtain ⟨A,n,B,D,E,g⟩:=h.list i u;subst B;exact ⟨λw=>rfl,IM g j⟩
 unfold xO at d;split at d
 ·rename_i s;split at d
  ·rename_i f;subst f;simp only [aB] at d;subst d;simp only [RepV] at i;obtain ⟨b,rfl,rfl,F⟩:=i;refine ⟨λw=>by rw [mr];rfl,((b.extract 0 b.size).data.map λb=> .int .u8 b.toNat),by rw [mr];rfl,?_⟩;have y:(b.extract 0 b.size).data.toList=b.data.toList:=by simp_all
   rw [vN,y];unfold bytesOf
   have:∀l:List UInt8,aT c.w c.ok (.int .u8) (l.map λb=>(b.toNat:Int)) (l.map λb=>Value.int .u8 b.toNat):=by
    intro l
    induction l with
    |nil=>rfl
    |cons x r C=>
     refine ⟨[.int .u8 x.toNat],_,rfl,⟨rfl,?_⟩,C⟩;have:=x.toNat_lt
     grind[Lit.wf,IntKind.min,IntKind.max,IntKind.signed,IntKind.bits]
   grind
  grind
 grind
theorem HQ (s:ku P e=some ⟨j,x0⟩) (x:P.underlying t=some (.slice e)) (f:(∃q,P.underlying u=some (.slice q))\/P.underlying u=some .string) (y)
 (hlen:∀w,(Builtin.lenOf v).run P w= .ok k w) (b:(Builtin.firstCells j.size k v).run P w= .ok new w) (g:n+k<=cap)
 (B:(match A with|some C=>storeCells (C.add (n*j.size)) new.toList|none=>pure ():Sem Unit).run P w= .ok () w1):
 (Builtin.append_ #[t,u] y #[.slice A n cap,v]).run P w= .ok (.slice A (n+k) cap) w1:=by
 obtain ⟨i,z,L,D,E,F,d,G,h,H,l,I,J⟩:=oL s;have p:(sizeOf e).run P w= .ok j.size w:=by simp [sizeOf,typeInfo,D,d,l]
 unfold Builtin.append_;rcases f with ⟨q,f⟩|f
 all_goals
  simp only [DH,sJ,nJ,Sem.run_bind,bh x,Result.andThen_ok,p,bh f,Sem.run_pure,dQ,aH,hlen,g,aI,bm,b]
  grind[Sem.run_pure,Sem.run_bind,Result.andThen_ok]
theorem ajd (J:ku P e=some ⟨C,x0⟩) (L:P.underlying t=some (.slice e)) (q:(∃I,P.underlying u=some (.slice I))\/P.underlying u=some .string) (M)
 (hlen:∀w,(Builtin.lenOf v).run P w= .ok k w) (d:(Builtin.firstCells C.size k v).run P {w with drawn:=w.drawn+1} = .ok new {w with drawn:=w.drawn+1})
 (f:(Builtin.firstCells C.size n (.slice A n cap)).run P {w with drawn:=w.drawn+1} = .ok s {w with drawn:=w.drawn+1}) (N:cap<n+k) (g:(n+k)*P.bytesOf e<=az):
 ∃ (rest:Array Value) (b:Nat),n+k<=b/\b<=9223372036854775807/\rest.size=(b -(n+k))*C.size/\
  (Builtin.append_ #[t,u] M #[.slice A n cap,v]).run P w= .ok (.slice (some ⟨w.heap.size,0,none⟩) (n+k) b) {w with drawn:=w.drawn+1,heap:=w.heap.push (.cells (s++new++rest) e)}:=by
 obtain ⟨i,z,Y,x,y,O,h,S,B,T,D,U,E⟩:=oL J;have V:az=140737488355328:=rfl;rw [V] at g;have F:∀w,(sizeOf e).run P w= .ok C.size w:=λw=>by simp [sizeOf,typeInfo,x,h,D]
 have G:∀w,(typeInfo e).run P w= .ok i w:=λw=>by simp [typeInfo,x]
 have W:n+k<=140737488355328:=by
  have:(n+k)*1<= (n+k)*P.bytesOf e:=yI _ E;omega
 let b:=(n+k)+w.tape w.drawn (.appendCap (n+k) cap e) % (2^63 -(n+k))
 have j:n+k<=b/\b<=9223372036854775807:=by
  have:w.tape w.drawn (.appendCap (n+k) cap e) % (2^63 -(n+k)) <2^63 -(n+k):=yJ _ (by omega);omega
 refine ⟨Builtin.zeroCells z.cells (b -(n+k)),b,j.1,j.2,by grind[Builtin.zeroCells],?_⟩;have H:¬n+k<=cap:=by omega
 have l:¬ (((n+k:Nat):Int) >IntKind.i64.max/\(False\/i.bytes=0)):=by
  grind
 have p:¬Builtin.nextslicecap (n+k) cap*i.bytes>2^48:=by
  have Z:Builtin.nextslicecap (n+k) cap*i.bytes<=2* (n+k)*i.bytes:=fH _ (ajD (by omega))
  grind
 have X:(Question.appendCap (n+k) cap e).forced=false:=rfl;unfold Builtin.append_;rcases q with ⟨I,q⟩|q
 all_goals
  simp only [DH,sJ,nJ,Sem.run_bind,bh L,Result.andThen_ok,F,bh q,Sem.run_pure,dQ,aH,hlen,H,bm,aI,
   G,l,p,run_choose,X,Question.cut,run_askRoom,d,f,lq x y,newRow,run_newObj]
  rfl
theorem yr (b:o.op= .call {callee:= .builtin .append,args,argTypes}) (f:args.toList= [x,y]) (g:argTypes.toList= [t,u])
 (h:(Builtin.append_ #[t,u] o.type #[a.eval x,a.eval y]).run P w= .ok v w1):(execOp a.eval o).run P w= .ok (.value v) w1:=by
 have d:args= #[x,y]:=by grind
 have e:argTypes= #[t,u]:=by grind
 subst d e;simp only [execOp,b,Sem.run_bind,resolve,Sem.run_pure,Result.andThen_ok,invoke,builtin,List.map_toArray,eX,DC,h]
theorem nl (h:Rep m w0 st a c) (l:st.obj k=some o') (f:bf {c with ob:=(st.del k).obj} b):b≠k/\bf c b:=by
 obtain ⟨g,d,i⟩:=f
 have j:(st.del k).obj b=if b=k then some .gone else st.obj b:=by
  grind[St.del,gR]
 simp only [j] at d;by_cases e:b=k
 ·grind[gm]
 ·rw [ak e] at d;exact ⟨e,g,by rw [h.ob];exact d,i.congr (c:={c with ob:=(st.del k).obj}) (c1:=c) rfl⟩
theorem Ww {c1} {e} {n} {l} {d b:Nat} {A} (g:Rep m w0 st1 a c1) (h:c1.w=c.w) (s:∀x,o.dst=some x->bD st1 x) (hd:o.dst=some d)
 (i:st1.new (b) (.row e n l)=some f) (t:l= []) (k:(execOp a.eval o).run P c.w= .ok (.value (.slice A 0 0)) c.w) (u:K (f.set d (.own (b)))=some r)
 (y:∀j C I,K j=some r->Rep m w0 j C I->next C I.w):o.upon P a next Q ((execOp a.eval o).run P c.w):=by
 subst t;obtain ⟨g1,B,D,E,F,G⟩:=jA i
 have rep:=g.newObj i (w1:=c1.w) 0 (.slice A 0 0) g.kept (aR _) (λ_ _=>rfl) ⟨A,0,by simp,by simp,by omega,.inl rfl⟩ (λh=>by
  obtain ⟨_,_,_,q,H⟩:=h
  grind)
 refine bP (c1:=_) (p:= .own (b)) (v:= .slice A 0 0) (by grind) rep (λx z=>(s x z).of g1) ?_ rfl (by rw [hd];exact u) y
 grind[RepV]
theorem Wx {C:Ctx} {st1 D:St} {c1:Cx} {t u:TypeId} {x y:Operand} {args:Array Operand} {argTypes:Array TypeId} (N:o.op= .call {callee:= .builtin .append,args,argTypes}) (ha:args.toList= [x,y]) (ht:argTypes.toList= [t,u])
 {e:TypeId} {b:Ty} {x0:b.den} (Z:ku C.P e=some ⟨b,x0⟩) (O:C.P.underlying t=some (.slice e)) (S:(∃e2,C.P.underlying u=some (.slice e2))\/C.P.underlying u=some .string)
 (h:Rep m w0 st a c) (h1:Rep m w0 st1 a c1) (hw:c1.w=c.w) (T:c1.ok=c.ok) (hg:∀x,o.dst=some x->bD st1 x) {d kk:Nat} (hd:o.dst=some d) {l j:List b.den} (hn:st1.new (kk) (.row e b (l++j))=some D)
 {p q:PV} (hp:RepV c p (a.eval x)) {e':TypeId} (s:st.list p=some ⟨e',b,l⟩) (hq:RepV c q (a.eval y)) (E:xO st b q=some j) {A:Option Addr} {n:Nat} (F:a.eval x= .slice A l.length n) (U:n<l.length+j.length)
 (G:(l.length+j.length)*C.P.bytesOf e<=az) (hr:K (D.set d (.own (kk)))=some r)
 (hK:∀H a' c',K H=some r->Rep m w0 H a' c'->next a' c'.w):o.upon C.P a next Q ((execOp a.eval o).run C.P c.w):=by
 obtain ⟨i,z,lz,hi,hz0,hsz,hisz,hib,V,hof,hts,v,hbp⟩:=oL Z;have h':=h.world (w1:={c.w with drawn:=c.w.drawn+1}) (h.kept.drew (dI _)) (aR _) (λ_ _=>rfl);have hm:Mv (λ_=>True) c {c with w:={c.w with drawn:=c.w.drawn+1}}:=⟨λ_ _=>rfl,λ_ h=>h,λ_ _=>rfl,λ_ _=>rfl,λk e t l _ hl=>⟨e,l,hl,rfl⟩⟩;obtain ⟨hlen,new,I,f⟩:=Cn (P:=C.P) h' (RepV.move hm _ _ (λ_ _=>aO) hq) E v;obtain ⟨A',n',B,hl1,hl2,J⟩:=h'.list (RepV.move hm _ _ (λ_ _=>aO) hp) s;rw [F] at B;simp only [Value.slice.injEq] at B;obtain ⟨rfl,_,rfl⟩:=B;obtain ⟨L,M,g⟩:=IM (P:=C.P) (cap:=n) J v;obtain ⟨rest,W,k1,k2,k3,k4⟩:=ajd (P:=C.P) Z O S o.type hlen I M U G;have X:(l++j).length=l.length+j.length:=cq;have ho:=g.len;have Y:=f.len;simp only [sN] at ho Y
 have hnc:W*b.size=l.length*b.size+j.length*b.size+ (W -(l.length+j.length))*b.size:=by
  rw [<-fI,<-fI];grind
 have hrun:=yr (P:=C.P) N ha ht (by rw [F];exact k4);refine CL (cs:=L++new++rest) (n:=W) (c.w.drawn+1) (dI _) hd h1 hw hg hn v (by grind) (by omega) k2 ?_ (by grind) hr hK;rw [X,sM,sM,vA,kD (by grind)];have:(l.length+j.length)*b.size -(L.toList++new.toList).length=0:=by grind
 rw [this,List.take_zero,ji];rw [hw,T];exact aT.move (w:={c.w with drawn:=c.w.drawn+1}) (w1:=c.w) (ok:=c.ok) (ok1:=c.ok) (λ_ _=>rfl) (λ_ hb=>hb) (g.append f)
theorem Hv {e:TypeId} {b} {x0} {z:Value} (f:aJ c.w c.ok b x0 z.cells.toList) (g:z.cells.size=b.size) (h:0<b.size) (q:Nat):
 aT c.w c.ok b (List.replicate q x0) (Builtin.zeroCells z.cells q).toList:=by
 have key:∀d,d<=q->aT c.w c.ok b (List.replicate d x0) ((List.range (d*b.size)).map (λi=>z.cells[i % z.cells.size]!)):=by
  intro d
  induction d with
  |zero=>grind[aT]
  |succ p j=>
   intro l;rw [List.replicate_succ'];rw [fI,qv,List.range_add,lM];refine (j (by omega)).append ?_;refine ⟨z.cells.toList,[],?_,f,rfl⟩;rw [ji];apply JU
   ·grind
   ·intro i k n;simp only [sG,List.length_range] at k;simp only [vD,DG,List.getElem_range,Function.comp_apply]
    grind[Nat.mul_comm,Nat.mul_add_mod,Nat.mod_eq_of_lt]
 grind[Builtin.zeroCells,Array.toList_map]
theorem ak8 {C:Ctx} (N:o.op= .call {callee:= .builtin .append,args,argTypes}) (ha:args.toList= [b,x]) (ht:argTypes.toList= [t,u])
 (O:C.P.underlying t=some (.slice e)) (S:C.P.underlying u=some (.int kk)) (h:Rep m w0 st a c) (hg:∀x,o.dst=some x->bD st x)
 (f:Dm C.P e (cN C.P t (aG st b)) (aG st x) o.dst st K=some r)
 (hK:∀v a' c',K v=some r->Rep m w0 v a' c'->next a' c'.w):o.upon C.P a next Q ((execOp a.eval o).run C.P c.w):=by
 have T:=eM (P:=C.P) (aZ h b) t;have U:=aZ h x;unfold Dm at f;split at f
 ·rename_i e' t' l n d k x0 V W hd he;obtain ⟨i,z,lz,X,Y,hsz,y,hib,p,Z,hts,g,hbp⟩:=oL he;rw [V] at T;rw [W] at U;simp only [RepV] at T U;split at f
  ·obtain ⟨hc,B⟩:=b6 f;clear f;simp only [bb,db] at hc;obtain ⟨h0,j⟩:=hc;have f:=B;clear B;split at f
   ·rename_i st2 hn;obtain ⟨q,rfl⟩:=qC (vJ h0);simp only [bu] at j f hn;have D:az=140737488355328:=rfl;rw [D] at j
    have hq:q<=140737488355328:=by
     have:q*1<=q*C.P.bytesOf e:=yI _ hbp;omega
    have hq0:0<q:=by omega
    obtain ⟨A,E,_⟩:=T;simp only [dy] at E;have hzd:aJ c.w c.ok k x0 z.cells.toList:=Ty.fU Z (p c);have hzl:z.cells.size=k.size:=by omega
    have M:=Hv (c:=c) (e:=e) hzd hzl g q
    let s:=q+c.w.tape c.w.drawn (.appendCap q 0 e) % (2^63 - q)
    have hnc:q<=s/\s<=9223372036854775807:=by
     have:c.w.tape c.w.drawn (.appendCap q 0 e) % (2^63 - q) <2^63 - q:=yJ _ (by omega);omega
    have hso:∀w,(sizeOf e).run C.P w= .ok k.size w:=λw=>by simp [sizeOf,typeInfo,X,y,hts]
    have hti:∀w,(typeInfo e).run C.P w= .ok i w:=λw=>by simp [typeInfo,X]
    have hw:IntKind.i64.wrap (q:Int)=q:=by grind[IntKind.wrap,IntKind.bits]
    have F:¬ ((q:Int) <0):=by omega
    have G:¬ ((q:Int)* ((i.bytes:Nat):Int) >2^48):=by
     grind
    have hle:¬0+q<=0:=by omega
    have H:¬ (((0+q:Nat):Int) >IntKind.i64.max/\(True\/i.bytes=0)):=by
     grind[IntKind.max,IntKind.bits]
    have I:¬Builtin.nextslicecap (0+q) 0*i.bytes>2^48:=by
     grind[Builtin.nextslicecap]
    have hf:(Question.appendCap (0+q) 0 e).forced=false:=rfl;have hns:¬q*k.size=0:=Nat.ne_of_gt (yH hq0 g)
    have J:(Builtin.firstCells k.size 0 (.slice A 0 0)).run C.P {c.w with drawn:=c.w.drawn+1} = .ok #[] {c.w with drawn:=c.w.drawn+1}:=by
     have:=IM (P:=C.P) (w:={c.w with drawn:=c.w.drawn+1}) (ok:=c.ok) (t:=k) (A:=A) (l:= []) (cap:=0) (λh0=>by grind) g;obtain ⟨cs,h1,h2⟩:=this;have:cs= #[]:=by have:=h2.len;grind
     grind
    have L:(Builtin.append_ #[t,u] o.type #[a.eval b,a.eval x]).run C.P c.w= .ok (.slice (some ⟨c.w.heap.size,0,none⟩) q s)
     {c.w with drawn:=c.w.drawn+1,heap:=c.w.heap.push (.cells (#[]++Builtin.zeroCells z.cells q++Builtin.zeroCells z.cells (s -(0+q))) e)}:=by
     unfold Builtin.append_
     simp only [DH,sJ,nJ,Sem.run_bind,bh O,Result.andThen_ok,hso,bh S,Sem.run_pure,aI,U.1,E,asInt,asIntOf,hw,F,aH,hti,G,bu,hle,
      H,I,run_choose,hf,Question.cut,run_askRoom,J,ax,dQ,hns,lq X Y,newRow,run_newObj]
     grind
    have hrun:=yr (P:=C.P) N ha ht L;have hsize:(Builtin.zeroCells z.cells q).size=q*k.size:=by grind[Builtin.zeroCells]
    refine CL (cs:= #[]++Builtin.zeroCells z.cells q++Builtin.zeroCells z.cells (s -(0+q))) (n:=s) (c.w.drawn+1) (dI _) hd h rfl hg hn g ?_ (by grind) hnc.2 ?_ (by grind) f hK
    all_goals grind[Builtin.zeroCells,Nat.add_mul]
   grind
  grind
 grind
theorem alE (hC:C.P=P) (L:o.op= .call {callee:= .builtin .append,args,argTypes}) (h:Rep m w0 st a c) (hg:∀x,o.dst=some x->bD st x) (g:be C o st K=some r)
 (hK:∀st' a' c',K st'=some r->Rep m w0 st' a' c'->next a' c'.w):o.upon P a next Q ((execOp a.eval o).run P c.w):=by
 subst hC;simp only [be,L] at g;split at g
 ·rename_i x y t u ha ht
  have core:∀ (e:TypeId) (M:C.P.underlying t=some (.slice e)) (N:(∃e2,C.P.underlying u=some (.slice e2))\/C.P.underlying u=some .string),
   vl C.P e (cN C.P t (aG st x)) (cN C.P u (aG st y)) o.dst st K=some r->o.upon C.P a next Q ((execOp a.eval o).run C.P c.w):=by
   intro e M N g;have O:=eM (P:=C.P) (aZ h x) t;have hy:=eM (P:=C.P) (aZ h y) u;unfold vl at g;split at g
   ·rename_i d ty x0 hd S;obtain ⟨i,z,lz,hi,hz0,hsz,hisz,hib,hrepz,hof,hts,htp,hbp⟩:=oL S;split at g
    ·
     rename_i T k q D;rw [D] at O;simp only [RepV] at O;obtain ⟨hlen,new,I,f⟩:=Cn (P:=C.P) h hy q htp;split at g
     ·rename_i e' E l ho;split at g
      ·rename_i hee;subst hee;split at g
       ·rename_i Y;subst Y;obtain ⟨s,g⟩:=b6 g;simp only [db] at s;split at g
        ·rename_i kk Z B;have hn:=newNum_spec B;clear B;have hob:c.ob k=some (.row e' E l):=by rw [h.ob];exact ho
         obtain ⟨A,n,q1,q2,q3,q4⟩:=h.objs k _ hob;have U:=h.del ho;have hmove:∀ (w1:World),(∀b,c.ok b->w1.heap[b]?=c.w.heap[b]?)->aT w1 c.ok E T new.toList:=λw1 hw=>f.move hw (λ_ X=>X)
         have hll:(l++T).length=l.length+T.length:=cq;have hev:a.eval x= .slice A l.length n:=by grind
         by_cases V:l.length+T.length<=n
         ·by_cases B:n=0
          ·
           have hl0:l= []:=jK.1 (by omega);have hm0:T= []:=jK.1 (by omega);have F:new.toList= []:=by have:=f.len;simp_all
           have W:=HQ (P:=C.P) (t:=t) (u:=u) S M N o.type (A:=A) (n:=l.length) (cap:=n) (v:=a.eval y) hlen I V (w1:=c.w) (by rw [F];cases A <;>rfl);have j:=yr (P:=C.P) L ha ht (by rw [hev];exact W);rw [hl0,hm0,B] at j;exact Ww U rfl (λx O=>(hg x O).of rfl) hd hn (by grind) j g hK
          ·
           rcases q4 with q4| ⟨rfl,cs,q5,q6,q7,q8⟩
           ·omega
           ·have J:bf c k:=⟨_,hob,_,_,n,q1,B⟩;have G:=h.mine k J;have hnl:=f.len;have hmul:l.length*E.size+T.length*E.size<=n*E.size:=by rw [<-fI];exact fH _ V
            obtain ⟨w1,cs1,g1,g2,g3,g4,g5,g6,g7⟩:=uP (P:=C.P) h J q5 (vals:=new.toList) (off:=l.length*E.size) f.one (by omega)
            have W:=HQ (P:=C.P) (t:=t) (u:=u) S M N o.type (A:=some ⟨c.ρ k,0,none⟩) (n:=l.length) (cap:=n) (v:=a.eval y) hlen I V (w1:=w1) (by
             grind[my])
            have j:=yr (P:=C.P) L ha ht (by rw [hev];exact W);have hne':∀b,c.ok b->b≠c.ρ k:=λb X S=>G.1 (S ▸ X)
            have rep:=U.newObj hn (w1:=w1) (c.ρ k) (.slice (some ⟨c.ρ k,0,none⟩) (l.length+T.length) n) g5 (by grind)
             (λb X=>g7 b (by
              rcases X with X| ⟨k',hk',rfl⟩
              ·grind
              ·obtain ⟨z1,z2⟩:=nl h ho hk'
               exact λS=>z1 (h.apart k' k z2 J S)))
             ⟨some ⟨c.ρ k,0,none⟩,n,by grind,by grind,q3,.inr ⟨by simp,cs1,by grind,by omega,by
              have e1:cs1.toList.take ((l++T).length*E.size)=cs.toList.take (l.length*E.size)++new.toList:=by
               have hcl:cs.toList.length=n*E.size:=by omega
               rw [g3,hll,fI,vA,kD (by grind)]
               simp_all
              rw [e1]
              exact (q7.append f).move (λb X=>g7 b (hne' b X)) (λ_ X=>X),q8⟩⟩
             (λ_=>⟨G.1,G.2.1,by omega,λk' hk' S=>by
              obtain ⟨z1,z2⟩:=nl h ho hk'
              exact z1 (h.apart k' k z2 J S)⟩)
            obtain ⟨s1,s2,s3,s4,s5,s6⟩:=jA hn;refine bP (c1:=_) (p:= .own kk) j rep (λx O=>((hg x O).of (st1:=st.del k) rfl).of s1) ?_ rfl (by rw [hd];exact g) hK
            grind[RepV]
         ·have H:st.list (.own k)=some ⟨e',E,l⟩:=by grind[St.list]
          have hn':(st.del k).new kk (.row e' E (l++T))=some Z:=hn;exact Wx L ha ht S M N h U rfl rfl (λx O=>(hg x O).of rfl) hd hn' (p:= .own k) (by grind[RepV]) H hy q hev (by omega) s g hK
        grind
       grind
      grind
     grind
    ·
     rename_i T e' E l q D;rw [D] at O;have hx0:=O;simp only [RepV] at O;obtain ⟨A,q1,q3,q4⟩:=O;obtain ⟨hlen,new,I,f⟩:=Cn (P:=C.P) h hy q htp;split at g
     ·rename_i Y;subst Y;obtain ⟨hemp,g⟩:=b6 g;obtain ⟨s,g⟩:=b6 g;simp only [db] at s;split at g
      ·rename_i kk Z B;have hn:=newNum_spec B;clear B;by_cases hm0:T= []
       ·have hl0:l= []:=by grind
        have F:new.toList= []:=by have:=f.len;simp_all
        have W:=HQ (P:=C.P) (t:=t) (u:=u) S M N o.type (A:=A) (n:=l.length) (cap:=l.length) (v:=a.eval y) hlen I (by grind) (w1:=c.w) (by rw [F];cases A <;>rfl);have j:=yr (P:=C.P) L ha ht (by rw [q1];exact W);rw [hl0,hm0] at j;exact Ww h rfl hg hd hn (by grind) j g hK
       ·have H:st.list (.full e' E l)=some ⟨e',E,l⟩:=rfl;have hn':st.new kk (.row e E (l++T))=some Z:=hn;exact Wx L ha ht S M N h h rfl rfl hg hd hn' hx0 H hy q q1 (by grind) s g hK
      grind
     grind
    grind
   grind
  grind[ak8]
 grind
end
end Go.Fw
