/- Part 10: lemmas that the last text needs. -/
import Derived.Test.YtkihadlgknhpkaaGreatDoorX9
set_option linter.all false
set_option autoImplicit true
set_option relaxedAutoImplicit true
namespace Go.Fw
section
variable {P:Program} {ops:Array Oper} {Q:Exit->Act->World->Prop} {S:World->Prop} {N:Oper->Bool}
def eE (P:Program) (N:Oper->Bool) (ops:Array Oper) (Q:Exit->Act->World->Prop) (S:World->Prop)
 |0,b,a,w=>Region.ready .any ops b= []/\Q .normal a w
 |j+1,b,a,w=>
  (Region.ready .any ops b= []->Q .normal a w)/\
  ∀i ∈ Region.ready .any ops b,wpOp P ops Q i (λC w'=>(S w'/\∀o,ops[i]?=some o->N o=true->Kept (λ_=>False) w w')/\eE P N ops Q S j (b.setIfInBounds i true) C w') a w
theorem Ud:∀ (b) (d) (a) (w),eE P N ops Q S b d a w->wpAny P .any ops Q b d a w
 |0,_,_,_,h=>h
 |b+1,_,_,_,h=>⟨h.1,λi j=>wpOp_mono (λC w' I=>Ud b _ C w' I.2) (h.2 i j)⟩
theorem Hy (e:∀w,S' w->S w):∀ (b) (d) (a) (w),eE P N ops Q S' b d a w->eE P N ops Q S b d a w
 |0,_,_,_,h=>h
 |b+1,_,_,_,h=>⟨h.1,λi C=>wpOp_mono (λI w' j=>⟨⟨e _ j.1.1,j.1.2⟩,Hy e b _ I w' j.2⟩) (h.2 i C)⟩
theorem Uc (h:∀w,S' w->S w) (b:YieldsIf P ops S o v a):YieldsIf P ops S' o v a:=
 b.imp (λ⟨d,e⟩=>⟨d,λw f=>e w (h w f)⟩) id
theorem Ue (B:Prop) (D:ops[i]?=some C) (s:∀ (j:Nat) (o:Oper) cs b,ops[j]?=some o->o.op≠ .select cs b)
 (U:∀c a w,Q (.panic c) (a.put C.dst v) w->Q (.panic c) a w):
 ∀ (f:Nat) (d:Array Bool) (a:Act) (w:World),
  (∀j n,ops[j]?=some n->j≠i->d.getD j true=false->(∀e ∈ n.after,Region.binds .any e=true->e.on≠i)->C.apart ops n=true/\(B->N n=true))->
  i ∈ Region.ready .any ops d->YieldsIf P ops (λw'=>S w'/\(B->Kept (λ_=>False) w w')) C v a->S w->
  eE P N ops Q S f (d.setIfInBounds i true) (a.put C.dst v) w->eE P N ops Q S (f+1) d a w:=by
 intro f
 induction f with
 |zero=>
  intro d a w _ M y t H;refine ⟨λh=>(by grind),λj z=> ?_⟩;by_cases g:j=i
  ·subst g;exact y.wpOp D ⟨t,λ_=>Kept.refl _ _⟩ ⟨⟨t,λ_ _ _=>Kept.refl _ _⟩,H⟩
  ·have:=ready_mono z g;rw [H.1] at this
   grind
 |succ f V=>
  intro d a w l M y t H;refine ⟨λh=>(by grind),λj z=> ?_⟩;by_cases g:j=i
  ·subst g;exact y.wpOp D ⟨t,λ_=>Kept.refl _ _⟩ ⟨⟨t,λ_ _ _=>Kept.refl _ _⟩,H⟩
  ·have W:=H.2 j (ready_mono z g);obtain ⟨u,n,p,O⟩:=mem_ready.1 z
   have x:∀e ∈ n.after,Region.binds .any e=true->e.on≠i:=λe he E X=>by
    grind[mem_ready]
   obtain ⟨F,Y⟩:=l j n p g u x;have Z:=wpOp_putIf p F (λcs b=>s i C cs b D) (λcs b=>s j n cs b p) U y W
   have q:∀k ok,ops[k]?=some ok->k≠i->(d.setIfInBounds j true).getD k true=false->
    (∀e ∈ ok.after,Region.binds .any e=true->e.on≠i)->C.apart ops ok=true/\(B->N ok=true):=λk ok hk G I J=>by
    refine l k ok hk G ?_ J;by_cases L:j=k
    ·grind
    ·rw [getD_set_ne true L] at I;omega
   refine wpOp_mono (λa' w' A=>⟨A.2.1,V (d.setIfInBounds j true) a' w' q (ready_mono M (Ne.symm g)) (Uc (λw'' T=>⟨T.1,λE=>(A.2.1.2 n p (Y E)).trans (T.2 E)⟩) A.1) A.2.1.1 ?_⟩) Z
   grind[Array.setIfInBounds_comm]
theorem Uf (f:Region.ready .any ops b=j) (e:j≠ [])
 (h:∀i ∈ j,wpOp P ops Q i (λC w'=>(S w'/\∀o,ops[i]?=some o->N o=true->Kept (λ_=>False) w w')/\eE P N ops Q S d (b.setIfInBounds i true) C w') a w):eE P N ops Q S (d+1) b a w:=
 ⟨λg=>absurd (f ▸ g) e,f ▸ h⟩
theorem aiw (d:Region.ready .any ops j= []) (h:Q .normal a w):
 ∀b,eE P N ops Q S b j a w
 |0=>⟨d,h⟩
 |_+1=>⟨λ_=>h,by grind⟩
def Calm (P:Program) {α} (s:Sem α):=∀w v w1,s.run P w= .ok v w1->w1=w
theorem aA.calm (h:aA P s):Calm P s:=λw v w1 b=>(h w v w1 b).1
theorem Calm.bind (e:Calm P s) (g:∀x,Calm P (f x)):Calm P (s>>=f):=by
 intro w v w1 h;rw [Sem.run_bind] at h
 cases b:s.run P w with
 |halt x d=>simp_all
 |ok u d=>
  rw [b] at h;simp only [Result.andThen_ok] at h;have i:=e w u d b;subst i;exact g u _ _ _ h
theorem Calm.load (b):Calm P (load b):=by
 intro w v w1 h
 grind[run_load]
theorem Calm.Xh (d):∀ (n i) (b),Calm P (loadCellsFrom d i n b)
 |0,_,_=>(aA.dg _).calm
 |n+1,i,b=>by
  unfold loadCellsFrom;exact (Calm.load _).bind λ_=>Calm.Xh d n _ _
theorem Calm.al1 (t) (d):Calm P (loadVar t d):=by
 unfold Go.loadVar;refine (aA.WV t).calm.bind λb=> ?_
 cases b with
 |true=>exact (aA.sB t).calm.bind λn=>(Calm.Xh d n 0 #[]).bind λ_=>(aA.dg _).calm
 |false=>exact Calm.load d
theorem akL (h:lv o=true\/nt o=true) (ρ):Calm P (execOp ρ o)/\jg P (execOp ρ o):=by
 rcases h with h|h
 ·obtain ⟨b,d⟩:=Il (P:=P) h ρ;exact ⟨b.calm,d⟩
 ·obtain ⟨dst,op,type,pos,after,guard⟩:=o;cases op <;>simp only [nt] at h <;>try (simp at h;done)
  case load t x=>
   unfold execOp;refine ⟨?_,jg.mk⟩;unfold Instr.loadAt;exact ((aA.Jv _).calm.bind λe=>Calm.al1 t e).bind λ_=>(aA.dg _).calm
variable {m:MM} {w0:World} {st:St} {a:Act} {c:Cx} {o:Oper} {R:Type} {K:St->Option R} {r:R} {next:Act->World->Prop}
theorem U2 (h:Rep m w0 st a c) (f:nt o=true) (d:gG P st o=some p):∃v,∀w',Kept (λ_=>False) c.w w'->(execOp a.eval o).run P w'= .ok (.value v) w':=by
 obtain ⟨dst,op,type,pos,after,guard⟩:=o;cases op <;>simp only [nt] at f <;>try (simp at f;done)
 case load t x=>
  simp only [gG] at d;split at d
  ·rename_i z e;obtain ⟨b,off,cs,g,j,k⟩:=Jc h (aZ h x) e;obtain ⟨v,l⟩:=U4 (b:=b) (off:=off) j d;refine ⟨v,λw' n=> ?_⟩
   have:=l w' (λi u q=>by
    have s:=k i u q
    have y:b<c.w.heap.size:=by
     grind[World.cell?]
    rw [vi (n.block b y id)]
    exact s)
   simp only [execOp,Sem.run_bind,g,Instr.loadAt,Instr.sureAddr,Sem.run_pure,Result.andThen_ok,this]
  grind
theorem aiU (F:C.OwedAt m w0) (h:Rep m w0 st a c) (p:dF C o=true) (b:dX C ops o st K=some r)
 (G:∀j I J,K j=some r->Rep m w0 j I J->Kept (λ_=>False) c.w J.w->next I J.w) (hQ:∀M a w,¬Q (.panic M) a w):
 if Region.wanted o (yielded ops a.tmps)=true then o.wp C.P a c.w next Q else next (a.put o.dst undef) c.w:=by
 by_cases t:lv o=true\/nt o=true
 ·have u:dX C ops o st K=lC C ops o st K:=by
   grind[dX,VA,lv,nt]
  rw [u] at b;have key:=yi (Q:=Q) (next:=λI w'=>w'=c.w->next I w') F (ops:=ops) h b (λj I J O T U=>G j I J O T (U ▸ Kept.refl _ _));split
  ·rename_i y;rw [aw y] at key;unfold Oper.wp at key ⊢;obtain ⟨V,W⟩:=akL (P:=C.P) t a.eval
   cases d:(execOp a.eval o).run C.P c.w with
   |halt x w1=>
    rw [d] at key;cases x <;>simp only [Oper.upon] at key ⊢;omega
   |ok nx w1=>
    obtain ⟨v,rfl⟩:=W _ _ _ d;have:=V _ _ _ d
    grind[Oper.upon_value]
  grind
 ·unfold dF at p;have X:lv o=false:=by grind
  have Y:nt o=false:=by grind
  rw [X,Y] at p;simp only [vL] at p;split at p
  ·rename_i f args argTypes q;simp only [bb,sL,Xl] at p;obtain ⟨⟨z,Z⟩,A⟩:=p;have H:aG st (.func f)= .fn f []:=rfl
   have u:dX C ops o st K=lC C ops o st K:=by
    grind[dX,nu]
   rw [u] at b;unfold lC at b
   cases g:jC st.s o.dst with
   |true=>grind
   |false=>
    rw [g] at b;simp only [aa] at b
    have hg:∀x,o.dst=some x->bD st x:=by
     intro x hx;rw [hx] at g;exact II h.size g
    rw [z] at b;have y:Region.wanted o (yielded ops a.tmps)=true:=by grind[Region.wanted]
    rw [aw y];unfold Oper.wp;have B:gG C.P st o=none:=by grind[gG]
    rw [B] at b;simp only [be,q,H,A,aa] at b;obtain ⟨L,b⟩:=b6 b;simp only [bb,db] at L;obtain ⟨e,hsz⟩:=L;have i:=aZ h (.func f);rw [H] at i;simp only [RepV] at i;obtain ⟨cv,D,k⟩:=i;unfold qg at e;split at e
    ·rename_i fn E;simp only [bb,nE] at e;refine Wk F (vs:=(args.map a.eval)++cv) h hg ?_ ?_ b G
     ·rw [sM,vN];exact (Ce h args.toList argTypes.toList (by omega)).append k
     ·have l:fn.body.isNone=false:=by simp_all
      have n:(fn.name== "runtime.NumGoroutine")=false:=by grind
      simp only [execOp,q,Sem.run_bind,resolve,D,Deferred.ofValue,Sem.run_pure,Result.andThen_ok,invoke,Array.empty_append,callFunc,run_program,E,n,l,dQ,aH]
    grind
  grind
end
def ia (o o'):=∀k v x,St.dH o k=some (v,x)->∃a b,St.dH o' k=some (a,b)/\v<=a/\(a=v->b=x)
theorem ia.refl (o):ia o o:=λk v x h=>⟨v,x,h,aR _,λ_=>rfl⟩
theorem ia.trans (h:ia o j) (k:ia j C):ia o C:=λi v x a=>by
 obtain ⟨b,c,d,e,f⟩:=h i v x a;obtain ⟨g,l,m,n,p⟩:=k i b c d
 grind
structure Agree (D:List Nat) (st st':St):Prop where
 len:∀i,st'.s.has i=st.s.has i
 get:∀d,d ∉ D->(st.get d).isGd=false->st'.get d=st.get d
 ob:ia st.o st'.o
theorem Agree.refl (D) (st):Agree D st st:=⟨λ_=>rfl,λ_ _ _=>rfl,ia.refl _⟩
theorem Agree.trans (h:Agree D st st1) (k:Agree D st1 j):Agree D st j:=
 ⟨λi=>(k.len i).trans (h.len i),λd hd a=>by rw [k.get d hd (by rw [h.get d hd a];exact a),h.get d hd a],h.ob.trans k.ob⟩
theorem Agree.mono (h:Agree D st st1) (a:∀d ∈ D,d ∈ j):Agree j st st1:=
 ⟨h.len,λd hd b=>h.get d (λc=>hd (a d c)) b,h.ob⟩
structure Obj (st st':St):Prop where
 s:st'.s=st.s
 ob:ia st.o st'.o
theorem Obj.refl (st):Obj st st:=⟨rfl,ia.refl _⟩
theorem Obj.trans (h:Obj st st1) (k:Obj st1 j):Obj st j:=⟨k.s.trans h.s,h.ob.trans k.ob⟩
theorem Obj.setO (st) (k) (o):Obj st (st.setO k o):=⟨rfl,λi v x a=>by
 grind[St.setO,Dc]⟩
theorem Obj.new (h:st.new k o=some st1):Obj st st1:=by
 unfold St.new at h
 cases a:(st.s.refs k || jz st.o k || o.refs k) with
 |true=>grind
 |false=>
  rw [a] at h;simp only [aa] at h;split at h
  ·rename_i b;simp only [aB] at h;subst h;refine ⟨rfl,λi v x c=>⟨v,x,?_,aR _,λ_=>rfl⟩⟩
   grind[St.dH,dD]
  all_goals grind[Obj.setO]
theorem Obj.del (st) (k):Obj st (st.del k):=Obj.setO _ _ _
theorem Obj.freeze (st) (k):Obj st (st.freeze k):=by
 grind[St.freeze,Obj.setO,Obj.refl]
theorem Obj.plain (h:st.plain p=some (q,st1)):Obj st st1:=by
 cases p <;>simp only [St.plain] at h <;>try (simp only [aB,aL] at h;rw [<-h.2];exact Obj.refl _)
 grind[Obj.setO,Obj.refl]
theorem Obj.plainL:∀{l j} {st st1},st.plainL l=some (j,st1)->Obj st st1
 | [],_,st,st1,h=>by grind[St.plainL,Obj.refl]
 |v::r,_,st,st1,h=>by
  simp only [St.plainL] at h;split at h
  ·rename_i C;split at h
   ·rename_i I;simp only [aB,aL] at h;rw [<-h.2];exact (Obj.plain C).trans (Obj.plainL I)
   grind
  grind
theorem Obj.JF :∀{l I} {i} {st st1},St.oO x i st l=some (I,st1)->Obj st st1
 | [],_,_,st,st1,h=>by grind[St.oO,Obj.refl]
 |v::r,_,i,st,st1,h=>by
  unfold St.oO at h
  cases C:(Nat.beq (i+1) (x % 1048576) || Nat.beq (i+1) (x / 1048576)) with
  |true=>
   rw [C] at h;simp only [ah] at h;split at h
   ·rename_i j;simp only [aB,aL] at h;rw [<-h.2];exact Obj.JF j
   grind
  |false=>
   rw [C] at h;simp only [aa] at h;split at h
   ·rename_i J;split at h
    ·rename_i j;simp only [aB,aL] at h;rw [<-h.2];exact (Obj.plain J).trans (Obj.JF j)
    grind
   grind
theorem Obj.alV (st) (p):Obj st (Fw.sk st p):=by
 cases p <;>simp only [Fw.sk] <;>try exact Obj.refl _
 ·grind[Obj.freeze]
 ·rename_i c
  have:∀ (l:List PV) (st),Obj st (l.foldl (λst v=>match v with| .own k=>st.freeze k|_=>st) st):=by
   intro l
   induction l with
   |nil=>grind[Obj.refl]
   |cons v r a=>
    grind[Obj.trans,Obj.freeze]
  exact this c st
theorem Obj.W9:∀ (l:List PV) (st),Obj st (l.foldl Fw.sk st)
 | [],st=>Obj.refl _
 |v::r,st=>by simp only [nK];exact (Obj.alV st v).trans (Obj.W9 r _)
theorem Obj.Xc (h:sy st k p=some (q,st1)):Obj st st1:=by
 cases p <;>simp only [Fw.sy] at h <;>try (simp at h;done)
 all_goals try (simp only [aB,aL] at h;rw [<-h.2];exact Obj.refl _)
 split at h
 ·rename_i a;simp only [aB,aL] at h;rw [<-h.2];exact (by first|exact Obj.new a|exact Obj.new (newNum_spec a))
 grind
theorem Obj.Xb:∀{l j} {st st1} {k},qk st k l=some (j,st1)->Obj st st1
 | [],_,st,st1,k,h=>by grind[Fw.qk,Obj.refl]
 |v::r,_,st,st1,k,h=>by
  simp only [Fw.qk] at h;split at h
  ·rename_i C;split at h
   ·rename_i I;simp only [aB,aL] at h;rw [<-h.2];exact (Obj.Xc C).trans (Obj.Xb I)
   grind
  grind
theorem Obj.Xa (h:sw st k p=some (q,st1)):Obj st st1:=by
 unfold Fw.sw at h
 grind[Obj.Xb,Obj.Xc]
theorem Obj.Xd:∀{l j} {st st1} {k},ql st k l=some (j,st1)->Obj st st1
 | [],_,st,st1,k,h=>by grind[Fw.ql,Obj.refl]
 |v::r,_,st,st1,k,h=>by
  simp only [Fw.ql] at h;split at h
  ·rename_i C;split at h
   ·rename_i I;simp only [aB,aL] at h;rw [<-h.2];exact (Obj.Xa C).trans (Obj.Xd I)
   grind
  grind
theorem Obj.alW (h:su st d p=some (q,st1)):Obj st st1:=by
 unfold Fw.su at h
 grind[Obj.Xd,Obj.Xa]
section
variable {R:Type} {K K':St->Option R} {st:St} {o:Oper}
def Same (st:St) (d:Option Nat) (K K':St->Option R):=∀st1 v,Obj st st1->K (st1.put d v)=K' (st1.put d v)
theorem akN (C) (f) (args) (h:Same st o.dst K K'):ss C f args o.dst st K=ss C f args o.dst st K':=by
 unfold ss;split
 ·rename_i as d has hd;congr 1;funext r _;split
  ·rename_i v st1 a
   have:=h st1 v (Obj.trans (by
    grind[Obj.refl,Obj.W9]) (Obj.alW a))
   rw [hd] at this;exact this
  ·rfl
 ·rfl
theorem Ik (hd:o.dst=some d) (h:Same st o.dst K K'):oG c d st K=oG c d st K':=by
 unfold oG;split
 ·rename_i st1 a;have b:=λv=>h st1 v ((by first|exact Obj.new a|exact Obj.new (newNum_spec a)))
  rw [hd] at b;exact b _
 ·rfl
theorem aiT (h:Same st o.dst K K'):xN P t j v st (λst=>K (st.put o.dst .undef))=xN P t j v st (λst=>K' (st.put o.dst .undef)):=by
 unfold xN;split
 ·split
  ·split
   ·split
    ·exact h _ _ (Obj.setO _ _ _)
    ·rfl
   ·rfl
  ·split
   ·rename_i a;split
    ·split
     ·split
      ·exact h _ _ ((Obj.plainL a).trans (Obj.setO _ _ _))
      ·rfl
     ·rfl
    ·split
     ·split
      ·exact h _ _ ((Obj.plainL a).trans (Obj.setO _ _ _))
      ·rfl
     ·rfl
    ·rfl
   ·rfl
  ·split
   ·rename_i a;split
    ·split
     ·split
      ·exact h _ _ ((Obj.plainL a).trans (Obj.setO _ _ _))
      ·rfl
     ·rfl
    ·rfl
   ·rfl
  ·rfl
 ·rfl
theorem Wv (h:Same st o.dst K K'):vl P e b x o.dst st K=vl P e b x o.dst st K':=by
 unfold vl;split
 ·rename_i d t z hd _;have fin:=λst1 v c=>by have:=h st1 v c;rw [hd] at this;exact this
  split
  ·split
   ·split
    ·split
     ·congr 1;split
      ·rename_i a;exact fin _ _ ((Obj.del _ _).trans (Obj.new (newNum_spec a)))
      ·rfl
     ·rfl
    ·rfl
   ·rfl
  ·split
   ·congr 1;congr 1;split
    ·rename_i a;exact fin _ _ (Obj.new (newNum_spec a))
    ·rfl
   ·rfl
  ·rfl
 ·rfl
theorem UK (same:∀v,K (st.put d v)=K' (st.put d v)):∀l,rW q d st K l=rW q d st K' l
 | []=>same _
 |e::r=>by
  unfold rW;rw [same,UK same r]
theorem WH (C:Ctx) (h:Same st o.dst K K'):be C o st K=be C o st K':=by
 have same:∀v,K (st.put o.dst v)=K' (st.put o.dst v):=λv=>h st v (Obj.refl _)
 unfold be;cases l:o.op <;>try rfl
 all_goals try simp only
 case lookup t x y ok=>
  congr 1
  ·unfold CE
   grind[UK]
  grind[Iq]
 case entry x=>
  unfold I4
  grind
 case next x b=>
  cases b with
  |true=>rfl
  |false=>
   simp only;unfold Ij;split
   ·split
    ·congr 1
     ·grind
     ·congr 1;funext e r;exact h _ _ (Obj.setO _ _ _)
    ·rfl
   ·rfl
 case range t x=>
  unfold HZ;split
  ·rename_i hd;split
   ·split
    ·rename_i a;have g:=λv=>h _ v ((by first|exact Obj.new a|exact Obj.new (newNum_spec a)))
     rw [hd] at g;exact g _
    ·rfl
   ·rfl
  ·rename_i hd;split
   ·split
    ·split
     ·rename_i a;have g:=λv=>h _ v ((Obj.del _ _).trans ((by first|exact Obj.new a|exact Obj.new (newNum_spec a))))
      rw [hd] at g;exact g _
     ·rfl
    ·rfl
   ·rfl
  ·rfl
 case makeMap t r=>
  cases r with
  |none=>
   simp only;congr 1
   ·unfold CD;split
    ·rename_i d hd;split
     ·rename_i a;have g:=λv=>h _ v ((by first|exact Obj.new a|exact Obj.new (newNum_spec a)))
      rw [hd] at g;exact g _
     ·rfl
    ·rfl
   unfold Io;split
   ·rename_i q d m hd;split
    ·rename_i a;have g:=λv=>h _ v ((by first|exact Obj.new a|exact Obj.new (newNum_spec a)))
     rw [hd] at g;exact g _
    ·rfl
   ·rfl
  |some r=>rfl
 case mapUpdate t x y z=>
  unfold xT;split
  ·split
   ·split
    ·exact h _ _ (Obj.setO _ _ _)
    ·rfl
   ·rfl
  ·rfl
 case mapEntry t x y=>
  unfold Im;split
  ·split
   ·split
    ·congr 1;exact h _ _ (Obj.setO _ _ _)
    ·rfl
   ·rfl
  ·rfl
 case entryStore t x y z=>
  unfold I3;split
  ·split
   ·split
    ·congr 1;exact h _ _ (Obj.setO _ _ _)
    ·rfl
   ·rfl
  ·rfl
 case insert t x y z=>
  congr 1
  ·unfold xR;split
   ·split
    ·congr 1;exact h _ _ (Obj.setO _ _ _)
    ·rfl
   ·rfl
  unfold xT;split
  ·split
   ·split
    ·exact h _ _ (Obj.setO _ _ _)
    ·rfl
   ·rfl
  ·rfl
 case pick=>grind
 case binOp=>simp_all
 case indexAddr=>simp only [IH,same]
 case index=>simp_all
 case alloc t=>
  split
  ·rename_i d c hd _;have fin:∀st1 v,Obj st st1->K (st1.set d v)=K' (st1.set d v):=λst1 v i=>by have:=h st1 v i;rw [hd] at this;exact this
   split
   ·split
    ·split
     ·split
      ·rename_i a;exact fin _ _ ((by first|exact Obj.new a|exact Obj.new (newNum_spec a)))
      ·rfl
     ·rfl
    grind[Ik]
   grind[Ik]
  ·rfl
 case box=>
  grind[Ik]
 case build=>grind
 case buildSlice t n j=>
  split
  ·rename_i e d s hd;have fin:∀st1 v,Obj st st1->K (st1.set d v)=K' (st1.set d v):=λst1 v i=>by have:=h st1 v i;rw [hd] at this;exact this
   split
   ·split
    ·split
     ·split
      ·rename_i k;split
       ·split
        ·rename_i a;exact fin _ _ ((Obj.plainL k).trans ((by first|exact Obj.new a|exact Obj.new (newNum_spec a))))
        ·rfl
       ·rfl
      ·rfl
     ·rfl
    ·rfl
   ·rfl
  ·rfl
 case store=>exact aiT h
 case makeSlice t n c=>
  split
  ·rename_i e d _ _ _ hd _ _;have fin:∀st1 v,Obj st st1->K (st1.set d v)=K' (st1.set d v):=λst1 v i=>by have:=h st1 v i;rw [hd] at this;exact this
   split
   ·congr 1;split
    ·rename_i a;exact fin _ _ ((by first|exact Obj.new a|exact Obj.new (newNum_spec a)))
    ·rfl
   ·rfl
  ·rfl
 case slice t x u w mx=>
  split
  ·grind
  congr 1
  ·unfold CH;split
   ·rename_i hd _;split
    ·split
     ·congr 1;split
      ·rename_i a;have g:=λv=>h _ v ((Obj.del _ _).trans ((by first|exact Obj.new a|exact Obj.new (newNum_spec a))))
       rw [hd] at g;exact g _
      ·rfl
     ·rfl
    ·rfl
   ·rfl
  congr 1
  ·unfold Cf
   simp_all
  split
  ·rename_i p st1 k;have:(λv=>K (st1.put o.dst v))=λv=>K' (st1.put o.dst v):=funext λv=>h st1 v (Obj.plain k)
   grind
  ·rfl
 case convert=>
  split
  ·grind
  ·grind
  ·split
   ·congr 1;unfold I9;split
    ·split
     ·congr 1;exact h _ _ (Obj.setO _ _ _)
     ·rfl
    ·rfl
   ·rfl
  ·rfl
 case call c=>
  obtain ⟨callee,args,argTypes⟩:=c
  cases callee with
  |builtin b=>
   cases b <;>try rfl
   all_goals simp only
   case append=>
    split
    ·split
     ·exact Wv h
     ·exact Wv h
     ·unfold Dm;split
      ·rename_i hd _;split
       ·congr 1;split
        ·rename_i a;have g:=λv=>h _ v ((by first|exact Obj.new a|exact Obj.new (newNum_spec a)))
         rw [hd] at g;exact g _
        ·rfl
       ·rfl
      ·rfl
     ·rfl
    ·rfl
   case clear=>
    split
    ·split
     ·unfold Ja;split
      ·split
       ·split
        ·split
         ·congr 1;exact h _ _ (Obj.setO _ _ _)
         ·rfl
        ·rfl
       ·rfl
      ·rfl
     ·rfl
    ·rfl
   case copy=>
    split
    ·split
     ·unfold I8;split
      ·split
       ·split
        ·split
         ·congr 1;exact h _ _ (Obj.setO _ _ _)
         ·rfl
        ·rfl
       ·rfl
      ·rfl
     ·rfl
    ·rfl
   grind[Is]
  |value f=>
   simp only;split
   ·congr 1
    ·unfold IU
     grind
    grind[akN]
   ·rfl
  |invoke _ _=>rfl
end
section
variable {R:Type} {K K':St->Option R} {st:St} {o:Oper}
theorem Agree.put (h:Obj st st1) (hd:∀x,d=some x->x ∈ D) (v):Agree D st (st1.put d v):=by
 cases d with
 |none=>exact ⟨λi=>by rw [St.put,h.s],λi _ _=>by simp only [St.put,St.get,h.s],h.ob⟩
 |some d=>
  refine ⟨λi=>by simp only [St.put,St.set,C5,h.s],λi hi _=> ?_,h.ob⟩;have:(St.set st1 d v).get i=if i=d/\st1.s.has d=true then v else st1.get i:=qd _ _ _ _
  simp only [St.put];rw [this,ak (λhh:i=d/\st1.s.has d=true=>hi (hh.1 ▸ hd d rfl))];simp only [St.get,h.s]
theorem ala (st) (s) (w):Agree D st ⟨st.s.map (ungd1 s w),st.o⟩:=by
 refine ⟨λi=>VD _ _ _,λd _ hg=> ?_,ia.refl _⟩;have:(St.get ⟨st.s.map (ungd1 s w),st.o⟩ d)=ungd1 s w (st.get d):=ye _ rfl _ _;rw [this];cases hp:st.get d <;>rw [hp] at hg <;>simp [ungd1] <;>simp [PV.isGd] at hg
theorem WD (st):Agree D st st.ungd:=by
 refine ⟨λi=>VC _ _,λd _ hg=> ?_,ia.refl _⟩;have:(St.get st.ungd d)=Fw.ungd (st.get d):=ye _ rfl _ _;rw [this];cases hp:st.get d <;>rw [hp] at hg <;>simp [Fw.ungd] <;>simp [PV.isGd] at hg
theorem Jo (st) (a:s ∈ D) (v):Agree D st (st.set s v):=Agree.put (Obj.refl st) (d:=some s) (λx b=>by grind) v
structure Slots (D:List Nat) (ops:Array Oper) (o:Oper):Prop where
 dst:∀x,o.dst=some x->x ∈ D
 guard:∀j w,o.guard=some (j,w)->∀s,(ops[j]?).bind (·.dst)=some s->s ∈ D
 all:∀o' ∈ ops.toList,∀x,o'.dst=some x->x ∈ D
theorem IY (f:∀o' ∈ ops.toList,∀x,o'.dst=some x->x ∈ D):∀ (n s) (_:s ∈ D) (w) (st) {a C b I:St->Option R},
 (∀j,Agree D st j->a j=C j)->(∀j,Agree D st j->b j=I j)->oK ops n s w st a b=oK ops n s w st C I
 |0,_,_,_,_,_,_,_,_,_,_=>rfl
 |n+1,s,g,w,st,a,C,b,I,U,h2=>by
  unfold oK;split
  ·congr 1
   ·exact U _ ((Jo st g _).trans (ala _ s w))
   grind[Jo]
  ·rename_i J w1 q hq
   cases hb:ops.toList.any (λo=>mn o.dst J) with
   |false=>rfl
   |true=>
    simp only [ah];obtain ⟨o',ho',hd⟩:=qB.1 hb
    have c:J ∈ D:=by
     unfold mn at hd
     grind[dD]
    exact IY f n J c w1 st (λst1 h=>IY f n s g w st1 (λd e=>U _ (h.trans e)) (λd e=>h2 _ (h.trans e))) h2
  ·rfl
theorem V1 (C) (a:Slots D ops o) (h:∀I,Agree D st I->K I=K' I):lC C ops o st K=lC C ops o st K':=by
 unfold lC;congr 1;split
 ·split
  ·exact h _ (Agree.put (Obj.refl _) a.dst _)
  ·exact WH C λst1 v b=>h _ (Agree.put b a.dst v)
 ·rename_i j w e;split
  ·rename_i s f;have c:=a.guard j w e s f;congr 1;split
   ·exact h _ (Agree.put (Obj.refl _) a.dst _)
   ·exact IY (D:=D) a.all 6 s c w st (λst1 d=>WH C λg v b=>h _ (d.trans (Agree.put b a.dst v))) (λst1 d=>h _ (d.trans (Agree.put (Obj.refl _) a.dst _)))
  ·rfl
def _root_.Go.Fw.Ctx.nC (C:Ctx):=∀ (g) (as) (st) (R) (K K':PV->St->Option R),(∀v st1,Obj st st1->K v st1=K' v st1)->C.inl g as st K=C.inl g as st K'
def _root_.Go.Fw.Ctx.Sound (C:Ctx):=C.oQ/\C.nC
theorem IW (C) (b:C.nC) :∀ (l) (st),(∀o ∈ l,Slots D ops o)->(∀j,Agree D st j->K j=K' j)->nw C ops l st K=nw C ops l st K'
 | [],st,_,h=>h st (Agree.refl _ _)
 |o::l,st,a,h=>by
  simp only [nw];split
  ·refine b _ _ _ _ _ _ λv st1 c=> ?_
   congr 1;exact IW C b l _ (λo d=>a o (by grind)) λI J=>h I ((Agree.put c (a o (by simp)).dst _).trans J)
  ·exact V1 C (a o (by simp)) λst1 c=>IW C b l st1 (λo d=>a o (by grind)) λI J=>h I (c.trans J)
theorem amb (h:∀i,f i=g i) (l:List Nat):kx f l=kx g l:=by rw [funext h]
theorem V4 (C) (a:C.nC) (b:Slots D ops o) (h:∀j,Agree D st j->K j=K' j):dX C ops o st K=dX C ops o st K':=by
 unfold dX;split
 ·refine a _ _ _ _ _ _ λv st1 c=> ?_
  congr 1;exact h _ (Agree.put c b.dst _)
 grind[V1]
theorem V5 (C) (c:C.nC) (d:∀ (i:Nat) (o),ops[i]?=some o->Slots D ops o):∀ (n) (a) (st),(∀j,Agree D st j->K j=K' j)->kn C ops n a st K=kn C ops n a st K'
 |0,a,st,h=>by
  grind[kn,Agree.refl]
 |n+1,a,st,h=>by
  unfold kn
  have one:∀ (i) (o),ops[i]?=some o->(dX C ops o st λst=>kn C ops n (a.set i true) st K)=dX C ops o st λst=>kn C ops n (a.set i true) st K':=λi o e=>
   V4 C c (d i o e) λst1 f=>V5 C c d n _ st1 λb g=>h b (f.trans g)
  split
  all_goals grind[Agree.refl]
end
end Go.Fw
