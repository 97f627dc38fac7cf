/- Part 11: lemmas that the last text needs. -/
import Derived.Test.YtkihadlgknhpkaaGreatDoorX10
import Derived.Test.YtkihadlgknhpkaaGreatDoorX2
set_option linter.all false
set_option autoImplicit true
set_option relaxedAutoImplicit true
namespace Go.Fw
noncomputable def mo (P:Program) (o:Oper) (a:St):Option St:=match o.op with
 | .insert _ (.tmp m) (.const (.int .u64 q)) (.tmp v)=>(match a.get m,a.get v with
   | .mown n,.ptr k off=>(match a.obj n with
     |some (.pm l)=>bif l.any λe=>decide (e.1=q) then none else some (a.setO n (.pm (iB l q (k,off))))
     |_=>none)
   |_,_=>none)
 |_=>none
theorem C0 (h:gH P o=some (m,q)):∃t v,o.op= .insert t (.tmp m) (.const (.int .u64 q)) (.tmp v)/\lr P t=true/\o.dst=none/\o.guard=none/\(Lit.int .u64 q).wf=true:=by
 grind[gH,Option.isNone_iff_eq_none]
theorem V3 (h:gH C.P o=some (m,q)) (a) (K:St->Option R):
 dX C ops o a K=match mo C.P o a with|some j=>K j|none=>none:=by
 obtain ⟨t,v,b,c,hd,f,d⟩:=C0 h;have g:nu C a o=none:=by grind[nu]
 have i:gG C.P a o=none:=by grind[gG]
 unfold dX;rw [g];simp only;unfold lC;rw [hd,f];simp only [jC,aa,i,be,b,c,ah,aG,d,hd,mo];unfold xR;cases p:a.get m <;>try rfl
 rename_i n;cases s:a.get v <;>try rfl
 rename_i k off;simp only
 cases u:a.obj n with
 |none=>rfl
 |some ob=>
  cases ob <;>try rfl
  rename_i l;simp only;cases l.any λe=>decide (e.1=q) <;>rfl
theorem If (p q) (v):∀l,((iB l p v).any λe=>decide (e.1=q))=(decide (p=q) || l.any λe=>decide (e.1=q))
 | []=>by simp [iB]
 |e::r=>by
  unfold iB
  cases decide (p<e.1) with
  |true=>simp
  |false=>
   simp only [aa,List.any_cons,If p q v r]
   grind
theorem UM (a:p≠q) (v w):∀l,iB (iB l p v) q w=iB (iB l q w) p v
 | []=>by
   grind[iB]
 |e::r=>by
  have j:=UM a v w r
  grind[iB]
theorem Uz (k) (a j b):∀l,St.lG (St.lG l k a) k b=St.lG (St.lG l k j) k b
 | []=>rfl
 | (i,v,o)::r=>by
   simp only [St.lG]
   cases h:Nat.beq i k with
   |true=>simp [St.lG,h]
   |false=>simp [St.lG,h,Uz k a j b r]
theorem VK (a:St) (k) (o) (i):(a.setO k o).get i=a.get i:=rfl
theorem akb (w:gH P J=some (m,p)) (x:gH P U=some (m,q)) (f:p≠q) (d:mo P J I=some y) (a:mo P U y=some s2):
 ∃j,mo P U I=some j/\mo P J j=some s2:=by
 obtain ⟨F,G,b,_⟩:=C0 w;obtain ⟨H,K,g,_⟩:=C0 x;simp only [mo,b] at d;split at d
 ·rename_i n k off t z;split at d
  ·rename_i l L
   cases u:l.any λe=>decide (e.1=p) with
   |true=>grind
   |false=>
    rw [u] at d;simp only [aa,aB] at d;subst d;have c:∀A,(I.setO n A).obj n=some A:=λA=>by grind[gR]
    simp only [mo,g,VK,t,c] at a;split at a
    ·rename_i M B i v D;simp only [PV.mown.injEq] at v;subst v;rw [c] at a;simp only at a;rw [If] at a;have s:=aq f;rw [s,vL] at a
     cases E:l.any λe=>decide (e.1=q) with
     |true=>grind
     |false=>
      rw [E] at a;simp only [aa,aB] at a;subst a;refine ⟨I.setO n (.pm (iB l q (B,i))),?_,?_⟩
      ·grind[mo]
      ·have o:decide (q=p)=false:=aq λh=>f h.symm
       simp only [mo,b,VK,t,z,c,If,o,vL,u,aa]
       grind[UM,St.setO,Uz]
    grind
  grind
 grind
theorem WB {R α} {f} {r:R}:∀{l:List α},kx f l=some r->∀i ∈ l,f i=some r
 | [],h,_,_=>by grind
 | [i],h,j,J=>by simp at J;subst J;exact h
 |i::j::l,h,k,I=>by
  obtain ⟨U,h2⟩:=Jg (show aj (f i) (kx f (j::l))=some r from h);rcases a8.1 I with rfl|I
  ·exact U
  ·exact WB h2 k I
noncomputable def sg (P:Program) (ops:Array Oper) (i:Nat) (a:St):Option St:=match ops[i]? with|some o=>mo P o a|none=>none
noncomputable def lA (P:Program) (ops:Array Oper):List Nat->St->Option St
 | [],j=>some j
 |i::r,j=>match sg P ops i j with|some s=>lA P ops r s|none=>none
structure Ins (P:Program) (ops:Array Oper) (m:Nat) (T:List Nat):Prop where
 is:∀i ∈ T,∃o q,ops[i]?=some o/\gH P o=some (m,q)
 ne:∀i ∈ T,∀j ∈ T,i≠j->∀o o' q q',ops[i]?=some o->ops[j]?=some o'->gH P o=some (m,q)->gH P o'=some (m,q')->q≠q'
theorem Ins.sub (h:Ins P ops m T) (a:∀i ∈ I,i ∈ T):Ins P ops m I:=
 ⟨λi b=>h.is i (a i b),λi b j c=>h.ne i (a i b) j (a j c)⟩
theorem Vw :∀{T} {b s} {x},Ins P ops m T->x ∈ T->lA P ops T b=some s->∃d,sg P ops x b=some d/\lA P ops (T.erase x) d=some s
 | [],_,_,_,_,j,_=>by grind
 |a::r,b,s,x,h,j,I=>by
  by_cases J:a=x
  ·grind[lA]
  ·have U:x ∈ r:=by
    grind
   simp only [lA] at I;split at I
   ·rename_i t e;obtain ⟨n,f,u⟩:=Vw (h.sub λi o=>iL _ o) U I;obtain ⟨v,p,g1,g⟩:=h.is a (by simp);obtain ⟨w,q,k,l⟩:=h.is x j;have c:=h.ne a (by simp) x j J _ _ _ _ g1 k g l;simp only [sg,g1] at e;simp only [sg,k] at f;obtain ⟨y,z,A⟩:=akb g l c e f
    grind[sg,lA]
   grind
def uS (lm:Nat):List Nat->Nat
 | []=>lm
 |i::r=>uS (Nat.lor lm (2^i)) r
theorem ajJ (a b c):Nat.lor (Nat.lor a b) c=Nat.lor (Nat.lor a c) b:=by
 show (a ||| b) ||| c=(a ||| c) ||| b
 grind
theorem Ip:∀{T} {lm x},x ∈ T->uS (Nat.lor lm (2^x)) (T.erase x)=uS lm T
 | [],_,_,J=>by grind
 |a::r,lm,x,J=>by
  by_cases j:a=x
  ·subst j;rw [List.erase_cons_head];rfl
  ·have I:x ∈ r:=by
    grind
   rw [List.erase_cons_tail (by grind)];simp only [uS];rw [ajJ];exact Ip I
theorem UE :∀{l} {i} {t} {x},x ∈ eh lm i l t->∃j,x.1=i+j/\l[j]?=some x.2.1
 | [],i,t,x,h=>by grind[eh]
 |o::r,i,[],x,h=>by grind[eh]
 |o::r,i,[_],x,h=>by grind[eh]
 |o::r,i,d::c::t,x,h=>by
  unfold eh at h
  have rest:x ∈ eh lm (i+1) r t->∃j,x.1=i+j/\(o::r)[j]?=some x.2.1:=λa=>by
   obtain ⟨j,e,f⟩:=UE a;exact ⟨j+1,by omega,by grind⟩
  cases b:(Nat.beq (Nat.land lm (2^i)) 0 && Nat.beq (Nat.land d lm) d) with
  |true=>
   rw [b,ah,a8] at h;rcases h with rfl|h
   all_goals grind
  |false=>grind
theorem HW {ops:Array Oper} (h:x ∈ eh lm 0 ops.toList t):ops[x.1]?=some x.2.1:=by
 grind[UE]
section
variable {C:Ctx} {R:Type} {ops:Array Oper} {tab:List Nat} {r:R} {m:Nat}
theorem ID (h:qc C.P ops tab m (n+1) lm T=true):
 (eh lm 0 ops.toList tab).map (·.1)=T/\(∀x ∈ eh lm 0 ops.toList tab,∃q,gH C.P x.2.1=some (m,q))/\∀i ∈ T,qc C.P ops tab m n (Nat.lor lm (2^i)) (T.erase i)=true:=by
 grind[qc,dD]
theorem Vv :∀ (j) {n lm} {T} {a},T.length=j->qc C.P ops tab m j lm T=true->gl C ops tab n j lm a K=some r->
 ∃s,j<=n/\lA C.P ops T a=some s/\gl C ops tab (n - j) 0 (uS lm T) s K=some r
 |0,n,lm,T,a,J,h,I=>by
  have:=JV J;subst this;exact ⟨a,gK _,rfl,I⟩
 |j+1,n,lm,T,a,J,h,I=>by
  obtain ⟨o,e,f⟩:=ID h
  have g:eh lm 0 ops.toList tab≠ []:=λd=>by
   grind
  cases n with
  |zero=>
   grind[gl]
  |succ n=>
  unfold gl at I
  cases d:eh lm 0 ops.toList tab with
  |nil=>grind
  |cons x xs=>
   rw [d] at I;simp only at I;have b:x ∈ eh lm 0 ops.toList tab:=by grind
   obtain ⟨q,i⟩:=e x b
   have k:T=x.1::T.erase x.1:=by
    grind
   have c:x.1 ∈ T:=by grind
   rw [V3 i] at I;split at I
   ·rename_i p l;obtain ⟨s,t,u,v⟩:=Vv j (T:=T.erase x.1) (by grind) (f _ c) I
    grind[lA,sg,HW,Ip]
   grind
theorem Vy :∀{L},yc P L=true->L.Pairwise λx y=>∀m m' p q,gH P x.2.1=some (m,p)->gH P y.2.1=some (m',q)->p≠q
 | [],_=>List.Pairwise.nil
 |x::r,h=>by
  unfold yc at h;simp only [bb,gU] at h;refine List.Pairwise.cons (λy a m m' p q b c=> ?_) (Vy h.2)
  grind
end
section
variable {C:Ctx} {ops:Array Oper} {tab:List Nat} {mm:Nat} {m:MM} {w0:World} {Q:Exit->Act->World->Prop}
theorem UF (a:Mask ops lm j) (b:oE ops 0 ops.toList tab=true) (c:i ∈ gk ops j):∃x ∈ eh lm 0 ops.toList tab,x.1=i:=by
 grind[Cz]
theorem aj7 {m} (h:gH C.P o=some (m,q)):dF C o=false:=by
 grind[C0,dF,lv,nt]
theorem Vt (v:C.oQ) (l:Region.noSelect ops=true) (D:∀E a w,¬Q (.panic E) a w) (x:C.GlobM m w0) (z:oE ops 0 ops.toList tab=true) :∀ (j:Nat) {lm:Nat} {b:List Bool} {T:List Nat} {g:St} {a:Act} {c:Cx},
 Mask ops lm b->T.length=j->qc C.P ops tab mm j lm T=true->Ins C.P ops mm T->lA C.P ops T g=some s->Rep m w0 g a c->
 (∀ (I:List Bool) (U:Act) (c':Cx),Mask ops (uS lm T) I->Rep m w0 s U c'->eE C.P (dF C) ops Q (Kept m.w w0) n I.toArray U c'.w)->
 eE C.P (dF C) ops Q (Kept m.w w0) (n+j) b.toArray a c.w
 |0,lm,b,T,g,a,c,hM,hT,h,hi,hs,J,hk=>by
  have:T= []:=JV hT;subst this;simp only [lA,aB] at hs;subst hs;exact hk _ _ _ hM J
 |j+1,lm,b,T,g,a,c,hM,hT,h,hi,hs,J,hk=>by
  obtain ⟨N,F,G⟩:=ID h;have H:gk ops b=T:=by grind[Cz]
  show eE C.P (dF C) ops Q (Kept m.w w0) ((n+j)+1) b.toArray a c.w;refine Uf rfl (λO=> ?_) (λi L=> ?_)
  ·grind[gk]
  ·have p:i ∈ gk ops b:=by grind[gk]
   obtain ⟨y,A,rfl⟩:=UF hM z p;have k:y.1 ∈ T:=by grind
   have d:=HW A;obtain ⟨q,S⟩:=F y A;obtain ⟨V,g1,W⟩:=Vw hi k hs;simp only [sg,d] at g1;unfold wpOp;rw [d];simp only;have t:y.1<ops.size:=(gM.1 d).1
   open Classical in
   let K:St->Option Unit:=λe=>if lA C.P ops (T.erase y.1) e=some s then some () else none
   have u:dX C ops y.2.1 g K=some ():=by
    grind[V3]
   have key:=Dg (Q:=Q) (next:=λU w'=>(Kept m.w w0 w'/\∀o,ops[y.1]?=some o->dF C o=true->Kept (λ_=>False) c.w w')/\eE C.P (dF C) ops Q (Kept m.w w0) (n+j) (b.set y.1 true).toArray U w') ⟨v,x⟩ (ops:=ops) J u (λe U c' M B=>by
    have f:lA C.P ops (T.erase y.1) e=some s:=by
     grind
    refine ⟨⟨B.kept,λo X f=>absurd f (by grind[aj7])⟩,Vt v l D x z j (hM.set t) (by grind) (G _ k) (hi.sub λi hi=>List.mem_of_mem_erase hi) f B ?_⟩
    grind[Ip])
   grind
theorem Ins.of (g:∀x ∈ L,ops[x.1]?=some x.2.1) (k:yc C.P L=true) (w:∀x ∈ L,∃q,gH C.P x.2.1=some (mm,q)):Ins C.P ops mm (L.map (·.1)):=by
 refine ⟨λi l=> ?_,λi l j z c o o' q A d e B D=> ?_⟩
 ·grind
 ·obtain ⟨x,n,rfl⟩:=iK.1 l;obtain ⟨y,s,rfl⟩:=iK.1 z;rw [g x n] at d;rw [g y s] at e;simp only [aB] at d e;subst d;subst e;have t:=Vy k
  let u:(Nat×Oper×Nat)->(Nat×Oper×Nat)->Prop:=λx y=>x≠y->∀m m' p q,gH C.P x.2.1=some (m,p)->gH C.P y.2.1=some (m',q)->p≠q
  have p1:L.Pairwise u:=t.imp (by grind);have p2:L.Pairwise (flip u):=t.imp (by intro a b h _ m m' p q k w v;grind);have this:=List.Pairwise.forall_of_forall_of_flip (λx _ f=>absurd rfl f) p1 p2 n s;have this:=this (λv=>c (by rw [v]))
  grind
theorem aiM (V:C.oQ) (A:Region.noSelect ops=true) (W:∀N a w,¬Q (.panic N) a w) (X:C.GlobM m w0) (h:Rep m w0 O a c)
 (B:ops[i]?=some o) (S:i ∈ gk ops d) (f:rP C.P ops d O i=true) (D:dX C ops o O K=some r)
 (Y:∀I J U,C.GlobM ⟨dx c,c.ok,c.pin⟩ c.w->K I=some r->Rep ⟨dx c,c.ok,c.pin⟩ c.w I J U->eE C.P (dF C) ops Q (Kept (dx c) c.w) n (d.set i true).toArray J U.w):
 eE C.P (dF C) ops Q (Kept m.w w0) (n+1) d.toArray a c.w:=by
 unfold rP at f;rw [B] at f;simp only [bb,mE] at f D;rw [V2 C ops f.1] at D;have Z:=h.here;have t:C.GlobM ⟨dx c,c.ok,c.pin⟩ c.w:=X.here h
 have key:=yi (Q:=Q) (next:=λJ w'=>eE C.P (dF C) ops Q (Kept (dx c) c.w) n (d.set i true).toArray J w') ⟨V,t⟩ (ops:=ops) Z D (λI J U g h'=>
  Y I J U t g h')
 have u:∀w',Kept (dx c) c.w w'->∀b,c.ok b->w'.heap[b]?=c.w.heap[b]?:=λw' g b T=>g.block b (h.ok _ T) (by
  rintro ⟨k,g,rfl⟩;exact (h.mine k g).1 T)
 have E:∃v,YieldsIf C.P ops (Kept (dx c) c.w) o v a/\eE C.P (dF C) ops Q (Kept (dx c) c.w) n (d.set i true).toArray (a.put o.dst v) c.w:=by
  by_cases y:Region.wanted o (yielded ops a.tmps)=true
  ·rw [aw y] at key;unfold Oper.wp at key
   have fin:∀v,(∀w',Kept (dx c) c.w w'->(execOp a.eval o).run C.P w'= .ok (.value v) w')->∃v,YieldsIf C.P ops (Kept (dx c) c.w) o v a/\eE C.P (dF C) ops Q (Kept (dx c) c.w) n (d.set i true).toArray (a.put o.dst v) c.w:=by
    intro v q;rw [q c.w (Kept.refl _ _),Oper.upon_value] at key;exact ⟨v,.inl ⟨y,q⟩,key⟩
   rcases f.1 with F|e
   ·obtain ⟨s1,s2⟩:=Il (P:=C.P) F a.eval
    cases l:(execOp a.eval o).run C.P c.w with
    |halt x w1=>
     rw [l] at key;cases x <;>simp only [Oper.upon] at key
     grind
    |ok nx w1=>
     obtain ⟨v,rfl⟩:=s2 _ _ _ l;exact fin v (λw' _=>(s1 _ _ _ l).2 w')
   ·unfold uT at e
    cases G:o.guard with
    |none=>
     rw [G] at e;obtain ⟨v,q⟩:=Co h e;exact fin v (λw' g=>q w' (u w' g) g.size)
    |some jw=>
     obtain ⟨j,wb⟩:=jw;rw [G] at e;simp only at e
     cases z:(ops[j]?).bind (·.dst) with
     |none=>grind
     |some s=>
      rw [z] at e;simp only at e
      have p:a.tmps.getD s undef= .bool wb:=by
       simp only [Region.wanted,G,yielded,z,ai] at y;rw [oV]
       grind
      obtain ⟨v,q⟩:=Co (xK h p) e;exact fin v (λw' g=>q w' (u w' g) g.size)
  ·rw [ak y] at key;exact ⟨undef,.inr ⟨by grind,rfl⟩,key⟩
 obtain ⟨v,E,hnx⟩:=E;refine Hy (S':=Kept (dx c) c.w) (λw g=>Kept.from h g) _ _ _ _ ?_;refine Ue False B (Region.noSelect_spec A) (λN a w hp=>absurd hp (W _ _ _)) n d.toArray a c.w (λj oj hj H L M=>⟨Region.free_spec B f.2 j oj hj H L M,λhf=>hf.elim⟩) (by grind[gk]) (Uc (λw z=>z.1) E) (Kept.refl _ _) ?_
 grind
theorem UH :∀ (l) (b),CB C lm i b l=true->∀ (j) (a),l[j]?=some a->lm.testBit (b+j)=false->b+j≠i->(∀e ∈ a.after,Region.binds .any e=true->e.on≠i)->dF C a=true
 | [],_,_,j,a,J,_,_,_=>by grind
 |o::r,b,h,j,a,J,hb,U,I=>by
  unfold CB at h;rw [bb] at h
  cases j with
  |succ j=>exact UH r (b+1) h.2 j a (by grind) (by grind) (by omega) I
  |zero=>
   grind[Vk,dD]
theorem ajM (O:C.oQ) (u:Region.noSelect ops=true) (S:∀E a w,¬Q (.panic E) a w) (T:C.GlobM m w0) (h:Rep m w0 F a c)
 (G:Mask ops lm b) (y:ops[x.1]?=some x.2.1/\x.2.2=nz ops x.2.1 x.1 0 ops.toList/\x.1<ops.size) (H:x.1 ∈ gk ops b) (e:xW C ops lm F x=true) (V:dX C ops x.2.1 F K=some r)
 (W:∀I J U,C.GlobM ⟨dx c,c.ok,c.pin⟩ c.w->K I=some r->Rep ⟨dx c,c.ok,c.pin⟩ c.w I J U->eE C.P (dF C) ops Q (Kept (dx c) c.w) n (b.set x.1 true).toArray J U.w):
 eE C.P (dF C) ops Q (Kept m.w w0) (n+1) b.toArray a c.w:=by
 unfold xW at e;simp only [bb] at e;obtain ⟨L,g,d,X⟩:=e;rw [VP G y] at g;have Y:=h.here;have i:C.GlobM ⟨dx c,c.ok,c.pin⟩ c.w:=T.here h
 have key:=Dg (Q:=Q) (next:=λJ w'=>eE C.P (dF C) ops Q (Kept (dx c) c.w) n (b.set x.1 true).toArray J w') ⟨O,i⟩ (ops:=ops) Y V (λI J U k Z=>
  W I J U i k Z)
 have z:∃v,YieldsIf C.P ops (λw'=>Kept (dx c) c.w w'/\(True->Kept (λ_=>False) c.w w')) x.2.1 v a/\eE C.P (dF C) ops Q (Kept (dx c) c.w) n (b.set x.1 true).toArray (a.put x.2.1.dst v) c.w:=by
  by_cases q:Region.wanted x.2.1 (yielded ops a.tmps)=true
  ·rw [aw q] at key;unfold Oper.wp at key
   have fin:∀v,(∀w',Kept (λ_=>False) c.w w'->(execOp a.eval x.2.1).run C.P w'= .ok (.value v) w')->∃v,YieldsIf C.P ops (λw'=>Kept (dx c) c.w w'/\(True->Kept (λ_=>False) c.w w')) x.2.1 v a/\eE C.P (dF C) ops Q (Kept (dx c) c.w) n (b.set x.1 true).toArray (a.put x.2.1.dst v) c.w:=by
    intro v t;rw [t c.w (Kept.refl _ _),Oper.upon_value] at key;exact ⟨v,.inl ⟨q,λw' k=>t w' (k.2 aO)⟩,key⟩
   unfold U5 at d
   cases A:x.2.1.guard with
   |none=>
    rw [A] at d;obtain ⟨p,l⟩:=JH.1 d;obtain ⟨v,t⟩:=U2 h L l
    simp_all
   |some jw=>
    obtain ⟨j,wb⟩:=jw;rw [A] at d;simp only at d
    cases M:(ops[j]?).bind (·.dst) with
    |none=>grind
    |some s=>
     rw [M] at d;simp only at d
     have f:a.tmps.getD s undef= .bool wb:=by
      simp only [Region.wanted,A,yielded,M,ai] at q;rw [oV]
      grind
     obtain ⟨p,l⟩:=JH.1 d;obtain ⟨v,t⟩:=U2 (xK h f) L l
     simp_all
  ·rw [ak q] at key;exact ⟨undef,.inr ⟨by grind,rfl⟩,key⟩
 obtain ⟨v,z,hnx⟩:=z;refine Hy (S':=Kept (dx c) c.w) (λw k=>Kept.from h k) _ _ _ _ ?_;refine Ue True y.1 (Region.noSelect_spec u) (λE a w l=>absurd l (S _ _ _)) n b.toArray a c.w (λj N hj B D o=>⟨Region.free_spec y.1 g j N hj B D o,λ_=> ?_⟩) (by grind[gk]) z (Kept.refl _ _) ?_
 ·refine UH ops.toList 0 X j N (by grind) ?_ (by omega) o;rw [lI,G.bit j]
  grind[yp]
 grind
theorem ve (k:C.oQ) (d:Region.noSelect ops=true) (q:∀ch a w,¬Q (.panic ch) a w) (l:oE ops 0 ops.toList tab=true):
 ∀ (N n) (lm) (b) (v) (m) (w0:World) (a:Act) (c:Cx) (K:St->Option R),n<=N->Mask ops lm b->C.GlobM m w0->Rep m w0 v a c->gl C ops tab n 0 lm v K=some r->
  (∀I J U,K I=some r->Rep m w0 I J U->Q .normal J U.w)->eE C.P (dF C) ops Q (Kept m.w w0) n b.toArray a c.w
 |N,0,lm,b,v,m,w0,a,c,K,hN,hM,hG,h,j,hK=>by
  unfold gl at j;have hre:=Cz hM l;split at j
  ·rename_i O;rw [O] at hre;exact ⟨by grind[gk],hK _ _ _ j h⟩
  grind
 |0,n+1,_,_,_,_,_,_,_,_,hN,_,_,_,_,_=>by omega
 |N+1,n+1,lm,b,v,m,w0,a,c,K,hN,hM,hG,h,j,hK=>by
  have hr0:=j;unfold gl at j;have hre:=Cz hM l;have p:=(HU hM ops.toList 0 tab (by simp) l).2
  cases Z:eh lm 0 ops.toList tab with
  |nil=>
   grind[gk,aiw]
  |cons x xs=>
   rw [Z] at j hre p;simp only at j
   cases M:(x::xs).find? (uI C.P ops lm v) with
   |some y=>
    rw [M] at j;simp only at j;have e:=yN M;have G:=JS M;rw [aiK hM (p y e)] at G;refine aiM (m:=m) (w0:=w0) k d q hG h (p y e).1 ?_ G j ?_
    ·grind
    ·intro I J U A B f;exact ve k d q l N n _ _ I _ _ J U K (by omega) (hM.set (p y e).2.2) A f B (λS a2 c2 D T=>hK _ _ _ D (h.there T))
   |none=>
    rw [M] at j;simp only at j
    cases t:(x::xs).find? (xW C ops lm v) with
    |some y=>
    rw [t] at j;simp only at j;have e:=yN t;refine ajM (m:=m) (w0:=w0) k d q hG h hM (p y e) ?_ (JS t) j ?_
    ·grind
    ·intro I J U A B f;exact ve k d q l N n _ _ I _ _ J U K (by omega) (hM.set (p y e).2.2) A f B (λS a2 c2 D T=>hK _ _ _ D (h.there T))
    |none=>
    rw [t] at j;simp only at j;have H:gk ops b≠ []:=by grind
    cases u:IF C.P ops tab lm (x::xs) with
    |true=>
     rw [u] at j;simp only [ah] at j;unfold IF at u;split at u
     ·rename_i x' y' r' hxs;split at u
      ·rename_i mm q0 hq0;simp only [bb] at u;have hlen:((x::xs).map (·.1)).length=xs.length+1:=by simp
       have E:gl C ops tab (n+1) (xs.length+1) lm v K=some r:=by
        grind[gl]
       have F:qc C.P ops tab mm (xs.length+1) lm ((x::xs).map (·.1))=true:=u.2;obtain ⟨s,g0,g1,g2⟩:=Vv (xs.length+1) hlen F E;obtain ⟨_,k2,_⟩:=ID F;have hI:Ins C.P ops mm ((x::xs).map (·.1)):=Ins.of (λz hz=>(p z hz).1) u.1 (λz hz=>k2 z (by grind))
       have:=Vt (m:=m) (w0:=w0) k d q hG l (n:=n+1 -(xs.length+1)) (xs.length+1) hM hlen F hI g1 h (λg J U V f=>
        ve k d q l N _ _ g s m w0 J U K (by omega) V hG f g2 hK)
       grind
      grind
     grind
    |false=>
     rw [u] at j;simp only [aa] at j;refine Uf rfl (λhe=>H (by grind[gk])) (λi hi=> ?_);have W:i ∈ gk ops b:=by grind[gk]
     obtain ⟨y,e,rfl⟩:=UF hM l W;rw [Z] at e;have L:=WB j y e;unfold wpOp;rw [(p y e).1];simp only
     have key:if Region.wanted y.2.1 (yielded ops a.tmps)=true then y.2.1.wp C.P a c.w (λJ w'=>(Kept m.w w0 w'/\∀o,ops[y.1]?=some o->dF C o=true->Kept (λ_=>False) c.w w')/\eE C.P (dF C) ops Q (Kept m.w w0) n (b.set y.1 true).toArray J w') Q
      else (Kept m.w w0 c.w/\∀o,ops[y.1]?=some o->dF C o=true->Kept (λ_=>False) c.w c.w)/\eE C.P (dF C) ops Q (Kept m.w w0) n (b.set y.1 true).toArray (a.put y.2.1.dst undef) c.w:=by
      cases X:dF C y.2.1 with
      |true=>
       exact aiU (next:=λJ w'=>(Kept m.w w0 w'/\∀o,ops[y.1]?=some o->dF C o=true->Kept (λ_=>False) c.w w')/\eE C.P (dF C) ops Q (Kept m.w w0) n (b.set y.1 true).toArray J w') ⟨k,hG⟩ h X L (λI J U B f Y=>
        ⟨⟨f.kept,λ_ _ _=>Y⟩,ve k d q l N n _ _ I _ _ J U K (by omega) (hM.set (p y e).2.2) hG f B hK⟩) q
      |false=>
       exact Dg (next:=λJ w'=>(Kept m.w w0 w'/\∀o,ops[y.1]?=some o->dF C o=true->Kept (λ_=>False) c.w w')/\eE C.P (dF C) ops Q (Kept m.w w0) n (b.set y.1 true).toArray J w') ⟨k,hG⟩ (ops:=ops) h L (λI J U B f=>
        ⟨⟨f.kept,λo ho he=>by grind⟩,ve k d q l N n _ _ I _ _ J U K (by omega) (hM.set (p y e).2.2) hG f B hK⟩)
     grind
theorem ajh (g:C.P.follows .mixedOrders=true) (i:C.oQ) {id} (d:Region.noSelect ops=true) (k:∀l a w,¬Q (.panic l) a w) (n:C.GlobM m w0) (h:Rep m w0 e a c)
 (b:vd C ops tab e K=some r)
 (o:∀j I J,K j=some r->Rep m w0 j I J->Q .normal I J.w):(Code.region id ops true).wp C.P Q a c.w:=by
 unfold vd at b
 cases f:oE ops 0 ops.toList tab with
 |false=>
  grind[aji]
 |true=>
  rw [f] at b;simp only [ah] at b;refine wp_region_any g (Ud (N:=dF C) (S:=Kept m.w w0) _ _ _ _ ?_);have p:=h.world (w1:={c.w with drawn:=c.w.drawn+1}) (h.kept.drew (dI _)) (aR _) (λ_ _=>rfl);have:=ve i d k f _ _ _ _ e m w0 a _ K (aR _) (Mask.alY ops) n p b o
  grind
theorem WC :∀l,(∀x ∈ l,f x=g x)->kx f l=kx g l
 | [],_=>rfl
 | [a],h=>h a (by simp)
 |a::b::r,h=>by
  simp only [kx];rw [h a (by simp),WC (b::r) (λx c=>h x (iL _ c))]
theorem V7 (d:C.nC) (e:∀ (i:Nat) (o),ops[i]?=some o->Slots D ops o):∀ (n k lm) (a),(∀j,Agree D a j->K j=K' j)->gl C ops tab n k lm a K=gl C ops tab n k lm a K'
 |0,k,lm,a,h=>by
  grind[gl,Agree.refl]
 |n+1,k,lm,a,h=>by
  have one:∀ (x) (k),x ∈ eh lm 0 ops.toList tab->(dX C ops x.2.1 a λa=>gl C ops tab n k (Nat.lor lm (2^x.1)) a K)=dX C ops x.2.1 a λa=>gl C ops tab n k (Nat.lor lm (2^x.1)) a K':=λx k f=>
   V4 C d (e x.1 x.2.1 (HW f)) λst1 g=>V7 d e n k _ st1 λb l=>h b (g.trans l)
  unfold gl
  cases p:eh lm 0 ops.toList tab with
  |nil=>grind[Agree.refl]
  |cons x xs=>
   rw [p] at one;simp only
   cases k with
   |succ k=>exact one x k (by simp)
   |zero=>
    simp only
    cases q:(x::xs).find? (uI C.P ops lm a) with
    |some y=>exact one y 0 (yN q)
    |none=>
     simp only
     cases c:(x::xs).find? (xW C ops lm a) with
     |some y=>exact one y 0 (yN c)
     |none=>
     simp only;rw [one x xs.length (by simp),WC (x::xs) (λy s=>one y 0 s)]
theorem aky (b:C.nC) (c:∀ (i:Nat) (o),ops[i]?=some o->Slots D ops o) (a) (h:∀j,Agree D a j->K j=K' j):vd C ops tab a K=vd C ops tab a K':=by
 unfold vd;rw [V7 b c _ _ _ a h,V5 C b c _ _ a h]
end
end Go.Fw
