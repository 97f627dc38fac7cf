/- Part 5: lemmas that the last text needs. -/
import Derived.Test.YtkihadlgknhpkaaGreatDoorX4
set_option linter.all false
set_option autoImplicit true
set_option relaxedAutoImplicit true
namespace Go.Fw
open Go.RowKit (Below)
section
variable {P:Program} {m:MM} {w0:World} {st:St} {a:Act} {c:Cx} {R:Type} {K:St->Option R} {r:R} {o:Oper} {next:Act->World->Prop} {Q:Exit->Act->World->Prop}
theorem UB (w):∀ (b:List Field),(∀f ∈ b,(P.info? f.type).isSome=true)->
 (b.mapM (m:=Sem) λf=>do pure (f.offset,<-sizeOf f.type)).run P w= .ok (b.map λf=>(f.offset,P.cellsOf f.type)) w
 | [],_=>by simp
 |f::b,h=>by
  have d:=h f (by simp);obtain ⟨i,e⟩:=JH.1 d;have j:(sizeOf f.type).run P w= .ok (P.cellsOf f.type) w:=by simp [sizeOf,typeInfo,e,Program.cellsOf]
  simp only [List.mapM_cons,Sem.run_bind,j,Result.andThen_ok,Sem.run_pure,UB w b (λg k=>h g (by grind)),eX]
theorem Jb {p:PV} (h:p.cells.all PV.one=true):p.one=true\/∃l,p= .agg l:=by
 cases p <;>simp_all [PV.cells,PV.one]
theorem Wo (h:Rep m w0 st a c) (e):∀ (b) (l I) (cs),au c l cs.toList->yo P st e l b=some I->
 ∃j,Instr.fill ((e.map λf=>(f.offset,P.cellsOf f.type))[·]?) cs (b.map λp=>(p.1,a.eval p.2))=some j/\au c I j.toList/\j.size=cs.size
 | [],l,I,cs,J,C=>by
   simp [yo,aB] at C;subst C;exact ⟨cs,rfl,J,rfl⟩
 | (i,x)::rest,l,I,cs,J,C=>by
   simp only [yo] at C;split at C
   ·rename_i f hf;split at C
    ·rename_i U;obtain ⟨h1,h2,h3,h4⟩:=U;have n:=eM (P:=P) (aZ h x) f.type;have d:=n.cells (Jb h4);have hlen:=d.length;have g:=J.length;simp [sN] at hlen g
     obtain ⟨k,g1,q,t⟩:=VX (place:=((e.map λf=>(f.offset,P.cellsOf f.type))[·]?)) (cs:=cs) (i:=i) (off:=f.offset) (size:=P.cellsOf f.type) (v:=a.eval x) (rest:=rest.map λp=>(p.1,a.eval p.2))
      (by grind) (by omega) (by omega)
     obtain ⟨s,u,w,y⟩:=Wo h e rest _ I k (by rw [q];exact J.splice f.offset d) C
     grind
    grind
   grind
theorem Jf (h:Rep m w0 st a c) (e) (d):∀ (b) (l I) (cs),au c l cs.toList->vj P st e d l b=some I->
 ∃j,Instr.fill (λi=>some (i*d,d)) cs (b.map λp=>(p.1,a.eval p.2))=some j/\au c I j.toList/\j.size=cs.size
 | [],l,I,cs,J,C=>by
   simp [vj,aB] at C;subst C;exact ⟨cs,rfl,J,rfl⟩
 | (i,x)::rest,l,I,cs,J,C=>by
   simp only [vj] at C;split at C
   ·rename_i U;obtain ⟨h1,h3,h4⟩:=U;have n:=eM (P:=P) (aZ h x) e;have f:=n.cells (Jb h4);have hlen:=f.length;have g:=J.length;simp [sN] at hlen g;obtain ⟨k,g1,q,t⟩:=VX (place:=(λi=>some (i*d,d))) (cs:=cs) (i:=i) (off:=i*d) (size:=d) (v:=a.eval x) (rest:=rest.map λp=>(p.1,a.eval p.2)) rfl (by omega) (by omega);obtain ⟨s,u,w,y⟩:=Jf h e d rest _ I k (by rw [q];exact J.splice (i*d) f) C
    grind
   grind
theorem alB (O:C.P=P) (k:o.op= .build t j) (h:Rep m w0 st a c) (M:∀x,o.dst=some x->bD st x) (d:be C o st K=some r)
 (N:∀I U c',K I=some r->Rep m w0 I U c'->next U c'.w):o.upon P a next Q ((execOp a.eval o).run P c.w):=by
 subst O;simp only [be,k] at d;split at d
 ·rename_i y l B D;obtain ⟨i,z,E,q,F,b⟩:=rN D
  cases g:(y.toList.all λf=>(C.P.info? f.type).isSome) with
  |false=>grind
  |true=>
   rw [g] at d;simp [ax,aa] at d;split at d
   ·rename_i G H;obtain ⟨s,J,S,T⟩:=Wo h y j.toList l G z.cells (b c).1 H;refine bP (v:= .agg s) ?_ h M (by grind[RepV]) rfl d N
    have L:(y.mapM (m:=Sem) λf=>do pure (f.offset,<-sizeOf f.type)).run C.P c.w= .ok (y.map λf=>(f.offset,C.P.cellsOf f.type)) c.w:=by
     rw [Kb];simp only [Sem.run_map,UB c.w y.toList (λf V=>by simpa using gU.1 g f V),Result.andThen_ok];congr 1
     grind
    have u:(j.map λ(x:Nat×Operand)=>match x with| (i,x)=>(i,a.eval x)).toList=j.toList.map λp=>(p.1,a.eval p.2):=by simp
    simp only [execOp,k,Sem.run_bind,Instr.build,lq E q,Result.andThen_ok,bh B,L,u,J,Sem.run_pure]
   grind
 ·rename_i n e l B D;obtain ⟨i,z,E,q,F,b⟩:=rN D;obtain ⟨A,d⟩:=b6 d;have A:C.P.cellsOf e≠0:=by grind[Nat.blt_eq]
  split at d
  ·rename_i G H;obtain ⟨s,J,S,T⟩:=Jf h e (C.P.cellsOf e) j.toList l G z.cells (b c).1 H;refine bP (v:= .agg s) ?_ h M (by grind[RepV]) rfl d N;have u:(j.map λ(x:Nat×Operand)=>match x with| (i,x)=>(i,a.eval x)).toList=j.toList.map λp=>(p.1,a.eval p.2):=by simp
   simp [execOp,k,Sem.run_bind,Instr.build,lq E q,Result.andThen_ok,bh B,kf A,u,J,Sem.run_pure]
  grind
 grind
theorem CF (h:Rep m w0 st a c) (z:RepV c p v) (f:st.plain p=some (C,j)):
 ∃c1,c1.w=c.w/\Rep m w0 j a c1/\RepV c1 C v/\j.s=st.s/\Mv (λ_=>True) c c1:=by
 have x:Mv (λ_=>True) c c:=⟨λ_ _=>rfl,λ_ h=>h,λ_ _=>rfl,λ_ _=>rfl,λk e t l _ q=>⟨e,l,q,rfl⟩⟩;unfold St.plain at f;split at f
 ·rename_i k;split at f
  ·rename_i e t l u;simp [aB,aL] at f;obtain ⟨rfl,rfl⟩:=f;obtain ⟨c1,y,B,D,E,d⟩:=h.freeze k;have F:st.freeze k=st.setO k (.frow e t l):=by grind[St.freeze]
   rw [F] at d;have g:c1.ob k=some (.frow e t l):=by rw [d.ob,gR,aw rfl,u];rfl
   obtain ⟨A,n,g1,G,H,I⟩:=d.objs k _ g;simp [RepV] at z;refine ⟨c1,y,d,?_,rfl,⟨λb _=>by rw [y],E,λ_ _=>by rw [B],λ_ _=>by rw [D],λi J L M _ q=> ?_⟩⟩
   ·grind[RepV]
   ·rw [d.ob,gR] at q;rw [h.ob]
    grind
  ·rename_i e t l u;simp [aB,aL] at f;obtain ⟨rfl,rfl⟩:=f;have g:c.ob k=some (.frow e t l):=by rw [h.ob];exact u
   obtain ⟨A,n,g1,G,H,I⟩:=h.objs k _ g
   grind[RepV]
  grind
 grind
theorem Mv.trans (h:Mv S c c1) (k:Mv S c1 j):Mv S c j:=
 ⟨λb f=>(k.heap b (h.ok b f)).trans (h.heap b f),λb f=>k.ok b (h.ok b f),λi d=>(k.ρ i d).trans (h.ρ i d),λi d=>(k.σ i d).trans (h.σ i d),λi e t l d g=>by
  obtain ⟨p,q,n,s⟩:=k.ob i e t l d g;obtain ⟨u,v,w,x⟩:=h.ob i _ _ _ d n
  grind⟩
theorem CG:∀{l J} {vs} {st j} {c},Rep m w0 st a c->au c l vs->st.plainL l=some (J,j)->
 ∃c1,c1.w=c.w/\Rep m w0 j a c1/\au c1 J vs/\j.s=st.s/\Mv (λ_=>True) c c1
 | [],J,vs,st,j,c,h,I,C=>by
   simp [St.plainL,aB,aL] at C;obtain ⟨rfl,rfl⟩:=C;exact ⟨c,rfl,h,I,rfl,⟨λ_ _=>rfl,λ_ h=>h,λ_ _=>rfl,λ_ _=>rfl,λk e t l _ I=>⟨e,l,I,rfl⟩⟩⟩
 |p::q,J,vs,st,j,c,h,I,C=>by
  simp [au] at I;obtain ⟨v,G,rfl,g,i⟩:=I;simp [St.plainL] at C;split at C
  ·rename_i H st1 n;split at C
   ·rename_i L u x;simp [aB,aL] at C;obtain ⟨rfl,rfl⟩:=C;obtain ⟨c1,y,b,z,A,f⟩:=CF h g n;obtain ⟨B,D,d,E,F,m2⟩:=CG b (au.move f _ _ (λ_ _=>aO) i) x;refine ⟨B,D.trans y,d,?_,F.trans A,f.trans m2⟩
    grind[au,RepV.move]
   grind
  grind
theorem Ic :∀{l J} {i} {vs} {st C} {c},Rep m w0 st a c->au c l vs->St.oO x i st l=some (J,C)->
 ∃c1,c1.w=c.w/\Rep m w0 C a c1/\au c1 J vs/\C.s=st.s/\Mv (λ_=>True) c c1
 | [],J,i,vs,st,C,c,h,I,j=>by
   simp [St.oO,aB,aL] at j;obtain ⟨rfl,rfl⟩:=j;exact ⟨c,rfl,h,I,rfl,⟨λ_ _=>rfl,λ_ h=>h,λ_ _=>rfl,λ_ _=>rfl,λk e t l _ I=>⟨e,l,I,rfl⟩⟩⟩
 |p::q,J,i,vs,st,C,c,h,I,j=>by
  simp [au] at I;obtain ⟨v,N,rfl,E,u⟩:=I;unfold St.oO at j
  cases y:(Nat.beq (i+1) (x % 1048576) || Nat.beq (i+1) (x / 1048576)) with
  |true=>
   rw [y] at j;simp [ah] at j;split at j
   ·rename_i F f g;simp [aB,aL] at j;obtain ⟨rfl,rfl⟩:=j;obtain ⟨z,A,b,n,B,m2⟩:=Ic h u g
    grind[au,RepV.move]
   grind
  |false=>
   rw [y] at j;simp [aa] at j;split at j
   ·rename_i O st1 G;split at j
    ·rename_i F f g;simp [aB,aL] at j;obtain ⟨rfl,rfl⟩:=j;obtain ⟨c1,H,d,L,M,D⟩:=CF h E G;obtain ⟨z,A,b,n,B,m2⟩:=Ic d (au.move D _ _ (λ_ _=>aO) u) g;refine ⟨z,A.trans H,b,?_,B.trans M,D.trans m2⟩
     grind[au,RepV.move]
    grind
   grind
end
section
variable {P:Program} {m:MM} {w0:World} {st:St} {a:Act} {c:Cx} {R:Type} {K:St->Option R} {r:R} {o:Oper} {next:Act->World->Prop} {Q:Exit->Act->World->Prop}
theorem oL (h:ku P e=some ⟨j,x⟩):∃i z l,P.info? e=some i/\i.zero=some z/\z.cells.size=P.cellsOf e/\i.size=P.cellsOf e/\i.bytes=P.bytesOf e/\(∀c,au c l z.cells.toList)/\j.of l=some x/\j.size=P.cellsOf e/\0<j.size/\0<P.bytesOf e:=by
 grind[ku,rN,Program.cellsOf,Program.bytesOf]
theorem au.W4 (c):∀ (vs),au c (List.replicate vs.length .undef) vs
 | []=>by simp [au]
 |v::r=>by
  simp only [aW,List.replicate_succ,au];exact ⟨v,r,rfl,by simp [RepV],au.W4 c r⟩
theorem CL {d q:Nat} {cs} {n} (s:Nat) (G:c.w.drawn<=s) (hd:o.dst=some d) (h:Rep m w0 st1 a c1) (O:c1.w=c.w)
 (H:∀x,o.dst=some x->bD st1 x) {f:St} (z:st1.new q (.row e C l)=some f) (t:0<C.size) (u:cs.size=n*C.size) (y:l.length<=n) (g:n<=9223372036854775807)
 (i:aT c1.w c1.ok C l (cs.toList.take (l.length*C.size)))
 (A:(execOp a.eval o).run P c.w= .ok (.value (.slice (some ⟨c.w.heap.size,0,none⟩) l.length n)) {c.w with drawn:=s,heap:=c.w.heap.push (.cells cs e)})
 (I:K (f.set d (.own q))=some r) (J:∀j B D,K j=some r->Rep m w0 j B D->next B D.w):o.upon P a next Q ((execOp a.eval o).run P c.w):=by
 obtain ⟨g1,S,T,U,V,W⟩:=jA z
 obtain ⟨E,X,Y,Z,e4,k⟩:=h.push z s (by grind) cs e (.slice (some ⟨c1.w.heap.size,0,none⟩) l.length n) (λE q1 q2 L M q5 q6 q7=>by
  refine ⟨some ⟨c1.w.heap.size,0,none⟩,n,M,y,g,.inr ⟨by rw [L],cs,by grind,u,?_,t⟩⟩;refine i.move (λb F=> ?_) (λb F=>by grind);rw [q1];show (c1.w.heap.push _)[b]?=_
  rw [Array.getElem?_push,ak (by have:=h.ok b F;omega)])
 refine bP (c1:=E) (p:= .own q) (v:= .slice (some ⟨c.w.heap.size,0,none⟩) l.length n) (by grind) k (λx N=>(H x N).of g1) ?_ rfl (by rw [hd];exact I) J
 grind[RepV]
theorem alA (X:C.P=P) (f:o.op= .buildSlice t n j) (h:Rep m w0 st a c) (Y:∀x,o.dst=some x->bD st x) (b:be C o st K=some r)
 (Z:∀I U c',K I=some r->Rep m w0 I U c'->next U c'.w):o.upon P a next Q ((execOp a.eval o).run P c.w):=by
 subst X;simp [be,f] at b;split at b
 ·rename_i e d N hd;split at b
  ·rename_i D x he;obtain ⟨i,z,lz,O,E,hsz,S,hib,F,hof,G,k,hbp⟩:=oL he;split at b
   ·rename_i T;split at b
    ·rename_i l1 hb;split at b
     ·rename_i l2 st1 hp;split at b
      ·rename_i l ht;split at b
       ·rename_i kk st2 H;have hn:=newNum_spec H
        obtain ⟨g,q⟩:∃g,(n*C.P.cellsOf e=0->g= #[])/\(n*C.P.cellsOf e≠0->g=z.cells):=by
         by_cases s:n*C.P.cellsOf e=0
         all_goals simp_all
        obtain ⟨cs,u,k2,k3⟩:=Jf h e D.size j.toList _ l1 ((Array.range (n*C.P.cellsOf e)).map (g[· % g.size]!))
         (by have:=au.W4 c ((Array.range (n*C.P.cellsOf e)).map (g[· % g.size]!)).toList
             grind) hb
        obtain ⟨c1,e1,v,J,s1,m1⟩:=CG h k2 hp;obtain ⟨L,V⟩:=Ci c1 n l2 l _ ht J;have M:cs.size=n*D.size:=by grind
        have W:=by
         have:n*1<=n*D.size:=yI _ k;omega
        refine CL (cs:=cs) (n:=n) c.w.drawn (aR _) hd v e1 (λx hx=>(Y x hx).of s1) hn k M (by omega) (by omega) ?_ ?_ b Z
        ·grind[List.take_of_length_le]
        ·have y:(j.map λ(x:Nat×Operand)=>match x with| (i,x)=>(i,a.eval x)).toList=j.toList.map λp=>(p.1,a.eval p.2):=by simp
         have A:¬n*C.P.cellsOf e>2^24:=by grind
         rw [L];have B:(sizeOf e).run C.P c.w= .ok (C.P.cellsOf e) c.w:=by simp [sizeOf,typeInfo,O,Program.cellsOf]
         rw [G] at u;by_cases s:n*C.P.cellsOf e=0
         ·rw [q.1 s] at u;simp only [execOp,f,Sem.run_bind,Instr.buildSlice,bh N,B,Result.andThen_ok,ak A,aw s,y,u,newRow,run_newObj,Sem.run_pure]
         ·rw [q.2 s] at u;simp [execOp,f,Sem.run_bind,Instr.buildSlice,bh N,B,Result.andThen_ok,ak A,ak s,lq O E,y,u,newRow,run_newObj,Sem.run_pure]
       grind
      grind
     grind
    grind
   grind
  grind
 grind
theorem alm (hC:C.P=P) (u:o.op= .makeSlice t x y) (h:Rep m w0 st a c) (hg:∀x,o.dst=some x->bD st x) (f:be C o st K=some r)
 (hK:∀I a' c',K I=some r->Rep m w0 I a' c'->next a' c'.w):o.upon P a next Q ((execOp a.eval o).run P c.w):=by
 subst hC;simp [be,u] at f;split at f
 ·rename_i e d k k' Y hd hx hy;have g:=aZ h x;have j:=aZ h y;rw [hx] at g;rw [hy] at j;simp [RepV] at g j;split at f
  ·rename_i M x0 he;obtain ⟨i,z,lz,N,O,hsz,Z,hib,v,S,T,A,U⟩:=oL he;obtain ⟨hc,B⟩:=b6 f;clear f;simp [bb,db] at hc;obtain ⟨⟨h0,rfl⟩,s⟩:=hc;have f:=B;clear B;split at f
   ·rename_i kk st2 V;have hn:=newNum_spec V;obtain ⟨q,rfl⟩:=qC h0;simp [bu] at s f hn;have D:az=140737488355328:=rfl;rw [D] at s
    have hq:=by
     have:q*1<=q*C.P.bytesOf e:=yI _ U;omega
    obtain ⟨l,W,E⟩:∃l,(q*C.P.cellsOf e=0->l= #[])/\(q*C.P.cellsOf e≠0->l=z.cells):=by
     by_cases b:q*C.P.cellsOf e=0
     all_goals simp_all
    have X:=Ty.fU S (v c);have hzl:=by omega
    have L:aT c.w c.ok M (List.replicate q x0) (((Array.range (q*C.P.cellsOf e)).map (l[· % l.size]!)).toList):=by
     have key:∀F,F<=q->aT c.w c.ok M (List.replicate F x0) ((List.range (F*M.size)).map (λi=>l[i % l.size]!)):=by
      intro F
      induction F with
      |zero=>grind[aT]
      |succ p ih=>
       intro hp;have hzc':=E (by rw [<-T];exact Nat.ne_of_gt (yH (by omega) A));rw [List.replicate_succ'];rw [fI,qv,List.range_add,lM];refine (ih (by omega)).append ?_;refine ⟨z.cells.toList,[],?_,X,rfl⟩;rw [ji];apply JU
       ·grind
       ·intro i h1 h2;simp [sG,List.length_range] at h1;simp [vD,DG,List.getElem_range,Function.comp_apply]
        grind[Nat.mul_comm,Nat.mul_add_mod,Nat.mod_eq_of_lt]
     simp_all
    refine CL (cs:=(Array.range (q*C.P.cellsOf e)).map (l[· % l.size]!)) (n:=q) c.w.drawn (aR _) hd h rfl hg hn A (by grind) (by simp) (by omega) ?_ ?_ f hK
    ·grind[List.take_of_length_le]
    ·have hw:IntKind.i64.wrap (q:Int)=q:=by grind[IntKind.wrap,IntKind.bits]
     have G:(sizeOf e).run C.P c.w= .ok (C.P.cellsOf e) c.w:=by simp [sizeOf,typeInfo,N,Program.cellsOf]
     have H:(typeInfo e).run C.P c.w= .ok i c.w:=by simp [typeInfo,N]
     have J:((decide ((q:Int) <0) || decide (((i.bytes:Nat):Int)* (q:Int) >2^48)) || decide ((q:Int) <0) || decide ((q:Int) >(q:Int)))=false:=by
      grind
     rw [yO];by_cases b:q*C.P.cellsOf e=0
     ·rw [W b];simp only [execOp,u,Sem.run_bind,Instr.makeSlice,bh Y,g.1,j.1,asInt,asIntOf,Sem.run_pure,H,Result.andThen_ok,hw,J,dQ,aH,run_askRoom,bu,G,aw b,newRow,run_newObj]
     ·rw [E b];simp only [execOp,u,Sem.run_bind,Instr.makeSlice,bh Y,g.1,j.1,asInt,asIntOf,Sem.run_pure,H,Result.andThen_ok,hw,J,dQ,aH,run_askRoom,bu,G,ak b,lq N O,newRow,run_newObj]
   grind
  grind
 grind
end
theorem HN {α:Type} (A vals:List α) (p off b:Nat) (h:off+vals.length<=b):
 A.take p++ (((A.drop p).take b).take off++vals++ ((A.drop p).take b).drop (off+vals.length))++A.drop (p+b)=A.take (p+off)++vals++A.drop (p+off+vals.length):=by
 have d:A.take (p+off)=A.take p++ ((A.drop p).take b).take off:=by
  grind
 have e:A.drop (p+off+vals.length)=((A.drop p).take b).drop (off+vals.length)++A.drop (p+b):=by
  rw [JW,vH,show p+ (off+vals.length)=p+off+vals.length by omega]
  conv=>lhs;rw [<-mC (b -(off+vals.length)) (A.drop (p+off+vals.length))]
  rw [vH]
  grind
 grind
theorem aiL {α:Type} (A vals:List α) (q n:Nat) (h:q+vals.length<=n) (b:n<=A.length):
 (A.take q++vals++A.drop (q+vals.length)).take n=(A.take n).take q++vals++ (A.take n).drop (q+vals.length):=by
 have d:(A.take q++vals).length=q+vals.length:=by grind
 grind[List.take_append,List.take_of_length_le,List.drop_take]
section
variable {P:Program} {m:MM} {w0:World} {st:St} {a:Act} {c:Cx} {R:Type} {K:St->Option R} {r:R} {o:Oper} {next:Act->World->Prop} {Q:Exit->Act->World->Prop}
theorem Ui (x):∀ (l:List α) (i j),mh ((j+i:Nat):Int) x j l=l.set i x
 | [],_,_=>by simp [mh]
 |e::r,0,j=>by
  simp only [mh,sE,List.set_cons_zero,al,ah,oU,qt]
  have:∀ (l) (q),j<q->mh (j:Int) x q l=l:=by
   intro l
   induction l with
   |nil=>intro q _;rfl
   |cons a r b=>grind[mh]
  grind
 |e::r,i+1,j=>by
  simp only [mh,List.set_cons_succ];rw [aq (by omega),show j+ (i+1)=(j+1)+i by omega,Ui x r i (j+1)];rfl
theorem aT.leaves :∀{l} {cs},aT c.w c.ok t l cs->au c (l.flatMap t.leaves) cs
 | [],_,h=>by rw [show _=_ from h];simp [au]
 |_::_,_,⟨c1,j,h,C,I⟩=>by rw [h,kJ];exact C.leaves.append (aT.leaves I)
theorem uP (h:Rep m w0 st a c) (f:bf c k) (g:dj c.w (c.ρ k) j cs) (l:∀u ∈ vals,u.oneCell'=true) (A:off+vals.length<=cs.size):
 ∃w1 d,(storeCells ⟨c.ρ k,off,none⟩ vals).run P c.w= .ok () w1/\dj w1 (c.ρ k) j d/\d.toList=cs.toList.take off++vals++cs.toList.drop (off+vals.length)/\d.size=cs.size/\Kept m.w w0 w1/\w1.heap.size=c.w.heap.size/\
  ∀b,b≠c.ρ k->w1.heap[b]?=c.w.heap[b]?:=by
 obtain ⟨w1,d,g1,n,p,q,s,t,v,e,x⟩:=HP (P:=P) vals c.w cs off 0 g (by omega) l;have y:=h.mine k f;refine ⟨w1,d,g1,n,by omega,?_,h.kept.one q s t (by omega) (c.ρ k) y.2.1 (λi _ z=>e i z) (Dy x.symm),v,e⟩;have:=bz List.length p
 grind
theorem alb (hC:C.P=P) (hop:o.op= .store t x y) (h:Rep m w0 st a c) (hg:∀x,o.dst=some x->bD st x) (E:be C o st K=some r)
 (hK:∀st' a' c',K st'=some r->Rep m w0 st' a' c'->next a' c'.w):o.upon P a next Q ((execOp a.eval o).run P c.w):=by
 subst hC;simp only [be,hop,xN] at E;have M:=aZ h x;have hy:=eM (P:=C.P) (aZ h y) t;split at E
 ·rename_i hc;obtain ⟨hlen,hne,hone⟩:=hc;have S:=hy.cells (Jb hone);have hv1:=S.one hone;have hvl:=S.length
  have run:∀ (b off:Nat) (w1:World),a.eval x= .pointer (some ⟨b,off,none⟩)->(storeCells ⟨b,off,none⟩ (a.eval y).cells.toList).run C.P c.w= .ok () w1->(execOp a.eval o).run C.P c.w= .ok .skip w1:=by
   intro b off w1 hv hs
   have:¬ (a.eval y).cells.size≠C.P.cellsOf t:=by
    grind
   simp only [execOp,hop,Sem.run_bind,hv,Instr.storeAt,Instr.sureAddr,Sem.run_pure,Result.andThen_ok,storeVar,kf hne,ak this,hs]
  split at E
  ·rename_i k off hk;rw [hk] at M;simp only [RepV] at M;split at E
   ·rename_i l N;split at E
    ·rename_i hle;have v:c.ob k=some (.box l):=by rw [h.ob];exact N
     obtain ⟨cs,T,hl⟩:=h.objs k _ v;have p:bf c k:=⟨_,v,aO⟩;have hll:=hl.length;simp only [sN] at hll;obtain ⟨w1,u,g1,g2,g3,g4,g5,g6,g7⟩:=uP (P:=C.P) h p T (vals:=(a.eval y).cells.toList) (off:=off) hv1 (by omega);have q:=h.mine k p;have B:∀b,c.ok b->b≠c.ρ k:=λb j G=>q.1 (G ▸ j)
     let c1:Cx:={w:=w1,ok:=c.ok,ρ:=c.ρ,σ:=c.σ,pin:=c.pin,ob:=(st.setO k (.box (splice l off (cN C.P t (aG st y)).cells))).obj}
     have hmv:Mv (λ_=>True) c c1:=⟨λb j=>g7 b (B b j),λ_ j=>j,λ_ _=>rfl,λ_ _=>rfl,λi e' t' l' _ J=>by
      simp only [c1,gR] at J;rw [h.ob]
      grind⟩
     have H:=h.setObj (o:= .box l) (o':= .box (splice l off (cN C.P t (aG st y)).cells)) N (w1:=w1) c.ok g5 (by omega)
      (λb j=>g7 b (by rcases j with j| ⟨U,D,V,rfl⟩;exact B b j;exact λG=>D (h.apart U k V p G))) (λ_ j=>j)
      (λb j=>⟨by rw [g6];exact h.ok b j,λU _ D G=>(h.mine U D).1 (G ▸ j)⟩) (by simp)
      ⟨u,g2.some_,by rw [g3];exact au.move hmv _ _ (λ_ _=>aO) (hl.splice off S)⟩ (λ_=>⟨aO,q.1⟩)
     exact vh (run _ _ _ M g1) H (λx M=>(hg x M).of rfl) E hK
    grind
   grind
  ·rename_i k i sz off hk;rw [hk] at M;split at E
   ·rename_i vs st1 hp;obtain ⟨c1,e1,f,hvs,s1,m1⟩:=CG h S hp;have W:=RepV.move m1 _ _ (λ_ _=>aO) M;simp only [RepV] at W;obtain ⟨hxv,hxb⟩:=W
    have main:∀ (e:TypeId) (g:Ty) (l:List g.den) (z:g.den) (cs:Array Value) (el:Option TypeId) (n:Nat) (o1 o2:Ob),st1.obj k=some o1->bf c1 k->dj c1.w (c1.ρ k) el cs->
     aT c1.w c1.ok g l (cs.toList.take (n*g.size))->n=l.length->0<=i->i<l.length->sz=g.size->g.of (splice (g.leaves (rd g l i)) off vs)=some z->K ((st1.setO k o2).put o.dst .undef)=some r->
     (∀e t l',(o2= .row e t l'\/∃n,o2= .arr e t n l')->∃e' l'',(o1= .row e' t l''\/∃n,o1= .arr e' t n l'')/\l''.length=l'.length)->
     (∀ (w1:World) (u:Array Value) (O:Cx),O.w=w1->O.ok=c1.ok->O.ρ=c1.ρ->O.σ=c1.σ->dj w1 (c1.ρ k) el u->u.size=cs.size->aT O.w O.ok g (l.set i.toNat z) (u.toList.take (n*g.size))->mz O k o2)->
     (gm c1 k o2->gm c1 k o1)->n*g.size<=cs.size->
     o.upon C.P a next Q ((execOp a.eval o).run C.P c.w):=by
     intro e g l z cs el n o1 o2 N p T hdat hn h0 h1 hsz hz E hlen' hO how hns;subst hn;have X:i.toNat<l.length:=by omega
     obtain ⟨d,hd,hde,hdc⟩:=hdat.get i.toNat (HY h0 h1);have I:=Ty.fU hz (hd.leaves.splice off hvs);have hnl:=I.len;have hdl:=hd.len;have hvl2:=hvs.length
     have Y:off+ (a.eval y).cells.toList.length<=g.size:=by
      simp only [cq,dZ,gL] at hnl;omega
     have hmul:i.toNat*g.size+g.size<=l.length*g.size:=by
      rw [<-vz];exact fH _ X
     obtain ⟨w1,u,g1,g2,g3,g4,g5,g6,g7⟩:=uP (P:=C.P) f p T (vals:=(a.eval y).cells.toList) (off:=i.toNat*g.size+off) hv1 (by omega);have q:=f.mine k p;have B:∀b,c1.ok b->b≠c1.ρ k:=λb j G=>q.1 (G ▸ j)
     have hdat2:aT c1.w c1.ok g (l.set i.toNat z) (u.toList.take (l.length*g.size)):=by
      have:=hdat.set i.toNat X I;rw [hde,HN _ _ _ _ _ Y] at this;rw [g3,aiL _ _ _ _ (by omega) (by omega)];omega
     have H:=f.setObj (o:=o1) (o':=o2) N (w1:=w1) c1.ok g5 (by omega)
      (λb j=>g7 b (by rcases j with j| ⟨U,D,V,rfl⟩;exact B b j;exact λG=>D (f.apart U k V p G))) (λ_ j=>j)
      (λb j=>⟨by rw [g6];exact f.ok b j,λU _ D G=>(f.mine U D).1 (G ▸ j)⟩) hlen'
      (hO w1 u _ rfl rfl rfl rfl g2 g4 (hdat2.move (λb j=>g7 b (B b j)) (λ_ j=>j))) (λhw=>⟨how hw,q.1⟩)
     refine vh (run _ _ w1 hxv ?_) H (λx M=>(hg x M).of (by show st1.s=st.s;exact s1)) E hK
     grind
    split at E
    ·rename_i e g l N;split at E
     ·rename_i hsz;split at E
      ·rename_i z hz;have v:c1.ob k=some (.row e g l):=by rw [f.ob];exact N
       obtain ⟨h0,h1,_⟩:=hxb e g l (.inl v);obtain ⟨A,n,q1,q2,q3,q4⟩:=f.objs k _ v;rcases q4 with q4| ⟨q4,cs,q5,q6,q7,q8⟩
       ·omega
       ·refine main e g l z cs (some e) l.length (.row e g l) (.row e g (l.set i.toNat z)) N ⟨_,v,A,_,n,q1,by omega⟩ q5 q7 rfl h0 h1 hsz hz E (λe' t' l' J=> ?_) (λw1 u O f1 f2 f3 f4 f5 f6 f7=> ?_) (λhw=>hw) (by rw [q6];exact fH _ q2)
        ·grind
        ·refine ⟨A,n,by grind,by grind,q3,.inr ⟨by grind,u,by grind,by omega,?_,q8⟩⟩
         grind
      grind
     grind
    ·rename_i e g n l N;split at E
     ·rename_i hsz;split at E
      ·rename_i z hz;have v:c1.ob k=some (.arr e g n l):=by rw [f.ob];exact N
       obtain ⟨h0,h1,_⟩:=hxb e g l (.inr ⟨n,v⟩);obtain ⟨q0,cs,q1,q2⟩:=f.objs k _ v;have hcl:=q2.len;refine main e g l z cs none l.length (.arr e g n l) (.arr e g n (l.set i.toNat z)) N ⟨_,v,aO⟩ q1 (by grind) rfl h0 h1 hsz hz E (λe' t' l' J=> ?_) (λw1 u O f1 f2 f3 f4 f5 f6 f7=> ?_) (λhw=>hw) (by grind)
       ·grind
       ·refine ⟨by grind,u,by grind,?_⟩
        grind[List.take_of_length_le]
      grind
     grind
    grind
   grind
  ·rename_i k off n g i fo hk;rw [hk] at M;split at E
   ·rename_i vs st1 hp;obtain ⟨c1,e1,f,hvs,s1,m1⟩:=CG h S hp;have W:=RepV.move m1 _ _ (λ_ _=>aO) M;simp only [RepV] at W;obtain ⟨hxv,h0,h1⟩:=W;split at E
    ·rename_i l N;split at E
     ·rename_i es hes;split at E
      ·rename_i z hz;have v:c1.ob k=some (.box l):=by rw [f.ob];exact N
       have p:bf c1 k:=⟨_,v,aO⟩;obtain ⟨cs,T,hl⟩:=f.objs k _ v;obtain ⟨q1,q2⟩:=Dj hes hl;obtain ⟨F,rfl⟩:∃F:Nat,i=(F:Int):=⟨i.toNat,by omega⟩;simp only [bu] at hxv;have X:F<es.length:=by omega
       have hrd:rd g es (F:Int)=es[F]:=by grind[rd]
       rw [hrd] at hz;obtain ⟨d,hd,hde,hdc⟩:=q2.get F (cK X);have I:=Ty.fU hz (hd.leaves.splice fo hvs);have hnl:=I.len;have hdl:=hd.len;have L:=q2.len
       have Y:fo+ (a.eval y).cells.toList.length<=g.size:=by
        simp only [cq,dZ,gL] at hnl;omega
       have hmul:F*g.size+g.size<=n*g.size:=by
        rw [<-vz];exact fH _ (by omega)
       have hS:off+n*g.size<=cs.toList.length\/n*g.size=0:=by
        rw [q1] at L;simp only [dZ,gL] at L;omega
       have hS':off+n*g.size<=cs.toList.length\/g.size=0:=by
        omega
       have hvpos:0<(a.eval y).cells.toList.length:=by omega
       have hS2:off+n*g.size<=cs.toList.length:=by omega
       have hcl:cs.toList.length=cs.size:=by simp
       obtain ⟨w1,u,g1,g2,g3,g4,g5,g6,g7⟩:=uP (P:=C.P) f p T (vals:=(a.eval y).cells.toList) (off:=off+F*g.size+fo) hv1 (by omega);have q:=f.mine k p;have B:∀b,c1.ok b->b≠c1.ρ k:=λb j G=>q.1 (G ▸ j)
       have hset:=q2.set F X I;rw [hde,HN _ _ _ _ _ Y] at hset;have Z:=hl.splice off hset.leaves
       have hlen2:(((cs.toList.drop off).take (n*g.size)).take (F*g.size+fo)++ (a.eval y).cells.toList++ ((cs.toList.drop off).take (n*g.size)).drop (F*g.size+fo+ (a.eval y).cells.toList.length)).length=n*g.size:=by
        rw [q1] at L;simp only [cq,dZ,gL] at L ⊢;omega
       rw [hlen2,HN _ _ _ _ _ (by omega),show off+ (F*g.size+fo)=off+F*g.size+fo by omega,<-g3] at Z
       let O:Cx:={w:=w1,ok:=c1.ok,ρ:=c1.ρ,σ:=c1.σ,pin:=c1.pin,ob:=(st1.setO k (.box (splice l off ((mh (F:Int) z 0 es).flatMap g.leaves)))).obj}
       have hmv:Mv (λ_=>True) c1 O:=⟨λb j=>g7 b (B b j),λ_ j=>j,λ_ _=>rfl,λ_ _=>rfl,λi e' t' l' _ J=>by
        simp only [O,gR] at J;rw [f.ob];by_cases hi:i=k
        ·simp_all
        ·rw [ak hi] at J;exact ⟨e',l',J,rfl⟩⟩
       have hupd:mh (F:Int) z 0 es=es.set F z:=by have:=Ui z es F 0;grind
       rw [<-hupd] at Z
       have H:=f.setObj (o:= .box l) (o':= .box (splice l off ((mh (F:Int) z 0 es).flatMap g.leaves))) N (w1:=w1) c1.ok g5 (by omega)
        (λb j=>g7 b (by rcases j with j| ⟨U,D,V,rfl⟩;exact B b j;exact λG=>D (f.apart U k V p G))) (λ_ j=>j)
        (λb j=>⟨by rw [g6];exact f.ok b j,λU _ D G=>(f.mine U D).1 (G ▸ j)⟩) (by simp)
        ⟨u,g2.some_,au.move hmv _ _ (λ_ _=>aO) Z⟩ (λ_=>⟨aO,q.1⟩)
       refine vh (run _ _ w1 hxv ?_) H (λx M=>(hg x M).of (by show st1.s=st.s;exact s1)) E hK
       grind
      grind
     grind
    grind
   grind
  grind
 grind
end
end Go.Fw
