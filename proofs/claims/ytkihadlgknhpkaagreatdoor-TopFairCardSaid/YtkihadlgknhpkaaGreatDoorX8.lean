/- Part 8: lemmas that the last text needs. -/
import Derived.Test.YtkihadlgknhpkaaGreatDoorX7
set_option linter.all false
set_option autoImplicit true
set_option relaxedAutoImplicit true
namespace Go.Fw
section
variable {P:Program} {m:MM} {w0:World} {st:St} {a:Act} {c:Cx} {R:Type} {K:St->Option R} {r:R} {o:Oper} {next:Act->World->Prop} {Q:Exit->Act->World->Prop}
theorem ajo {C:Ctx} (B:o.op= .slice t x D E mx) (h:Rep m w0 st a c) (hg:∀x,o.dst=some x->bD st x)
 (g:CH C.P t (aG st x) (D.map (aG st)) (E.map (aG st)) (mx.map (aG st)) o.dst st K=some r)
 (hK:∀I a' c',K I=some r->Rep m w0 I a' c'->next a' c'.w):o.upon C.P a next Q ((execOp a.eval o).run C.P c.w):=by
 unfold CH at g;split at g
 ·rename_i k kd f d e' F G H J hd hu;have s:=aZ h x;rw [F] at s;simp only [RepV] at s;split at g
  ·rename_i e L l M;split at g
   ·rename_i q;obtain ⟨q,hne⟩:=q;have u:C.P.cellsOf e'≠0:=by omega
    obtain ⟨N,g⟩:=b6 g;split at g
    ·rename_i st2 Z;have v:c.ob k=some (.row e L l):=by rw [h.ob];exact M
     obtain ⟨A,n,q1,q2,q3,O⟩:=h.objs k _ v;have S:a.eval x= .slice A l.length n:=by grind
     have T:=oF h D;have U:=oF h E;have V:=oF h mx;have hc:qh l.length (D.map (aG st)) (E.map (aG st)) (mx.map (aG st))=some (ae f (l.length+1),0,f.toNat,false):=by rw [G,H,J];rfl
     obtain ⟨k1,k2,k3,k4,k5⟩:=ym (P:=C.P) true c.w T U V hc N q2
     have i:(execOp a.eval o).run C.P c.w= .ok (.value (.slice (if n=0 then A else A.map (·.add (0*L.size))) (f.toNat - 0) (n - 0))) c.w:=by
      simp only [execOp,B,Sem.run_bind,Instr.sliceAt,bh hu,Result.andThen_ok,Instr.slice,S,k1,dQ,aH,kf u,Sem.run_pure,q]
     have y:(Value.slice (if n=0 then A else A.map (·.add (0*L.size))) (f.toNat - 0) (n - 0))= .slice A f.toNat n:=by
      grind[Addr.add]
     rw [y] at i;have z:=h.del M;have hlt:(l.take f.toNat).length=f.toNat:=by grind
     have rep:=z.newObj Z (w1:=c.w) (c.ρ k) (.slice A f.toNat n) h.kept (aR _) (λ_ _=>rfl)
      ⟨A,n,by grind,by omega,q3,by
       rcases O with O| ⟨O,cs,q5,q6,q7,q8⟩
       ·omega
       ·refine .inr ⟨by grind,cs,by grind,q6,?_,q8⟩;have:=q7.take f.toNat
        grind[Nat.mul_le_mul_right]⟩
      (λhw=>by
       obtain ⟨A',n',m',W,z2⟩:=hw;simp at W;have X:n≠0:=by omega
       have j:bf c k:=⟨_,v,A,_,n,q1,X⟩;have b:=h.mine k j
       exact ⟨b.1,b.2.1,b.2.2,λk' Y he=>by
        obtain ⟨W,z2⟩:=nl h M Y
        exact W (h.apart k' k z2 j he)⟩)
     obtain ⟨s1,s2,s3,s4,s5,s6⟩:=jA Z;refine bP (c1:=_) (p:= .own (4096*d)) (by exact i) rep (λx F=>((hg x F).of (st1:=st.del k) rfl).of s1) ?_ rfl (by rw [hd];exact g) hK
     grind[RepV]
    grind
   grind
  grind
 grind
theorem aiy {C:Ctx} (q:o.op= .slice t x s u mx) (h:Rep m w0 st a c) (M:∀x,o.dst=some x->bD st x)
 (b:Cf C.P t (aG st x) (s.map (aG st)) (u.map (aG st)) (mx.map (aG st)) o.dst st K=some r)
 (N:∀j I J,K j=some r->Rep m w0 j I J->next I J.w):o.upon C.P a next Q ((execOp a.eval o).run C.P c.w):=by
 unfold Cf at b;split at b
 ·rename_i k Z i O S v y z T;have f:=aZ h x;rw [S] at f;simp only [RepV] at f;split at b
  ·rename_i e L l U;split at b
   ·rename_i d;obtain ⟨d,V⟩:=d;have g:C.P.cellsOf O≠0:=by omega
    obtain ⟨B,b⟩:=b6 b;have D:c.ob k=some (.row e L l):=by rw [h.ob];exact U
    obtain ⟨A,n,q1,W,q3,q4⟩:=h.objs k _ D;have E:a.eval x= .slice A l.length n:=by grind
    have F:=oF h s;have G:=oF h u;have H:=oF h mx;have X:qh l.length (s.map (aG st)) (u.map (aG st)) (mx.map (aG st))=some (ae i (l.length+1),i.toNat,l.length,false):=by rw [v,y,z];rfl
    obtain ⟨Y,k2,k3,k4,k5⟩:=ym (P:=C.P) true c.w F G H X B W
    have p:(execOp a.eval o).run C.P c.w= .ok (.value (.slice (if n=i.toNat then A else A.map (·.add (i.toNat*L.size))) (l.length - i.toNat) (n - i.toNat))) c.w:=by
     simp only [execOp,q,Sem.run_bind,Instr.sliceAt,bh T,Result.andThen_ok,Instr.slice,E,Y,dQ,aH,kf g,Sem.run_pure,d]
    refine bP p h M ?_ rfl b N
    grind[RepV,my]
   grind
  grind
 grind
theorem ald (f:C.P=P) (b:o.op= .slice t x U hi mx) (h:Rep m w0 st a c) (g:∀x,o.dst=some x->bD st x) (d:be C o st K=some r)
 (i:∀j I J,K j=some r->Rep m w0 j I J->next I J.w):o.upon P a next Q ((execOp a.eval o).run P c.w):=by
 subst f;have k:=d;simp only [be,b] at d;split at d
 ·rename_i n e l;exact ak5 b l h g d i
 grind[ajo,aiy,alc]
theorem alw (hC:C.P=P) (H:o.op= .call {callee:= .builtin .copy,args,argTypes}) (h:Rep m w0 st a c) (hg:∀x,o.dst=some x->bD st x) (p:be C o st K=some r)
 (hK:∀I a' c',K I=some r->Rep m w0 I a' c'->next a' c'.w):o.upon P a next Q ((execOp a.eval o).run P c.w):=by
 subst hC;simp only [be,H] at p;split at p
 ·rename_i b x t u ha ht;have ha':args= #[b,x]:=by grind
  have ht':argTypes= #[t,u]:=by grind
  subst ha';subst ht';split at p
  ·rename_i e' e2 hu1 hu2;have f:=aZ h b;have J:=eM (P:=C.P) (aZ h x) u;unfold I8 at p;split at p
   ·rename_i k g n sz hbe;rw [hbe] at f;simp only [RepV] at f;obtain ⟨B,D,hb1,hb2⟩:=f;split at p
    ·rename_i e d l ho;split at p
     ·rename_i hsz;obtain ⟨hs1,hs2,hs3⟩:=hsz;subst hs1;split at p
      ·rename_i j L;obtain ⟨M,p⟩:=b6 p;simp only [bb,db] at M;obtain ⟨g1,g2⟩:=M;have hne':=by omega
       obtain ⟨hlen,new,N,i⟩:=Cn (P:=C.P) h J L (by omega);have y:c.ob k=some (.row e d l):=by rw [h.ob];exact ho
       obtain ⟨A,z,q1,q2,q3,O⟩:=h.objs k _ y;have hnl:=i.len;have S:=qw g1
       have T:∀w1,(match B with|some ad=>storeCells ad new.toList|none=>pure ():Sem Unit).run C.P c.w= .ok () w1->(execOp a.eval o).run C.P c.w= .ok (.value (.int .i64 j.length)) w1:=by
        intro w1 hst;have hso:(sizeOf e').run C.P c.w= .ok d.size c.w:=by grind[kf]
        have:(Builtin.copy_ #[t,u] o.type #[a.eval b,a.eval x]).run C.P c.w= .ok (goInt j.length) w1:=by
         unfold Builtin.copy_;simp only [DH,sJ,nJ,Sem.run_bind,bh hu1,Result.andThen_ok,hb1,hlen,S,hso,N]
         grind[Sem.run_pure,Result.andThen_ok,Sem.run_bind]
        simp only [execOp,H,Sem.run_bind,resolve,Sem.run_pure,Result.andThen_ok,invoke,builtin];simp [this,goInt]
       have U:(Lit.int .i64 (j.length:Int)).wf=true:=by
        grind[Lit.wf,IntKind.min,IntKind.max,IntKind.bits]
       have E:∀x,o.dst=some x->bD (st.setO k (.row e d (l.take g++j++l.drop (g+j.length)))) x:=λx J=>(hg x J).of rfl
       have hll:(l.take g++j++l.drop (g+j.length)).length=l.length:=by grind
       by_cases V:j= []
       ·subst V;have F:new.toList= []:=by grind
        have W:=T c.w (by rw [F];cases B <;>rfl);have heq:l.take g++ []++l.drop (g+ ([]:List d.den).length)=l:=by simp
        rw [heq] at p
        have rep:=h.setObj (o:= .row e d l) (o':= .row e d l) ho (w1:=c.w) c.ok h.kept (aR _) (λ_ _=>rfl) (λ_ f=>f) (λb f=>⟨h.ok b f,λX _ q G=>(h.mine X q).1 (G ▸ f)⟩)
         (λe1 t1 l1 hl=>by
          grind)
         ⟨A,z,q1,q2,q3,O⟩ (λZ=>⟨Z,(h.mine k ⟨_,y,Z.congr rfl⟩).1⟩)
        exact bP (c1:=_) (by omega) rep (λx J=>(hg x J).of rfl) (RepV.gS U) rfl p hK
       ·have hmp:=oR.2 V;have hB:=hb2 (by omega);subst hB;rcases O with O| ⟨O,cs,q5,q6,q7,q8⟩
        ·omega
        ·have hcp:z≠0:=by omega
         have s:bf c k:=⟨_,y,_,_,z,q1,hcp⟩;have v:=h.mine k s;have hmul:g*d.size+j.length*d.size<=z*d.size:=by rw [<-fI];exact fH _ (by omega)
         obtain ⟨w1,cs1,f1,f2,f3,f4,f5,f6,f7⟩:=uP (P:=C.P) h s q5 (vals:=new.toList) (off:=g*d.size) i.one (by omega);have W:=T w1 f1;have Y:∀b,c.ok b->b≠c.ρ k:=λb f G=>v.1 (G ▸ f)
         have rep:=h.setObj (o:= .row e d l) (o':= .row e d (l.take g++j++l.drop (g+j.length))) ho (w1:=w1) c.ok f5 (by omega)
          (λb f=>f7 b (by
           rcases f with f| ⟨X,q,f,rfl⟩
           ·grind
           ·exact λG=>q (h.apart X k f s G)))
          (λ_ f=>f) (λb f=>⟨by have:=h.ok b f;omega,λX _ q G=>(h.mine X q).1 (G ▸ f)⟩)
          (λe1 t1 l1 hl=>by
           grind)
          (by
           refine ⟨A,z,by grind,by omega,q3,.inr ⟨O,cs1,f2,by omega,?_,q8⟩⟩;have hcl:cs.toList.length=z*d.size:=by omega
           rw [hll,f3];have hL:l.length*d.size<=z*d.size:=fH _ q2;have hlo:g*d.size<=l.length*d.size:=fH _ (by omega);have hlm:(g+j.length)*d.size<=l.length*d.size:=fH _ (by omega)
           have e1:(cs.toList.take (g*d.size)++new.toList++cs.toList.drop (g*d.size+new.toList.length)).take (l.length*d.size)=
            (cs.toList.take (l.length*d.size)).take (g*d.size)++new.toList++ (cs.toList.take (l.length*d.size)).drop ((g+j.length)*d.size):=by
            rw [yK,qw hlo,hnl,<-fI,vA,kD (by grind)];congr 1;rw [JW]
            grind
           rw [e1];refine (((q7.take g).append i).append ?_).move (λb f=>f7 b (Y b f)) (λ_ f=>f)
           exact q7.drop (g+j.length))
          (λZ=>⟨by
           obtain ⟨A',n',m',z1,z2⟩:=Z
           exact ⟨A',n',m',z1,z2⟩,v.1⟩)
         exact bP (c1:=_) (by omega) rep E (RepV.gS U) rfl p hK
      grind
     grind
    grind
   grind
  grind
 grind
theorem aly (hC:C.P=P) (y:o.op= .call {callee:= .builtin .clear,args,argTypes}) (h:Rep m w0 st a c) (hg:∀x,o.dst=some x->bD st x) (p:be C o st K=some r)
 (hK:∀J a' c',K J=some r->Rep m w0 J a' c'->next a' c'.w):o.upon P a next Q ((execOp a.eval o).run P c.w):=by
 subst hC;simp only [be,y] at p;split at p
 ·rename_i b t ha ht;have Y:args= #[b]:=by grind
  have Z:argTypes= #[t]:=by grind
  subst Y;subst Z;split at p
  ·rename_i e' L;have f:=aZ h b;unfold Ja at p;split at p
   ·rename_i k g n sz hbe;rw [hbe] at f;simp only [RepV] at f;obtain ⟨B,D,M,hb2⟩:=f;split at p
    ·rename_i e ty l d E ho v;split at p
     ·rename_i hsz;obtain ⟨hs1,hs2,hs3⟩:=hsz;subst hs1;split at p
      ·rename_i hty;subst hty;obtain ⟨hgd,N⟩:=b6 p;clear p;have p:K ((st.setO k (.row e d (l.take g++List.replicate n E++l.drop (g+n)))).put o.dst .undef)=some r:=N;clear N;have g2:=nD hgd;obtain ⟨i,z,lz,hi,hz0,hzsz,hisz,hib,F,hof,hts,htp,hbp⟩:=oL v;have hzd:aJ c.w c.ok d E z.cells.toList:=Ty.fU hof (F c);have hzl:z.cells.size=d.size:=by omega
       have j:=Hv (e:=e') hzd hzl htp n;have O:=j.len;rw [yO] at O;have G:c.ob k=some (.row e d l):=by rw [h.ob];exact ho
       obtain ⟨A,H,q1,q2,q3,S⟩:=h.objs k _ G;have T:(l.take g++List.replicate n E++l.drop (g+n)).length=l.length:=by grind
       by_cases hn0:n=0
       ·subst hn0
        have s:(execOp a.eval o).run C.P c.w= .ok (.value (.tuple #[])) c.w:=by
         simp only [execOp,y,Sem.run_bind,resolve,Sem.run_pure,Result.andThen_ok,invoke,builtin];cases B <;>simp [Builtin.clear_,M,bh L]
        have heq:l.take g++List.replicate 0 E++l.drop (g+0)=l:=by simp
        rw [heq] at p
        have rep:=h.setObj (o:= .row e d l) (o':= .row e d l) ho (w1:=c.w) c.ok h.kept (aR _) (λ_ _=>rfl) (λ_ f=>f) (λb f=>⟨h.ok b f,λU _ u v=>(h.mine U u).1 (v ▸ f)⟩)
         (VB rfl)
         ⟨A,H,q1,q2,q3,S⟩ (λW=>⟨W,(h.mine k ⟨_,G,W.congr rfl⟩).1⟩)
        exact bP (c1:=_) (by exact s) rep (λx hx=>(hg x hx).of rfl) (RepV.vq _ _) rfl p hK
       ·have hB:=hb2 (by omega);subst hB;rcases S with S| ⟨S,cs,q5,q6,q7,q8⟩
        ·omega
        ·have hcp:H≠0:=by omega
         have q:bf c k:=⟨_,G,_,_,H,q1,hcp⟩;have I:=h.mine k q;have hmul:g*d.size+n*d.size<=H*d.size:=by rw [<-fI];exact fH _ (by omega)
         obtain ⟨w1,cs1,f1,f2,f3,f4,f5,f6,f7⟩:=uP (P:=C.P) h q q5 (vals:=(Builtin.zeroCells z.cells n).toList) (off:=g*d.size) j.one (by omega)
         have s:(execOp a.eval o).run C.P c.w= .ok (.value (.tuple #[])) w1:=by
          simp only [execOp,y,Sem.run_bind,resolve,Sem.run_pure,Result.andThen_ok,invoke,builtin];obtain ⟨X,rfl⟩:∃X,n=X+1:=⟨n - 1,by omega⟩;simp [Builtin.clear_,M,bh L,lq hi hz0,f1]
         have V:∀b,c.ok b->b≠c.ρ k:=λb f v=>(h.mine _ q).1 (v ▸ f)
         have rep:=h.setObj (o:= .row e d l) (o':= .row e d (l.take g++List.replicate n E++l.drop (g+n))) ho (w1:=w1) c.ok f5 (by omega)
          (λb f=>f7 b (by
           rcases f with f| ⟨U,u,f,rfl⟩
           ·grind
           ·exact λv=>u (h.apart U k f q v)))
          (λ_ f=>f) (λb f=>⟨by have:=h.ok b f;omega,λU _ u v=>(h.mine U u).1 (v ▸ f)⟩)
          (VB T)
          (by
           refine ⟨A,H,by grind,by omega,q3,.inr ⟨S,cs1,f2,by omega,?_,q8⟩⟩;have hcl:cs.toList.length=H*d.size:=by omega
           rw [T,f3];have hL:l.length*d.size<=H*d.size:=fH _ q2;have hlo:g*d.size<=l.length*d.size:=fH _ (by omega);have hlm:(g+n)*d.size<=l.length*d.size:=fH _ (by omega)
           have e1:(cs.toList.take (g*d.size)++ (Builtin.zeroCells z.cells n).toList++cs.toList.drop (g*d.size+ (Builtin.zeroCells z.cells n).toList.length)).take (l.length*d.size)=
            (cs.toList.take (l.length*d.size)).take (g*d.size)++ (Builtin.zeroCells z.cells n).toList++ (cs.toList.take (l.length*d.size)).drop ((g+n)*d.size):=by
            rw [yK,qw hlo,O,<-fI,vA,kD (by grind)];congr 1;rw [JW]
            grind
           rw [e1];refine (((q7.take g).append j).append ?_).move (λb f=>f7 b (V b f)) (λ_ f=>f)
           exact q7.drop (g+n))
          (λW=>⟨by
           obtain ⟨A',X,m',z1,E⟩:=W
           exact ⟨A',X,m',z1,E⟩,I.1⟩)
         exact bP (c1:=_) (by exact s) rep (λx hx=>(hg x hx).of rfl) (RepV.vq _ _) rfl p hK
      grind
     grind
    grind
   grind
  grind
 grind
end
end Go.Fw
namespace Go.Fw
open Go.RowKit (Below)
def Xg (w:World) (ok:Nat->Prop) (e:TypeId) (t:Ty) (l:List t.den) (v:Value) (b):=
 ∃A n,v= .slice A l.length n/\l.length<=n/\n<=9223372036854775807/\
  ((n=0/\b= [])\/∃g,b= [g]/\A=some ⟨g,0,none⟩/\∃cs,dj w g (some e) cs/\cs.size=n*t.size/\aT w ok t l (cs.toList.take (l.length*t.size))/\0<t.size)
def cA (w:World) (ok:Nat->Prop):Cx:={w:=w,ok:=ok,ρ:=λ_=>0,σ:=λ_=>undef,pin:=λ_=> [],ob:=λ_=>none}
def gx (w:World) (ok:Nat->Prop):PV->Value->List Nat->Prop
 | .fresh e t l,v,j=>Xg w ok e t l v j
 |p,v,j=>j= []/\RepV (cA w ok) p v
def iD (w:World) (ok:Nat->Prop):List PV->List Value->List Nat->Prop
 | [],vs,j=>vs= []/\j= []
 |p::r,vs,j=>∃v C b1 b,vs=v::C/\j=b1++b/\gx w ok p v b1/\iD w ok r C b
def gJ (w:World) (ok:Nat->Prop):PV->Value->List Nat->Prop
 | .agg c,v,j=>∃a,v= .agg a/\iD w ok c a.toList j
 |p,v,j=>gx w ok p v j
def iF (w:World) (ok:Nat->Prop):List PV->List Value->List Nat->Prop
 | [],vs,j=>vs= []/\j= []
 |p::r,vs,j=>∃v C b1 b,vs=v::C/\j=b1++b/\gJ w ok p v b1/\iF w ok r C b
def hZ (w:World) (ok:Nat->Prop):PV->Value->List Nat->Prop
 | .tup c,v,j=>∃a,v= .tuple a/\iF w ok c a.toList j
 |p,v,j=>gJ w ok p v j
def sC (w:World) (g:Nat) (t:Ty) (l:List t.den):=g<w.heap.size/\∀ (j) (x),l[j]?=some x->∃c,aJ w (λ_=>False) t x c/\∀ (i) (u),c[i]?=some u->w.cell? ⟨g,j*t.size+i,none⟩=some u
theorem sC.move (h:sC w g t l) (d:w.heap.size<=w1.heap.size) (b:w1.heap[g]?=w.heap[g]?):sC w1 g t l:=
 ⟨eW h.1 d,λj x e=>by
  obtain ⟨c,f,k⟩:=h.2 j x e
  exact ⟨c,f.move (λ_ b=>b.elim) (λ_ b=>b),λi u n=>by grind[vi]⟩⟩
def Ctx.GlobW (C:Ctx) (w:World) (ok:Nat->Prop):=∀g t l,C.glob g=some ⟨t,l⟩->ok g/\sC w g t l
def Ctx.GlobM (C:Ctx) (m:MM) (w0):=∀g t l,C.glob g=some ⟨t,l⟩->m.k g/\¬m.w g/\sC w0 g t l
theorem Ctx.GlobM.at {C:Ctx} (d:C.GlobM m w0) (h:Rep m w0 st a c) (e:C.glob g=some ⟨t,l⟩):c.ok g/\sC c.w g t l:=by
 obtain ⟨f,i,b⟩:=d g t l e;exact ⟨h.old g f,b.move h.kept.size (h.kept.block g b.1 i)⟩
theorem Ctx.GlobM.w {C:Ctx} (b:C.GlobM m w0) (h:Rep m w0 st a c):C.GlobW c.w c.ok:=λ_ _ _ d=>b.at h d
theorem Ctx.GlobW.mono {C:Ctx} (h:C.GlobW w ok) (e:∀b,ok b->ok' b):C.GlobW w ok':=λg t l d=>⟨e g (h g t l d).1,(h g t l d).2⟩
def iH (P:Program) (G:World->(Nat->Prop)->Prop) (f:FuncId) (args:List PV) (d):=
 ∀ (w) (ok) (vs),G w ok->(∀b,ok b->b<w.heap.size)->au (cA w ok) args vs.toList->
  Calls P f vs w λe w'=>∃v ok' g,e= .returned v/\Kept (λ_=>False) w w'/\(∀b,ok b->ok' b)/\(∀b,ok' b->b<w'.heap.size/\(ok b\/w.heap.size<=b))/\
   hZ w' ok' d v g/\g.Nodup/\∀b ∈ g,w.heap.size<=b/\b<w'.heap.size/\¬ok' b
def Ctx.oQ (C:Ctx):Prop:=
 (∀ (f:FuncId) (args:List PV) (R:Type) (K:PV->List (List PV)->Option R) (r:R),C.call f args K=some r->∃b,iH C.P C.GlobW f args b/\K b []=some r)/\
 (∀ (g:FuncId) (as:List PV) (st:St) (R:Type) (K:PV->St->Option R) (r:R),C.inl g as st K=some r->∀ (m:MM) (w0:World) (a:Act) (c:Cx) (vs:Array Value),C.GlobM m w0->Rep m w0 st a c->au c as vs.toList->
  Calls C.P g vs c.w λe w'=>∃u v d h,e= .returned u/\h.w=w'/\K v d=some r/\Rep m w0 d a h/\RepV h v u)/\
 ∀ (f:FuncId) (args:List PV) (v:PV),C.isExt f=true->C.ext f args=some v->∀ (c:Cx) (vs:Array Value),au c args vs.toList->∃u,(callFunc f vs).run C.P c.w= .ok (.value u) c.w/\RepV c v u
structure Ctx.OwedAt (C:Ctx) (m:MM) (w0:World):Prop where
 owed:C.oQ
 glob:C.GlobM m w0
def vu (st:St) (i):=∃e t l,st.obj i=some (.row e t l)
section
variable {P:Program} {m:MM} {w0:World} {st:St} {a:Act} {c:Cx}
structure Free (w0:World) (c:Cx) (bs:List Nat):Prop where
 nodup:bs.Nodup
 free:∀g ∈ bs,¬c.ok g/\w0.heap.size<=g/\g<c.w.heap.size/\∀k',bf c k'->c.ρ k'≠g
structure Bound (m:MM) (w0:World) (st st':St) (a:Act) (c c':Cx) (bs:List Nat):Prop where
 w:c'.w=c.w
 ok:c'.ok=c.ok
 rep:Rep m w0 st' a c'
 s:st'.s=st.s
 mv:Mv (vu st) c c'
 rows:∀i,vu st i->vu st' i
 own:∀k',bf c' k'->c'.ρ k' ∈ bs\/∃k'',bf c k''/\c.ρ k''=c'.ρ k'
theorem Bound.refl (h:Rep m w0 st a c):Bound m w0 st st a c c []:=
 ⟨rfl,rfl,h,rfl,⟨λ_ _=>rfl,λ_ h=>h,λ_ _=>rfl,λ_ _=>rfl,λk e t l _ b=>⟨e,l,b,rfl⟩⟩,λ_ h=>h,λd f=> .inr ⟨d,f,rfl⟩⟩
theorem Bound.trans (h:Bound m w0 st st1 a c c1 b1) (k:Bound m w0 st1 j a c1 C I):Bound m w0 st j a c C (b1++I):=by
 refine ⟨k.w.trans h.w,k.ok.trans h.ok,k.rep,k.s.trans h.s,?_,λi d=>k.rows i (h.rows i d),λo p=> ?_⟩
 ·exact ⟨λb f=>(k.mv.heap b (h.mv.ok b f)).trans (h.mv.heap b f),λb f=>k.mv.ok b (h.mv.ok b f),λi d=>(k.mv.ρ i (h.rows i d)).trans (h.mv.ρ i d),λi d=>(k.mv.σ i (h.rows i d)).trans (h.mv.σ i d),λi e t l d q=>by
   obtain ⟨x,y,g,r⟩:=k.mv.ob i e t l (h.rows i d) q;obtain ⟨z,A,n,u⟩:=h.mv.ob i _ _ _ d g
   grind⟩
 ·rcases k.own o p with g| ⟨v,g,r⟩
  ·grind
  ·rcases h.own v g with n| ⟨B,n,u⟩
   all_goals grind
theorem Free.next (h:Free w0 c (b1++j)) (k:Bound m w0 st st1 a c c1 b1):Free w0 c1 j:=by
 obtain ⟨p,b,q⟩:=nG.1 h.nodup;refine ⟨b,λg d=> ?_⟩;obtain ⟨e,f,i,r⟩:=h.free g (lK _ d);refine ⟨by rw [k.ok];exact e,f,by rw [k.w];exact i,λl n=> ?_⟩;rcases k.own l n with o| ⟨s,o,t⟩
 all_goals grind
theorem Free.left (h:Free w0 c (b1++j)):Free w0 c b1:=
 ⟨(nG.1 h.nodup).1,λg b=>h.free g (lL _ b)⟩
def yD (st:St) (p:PV):=∀i,p.refs i=true->vu st i
def Xi (st) (l):=∀i,PV.jJ l i=true->vu st i
theorem ai2 (st:St):Mv (λ_=>False) (cA c.w c.ok) c:=⟨λ_ _=>rfl,λ_ h=>h,λ_ h=>h.elim,λ_ h=>h.elim,λ_ _ _ _ h=>h.elim⟩
theorem Wr (h:Rep m w0 st a c) (q:gx c.w c.ok p v I) (G:Free w0 c I) (b:sy st k p=some (J,j)):
 ∃C,Bound m w0 st j a c C I/\RepV C J v/\yD j J:=by
 have plain:(∀i,p.refs i=false)->p=J->st=j->I= []->RepV (cA c.w c.ok) p v->∃C,Bound m w0 st j a c C I/\RepV C J v/\yD j J:=by
  rintro r rfl rfl rfl H;exact ⟨c,Bound.refl h,RepV.move (ai2 st) _ _ (λi d=>by grind) H,λi d=>by grind⟩
 cases p <;>simp only [sy] at b <;>try (simp at b;done)
 case fresh e t l=>
  split at b
  ·rename_i k st1 s;have r:=newNum_spec s;simp only [aB,aL] at b;obtain ⟨rfl,rfl⟩:=b;obtain ⟨g1,T,U,V,K,W⟩:=jA r;obtain ⟨A,n,q1,z,B,L⟩:=q
   have M:∀i,vu st i->i≠k:=by
    rintro i ⟨f,u,o,d⟩ rfl
    grind
   have fin:∀g,mz {w:=c.w,ok:=c.ok,ρ:=λi=>if i=k then g else c.ρ i,σ:=λi=>if i=k then v else c.σ i,pin:=c.pin,ob:=st1.obj} k (.row e t l)->
    (gm {w:=c.w,ok:=c.ok,ρ:=λi=>if i=k then g else c.ρ i,σ:=λi=>if i=k then v else c.σ i,pin:=c.pin,ob:=st1.obj} k (.row e t l)->g ∈ I)->
    ∃C,Bound m w0 st st1 a c C I/\RepV C (.own k) v/\yD st1 (.own k):=by
    intro g N x
    have rep:=h.newObj r (w1:=c.w) g v h.kept (aR _) (λ_ _=>rfl) N (λD=>by
     obtain ⟨X,Y,Z,f4⟩:=G.free g (x D)
     grind)
    refine ⟨{w:=c.w,ok:=c.ok,ρ:=λi=>if i=k then g else c.ρ i,σ:=λi=>if i=k then v else c.σ i,pin:=c.pin,ob:=st1.obj},⟨rfl,rfl,rep,g1,?_,?_,?_⟩,?_,?_⟩
    ·refine ⟨λ_ _=>rfl,λ_ b=>b,λi d=>by grind,λi d=>by grind,λi f u o d hl=>⟨f,o,?_,rfl⟩⟩;rw [h.ob]
     grind
    ·rintro i ⟨f,u,o,d⟩;exact ⟨f,u,o,by grind⟩
    ·rintro E ⟨o',F,y⟩;by_cases O:E=k
     ·grind
     ·simp only [K,ak O] at F;exact .inr ⟨E,⟨o',by rw [h.ob];exact F,y.congr (by grind)⟩,by grind⟩
    ·grind[RepV]
    ·intro i d;simp only [PV.refs] at d;have:=dD.1 d;subst this;exact ⟨e,t,l,by grind⟩
   rcases L with ⟨rfl,rfl⟩| ⟨g,rfl,rfl,cs,q5,Q,R,S⟩
   ·refine fin 0 ⟨A,0,by grind,z,B,.inl rfl⟩ (λx=> ?_);obtain ⟨_,_,_,D,hm⟩:=x
    grind
   ·exact fin g ⟨some ⟨g,0,none⟩,n,by grind,z,B,.inr ⟨by simp,cs,by grind,Q,R,S⟩⟩ (λ_=>by simp)
  grind
 all_goals
  simp only [aB,aL] at b;exact plain (λi=>by simp [PV.refs]) b.1 b.2 q.1 q.2
theorem Wq:∀{l I} {vs} {d} {st j} {c} {k},Rep m w0 st a c->iD c.w c.ok l vs d->Free w0 c d->qk st k l=some (I,j)->
 ∃U,Bound m w0 st j a c U d/\au U I vs/\Xi j I
 | [],I,vs,d,st,j,c,k,h,J,R,C=>by
   simp only [qk,aB,aL] at C;obtain ⟨rfl,rfl⟩:=C;obtain ⟨rfl,rfl⟩:=J;exact ⟨c,Bound.refl h,by simp [au],λi b=>by grind[PV.jJ]⟩
 |p::q,I,vs,d,st,j,c,k,h,J,R,C=>by
  obtain ⟨v,s,b1,A,rfl,rfl,t,J⟩:=J;simp only [qk] at C;split at C
  ·rename_i B st1 u;split at C
   ·rename_i D x y;simp only [aB,aL] at C;obtain ⟨rfl,rfl⟩:=C;obtain ⟨c1,e,g,f⟩:=Wr h t R.left u;obtain ⟨z,n,o,r⟩:=Wq e.rep (by rw [e.w,e.ok];exact J) (R.next e) y;refine ⟨z,e.trans n,?_,λi b=> ?_⟩
    ·simp only [au];exact ⟨v,s,rfl,RepV.move n.mv _ _ f g,o⟩
    ·simp only [PV.jJ,mE] at b;rcases b with b|b
     ·exact n.rows i (f i b)
     ·exact r i b
   grind
  grind
theorem Wp (h:Rep m w0 st a c) (d:gJ c.w c.ok p v C) (f:Free w0 c C) (b:sw st k p=some (I,j)):
 ∃J,Bound m w0 st j a c J C/\RepV J I v/\yD j I:=by
 cases p <;>simp only [sw] at b <;>try (simp only [gJ] at d;exact Wr h d f b)
 split at b
 ·rename_i q st1 g;simp only [aB,aL] at b;obtain ⟨rfl,rfl⟩:=b;obtain ⟨x,rfl,l⟩:=d;obtain ⟨c1,n,o,e⟩:=Wq h l f g;exact ⟨c1,n,by grind[RepV],λi r=>e i (by grind[PV.refs])⟩
 grind
theorem Ws:∀{l I} {vs} {d} {st j} {c} {k},Rep m w0 st a c->iF c.w c.ok l vs d->Free w0 c d->ql st k l=some (I,j)->
 ∃U,Bound m w0 st j a c U d/\au U I vs/\Xi j I
 | [],I,vs,d,st,j,c,k,h,J,R,C=>by
   simp only [ql,aB,aL] at C;obtain ⟨rfl,rfl⟩:=C;obtain ⟨rfl,rfl⟩:=J;exact ⟨c,Bound.refl h,by simp [au],λi b=>by grind[PV.jJ]⟩
 |p::q,I,vs,d,st,j,c,k,h,J,R,C=>by
  obtain ⟨v,s,b1,A,rfl,rfl,t,J⟩:=J;simp only [ql] at C;split at C
  ·rename_i B st1 u;split at C
   ·rename_i D x y;simp only [aB,aL] at C;obtain ⟨rfl,rfl⟩:=C;obtain ⟨c1,e,g,f⟩:=Wp h t R.left u;obtain ⟨z,n,o,r⟩:=Ws e.rep (by rw [e.w,e.ok];exact J) (R.next e) y;refine ⟨z,e.trans n,?_,λi b=> ?_⟩
    ·simp only [au];exact ⟨v,s,rfl,RepV.move n.mv _ _ f g,o⟩
    ·simp only [PV.jJ,mE] at b;rcases b with b|b
     ·exact n.rows i (f i b)
     ·exact r i b
   grind
  grind
theorem akS (h:Rep m w0 st a c) (e:hZ c.w c.ok p v C) (g:Free w0 c C) (b:su st d p=some (I,j)):
 ∃J,Bound m w0 st j a c J C/\RepV J I v/\yD j I:=by
 cases p <;>simp only [su] at b <;>try (simp only [hZ] at e;exact Wp h e g b)
 split at b
 ·rename_i q st1 k;simp only [aB,aL] at b;obtain ⟨rfl,rfl⟩:=b;obtain ⟨x,rfl,l⟩:=e;obtain ⟨c1,n,o,f⟩:=Ws h l g k;exact ⟨c1,n,by grind[RepV],λi r=>f i (by grind[PV.refs])⟩
 grind
end
section
variable {P:Program} {m:MM} {w0:World} {st:St} {a:Act} {c:Cx} {R:Type} {K:St->Option R} {r:R} {o:Oper} {next:Act->World->Prop} {Q:Exit->Act->World->Prop}
def fz:Ob->Ob
 | .row e t l=> .frow e t l
 |o=>o
theorem akl (o):fz (fz o)=fz o:=by cases o <;>rfl
theorem UR (st:St) (k i):(st.freeze k).obj i=if i=k then (st.obj i).map fz else st.obj i:=by
 unfold St.freeze;by_cases b:i=k
 ·subst b;rw [aw rfl]
  cases d:st.obj i with
  |none=>grind
  |some o=>
   cases o <;>simp only [d,sD,fz]
   grind[gR]
 grind[gR]
def yA (p:PV) (k):=p= .own k\/∃l,p= .agg l/\ .own k ∈ l
structure Froze (m:MM) (w0:World) (st st1:St) (a:Act) (c c1:Cx) (S:Nat->Prop):Prop where
 w:c1.w=c.w
 ρ:c1.ρ=c.ρ
 σ:c1.σ=c.σ
 ok:∀b,c.ok b->c1.ok b
 rep:Rep m w0 st1 a c1
 s:st1.s=st.s
 obj:∀i,st1.obj i=st.obj i\/st1.obj i=(st.obj i).map fz
 done:∀i,S i->st1.obj i=(st.obj i).map fz
theorem Froze.refl (h:Rep m w0 st a c):Froze m w0 st st a c c (λ_=>False):=⟨rfl,rfl,rfl,λ_ h=>h,h,rfl,λ_=> .inl rfl,λ_ h=>h.elim⟩
theorem UU (x:Option Ob):(x.map fz).map fz=x.map fz:=by cases x <;>simp [akl]
theorem Froze.more (h:Froze m w0 st st1 a c c1 S) (k):∃g,Froze m w0 st (st1.freeze k) a c g (λi=>S i\/i=k):=by
 obtain ⟨g,j,l,n,p,rep⟩:=h.rep.freeze k;refine ⟨g,j.trans h.w,l.trans h.ρ,n.trans h.σ,λb q=>p b (h.ok b q),rep,?_,λi=> ?_,λi d=> ?_⟩
 ·rw [<-h.s];unfold St.freeze;split <;>rfl
 ·rw [UR];by_cases d:i=k
  ·rw [aw d];rcases h.obj i with e|e <;>rw [e]
   all_goals grind[UU]
  ·rw [ak d];exact h.obj i
 ·rw [UR];by_cases f:i=k
  ·rw [aw f];rcases h.obj i with e|e <;>rw [e]
   exact UU _
  ·rw [ak f];rcases d with d|d
   ·exact h.done i d
   omega
theorem Froze.weaken (h:Froze m w0 st st1 a c c1 S) (b:∀i,S' i->S i):Froze m w0 st st1 a c c1 S':=
 ⟨h.w,h.ρ,h.σ,h.ok,h.rep,h.s,h.obj,λi d=>h.done i (b i d)⟩
theorem akm (h:Froze m w0 st st1 a c c1 S) (p):∃d,Froze m w0 st (sk st1 p) a c d (λi=>S i\/yA p i):=by
 have leaf:∀ (l:List PV) (st1) (c1:Cx) (S:Nat->Prop),Froze m w0 st st1 a c c1 S->∃d,Froze m w0 st (l.foldl (λst v=>match v with| .own k=>st.freeze k|_=>st) st1) a c d (λi=>S i\/ .own i ∈ l):=by
  intro l
  induction l with
  |nil=>intro st1 c1 S h;exact ⟨c1,h.weaken (by simp)⟩
  |cons v q f=>
   intro st1 c1 S h;rw [nK];cases v <;>try (obtain ⟨d,e⟩:=f _ _ _ h;exact ⟨d,e.weaken (by simp)⟩)
   rename_i k;obtain ⟨d,e⟩:=h.more k;obtain ⟨g,j⟩:=f _ _ _ e;refine ⟨g,j.weaken (λi b=> ?_)⟩
   grind
 cases p <;>simp only [sk] <;>try exact ⟨c1,h.weaken (λi b=>by rcases b with b|b| ⟨l,b,_⟩ <;>first|exact b| (cases b))⟩
 ·rename_i k;obtain ⟨d,e⟩:=h.more k;exact ⟨d,e.weaken (λi b=>by rcases b with b|b| ⟨l,b,_⟩;all_goals grind)⟩
 ·rename_i l;obtain ⟨d,e⟩:=leaf l st1 c1 S h;exact ⟨d,e.weaken (λi b=>by rcases b with b|b| ⟨n,b,s⟩;all_goals grind)⟩
theorem VO:∀ (args:List PV) {st1} {c1} {S},Froze m w0 st st1 a c c1 S->∃b,Froze m w0 st (args.foldl sk st1) a c b (λi=>S i\/∃p ∈ args,yA p i)
 | [],st1,c1,S,h=>⟨c1,h.weaken (by simp)⟩
 |p::q,st1,c1,S,h=>by
  obtain ⟨b,j⟩:=akm h p;obtain ⟨d,e⟩:=VO q j;rw [nK];refine ⟨d,e.weaken (λi f=> ?_)⟩
  grind
def vp (st:St) (c:Cx) (ok2) (k):=
 ∀e t l,(st.obj k=some (.row e t l)\/st.obj k=some (.frow e t l))->∃A n,c.σ k= .slice A l.length n/\l.length<=n/\n<=9223372036854775807/\jH c.w ok2 t A l
theorem ak7 (d:∀b,c.ok b->ok2 b) (q:RepV c p v)
 (f:∀k,p= .own k->vp st c ok2 k) (h:nA st p=some C) (z:∀l,p≠ .agg l):RepV (cA c.w ok2) C v:=by
 have B:Mv (λ_=>False) c (cA c.w ok2):=⟨λ_ _=>rfl,d,λ_ h=>h.elim,λ_ h=>h.elim,λ_ _ _ _ h=>h.elim⟩;have plain:(∀i,p.refs i=false)->p=C->RepV (cA c.w ok2) C v:=λD e=>e ▸ RepV.move B _ _ (λi E=>by grind) q
 cases p <;>simp only [nA] at h <;>try (simp at h;done)
 case own k=>
  simp only [RepV] at q;have y:=f k rfl;split at h
  ·rename_i e t l s;simp only [aB] at h;subst h;obtain ⟨A,n,u,x,g,j⟩:=y e t l (.inl s);simp only [RepV];exact ⟨A,n,by grind,x,g,j⟩
  ·rename_i e t l s;simp only [aB] at h;subst h;obtain ⟨A,n,u,x,g,j⟩:=y e t l (.inr s);simp only [RepV];exact ⟨A,n,by grind,x,g,j⟩
  grind
 case full e t l=>
  simp only [aB] at h;subst h;simp only [RepV] at q ⊢;obtain ⟨A,u,g,j⟩:=q;exact ⟨A,u,g,j.move (λ_ _=>rfl) d⟩
 all_goals grind[RepV,PV.refs,PV.jJ]
theorem Wu (d:∀b,c.ok b->ok2 b):∀{l C} {vs},au c l vs->(∀k,.own k ∈ l->vp st c ok2 k)->nA.go st l=some C->au (cA c.w ok2) C vs
 | [],C,vs,J,_,h=>by
   grind[nA.go,au]
 |p::q,C,vs,J,j,h=>by
  simp only [au] at J;obtain ⟨v,I,rfl,U,hr⟩:=J;have x:∀f,nA.go st q=some f->au (cA c.w ok2) f I:=λf y=>Wu d hr (λk F=>j k (by grind)) y
  have G:Mv (λ_=>False) c (cA c.w ok2):=⟨λ_ _=>rfl,d,λ_ h=>h.elim,λ_ h=>h.elim,λ_ _ _ _ h=>h.elim⟩
  have plain:(∀i,p.refs i=false)->(nA.go st q).map (p:: ·)=some C->au (cA c.w ok2) C (v::I):=λH L=>by
   grind[Option.map_eq_some_iff,au,RepV.move]
  cases p <;>simp only [nA.go] at h <;>try (simp at h;done)
  case own k=>
   have g:=j k (by simp);simp only [RepV] at U;split at h
   ·rename_i e t l z B D;simp only [aB] at h;subst h;obtain ⟨A,n,g1,E,s,u⟩:=g e t l (.inl B);simp only [au,RepV];exact ⟨v,I,rfl,⟨A,n,by grind,E,s,u⟩,x z D⟩
   ·rename_i e t l z B D;simp only [aB] at h;subst h;obtain ⟨A,n,g1,E,s,u⟩:=g e t l (.inr B);simp only [au,RepV];exact ⟨v,I,rfl,⟨A,n,by grind,E,s,u⟩,x z D⟩
   grind
  case full e t l=>
   obtain ⟨f,y,rfl⟩:=Dw.1 h;simp only [RepV] at U;obtain ⟨A,g1,s,u⟩:=U;simp only [au,RepV];exact ⟨v,I,rfl,⟨A,_,g1,aR _,s,u.move (λ_ _=>rfl) d⟩,x f y⟩
  all_goals grind[PV.refs]
theorem ak6 (e:∀b,c.ok b->ok2 b) (f:RepV c p v) (d:∀k,yA p k->vp st c ok2 k) (h:nA st p=some C):RepV (cA c.w ok2) C v:=by
 by_cases j:∃l,p= .agg l
 ·obtain ⟨l,rfl⟩:=j;simp only [nA] at h;obtain ⟨q,n,rfl⟩:=Dw.1 h;simp only [RepV] at f ⊢;obtain ⟨x,rfl,g⟩:=f;exact ⟨x,rfl,Wu e g (λk i=>d k (.inr ⟨l,rfl,i⟩)) n⟩
 ·exact ak7 e f (λk i=>d k (.inl i)) h (λl g=>j ⟨l,g⟩)
theorem Jl (d:∀b,c.ok b->ok2 b):∀{l C} {vs},au c l vs->(∀p ∈ l,∀k,yA p k->vp st c ok2 k)->yq st l=some C->au (cA c.w ok2) C vs
 | [],C,vs,I,_,h=>by
   grind[yq,au]
 |p::q,C,vs,I,j,h=>by
  simp only [au] at I;obtain ⟨v,J,rfl,U,hr⟩:=I;simp only [yq] at h;split at h
  ·rename_i p1 g e f;simp only [aB] at h;subst h;simp only [au];exact ⟨v,J,rfl,ak6 d U (j p (by simp)) e,Jl d hr (λp i=>j p (by grind)) f⟩
  grind
theorem VU (b:uW p=true) (h:gx w ok p v j):gx w' ok' p v j/\j= []:=by
 cases p <;>simp only [uW] at b <;>try (simp at b;done)
 all_goals
  obtain ⟨d,e⟩:=h;refine ⟨⟨d,?_⟩,d⟩;simpa [RepV] using e
theorem VR :∀{l} {vs} {b},l.all uW=true->iD w ok l vs b->iD w' ok' l vs b/\b= []
 | [],vs,b,_,h=>⟨h,h.2⟩
 |p::q,vs,b,j,h=>by
  simp only [JY,bb] at j;obtain ⟨v,C,b1,U,rfl,rfl,I,J⟩:=h;obtain ⟨g1,rfl⟩:=VU (w':=w') (ok':=ok') j.1 I;obtain ⟨d,rfl⟩:=VR (w':=w') (ok':=ok') j.2 J;exact ⟨⟨v,C,[],[],rfl,rfl,g1,d⟩,rfl⟩
theorem VQ (b:uV p=true) (h:gJ w ok p v j):gJ w' ok' p v j/\j= []:=by
 cases p <;>simp only [gJ] at h ⊢ <;>simp only [uV] at b <;>try exact VU b h
 grind[VR]
theorem VS :∀{l} {vs} {b},yf l=true->iF w ok l vs b->iF w' ok' l vs b/\b= []
 | [],vs,b,_,h=>⟨h,h.2⟩
 |p::q,vs,b,J,h=>by
  obtain ⟨v,j,b1,U,rfl,rfl,C,I⟩:=h;have d:uV p=true/\yf q=true:=by grind[yf]
  obtain ⟨g1,rfl⟩:=VQ (w':=w') (ok':=ok') d.1 C;obtain ⟨e,rfl⟩:=VS (w':=w') (ok':=ok') d.2 I;exact ⟨⟨v,j,[],[],rfl,rfl,g1,e⟩,rfl⟩
theorem akp (b:uX p=true) (h:hZ w ok p v j):hZ w' ok' p v j/\j= []:=by
 cases p <;>simp only [hZ] at h ⊢ <;>simp only [uX] at b <;>try exact VQ b h
 grind[VS]
end
end Go.Fw
