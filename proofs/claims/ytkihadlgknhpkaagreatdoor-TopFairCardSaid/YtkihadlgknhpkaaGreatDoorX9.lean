/- Part 9: lemmas that the last text needs. -/
import Derived.Test.YtkihadlgknhpkaaGreatDoorX8
import Derived.Test.YtkihadlgknhpkaaGreatDoorX6
import Derived.OrdersHeld
set_option linter.all false
set_option autoImplicit true
set_option relaxedAutoImplicit true
namespace Go.Fw
open Go.RowKit (Below)
section
variable {P:Program} {m:MM} {w0:World} {st:St} {a:Act} {c:Cx} {R:Type} {K:St->Option R} {r:R} {o:Oper} {next:Act->World->Prop} {Q:Exit->Act->World->Prop}
theorem Kept.weaken {m m'} (h:Kept m w w') (d:∀b,m b->m' b):Kept m' w w':=⟨h.os,h.tape,h.output,h.size,λk e f=>h.block k e (λg=>f (d k g)),h.drawn⟩
theorem Wk (hS:C.OwedAt m w0) (h:Rep m w0 st a c) (hg:∀x,o.dst=some x->bD st x) (D:au c args vs.toList)
 (T:(execOp a.eval o).run C.P c.w= .ok (.enter f vs) c.w) (hr:ss C f args o.dst st K=some r)
 (hK:∀U a' c',K U=some r->Rep m w0 U a' c'->Kept (λ_=>False) c.w c'.w->next a' c'.w):o.upon C.P a next Q ((execOp a.eval o).run C.P c.w):=by
 unfold ss at hr;split at hr
 ·rename_i as d has hd;obtain ⟨H,L,j⟩:=hS.owed.1 f as R _ r hr
  have fin:∀ (st1:St) (c1:Cx) (v:Value) (w':World) (ok':Nat->Prop) (M:List Nat) (p:PV) (y:St),Rep m w0 st1 a c1->c1.w=c.w->st1.s=st.s->Kept (λ_=>False) c.w w'->(∀b,c1.ok b->ok' b)->(∀b,ok' b->b<w'.heap.size/\(c1.ok b\/c.w.heap.size<=b))->
   hZ w' ok' H v M->M.Nodup->(∀b ∈ M,c.w.heap.size<=b/\b<w'.heap.size/\¬ok' b)->su st1 d H=some (p,y)->K (y.set d p)=some r->next (a.put o.dst v) w':=by
   intro st1 c1 v w' ok' M p y rep hw hs z O V W I J i hkr;obtain ⟨X,mv1⟩:=rep.grow (w1:=w') ok' (rep.kept.trans (by rw [hw];exact z.weaken (λ_ h=>h.elim))) (by rw [hw];exact z.size) (λb i=>by rw [hw] at i ⊢;exact z.block b i id) O (λb i=>by grind)
   have S:Free w0 {w:=w',ok:=ok',ρ:=c1.ρ,σ:=c1.σ,pin:=c1.pin,ob:=c1.ob} M:=⟨I,λg hg=>by
    obtain ⟨z1,z2,z3⟩:=J g hg;refine ⟨z3,by have:=h.kept.size;omega,z2,λk' hk' he=> ?_⟩
    have:bf c1 k':=by
     obtain ⟨o',ho',hw'⟩:=hk';exact ⟨o',ho',hw'.congr (c:={w:=w',ok:=ok',ρ:=c1.ρ,σ:=c1.σ,pin:=c1.pin,ob:=c1.ob}) (c1:=c1) rfl⟩
    have:=(rep.mine k' this).2.2
    grind⟩
   obtain ⟨c2,B,hp,bd⟩:=akS X W S i
   have Y:p.isGd=false:=by
    cases p <;>try rfl
    exfalso;revert i;cases H <;>simp only [su,sw,sy] <;>(try (intro i;simp at i;done)) <;>(grind)
   have:=hK (y.set d p) (a.put o.dst v) c2 hkr (by
    have:=B.rep.put (some d) (p:=p) (v:=v) (bI.of hp (np Y)) (λx hx=>⟨((hg x (by grind)).of hs).of B.s,λs w q he=>absurd he (np Y s w q)⟩)
    rw [hd];exact this) (by rw [B.w];exact z)
   rw [B.w] at this;omega
  rw [T,Oper.upon_enter]
  cases hf:uX H with
  |true=>
   rw [hf] at j;simp only [ah] at j;split at j
   ·rename_i p y i
    have E:∀k,vp st c (λb=>b<c.w.heap.size) k:=by
     intro k e t l G;rcases G with G|G
     ·obtain ⟨A,n,Z,h2,h3,N⟩:=h.objs k _ (by rw [h.ob];exact G);refine ⟨A,n,Z,h2,h3,λh0=> ?_⟩;rcases N with N| ⟨N,cs,h5,h6,h7,h8⟩
      ·omega
      ·exact ⟨c.ρ k,0,N,h5.lt,uN h5 (h7.move (w1:=c.w) (ok1:=λb=>b<c.w.heap.size) (λ_ _=>rfl) (λb i=>h.ok b i))⟩
     ·obtain ⟨A,n,Z,h2,h3,N⟩:=h.objs k _ (by rw [h.ob];exact G);exact ⟨A,n,Z,h2,h3,N.move (λ_ _=>rfl) (λb i=>h.ok b i)⟩
    have u:=Jl (ok2:=λb=>b<c.w.heap.size) (λb i=>h.ok b i) D (λp _ k _=>E k) has;refine (L c.w (λb=>b<c.w.heap.size) vs ((hS.glob.w h).mono (λb i=>h.ok b i)) (λ_ i=>i) u).mono ?_;rintro e w' ⟨v,ok',M,rfl,z,_,_,W,I,J⟩;obtain ⟨hv2,rfl⟩:=akp (w':=w') (ok':=c.ok) hf W;exact fin st c v w' c.ok [] p y h rfl rfl z (λ_ i=>i) (λb i=>⟨eW (h.ok b i) z.size,.inl i⟩) hv2 mD (by simp) i j
   grind
  |false=>
   rw [hf] at j;simp only [aa] at j;split at j
   ·rename_i p y i;obtain ⟨c1,F⟩:=VO args (Froze.refl h)
    have E:∀k,(∃p ∈ args,yA p k)->vp st {c with ok:=c1.ok} c1.ok k:=by
     intro k z e t l G;have hd1:=F.done k (.inr z)
     have hob:c1.ob k=some (.frow e t l):=by
      rw [F.rep.ob,hd1];rcases G with G|G <;>rw [G] <;>rfl
     obtain ⟨A,n,Z,h2,h3,N⟩:=F.rep.objs k _ hob;exact ⟨A,n,by rw [<-F.σ];exact Z,h2,h3,by have:=N;rw [F.w] at this;omega⟩
    have hm:Mv (λ_=>True) c {c with ok:=c1.ok}:=⟨λ_ _=>rfl,F.ok,λ_ _=>rfl,λ_ _=>rfl,λk e t l _ hl=>⟨e,l,hl,rfl⟩⟩;have u:=Jl (c:={c with ok:=c1.ok}) (ok2:=c1.ok) (λb i=>i) (au.move hm _ _ (λ_ _=>aO) D) (λp hp k z=>E k ⟨p,hp,z⟩) has;refine (L c.w c1.ok vs ((hS.glob.w h).mono F.ok) (λb i=>by rw [<-F.w];exact F.rep.ok b i) u).mono ?_;rintro e w' ⟨v,ok',M,rfl,z,O,V,W,I,J⟩;exact fin _ c1 v w' ok' M p y F.rep F.w F.s z O V W I J i j
   grind
 grind
theorem akM (e:C.OwedAt m w0) (h:Rep m w0 st a c) (g:∀x,o.dst=some x->bD st x) (b:au c args vs.toList)
 (d:(execOp a.eval o).run C.P c.w= .ok (.enter f vs) c.w) (i:ss C f args o.dst st K=some r)
 (k:∀j I J,K j=some r->Rep m w0 j I J->next I J.w):o.upon C.P a next Q ((execOp a.eval o).run C.P c.w):=
 Wk e h g b d i λj I J l n _=>k j I J l n
theorem Ce (h:Rep m w0 st a c):∀ (l:List Operand) (ts),l.length=ts.length->au c ((l.zip ts).map λp=>cN P p.2 (aG st p.1)) (l.map a.eval)
 | [],[],_=>by simp [au]
 | [],_::_,h=>by grind
 |_::_,[],h=>by grind
 |x::q,t::ts,j=>by
  simp only [List.zip_cons_cons,eX,au];exact ⟨_,_,rfl,eM (aZ h x) t,Ce h q ts (by grind)⟩
theorem alz (M:C.P=P) (E:C.OwedAt m w0) (p:o.op= .call {callee:= .value f,args,argTypes}) (h:Rep m w0 st a c) (F:∀x,o.dst=some x->bD st x) (b:be C o st K=some r)
 (G:∀q H I,K q=some r->Rep m w0 q H I->next H I.w):o.upon P a next Q ((execOp a.eval o).run P c.w):=by
 subst M;simp only [be,p] at b;have s:=aZ h f;split at b
 ·rename_i g caps t;rw [t] at s;simp only [RepV] at s;obtain ⟨J,z,e⟩:=s
  cases i:C.isExt g with
  |true=>
   rw [i] at b;simp only [ah] at b;unfold IU at b;split at b
   ·rename_i v N;obtain ⟨O,b⟩:=b6 b
    have j:au c (args.toList.map (aG st)) (args.map a.eval).toList:=by
     rw [vN]
     have:∀l:List Operand,au c (l.map (aG st)) (l.map a.eval):=by
      intro l
      induction l with
      |nil=>simp [au]
      |cons y r T=>grind[au,aZ]
     grind
    obtain ⟨u,U,A⟩:=E.owed.2.2 g _ v i N c _ j;have B:J= #[]:=by grind[au]
    subst B;refine bP (v:=u) ?_ h F A ?_ b G
    ·grind[execOp,resolve,Deferred.ofValue,invoke]
    ·cases v <;>first|rfl|grind[uX,uV,uW]
   grind
  |false=>
  rw [i] at b;simp only [aa] at b;obtain ⟨L,b⟩:=b6 b;simp only [bb,db] at L;obtain ⟨d,S⟩:=L;unfold qg at d;split at d
  ·rename_i fn D;simp only [bb,nE] at d;refine akM E (vs:=(args.map a.eval)++J) h F ?_ ?_ b G
   ·rw [sM,vN];exact (Ce h args.toList argTypes.toList (by omega)).append e
   ·have k:fn.body.isNone=false:=by simp_all
    have n:(fn.name== "runtime.NumGoroutine")=false:=by grind
    simp only [execOp,p,Sem.run_bind,resolve,z,Deferred.ofValue,Sem.run_pure,Result.andThen_ok,invoke,Array.empty_append,callFunc,run_program,D,n,k,dQ,aH]
  grind
 grind
theorem WG (q:C.OwedAt m w0) (h:Rep m w0 st a c) (k:∀x,o.dst=some x->bD st x) (e:be C o st K=some r)
 (l:∀I J U,K I=some r->Rep m w0 I J U->next J U.w):o.upon C.P a next Q ((execOp a.eval o).run C.P c.w):=by
 cases g:o.op with
 |pick x y z=>grind[ali]
 |binOp op t x y u=>grind[alD]
 |indexAddr t x i=>exact alr rfl (λ_ _ _ p=>q.glob.at h p) g h k e l
 |index t x i=>grind[als]
 |alloc t=>grind[alF]
 |box t x=>grind[alC]
 |build t j=>grind[alB]
 |buildSlice t n j=>grind[alA]
 |store t x y=>grind[alb]
 |makeSlice t x y=>grind[alm]
 |slice t x A B mx=>grind[ald]
 |convert s d x=>grind[alx]
 |call v=>
  obtain ⟨callee,args,argTypes⟩:=v
  cases callee with
  |value f=>grind[alz]
  |invoke x y=>simp [be,g] at e
  |builtin b=>
   cases b <;>first
    |exact alE rfl g h k e l
    |exact alp rfl g h k e l
    |exact alw rfl g h k e l
    |exact aly rfl g h k e l
    | (simp [be,g] at e;done)
 |lookup t x y ok=>grind[alo]
 |range t x=>grind[ale]
 |entry x=>grind[alv]
 |next x b=>
  cases b with
  |true=>simp [be,g] at e
  |false=>grind[alj]
 |mapUpdate t x y z=>grind[WE]
 |mapEntry t x y=>grind[alk]
 |entryStore t x y z=>grind[alu]
 |insert t x y z=>grind[alq]
 |makeMap t r=>
  cases r with
  |none=>grind[aln]
  |some r=>simp [be,g] at e
 |_=>simp [be,g] at e
theorem aiB (h:ungd1 s w p= .gd j w' v):p= .gd j w' v:=by
 cases p <;>simp only [ungd1] at h <;>try (simp at h;done)
 grind[pX,PV.isGd]
theorem Sized.ungd1 (h:Sized n x) (s) (w):Sized n (x.map (ungd1 s w)):=h.map _ rfl λ_ _ _ _=>aiB
theorem xK (h:Rep m w0 st a c) (hs:a.tmps.getD s undef= .bool w):Rep m w0 ⟨st.s.map (ungd1 s w),st.o⟩ a c:=by
 refine ⟨h.size.ungd1 s w,λd=> ?_,h.defers,h.ob,h.objs,h.apart,h.mine,h.ok,h.kept,h.old,h.new,h.pin⟩;have:(St.get ⟨st.s.map (ungd1 s w),st.o⟩ d)=ungd1 s w (st.get d):=ye _ rfl _ _;rw [this];have hd:=h.slots d;cases hp:st.get d <;>rw [hp] at hd <;>simp only [ungd1] <;>try exact hd
 grind[dD,bI,bI.of,uM,np,pX]
theorem aiA (h:bD st d):bD ⟨st.s.map (ungd1 s w),st.o⟩ d:=by
 intro i s' w' v he;have:(St.get ⟨st.s.map (ungd1 s w),st.o⟩ i)=ungd1 s w (st.get i):=ye _ rfl _ _;rw [this] at he;cases hp:st.get i <;>rw [hp] at he <;>simp only [ungd1] at he <;>try (simp at he;done)
 rename_i s2 w2 v2
 cases hc:(Nat.beq s2 s && (w2==w)) with
 |false=>
  rw [hc] at he;simp only [aa,PV.gd.injEq] at he;exact he.1 ▸ h i s2 w2 v2 hp
 |true=>
  grind[pX,PV.isGd]
theorem U7 (h:Rep m w0 st a c) (hs:a.tmps.getD s undef= .bool w):Rep m w0 (st.set s (.bool w)) a c:=by
 refine ⟨h.size.set _ _,λd=> ?_,h.defers,h.ob,h.objs,h.apart,h.mine,h.ok,h.kept,h.old,h.new,h.pin⟩;have:(st.set s (.bool w)).get d=if d=s/\st.s.has s=true then .bool w else st.get d:=qd _ _ _ _
 rw [this];split
 ·grind[bI,RepV]
 ·exact h.slots d
theorem Uy (h:bD st d):bD (st.set s (.bool w)) d:=by
 intro i s' w' v he;have:(st.set s (.bool w)).get i=if i=s/\st.s.has s=true then .bool w else st.get i:=qd _ _ _ _
 rw [this] at he;split at he
 ·grind
 ·exact h i s' w' v he
theorem aiC (w):(undef:Value)≠ .bool w:=by simp [undef]
theorem IX :∀ (n s) (w) (st) {b e},Rep m w0 st a c->(∀x,d=some x->bD st x)->oK ops n s w st b e=some r->
 (a.tmps.getD s undef= .bool w/\∃j,Rep m w0 j a c/\(∀x,d=some x->bD j x)/\b j=some r)\/
 (a.tmps.getD s undef≠ .bool w/\∃j,Rep m w0 j a c/\(∀x,d=some x->bD j x)/\e j=some r)
 |0,s,w,st,b,e,h,J,C=>by grind[oK]
 |n+1,s,w,st,b,e,h,J,C=>by
  unfold oK at C;have I:=h.slots s;cases f:st.get s <;>rw [f] at C I <;>try (simp at C;done)
  case bool g=>
   simp only [bI,RepV] at I;simp only at C;by_cases i:g=w
   ·subst i;simp only [bJ,ah] at C;exact .inl ⟨I,_,xK (U7 h I) I,λx v=>aiA (Uy (J x v)),C⟩
   ·have k:(g==w)=false:=by grind
    rw [k] at C;simp only [aa] at C;have y:g= !w:=by cases g <;>cases w <;>simp_all
    grind[U7,Uy]
  case gd l w1 q=>
   simp only [bI] at I;simp only at C
   cases k:ops.toList.any (λo=>mn o.dst l) with
   |false=>grind
   |true=>
   rw [k] at C;simp only [ah] at C;rcases IX n l w1 st h J C with ⟨z,st1,p,t,u⟩| ⟨z,st1,p,t,u⟩
   ·exact IX n s w st1 p t u
   grind[aiC]
theorem yi (S:C.OwedAt m w0) (h:Rep m w0 st a c) (b:lC C ops o st K=some r)
 (y:∀I J U,K I=some r->Rep m w0 I J U->next J U.w):
 if Region.wanted o (yielded ops a.tmps)=true then o.wp C.P a c.w next Q else next (a.put o.dst undef) c.w:=by
 unfold lC at b
 cases e:jC st.s o.dst with
 |true=>grind
 |false=>
  rw [e] at b;simp only [aa] at b
  have z:∀x,o.dst=some x->bD st x:=by
   intro x l;rw [l] at e;exact II h.size e
  have d:∀ (st1) (p),Rep m w0 st1 a c->gG C.P st1 o=some p->∃v,(execOp a.eval o).run C.P c.w= .ok (.value v) c.w/\RepV c p v:=λst1 p F f=>H9 F f
  cases g:o.guard with
  |none=>
   rw [g] at b;have A:Region.wanted o (yielded ops a.tmps)=true:=by grind[Region.wanted]
   rw [aw A];unfold Oper.wp
   cases f:gG C.P st o with
   |some p=>
    rw [f] at b;obtain ⟨v,n,B⟩:=d st p h f;exact bP n h z (uM B) (pX _) b y
   |none=>
    grind[WG]
  |some G=>
   obtain ⟨j,w⟩:=G;rw [g] at b;simp only at b
   cases D:(ops[j]?).bind (·.dst) with
   |none=>grind
   |some s=>
    rw [D] at b;simp only at b
    have i:Region.wanted o (yielded ops a.tmps)=true↔a.tmps.getD s undef= .bool w:=by
     simp only [Region.wanted,g,yielded,D,ai];rw [oV]
     grind[undef]
    cases k:mn o.dst s with
    |true=>grind
    |false=>
     rw [k] at b;simp only [aa] at b
     have H:∀x,o.dst=some x->x≠s:=by
      grind[mn,sA]
     cases f:gG C.P ⟨st.s.map (ungd1 s w),st.o⟩ o with
     |some p=>
      rw [f] at b;simp only at b
      have put:∀v:Value,(a.tmps.getD s undef= .bool w->RepV c p v)->(a.tmps.getD s undef≠ .bool w->v=undef)->next (a.put o.dst v) c.w:=by
       intro v B L;refine y _ _ c b (h.put o.dst (p:= .gd s w (unw.san p)) (v:=v) ?_ (λx l=>⟨z x l,λT w' q M=> ?_⟩))
       all_goals grind[bI,uM]
      grind[xK,Oper.wp,Oper.upon_value]
     |none=>
      rw [f] at b;simp only at b;rcases IX (ops:=ops) 6 s w st h z b with ⟨V,I,E,t,u⟩| ⟨N,I,E,t,u⟩
      ·grind[Oper.wp,WG]
      ·have A:¬Region.wanted o (yielded ops a.tmps)=true:=λO=>N (i.1 O)
       rw [ak A];exact y _ _ c u (E.put o.dst (bI.of (RepV.vq _ _) (by simp)) (λx l=>⟨t x l,λs w q M=>by grind⟩))
end
section
variable {P:Program} {m:MM} {w0:World} {st:St} {a:Act} {c:Cx} {R:Type} {K:St->Option R} {r:R} {o:Oper} {next:Act->World->Prop} {Q:Exit->Act->World->Prop}
theorem Uk (h:Rep m w0 st a c):Rep m w0 st.ungd a c:=by
 refine ⟨h.size.ungd,λd=> ?_,h.defers,h.ob,h.objs,h.apart,h.mine,h.ok,h.kept,h.old,h.new,h.pin⟩;have:(St.get st.ungd d)=Fw.ungd (st.get d):=VG _ _;rw [this];have hd:=h.slots d;cases hp:st.get d <;>rw [hp] at hd <;>simp only [Fw.ungd] <;>try exact hd
 simp [bI,RepV]
theorem Vz (S:C.OwedAt m w0) {ops} {o} {next} {g} {as} (l:nu C st o=some (g,as)) (h:Rep m w0 st a c)
 (V:C.inl g as st (λv st=>bif jC st.s o.dst then none else K (st.put o.dst (unw.san v)))=some r)
 (W:∀I a' U,K I=some r->Rep m w0 I a' U->next a' U.w):
 if Region.wanted o (yielded ops a.tmps)=true then o.wp C.P a c.w next Q else next (a.put o.dst undef) c.w:=by
 unfold nu at l;split at l
 ·rename_i f args argTypes L;have F:=aZ h f
  have k:∀ (b:FuncId) (n d:List PV) (G t:Array Value),a.eval f= .func (.func b) G t->au c n G.toList->au c d t.toList->
   (bif C.inlined b && qg C.P b && decide (args.size=argTypes.size) && o.guard.isNone && !jC st.s o.dst then some (b,n++ ((args.toList.zip argTypes.toList).map λp=>cN C.P p.2 (aG st p.1))++d) else none)=some (g,as)->
   if Region.wanted o (yielded ops a.tmps)=true then o.wp C.P a c.w next Q else next (a.put o.dst undef) c.w:=by
   intro b n d G t i H y l
   cases M:(C.inlined b && qg C.P b && decide (args.size=argTypes.size) && o.guard.isNone && !jC st.s o.dst) with
   |false=>grind
   |true=>
    rw [M] at l;simp only [ah,aB,aL] at l;obtain ⟨rfl,rfl⟩:=l;simp only [bb,db,Xl] at M;obtain ⟨⟨⟨⟨_,j⟩,X⟩,Y⟩,_⟩:=M;have Z:Region.wanted o (yielded ops a.tmps)=true:=by grind[Region.wanted]
    rw [aw Z];unfold Oper.wp;unfold qg at j;split at j
    ·rename_i fn N;simp only [bb,nE] at j;have z:fn.body.isNone=false:=by simp_all
     have A:(fn.name== "runtime.NumGoroutine")=false:=by grind
     have J:(execOp a.eval o).run C.P c.w= .ok (.enter b (G++ (args.map a.eval)++t)) c.w:=by
      simp only [execOp,L,Sem.run_bind,resolve,i,Deferred.ofValue,Sem.run_pure,Result.andThen_ok,invoke,callFunc,run_program,N,A,z,dQ,aH]
     rw [J,Oper.upon_enter];refine (S.owed.2.1 _ _ _ _ _ _ V m w0 a c (G++ (args.map a.eval)++t) S.glob h ?_).mono ?_
     ·rw [sM,sM,vN];exact (H.append (Ce h args.toList argTypes.toList (by omega))).append y
     ·rintro e w' ⟨u,v,I,U,rfl,rfl,O,T,hv⟩
      cases B:jC I.s o.dst with
      |true=>grind
      |false=>
       rw [B] at O;simp only [aa] at O
       exact W _ _ U O (T.put o.dst (bI.of (uM hv) (np (pX _))) (λx hx=>⟨by
        rw [hx] at B
        exact II T.size B,λs w q he=>absurd he (np (pX _) s w q)⟩))
    grind
  split at l
  ·rename_i b caps D;rw [D] at F;simp only [RepV] at F;obtain ⟨t,i,E⟩:=F;exact k b [] caps #[] t i (by simp [au]) E (by grind)
  ·rename_i b p D;rw [D] at F;simp only [RepV] at F;obtain ⟨u,i,hp⟩:=F;exact k b [p] [] #[u] #[] i (by grind[au]) (by simp [au]) (by grind)
  grind
 grind
theorem IV (b:C.OwedAt m w0) :∀ (l) (is) (st) (a) (c),is.map (ops[·]?)=l.map some->Rep m w0 st a c->nw C ops l st K=some r->
 (∀j I J,K j=some r->Rep m w0 j I J->Q .normal I J.w)->wpOps C.P ops Q is a c.w
 | [],[],st,a,c,_,h,U,hK=>by simpa [wpOps] using hK st a c U h
 | [],_::_,_,_,_,hl,_,_,_=>by grind
 |_::_,[],_,_,_,hl,_,_,_=>by grind
 |o::l,i::is,st,a,c,hl,h,U,hK=>by
  simp only [eX,oU] at hl;rw [wpOps_cons];unfold wpOp;simp only [hl.1]
  have:if Region.wanted o (yielded ops a.tmps)=true then o.wp C.P a c.w (wpOps C.P ops Q is) Q else wpOps C.P ops Q is (a.put o.dst undef) c.w:=by
   simp only [nw] at U;split at U
   ·rename_i g as f;exact Vz (K:=λst=>nw C ops l st K) b f h U (λj I J d e=>IV b l is j I J hl.2 e d hK)
   ·exact yi (Q:=Q) (next:=wpOps C.P ops Q is) b (ops:=ops) h U (λj I J d e=>IV b l is j I J hl.2 e d hK)
  grind
theorem ajg (b:C.OwedAt m w0) {id} (h:Rep m w0 st a c) (d:nw C ops ops.toList st K=some r)
 (e:∀j I J,K j=some r->Rep m w0 j I J->Q .normal I J.w):(Code.region id ops false).wp C.P Q a c.w:=by
 refine wp_region (IV b ops.toList _ st a c ?_ h d e);apply sK
 grind
def aA (P:Program) {α} (s:Sem α):=∀w v w1,s.run P w= .ok v w1->w1=w/\∀w',s.run P w'= .ok v w'
theorem aA.dg (v):aA P (Pure.pure v:Sem α):=by
 intro w u w1 h
 simp_all
theorem aA.bind (h:aA P s) (e:∀v,aA P (f v)):aA P (s>>=f):=by
 intro w u w1 b;rw [Sem.run_bind] at b
 cases d:s.run P w with
 |halt x g=>simp_all
 |ok v g=>
  rw [d] at b;simp only [Result.andThen_ok] at b;obtain ⟨rfl,i⟩:=h _ _ _ d;obtain ⟨rfl,j⟩:=e v _ _ _ b
  simp_all
theorem aA.WT {s:Sem α} (h:∀w v w1,s.run P w≠ .ok v w1):aA P s:=λw v w1 b=>absurd b (h w v w1)
theorem aA.WW (x):aA P (Sem.halt x:Sem α):=aA.WT (by simp_all)
theorem aA.gI (x):aA P (Go.stuck x:Sem α):=aA.WW _
theorem aA.Ju (x):aA P (Go.unsupported x:Sem α):=aA.WW _
theorem aA.WS:aA P Go.program:=by
 intro w u w1 h
 simp_all
theorem aA.underlying (t):aA P (Go.underlying t):=by
 unfold Go.underlying;refine aA.WS.bind λp=> ?_
 grind[aA.dg,aA.gI]
theorem aA.Jw [Decidable b] (d:b->aA P s) (e:¬b->aA P t):aA P (if b then s else t):=by
 grind
theorem aA.WX (v):aA P (Go.asIntOf v):=by
 unfold Go.asIntOf
 grind[aA.dg,aA.Ju,aA.gI]
theorem aA.alR (v):aA P (Go.asBool v):=by
 unfold Go.asBool
 grind[aA.dg,aA.gI]
theorem aA.alS (v):aA P (Go.asAgg v):=by
 unfold Go.asAgg
 grind[aA.dg,aA.gI]
theorem aA.Jv (v):aA P (Instr.sureAddr v):=by
 unfold Instr.sureAddr
 grind[aA.dg,aA.gI]
theorem aA.WO (t):aA P (Go.typeInfo t):=by
 unfold Go.typeInfo;refine aA.WS.bind λp=> ?_
 grind[aA.dg,aA.gI]
theorem aA.sB (t):aA P (Go.sizeOf t):=(aA.WO t).bind λ_=>aA.dg _
theorem aA.WV (t):aA P (Go.isAgg t):=by
 unfold Go.isAgg;refine (aA.underlying t).bind λd=> ?_
 grind[aA.dg]
theorem aA.alO (t) (cs) (off):aA P (Go.part t cs off):=by
 unfold Go.part;refine (aA.WV t).bind λb=> ?_
 refine aA.Jw (λ_=>(aA.sB t).bind λ_=>aA.dg _) (λ_=> ?_)
 grind[aA.dg,aA.gI]
def iG (P:Program) {α} (s:Sem α):=∀w v w1,s.run P w≠ .ok v w1
theorem iG.Xe (h:iG P s):aA P s:=aA.WT h
theorem iG.bind (d:∀a,iG P (f a)):iG P (s>>=f):=by
 intro w v w1 b;rw [Sem.run_bind] at b
 cases e:s.run P w with
 |halt x g=>simp_all
 |ok u g=>rw [e] at b;simp only [Result.andThen_ok] at b;exact d u _ _ _ b
theorem iG.alX (v):iG P (Go.goPanic v:Sem α):=by intro w v w1;simp_all
theorem iG.Xf (e):iG P (Go.runtimePanic e:Sem α):=by
 grind[Go.runtimePanic,iG.bind,iG.alX]
theorem aA.Jy (k) (x y) (b):aA P (Go.boundsPanic k x y b:Sem α):=by
 grind[Go.boundsPanic,iG.Xe,iG.bind,iG.Xf]
theorem aA.alQ (t) (x i):aA P (Instr.indexAt t x i):=by
 unfold Instr.indexAt;refine (aA.WX _).bind λp=> ?_
 obtain ⟨k,i⟩:=p;dsimp only;refine (aA.underlying _).bind λd=> ?_
 have key:∀ (b:Option Addr) (l) (e),aA P (do
  let f<-Go.underlying t
  have g:=decide (l<=1) && match f with
   |TypeDesc.array len h=>true
   |x=>false
  match b with
   |some a=>
    if 0<=i/\i< ↑l then do
     let f<-Go.sizeOf e
     Pure.pure (Value.pointer (some (a.add (i.toNat*f))))
    else if g=true then Go.unsupported (.noEntry "op/indexAddr.an index out of range at an array of length 0 or 1 (ledger 616)") else Go.boundsPanic k i l BoundsCode.index
   |none=>Go.boundsPanic k i 0 BoundsCode.index):=by
  intro b l e;refine (aA.underlying _).bind λd=> ?_
  dsimp only;split
  ·refine aA.Jw (λ_=>(aA.sB _).bind λ_=>aA.dg _) (λ_=>aA.Jw (λ_=>aA.Ju _) (λ_=>aA.Jy _ _ _ _))
  grind[aA.Jy]
 split
 ·exact (aA.Jv _).bind λ_=>(aA.dg _).bind λq=>key _ _ _
 ·exact (aA.dg _).bind λq=>key _ _ _
 ·exact (aA.gI _).bind λq=>key _ _ _
theorem aA.alT (v):aA P (Go.asAddr v):=by
 unfold Go.asAddr
 grind[aA.dg,iG.Xe,iG.Xf,aA.gI]
theorem aA.WR (x) (y) (b):aA P (Instr.sliceBound x y b):=by
 unfold Instr.sliceBound;refine (aA.WX _).bind λp=> ?_
 grind[aA.dg,aA.Jy]
theorem aA.WQ (b) (l c) (d e mx):aA P (Instr.sliceBounds b l c d e mx):=by
 unfold Instr.sliceBounds;dsimp only
 repeat' first
  |with_reducible exact aA.dg _
  |with_reducible exact aA.gI _
  |with_reducible exact aA.WR _ _ _
  |with_reducible refine aA.bind (aA.WR _ _ _) λ_=> ?_
  |with_reducible refine aA.bind (aA.dg _) λ_=> ?_
  |with_reducible refine aA.bind (aA.gI _) λ_=> ?_
  |split
theorem aA.slice (t) (x) (b e mx):aA P (Instr.slice t x b e mx):=by
 unfold Instr.slice;refine (aA.underlying _).bind λd=> ?_
 dsimp only
 repeat' first
  |with_reducible exact aA.dg _
  |with_reducible exact aA.gI _
  |with_reducible refine aA.bind (aA.WQ _ _ _ _ _ _) λ_=> ?_
  |with_reducible refine aA.bind (aA.sB _) λ_=> ?_
  |with_reducible refine aA.bind (aA.alT _) λ_=> ?_
  |with_reducible refine aA.bind (aA.underlying _) λ_=> ?_
  |with_reducible refine aA.bind (aA.dg _) λ_=> ?_
  |with_reducible refine aA.bind (aA.gI _) λ_=> ?_
  |split
theorem aA.alN (t) (x) (b e mx):aA P (Instr.sliceAt t x b e mx):=by
 unfold Instr.sliceAt;refine (aA.underlying _).bind λd=> ?_
 dsimp only;split
 ·refine (aA.Jv _).bind λa=> ?_
  refine (aA.WQ _ _ _ _ _ _).bind λq=> ?_
  obtain ⟨l,h,m⟩:=q;exact (aA.sB _).bind λ_=>aA.dg _
 grind[aA.slice]
theorem aA.value (h:aA P s):aA P (do Pure.pure (Next.value (<-s)):Sem Next):=h.bind λ_=>aA.dg _
def jg (P:Program) (s:Sem Next):=∀w n w1,s.run P w= .ok n w1->∃v,n= .value v
theorem jg.mk :jg P (do Pure.pure (Next.value (<-s)):Sem Next):=by
 intro w n w1 h;simp only [Sem.run_bind] at h
 cases b:s.run P w with
 |halt x d=>simp_all
 |ok v d=>rw [b] at h;simp at h;grind
theorem jg.WJ (v):jg P (Pure.pure (Next.value v):Sem Next):=by
 intro w n w1 h
 grind[Sem.run_pure]
theorem aA.alM (t):aA P (Go.zeroValue t):=by
 unfold Go.zeroValue;refine (aA.WO t).bind λi=> ?_
 grind[aA.dg,aA.Ju]
theorem aA.WU {α d:Type} {f:α->Sem d} (b:∀x,aA P (f x)):∀l:List α,aA P (l.mapM f)
 | []=>by grind[aA.dg]
 |x::r=>by
  rw [List.mapM_cons];exact (b x).bind λ_=>(aA.WU b r).bind λ_=>aA.dg _
theorem aA.alP {α b:Type} {f:α->Sem b} (d:∀x,aA P (f x)) (l:Array α):aA P (l.mapM f):=by
 rw [Kb,map_eq_pure_bind];exact (aA.WU d _).bind λ_=>aA.dg _
theorem aA.build (t) (b):aA P (Instr.build t b):=by
 unfold Instr.build;refine (aA.alM t).bind λz=> ?_
 refine (aA.underlying t).bind λd=> ?_
 split
 ·refine (aA.alP (λf=>(aA.sB _).bind λ_=>aA.dg _) _).bind λe=> ?_
  grind[aA.dg,aA.gI]
 ·refine (aA.sB _).bind λsize=> ?_
  grind[aA.dg,aA.gI]
 grind[aA.gI]
theorem Il (h:lv o=true) (ρ):aA P (execOp ρ o)/\jg P (execOp ρ o):=by
 obtain ⟨dst,op,type,pos,after,guard⟩:=o;unfold execOp;cases op <;>simp only [lv] at h ⊢ <;>try (simp at h;done)
 case move=>grind[aA.dg,jg.WJ]
 case assign=>grind[aA.dg,jg.WJ]
 case pick=>
  refine ⟨(aA.alR _).bind λ_=>aA.dg _,?_⟩;intro w n w1 h;simp only [Sem.run_bind] at h
  cases b:(Go.asBool _).run P w with
  |halt x e=>rw [b] at h;simp at h
  |ok v e=>rw [b] at h;simp at h;grind
 case field t x i=>
  refine ⟨aA.value ?_,jg.mk⟩;unfold Instr.field;refine (aA.underlying _).bind λd=> ?_
  split
  ·split
   ·exact (aA.alS _).bind λ_=>aA.alO _ _ _
   grind[aA.gI]
  grind[aA.gI]
 case indexAddr=>grind[aA.value,aA.alQ,jg.mk]
 case slice=>grind[aA.value,aA.alN,jg.mk]
 case extract=>
  refine ⟨aA.value ?_,jg.mk⟩;unfold Instr.extract
  grind[aA.dg,aA.gI]
 case makeFunc=>exact ⟨aA.value (aA.dg _),jg.mk⟩
 grind[aA.value,aA.build,jg.mk]
theorem Rep.elsewhere {ob} (h:Rep m w0 ⟨l,ob⟩ a c) (j:∀b,c.ok b->w'.heap[b]?=c.w.heap[b]?) (n:c.w.heap.size<=w'.heap.size):
 Rep ⟨λ_=>False,c.ok,c.pin⟩ w' ⟨l,[]⟩ a {c with w:=w',ob:=λ_=>none}:=by
 refine ⟨h.size,λd=> ?_,h.defers,λk=>rfl,λk o i=>by grind,λk p g=> ?_,λk g=> ?_,λb f=>eW (h.ok b f) n,Kept.refl _ _,λ_ f=>f,λ_ f=> .inl f,rfl⟩
 ·have hd:bI c a (St.get ⟨l,[]⟩ d) _:=h.slots d;exact bI.move (S:=λ_=>True) (c:=c) (c1:={c with w:=w',ob:=λ_=>none}) ⟨j,λ_ f=>f,λ_ _=>rfl,λ_ _=>rfl,λk e t l _ q=>by grind⟩ (λ_ _=>aO) hd
 ·obtain ⟨o,i,_⟩:=g;grind
 ·obtain ⟨o,i,_⟩:=g;grind
theorem U4 (h:au c l cs) (e:kh P t l 0=some p):
 ∃v,∀w',(∀ (i) (u),cs[i]?=some u->w'.cell? ⟨b,off+i,none⟩=some u)->(loadVar t ⟨b,off,none⟩).run P w'= .ok v w':=by
 unfold kh at e
 have f:∀d,P.underlying t=some d->(mw d)=true->(if 0+P.cellsOf t<=l.length then some (PV.agg ((l.drop 0).take (P.cellsOf t))) else none)=some p->
  ∃v,∀w',(∀ (i) (u),cs[i]?=some u->w'.cell? ⟨b,off+i,none⟩=some u)->(loadVar t ⟨b,off,none⟩).run P w'= .ok v w':=by
  intro d hd g e;split at e
  ·rename_i k;have hlen:=h.length;refine ⟨.agg (cs.take (P.cellsOf t)).toArray,λw' n=> ?_⟩;unfold loadVar;simp only [Sem.run_bind,pY hd,Result.andThen_ok,g,aI,Cp hd,loadCells]
   rw [xQ (P.cellsOf t) 0 #[] (cs.take (P.cellsOf t)) (by grind) (λj u q=>by
    grind)]
   simp
  grind
 split at e
 ·rename_i d hd;exact f _ hd rfl e
 ·rename_i d hd;exact f _ hd rfl e
 ·rename_i d s w hd;obtain ⟨v,x,_⟩:=h.get 0 e;refine ⟨v,λw' n=> ?_⟩
  grind[mw,loadVar,Sem.run_bind,Result.andThen_ok,run_load,pY]
 grind
theorem ajt (l) (b d) (x):aG ⟨l,b⟩ x=aG ⟨l,d⟩ x:=by
 cases x <;>rfl
theorem Co (h:Rep m w0 ⟨l,ob⟩ a c) (d:xP P l o=true):
 ∃v,∀w',(∀b,c.ok b->w'.heap[b]?=c.w.heap[b]?)->c.w.heap.size<=w'.heap.size->(execOp a.eval o).run P w'= .ok (.value v) w':=by
 unfold xP at d;split at d
 ·rename_i p e;simp only [mE] at d;rcases d with d|d
  ·obtain ⟨v,D,E⟩:=H9 (h.elsewhere (λ_ _=>rfl) (aR _)) e;refine ⟨v,λw' A g=> ?_⟩;obtain ⟨F,G,H⟩:=H9 (h.elsewhere A g) e
   have:F=v:=by
    cases p <;>simp only [PV.W7] at d <;>try (simp at d;done)
    all_goals grind[RepV]
   grind
  ·unfold We at d
   have key:∀x,(match aG ⟨l,[]⟩ x with| .cptr _=>true|_=>false)=true->∃j b off cs,aG ⟨l,[]⟩ x= .cptr j/\a.eval x= .pointer (some ⟨b,off,none⟩)/\c.ok b/\au c j cs/\
    ∀ (i) (u),cs[i]?=some u->c.w.cell? ⟨b,off+i,none⟩=some u:=by
    intro x I;have E:=aZ h x
    grind[ajt,RepV]
   obtain ⟨dst,op,type,pos,after,guard⟩:=o;cases op <;>simp only at d <;>try (simp at d;done)
   case load t x=>
    obtain ⟨j,b,off,cs,q,n,B,s,C⟩:=key x d;simp only [gG,q,St.cellsAt] at e;obtain ⟨v,D⟩:=U4 (b:=b) (off:=off) s e;refine ⟨v,λw' A g=> ?_⟩
    grind[vi,execOp,Sem.run_bind,Instr.loadAt,Instr.sureAddr,Sem.run_pure,Result.andThen_ok]
   case fieldAddr t x i=>
    obtain ⟨j,b,off,cs,q,n,B,s,C⟩:=key x d;simp only [gG] at e;split at e
    ·rename_i f y;obtain ⟨J,z,y⟩:=IQ y;split at e
     ·grind
     ·rename_i k
      exact ⟨.pointer (some ⟨b,off+f.offset,none⟩),λw' _ _=>by
       simp only [execOp,Sem.run_bind,n,Instr.fieldAt,bh z,Result.andThen_ok,y,Instr.sureAddr,Sem.run_pure,fieldPlace,kf k,k,aH,my]⟩
    grind
   case nilCheck x=>
    obtain ⟨j,b,off,cs,q,n,B,s,C⟩:=key x d;exact ⟨.pointer (some ⟨b,off,none⟩),λw' _ _=>by simp only [execOp,n];rfl⟩
 grind
theorem Ug (e:∀w,S' w->S w):∀ (b) (d) (a) (w),wpAnyH P C ops Q S' b d a w->wpAnyH P C ops Q S b d a w
 |0,_,_,_,h=>h
 |b+1,_,_,_,h=>⟨h.1,λi I=>wpOp_mono (λJ w' j=>⟨e _ j.1,Ug e b _ J w' j.2⟩) (h.2 i I)⟩
def dx (c) (b):=∃k,bf c k/\c.ρ k=b
theorem Rep.here (h:Rep m w0 st a c):Rep ⟨dx c,c.ok,c.pin⟩ c.w st a c:=
 ⟨h.size,h.slots,h.defers,h.ob,h.objs,h.apart,λk b=>⟨(h.mine k b).1,.inr ⟨k,b,rfl⟩,(h.mine k b).2.2⟩,h.ok,Kept.refl _ _,λ_ d=>d,λ_ d=> .inl d,rfl⟩
theorem _root_.Go.Fw.Ctx.GlobM.here {C:Ctx} (b:C.GlobM m w0) (h:Rep m w0 st a c):C.GlobM ⟨dx c,c.ok,c.pin⟩ c.w:=λg t l d=>
 ⟨(b.at h d).1,λ⟨k,e,f⟩=>(h.mine k e).1 (f ▸ (b.at h d).1),(b.at h d).2⟩
theorem Kept.from (h:Rep m w0 st a c) (k:Kept (dx c) c.w w):Kept m.w w0 w:=
 ⟨k.os.trans h.kept.os,k.tape.trans h.kept.tape,k.output.trans h.kept.output,b9 h.kept.size k.size,λb d e=>by
  rw [k.block b (eW d h.kept.size),h.kept.block b d e];rintro ⟨i,f,rfl⟩;have:=(h.mine i f).2.1
  grind,b9 h.kept.drawn k.drawn⟩
theorem Rep.there (h:Rep m w0 st a c) (j:Rep ⟨dx c,c.ok,c.pin⟩ c.w C I J):Rep m w0 C I J:=
 ⟨j.size,j.slots,j.defers,j.ob,j.objs,j.apart,λk e=>⟨(j.mine k e).1,by
  rcases (j.mine k e).2.1 with d| ⟨i,f,l⟩
  ·exact .inl (b9 h.kept.size d)
  ·rw [<-l];exact (h.mine i f).2.1,(j.mine k e).2.2⟩,j.ok,Kept.from h j.kept,λb g=>j.old b (h.old b g),λb g=>by
  rcases j.new b g with d|d| ⟨i,f,rfl⟩
  ·exact h.new b d
  ·exact .inr (.inl (b9 h.kept.size d))
  ·exact .inr (h.mine i f).2.1,j.pin.trans h.pin⟩
theorem WA {r}:∀{l:List Nat},kx f l=some r->∀i ∈ l,f i=some r
 | [],h,_,_=>by grind
 | [i],h,j,I=>by simp at I;subst I;exact h
 |i::j::l,h,k,C=>by
  obtain ⟨J,U⟩:=Jg (show aj (f i) (kx f (j::l))=some r from h);rcases a8.1 C with rfl|C
  ·exact J
  ·exact WA U k C
theorem VA (h:nu C st o=some x):∃f args ts,o.op= .call {callee:= .value f,args:=args,argTypes:=ts}:=by
 grind[nu]
theorem V2 (C) (ops) (h:lv o=true\/uT C.P ops st o=true):dX C ops o st K=lC C ops o st K:=by
 unfold dX
 cases b:nu C st o with
 |none=>rfl
 |some x=>
  grind[VA,lv,xP,gG,uT]
theorem Dg (d:C.OwedAt m w0) (h:Rep m w0 st a c) (b:dX C ops o st K=some r)
 (e:∀j I J,K j=some r->Rep m w0 j I J->next I J.w):
 if Region.wanted o (yielded ops a.tmps)=true then o.wp C.P a c.w next Q else next (a.put o.dst undef) c.w:=by
 unfold dX at b;split at b
 ·rename_i g as f;exact Vz d f h b e
 ·exact yi d h b e
theorem I0 (D:C.oQ) (y:Region.noSelect ops=true) (N:∀V a w,¬Q (.panic V) a w):
 ∀ (n) (d) (st) (m) (w0) (a) (c),C.GlobM m w0->Rep m w0 st a c->kn C ops n d st K=some r->
  (∀I J c',K I=some r->Rep m w0 I J c'->Q .normal J c'.w)->wpAnyH C.P .any ops Q (Kept m.w w0) n d.toArray a c.w
 |0,d,st,m,w0,a,c,hG,h,f,z=>by
  unfold kn at f;split at f
  ·rename_i U;exact ⟨U,z _ _ _ f h⟩
  grind
 |n+1,d,st,m,w0,a,c,hG,h,f,z=>by
  unfold kn at f;split at f
  ·rename_i U;exact wpAnyH_done U (z _ _ _ f h) _
  ·rename_i rs hne
   cases hf:(gk ops d).find? (rP C.P ops d st) with
   |some i=>
    rw [hf] at f;simp only at f;have hmem:=yN hf;have l:=JS hf;unfold rP at l
    cases G:ops[i]? with
    |none=>grind
    |some o=>
     rw [G] at f l;simp only [bb,mE] at l f;rw [V2 C ops l.1] at f;have W:=h.here;have A:=hG.here h
     have key:=yi (Q:=Q) (next:=λJ w'=>wpAnyH C.P .any ops Q (Kept (dx c) c.w) n (d.set i true).toArray J w') ⟨D,A⟩ (ops:=ops) W f (λI J c' g E=>
      I0 D y N n _ I _ _ J c' A E g (λX a2 c2 H Y=>z _ _ _ H (h.there Y)))
     have B:∀w',Kept (dx c) c.w w'->∀b,c.ok b->w'.heap[b]?=c.w.heap[b]?:=λw' g b O=>g.block b (h.ok b O) (by
      rintro ⟨k,g,rfl⟩;exact (h.mine k g).1 O)
     have S:∃v,YieldsIf C.P ops (Kept (dx c) c.w) o v a/\wpAnyH C.P .any ops Q (Kept (dx c) c.w) n (d.set i true).toArray (a.put o.dst v) c.w:=by
      by_cases F:Region.wanted o (yielded ops a.tmps)=true
      ·rw [aw F] at key;unfold Oper.wp at key
       have fin:∀v,(∀w',Kept (dx c) c.w w'->(execOp a.eval o).run C.P w'= .ok (.value v) w')->∃v,YieldsIf C.P ops (Kept (dx c) c.w) o v a/\wpAnyH C.P .any ops Q (Kept (dx c) c.w) n (d.set i true).toArray (a.put o.dst v) c.w:=by
        intro v u;rw [u c.w (Kept.refl _ _),Oper.upon_value] at key;exact ⟨v,.inl ⟨F,u⟩,key⟩
       rcases l.1 with L|e
       ·obtain ⟨Z,s2⟩:=Il (P:=C.P) L a.eval
        cases p:(execOp a.eval o).run C.P c.w with
        |halt x w1=>
         rw [p] at key;cases x <;>simp only [Oper.upon] at key
         grind
        |ok nx w1=>
         obtain ⟨v,rfl⟩:=s2 _ _ _ p;exact fin v (λw' _=>(Z _ _ _ p).2 w')
       ·unfold uT at e
        cases M:o.guard with
        |none=>
         rw [M] at e;obtain ⟨v,u⟩:=Co (ob:=st.o) h e;exact fin v (λw' g=>u w' (B w' g) g.size)
        |some jw=>
         obtain ⟨j,wb⟩:=jw;rw [M] at e;simp only at e
         cases T:(ops[j]?).bind (·.dst) with
         |none=>grind
         |some s=>
          rw [T] at e;simp only at e
          have q:a.tmps.getD s undef= .bool wb:=by
           simp only [Region.wanted,M,yielded,T,ai] at F;rw [oV]
           grind
          obtain ⟨v,u⟩:=Co (ob:=st.o) (xK h q) e;exact fin v (λw' g=>u w' (B w' g) g.size)
      ·rw [ak F] at key;exact ⟨undef,.inr ⟨by grind,rfl⟩,key⟩
     obtain ⟨v,S,hnx⟩:=S;refine Ug (S':=Kept (dx c) c.w) (λw g=>Kept.from h g) _ _ _ _ ?_
     grind[wpAnyH_take,gk,Kept.refl]
   |none=>
    rw [hf] at f;simp only at f;refine wpAnyH_all rfl (λhe=>hne he) (λi G=> ?_);have t:=WA f i G;unfold wpOp
    cases ho:ops[i]? with
    |none=>grind
    |some o=>
     rw [ho] at t;simp only at t ⊢
     have key:=Dg (Q:=Q) (next:=λJ w'=>Kept m.w w0 w'/\wpAnyH C.P .any ops Q (Kept m.w w0) n (d.set i true).toArray J w') ⟨D,hG⟩ (ops:=ops) h t (λI J c' g E=>
      ⟨E.kept,I0 D y N n _ I _ _ J c' hG E g z⟩)
     grind
theorem aji (d:C.P.follows .mixedOrders=true) (e:C.oQ) {id} (b:Region.noSelect ops=true) (f:∀g a w,¬Q (.panic g) a w) (i:C.GlobM m w0) (h:Rep m w0 st a c)
 (k:kn C ops ops.size (List.replicate ops.size false) st K=some r)
 (l:∀j I J,K j=some r->Rep m w0 j I J->Q .normal I J.w):(Code.region id ops true).wp C.P Q a c.w:=by
 refine wp_region_held (S:=Kept m.w w0) d ?_;have n:=h.world (w1:={c.w with drawn:=c.w.drawn+1}) (h.kept.drew (dI _)) (aR _) (λ_ _=>rfl);have:=I0 e b f _ _ st m w0 a _ i n k l
 grind
end
end Go.Fw
