/- Part 4: lemmas that the last text needs. -/
import Derived.Test.YtkihadlgknhpkaaGreatDoorX3
set_option linter.all false
set_option autoImplicit true
set_option relaxedAutoImplicit true
namespace Go.Fw
open Go.RowKit (Below)
section
variable {P:Program} {m:MM} {w0:World} {st:St} {a:Act} {c:Cx}
theorem IQ (h:De P s i=some f):∃b,P.underlying s=some (.struct b)/\b[i]?=some f:=by
 grind[De]
theorem H9 (h:Rep m w0 st a c) (j:gG P st o=some p):
 ∃v,(execOp a.eval o).run P c.w= .ok (.value v) c.w/\RepV c p v:=by
 unfold gG at j;unfold execOp;split at j
 ·
  rename_i x E;simp [aB] at j;subst j;rw [E];exact ⟨_,rfl,eM (aZ h x) _⟩
 ·rename_i x E;simp [aB] at j;subst j;rw [E];exact ⟨_,rfl,eM (aZ h x) _⟩
 ·rename_i op t x y u E;rw [E];obtain ⟨z,N,O⟩:=akT (P:=P) x y (eM (P:=P) (aZ h x) t) (eM (P:=P) (aZ h y) u) j;exact ⟨z,by simp only [Sem.run_bind] at N ⊢;simp_all,O⟩
 ·rename_i op t x E;rw [E];obtain ⟨z,N,O⟩:=aiD (P:=P) (aZ h x) j
  simp_all
 ·rename_i s d x E;rw [E];have B:=aZ h x;split at j
  ·rename_i k n e1 V D C F;simp only [aB] at j;subst j;rw [D] at B;simp only [RepV] at B;exact ⟨.int V (V.wrap n),by simp only [Sem.run_bind,convert,bh C,bh F,Result.andThen_ok,B.1,Conv.intToInt,Sem.run_pure],RepV.gS (uG _ _)⟩
  ·rename_i k n e1 D C F;simp only [aB] at j;subst j;rw [D] at B;simp only [RepV] at B;exact ⟨.float .f64 (FloatKind.f64.nearest n),by simp only [Sem.run_bind,convert,bh C,bh F,Result.andThen_ok,B.1,Conv.intToFloat,Sem.run_pure],by simp only [RepV];exact ⟨_,rfl,rfl⟩⟩
  ·rename_i l e1 D C F;simp only [aB] at j;subst j;rw [D] at B;have Y:=B;simp only [RepV] at B;obtain ⟨b,W,_⟩:=B;exact ⟨.string b,by simp only [Sem.run_bind,convert,bh C,bh F,Result.andThen_ok,W,Sem.run_pure],by grind⟩
  grind
 ·
  rename_i x i E;rw [E];have B:=aZ h x;split at j
  ·rename_i l G;rw [G] at B;simp only [RepV] at B;obtain ⟨vs,H,L⟩:=B;obtain ⟨v,N,O⟩:=L.get i j
   grind[Instr.extract,Sem.run_pure]
  grind
 ·
  rename_i t x i E;rw [E];have B:=aZ h x;split at j
  ·rename_i l f D C;rw [D] at B;simp only [RepV] at B;obtain ⟨vs,H,L⟩:=B;obtain ⟨fs,Q,X⟩:=IQ C;obtain ⟨v,N,O⟩:=UO (P:=P) L j;exact ⟨v,by simp only [Sem.run_bind,H,Instr.field,bh Q,Result.andThen_ok,X,asAgg,Sem.run_pure,N],O⟩
  grind
 ·
  rename_i s x i E;rw [E];have B:=aZ h x;split at j
  ·rename_i f C;obtain ⟨fs,Q,X⟩:=IQ C;split at j
   ·grind
   ·rename_i T
    have run:∀b off,a.eval x= .pointer (some ⟨b,off,none⟩)->(do pure (.value (<-Instr.fieldAt s (a.eval x) i)):Sem Next).run P c.w= .ok (.value (.pointer (some ⟨b,off+f.offset,none⟩))) c.w:=by
     intro b off H;simp only [Sem.run_bind,H,Instr.fieldAt,bh Q,Result.andThen_ok,X,Instr.sureAddr,Sem.run_pure,fieldPlace,kf T,T,aH,my]
    split at j
    ·grind[RepV]
    ·grind[RepV]
    ·grind[RepV]
    ·rename_i l G;simp only [aB] at j;subst j;rw [G] at B;simp only [RepV] at B;obtain ⟨b,off,cs,H,W,L,Z⟩:=B;refine ⟨_,run _ _ H,?_⟩;simp only [RepV];refine ⟨b,off+f.offset,cs.drop f.offset,rfl,W,L.drop _,λq u S=> ?_⟩
     grind
    grind
  grind
 ·
  rename_i t x E;rw [E];split at j
  ·rename_i l G;obtain ⟨b,off,cs,H,L,Z⟩:=Jc h (aZ h x) G;obtain ⟨v,N,O⟩:=U3 (P:=P) L Z j;exact ⟨v,by grind[Sem.run_bind,Instr.loadAt,Instr.sureAddr,Sem.run_pure,Result.andThen_ok],O⟩
  grind
 ·
  rename_i x E;rw [E];have B:=aZ h x;dsimp only;generalize a.eval x=u at B ⊢;generalize aG st x=q at B j;have Y:=B;cases q <;>simp only [aB] at j <;>try (simp at j;done)
  case ptr k off=>
   subst j;simp only [RepV] at B
   simp_all
  case cptr l=>
   subst j;simp only [RepV] at B;obtain ⟨b,off,cs,H,_⟩:=B
   simp_all
  case optr k i sz off=>
   subst j;simp only [RepV] at B
   simp_all
  case sptr k off n t i fo=>
   subst j;simp only [RepV] at B
   simp_all
  case fn f l=>
   subst j;simp only [RepV] at B;obtain ⟨g,H,_⟩:=B
   simp_all
 ·
  rename_i f M caps E;rw [E];split at j
  ·rename_i he;simp only [aB] at j;subst j;refine ⟨.func (.func f) #[] (caps.map a.eval),?_,?_⟩
   ·have:M= #[]:=by grind
    subst this;simp [Instr.makeFunc]
   ·simp only [RepV];refine ⟨_,rfl,?_⟩;rw [vN]
    have:∀l:List Operand,au c (l.map (aG st)) (l.map a.eval):=by
     intro l
     induction l with
     |nil=>simp [au]
     |cons y r ih=>grind[au,aZ]
    grind
  ·split at j
   ·rename_i x X Z;simp only [aB] at j;subst j;have N:M= #[x]:=by grind
    have O:caps= #[]:=by grind
    subst N O;exact ⟨.func (.func f) #[a.eval x] #[],by simp [Instr.makeFunc],by grind[RepV,aZ]⟩
   grind
 ·
  rename_i args argTypes E;rw [E];split at j
  ·rename_i x t ha ht;have I:args= #[x]:=by grind
   have R:argTypes= #[t]:=by grind
   subst I R;have B:=aZ h x;split at j
   ·rename_i s S G;simp only [aB] at j;subst j;rw [G] at B;simp only [RepV] at B;obtain ⟨b,H,hs,W⟩:=B;refine ⟨.int .i64 b.size,?_,?_⟩
    ·simp [resolve,invoke,builtin,Builtin.len_,H,bh S,goInt]
    grind[mr,RepV.gS,Lit.wf,IntKind.min,IntKind.max,IntKind.bits]
   ·rename_i e v' S;split at j
    ·rename_i e' t' l L;simp only [aB] at j;subst j;obtain ⟨A,n,H,N,O,_⟩:=h.list (eM (P:=P) B t) L;refine ⟨.int .i64 l.length,?_,?_⟩
     ·simp [resolve,invoke,builtin,Builtin.len_,H,bh S,goInt]
     grind[RepV.gS,Lit.wf,IntKind.min,IntKind.max,IntKind.bits]
    grind
   grind
  grind
 ·
  rename_i args argTypes E;rw [E];split at j
  ·rename_i x t ha ht;have I:args= #[x]:=by grind
   have R:argTypes= #[t]:=by grind
   subst I;subst R;have B:=eM (P:=P) (aZ h x) t;split at j
   ·rename_i e e' t' l S L;simp only [aB] at j;subst j;rw [L] at B;simp only [RepV] at B;obtain ⟨A,H,N,_⟩:=B;refine ⟨.int .i64 l.length,?_,?_⟩
    ·simp [resolve,invoke,builtin,Builtin.cap_,H,bh S,goInt]
    grind[RepV.gS,Lit.wf,IntKind.min,IntKind.max,IntKind.bits]
   grind
  grind
 ·
  rename_i args argTypes E;rw [E];split at j
  ·rename_i x y ha;have I:args= #[x,y]:=by grind
   subst I;have J:=aZ h x;have K:=aZ h y;split at j
   ·rename_i k n V U D C;split at j
    ·rename_i hk;subst hk;simp only [aB] at j;subst j;rw [D] at J;rw [C] at K;simp only [RepV] at J K;refine ⟨.int k (if U<n then U else n),?_,?_⟩
     ·simp [resolve,invoke,builtin,Builtin.min_,Builtin.min2,J.1,K.1]
     grind[RepV.gS]
    grind
   grind
  grind
 ·
  rename_i args argTypes E;rw [E];split at j
  ·rename_i x y ha;have I:args= #[x,y]:=by grind
   subst I;have J:=aZ h x;have K:=aZ h y;split at j
   ·rename_i k n V U D C;split at j
    ·rename_i hk;subst hk;simp only [aB] at j;subst j;rw [D] at J;rw [C] at K;simp only [RepV] at J K;refine ⟨.int k (if n<U then U else n),?_,?_⟩
     ·simp [resolve,invoke,builtin,Builtin.max_,Builtin.max2,J.1,K.1]
     grind[RepV.gS]
    grind
   grind
  grind
 grind
end
section
variable {P:Program}
theorem dj.frozen (h:dj w b j cs) (off):w.frozen? ⟨b,off,none⟩=false:=by
 obtain ⟨e,d,_⟩:=h
 grind[World.frozen?]
theorem dj.some_ (h:dj w b j cs):dj w b none cs:=by
 obtain ⟨e,d,_⟩:=h;exact ⟨e,d,by simp⟩
theorem Ux {α:Type} (l r:List α) (k:Nat) (v:α) (h:k<l.length):(l.set k v).take (k+1)++r++ (l.set k v).drop (k+1+r.length)=l.take k++ (v::r)++l.drop (k+ (r.length+1)):=by
 have b:(l.take k).length=k:=by grind
 have d:(l.set k v).take (k+1)=l.take k++ [v]:=by
  grind[List.set_eq_take_append_cons_drop]
 grind[List.drop_set_of_lt]
theorem HP :∀ (vs) (w) (cs) (off i),dj w b C cs->off+i+vs.length<=cs.size->(∀u ∈ vs,u.oneCell'=true)->
 ∃w1 d,(storeCells ⟨b,off,none⟩ vs i).run P w= .ok () w1/\dj w1 b C d/\d.toList=cs.toList.take (off+i)++vs++cs.toList.drop (off+i+vs.length)/\
  w1.os=w.os/\w1.tape=w.tape/\w1.output=w.output/\w1.heap.size=w.heap.size/\(∀k,k≠b->w1.heap[k]?=w.heap[k]?)/\w1.drawn=w.drawn
 | [],w,cs,off,i,j,_,_=>⟨w,cs,rfl,j,by simp,rfl,rfl,rfl,rfl,λ_ _=>rfl,rfl⟩
 |v::r,w,cs,off,i,j,J,I=>by
  have R:=I v (by simp);simp [aW] at J;have l:off+i<cs.size:=by omega
  have g:w.cell? ⟨b,off+i,none⟩=some cs[off+i]:=j.cell _ (by simp);have n:=j.frozen (off+i);obtain ⟨e,z,o⟩:=j
  have f:(w.setCell ⟨b,off+i,none⟩ v).heap[b]?=some (.cells (cs.setIfInBounds (off+i) v) e (0,0)):=by
   grind[World.setCell]
  have h:dj (w.setCell ⟨b,off+i,none⟩ v) b C (cs.setIfInBounds (off+i) v):=⟨e,f,o⟩;obtain ⟨w1,d,g1,p,q,s,t,x,A,B,y⟩:=HP r (w.setCell ⟨b,off+i,none⟩ v) (cs.setIfInBounds (off+i) v) off (i+1) h (by grind) (λu D=>I u (by grind));refine ⟨w1,d,?_,p,?_,s,t,x,?_,?_,y⟩
  ·grind[storeCells,Sem.run_bind,my,Result.andThen_ok,run_store]
  ·rw [q];have hlen:=by omega
   rw [Xt,show off+ (i+1)=off+i+1 by omega,aW]
   grind[Ux]
  all_goals grind[World.setCell]
theorem akd (w:World) (o) (k):({w with heap:=w.heap.push o}:World).heap[k]?=if k=w.heap.size then some o else w.heap[k]?:=by
 grind
theorem Kept.push (h:Kept m w0 w) (o):Kept m w0 {w with heap:=w.heap.push o}:=
 ⟨h.os,h.tape,h.output,b9 h.size (by simp),λk b d=>by
  rw [akd,ak (by have:=h.size;omega)];exact h.block k b d,h.drawn⟩
theorem Kept.drew (h:Kept m w0 w) (b:w.drawn<=n):Kept m w0 {w with drawn:=n}:=⟨h.os,h.tape,h.output,h.size,h.block,b9 h.drawn b⟩
variable {m:MM} {w0:World} {st:St} {a:Act} {c:Cx}
theorem Rep.push (h:Rep m w0 st a c) (y:st.new k o=some st1) (r:Nat) (s:c.w.drawn<=r) (cs:Array Value) (e:TypeId) (v:Value)
 (z:∀c1:Cx,c1.w= {c.w with drawn:=r,heap:=c.w.heap.push (.cells cs e)}->c1.ok=c.ok->c1.ρ k=c.w.heap.size->c1.σ k=v->(∀i,c1.ob i=if i=k then some o else c.ob i)->
  dj c1.w c.w.heap.size (some e) cs->(∀p u,p.refs k=false->RepV c p u->RepV c1 p u)->mz c1 k o):
 ∃c1:Cx,c1.w= {c.w with drawn:=r,heap:=c.w.heap.push (.cells cs e)}/\c1.ρ k=c.w.heap.size/\c1.σ k=v/\c1.ob k=some o/\Rep m w0 st1 a c1:=by
 obtain ⟨D,E,F,G,A,_⟩:=jA y
 let w1:World:={c.w with drawn:=r,heap:=c.w.heap.push (.cells cs e)}
 have g:∀i,w1.heap[i]?=if i=c.w.heap.size then some (.cells cs e) else c.w.heap[i]?:=λi=>by grind
 have x:Kept m.w w0 w1:=⟨h.kept.os,h.kept.tape,h.kept.output,b9 h.kept.size (by grind),λi q B=>by
  rw [g,ak (by have:=h.kept.size;omega)];exact h.kept.block i q B,b9 h.kept.drawn s⟩
 have d:∀b,c.ok b\/(∃n,bf c n/\c.ρ n=b)->w1.heap[b]?=c.w.heap[b]?:=by
  intro b f
  have:b<c.w.heap.size:=by
   rcases f with f| ⟨n,j,rfl⟩
   ·exact h.ok b f
   ·exact (h.mine n j).2.2
  grind
 refine ⟨_,rfl,?_,?_,?_,h.newObj y (w1:=w1) c.w.heap.size v x (by grind) d ?_ (λ_=>⟨λf=> ?_,.inl h.kept.size,by grind,λn j H=> ?_⟩)⟩
 ·simp
 ·simp
 ·grind
 ·refine z _ rfl rfl (by simp) (by simp) (λi=> ?_) ⟨e,by grind,by simp⟩ (λp u I C=> ?_)
  ·simp [A,h.ob]
  ·refine RepV.move (c:=c) (S:=λi=>i≠k) ?_ p u (λi q=> ?_) C
   ·refine ⟨λb f=>d b (.inl f),λ_ f=>f,λi q=>by grind,λi q=>by grind,λi e t l q J=>⟨e,l,?_,rfl⟩⟩;rw [h.ob];grind
   grind
 ·grind
 ·have:=(h.mine n j).2.2;omega
end
theorem pX (p):(unw.san p).isGd=false:=by cases p <;>rfl
theorem uM (h:RepV c p v):RepV c (unw.san p) v:=by cases p <;>first|exact h|simp [unw.san,RepV]
theorem np {p:PV} (h:p.isGd=false):∀s w q,p≠ .gd s w q:=by grind[PV.isGd]
section
variable {P:Program} {m:MM} {w0:World} {st:St} {a:Act} {c:Cx} {R:Type} {K:St->Option R} {r:R} {o:Oper} {next:Act->World->Prop} {Q:Exit->Act->World->Prop}
theorem bP {st1} {p} {v} (b:(execOp a.eval o).run P c.w= .ok (.value v) c1.w) (f:Rep m w0 st1 a c1)
 (g:∀x,o.dst=some x->bD st1 x) (h:RepV c1 p v) (e:p.isGd=false) (d:K (st1.put o.dst p)=some r)
 (i:∀j C I,K j=some r->Rep m w0 j C I->next C I.w):o.upon P a next Q ((execOp a.eval o).run P c.w):=by
 rw [b,Oper.upon_value];exact i _ _ c1 d (f.put o.dst (bI.of h (np e)) (λx k=>⟨g x k,λs w q l=>absurd l (np e s w q)⟩))
theorem vh {st1} (b:(execOp a.eval o).run P c.w= .ok .skip c1.w) (e:Rep m w0 st1 a c1)
 (f:∀x,o.dst=some x->bD st1 x) (d:K (st1.put o.dst .undef)=some r)
 (g:∀j C I,K j=some r->Rep m w0 j C I->next C I.w):o.upon P a next Q ((execOp a.eval o).run P c.w):=by
 rw [b,Oper.upon_skip];exact g _ _ c1 d (e.put o.dst (bI.of (RepV.vq _ _) (by simp)) (λx h=>⟨f x h,λs w q i=>by grind⟩))
theorem bD.of (h:bD st d) (b:st1.s=st.s):bD st1 d:=λi s w v e=>h i s w v (by grind[St.get])
theorem b6 {α:Type} {x} {y:α} (h:(bif b then x else none)=some y):b=true/\x=some y:=by grind
theorem HA (h:Rep m w0 st a c) (i:a.eval x= .bool w):RepV c (unw x w (aG st y)) (a.eval y):=by
 have e:=aZ h y;cases b:aG st y <;>rw [b] at e <;>simp [unw] <;>try exact e
 rename_i s w' v;split
 ·rename_i j
  cases d:(Nat.beq s j && (w==w')) with
  |false=>simp [RepV]
  |true=>
   simp [ah];simp only [bb,beq_iff_eq] at d;have k:=dD.1 d.1;obtain rfl:=d.2;subst k
   cases y with
   |tmp t=>
    have:=h.slots t;simp [aG] at b;rw [b] at this;simp only [bI] at this;exact uM (this.1 i)
   |const q=>
    exfalso;cases q <;>simp [aG] at b <;>try (simp at b;done)
    all_goals grind
   |global g=>grind[aG]
   |func f=>grind[aG]
 ·simp [RepV]
theorem Ul (t) (h:p.isGd=false):(cN P t p).isGd=false:=by
 cases p <;>first
  |exact h
  | (simp [cN];split <;>first|rfl| (split <;>rfl))
theorem Uj (x) (w) (p):(unw x w p).isGd=false:=by
 cases p <;>try rfl
 simp [unw];split
 ·generalize (Nat.beq _ _ && _)=q;cases q
  ·rfl
  grind[pX]
 ·rfl
theorem ali (e:o.op= .pick x y z) (h:Rep m w0 st a c) (f:∀x,o.dst=some x->bD st x) (d:be C o st K=some r)
 (g:∀j I J,K j=some r->Rep m w0 j I J->next I J.w):o.upon P a next Q ((execOp a.eval o).run P c.w):=by
 simp [be,e] at d;have i:=aZ h x;split at d
 ·rename_i t k;rw [k] at i;simp [RepV] at i
  have b:(execOp a.eval o).run P c.w= .ok (.value (if t=true then a.eval y else a.eval z)) c.w:=by
   grind[execOp,asBool,Sem.run_pure]
  split at d
  ·rename_i b1 l n p;refine bP b h f ?_ rfl d g
   grind[HA]
  ·cases t with
   |true=>
    simp [ah] at d;exact bP b h f (by grind[eM,HA]) (Ul _ (Uj _ _ _)) d g
   |false=>
    simp [aa] at d;exact bP b h f (by grind[eM,HA]) (Ul _ (Uj _ _ _)) d g
 grind
def qe (op:BinOp) (b:Bool):=match op with| .neq=> !b|_=>b
theorem aja (w) (d) (t e) (A) (n c j C) (h:P.underlying t=some (.slice e)):
 (Op.equalIn (d+1) t (.slice A n c) (.slice none j C)).run P w= .ok A.isNone w:=by
 cases A <;>simp [Op.equalIn,run_underlying h]
theorem ai8 (w) (t e) (A) (n c j C) (h:P.underlying t=some (.slice e)):
 (Op.equal t (.slice A n c) (.slice none j C)).run P w= .ok A.isNone w:=by
 grind[Op.equal,Op.maxDepth,aja]
theorem ajb (w) (d) (t e) (A) (h:P.underlying t=some (.pointer e)):
 (Op.equalIn (d+1) t (.pointer A) (.pointer none)).run P w= .ok A.isNone w:=by
 cases A <;>simp [Op.equalIn,run_underlying h]
theorem ai9 (w) (t e) (A) (h:P.underlying t=some (.pointer e)):
 (Op.equal t (.pointer A) (.pointer none)).run P w= .ok A.isNone w:=by
 grind[Op.equal,Op.maxDepth,ajb]
theorem Jg (h:aj x y=some r):x=some r/\y=some r:=by
 grind[aj]
theorem alD (Y:C.P=P) (q:o.op= .binOp op t x y u) (h:Rep m w0 st a c) (J:∀x,o.dst=some x->bD st x) (i:be C o st K=some r)
 (L:∀U a' c',K U=some r->Rep m w0 U a' c'->next a' c'.w):o.upon P a next Q ((execOp a.eval o).run P c.w):=by
 subst Y;simp [be,q] at i;split at i
 ·rename_i k n yk n' j p;have E:=eM (P:=C.P) (aZ h x) t;have f:=eM (P:=C.P) (aZ h y) u;rw [j] at E;rw [p] at f;simp [RepV] at E f;split at i
  ·rename_i g v G;obtain ⟨S,i⟩:=b6 i;obtain ⟨z,hz,H⟩:=aj2 (P:=C.P) (c:=c) t E.2 G S;refine bP ?_ h J H ?_ i L
   ·grind[execOp,Sem.run_bind,Result.andThen_ok,Sem.run_pure,nk]
   ·cases op <;>simp only [CZ] at G <;>first
     | (simp at G;done)
     | (split at G <;>first| (simp at G;done)| (simp [aB,aL] at G;obtain ⟨_,rfl⟩:=G;rfl))
  grind
 ·rename_i fa fb j p;have E:=eM (P:=C.P) (aZ h x) t;have f:=eM (P:=C.P) (aZ h y) u;rw [j] at E;rw [p] at f;simp [RepV] at E f;obtain ⟨V,Z,rfl⟩:=E;obtain ⟨W,hy1,rfl⟩:=f
  cases T:oH op with
  |false=>grind
  |true=>
   rw [T] at i;simp [ah] at i;obtain ⟨X,w',f1,f2,f3⟩:=aks (P:=C.P) T V W c.w
   have M:(execOp a.eval o).run C.P c.w= .ok (.value (.float .f64 X)) w':=by
    have:(binOp op t (.float .f64 V) (.float .f64 W)).run C.P c.w= .ok (.float .f64 X) w':=by
     rw [<-f1];cases op <;>simp [oH] at T <;>rfl
    grind[execOp,Sem.run_bind,Result.andThen_ok,Sem.run_pure,nk]
   have N:Rep m w0 st a {c with w:=w'}:=by
    rcases f2 with rfl|rfl
    ·exact h
    ·exact h.world (h.kept.drew (dI _)) (aR _) (λ_ _=>rfl)
   exact bP (c1:={c with w:=w'}) M N J (by grind[RepV]) rfl i L
 ·rename_i hpi hpq;have E:=eM (P:=C.P) (aZ h x) t;have f:=aZ h y
  have key:∀ (e),C.P.underlying t=some (.slice e)->aG st y= .none_->op= .eql\/op= .neq->∀{K':Bool->Option R},CJ st (cN C.P t (aG st x)) K'=some r->
   ∃b,K' b=some r/\(execOp a.eval o).run C.P c.w= .ok (.value (.bool (qe op b))) c.w:=by
   intro e s d B K' I;rw [d] at f;simp [RepV] at f;unfold CJ at I;split at I
   ·rename_i e' t' l hl;obtain ⟨A,n,H,j,p,h3⟩:=h.list E hl;have D:=ai8 c.w t e A l.length n 0 0 s
    have run:(execOp a.eval o).run C.P c.w= .ok (.value (.bool (qe op A.isNone))) c.w:=by
     rcases B with rfl|rfl
     ·simp [execOp,q,Sem.run_bind,H,f,nk (u:= .slice A l.length n) (by simp) (by simp),Result.andThen_ok,binOp,D,Sem.run_pure,qe]
     ·simp [execOp,q,Sem.run_bind,H,f,nk (u:= .slice A l.length n) (by simp) (by simp),Result.andThen_ok,binOp,D,Sem.run_pure,qe]
    cases O:l with
    |nil=>
     subst O;simp [yP,ah] at I;obtain ⟨n1,n2⟩:=Jg I;refine ⟨A.isNone,?_,run⟩
     cases A with
     |none=>exact n1
     |some A=>exact n2
    |cons z l'=>
     subst O;simp [DF,aa] at I;obtain ⟨b,off,hA,_⟩:=h3 (by simp)
     grind
   grind
  have F:∀ (e:TypeId),C.P.underlying t=some (.pointer e)->aG st y= .nilptr->op= .eql\/op= .neq->∀{K':Bool->Option R},CC (cN C.P t (aG st x)) K'=some r->
   ∃b,K' b=some r/\(execOp a.eval o).run C.P c.w= .ok (.value (.bool (qe op b))) c.w:=by
   intro e s d B K' I;rw [d] at f;simp [RepV] at f;unfold CC at I
   have fin:∀A:Option Addr,a.eval x= .pointer A->(execOp a.eval o).run C.P c.w= .ok (.value (.bool (qe op A.isNone))) c.w:=by
    intro A H;have D:=ai9 c.w t e A s;rcases B with rfl|rfl
    ·simp [execOp,q,Sem.run_bind,H,f,nk (u:= .pointer A) (by simp) (by simp),Result.andThen_ok,binOp,D,Sem.run_pure,qe]
    ·simp [execOp,q,Sem.run_bind,H,f,nk (u:= .pointer A) (by simp) (by simp),Result.andThen_ok,binOp,D,Sem.run_pure,qe]
   grind[RepV]
  split at i
  ·rename_i e d s;obtain ⟨b,j,p⟩:=key e s d (.inl rfl) i;exact bP p h J (RepV.bool_ rfl) rfl j L
  ·rename_i e d s;obtain ⟨b,j,p⟩:=key e s d (.inr rfl) i;exact bP p h J (RepV.bool_ rfl) rfl j L
  ·rename_i e d s;obtain ⟨b,j,p⟩:=F e s d (.inl rfl) i;exact bP p h J (RepV.bool_ rfl) rfl j L
  ·rename_i e d s;obtain ⟨b,j,p⟩:=F e s d (.inr rfl) i;exact bP p h J (RepV.bool_ rfl) rfl j L
  grind
theorem jd :ae i n=true↔0<=i/\i<n:=by simp [ae]
theorem HY {l} {i} (b:0<=i) (d:i<l.length):l[i.toNat]?=some (rd t l i):=by
 grind[rd]
theorem HM :∀{m j},uK i f m j=some r->∃q,j<=q/\q<j+m/\i=(q:Int)/\f q=some r
 |0,_,h=>by grind[uK]
 |m+1,j,h=>by
  simp [uK] at h
  cases hd:decide (i=(j:Int)) with
  |true=>grind
  |false=>
   rw [hd] at h;obtain ⟨q,C,I,J,U⟩:=HM h
   grind
theorem alr (hC:C.P=P) (hG:∀g t l,C.glob g=some ⟨t,l⟩->c.ok g/\g<c.w.heap.size/\∀ (j) (x),l[j]?=some x->∃d,aJ c.w (λ_=>False) t x d/\∀ (i) (u),d[i]?=some u->c.w.cell? ⟨g,j*t.size+i,none⟩=some u) (M:o.op= .indexAddr t x i) (h:Rep m w0 st a c) (H:∀x,o.dst=some x->bD st x) (f:be C o st K=some r)
 (J:∀st' a' c',K st'=some r->Rep m w0 st' a' c'->next a' c'.w):o.upon P a next Q ((execOp a.eval o).run P c.w):=by
 subst hC;simp [be,M] at f;have V:=aZ h i;have y:=aZ h x;split at f
 ·
  rename_i k n e N W;rw [N] at V;simp [RepV] at V;split at f
  ·grind
  ·rename_i hsz
   have I:∀ (b off len cap),a.eval x= .slice (some ⟨b,off,none⟩) len cap->0<=n->n<len->(execOp a.eval o).run C.P c.w= .ok (.value (.pointer (some ⟨b,off+n.toNat*C.P.cellsOf e,none⟩))) c.w:=by
    intro b off len cap L p s;simp [execOp,M,Sem.run_bind,V.1,L,Instr.indexAt,asIntOf,Sem.run_pure,Result.andThen_ok,bh W,Sem.run_ite]
    grind[kf,Result.andThen_ok,my]
   have row:∀ (B) (l) (A) (cap),a.eval x= .slice A l.length cap->jH c.w c.ok B A l->B.size=C.P.cellsOf e->0<=n->n<l.length->
    K (st.put o.dst (.cptr (B.leaves (rd B l n))))=some r->o.upon C.P a next Q ((execOp a.eval o).run C.P c.w):=by
    intro B l A cap L Y O p s f;obtain ⟨b,off,rfl,S,X⟩:=Y (by omega);obtain ⟨d,hd,T⟩:=X n.toNat _ (HY p s);refine bP (I b off _ _ L p s) h H ?_ rfl f J;simp only [RepV];exact ⟨b,off+n.toNat*C.P.cellsOf e,d,rfl,S,hd.leaves,λq u W=>by grind⟩
   split at f
   ·rename_i D E;rw [E] at y;simp [RepV] at y;split at f
    ·rename_i Z B l ho;obtain ⟨O,f⟩:=b6 f;obtain ⟨v,f⟩:=b6 f;obtain ⟨p,s⟩:=jd.1 v;have F:c.ob D=some (.row Z B l):=by rw [h.ob];exact ho
     obtain ⟨A,cap,g1,g2,g3,g4⟩:=h.objs D _ F;rcases g4 with g4| ⟨rfl,cs,g5,g6,g7,g8⟩
     ·omega
     ·refine bP (I (c.ρ D) 0 _ _ (by rw [y.1];exact g1) p s) h H ?_ rfl f J
      grind[RepV,dD]
    ·rename_i Z B l ho;obtain ⟨O,f⟩:=b6 f;obtain ⟨v,f⟩:=b6 f;obtain ⟨p,s⟩:=jd.1 v;have F:c.ob D=some (.frow Z B l):=by rw [h.ob];exact ho
     obtain ⟨A,cap,g1,g2,g3,g4⟩:=h.objs D _ F
     grind[dD]
    grind
   all_goals grind[RepV,jd,dD]
 ·
  rename_i k n len e N W;rw [N] at V;simp [RepV] at V;split at f
  ·grind
  ·rename_i hsz
   have I:∀ (b off:Nat),a.eval x= .pointer (some ⟨b,off,none⟩)->0<=n->n<len->(execOp a.eval o).run C.P c.w= .ok (.value (.pointer (some ⟨b,off+n.toNat*C.P.cellsOf e,none⟩))) c.w:=by
    intro b off L p s;simp [execOp,M,Sem.run_bind,V.1,L,Instr.indexAt,asIntOf,Sem.run_pure,Result.andThen_ok,bh W,Sem.run_ite,Instr.sureAddr]
    grind[kf,Result.andThen_ok,my]
   split at f
   ·rename_i D off E;rw [E] at y;simp [RepV] at y;split at f
    ·rename_i Z B n' l ho;split at f
     ·rename_i X;obtain ⟨rfl,rfl,O⟩:=X;obtain ⟨v,f⟩:=b6 f;obtain ⟨p,s⟩:=jd.1 v;have F:c.ob D=some (.arr Z B n' l):=by rw [h.ob];exact ho
      obtain ⟨g0,cs,g1,g2⟩:=h.objs D _ F;refine bP (I (c.ρ D) 0 y p s) h H ?_ rfl f J
      grind[RepV]
     grind
    ·cases hm1:p8 C o 4398046511104 with
     |true=>
      rw [hm1] at f;simp [ah] at f;split at f
      ·rename_i B hty;obtain ⟨hs,f⟩:=b6 f;have hs:=dD.1 hs;obtain ⟨v,f⟩:=b6 f;obtain ⟨p,s⟩:=jd.1 v;exact bP (I (c.ρ D) off y p s) h H (by grind[RepV]) rfl f J
      grind
     |false=>
      rw [hm1] at f;simp only [aa] at f
      cases G:p8 C o 8796093022208 with
      |true=>
       rw [G] at f;simp only [ah] at f;obtain ⟨q,_,q1,rfl,U⟩:=HM f;exact bP (I (c.ρ D) off y (by omega) (by omega)) h H (by grind[RepV]) rfl U J
      |false=>
       rw [G] at f;simp only [aa] at f;obtain ⟨v,f⟩:=b6 f;obtain ⟨p,s⟩:=jd.1 v;exact bP (I (c.ρ D) off y p s) h H (by grind[RepV]) rfl f J
    grind
   ·rename_i l E;rw [E] at y;simp only [RepV] at y;obtain ⟨b,off,cs,L,S,hl,X⟩:=y
    have fin:∀z:Nat,RepV c (.cptr (l.drop (z*C.P.cellsOf e))) (.pointer (some ⟨b,off+z*C.P.cellsOf e,none⟩)):=λz=>by
     simp only [RepV];refine ⟨b,off+z*C.P.cellsOf e,cs.drop (z*C.P.cellsOf e),rfl,S,hl.drop _,λq u W=> ?_⟩
     grind
    cases G:p8 C o 8796093022208 with
    |true=>
     rw [G] at f;simp only [ah] at f;obtain ⟨q,_,q1,rfl,U⟩:=HM f;exact bP (I b off L (by omega) (by omega)) h H (fin q) rfl U J
    |false=>
     rw [G] at f;simp only [aa] at f;obtain ⟨v,f⟩:=b6 f;obtain ⟨p,s⟩:=jd.1 v;exact bP (I b off L p s) h H (fin _) rfl f J
   ·unfold IH at f;cases x <;>simp only at f <;>try (simp at f;done)
    rename_i g _;split at f
    ·rename_i t l hgl;obtain ⟨X,f⟩:=b6 f;simp only [bb,dD] at X;obtain ⟨v,f⟩:=b6 f;obtain ⟨p,s⟩:=jd.1 v;obtain ⟨g1,g2,g3⟩:=hG g t l hgl;obtain ⟨d,hd,T⟩:=g3 n.toNat _ (HY p (by omega));refine bP (I g 0 rfl p s) h H ?_ rfl f J;simp only [RepV];exact ⟨g,0+n.toNat*C.P.cellsOf e,d,rfl,g1,aJ.leaves (hd.move (w1:=c.w) (ok1:=c.ok) (λ_ v=>v.elim) (λ_ v=>v.elim)),λq u W=>by grind⟩
    grind
   grind
 grind
theorem als (hC:C.P=P) (j:o.op= .index t x i) (h:Rep m w0 st a c) (hg:∀x,o.dst=some x->bD st x) (f:be C o st K=some r)
 (hK:∀I a' c',K I=some r->Rep m w0 I a' c'->next a' c'.w):o.upon P a next Q ((execOp a.eval o).run P c.w):=by
 subst hC;simp only [be,j] at f;have A:=aZ h i;have B:=aZ h x;split at f
 ·rename_i k n s q u;rw [q] at A;rw [u] at B;simp [RepV] at A B;obtain ⟨b,H,rfl,hb⟩:=B;split at f
  ·rename_i J;obtain ⟨y,f⟩:=b6 f;obtain ⟨L,M⟩:=jd.1 y;rw [mr] at M;have D:=by omega
   have E:b[n.toNat]?=some b[n.toNat]:=by grind
   have N:(bytesOf b).getD n.toNat 0=(b[n.toNat].toNat:Int):=by
    unfold bytesOf;rw [DJ,JN,vO,sO (by simp_all)];rfl
   refine bP (v:= .int .u8 b[n.toNat].toNat) ?_ h hg ?_ rfl f hK
   ·simp [execOp,j,Sem.run_bind,A.1,H,Instr.index,asIntOf,Sem.run_pure,Result.andThen_ok,bh J,aw L,E]
   ·rw [N];refine RepV.gS ?_;have:=b[n.toNat].toNat_lt
    grind[Lit.wf,IntKind.min,IntKind.max,IntKind.signed,IntKind.bits]
  grind
 ·rename_i k n l q u;rw [q] at A;rw [u] at B;simp [RepV] at A B;obtain ⟨vs,H,F⟩:=B;split at f
  ·rename_i len e J;split at f
   ·grind
   ·rename_i O;obtain ⟨y,f⟩:=b6 f;obtain ⟨L,M⟩:=jd.1 y
    have fin:∀S p,au c S vs.toList->kh C.P e S (n.toNat*C.P.cellsOf e)=some p->K (st.put o.dst (unw.san p))=some r->o.upon C.P a next Q ((execOp a.eval o).run C.P c.w):=by
     intro S p F T f;obtain ⟨v,g1,g2⟩:=UO (P:=C.P) F T;refine bP (v:=v) ?_ h hg (uM g2) (pX _) f hK;simp [execOp,j,Sem.run_bind,A.1,H,Instr.index,asIntOf,Sem.run_pure,Result.andThen_ok,bh J,Sem.run_ite,aw (show 0<=n/\n<(len:Int) from ⟨L,M⟩),kf O,g1]
    cases U:p8 C o 4398046511104 with
    |true=>
     rw [U] at f;simp [ah] at f;split at f
     ·rename_i g hty;obtain ⟨V,f⟩:=b6 f;have V:=dD.1 V;split at f
      ·rename_i W X;split at f
       ·rename_i p T;obtain ⟨e1,e2⟩:=Dj X F;have D:n.toNat<W.length:=by omega
        obtain ⟨d,Y,d2,d3⟩:=e2.get n.toNat (cK D);have Z:rd g W n=W[n.toNat]:=by grind[rd]
        have hdl:=Y.len;have hlv:=Y.leaves.length;have hL:=e2.len;rw [qz,e1] at hL;have hmul:n.toNat*g.size+g.size<=len*g.size:=by grind
        have hvs:len*g.size<=vs.toList.length:=by grind
        have hd:d=(vs.toList.drop (n.toNat*g.size)).take g.size:=by
         grind[List.drop_take]
        have G:=au.splice (n.toNat*g.size) F Y.leaves
        have z:vs.toList.take (n.toNat*g.size)++d++vs.toList.drop (n.toNat*g.size+d.length)=vs.toList:=by
         grind[List.drop_drop,List.take_append_drop]
        rw [z] at G;refine fin _ p G ?_ f;rw [<-T,Z,<-V]
        have hll:(l.take (n.toNat*g.size)).length=n.toNat*g.size:=by
         have:=F.length
         grind
        unfold kh splice;split
        ·simp_all
        ·simp_all
        ·rw [fK,JO (by omega),hll,Nat.sub_self,DI (by omega)]
        ·rfl
       grind
      grind
     grind
    |false=>
    grind
  grind
 grind
end
theorem aiu (h:Hw f v=some p) (c):RepV c p v/\p.one=true:=by
 unfold Hw at h;split at h
 ·split at h
  ·rename_i d;obtain ⟨rfl,rfl⟩:=d;simp [aB] at h;subst h;refine ⟨RepV.gS ?_,rfl⟩;rename_i k;cases k <;>rfl
  grind
 ·simp [aB] at h;subst h;exact ⟨by simp [RepV],rfl⟩
 ·split at h
  ·rename_i e;simp [aB] at h;subst h e;exact ⟨by simp only [RepV];exact ⟨0,rfl,by rfl⟩,rfl⟩
  grind
 ·rename_i s
  cases b:Nat.beq s.size 0 with
  |false=>grind
  |true=>
   rw [b] at h;simp [ah,aB] at h;subst h;have g:=dD.1 b;have:bytesOf s= []:=by grind[mr]
   exact ⟨by grind[RepV],rfl⟩
 ·simp [aB] at h;subst h;exact ⟨by simp only [RepV];exact ⟨none,rfl,by simp,λg=>by grind⟩,rfl⟩
 ·simp [aB] at h;subst h;exact ⟨by simp [RepV],rfl⟩
 ·simp [aB] at h;subst h;exact ⟨by simp [RepV],rfl⟩
 grind
theorem Ub (c):∀{b} {vs} {l},rO b vs=some l->au c l vs/\l.all PV.one=true
 | [],[],_,h=>by grind[rO,au]
 | [],_::_,_,h=>by grind[rO]
 |_::_,[],_,h=>by grind[rO]
 |f::b,v::vs,_,h=>by
  simp [rO] at h;split at h
  ·rename_i p I j C;simp [aB] at h;subst h;obtain ⟨g1,J⟩:=aiu j c;obtain ⟨d,e⟩:=Ub c C
   grind[au]
  grind
section
variable {P:Program} {m:MM} {w0:World} {st:St} {a:Act} {c:Cx} {R:Type} {K:St->Option R} {r:R} {o:Oper} {next:Act->World->Prop} {Q:Exit->Act->World->Prop}
theorem rN (h:nb P t=some l):∃i z,P.info? t=some i/\i.zero=some z/\z.cells.size=P.cellsOf t/\∀c,au c l z.cells.toList/\l.all PV.one=true:=by
 unfold nb at h;split at h
 ·rename_i i b;split at h
  ·rename_i z ls d e;split at h
   ·rename_i f;exact ⟨i,z,b,d,by grind[Program.cellsOf],λc=>Ub c h⟩
   grind
  grind
 grind
theorem lq (b:P.info? t=some i) (d:i.zero=some z) (w):(zeroValue t).run P w= .ok z w:=by
 simp [zeroValue,typeInfo,b,d]
theorem CM {v:Value} (hd:o.dst=some d) (h:Rep m w0 st a c) (u:∀x,o.dst=some x->bD st x) (E:au c l v.cells.toList)
 (b:(execOp a.eval o).run P c.w= .ok (.value (.pointer (some ⟨c.w.heap.size,0,none⟩))) {c.w with heap:=c.w.heap.push (.cells v.cells t)})
 (g:oG l d st K=some r) (y:∀e j k,K e=some r->Rep m w0 e j k->next j k.w):o.upon P a next Q ((execOp a.eval o).run P c.w):=by
 unfold oG at g;split at g
 ·rename_i z st1 i;have n:=newNum_spec i;obtain ⟨A,F,G,H,I,J⟩:=jA n
  obtain ⟨c1,s,L,M,N,f⟩:=h.push n c.w.drawn (aR _) v.cells t undef (λc1 g1 O B S T C U=>by
   refine ⟨v.cells,by rw [B];exact C.some_,?_⟩
   have:∀ (l:List PV) (vs:List Value),PV.jJ l z=false->au c l vs->au c1 l vs:=by
    intro l
    induction l with
    |nil=>grind[au]
    |cons p q V=>
     grind[PV.jJ,au]
   grind[Ob.refs])
  rw [show ({c.w with drawn:=c.w.drawn,heap:=c.w.heap.push (.cells v.cells t)}:World)= {c.w with heap:=c.w.heap.push (.cells v.cells t)} from rfl] at s;refine bP (c1:=c1) (by rw [s];exact b) f (λx D=>(u x D).of A) ?_ rfl (by rw [hd];exact g) y
  grind[RepV]
 grind
theorem alF (y:C.P=P) (j:o.op= .alloc t) (h:Rep m w0 st a c) (A:∀x,o.dst=some x->bD st x) (f:be C o st K=some r)
 (B:∀I J U,K I=some r->Rep m w0 I J U->next J U.w):o.upon P a next Q ((execOp a.eval o).run P c.w):=by
 subst y;simp [be,j] at f;split at f
 ·rename_i d l hd D;obtain ⟨i,z,E,p,F,b⟩:=rN D;obtain ⟨O,S⟩:=b c
  have k:(execOp a.eval o).run C.P c.w= .ok (.value (.pointer (some ⟨c.w.heap.size,0,none⟩))) {c.w with heap:=c.w.heap.push (.cells z.cells t)}:=by
   simp [execOp,j,Sem.run_bind,Instr.alloc,lq E p,Result.andThen_ok,newVar,newRow,run_newObj,Sem.run_pure]
  split at f
  ·rename_i n e T;split at f
   ·rename_i V G;split at f
    ·rename_i x q;split at f
     ·rename_i W st1 s;have u:=newNum_spec s;obtain ⟨g1,X,Y,Z,g5,g6⟩:=jA u
      obtain ⟨c1,v,e2,e3,e4,g⟩:=h.push u c.w.drawn (aR _) z.cells t undef (λc1 q1 q2 H q4 q5 L q7=>by
       obtain ⟨M,N⟩:=Ci c1 n _ x _ q (b c1).1
       exact ⟨M,z.cells,by rw [H];exact L.some_,N⟩)
      rw [show ({c.w with drawn:=c.w.drawn,heap:=c.w.heap.push (.cells z.cells t)}:World)= {c.w with heap:=c.w.heap.push (.cells z.cells t)} from rfl] at v;refine bP (c1:=c1) (by rw [v];exact k) g (λx q=>(A x q).of g1) ?_ rfl (by rw [hd];exact f) B
      grind[RepV]
     grind
    grind
   grind[CM]
  grind[CM]
 grind
theorem alC (i:C.P=P) (e:o.op= .box t x) (h:Rep m w0 st a c) (k:∀x,o.dst=some x->bD st x) (b:be C o st K=some r)
 (n:∀j I J,K j=some r->Rep m w0 j I J->next I J.w):o.upon P a next Q ((execOp a.eval o).run P c.w):=by
 subst i;simp [be,e] at b
 have f:(execOp a.eval o).run C.P c.w= .ok (.value (.pointer (some ⟨c.w.heap.size,0,none⟩))) {c.w with heap:=c.w.heap.push (.cells (a.eval x).cells t)}:=by
  simp [execOp,e,Sem.run_bind,Instr.box,Result.andThen_ok,newVar,newRow,run_newObj,Sem.run_pure]
 have g:=eM (P:=C.P) (aZ h x) t;split at b
 ·rename_i d hd;split at b
  ·rename_i l p;rw [p] at g;exact CM hd h k (g.cells (.inr ⟨_,rfl⟩)) f b n
  ·obtain ⟨q,b⟩:=b6 b;have:=g.cells (.inl q)
   grind[PV.W8,CM]
 grind
theorem IJ (off):∀ (vs) (k) (cs:Array Value),off+k+vs.length<=cs.size->
 ((vs.zipIdx k).foldl (λcs p=>cs.setIfInBounds (off+p.2) p.1) cs).toList=cs.toList.take (off+k)++vs++cs.toList.drop (off+k+vs.length)
 | [],k,cs,_=>by simp
 |v::r,k,cs,j=>by
  simp [aW] at j;rw [List.zipIdx_cons,nK,IJ off r (k+1) _ (by grind)];rw [Xt,show off+ (k+1)=off+k+1 by omega,aW]
  grind[Ux]
theorem VX (d:place i=some (off,size)) (e:v.cells.size=size) (f:off+size<=cs.size):
 ∃b,Instr.fill place cs ((i,v)::rest)=Instr.fill place b rest/\b.toList=cs.toList.take off++v.cells.toList++cs.toList.drop (off+v.cells.toList.length)/\b.size=cs.size:=by
 refine ⟨v.cells.zipIdx.foldl (λcs (c,j)=>cs.setIfInBounds (off+j) c) cs,?_,?_,?_⟩
 ·grind[Instr.fill]
 ·have:=IJ off v.cells.toList 0 cs (by grind)
  grind[Array.toList_zipIdx]
 ·have:=IJ off v.cells.toList 0 cs (by grind)
  grind[Array.toList_zipIdx,List.length_append]
end
end Go.Fw
