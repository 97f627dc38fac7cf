/- Part 3: lemmas that the last text needs. -/
import Derived.Test.YtkihadlgknhpkaaGreatDoorX2
import Derived.KernelRfl
import Derived.Laws.World
import Derived.Laws.Wrap64
import Derived.Laws.Strings
import Derived.Laws.StructEq
set_option linter.all false
set_option autoImplicit true
set_option relaxedAutoImplicit true
namespace Go.Fw
open Go.RowKit (Below)
theorem dD :Nat.beq a b=true↔a=b:=⟨Nat.eq_of_beq_eq_true,λh=>by simp_all⟩
theorem sA :Nat.beq a b=false↔a≠b:=by
 grind[dD]
theorem Dc:∀ (l) (k) (o) (i),
 St.dH (St.lG l k o) i=if i=k then (St.dH l k).map (λx=>(x.1+1,o)) else St.dH l i
 | [],k,o,i=>by simp [St.lG,St.dH]
 | (j,v,o')::r,k,o,i=>by
   simp [St.lG]
   cases h:Nat.beq j k with
   |true=>
    grind[St.dH,sA]
   |false=>
    have C:=sA.1 h;simp only [aa,St.dH];by_cases b:i=k
    ·subst b;rw [h];simp [aa];rw [Dc r i o i];simp
    ·rw [ak b]
     cases Nat.beq j i with
     |true=>rfl
     |false=>simp [aa];rw [Dc r k o i,ak b]
theorem gR (st:St) (k) (o) (i):(st.setO k o).obj i=if i=k then (st.obj k).map (λ_=>o) else st.obj i:=by
 grind[St.setO,St.obj,Dc]
theorem IN:∀ (l) (i k) (v) (o),St.dH l i=some (v,o)->o.refs k=true->jz l k=true
 | [],_,_,_,_,h,_=>by grind[St.dH]
 | (j,J,o')::r,i,k,v,o,h,C=>by
   simp [St.dH] at h
   cases I:Nat.beq j i with
   |true=>
    grind[jz]
   |false=>
    rw [I] at h;simp [aa] at h;simp [jz,IN r i k v o h C]
theorem Kept.refl (m) (w):Kept m w w:=⟨rfl,rfl,rfl,aR _,λ_ _ _=>rfl,aR _⟩
theorem Kept.trans (h:Kept m a b) (k:Kept m b c):Kept m a c:=
 ⟨k.os.trans h.os,k.tape.trans h.tape,k.output.trans h.output,b9 h.size k.size,λi d e=>(k.block i (eW d h.size) e).trans (h.block i d e),b9 h.drawn k.drawn⟩
theorem Kept.below (h:Kept (λ_=>False) a b):Below a.heap.size a b:=⟨h.os,h.tape,h.output,h.size,λk d=>h.block k d id⟩
theorem Kept.one (h:Kept m a b) (d:c.os=b.os) (f:c.tape=b.tape) (j:c.output=b.output) (k:b.heap.size<=c.heap.size) (g) (o:a.heap.size<=g\/m g)
 (l:∀i,i<b.heap.size->i≠g->c.heap[i]?=b.heap[i]?) (hd:b.drawn<=c.drawn:=by first|exact Nat.le_refl _|exact Nat.le_succ _):Kept m a c:=
 ⟨d.trans h.os,f.trans h.tape,j.trans h.output,b9 h.size k,λi e n=>by
  rw [l i (eW e h.size) (by grind)]
  exact h.block i e n,b9 h.drawn hd⟩
theorem dj.move (h:dj w b j cs) (f:w1.heap[b]?=w.heap[b]?):dj w1 b j cs:=by
 obtain ⟨e,g,d⟩:=h;exact ⟨e,by grind,d⟩
theorem aT.move (d:∀b,ok b->w1.heap[b]?=w.heap[b]?) (e:∀b,ok b->ok1 b) :
 ∀{l} {cs},aT w ok t l cs->aT w1 ok1 t l cs
 | [],_,h=>h
 |_::_,_,⟨c,j,h,C,I⟩=>⟨c,j,h,C.move d e,aT.move d e I⟩
theorem nB.congr {ρ b}:∀{l} {d},(∀e ∈ l,b e.2.1=ρ e.2.1)->nB ρ l d->nB b l d
 | [],_,_,h=>h
 |e::_,_,j,⟨x,s,C,I,R,J⟩=>⟨x,s,C,I,by grind,nB.congr (λy f=>j y (by grind)) J⟩
theorem mz.move (h:mz c k o) (hm:Mv S c c1) (hs:∀i,o.refs i=true->S i) (hk:S k)
 (hb:gm c k o->c1.w.heap[c.ρ k]?=c.w.heap[c.ρ k]?) (hpin:c1.pin k=c.pin k:=by rfl):mz c1 k o:=by
 have hρ:=hm.ρ k hk;have hσ:=hm.σ k hk
 cases o with
 |box l=>
  obtain ⟨cs,h1,h2⟩:=h;exact ⟨cs,by rw [hρ];exact h1.move (hb aO),au.move hm _ _ (λi hi=>hs i (by grind[Ob.refs])) h2⟩
 |row e t l=>
  obtain ⟨A,n,h1,h2,h3,h4⟩:=h;refine ⟨A,n,by grind,h2,h3,?_⟩;by_cases hn:n=0
  ·omega
  ·rcases h4 with h4| ⟨h4,cs,h5,h6,h7,h8⟩
   ·omega
   ·exact .inr ⟨by grind,cs,by rw [hρ];exact h5.move (hb ⟨A,_,n,h1,hn⟩),h6,h7.move hm.heap hm.ok,h8⟩
 |arr e t n l=>
  obtain ⟨h0,cs,h1,h2⟩:=h;exact ⟨h0,cs,by rw [hρ];exact h1.move (hb aO),h2.move hm.heap hm.ok⟩
 |frow e t l=>
  obtain ⟨A,n,h1,h2,h3,h4⟩:=h;exact ⟨A,n,by grind,h2,h3,h4.move hm.heap hm.ok⟩
 |held l=>
  obtain ⟨h1,h2⟩:=h;refine ⟨by grind,λd=> ?_⟩
  grind[bI.move,Ob.refs,Da]
 |mp m l=>
  obtain ⟨es,k,h1,h2⟩:=h;exact ⟨es,k,by rw [hρ,hb aO];exact h1,h2.1.move hm.heap hm.ok,h2.2⟩
 |iter m l cu=>
  obtain ⟨bo,since,seen,last,h1,h2⟩:=h;exact ⟨bo,since,seen,last,by rw [hρ,hb aO];exact h1,h2.move hm.heap hm.ok⟩
 |gone=>trivial
 |pm l=>
  obtain ⟨es,clock,l',h1,h2,h3,h4,h5⟩:=h;refine ⟨es,clock,l',by rw [hρ,hb aO];exact h1,h2,h3.congr λe he=>hm.ρ _ (hs _ ?_),h4,h5⟩
  grind[Ob.refs,Nat.beq_refl]
theorem gm.congr (h:gm c k o) (b:c1.σ k=c.σ k):gm c1 k o:=by
 cases o <;>simp [gm] at h ⊢
 grind
section
variable {m:MM} {w0:World} {st:St} {a:Act} {c:Cx}
theorem VN (a:Act) (d) (v) (i):(a.put (some d) v).tmps.getD i undef=if i=d/\d<a.tmps.size then v else a.tmps.getD i undef:=by
 simp [Act.put,oV,Array.getElem?_setIfInBounds]
 grind
def bD (st:St) (d):=∀i s w v,st.get i= .gd s w v->s≠d
theorem Rep.put (h:Rep m w0 st a c) (d) (hv:bI c a p v) (hg:∀x,d=some x->bD st x/\∀s w q,p= .gd s w q->s≠x):Rep m w0 (st.put d p) (a.put d v) c:=by
 cases d with
 |none=>exact h
 |some d=>
  obtain ⟨hg,hp⟩:=hg d rfl
  have keep:∀{q} {u},(∀s w r,q= .gd s w r->s≠d)->bI c a q u->bI c (a.put (some d) v) q u:=by
   intro q u hq hs
   cases q <;>simp only [bI] at hs ⊢ <;>first
    |exact hs
    | grind[VN]
  refine ⟨?_,?_,?_,h.ob,h.objs,h.apart,h.mine,h.ok,h.kept,h.old,h.new,h.pin⟩
  ·have hz:(a.put (some d) v).tmps.size=a.tmps.size:=by simp [Act.put]
   rw [hz];exact h.size.set d p
  ·intro d';rw [VN];simp only [St.put,St.set,St.get];rw [qd];have hs:=h.size.lt d;by_cases hd:d'=d/\st.s.has d=true
   ·grind
   ·rw [ak hd,ak (λhh=>hd ⟨hh.1,hs.2 hh.2⟩)];exact keep (λs w r he=>hg d' s w r he) (h.slots d')
  ·simpa [Act.put] using h.defers
theorem RepV.vq (c) (v):RepV c .undef v:=by simp [RepV]
theorem Rep.world (h:Rep m w0 st a c) (f:Kept m.w w0 w1) (n:c.w.heap.size<=w1.heap.size)
 (g:∀b,b<c.w.heap.size->w1.heap[b]?=c.w.heap[b]?):Rep m w0 st a {c with w:=w1}:=by
 have p:Mv (λ_=>True) c {c with w:=w1}:=
  ⟨λb i=>g b (h.ok b i),λ_ g=>g,λ_ _=>rfl,λ_ _=>rfl,λ_ e _ l _ r=>⟨e,l,r,rfl⟩⟩
 refine ⟨h.size,λd=>bI.move p (λ_ _=>aO) (h.slots d),h.defers,h.ob,λk o q=>(h.objs k o q).move p (λ_ _=>aO) aO (λs=>g _ ?_),?_,?_,λb g=>eW (h.ok b g) n,f,h.old,h.new,h.pin⟩
 ·exact (h.mine k ⟨o,q,s⟩).2.2
 ·exact λk t f j=>h.apart k t f j
 ·exact λk f=>⟨(h.mine k f).1,(h.mine k f).2.1,eW (h.mine k f).2.2 n⟩
theorem newNum_spec (h:ki st k o=some (b,st1)):st.new b o=some st1:=by
 grind[ki]
theorem jA (h:st.new k o=some st1):
 st1.s=st.s/\st.s.refs k=false/\jz st.o k=false/\(st.obj k=none\/st.obj k=some .gone)/\(∀i,st1.obj i=if i=k then some o else st.obj i)/\o.refs k=false:=by
 unfold St.new at h
 cases b:st.s.refs k || jz st.o k || o.refs k with
 |true=>grind
 |false=>
  rw [b] at h;simp [aa] at h;simp [DS] at b
  cases d:St.dH st.o k with
  |none=>
   grind[St.obj,St.dH,sA]
  |some x=>
   obtain ⟨v,o'⟩:=x;rw [d] at h;cases o' <;>simp [aB] at h <;>try (simp at h;done)
   subst h;refine ⟨rfl,b.1.1,b.1.2,.inr (by grind[St.obj]),λi=> ?_,b.2⟩
   grind[gR,St.obj]
theorem Rep.newObj (h:Rep m w0 st a c) (hn:st.new k o=some st1) (g:Nat) (v:Value)
 (hk:Kept m.w w0 w1) (hs:c.w.heap.size<=w1.heap.size) (hb:∀b,c.ok b\/(∃k',bf c k'/\c.ρ k'=b)->w1.heap[b]?=c.w.heap[b]?)
 (hO:mz {w:=w1,ok:=c.ok,ρ:=λi=>if i=k then g else c.ρ i,σ:=λi=>if i=k then v else c.σ i,pin:=c.pin,ob:=st1.obj} k o)
 (hw:gm {w:=w1,ok:=c.ok,ρ:=λi=>if i=k then g else c.ρ i,σ:=λi=>if i=k then v else c.σ i,pin:=c.pin,ob:=st1.obj} k o->
  ¬c.ok g/\(w0.heap.size<=g\/m.w g)/\g<w1.heap.size/\∀k',bf c k'->c.ρ k'≠g):
 Rep m w0 st1 a {w:=w1,ok:=c.ok,ρ:=λi=>if i=k then g else c.ρ i,σ:=λi=>if i=k then v else c.σ i,pin:=c.pin,ob:=st1.obj}:=by
 obtain ⟨h1,h2,h3,h4,h5,_⟩:=jA hn
 have hm:Mv (λi=>i≠k) c {w:=w1,ok:=c.ok,ρ:=λi=>if i=k then g else c.ρ i,σ:=λi=>if i=k then v else c.σ i,pin:=c.pin,ob:=st1.obj}:=by
  refine ⟨λb hb'=>hb b (.inl hb'),λ_ hb=>hb,λi hi=>by grind,λi hi=>by grind,λi e t l hi hl=>⟨e,l,?_,rfl⟩⟩;rw [h.ob]
  grind
 have own_old:∀i,i≠k->bf {w:=w1,ok:=c.ok,ρ:=λi=>if i=k then g else c.ρ i,σ:=λi=>if i=k then v else c.σ i,pin:=c.pin,ob:=st1.obj} i->bf c i:=by
  rintro i hi ⟨o',ho,hw'⟩;refine ⟨o',?_,hw'.congr (by grind)⟩;rw [h.ob]
  grind
 have hgone:¬bf c k:=by
  rintro ⟨o',ho,hw'⟩;rw [h.ob] at ho;rcases h4 with h4|h4
  ·grind
  ·rw [h4] at ho;simp at ho;subst ho;exact hw'
 refine ⟨by rw [h1];exact h.size,λd=> ?_,h.defers,λ_=>rfl,λi o' ho=> ?_,λi j hi hj he=> ?_,λi hi=> ?_,λb hb=>eW (h.ok b hb) hs,hk,h.old,h.new,h.pin⟩
 ·have:st1.get d=st.get d:=by grind[St.get]
  rw [this];refine bI.move hm (λi hr=> ?_) (h.slots d);rintro rfl;have:=Da st.s d i hr
  grind
 ·simp [h5] at ho;by_cases hi:i=k
  ·grind
  ·rw [ak hi] at ho;have hoi:c.ob i=some o':=by rw [h.ob];exact ho
   refine (h.objs i o' hoi).move hm (λj hr=> ?_) hi (λhw'=>hb _ (.inr ⟨i,⟨o',hoi,hw'⟩,rfl⟩))
   grind[St.obj,IN]
 ·by_cases hik:i=k
  ·by_cases hjk:j=k
   ·omega
   ·subst hik;simp [aI,hjk,aH] at he;obtain ⟨o',ho,hw'⟩:=hi
    grind
  ·by_cases hjk:j=k
   ·subst hjk;simp [aI,hik,aH] at he;obtain ⟨o',ho,hw'⟩:=hj
    grind
   ·simp [hik,hjk,aH] at he;exact h.apart i j (own_old i hik hi) (own_old j hjk hj) he
 ·by_cases hik:i=k
  ·subst hik;obtain ⟨o',ho,hw'⟩:=hi
   grind
  ·simp [hik,aH];have:=h.mine i (own_old i hik hi)
   grind
theorem Rep.setObj (h:Rep m w0 st a c) (L:st.obj k=some o) (ok1:Nat->Prop)
 (v:Kept m.w w0 w1) (M:c.w.heap.size<=w1.heap.size) (g:∀b,c.ok b\/(∃C,C≠k/\bf c C/\c.ρ C=b)->w1.heap[b]?=c.w.heap[b]?)
 (x:∀b,c.ok b->ok1 b) (I:∀b,ok1 b->b<w1.heap.size/\∀C,C≠k->bf c C->c.ρ C≠b)
 (hlen:∀e t l,(o'= .row e t l\/∃n,o'= .arr e t n l)->∃R J,(o= .row R t J\/∃n,o= .arr R t n J)/\J.length=l.length)
 (P:mz {w:=w1,ok:=ok1,ρ:=c.ρ,σ:=c.σ,pin:=c.pin,ob:=(st.setO k o').obj} k o')
 (G:gm c k o'->gm c k o/\¬ok1 (c.ρ k)) (A:∀b,ok1 b->c.ok b\/(bf c k/\b=c.ρ k):=by first|exact λ_ g=> .inl g|exact λ_ g=>g):
 Rep m w0 (st.setO k o') a {w:=w1,ok:=ok1,ρ:=c.ρ,σ:=c.σ,pin:=c.pin,ob:=(st.setO k o').obj}:=by
 have B:∀i,(st.setO k o').obj i=if i=k then some o' else st.obj i:=by
  grind[gR]
 have H:Mv (λ_=>True) c {w:=w1,ok:=ok1,ρ:=c.ρ,σ:=c.σ,pin:=c.pin,ob:=(st.setO k o').obj}:=by
  refine ⟨λb D=>g b (.inl D),x,λ_ _=>rfl,λ_ _=>rfl,λi e t l _ K=> ?_⟩;rw [h.ob];simp [B] at K;by_cases p:i=k
  ·subst p;simp [aI,aB] at K
   grind
  grind
 have f:∀i,bf {w:=w1,ok:=ok1,ρ:=c.ρ,σ:=c.σ,pin:=c.pin,ob:=(st.setO k o').obj} i->bf c i:=by
  rintro i ⟨s,r,q⟩;have y:gm c i s:=q.congr (c:={w:=w1,ok:=ok1,ρ:=c.ρ,σ:=c.σ,pin:=c.pin,ob:=(st.setO k o').obj}) (c1:=c) rfl;simp [B] at r;by_cases p:i=k
  ·subst p;simp [aI,aB] at r;subst r;exact ⟨o,by rw [h.ob];exact L,(G y).1⟩
  ·simp [p,aH] at r;exact ⟨s,by rw [h.ob];exact r,y⟩
 refine ⟨h.size,λd=>bI.move H (λ_ _=>aO) (h.slots d),h.defers,λ_=>rfl,λi s r=> ?_,λi j p N O=>h.apart i j (f i p) (f j N) O,λi p=> ?_,λb g=>(I b g).1,v,λb g=>x b (h.old b g),λb g=> ?_,h.pin⟩
 ·simp [B] at r;by_cases p:i=k
  ·grind
  ·simp [p,aH] at r;have z:c.ob i=some s:=by rw [h.ob];exact r
   exact (h.objs i s z).move H (λ_ _=>aO) aO (λq=>g _ (.inr ⟨i,p,⟨s,z,q⟩,rfl⟩))
 ·have u:=h.mine i (f i p);refine ⟨?_,u.2.1,eW u.2.2 M⟩;by_cases E:i=k
  ·subst E;obtain ⟨s,r,q⟩:=p;have:s=o':=by grind
   subst this;exact (G (q.congr (c:={w:=w1,ok:=ok1,ρ:=c.ρ,σ:=c.σ,pin:=c.pin,ob:=(st.setO i s).obj}) (c1:=c) rfl)).2
  grind
 ·rcases A b g with F| ⟨F,rfl⟩
  ·exact h.new b F
  ·exact .inr (h.mine k F).2.1
theorem VB (g:C.length=l.length):∀ (f) (b) (d),((Ob.row e t C= .row f b d)\/∃n,Ob.row e t C= .arr f b n d)->
 ∃ (I:TypeId) (j:List b.den),(Ob.row e t l= .row I b j\/∃n,Ob.row e t l= .arr I b n j)/\j.length=d.length:=λf b d h=>by
 grind
theorem Rep.del (h:Rep m w0 st a c) (f:st.obj k=some o):Rep m w0 (st.del k) a {c with ob:=(st.del k).obj}:=
 h.setObj (o':= .gone) f c.ok h.kept (aR _) (λ_ _=>rfl) (λ_ d=>d) (λb d=>⟨h.ok b d,λg _ e i=>(h.mine g e).1 (i ▸ d)⟩) (by simp) aO (λj=>by grind[gm])
end
theorem dj.cell (h:dj w b j cs) (i) (d:cs[i]?=some u):w.cell? ⟨b,i,none⟩=some u:=by
 obtain ⟨e,f,_⟩:=h
 grind[World.cell?]
theorem aT.len :∀{l} {cs},aT w ok t l cs->cs.length=l.length*t.size
 | [],_,h=>by rw [show _=_ from h];simp
 |_::_,_,⟨c,j,h,C,I⟩=>by rw [h,cq,C.len,I.len,aW,fI,qv,Nat.add_comm]
theorem aT.get :∀{l} {cs} (j) {x},aT w ok t l cs->l[j]?=some x->
 ∃c,aJ w ok t x c/\c=(cs.drop (j*t.size)).take t.size/\∀ (i) (u),c[i]?=some u->cs[j*t.size+i]?=some u
 | [],_,_,_,_,h=>by grind
 |_::_,_,0,_,⟨c,J,h,C,R⟩,I=>by
  simp at I;subst I;refine ⟨c,C,by rw [h,<-C.len];simp,λi u U=> ?_⟩
  grind
 |_::_,_,j+1,_,⟨c,J,h,C,R⟩,I=>by
  obtain ⟨d,hd,he,hc⟩:=aT.get j R (by simpa using I);have b:=C.len;refine ⟨d,hd,?_,λi u U=> ?_⟩
  ·rw [he,h,fI,qv,DN,vG (as:=c) (by omega),fJ,show j*t.size+t.size - c.length=j*t.size by omega]
  grind
theorem aT.append :∀{l I} {cs j},aT w ok t l cs->aT w ok t I j->aT w ok t (l++I) (cs++j)
 | [],_,_,_,h,C=>by rw [show _=_ from h];exact C
 |_::_,_,_,_,⟨c,d,h,J,R⟩,C=>by
  rw [h,fK];exact ⟨c,_,rfl,J,R.append C⟩
theorem aT.take :∀{l} {cs} (n),aT w ok t l cs->aT w ok t (l.take n) (cs.take (n*t.size))
 |_,_,0,_=>by simp [aT]
 | [],_,n+1,h=>by grind[aT]
 |_::_,_,n+1,⟨c,d,h,j,C⟩=>by
  have I:=j.len;rw [h,fI,qv,vA,kD (l:=c) (by omega),show n*t.size+t.size - c.length=n*t.size by omega];exact ⟨c,_,rfl,j,aT.take n C⟩
theorem aT.drop :∀{l} {cs} (n),aT w ok t l cs->aT w ok t (l.drop n) (cs.drop (n*t.size))
 |_,_,0,h=>by grind
 | [],_,n+1,h=>by grind[aT]
 |_::_,_,n+1,⟨c,d,h,j,C⟩=>by
  have I:=j.len;rw [h,fI,qv,DN,DM (l:=c) (by omega),show n*t.size+t.size - c.length=n*t.size by omega];exact aT.drop n C
theorem aT.set :∀{l} {cs} (j) {x} {c},aT w ok t l cs->j<l.length->aJ w ok t x c->
 aT w ok t (l.set j x) (cs.take (j*t.size)++c++cs.drop (j*t.size+t.size))
 | [],_,_,_,_,_,h,_=>by grind
 |_::_,_,0,x,c,⟨d,C,h,I,J⟩,_,R=>by
  have U:=I.len;rw [h,Nat.zero_mul,List.take_zero,fJ,lI,DN,vG (as:=d) (by omega),fJ,show t.size - d.length=0 by omega,qz];exact ⟨c,C,rfl,R,J⟩
 |_::_,_,j+1,x,c,⟨d,C,h,I,J⟩,b,R=>by
  have U:=I.len;have:=aT.set j J (by grind) R
  rw [h,fI,qv,vA,kD (l:=d) (by omega),DN,vG (as:=d) (by omega),fJ,
   show j*t.size+t.size - d.length=j*t.size by omega,show j*t.size+t.size+t.size - d.length=j*t.size+t.size by omega]
  exact ⟨d,C.take (j*t.size)++c++C.drop (j*t.size+t.size),by simp,I,this⟩
theorem aT.one :∀{l} {cs},aT w ok t l cs->∀u ∈ cs,u.oneCell'=true
 | [],_,h=>by rw [show _=_ from h];simp
 |_::_,_,⟨c,d,h,C,I⟩=>by
  rw [h];intro u j;rcases cz.1 j with j|j
  ·exact C.one u j
  ·exact I.one u j
def WZ (w:World) (ok:Nat->Prop) (t:Ty) (A:Option Addr) (l:List t.den):=
 0<l.length->∃b off,A=some ⟨b,off,none⟩/\b<w.heap.size/\∀ (j) (x),l[j]?=some x->
  ∃c,aJ w ok t x c/\∀ (i) (u),c[i]?=some u->w.cell? ⟨b,off+j*t.size+i,none⟩=some u
theorem uN (d:dj w b C cs) (hd:aT w ok t l (cs.toList.take k)):
 ∀ (j) (x),l[j]?=some x->∃c,aJ w ok t x c/\∀ (i) (u),c[i]?=some u->w.cell? ⟨b,0+j*t.size+i,none⟩=some u:=by
 intro j x e;obtain ⟨c,f,_,g⟩:=hd.get j e;refine ⟨c,f,λi u h=> ?_⟩;have:=g i u h;rw [lI];refine d.cell _ ?_
 grind
theorem dj.lt (h:dj w b j cs):b<w.heap.size:=by
 obtain ⟨e,d,_⟩:=h
 grind
section
variable {m:MM} {w0:World} {st:St} {a:Act} {c:Cx}
theorem Rep.list (h:Rep m w0 st a c) (j:RepV c p v) (f:st.list p=some ⟨e,t,l⟩):
 ∃A n,v= .slice A l.length n/\l.length<=n/\n<=9223372036854775807/\WZ c.w c.ok t A l:=by
 cases p <;>simp only [St.list] at f <;>try (simp at f;done)
 case sl y z B=>
  cases f;simp [RepV] at j;obtain ⟨A,n,q,r,g,d⟩:=j;refine ⟨A,n,q,r,g,λi=> ?_⟩;obtain ⟨b,off,s,u,x⟩:=d i;exact ⟨b,off,s,h.ok b u,x⟩
 case full y z B=>
  cases f;simp [RepV] at j;obtain ⟨A,q,g,d⟩:=j;refine ⟨A,_,q,aR _,g,λi=> ?_⟩;obtain ⟨b,off,s,u,x⟩:=d i;exact ⟨b,off,s,h.ok b u,x⟩
 case own k=>
  simp [RepV] at j
  cases D:st.obj k with
  |none=>grind
  |some o=>
   rw [D] at f;have C:c.ob k=some o:=by rw [h.ob];exact D
   have E:=h.objs k o C;cases o <;>try (simp at f;done)
   case row y z B=>
    cases f;obtain ⟨A,n,q,r,g,d⟩:=E;refine ⟨A,n,by grind,r,g,λi=> ?_⟩;rcases d with d| ⟨d,cs,F,H,G,I⟩
    ·omega
    ·exact ⟨c.ρ k,0,d,F.lt,uN F G⟩
   case frow y z B=>
    cases f;obtain ⟨A,n,q,r,g,d⟩:=E;refine ⟨A,n,by grind,r,g,λi=> ?_⟩;obtain ⟨b,off,s,u,x⟩:=d i;exact ⟨b,off,s,h.ok b u,x⟩
theorem Rep.freeze (h:Rep m w0 st a c) (k):∃c1,c1.w=c.w/\c1.ρ=c.ρ/\c1.σ=c.σ/\(∀b,c.ok b->c1.ok b)/\Rep m w0 (st.freeze k) a c1:=by
 unfold St.freeze
 cases r:st.obj k with
 |none=>grind
 |some o=>
  cases o <;>try exact ⟨c,rfl,rfl,rfl,λ_ h=>h,h⟩
  case row e t l=>
   have g:c.ob k=some (.row e t l):=by rw [h.ob];exact r
   have u:=h.objs k _ g;obtain ⟨A,n,s,v,x,i⟩:=u
   let ok1:=λb=>c.ok b\/(bf c k/\b=c.ρ k)
   refine ⟨{w:=c.w,ok:=ok1,ρ:=c.ρ,σ:=c.σ,pin:=c.pin,ob:=(st.setO k (.frow e t l)).obj},rfl,rfl,rfl,λb d=> .inl d,?_⟩;refine h.setObj (o:= .row e t l) r ok1 h.kept (aR _) (λ_ _=>rfl) (λb d=> .inl d) (λb d=> ?_) (by simp) ?_ (λB=>by grind[gm])
   ·rcases d with d| ⟨d,rfl⟩
    ·exact ⟨h.ok b d,λj _ f p=>(h.mine j f).1 (p ▸ d)⟩
    ·exact ⟨(h.mine k d).2.2,λj q f p=>q (h.apart j k f d p)⟩
   ·refine ⟨A,n,s,v,x,λC=> ?_⟩;rcases i with i| ⟨i,cs,y,D,z,E⟩
    ·omega
    ·refine ⟨c.ρ k,0,i,.inr ⟨⟨_,g,A,_,n,s,by omega⟩,rfl⟩,?_⟩;exact uN y (z.move (w1:=c.w) (ok1:=ok1) (λ_ _=>rfl) (λb d=> .inl d))
end
theorem Ci (c1):∀ (n) (l) (x) (vs),pV R n l=some x->au c1 l vs->x.length=n/\aT c1.w c1.ok R x vs
 |0,l,x,vs,j,J=>by
  cases l with
  |nil=>grind[pV,au,aT]
  |cons p q=>simp [pV] at j
 |n+1,l,x,vs,j,J=>by
  simp [pV] at j;split at j
  ·rename_i y q U;split at j
   ·rename_i l2 C;simp [aB] at j;subst j;obtain ⟨v1,v2,rfl,d1,I⟩:=Ty.Dn U J;obtain ⟨d,b⟩:=Ci c1 n _ _ _ C I;exact ⟨by grind,v1,v2,rfl,d1,b⟩
   grind
  grind
theorem Dj (h:yj t n off l=some j) (b:au c l vs):
 j.length=n/\aT c.w c.ok t j ((vs.drop off).take (n*t.size)):=Ci c n _ _ _ h ((b.drop off).take _)
end Go.Fw
namespace Go.Fw
theorem Df (b):((∃s f,Ieee.double.read b= .nan s f)/\aX b= -1)\/((∀s f,Ieee.double.read b≠ .nan s f)/\aX b=(b:Int)):=by
 grind[aX]
theorem ajE (h:Ieee.double.read b= .nan s f):aX b= -1:=by grind[aX]
theorem ajr (d:Ieee.Datum) (s) (f):d.order (.nan s f)=none:=by cases d <;>rfl
theorem aiP (d:Ieee.Datum) (s) (f):d.sum (.nan s f)=none:=by cases d <;>rfl
theorem ajm (d:Ieee.Datum) (s) (f):d.product (.nan s f)=none:=by cases d <;>rfl
theorem ajl (n) (d:Ieee.Datum) (s) (f):d.quotient n (.nan s f)=none:=by cases d <;>rfl
theorem akr (a b):Ieee.double.order a b=lB (aX a) (aX b):=by
 unfold Ieee.Format.order lB;rcases Df a with ⟨⟨s,f,d⟩,c⟩| ⟨d,c⟩
 ·rw [d,c,aw (.inl rfl)];cases Ieee.double.read b <;>rfl
 ·rcases Df b with ⟨⟨s,f,g⟩,e⟩| ⟨g,e⟩
  ·grind[ajr]
  ·rw [c,e,ak (by omega)];rfl
theorem akt (h:ya op=true) (a b) (w):(Op.floatCmp op .f64 a b).run P w= .ok (.bool (jD op (aX a) (aX b))) w:=by
 unfold Op.floatCmp;simp [show FloatKind.f64.format=Ieee.double from rfl,akr];cases op <;>simp [ya] at h <;>simp [jD]
theorem aku (h:oH op=true) (d:aX a= -1\/aX b= -1):uY op a b=some none:=by
 have key:(∃s f,Ieee.double.read a= .nan s f)\/∃s f,Ieee.double.read b= .nan s f:=by
  grind[Df]
 rcases key with ⟨s,f,c⟩| ⟨s,f,c⟩
 ·cases op <;>simp [oH] at h <;>simp [uY,Ieee.Format.add,Ieee.Format.sub,Ieee.Format.mul,Ieee.Format.div,c]
  ·cases Ieee.double.read b <;>rfl
  ·cases (Ieee.double.read b).opposite <;>rfl
  ·cases Ieee.double.read b <;>rfl
  ·cases Ieee.double.read b <;>rfl
 ·cases op <;>simp [oH] at h <;>simp [uY,Ieee.Format.add,Ieee.Format.sub,Ieee.Format.mul,Ieee.Format.div,c,Ieee.Datum.opposite,aiP,ajm,ajl,Dv]
theorem ajF (t):aX ((t % 2)*2^63+0x7ff0000000000000+1+ (t / 2) % (2^52 - 1))= -1:=by
 have a:(t / 2) % (2^52 - 1) <2^52 - 1:=yJ _ (by decide);generalize (t / 2) % (2^52 - 1)=r at*;have b:t % 2<2:=yJ _ (by decide);generalize t % 2=q at*;have e:(q*2^63+0x7ff0000000000000+1+r) % 2^63=0x7ff0000000000000+1+r:=by omega
 refine ajE (s:=((q*2^63+0x7ff0000000000000+1+r) / 2^63 % 2==1)) (f:=1+r) ?_;unfold Ieee.Format.read;simp [show Ieee.double.signWeight=2^63 from rfl,show Ieee.double.binade=2^52 from rfl,show Ieee.double.infRung=0x7ff0000000000000 by decide,e]
 grind
theorem aks (h:oH op=true) (a b) (w):
 ∃r w',(Op.floatArith op .f64 a b).run P w= .ok (.float .f64 r) w'/\(w'=w\/w'= {w with drawn:=w.drawn+1})/\aX r=nv op (aX a) (aX b):=by
 obtain ⟨x,e⟩:∃x,uY op a b=some x:=by cases op <;>simp [oH] at h <;>exact ⟨_,rfl⟩
 have c:(Op.floatArith op .f64 a b).run P w=(match x with|some r=>(pure (.float .f64 r):Sem Value)|none=>(do pure (.float .f64 (<-choose (.nanBits .f64 a b))):Sem Value)).run P w:=by
  unfold Op.floatArith;cases op <;>simp [oH] at h <;>simp [uY,aB] at e <;>subst e <;>rfl
 have d:nv op (aX a) (aX b)=(match x with|some r=>aX r|none=> -1):=by
  grind[nv,aku,Df]
 rw [c,d]
 cases x with
 |some r=>exact ⟨r,w,rfl,.inl rfl,rfl⟩
 |none=>
  refine ⟨_,_,by simp [Sem.run_bind,run_choose,Question.forced,dQ,aH,Result.andThen_ok,Sem.run_pure];rfl,.inr rfl,?_⟩;exact ajF _
end Go.Fw
namespace Go.Fw
open Go.RowKit (Below)
theorem ja :(Lit.int k n).wf=true↔k.min<=n/\n<=k.max:=by simp [Lit.wf]
theorem uG (k) (n):(Lit.int k (k.wrap n)).wf=true:=by
 rw [ja];cases k <;>simp [IntKind.wrap,IntKind.min,IntKind.max,IntKind.signed,IntKind.bits] <;>(try split) <;>omega
theorem US (k:IntKind):k.min<=0:=by grind[IntKind.min]
theorem UT (k:IntKind):0<=k.max:=by cases k <;>simp [IntKind.max,IntKind.signed,IntKind.bits]
theorem Uh (h:(Lit.int k a).wf=true) (n):(Lit.int k (a / 2^n)).wf=true:=by
 rw [ja] at h ⊢;have d:(0:Int) <2^n:=vI (by omega);have g:=US k;have i:=UT k;rcases Int.lt_or_le a 0 with b|b
 ·have e:=Int.ediv_neg_of_neg_of_pos b d
  have f:a<=a / 2^n:=by
   rw [Int.le_ediv_iff_mul_le d];have:a*2^n<=a*1:=Int.mul_le_mul_of_nonpos_left (by omega) (by omega);omega
  omega
 ·have e:0<=a / 2^n:=Int.ediv_nonneg b (by omega);have f:a / 2^n<=a:=Int.ediv_le_self _ b;omega
theorem Un {a:Int} (b) (d:0<=a):a.tmod b<=a:=by
 have e:=J0 b d;have f:(a.tmod b).natAbs=a.natAbs % b.natAbs:=Int.natAbs_tmod ..;have g:=Nat.mod_le a.natAbs b.natAbs;omega
theorem aix (h:(Lit.int k a).wf=true):(Lit.int k (a.tmod b)).wf=true:=by
 rw [ja] at h ⊢;have f:=US k;have g:=UT k;rcases Int.lt_or_le a 0 with d|d
 ·have e:a.tmod b= -((-a).tmod b):=by simp
  have i:=Un b (show 0<= -a by omega);have j:=J0 b (show 0<= -a by omega);omega
 ·have:=J0 b d;have:=Un b d;omega
theorem mr (b):(bytesOf b).length=b.size:=by simp [bytesOf]
theorem Um {x y:UInt8}:(x.toNat:Int)=(y.toNat:Int)↔x=y:=by
 grind[UInt8.toNat_inj]
theorem Je :bytesOf x=bytesOf y↔x.data.toList=y.data.toList:=by
 unfold bytesOf;constructor
 ·intro h
  have:∀l d:List UInt8,l.map (λb=>(b.toNat:Int))=d.map (λb=>(b.toNat:Int))->l=d:=by
   intro l
   induction l with
   |nil=>simp
   |cons a r e=>
    intro d h
    cases d with
    |nil=>grind
    |cons b f=>
     grind[Um]
  grind
 grind
theorem Cg (b:ByteArray):b.toList=b.data.toList:=ByteArray.toList_eq b
theorem Wn:∀l j,qj (l.map λb=>(b.toNat:Int)) (j.map λb=>(b.toNat:Int))=Op.bytesLess l j
 |l,[]=>by cases l <;>rfl
 | [],_::_=>rfl
 |a::x,b::y=>by
  simp [eX,qj,Op.bytesLess,Wn x y]
  grind[UInt8.lt_iff_toNat_lt,Um]
section
variable {P:Program} {m:MM} {w0:World} {st:St} {a:Act} {c:Cx}
theorem aZ (h:Rep m w0 st a c) (x):RepV c (aG st x) (a.eval x):=by
 cases x with
 |tmp t=>exact (h.slots t).rep
 |global g=>simp [aG,RepV]
 |func f=>grind[aG,RepV,Act.eval,au]
 |const v=>
  cases v <;>try (simp [aG,RepV];done)
  case bool b=>simp [aG,RepV,Act.eval]
  case int k n=>
   grind[aG,RepV,Act.eval]
  case string s=>
   simp [aG]
   cases d:Nat.ble s.size 4294967296 with
   |true=>simp only [ah,RepV,Act.eval];exact ⟨s,rfl,rfl,by have:=Dz d;omega⟩
   |false=>simp [RepV]
  case pointer p=>cases p <;>simp [aG,RepV,Act.eval]
  case float k n=>
   cases k
   all_goals grind[aG,RepV,Act.eval]
  all_goals grind[aG,RepV,Act.eval,Operand.const.injEq]
theorem eM (h:RepV c p v) (t):RepV c (cN P t p) v:=by
 cases p <;>try exact h
 case mnone=>
  simp [cN];simp [RepV] at h;split
  ·simp [RepV];exact ⟨none,h,.inl ⟨rfl,rfl⟩⟩
  simp[RepV]
 simp [cN];simp [RepV] at h;split
 ·split
  ·simp only [RepV];exact ⟨none,by omega,by simp,λb=>by grind⟩
  simp[RepV]
 simp[RepV]
theorem bh (h:P.underlying t=some d) (w):(underlying t).run P w= .ok d w:=by
 unfold underlying;simp [h]
theorem kf (h:P.cellsOf t≠0) (w):(sizeOf t).run P w= .ok (P.cellsOf t) w:=by
 unfold Program.cellsOf at h ⊢
 cases b:P.info? t with
 |none=>grind
 |some i=>simp [sizeOf,typeInfo,b]
theorem akc (h:P.underlying t=some d):∃i,P.info? t=some i:=by
 grind[Program.underlying]
theorem Cp (h:P.underlying t=some d) (w):(sizeOf t).run P w= .ok (P.cellsOf t) w:=by
 obtain ⟨i,b⟩:=akc h;simp [sizeOf,typeInfo,b,Program.cellsOf]
def mw:TypeDesc->Bool
 | .struct _| .array _ _=>true
 |_=>false
theorem pY (h:P.underlying t=some d) (w):(isAgg t).run P w= .ok (mw d) w:=by
 unfold isAgg;simp [Sem.run_bind,bh h,Result.andThen_ok];cases d <;>rfl
theorem my (b off i):(⟨b,off,none⟩:Addr).add i=⟨b,off+i,none⟩:=by
 grind[Addr.add]
theorem xQ :∀ (n i) (d) (vs:List Value),vs.length=n->(∀ (j) (u),vs[j]?=some u->w.cell? ⟨b,off+ (i+j),none⟩=some u)->
 (loadCellsFrom ⟨b,off,none⟩ i n d).run P w= .ok (d++vs.toArray) w
 |0,i,d,vs,C,_=>by
  have:=jK.1 C;subst this;simp [loadCellsFrom]
 |n+1,i,d,vs,C,h=>by
  cases vs with
  |nil=>grind
  |cons v r=>
   have e:=h 0 v (by simp);simp [loadCellsFrom,Sem.run_bind,run_load,my,sE] at e ⊢;rw [e];simp [Result.andThen_ok]
   rw [xQ n (i+1) (d.push v) r (by grind) (λj u f=>by
    have:=h (j+1) u (by grind)
    grind)]
   simp
theorem Jc (h:Rep m w0 st a c) (B:RepV c p v) (f:st.cellsAt p=some l):
 ∃b off cs,v= .pointer (some ⟨b,off,none⟩)/\au c l cs/\∀ (i) (u),cs[i]?=some u->c.w.cell? ⟨b,off+i,none⟩=some u:=by
 cases p <;>simp [St.cellsAt] at f <;>try (simp at f;done)
 case ptr k off=>
  simp [RepV] at B
  cases r:st.obj k with
  |none=>grind
  |some o=>
   rw [r] at f;cases o <;>try (simp at f;done)
   simp [aB] at f;subst f;obtain ⟨cs,C,F⟩:=h.objs k _ (by rw [h.ob];exact r);refine ⟨c.ρ k,off,cs.toList.drop off,B,F.drop off,λi u s=> ?_⟩;rw [qy,vO] at s;exact C.cell _ s
 case sptr k off n t i D=>
  simp [RepV] at B;obtain ⟨G,E,C⟩:=B
  cases r:st.obj k with
  |none=>grind
  |some o=>
   rw [r] at f;cases o <;>try (simp at f;done)
   rename_i g;simp at f;split at f
   ·rename_i H I;simp [aB] at f;subst f;obtain ⟨cs,g1,J⟩:=h.objs k _ (by rw [h.ob];exact r);obtain ⟨T,R⟩:=Dj I J;have x:i.toNat<H.length:=by omega
    obtain ⟨d,K,_,L⟩:=R.get i.toNat (cK x);have y:rd t H i=H[i.toNat]:=by grind[rd]
    rw [y];refine ⟨c.ρ k,off+i.toNat*t.size+D,d.drop D,G,K.leaves.drop D,λq u s=> ?_⟩;rw [qy] at s;have:=L _ u s;rw [sI] at this;split at this
    ·rw [qy,vO] at this;rw [show off+i.toNat*t.size+D+q=off+ (i.toNat*t.size+ (D+q)) by omega];exact g1.cell _ this
    grind
   grind
 case cptr g=>
  grind[RepV]
 case optr k i M off=>
  simp [RepV] at B;obtain ⟨G,N⟩:=B
  have key:∀ (t) (g) (cs) (n) (O),0<=i->i<g.length->M=t.size->dj c.w (c.ρ k) O cs->aT c.w c.ok t g (cs.toList.take n)->l=((t.leaves (rd t g i)).drop off)->
   ∃b off cs,v= .pointer (some ⟨b,off,none⟩)/\au c l cs/\∀ (i) (u),cs[i]?=some u->c.w.cell? ⟨b,off+i,none⟩=some u:=by
   intro t g cs n O E C j S hd f;have x:i.toNat<g.length:=by omega
   obtain ⟨d,K,_,L⟩:=hd.get i.toNat (cK x);have y:rd t g i=g[i.toNat]:=by grind[rd]
   rw [f,y];refine ⟨c.ρ k,i.toNat*M+off,d.drop off,G,K.leaves.drop off,λq u s=> ?_⟩;rw [qy] at s;have:=L _ u s;rw [sI] at this;split at this
   ·rw [vO] at this;rw [j,show i.toNat*t.size+off+q=i.toNat*t.size+ (off+q) by omega];exact S.cell _ this
   grind
  cases r:st.obj k with
  |none=>grind
  |some o=>
   rw [r] at f;have z:c.ob k=some o:=by rw [h.ob];exact r
   have Q:=h.objs k o z;cases o <;>try (simp at f;done)
   case row e t g=>
    simp only at f;split at f
    ·rename_i j;simp [aB] at f;obtain ⟨E,C,F⟩:=N e t g (.inl z);obtain ⟨A,n,g1,J,U,V⟩:=Q
     grind
    grind
   case arr e t n g=>
    simp only at f;split at f
    ·rename_i j;simp [aB] at f;obtain ⟨E,C,F⟩:=N e t g (.inr ⟨n,z⟩);obtain ⟨W,cs,g1,J⟩:=Q;exact key t g cs cs.size _ E C j g1 (by grind[List.take_of_length_le]) f.symm
    grind
theorem U3 (g:au c l cs)
 (n:∀ (i) (u:Value),cs[i]?=some u->c.w.cell? ⟨b,off+i,none⟩=some u) (e:kh P t l 0=some p):
 ∃v,(loadVar t ⟨b,off,none⟩).run P c.w= .ok v c.w/\RepV c p v:=by
 unfold kh at e
 have h:∀d,P.underlying t=some d->(mw d)=true->(if 0+P.cellsOf t<=l.length then some (PV.agg ((l.drop 0).take (P.cellsOf t))) else none)=some p->
  ∃v,(loadVar t ⟨b,off,none⟩).run P c.w= .ok v c.w/\RepV c p v:=by
  intro d hd f e;split at e
  ·rename_i k;simp [qz,aB] at e;subst e;have hlen:=g.length;refine ⟨.agg (cs.take (P.cellsOf t)).toArray,?_,?_⟩
   ·unfold loadVar;simp [Sem.run_bind,pY hd,Result.andThen_ok,f,aI,Cp hd,loadCells]
    rw [xQ (P.cellsOf t) 0 #[] (cs.take (P.cellsOf t)) (by grind) (λj u o=>by
     grind)]
    simp
   ·simp only [RepV];exact ⟨_,rfl,by simpa using g.take _⟩
  grind
 have one:∀d,P.underlying t=some d->(mw d)=false->l[0]?=some p->
  ∃v,(loadVar t ⟨b,off,none⟩).run P c.w= .ok v c.w/\RepV c p v:=by
  intro d hd f e;obtain ⟨v,q,r⟩:=g.get 0 e
  grind[loadVar,Sem.run_bind,Result.andThen_ok,run_load,pY]
 cases hd:P.underlying t with
 |none=>grind
 |some d=>
  rw [hd] at e
  cases d <;>first
   |exact h _ hd rfl e
   |exact one _ hd rfl e
theorem UO (g:au c l cs.toList) (b:kh P t l off=some p):
 ∃v,(part t cs off).run P c.w= .ok v c.w/\RepV c p v:=by
 unfold kh at b
 have f:∀d,P.underlying t=some d->(mw d)=true->(if off+P.cellsOf t<=l.length then some (PV.agg ((l.drop off).take (P.cellsOf t))) else none)=some p->
  ∃v,(part t cs off).run P c.w= .ok v c.w/\RepV c p v:=by
  intro d hd e b;split at b
  ·simp [aB] at b;subst b;refine ⟨.agg (cs.extract off (off+P.cellsOf t)),?_,?_⟩
   ·grind[part,Sem.run_bind,Result.andThen_ok,Sem.run_pure,pY,Cp]
   ·simp only [RepV];refine ⟨_,rfl,?_⟩;have:=(g.drop off).take (P.cellsOf t)
    simp_all
  grind
 have one:∀d,P.underlying t=some d->(mw d)=false->l[off]?=some p->
  ∃v,(part t cs off).run P c.w= .ok v c.w/\RepV c p v:=by
  intro d hd e b;obtain ⟨v,i,h⟩:=g.get off b;refine ⟨v,?_,h⟩;unfold part;simp [Sem.run_bind,pY hd,Result.andThen_ok,e,dQ,aH]
  simp_all
 cases hd:P.underlying t with
 |none=>grind
 |some d=>
  rw [hd] at b
  cases d <;>first
   |exact f _ hd rfl b
   |exact one _ hd rfl b
end
section
variable {P:Program} {m:MM} {w0:World} {st:St} {a:Act} {c:Cx}
theorem RepV.gS (h:(Lit.int k n).wf=true):RepV c (.int k n) (.int k n):=by simp [RepV,h]
theorem RepV.bool_ (h:x=y):RepV c (.bool x) (.bool y):=by simp [RepV,h]
theorem ama (x:Int) (n):x.fdiv (2^n)=x / 2^n:=Int.fdiv_eq_ediv_of_nonneg _ (vJ (vI (by omega)))
theorem aj1 (t) (d:(Lit.int k x).wf=true) (h:(Lit.int j y).wf=true) (b:IB op k x j y=some p):
 ∃v,(binOp op t (.int k x) (.int j y)).run P c.w= .ok v c.w/\RepV c p v:=by
 cases op <;>simp only [IB] at b <;>try (simp at b;done)
 case shl=>
  split at b
  ·grind
  ·rename_i e;simp [aB] at b;subst b
   have f:¬y<0:=by
    grind[ja,IntKind.min]
   exact ⟨_,by grind[binOp,Op.shift,Sem.run_pure],RepV.gS (uG _ _)⟩
 case shr=>
  split at b
  ·grind
  ·rename_i e;simp [aB] at b;subst b
   have f:¬y<0:=by
    grind[ja,IntKind.min]
   refine ⟨_,by grind[binOp,Op.shift,Sem.run_pure],RepV.gS (Uh d _)⟩
 all_goals
  split at b
  ·rename_i g;subst g;simp [aB] at b;subst b;refine ⟨_,by simp [binOp,Op.intArith,Op.intCmp,cU,dm,aH,Sem.run_pure];rfl,?_⟩
   first
    |exact RepV.gS (uG _ _)
    |grind[RepV.bool_]
    | (refine RepV.bool_ ?_;rw [Bool.eq_iff_iff];simp;done)
  ·simp at b
theorem aj2 (t) (e:(Lit.int k x).wf=true) (b:CZ op k x j y=some (g,p)) (h:g=true):
 ∃v,(binOp op t (.int k x) (.int j y)).run P c.w= .ok v c.w/\RepV c p v:=by
 cases op <;>simp only [CZ] at b <;>try (simp at b;done)
 case shl=>
  split at b
  ·simp [aB,aL] at b;obtain ⟨rfl,rfl⟩:=b;have d:¬y<0:=by grind
   exact ⟨_,by grind[binOp,Op.shift,Sem.run_pure],RepV.gS (uG _ _)⟩
  grind
 case shr=>
  split at b
  ·simp [aB,aL] at b;obtain ⟨rfl,rfl⟩:=b;have d:¬y<0:=by grind
   exact ⟨_,by grind[binOp,Op.shift,Sem.run_pure],RepV.gS (Uh e _)⟩
  grind
 all_goals
  split at b
  ·rename_i f;subst f;simp only [aB,aL] at b;obtain ⟨rfl,rfl⟩:=b;have d:¬y=0:=by grind
   refine ⟨_,by simp [binOp,Op.intDiv,cU,dm,d,aH,Sem.run_pure];rfl,?_⟩
   grind[RepV.gS,uG,aix]
  grind
theorem aiS (t) (b:HL op (bytesOf x) (bytesOf y)=some p):
 ∃v,(binOp op t (.string x) (.string y)).run P c.w= .ok v c.w/\RepV c p v:=by
 have d:decide (bytesOf x=bytesOf y)=(x.toList==y.toList):=by
  grind[Je,Cg]
 have e:qj (bytesOf x) (bytesOf y)=Op.bytesLess x.toList y.toList:=by rw [Cg,Cg];exact Wn _ _
 cases op <;>simp [HL,aB] at b <;>try (simp at b;done)
 all_goals
  subst b;refine ⟨_,by simp only [binOp,Op.stringOp,Sem.run_pure] <;>rfl,RepV.bool_ ?_⟩
  grind
theorem nk (h:∀s,u≠ .agg s) (j:u≠ .nilIface) (w):(eqGuard op t x y u v).run P w= .ok () w:=by
 unfold eqGuard
 simp_all
theorem aiD (e:RepV c p v) (d:HB op p=some q):∃u,(Op.unary op v).run P c.w= .ok u c.w/\RepV c q u:=by
 cases p <;>simp [HB] at d <;>try (simp at d;done)
 case int k n=>
  simp [RepV] at e;cases op <;>simp [aB] at d <;>try (simp at d;done)
  subst d;rw [e.1];simp[Op.unary,Op.intArith,RepV.gS,uG]
 case bool b=>
  simp [RepV] at e;cases op <;>simp [aB] at d <;>try (simp at d;done)
  subst d;rw [e];simp[Op.unary,RepV.bool_]
theorem I2 (n) (b:RepV c p u) (d:RepV c q v) (h:jF P t p q=some r) (w):(Op.equalIn (n+1) t u v).run P w= .ok r w:=by
 cases p <;>try (simp [jF] at h;done)
 case int k x=>
  cases q <;>simp [jF] at h <;>try (simp at h;done)
  grind[RepV,run_equalIn_int]
 case bool x=>
  cases q <;>simp [jF] at h <;>try (simp at h;done)
  grind[RepV,run_equalIn_bool']
 case str x=>
  cases q <;>simp [jF] at h <;>try (simp at h;done)
  grind[RepV,run_equalIn_string,Je,Cg]
theorem akz (h:jF P t p q=some r):∃d,P.underlying t=some d/\mw d=false:=by
 cases p <;>cases q <;>simp [jF] at h <;>try (simp at h;done)
 all_goals
  cases b:P.underlying t with
  |none=>grind
  |some d=>
   rw [b] at h
   cases d <;>first
    | (simp at h;done)
    |exact ⟨_,rfl,rfl⟩
theorem rX (hd:P.underlying t=some d) (b:mw d=false) (e:xs[i]?=some v) (w):(part t xs i).run P w= .ok v w:=by
 grind[part,Sem.run_bind,Result.andThen_ok,Sem.run_pure,pY]
theorem Dh (n) (w):∀ (k) (i) (l C) (xs ys) (r),
 au c l (xs.toList.drop i)->au c C (ys.toList.drop i)->lE P i k l C=some r->(Op.eqFields (n+1) xs ys k).run P w= .ok r w
 | [],i,l,C,xs,ys,r,I,J,h=>by grind[lE]
 |f::k,i,l,C,xs,ys,r,I,J,h=>by
  have j:∀ (p q) (b e) (x y),l=p::b->C=q::e->(f.offset=i && f.name != "_")=true->jF P f.type p q=some x->
   (x=true->(Op.eqFields (n+1) xs ys k).run P w= .ok y w)->(Op.eqFields (n+1) xs ys (f::k)).run P w= .ok (x && y) w:=by
   intro p q b e x y H v s o z;subst H v;simp [au] at I J;obtain ⟨D,K,A,t,_⟩:=I;obtain ⟨E,L,B,u,_⟩:=J;simp [bb,db,nE] at s;obtain ⟨M,N⟩:=s;obtain ⟨d,hd,F⟩:=akz o
   have g1:xs[i]?=some D:=by
    have:=bz (·[0]?) A
    grind
   have O:ys[i]?=some E:=by
    have:=bz (·[0]?) B
    grind
   rw [Op.eqFields];simp [M,cU,N,iI,aI,Sem.run_bind,rX hd F g1,rX hd F O,Result.andThen_ok,I2 n t u o];cases x
   all_goals simp_all
  cases l with
  |nil=>grind[lE]
  |cons p b=>
   cases C with
   |nil=>grind[lE]
   |cons q e=>
    simp only [lE] at h;split at h
    ·rename_i s
     cases o:jF P f.type p q with
     |none=>grind
     |some x=>
      rw [o] at h
      cases k with
      |nil=>
       simp [yP,aB] at h;subst h;have:=j p q b e x true rfl rfl s o (λ_=>by simp [Op.eqFields])
       grind
      |cons g G=>
       simp [DF] at h
       cases z:lE P (i+1) (g::G) b e with
       |none=>grind
       |some y=>
        rw [z] at h;simp [aB] at h;subst h;refine j p q b e x y rfl rfl s o (λ_=> ?_);simp [au] at I J;obtain ⟨D,K,A,t,Q⟩:=I;obtain ⟨E,L,B,u,R⟩:=J;refine Dh n w (g::G) (i+1) b e xs ys y ?_ ?_ z
        ·have:=bz (List.drop 1) A
         grind[List.drop_drop]
        ·have:=bz (List.drop 1) B
         grind[List.drop_drop]
    grind
theorem akT (x y) (e:RepV c p u) (f:RepV c q v) (b:qm P t op p q=some r):
 ∃z,(do eqGuard op t x y u v;binOp op t u v:Sem Value).run P c.w= .ok z c.w/\RepV c r z:=by
 cases p <;>try (simp [qm] at b;done)
 case int k n=>
  cases q <;>simp [qm] at b <;>try (simp at b;done)
  simp [RepV] at e f;rw [e.1,f.1];obtain ⟨z,g,h⟩:=aj1 (P:=P) (c:=c) t e.2 f.2 b;exact ⟨z,by simp [Sem.run_bind,nk (u:= .int k n) (by simp) (by simp),Result.andThen_ok];exact g,h⟩
 case str s=>
  cases q <;>simp [qm] at b <;>try (simp at b;done)
  simp [RepV] at e f;obtain ⟨i,rfl,rfl,_⟩:=e;obtain ⟨G,rfl,rfl,_⟩:=f;obtain ⟨z,g,h⟩:=aiS (P:=P) (c:=c) t b;exact ⟨z,by simp [Sem.run_bind,nk (u:= .string i) (by simp) (by simp),Result.andThen_ok];exact g,h⟩
 case flt s=>
  cases q <;>simp [qm] at b <;>try (simp at b;done)
  simp [RepV] at e f;obtain ⟨i,rfl,rfl⟩:=e;obtain ⟨G,rfl,rfl⟩:=f
  cases A:ya op with
  |false=>grind
  |true=>
   rw [A] at b;simp [ah,aB] at b;subst b;refine ⟨_,?_,RepV.bool_ rfl⟩;simp [Sem.run_bind,nk (u:= .float .f64 i) (by simp) (by simp),Result.andThen_ok];rw [<-akt (P:=P) A i G c.w];cases op <;>simp [ya] at A <;>rfl
 case bool s=>
  cases q <;>simp [qm] at b <;>try (simp at b;done)
  simp [RepV] at e f;subst e f
  cases j:P.underlying t with
  |none=>grind
  |some d=>
   rw [j] at b;cases d <;>try (simp at b;done)
   have B:(Op.equal t (.bool s) (.bool ‹Bool›)).run P c.w= .ok (s== ‹Bool›) c.w:=run_equalIn_bool' c.w 9999 t _ _ j;cases op <;>try (simp at b;done)
   all_goals
    simp [aB] at b;subst b;refine ⟨_,by simp [Sem.run_bind,nk (u:= .bool s) (by simp) (by simp),Result.andThen_ok,binOp,B,Sem.run_pure] <;>rfl,RepV.bool_ rfl⟩
 case agg l=>
  cases q <;>simp [qm] at b <;>try (simp at b;done)
  rename_i H;simp [RepV] at e f;obtain ⟨xs,rfl,g⟩:=e;obtain ⟨ys,rfl,h⟩:=f
  cases j:P.underlying t with
  |none=>grind
  |some d=>
   rw [j] at b;cases d <;>try (simp at b;done)
   rename_i C;simp at b
   cases D:(P.stoodInHeld t || P.eqGuardType P.depth t) with
   |true=>grind
   |false=>
    rw [D] at b;simp [aa] at b;rw [DS] at D
    cases I:lE P 0 C.toList l H with
    |none=>grind
    |some J=>
     rw [I] at b;have E:P.fieldsOf t=C:=by grind[Program.fieldsOf]
     have B:(Op.equal t (.agg xs) (.agg ys)).run P c.w= .ok J c.w:=by
      show (Op.equalIn (9999+1) t (.agg xs) (.agg ys)).run P c.w=_;rw [run_equalIn_struct c.w 9999 t xs ys (by grind) D.1,E];exact Dh 9998 c.w C.toList 0 l H xs ys J (by simpa using g) (by grind) I
     have F:∀o:BinOp,(eqGuard o t x y (.agg xs) (.agg ys)).run P c.w= .ok () c.w:=by
      intro o;unfold eqGuard
      simp_all
     cases op <;>try (simp at b;done)
     all_goals
      simp [aB] at b;subst b;refine ⟨_,by simp [Sem.run_bind,F,Result.andThen_ok,binOp,B,Sem.run_pure] <;>rfl,RepV.bool_ rfl⟩
end
end Go.Fw
