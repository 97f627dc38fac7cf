/- Part 16: lemmas that the last text needs. -/
import Derived.Test.YtkihadlgknhpkaaGreatDoorX52
import Derived.Laws.AppendOwn
import Derived.Test.YtkihadlgknhpkaaGreatDoorX0
import Derived.Test.YtkihadlgknhpkaaGreatDoorProg
import Derived.KernelRfl
import Derived.Shelf.Abstract
import Derived.Shelf.SlGeneric
set_option linter.all false
set_option autoImplicit true
set_option relaxedAutoImplicit true
namespace Go.Fw
structure InsPays (P:Program) (f:FuncId) (e:TypeId) (K:Nat) (z:Value):Prop where
 shift:∀ (b n c i vb vc:Nat) (cs vs:List Value) (w:World),i<n->n+1<=c->c<=9223372036854775807->vb≠b->cs.length=n*K->vs.length=K->
  (∀j v,cs[j]?=some v->w.cell? ⟨b,j,none⟩=some v)->(∀j,j<(n+1)*K->(w.cell? ⟨b,j,none⟩).isSome=true)->(∀j,j<(n+1)*K->w.frozen? ⟨b,j,none⟩=false)->
  (∀j v,vs[j]?=some v->w.cell? ⟨vb,j,none⟩=some v)->(∀v ∈ cs,v.oneCell'=true)->(∀v ∈ vs,v.oneCell'=true)->
  (∀a,w.frozen? ⟨vb,a,none⟩=false)->(∃tA kA,w.shape? vb=some (tA,kA))->(∃tB kB,w.shape? b=some (tB,kB)/\kB≠0)->
  Calls P f #[.slice (some ⟨b,0,none⟩) n c,.int .i64 i,.slice (some ⟨vb,0,none⟩) 1 vc] w λe w'=>
   e= .returned (.slice (some ⟨b,0,none⟩) (n+1) c)/\w'=(w.drew.setCells b ((i+1)*K) (cs.drop (i*K))).setCells b (i*K) vs
 room:∀ (b n c vb vc:Nat) (vs:List Value) (w:World),n+1<=c->c<=9223372036854775807->vs.length=K->(∀j,j<K->(w.cell? ⟨b,n*K+j,none⟩).isSome=true)->(∀j,j<K->w.frozen? ⟨b,n*K+j,none⟩=false)->
  (∀j v,vs[j]?=some v->w.cell? ⟨vb,j,none⟩=some v)->(∀v ∈ vs,v.oneCell'=true)->
  Calls P f #[.slice (some ⟨b,0,none⟩) n c,.int .i64 n,.slice (some ⟨vb,0,none⟩) 1 vc] w λe w'=>
   e= .returned (.slice (some ⟨b,0,none⟩) (n+1) c)/\w'=w.setCells b (n*K) vs
 grow0:∀ (base:Option Addr) (n c vb vc:Nat) (cs vs:List Value) (w:World),n<=c->c<n+1->(n+1)*P.bytesOf e<=az->cs.length=n*K->vs.length=K->(base=none->n=0)->(∀a,base=some a->∀j v,cs[j]?=some v->w.cell? (a.add j)=some v)->
  (∀j v,vs[j]?=some v->w.cell? ⟨vb,j,none⟩=some v)->(∀v ∈ vs,v.oneCell'=true)->
  Calls P f #[.slice base n c,.int .i64 n,.slice (some ⟨vb,0,none⟩) 1 vc] w λr w'=>∃G,n+1<=G/\G<=9223372036854775807/\r= .returned (.slice (some ⟨w.heap.size,0,none⟩) (n+1) G)/\
   w'=w.drew.alloc (.cells ((cs++vs).toArray++Builtin.zeroCells z.cells (G -(n+1))) e)
 grow:∀ (b n c i vb vc:Nat) (cs vs:List Value) (w:World),i<n->n<=c->c<n+1->(n+1)*P.bytesOf e<=az->cs.length=n*K->vs.length=K->(∀j v,cs[j]?=some v->w.cell? ⟨b,j,none⟩=some v)->
  (∀j v,vs[j]?=some v->w.cell? ⟨vb,j,none⟩=some v)->(∀v ∈ cs,v.oneCell'=true)->(∀v ∈ vs,v.oneCell'=true)->
  Calls P f #[.slice (some ⟨b,0,none⟩) n c,.int .i64 i,.slice (some ⟨vb,0,none⟩) 1 vc] w λr w'=>∃G,n+1<=G/\G<=9223372036854775807/\r= .returned (.slice (some ⟨w.heap.size,0,none⟩) (n+1) G)/\
   w'=(((w.alloc (.cells ((cs.take (i*K)).toArray++Builtin.zeroCells z.cells (n+1 - i)++Builtin.zeroCells z.cells (G -(n+1))) e)).drew.setCells w.heap.size (i*K) vs).drew).setCells w.heap.size ((i+1)*K) (cs.drop (i*K))
theorem ai3 {α:Type} {C D V a b:List α} {p K N y:Nat} (c:p+K<=C.length) (d:V.length=K) (e:N=p+K+D.length) (f:a=C.take (p+K)++D++C.drop y) (g:b=a.take p++V++a.drop (p+V.length)):b.take N=C.take p++ (V++D):=by
 grind[List.length_take,List.take_left']
theorem akk {α:Type} {C D V a b:List α} (c:p<=C.length) (d:V.length=K) (e:N=p+K+D.length) (f:a=C.take p++V++C.drop x) (g:b=a.take (p+K)++D++a.drop y):b.take N=C.take p++ (V++D):=by
 grind[List.length_take]
theorem Wh {w:World} :dj (w.alloc (.cells j e)) w.heap.size (some e) j:=⟨e,by show (w.heap.push _)[w.heap.size]?=_;grind,λx a=>by grind⟩
theorem Vr (o):Kept (λ_=>False) w (w.alloc o):=⟨rfl,rfl,rfl,by simp_all,λi a _=>by show (w.heap.push o)[i]?=_;grind,aR _⟩
theorem aj3 (hp:InsPays P f e t.size z) (hzs:z.cells.size=t.size) (htp:0<t.size) (hr:uU P f e t xs st K=some r)
 (h:Rep m w0 st a c) (W:au c xs vs.toList):
 Calls P f vs c.w λe w'=>∃u v st' c',e= .returned u/\c'.w=w'/\K v st'=some r/\Rep m w0 st' a c'/\RepV c' v u:=by
 unfold uU at hr;split at hr
 ·rename_i k i O;split at hr
  ·rename_i e' t' l e2 d x ho ho2;split at hr
   ·rename_i X;split at hr
    ·rename_i ht;split at hr
     ·rename_i ht2;subst X;subst ht;subst ht2;obtain ⟨o,hr1⟩:=b6 hr;clear hr;simp only [bb,db,ae] at o;obtain ⟨⟨hi0,hil⟩,hlim⟩:=o;split at hr1
      ·rename_i s st2 hnn;have hn:=newNum_spec hnn;have hob:c.ob k=some (.row e' d l):=by rw [h.ob];exact ho
       have hdo:∀i,(st.del k).obj i=if i=k then some .gone else st.obj i:=by grind[St.del,gR]
       have hk2:O≠k:=by grind
       have ho2':st.obj O=some (.row e2 d [x]):=by grind
       have hob2:c.ob O=some (.row e2 d [x]):=by rw [h.ob];omega
       obtain ⟨A,cap,q1,q2,q3,q4⟩:=h.objs k _ hob;obtain ⟨A2,H,y1,y2,y3,y4⟩:=h.objs O _ hob2;simp only [au,RepV] at W;obtain ⟨v1,r1,hv,hv1,v2,r2,rfl,⟨rfl,_⟩,v3,r3,rfl,hv3,rfl⟩:=W;rcases y4 with y4| ⟨rfl,V,y5,y6,y7,_⟩
       ·grind
       have hvs:vs= #[.slice A l.length cap,.int .i64 i,.slice (some ⟨c.ρ O,0,none⟩) 1 H]:=by grind
       subst hvs;obtain ⟨n,rfl⟩:=qC hi0;simp only [bu] at hr1 hn hnn;have hil':n<=l.length:=by omega
       have hll:(de l n x).length=l.length+1:=by grind[de]
       have hdel:=h.del ho;have Y:bf c O:=⟨_,hob2,_,_,H,y1,by grind⟩;have hm2:=h.mine O Y;simp only [nI,qv] at y7;have Q:(V.toList.take d.size).length=d.size:=by have:=y7.len;grind
       have y:∀j v,(V.toList.take d.size)[j]?=some v->c.w.cell? ⟨c.ρ O,j,none⟩=some v:=λj v R=>by
        rw [sI] at R;split at R
        ·exact y5.cell j (by grind)
        grind
       have fin:∀ (g G:Nat) (I:World) (J:Array Value),Kept m.w w0 I->c.w.heap.size<=I.heap.size->(∀b,c.ok b\/(∃s,s≠k/\bf c s/\c.ρ s=b)->I.heap[b]?=c.w.heap[b]?)->
        ¬c.ok g->(w0.heap.size<=g\/m.w g)->g<I.heap.size->(∀s,s≠k->bf c s->c.ρ s≠g)->l.length+1<=G->G<=9223372036854775807->
        dj I g (some e') J->J.size=G*d.size->aT I c.ok d (de l n x) (J.toList.take ((l.length+1)*d.size))->
        ∃u v st' c',Ending.returned (.slice (some ⟨g,0,none⟩) (l.length+1) G)= .returned u/\c'.w=I/\K v st'=some r/\Rep m w0 st' a c'/\RepV c' v u:=by
        intro g G I J hk hs hbl g1 g2 g3 g4 g5 g6 g7 g8 g9
        have rep:=hdel.newObj hn (w1:=I) g (.slice (some ⟨g,0,none⟩) (l.length+1) G) hk hs (λb o=>hbl b (o.imp id λ⟨S,F,X⟩=>⟨S,(nl h ho F).1,(nl h ho F).2,X⟩))
         ⟨some ⟨g,0,none⟩,G,by grind,by omega,g6,.inr ⟨by simp,J,by grind,g8,by grind,htp⟩⟩
         (λhw=>⟨g1,g2,g3,λS F X=>g4 S (nl h ho F).1 (nl h ho F).2 X⟩)
        exact ⟨_,.own s,st2,_,rfl,rfl,hr1,rep,by grind[RepV]⟩
       have B:aT c.w c.ok d [x] (V.toList.take d.size):=y7;have inpl:cap≠0->bf c k:=λhc0=>⟨_,hob,A,_,cap,q1,hc0⟩
       by_cases C:l.length+1<=cap
       ·rcases q4 with q4| ⟨rfl,cs,q5,q6,q7,q8⟩
        ·omega
        have Z:=inpl (by omega);have p:=h.mine k Z;have hcl:cs.toList.length=cap*d.size:=by omega
        have hL:(l.length+1)*d.size<=cap*d.size:=fH _ C;have hL1:(l.length+1)*d.size=l.length*d.size+d.size:=vz _ _;have htl:(cs.toList.take (l.length*d.size)).length=l.length*d.size:=by grind
        have hsome:∀j,j<cap*d.size->(c.w.cell? ⟨c.ρ k,j,none⟩).isSome=true:=λj R=>by rw [q5.cell j (sO (by omega))];rfl
        have hfr:∀j,c.w.frozen? ⟨c.ρ k,j,none⟩=false:=λj=>by obtain ⟨el,z1,_⟩:=q5;grind[World.frozen?]
        have keep:∀I:World,Kept (λb=>b=c.ρ k) c.w I->Kept m.w w0 I/\(∀b,c.ok b\/(∃s,s≠k/\bf c s/\c.ρ s=b)->I.heap[b]?=c.w.heap[b]?):=λI q=>
         ⟨⟨q.os.trans h.kept.os,q.tape.trans h.kept.tape,q.output.trans h.kept.output,b9 h.kept.size q.size,λb o hm=>(q.block b (eW o h.kept.size) (by
          grind)).trans (h.kept.block b o hm),b9 h.kept.drawn q.drawn⟩,λb o=>by
          rcases o with o| ⟨S,F,L,rfl⟩
          ·exact q.block b (h.ok b o) (λX=>p.1 (X ▸ o))
          ·exact q.block _ (h.mine S L).2.2 (λX=>F (h.apart S k L Z X))⟩
        have M:∀s,s≠k->bf c s->c.ρ s≠c.ρ k:=λS F L X=>F (h.apart S k L Z X)
        by_cases hie:n=l.length
        ·subst hie;refine (hp.room (c.ρ k) l.length cap (c.ρ O) H (V.toList.take d.size) c.w C q3 Q (λj R=>hsome _ (by omega)) (λj _=>hfr _) y B.one).mono ?_;rintro e w' ⟨rfl,rfl⟩;obtain ⟨cs1,s1,s2,s3,s4⟩:=rR P q5 (vals:=V.toList.take d.size) (off:=l.length*d.size) B.one (by omega);obtain ⟨k1,D⟩:=keep _ s4;refine fin (c.ρ k) cap _ cs1 k1 s4.size D p.1 p.2.1 (eW p.2.2 s4.size) M C q3 s1 (by omega) ?_;refine aT.move (w:=c.w) (λb o=>D b (.inl o)) (λ_ o=>o) ?_;rw [s2,DA (by grind)];have e1:de l l.length x=l++ [x]:=by simp [de]
         rw [e1];exact q7.append B
        ·have hlt:n<l.length:=by omega
         have hiK:(n+1)*d.size<=l.length*d.size:=fH _ (by omega);have hiK1:(n+1)*d.size=n*d.size+d.size:=vz _ _;have hdl:((cs.toList.take (l.length*d.size)).drop (n*d.size)).length=(l.length - n)*d.size:=by grind[Nat.sub_mul]
         have hsum:n*d.size+ (l.length - n)*d.size=l.length*d.size:=by grind
         have hpos:0<cap*d.size:=yH (by omega) htp;refine (hp.shift (c.ρ k) l.length cap n (c.ρ O) H (cs.toList.take (l.length*d.size)) (V.toList.take d.size) c.w hlt C q3 (M O hk2 Y) htl Q (λj v R=> ?_) (λj R=>hsome _ (by omega)) (λj _=>hfr _) y q7.one B.one (λj=> ?_) ?_ ?_).mono ?_
         ·rw [sI] at R;split at R
          ·exact q5.cell j (by grind)
          grind
         ·obtain ⟨el,z1,_⟩:=y5
          grind[World.frozen?]
         ·obtain ⟨el,z1,_⟩:=y5
          grind[World.shape?]
         ·obtain ⟨el,z1,_⟩:=q5;exact ⟨el,cs.size,by grind[World.shape?],by omega⟩
         ·rintro e w' ⟨rfl,rfl⟩;have c0:dj c.w.drew (c.ρ k) (some e') cs:=q5;obtain ⟨cs1,s1,s2,s3,s4⟩:=rR P c0 (vals:=(cs.toList.take (l.length*d.size)).drop (n*d.size)) (off:=(n+1)*d.size) (q7.drop n).one (by omega);obtain ⟨J,u1,u2,u3,u4⟩:=rR P s1 (vals:=V.toList.take d.size) (off:=n*d.size) B.one (by omega);have T:=s4.trans u4;have q:Kept (λb=>b=c.ρ k) c.w _:=⟨T.os,T.tape,T.output,T.size,T.block,b9 (dI _) T.drawn⟩;obtain ⟨k1,D⟩:=keep _ q;refine fin (c.ρ k) cap _ J k1 q.size D p.1 p.2.1 (eW p.2.2 q.size) M C q3 u1 (by omega) ?_;refine aT.move (w:=c.w) (λb o=>D b (.inl o)) (λ_ o=>o) ?_;rw [hiK1] at s2;rw [ai3 (by omega) Q (by omega) s2 u2];have e0:cs.toList.take (n*d.size)=(cs.toList.take (l.length*d.size)).take (n*d.size):=by rw [yK,qw (by omega)]
          rw [e0];have e1:de l n x=l.take n++ ([x]++l.drop n):=rfl;rw [e1];exact (q7.take n).append (B.append (q7.drop n))
       ·have hcap:cap=l.length:=by omega
        have lf:∃E:List Value,E.length=l.length*d.size/\aT c.w c.ok d l E/\(A=none->l.length=0)/\(∀a,A=some a->∀j v,E[j]?=some v->c.w.cell? (a.add j)=some v)/\(0<l.length->A=some ⟨c.ρ k,0,none⟩):=by
         rcases q4 with q4| ⟨rfl,cs,q5,q6,q7,q8⟩
         ·grind[aT]
         ·refine ⟨cs.toList.take (l.length*d.size),?_,q7,λhh=>by grind,?_,λ_=>rfl⟩
          ·grind
          ·rintro a ha j v R;simp only [aB] at ha;subst ha;rw [sI] at R;split at R
           ·have:=q5.cell j (by simpa using R)
            grind[Addr.add]
           grind
        obtain ⟨E,l1,l2,l3,l4,l5⟩:=lf;have hS1:(l.length+1)*d.size=l.length*d.size+d.size:=vz _ _;have newb:¬c.ok c.w.heap.size:=λo=>absurd (h.ok _ o) (Nat.lt_irrefl _)
        have N:∀s,s≠k->bf c s->c.ρ s≠c.w.heap.size:=λS _ L=>Dx (h.mine S L).2.2
        have keep:∀I:World,Kept (λb=>b=c.w.heap.size) c.w I->Kept m.w w0 I/\(∀b,c.ok b\/(∃s,s≠k/\bf c s/\c.ρ s=b)->I.heap[b]?=c.w.heap[b]?):=λI q=>
         ⟨⟨q.os.trans h.kept.os,q.tape.trans h.kept.tape,q.output.trans h.kept.output,b9 h.kept.size q.size,λb o hm=>(q.block b (eW o h.kept.size) (Dx (eW o h.kept.size))).trans (h.kept.block b o hm),b9 h.kept.drawn q.drawn⟩,λb o=>by
          rcases o with o| ⟨S,F,L,rfl⟩
          ·exact q.block b (h.ok b o) (Dx (h.ok b o))
          ·exact q.block _ (h.mine S L).2.2 (Dx (h.mine S L).2.2)⟩
        have gsz:∀G,l.length+1<=G->(l.length+1)*d.size+ (G -(l.length+1))*d.size=G*d.size:=λG hG=>by rw [<-fI];grind
        by_cases hie:n=l.length
        ·subst hie;refine (hp.grow0 A l.length cap (c.ρ O) H E (V.toList.take d.size) c.w q2 (by omega) hlim l1 Q l3 l4 y B.one).mono ?_;rintro e w' ⟨G,g1,g2,rfl,rfl⟩;have T:=Vr (w:=c.w.drew) (.cells ((E++V.toList.take d.size).toArray++Builtin.zeroCells z.cells (G -(l.length+1))) e');have q:Kept (λb=>b=c.w.heap.size) c.w _:=⟨T.os,T.tape,T.output,T.size,λb o _=>T.block b o id,b9 (dI _) T.drawn⟩;obtain ⟨k1,D⟩:=keep _ q;refine fin c.w.heap.size G _ _ k1 q.size D newb (.inl h.kept.size) (by simp [World.alloc]) N g1 g2 (Wh (w:=c.w.drew)) ?_ ?_
         ·grind[Builtin.zeroCells]
         ·refine aT.move (w:=c.w) (λb o=>D b (.inl o)) (λ_ o=>o) ?_;rw [sM,DA (by grind)];have e1:de l l.length x=l++ [x]:=by simp [de]
          rw [e1];exact l2.append B
        ·have hlt:n<l.length:=by omega
         have hA:=l5 (by omega);subst hA;have hiK:(n+1)*d.size=n*d.size+d.size:=vz _ _;have hdl:(E.drop (n*d.size)).length=(l.length - n)*d.size:=by grind[Nat.sub_mul]
         have hsum:n*d.size+ (l.length - n)*d.size=l.length*d.size:=by rw [<-fI];grind
         refine (hp.grow (c.ρ k) l.length cap n (c.ρ O) H E (V.toList.take d.size) c.w hlt q2 (by omega) hlim l1 Q (λj v R=> ?_) y l2.one B.one).mono ?_
         ·grind[Addr.add]
         ·rintro e w' ⟨G,g1,g2,rfl,rfl⟩;have hg:=gsz G g1;generalize hrow:(E.take (n*d.size)).toArray++Builtin.zeroCells z.cells (l.length+1 - n)++Builtin.zeroCells z.cells (G -(l.length+1))=U
          have hsz:U.size=G*d.size:=by
           rw [<-hrow];simp only [Array.size_append,nF,dZ,l1,Builtin.zeroCells,Array.size_map,Array.size_range,hzs];have:n*d.size+ (l.length+1 - n)*d.size=(l.length+1)*d.size:=by rw [<-fI];grind
           omega
          have htk:U.toList.take (n*d.size)=E.take (n*d.size):=by
           grind
          have c0:dj (c.w.alloc (.cells U e')).drew c.w.heap.size (some e') U:=Wh (w:=c.w);obtain ⟨cs1,s1,s2,s3,s4⟩:=rR P c0 (vals:=V.toList.take d.size) (off:=n*d.size) B.one (by omega);have s1':dj ((c.w.alloc (.cells U e')).drew.setCells c.w.heap.size (n*d.size) (V.toList.take d.size)).drew c.w.heap.size (some e') cs1:=s1;obtain ⟨J,u1,u2,u3,u4⟩:=rR P s1' (vals:=E.drop (n*d.size)) (off:=(n+1)*d.size) (l2.drop n).one (by omega);have ka:=Vr (w:=c.w) (.cells U e');have q:Kept (λb=>b=c.w.heap.size) c.w _:=⟨u4.os.trans (s4.os.trans ka.os),u4.tape.trans (s4.tape.trans ka.tape),u4.output.trans (s4.output.trans ka.output),b9 ka.size (b9 s4.size u4.size),λb o hn=>(u4.block b (eW o (b9 ka.size s4.size)) hn).trans ((s4.block b (eW o ka.size) hn).trans (ka.block b o id)),b9 (b9 (dI _) s4.drawn) (b9 (dI _) u4.drawn)⟩;obtain ⟨k1,D⟩:=keep _ q;refine fin c.w.heap.size G _ J k1 q.size D newb (.inl h.kept.size) ?_ N g1 g2 u1 (by omega) ?_
          ·refine eW ?_ (b9 s4.size u4.size);show c.w.heap.size<(c.w.heap.push _).size
           grind
          ·refine aT.move (w:=c.w) (λb o=>D b (.inl o)) (λ_ o=>o) ?_;rw [hiK] at u2;rw [akk (by grind) Q (by omega) s2 u2,htk];have e1:de l n x=l.take n++ ([x]++l.drop n):=rfl;rw [e1];exact (l2.take n).append (B.append (l2.drop n))
      grind
     grind
    grind
   grind
  grind
 grind
theorem aj4 (h:∀v st1,Obj j st1->K v st1=K' v st1):uU P f e t xs j K=uU P f e t xs j K':=by
 unfold uU;split
 ·split
  ·split
   ·split
    ·split
     ·congr 1;split
      ·rename_i a;exact h _ _ ((Obj.del _ _).trans (Obj.new (newNum_spec a)))
      ·rfl
     ·rfl
    ·rfl
   ·rfl
  ·rfl
 ·rfl
theorem Ctx.Sound.addIns {C:Ctx} (d:C.Sound) (o:InsPays C.P f e t.size z) (g:z.cells.size=t.size) (j:0<t.size):(C.addIns f e t).Sound:=by
 refine ⟨⟨λp args R K x b=>d.1.1 p args R K x b,λi xs k R K x b m w0 a c vs q h n=> ?_,d.1.2.2⟩,λi xs k R K K' h=> ?_⟩
 ·simp only [Ctx.addIns] at b
  cases l:Nat.beq i f with
  |false=>rw [l] at b;exact d.1.2.1 i xs k R K x b m w0 a c vs q h n
  |true=>
   rw [l] at b;have:=dD.1 l;subst this;exact aj3 (e:=e) o g j b h n
 ·simp only [Ctx.addIns]
  cases Nat.beq i f with
  |false=>exact d.2 i xs k R K K' h
  |true=>grind[aj4]
end Go.Fw
namespace Go.Fw
open Go Go.Proofs Go.Shelf
noncomputable def insB(ρ:Ren):Func:=Func.mk "slices.Insert[[]damson/api.RootKey,damson/api.RootKey]" "slices.Insert" #[ρ.t 39,ρ.t 198] #[ρ.t 39,ρ.t 3,ρ.t 39] #[ρ.t 39] 0 95 #[ResultVar.tmp 6] (some (.seq (.region 0 #[Oper.mk (some 6) (.assign (.const (.slice none 0 0))) (ρ.t 39) "slices.go:136" #[] none] false) (.seq (.region 1 #[Oper.mk (some 10) (.move (.tmp 0)) (ρ.t 39) "slices.go:137" #[] none,Oper.mk (some 11) (.move (.tmp 1)) (ρ.t 3) "slices.go:137" #[] none,Oper.mk (some 12) (.slice (ρ.t 39) (.tmp 10) (some (.tmp 11)) none none) (ρ.t 39) "slices.go:137" #[Edge.mk 0 Ground.data,Edge.mk 1 Ground.data] none] false) (.seq (.region 2 #[Oper.mk (some 13) (.move (.tmp 2)) (ρ.t 39) "slices.go:139" #[] none,Oper.mk (some 14) (.call (.mk (.builtin Builtin.len) #[Operand.tmp 13] #[ρ.t 39])) (ρ.t 3) "slices.go:139" #[Edge.mk 0 Ground.data] none,Oper.mk (some 7) (.assign (.tmp 14)) (ρ.t 3) "slices.go:139" #[Edge.mk 1 Ground.data,Edge.mk 0 Ground.phase,Edge.mk 1 Ground.phase] none] false) (.seq (.seq (.region 3 #[Oper.mk (some 15) (.move (.tmp 7)) (ρ.t 3) "slices.go:140" #[] none,Oper.mk (some 16) (.binOp BinOp.eql (ρ.t 3) (.tmp 15) (.const (.int IntKind.i64 0)) (ρ.t 3)) (ρ.t 4) "slices.go:140" #[Edge.mk 0 Ground.data] none] false) (.cond (.tmp 16) (.seq (.region 4 #[Oper.mk (some 17) (.move (.tmp 0)) (ρ.t 39) "slices.go:141" #[] none,Oper.mk (some 6) (.assign (.tmp 17)) (ρ.t 39) "slices.go:141" #[Edge.mk 0 Ground.data,Edge.mk 0 Ground.phase] none] false) Code.ret) Code.skip)) (.seq (.region 5 #[Oper.mk (some 18) (.move (.tmp 0)) (ρ.t 39) "slices.go:143" #[] none,Oper.mk (some 19) (.call (.mk (.builtin Builtin.len) #[Operand.tmp 18] #[ρ.t 39])) (ρ.t 3) "slices.go:143" #[Edge.mk 0 Ground.data] none,Oper.mk (some 8) (.assign (.tmp 19)) (ρ.t 3) "slices.go:143" #[Edge.mk 1 Ground.data,Edge.mk 0 Ground.phase,Edge.mk 1 Ground.phase] none] false) (.seq (.seq (.region 6 #[Oper.mk (some 20) (.move (.tmp 1)) (ρ.t 3) "slices.go:144" #[] none,Oper.mk (some 21) (.move (.tmp 8)) (ρ.t 3) "slices.go:144" #[] none,Oper.mk (some 22) (.binOp BinOp.eql (ρ.t 3) (.tmp 20) (.tmp 21) (ρ.t 3)) (ρ.t 4) "slices.go:144" #[Edge.mk 0 Ground.data,Edge.mk 1 Ground.data] none] false) (.cond (.tmp 22) (.seq (.region 7 #[Oper.mk (some 23) (.move (.tmp 0)) (ρ.t 39) "slices.go:145" #[] none,Oper.mk (some 24) (.move (.tmp 2)) (ρ.t 39) "slices.go:145" #[] none,Oper.mk (some 25) (.call (.mk (.builtin Builtin.append) #[Operand.tmp 23,Operand.tmp 24] #[ρ.t 39,ρ.t 39])) (ρ.t 39) "slices.go:145" #[Edge.mk 0 Ground.data,Edge.mk 1 Ground.data] none,Oper.mk (some 6) (.assign (.tmp 25)) (ρ.t 39) "slices.go:145" #[Edge.mk 2 Ground.data,Edge.mk 2 Ground.chain,Edge.mk 0 Ground.phase,Edge.mk 1 Ground.phase,Edge.mk 2 Ground.phase] none] false) Code.ret) Code.skip)) (.seq (.seq (.region 8 #[Oper.mk (some 26) (.move (.tmp 8)) (ρ.t 3) "slices.go:147" #[] none,Oper.mk (some 27) (.move (.tmp 7)) (ρ.t 3) "slices.go:147" #[] none,Oper.mk (some 28) (.binOp BinOp.add (ρ.t 3) (.tmp 26) (.tmp 27) (ρ.t 3)) (ρ.t 3) "slices.go:147" #[Edge.mk 0 Ground.data,Edge.mk 1 Ground.data] none,Oper.mk (some 29) (.move (.tmp 0)) (ρ.t 39) "slices.go:147" #[] none,Oper.mk (some 30) (.call (.mk (.builtin Builtin.cap) #[Operand.tmp 29] #[ρ.t 39])) (ρ.t 3) "slices.go:147" #[Edge.mk 3 Ground.data] none,Oper.mk (some 31) (.binOp BinOp.gtr (ρ.t 3) (.tmp 28) (.tmp 30) (ρ.t 3)) (ρ.t 4) "slices.go:147" #[Edge.mk 2 Ground.data,Edge.mk 4 Ground.data] none] false) (.cond (.tmp 31) (.seq (.region 9 #[Oper.mk (some 32) (.move (.tmp 0)) (ρ.t 39) "slices.go:152" #[] none,Oper.mk (some 33) (.move (.tmp 1)) (ρ.t 3) "slices.go:152" #[] none,Oper.mk (some 34) (.slice (ρ.t 39) (.tmp 32) none (some (.tmp 33)) none) (ρ.t 39) "slices.go:152" #[Edge.mk 0 Ground.data,Edge.mk 1 Ground.data] none,Oper.mk (some 35) (.move (.tmp 8)) (ρ.t 3) "slices.go:152" #[] none,Oper.mk (some 36) (.move (.tmp 7)) (ρ.t 3) "slices.go:152" #[] none,Oper.mk (some 37) (.binOp BinOp.add (ρ.t 3) (.tmp 35) (.tmp 36) (ρ.t 3)) (ρ.t 3) "slices.go:152" #[Edge.mk 3 Ground.data,Edge.mk 4 Ground.data] none,Oper.mk (some 38) (.move (.tmp 1)) (ρ.t 3) "slices.go:152" #[] none,Oper.mk (some 39) (.binOp BinOp.sub (ρ.t 3) (.tmp 37) (.tmp 38) (ρ.t 3)) (ρ.t 3) "slices.go:152" #[Edge.mk 5 Ground.data,Edge.mk 6 Ground.data] none,Oper.mk (some 40) (.call (.mk (.builtin Builtin.append) #[Operand.tmp 34,Operand.tmp 39] #[ρ.t 39,ρ.t 3])) (ρ.t 39) "slices.go:152" #[Edge.mk 2 Ground.data,Edge.mk 7 Ground.data] none,Oper.mk (some 9) (.assign (.tmp 40)) (ρ.t 39) "slices.go:152" #[Edge.mk 8 Ground.data,Edge.mk 8 Ground.chain,Edge.mk 0 Ground.phase,Edge.mk 1 Ground.phase,Edge.mk 2 Ground.phase,Edge.mk 3 Ground.phase,Edge.mk 4 Ground.phase,Edge.mk 5 Ground.phase,Edge.mk 6 Ground.phase,Edge.mk 7 Ground.phase,Edge.mk 8 Ground.phase] none] false) (.seq (.region 10 #[Oper.mk (some 41) (.move (.tmp 9)) (ρ.t 39) "slices.go:153" #[] none,Oper.mk (some 42) (.move (.tmp 1)) (ρ.t 3) "slices.go:153" #[] none,Oper.mk (some 43) (.slice (ρ.t 39) (.tmp 41) (some (.tmp 42)) none none) (ρ.t 39) "slices.go:153" #[Edge.mk 0 Ground.data,Edge.mk 1 Ground.data] none,Oper.mk (some 44) (.move (.tmp 2)) (ρ.t 39) "slices.go:153" #[] none,Oper.mk (some 45) (.call (.mk (.builtin Builtin.copy) #[Operand.tmp 43,Operand.tmp 44] #[ρ.t 39,ρ.t 39])) (ρ.t 3) "slices.go:153" #[Edge.mk 2 Ground.data,Edge.mk 3 Ground.data] none] false) (.seq (.region 11 #[Oper.mk (some 46) (.move (.tmp 9)) (ρ.t 39) "slices.go:154" #[] none,Oper.mk (some 47) (.move (.tmp 1)) (ρ.t 3) "slices.go:154" #[] none,Oper.mk (some 48) (.move (.tmp 7)) (ρ.t 3) "slices.go:154" #[] none,Oper.mk (some 49) (.binOp BinOp.add (ρ.t 3) (.tmp 47) (.tmp 48) (ρ.t 3)) (ρ.t 3) "slices.go:154" #[Edge.mk 1 Ground.data,Edge.mk 2 Ground.data] none,Oper.mk (some 50) (.slice (ρ.t 39) (.tmp 46) (some (.tmp 49)) none none) (ρ.t 39) "slices.go:154" #[Edge.mk 0 Ground.data,Edge.mk 3 Ground.data] none,Oper.mk (some 51) (.move (.tmp 0)) (ρ.t 39) "slices.go:154" #[] none,Oper.mk (some 52) (.move (.tmp 1)) (ρ.t 3) "slices.go:154" #[] none,Oper.mk (some 53) (.slice (ρ.t 39) (.tmp 51) (some (.tmp 52)) none none) (ρ.t 39) "slices.go:154" #[Edge.mk 5 Ground.data,Edge.mk 6 Ground.data] none,Oper.mk (some 54) (.call (.mk (.builtin Builtin.copy) #[Operand.tmp 50,Operand.tmp 53] #[ρ.t 39,ρ.t 39])) (ρ.t 3) "slices.go:154" #[Edge.mk 4 Ground.data,Edge.mk 7 Ground.data] none] true) (.seq (.region 12 #[Oper.mk (some 55) (.move (.tmp 9)) (ρ.t 39) "slices.go:155" #[] none,Oper.mk (some 6) (.assign (.tmp 55)) (ρ.t 39) "slices.go:155" #[Edge.mk 0 Ground.data,Edge.mk 0 Ground.phase] none] false) Code.ret)))) Code.skip)) (.seq (.region 13 #[Oper.mk (some 56) (.move (.tmp 0)) (ρ.t 39) "slices.go:157" #[] none,Oper.mk (some 57) (.move (.tmp 8)) (ρ.t 3) "slices.go:157" #[] none,Oper.mk (some 58) (.move (.tmp 7)) (ρ.t 3) "slices.go:157" #[] none,Oper.mk (some 59) (.binOp BinOp.add (ρ.t 3) (.tmp 57) (.tmp 58) (ρ.t 3)) (ρ.t 3) "slices.go:157" #[Edge.mk 1 Ground.data,Edge.mk 2 Ground.data] none,Oper.mk (some 60) (.slice (ρ.t 39) (.tmp 56) none (some (.tmp 59)) none) (ρ.t 39) "slices.go:157" #[Edge.mk 0 Ground.data,Edge.mk 3 Ground.data] none,Oper.mk (some 0) (.assign (.tmp 60)) (ρ.t 39) "slices.go:157" #[Edge.mk 4 Ground.data,Edge.mk 0 Ground.phase,Edge.mk 1 Ground.phase,Edge.mk 2 Ground.phase,Edge.mk 3 Ground.phase,Edge.mk 4 Ground.phase] none] false) (.seq (.seq (.region 14 #[Oper.mk (some 61) (.move (.tmp 2)) (ρ.t 39) "slices.go:173" #[] none,Oper.mk (some 62) (.move (.tmp 0)) (ρ.t 39) "slices.go:173" #[] none,Oper.mk (some 63) (.move (.tmp 1)) (ρ.t 3) "slices.go:173" #[] none,Oper.mk (some 64) (.move (.tmp 7)) (ρ.t 3) "slices.go:173" #[] none,Oper.mk (some 65) (.binOp BinOp.add (ρ.t 3) (.tmp 63) (.tmp 64) (ρ.t 3)) (ρ.t 3) "slices.go:173" #[Edge.mk 2 Ground.data,Edge.mk 3 Ground.data] none,Oper.mk (some 66) (.slice (ρ.t 39) (.tmp 62) (some (.tmp 65)) none none) (ρ.t 39) "slices.go:173" #[Edge.mk 1 Ground.data,Edge.mk 4 Ground.data] none,Oper.mk (some 67) (.call (.mk (.value (.func (ρ.f 258))) #[Operand.tmp 61,Operand.tmp 66] #[ρ.t 39,ρ.t 39])) (ρ.t 4) "slices.go:173" #[Edge.mk 0 Ground.data,Edge.mk 5 Ground.data] none,Oper.mk (some 68) (.unOp UnOp.not (ρ.t 4) (.tmp 67)) (ρ.t 4) "slices.go:173" #[Edge.mk 6 Ground.data] none] false) (.cond (.tmp 68) (.seq (.region 15 #[Oper.mk (some 69) (.move (.tmp 0)) (ρ.t 39) "slices.go:178" #[] none,Oper.mk (some 70) (.move (.tmp 1)) (ρ.t 3) "slices.go:178" #[] none,Oper.mk (some 71) (.move (.tmp 7)) (ρ.t 3) "slices.go:178" #[] none,Oper.mk (some 72) (.binOp BinOp.add (ρ.t 3) (.tmp 70) (.tmp 71) (ρ.t 3)) (ρ.t 3) "slices.go:178" #[Edge.mk 1 Ground.data,Edge.mk 2 Ground.data] none,Oper.mk (some 73) (.slice (ρ.t 39) (.tmp 69) (some (.tmp 72)) none none) (ρ.t 39) "slices.go:178" #[Edge.mk 0 Ground.data,Edge.mk 3 Ground.data] none,Oper.mk (some 74) (.move (.tmp 0)) (ρ.t 39) "slices.go:178" #[] none,Oper.mk (some 75) (.move (.tmp 1)) (ρ.t 3) "slices.go:178" #[] none,Oper.mk (some 76) (.slice (ρ.t 39) (.tmp 74) (some (.tmp 75)) none none) (ρ.t 39) "slices.go:178" #[Edge.mk 5 Ground.data,Edge.mk 6 Ground.data] none,Oper.mk (some 77) (.call (.mk (.builtin Builtin.copy) #[Operand.tmp 73,Operand.tmp 76] #[ρ.t 39,ρ.t 39])) (ρ.t 3) "slices.go:178" #[Edge.mk 4 Ground.data,Edge.mk 7 Ground.data] none] true) (.seq (.region 16 #[Oper.mk (some 78) (.move (.tmp 0)) (ρ.t 39) "slices.go:186" #[] none,Oper.mk (some 79) (.move (.tmp 1)) (ρ.t 3) "slices.go:186" #[] none,Oper.mk (some 80) (.slice (ρ.t 39) (.tmp 78) (some (.tmp 79)) none none) (ρ.t 39) "slices.go:186" #[Edge.mk 0 Ground.data,Edge.mk 1 Ground.data] none,Oper.mk (some 81) (.move (.tmp 2)) (ρ.t 39) "slices.go:186" #[] none,Oper.mk (some 82) (.call (.mk (.builtin Builtin.copy) #[Operand.tmp 80,Operand.tmp 81] #[ρ.t 39,ρ.t 39])) (ρ.t 3) "slices.go:186" #[Edge.mk 2 Ground.data,Edge.mk 3 Ground.data] none] false) (.seq (.region 17 #[Oper.mk (some 83) (.move (.tmp 0)) (ρ.t 39) "slices.go:193" #[] none,Oper.mk (some 6) (.assign (.tmp 83)) (ρ.t 39) "slices.go:193" #[Edge.mk 0 Ground.data,Edge.mk 0 Ground.phase] none] false) Code.ret))) Code.skip)) (.seq (.region 18 #[Oper.mk (some 84) (.move (.tmp 0)) (ρ.t 39) "slices.go:200" #[] none,Oper.mk (some 85) (.move (.tmp 8)) (ρ.t 3) "slices.go:200" #[] none,Oper.mk (some 86) (.slice (ρ.t 39) (.tmp 84) (some (.tmp 85)) none none) (ρ.t 39) "slices.go:200" #[Edge.mk 0 Ground.data,Edge.mk 1 Ground.data] none,Oper.mk (some 87) (.move (.tmp 2)) (ρ.t 39) "slices.go:200" #[] none,Oper.mk (some 88) (.call (.mk (.builtin Builtin.copy) #[Operand.tmp 86,Operand.tmp 87] #[ρ.t 39,ρ.t 39])) (ρ.t 3) "slices.go:200" #[Edge.mk 2 Ground.data,Edge.mk 3 Ground.data] none] false) (.seq (.region 19 #[Oper.mk (some 89) (.move (.tmp 0)) (ρ.t 39) "slices.go:207" #[] none,Oper.mk (some 90) (.move (.tmp 1)) (ρ.t 3) "slices.go:207" #[] none,Oper.mk (some 91) (.slice (ρ.t 39) (.tmp 89) (some (.tmp 90)) none none) (ρ.t 39) "slices.go:207" #[Edge.mk 0 Ground.data,Edge.mk 1 Ground.data] none,Oper.mk (some 92) (.move (.tmp 7)) (ρ.t 3) "slices.go:207" #[] none,Oper.mk (some 93) (.call (.mk (.value (.func (ρ.f 259))) #[Operand.tmp 91,Operand.tmp 92] #[ρ.t 39,ρ.t 3])) (ρ.t 0) "slices.go:207" #[Edge.mk 2 Ground.data,Edge.mk 3 Ground.data] none] false) (.seq (.region 20 #[Oper.mk (some 94) (.move (.tmp 0)) (ρ.t 39) "slices.go:214" #[] none,Oper.mk (some 6) (.assign (.tmp 94)) (ρ.t 39) "slices.go:214" #[Edge.mk 0 Ground.data,Edge.mk 0 Ground.phase] none] false) Code.ret))))))))))))) false false "slices/slices.go" 215 none [Departure.appendOfMake] (List.toArray (List.append ["s","i","v","s","i","v","","m","n","s2","","","","","","","","","","","","","","","","","","","","","","","","","","","","","","","","","","","","",""] ["","","","","","","","","","","","","","","","","","","","","","","","","","","","","","","","","","","","","","","","","","","","","","","",""]))
theorem insB_ntmps(ρ:Ren):(insB ρ).ntmps=95:=rfl
noncomputable def delB(ρ:Ren):Func:=Func.mk "slices.Delete[[]damson/api.Hold,damson/api.Hold]" "slices.Delete" #[ρ.t 62,ρ.t 160] #[ρ.t 62,ρ.t 3,ρ.t 3] #[ρ.t 62] 0 33 #[ResultVar.tmp 6] (some (.seq (.region 0 #[Oper.mk (some 6) (.assign (.const (.slice none 0 0))) (ρ.t 62) "slices.go:224" #[] none] false) (.seq (.region 1 #[Oper.mk (some 8) (.move (.tmp 0)) (ρ.t 62) "slices.go:225" #[] none,Oper.mk (some 9) (.move (.tmp 1)) (ρ.t 3) "slices.go:225" #[] none,Oper.mk (some 10) (.move (.tmp 2)) (ρ.t 3) "slices.go:225" #[] none,Oper.mk (some 11) (.move (.tmp 0)) (ρ.t 62) "slices.go:225" #[] none,Oper.mk (some 12) (.call (.mk (.builtin Builtin.len) #[Operand.tmp 11] #[ρ.t 62])) (ρ.t 3) "slices.go:225" #[Edge.mk 3 Ground.data] none,Oper.mk (some 13) (.slice (ρ.t 62) (.tmp 8) (some (.tmp 9)) (some (.tmp 10)) (some (.tmp 12))) (ρ.t 62) "slices.go:225" #[Edge.mk 0 Ground.data,Edge.mk 1 Ground.data,Edge.mk 2 Ground.data,Edge.mk 4 Ground.data] none] false) (.seq (.seq (.region 2 #[Oper.mk (some 14) (.move (.tmp 1)) (ρ.t 3) "slices.go:227" #[] none,Oper.mk (some 15) (.move (.tmp 2)) (ρ.t 3) "slices.go:227" #[] none,Oper.mk (some 16) (.binOp BinOp.eql (ρ.t 3) (.tmp 14) (.tmp 15) (ρ.t 3)) (ρ.t 4) "slices.go:227" #[Edge.mk 0 Ground.data,Edge.mk 1 Ground.data] none] false) (.cond (.tmp 16) (.seq (.region 3 #[Oper.mk (some 17) (.move (.tmp 0)) (ρ.t 62) "slices.go:228" #[] none,Oper.mk (some 6) (.assign (.tmp 17)) (ρ.t 62) "slices.go:228" #[Edge.mk 0 Ground.data,Edge.mk 0 Ground.phase] none] false) Code.ret) Code.skip)) (.seq (.region 4 #[Oper.mk (some 18) (.move (.tmp 0)) (ρ.t 62) "slices.go:231" #[] none,Oper.mk (some 19) (.call (.mk (.builtin Builtin.len) #[Operand.tmp 18] #[ρ.t 62])) (ρ.t 3) "slices.go:231" #[Edge.mk 0 Ground.data] none,Oper.mk (some 7) (.assign (.tmp 19)) (ρ.t 3) "slices.go:231" #[Edge.mk 1 Ground.data,Edge.mk 0 Ground.phase,Edge.mk 1 Ground.phase] none] false) (.seq (.region 5 #[Oper.mk (some 20) (.move (.tmp 0)) (ρ.t 62) "slices.go:232" #[] none,Oper.mk (some 21) (.move (.tmp 1)) (ρ.t 3) "slices.go:232" #[] none,Oper.mk (some 22) (.slice (ρ.t 62) (.tmp 20) none (some (.tmp 21)) none) (ρ.t 62) "slices.go:232" #[Edge.mk 0 Ground.data,Edge.mk 1 Ground.data] none,Oper.mk (some 23) (.move (.tmp 0)) (ρ.t 62) "slices.go:232" #[] none,Oper.mk (some 24) (.move (.tmp 2)) (ρ.t 3) "slices.go:232" #[] none,Oper.mk (some 25) (.slice (ρ.t 62) (.tmp 23) (some (.tmp 24)) none none) (ρ.t 62) "slices.go:232" #[Edge.mk 3 Ground.data,Edge.mk 4 Ground.data] none,Oper.mk (some 26) (.call (.mk (.builtin Builtin.append) #[Operand.tmp 22,Operand.tmp 25] #[ρ.t 62,ρ.t 62])) (ρ.t 62) "slices.go:232" #[Edge.mk 2 Ground.data,Edge.mk 5 Ground.data] none,Oper.mk (some 0) (.assign (.tmp 26)) (ρ.t 62) "slices.go:232" #[Edge.mk 6 Ground.data,Edge.mk 6 Ground.chain,Edge.mk 0 Ground.phase,Edge.mk 1 Ground.phase,Edge.mk 2 Ground.phase,Edge.mk 3 Ground.phase,Edge.mk 4 Ground.phase,Edge.mk 5 Ground.phase,Edge.mk 6 Ground.phase] none] true) (.seq (.region 6 #[Oper.mk (some 27) (.move (.tmp 0)) (ρ.t 62) "slices.go:233" #[] none,Oper.mk (some 28) (.move (.tmp 0)) (ρ.t 62) "slices.go:233" #[] none,Oper.mk (some 29) (.call (.mk (.builtin Builtin.len) #[Operand.tmp 28] #[ρ.t 62])) (ρ.t 3) "slices.go:233" #[Edge.mk 1 Ground.data] none,Oper.mk (some 30) (.move (.tmp 7)) (ρ.t 3) "slices.go:233" #[] none,Oper.mk (some 31) (.slice (ρ.t 62) (.tmp 27) (some (.tmp 29)) (some (.tmp 30)) none) (ρ.t 62) "slices.go:233" #[Edge.mk 0 Ground.data,Edge.mk 2 Ground.data,Edge.mk 3 Ground.data] none,Oper.mk none (.call (.mk (.builtin Builtin.clear) #[Operand.tmp 31] #[ρ.t 62])) (ρ.t 0) "slices.go:233" #[Edge.mk 4 Ground.data] none] false) (.seq (.region 7 #[Oper.mk (some 32) (.move (.tmp 0)) (ρ.t 62) "slices.go:234" #[] none,Oper.mk (some 6) (.assign (.tmp 32)) (ρ.t 62) "slices.go:234" #[Edge.mk 0 Ground.data,Edge.mk 0 Ground.phase] none] false) Code.ret)))))))) false false "slices/slices.go" 235 none [] #["s","i","j","s","i","j","","oldlen","","","","","","","","","","","","","","","","","","","","","","","","",""]
theorem delB_ntmps(ρ:Ren):(delB ρ).ntmps=33:=rfl
def gj (S E a b:Nat):Ren:=⟨λf=>if f=258 then a else if f=259 then b else f,λt=>if t=39 then S else if t=198 then E else t,λg=>g⟩
def Cw (S E:Nat):Ren:=⟨λf=>f,λt=>if t=62 then S else if t=160 then E else t,λg=>g⟩
theorem akW:Bears Tryz.prog 379 (insB (gj 62 160 388 389)):=⟨Tryz.f379.name,by kernel_rfl,by kernel_rfl⟩
theorem akY:Bears Tryz.prog 362 (insB (gj 29 323 377 378)):=⟨Tryz.f362.name,by kernel_rfl,by kernel_rfl⟩
theorem akZ:Bears Tryz.prog 361 (delB (Cw 29 323)):=⟨Tryz.f361.name,by kernel_rfl,by kernel_rfl⟩
theorem akX:Bears Tryz.prog 365 (insB (gj 28 345 380 381)):=⟨Tryz.f365.name,by kernel_rfl,by kernel_rfl⟩
theorem ak0:Bears Tryz.prog 352 (delB (Cw 62 160)):=⟨Tryz.f352.name,by kernel_rfl,by kernel_rfl⟩
theorem ak2:Bears Tryz.prog 305 (insB (gj 41 291 334 335)):=⟨Tryz.f305.name,by kernel_rfl,by kernel_rfl⟩
theorem ak1:Bears Tryz.prog 316 (insB (gj 40 169 349 350)):=⟨Tryz.f316.name,by kernel_rfl,by kernel_rfl⟩
theorem ak3:Bears Tryz.prog 281 (insB (gj 26 64 325 326)):=⟨Tryz.f281.name,by kernel_rfl,by kernel_rfl⟩
theorem ak4:Bears Tryz.prog 198 (insB (gj 39 198 258 259)):=⟨Tryz.f198.name,by kernel_rfl,by kernel_rfl⟩
end Go.Fw
