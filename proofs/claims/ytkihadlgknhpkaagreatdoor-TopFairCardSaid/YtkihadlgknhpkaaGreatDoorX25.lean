/- Part 25: lemmas that the last text needs. -/
import Derived.Test.YtkihadlgknhpkaaGreatDoorX24
import Derived.Test.YtkihadlgknhpkaaGreatDoorX18
import Derived.Test.YtkihadlgknhpkaaGreatDoorX14
set_option linter.all false
set_option autoImplicit true
set_option relaxedAutoImplicit true
namespace Go.Proofs
open Go.RowKit Go.Shelf Go.Fw
attribute [local go_sem] Oper.semAt_some
abbrev KD:Type:=Int×List Int×List Int×Int
abbrev KT:Ty:= .pair (.int .u64) (.pair (.slice 5 (.int .u8)) (.pair (.slice 5 (.int .u8)) (.int .u64)))
def By (B:Nat) (W:World) (b):=B<=b/\∃cs,W.heap[b]?=some (.cells cs 5 (0,0))
theorem By.lt (h:By B W b):b<W.heap.size:=by obtain ⟨_,cs,h⟩:=h;exact (gM.1 h).1
structure Calm (B:Nat) (W W':World):Prop where
 bytes:∀b cs,B<=b->W.heap[b]?=some (.cells cs 5 (0,0))->W'.heap[b]?=W.heap[b]?
theorem Calm.by (h:Calm B W j) (d:By B W b):By B j b:=by
 obtain ⟨a,cs,c⟩:=d;exact ⟨a,cs,(h.bytes b cs a c).trans c⟩
theorem Calm.dat (h:Calm B W j) (hd:aT W (By B W) t l cs):aT j (By B j) t l cs:=
 aT.move (λb a=>by obtain ⟨c,cs,d⟩:=a;exact h.bytes b cs c d) (λb a=>h.by a) hd
theorem Calm.trans (h:Calm B X Y) (k:Calm B Y Z):Calm B X Z:=⟨λb cs a c=>(k.bytes b cs a ((h.bytes b cs a c).trans c)).trans (h.bytes b cs a c)⟩
theorem Calm.ait (h:Below W.heap.size W j):Calm B W j:=⟨λb cs _ a=>h.block b (gM.1 a).1⟩
theorem Calm.ais (h:W.grownBy C j) (c:∀g cs,j=some g->W.heap[g]?≠some (.cells cs 5 (0,0))):Calm B W C:=
 ⟨λb cs _ a=>h.block b (gM.1 a).1 (λe=>c b cs e.symm a)⟩
theorem Calm.same (h:Same B W j):Calm (B+2) W j:=⟨λb cs c a=>h.block b (gM.1 a).1 (by omega) (by omega)⟩
theorem Calm.alloc (W) (o):Calm B W (W.alloc o):=⟨λb cs _ a=>Below.heap_alloc W o b (gM.1 a).1⟩
theorem ahP (f) (F) (n) (m:F.fn 368) (b:F.round=none) (o:1<=n) (l c a n₀) (d) (tick) (zs:List α) (hlen:zs.length<=1000) (W)
 (e:W.cell? ⟨c,0,none⟩=some d) (g:W.cell? ⟨a,0,none⟩=some (.int .u64 tick)) (h:a<W.heap.size) (i:n₀<=W.heap.size) (p:na f n₀ W d zs):
 Hu F n Tryz.prog 368 l #[.pointer (some ⟨c,0,none⟩),.pointer (some ⟨a,0,none⟩)] (λx=> #[.agg (bM (f x))]) (KB n₀ a) (λys=>ys=gF f tick zs) (λj=>j<+:gF f tick zs) zs.length W:=
 λJ q r k s=>ahR f F n m b o l c a n₀ d tick zs hlen J q r k W e g h i p s
end Go.Proofs
namespace Go.Proofs
open Go.RowKit Go.Shelf Go.Fw
attribute [local go_sem] Oper.semAt_some
def oD {α:Type} (c:α->KD) (B:Nat) (b:Nat) (a:List α) (W):=
 ∃v cs,Boxed W b 40 v/\W.ownsRow (B+2) 169 4 v a.length cs/\aT W (By (B+2) W) KT (a.map c) cs
theorem Ho (h:W.ownsRow b 169 4 v k cs) (d:Below W.heap.size W j):j.ownsRow b 169 4 v k cs:=by
 refine ⟨h.1,?_⟩;rcases h.2 with f| ⟨g,cap,a,rfl,e,c,rest⟩
 ·grind
 ·exact .inr ⟨g,cap,a,rfl,e,(d.block g (gM.1 c).1).trans c,rest⟩
theorem ahK {W:World} (a:W.ownsRow b 169 4 v k cs) (d:h<b):some h≠v.ownBlock:=by
 rcases a.2 with ⟨rfl,_⟩| ⟨g,cap,c,rfl,e,_⟩
 all_goals grind[Value.ownBlock]
theorem ahL (a:W.ownsRow B 169 4 v k cs) (b:W.grownBy j v.ownBlock):Calm B W j:=
 Calm.ais b λg c e h=>by
  rcases a.2 with ⟨rfl,_⟩| ⟨i,cap,d,rfl,_,f,_⟩
  all_goals grind[Value.ownBlock]
theorem ahN (w:World) (z):∀j u,(bM z).toList[j]?=some u->(w.alloc (.cells (bM z) 169)).cell? ((⟨w.heap.size,0,none⟩:Addr).add j)=some u:=by
 grind[World.alloc_heap_new,Addr.add,World.cell?]
theorem ahM (z):∀u ∈ (bM z).toList,u.oneCell'=true:=by
 intro u a;simp only [bM,a8,eu,ep] at a;rcases a with rfl|rfl|rfl|rfl <;>rfl
set_option maxRecDepth 100000 in
theorem ah1 (w1:World) (z:KV) (base:Nat) (v:Value) (k:Nat) (xs:List Value) (b:w1.ownsRow base 169 4 v k xs) (b1:k<=1000) (n:base<=w1.heap.size):
 ∃j w',(Builtin.append_ #[40,40] 40 #[v,.slice (some ⟨w1.heap.size,0,none⟩) 1 1]).run Tryz.prog (w1.alloc (.cells (bM z) 169))= .ok j w'/\w'.ownsRow base 169 4 j (k+1) (xs++ (bM z).toList)/\(w1.alloc (.cells (bM z) 169)).grownBy w' v.ownBlock/\w1.drawn<=w'.drawn:=by
 have d:Tryz.prog.underlying 40=some (.slice 169):=by kernel_rfl
 have c:(Tryz.prog.info? 169).map (λi=>(i.zero,i.size,i.bytes))=some (some (.agg #[.int .u64 0,.slice none 0 0,.slice none 0 0,.int .u64 0]),4,64):=by kernel_rfl
 obtain ⟨i,e,f,g,h⟩:=info_parts c;obtain ⟨j,w',a,l,m,o⟩:=run_append_own (P:=Tryz.prog) (w:=w1.alloc (.cells (bM z) 169)) base 40 40 169 i _ 4 64 d e f g h rfl (by decide) v k xs (b.alloc _) ⟨w1.heap.size,0,none⟩ 1 1 (bM z).toList rfl (ahN w1 z) (ahM z) (by grind[maxLen]) (by omega) (by simp;omega);exact ⟨j,w',a,l,m,by have t:=ahI _ _ a;exact t⟩
theorem ahJ (h:W.ownsRow (B+2) 169 4 v k cs) (c:Same B W j):j.ownsRow (B+2) 169 4 v k cs:=by
 refine ⟨h.1,?_⟩;rcases h.2 with e| ⟨g,cap,a,rfl,d,b,rest⟩
 ·grind
 ·exact .inr ⟨g,cap,a,rfl,d,(c.block g (gM.1 b).1 (by omega) (by omega)).trans b,rest⟩
theorem oD.same (h:oD C B b j W) (a:Same B W I) (c:b<B):oD C B b j I:=by
 obtain ⟨v,cs,d,e,f⟩:=h;exact ⟨v,cs,Cd d a c,ahJ e a,(Calm.same a).dat f⟩
theorem oD.alloc (h:oD C B b j W) (o):oD C B b j (W.alloc o):=by
 obtain ⟨v,cs,a,c,d⟩:=h;exact ⟨v,cs,a.alloc o,c.alloc o,(Calm.alloc W o).dat d⟩
attribute [-go_sem] Builtin.append_
set_option maxRecDepth 100000 in
set_option maxHeartbeats 4000000 in
theorem ahG {α:Type} (f:α->KV) (dt:α->KD) (n:Nat) (hn:3<=n) (tick:Int) (A:Option Addr) (cap:Nat) (zs:List α) (hlen:zs.length<=1000) (w W0:World) (Bl:Nat) (hBl:w.heap.size<Bl) (hsz:W0.heap.size=Bl+2)
 (bO:Boxed W0 w.heap.size 40 (.slice none 0 0)) (bL:Boxed W0 Bl 40 (.slice A zs.length cap)) (bT:Boxed W0 (Bl+1) 30 (.int .u64 tick)) (hB0:ff w W0) (hI:na f w.heap.size W0 (.slice A zs.length cap) zs)
 (h317:∀ (m:Nat) (W:World) (x:α),Below w.heap.size w W->CallsIn Fence.wide m Tryz.prog 317 #[.agg (bM (f x))] W λe W'=>∃z:KV,e= .returned (.agg #[.int .u64 z.1,.slice z.2.1.1 z.2.1.2.1 z.2.1.2.2,.slice z.2.2.1.1 z.2.2.1.2.1 z.2.2.1.2.2,.int .u64 z.2.2.2])/\ff W W'/\aT W' (By W.heap.size W') KT [dt x] (bM z).toList)
 (u5 u6 u8 u9 u10 u11 u12 u13 u14:Value) (Q:Exit->Act->World->Prop)
 (hd:∀ (W:World),oD dt W0.heap.size w.heap.size (gF f tick zs) W->ff w W->W.heap[W0.heap.size]?=some (.deferred (some []))->Q .normal {tmps:= #[.slice A zs.length cap,.int .u64 tick,undef,undef,.pointer (some ⟨w.heap.size,0,none⟩),u5,u6,undef,u8,u9,u10,u11,u12,u13,u14,.func (.func 368) #[] #[.pointer (some ⟨Bl,0,none⟩),.pointer (some ⟨Bl+1,0,none⟩)],undef,undef,undef,undef,undef,undef,undef],defers:= [{target:= .collected W0.heap.size,args:= #[]}]} W):
 Code.wpIn Fence.wide n Tryz.prog (Go.Code.rangeFunc (Go.Operand.tmp 15) #[16] (Go.Code.region 5 #[{dst:=some 7,op:=Go.Op.alloc 169,type:=0,pos:= "idem.go:62",after:= #[],guard:=none},{dst:=none,op:=Go.Op.store 169 (Go.Operand.tmp 7) (Go.Operand.tmp 16),type:=0,pos:= "idem.go:62",after:= #[{on:=0,ground:=Go.Ground.data},{on:=0,ground:=Go.Ground.phase}],guard:=none}] false) (Go.Code.block 1 (Go.Code.region 6 #[{dst:=some 17,op:=Go.Op.load 40 (Go.Operand.tmp 4),type:=40,pos:= "idem.go:63",after:= #[],guard:=none},{dst:=some 18,op:=Go.Op.load 169 (Go.Operand.tmp 7),type:=169,pos:= "idem.go:63",after:= #[],guard:=none},{dst:=some 19,op:=Go.Op.call {callee:=Go.Callee.value (Go.Operand.func 317),args:= #[Go.Operand.tmp 18],argTypes:= #[169]},type:=169,pos:= "idem.go:63",after:= #[{on:=1,ground:=Go.Ground.data}],guard:=none},{dst:=some 20,op:=Go.Op.buildSlice 40 1 #[(0,Go.Operand.tmp 19)],type:=40,pos:= "idem.go:63",after:= #[{on:=2,ground:=Go.Ground.data}],guard:=none},{dst:=some 21,op:=Go.Op.call {callee:=Go.Callee.builtin Go.Builtin.append,args:= #[Go.Operand.tmp 17,Go.Operand.tmp 20],argTypes:= #[40,40]},type:=40,pos:= "idem.go:63",after:= #[{on:=0,ground:=Go.Ground.data},{on:=3,ground:=Go.Ground.data},{on:=2,ground:=Go.Ground.chain}],guard:=none},{dst:=none,op:=Go.Op.store 40 (Go.Operand.tmp 4) (Go.Operand.tmp 21),type:=0,pos:= "idem.go:63",after:= #[{on:=4,ground:=Go.Ground.data},{on:=4,ground:=Go.Ground.chain},{on:=0,ground:=Go.Ground.phase},{on:=1,ground:=Go.Ground.phase},{on:=2,ground:=Go.Ground.phase},{on:=3,ground:=Go.Ground.phase},{on:=4,ground:=Go.Ground.phase}],guard:=none}] true))) Q {tmps:= #[.slice A zs.length cap,.int .u64 tick,undef,undef,.pointer (some ⟨w.heap.size,0,none⟩),u5,u6,undef,u8,u9,u10,u11,u12,u13,u14,.func (.func 368) #[] #[.pointer (some ⟨Bl,0,none⟩),.pointer (some ⟨Bl+1,0,none⟩)],undef,undef,undef,undef,undef,undef,undef],defers:= []} W0:=by
 have hmx:Tryz.prog.follows .mixedOrders=true:=by kernel_rfl
 refine TT rfl (by omega) (gf:=368) (lb:= #[.pointer (some ⟨Bl,0,none⟩),.pointer (some ⟨Bl+1,0,none⟩)]) rfl aO (enters_of Tryz.func368 (by kernel_rfl) rfl)
  (encs:=λx:α=> #[.agg (bM (f x))]) (λ_=>rfl)
  (λW1 hW1=>ahP f Fence.wide (n - 1) aO rfl (by omega) _ Bl (Bl+1) w.heap.size _ tick zs hlen W1 ((hW1.cell (by omega) (by omega) 0).trans bL.cell) ((hW1.cell (by omega) (by omega) 0).trans bT.cell) (by have:=hW1.size;omega) (by have:=hW1.size;omega) (na.below f (hW1.below (by omega) (by omega)) hI))
  KB.trans (λ{A B} h0 h=>KB.same h (by omega) (by omega) (by omega) (by omega))
  (λpre W=>oD dt W0.heap.size w.heap.size pre W/\ff w W) (λ_ _=>False)
  (λx a' W=>∃Bx,W0.heap.size+2<=Bx/\W.heap[Bx]?=some (.cells (bM (f x)) 169 (0,0))/\a'= {tmps:= #[.slice A zs.length cap,.int .u64 tick,undef,undef,.pointer (some ⟨w.heap.size,0,none⟩),u5,u6,.pointer (some ⟨Bx,0,none⟩),u8,u9,u10,u11,u12,u13,u14,.func (.func 368) #[] #[.pointer (some ⟨Bl,0,none⟩),.pointer (some ⟨Bl+1,0,none⟩)],.agg (bM (f x)),undef,undef,undef,undef,undef,undef],defers:= []})
  (λhs h=>⟨h.1.same hs (by omega),h.2.same hs (by omega)⟩) (λ_ h=>h)
  (λo h=>⟨h.1.alloc o,h.2.1.alloc h.2.1.size o,h.2.2⟩)
  (λhs h=>by
   obtain ⟨Bx,h1,h2,h3⟩:=h
   exact ⟨Bx,h1,(hs.block Bx (gM.1 h2).1 (by omega) (by omega)).trans h2,h3⟩)
  ⟨⟨_,[],bO,World.ownsRow_nil _ _ _ _,rfl⟩,hB0⟩
  ?assign ?body ?done ?stop
 case assign=>
  rintro pre x W K ⟨hR,hB1⟩ hz1 hK;simp only [bM] at hK ⊢
  gi_wp2
  exact hK _ _ ((KeepsOthers.alloc _ _).from _) (KB.alloc (by omega) (by omega) _) ⟨hR.alloc _,hB1.1.alloc hB1.1.size _,hB1.2⟩ ⟨W.heap.size,by omega,World.alloc_heap_new W _,rfl⟩
 case body=>
  rintro pre x a' W ⟨⟨v,cs,bV,hrow,hdat⟩,hB1⟩ hz1 ⟨Bx,hBx,bX,rfl⟩ hlt;have hBlt:Bx<W.heap.size:=(gM.1 bX).1;have cX0:W.cell? ⟨Bx,0,none⟩=some (.int .u64 (f x).1):=by grind[World.cell?,bM]
  have cX1:W.cell? ⟨Bx,1,none⟩=some (.slice (f x).2.1.1 (f x).2.1.2.1 (f x).2.1.2.2):=by grind[World.cell?,bM]
  have cX2:W.cell? ⟨Bx,2,none⟩=some (.slice (f x).2.2.1.1 (f x).2.2.1.2.1 (f x).2.2.1.2.2):=by grind[World.cell?,bM]
  have cX3:W.cell? ⟨Bx,3,none⟩=some (.int .u64 (f x).2.2.2):=by grind[World.cell?,bM]
  have cO:=bV.cell;have fO:=bV.frozen;have h1':1<=n - 1 - 1:=by omega
  have hown0:W.ownsRow (Bl+2+2) 169 4 v pre.length cs:=by grind
  have hB2:Below w.heap.size w W.drew:=⟨hB1.1.os,hB1.1.tape,hB1.1.output,hB1.1.size,hB1.1.block⟩
  have hrowc:∀ (X:World),Below W.heap.size W X->∀ (j:Nat) (o:Obj),v.ownBlock=some j->X.heap[j]?=some o->o.isCells=true/\Bl+2+2<=j:=λX hX j o e ho=>by
   rcases (Ho hown0 hX).2 with ⟨rfl,_⟩| ⟨g,cp,cur,rfl,hg1,hg2,_⟩
   ·grind[Value.ownBlock]
   ·simp only [Value.ownBlock,aB] at e;subst e;rw [hg2] at ho;cases ho;exact ⟨rfl,hg1⟩
  have hrowb:∀j,v.ownBlock=some j->Bl+2+2<=j:=λj e=>by
   rcases hown0.2 with ⟨rfl,_⟩| ⟨g,cp,cur,rfl,hg1,hg2,_⟩
   all_goals grind[Value.ownBlock]
  have fin:∀ (w1 w2:World) (z:KV) (g' cap':Nat),ff W.drew w1->aT w1 (By W.drew.heap.size w1) KT [dt x] (bM z).toList->(w1.alloc (.cells (bM z) 169)).grownBy w2 v.ownBlock->w1.drawn<=w2.drawn->
   w2.ownsRow (Bl+2+2) 169 4 (.slice (some ⟨g',0,none⟩) (pre.length+1) cap') (pre.length+1) (cs++ (bM z).toList)->Boxed w2 w.heap.size 40 v->
   KeepsFrom W0.heap.size W (w2.setCell ⟨w.heap.size,0,none⟩ (.slice (some ⟨g',0,none⟩) (pre.length+1) cap'))/\KB w.heap.size (Bl+1) W (w2.setCell ⟨w.heap.size,0,none⟩ (.slice (some ⟨g',0,none⟩) (pre.length+1) cap'))/\
    (oD dt W0.heap.size w.heap.size (pre++ [x]) (w2.setCell ⟨w.heap.size,0,none⟩ (.slice (some ⟨g',0,none⟩) (pre.length+1) cap'))/\ff w (w2.setCell ⟨w.heap.size,0,none⟩ (.slice (some ⟨g',0,none⟩) (pre.length+1) cap'))):=by
   intro w1 w2 z g' cap' hbz hdz hgrow hdr hown' bV2;have hb1:Below W.heap.size W w1:=⟨hbz.1.os,hbz.1.tape,hbz.1.output,hbz.1.size,hbz.1.block⟩;have hd1:W.drawn<=w1.drawn:=b9 (dI _) hbz.2;have hs1:W.heap.size<=w1.heap.size:=hb1.size;have hba:Below W.heap.size W (w1.alloc (.cells (bM z) 169)):=hb1.alloc hs1 _;have hsa:(w1.alloc (.cells (bM z) 169)).heap.size=w1.heap.size+1:=by simp
   have k3:KeepsOthers (w1.alloc (.cells (bM z) 169)) w2:=KeepsOthers.of_grownBy hgrow (λj o e ho=>(hrowc _ hba j o e ho).1);have hbl:Below w.heap.size W w2:=(hba.mono (by omega)).trans ((Below.refl w.heap.size _).grown hgrow (by omega) (λk e=>by grind));have hblk:∀k,k<Bl+2->k<W.heap.size->w2.heap[k]?=W.heap[k]?:=λk hk hk'=>(hgrow.block k (by omega) (λe=>by grind)).trans (hba.block k hk')
   have hset:∀k,k≠w.heap.size->(w2.setCell ⟨w.heap.size,0,none⟩ (.slice (some ⟨g',0,none⟩) (pre.length+1) cap')).heap[k]?=w2.heap[k]?:=λk hk=>by
    show (w2.heap.modify w.heap.size _)[k]?=_
    grind
   have hdrw:w2.drawn<= (w2.setCell ⟨w.heap.size,0,none⟩ (.slice (some ⟨g',0,none⟩) (pre.length+1) cap')).drawn:=aR _;have hbl2:Below w.heap.size W (w2.setCell ⟨w.heap.size,0,none⟩ (.slice (some ⟨g',0,none⟩) (pre.length+1) cap')):=hbl.setCell (p:=⟨w.heap.size,0,none⟩) (aR _) _;refine ⟨?_,⟨hbl2,?_,by omega⟩,?_,hB1.1.trans hbl2,by have:=hB1.2;omega⟩
   ·refine KeepsFrom.trans (Y:=w1) ⟨hs1,λk o _ hk _=>(hb1.block k (gM.1 hk).1).trans hk⟩ ?_;exact (((KeepsOthers.alloc w1 _).trans k3).trans (KeepsOthers.setCell _ _ _)).from _
   ·have:(w2.setCell ⟨w.heap.size,0,none⟩ (.slice (some ⟨g',0,none⟩) (pre.length+1) cap')).heap[Bl+1]?=W.heap[Bl+1]?:=(hset _ (by omega)).trans (hblk _ (by omega) (by omega))
    grind[World.cell?]
   ·have c1:Calm (W0.heap.size+2) W w1:=Calm.ait hb1;have c2:Calm (W0.heap.size+2) w1 (w1.alloc (.cells (bM z) 169)):=Calm.alloc _ _
    have c3:Calm (W0.heap.size+2) (w1.alloc (.cells (bM z) 169)) w2:=by
     have:=ahL (Ho hown0 hba) hgrow
     grind
    have c4:Calm (W0.heap.size+2) w2 (w2.setCell ⟨w.heap.size,0,none⟩ (.slice (some ⟨g',0,none⟩) (pre.length+1) cap')):=⟨λb cs hb _=>hset b (by omega)⟩;have hdz':aT w1 (By (W0.heap.size+2) w1) KT [dt x] (bM z).toList:=aT.move (λ_ _=>rfl) (λb hb=>⟨b9 hz1 hb.1,hb.2⟩) hdz;refine ⟨_,cs++ (bM z).toList,bV2.set _,?_,?_⟩
    ·rw [cq]
     have hg:(w2.setCell ⟨w.heap.size,0,none⟩ (.slice (some ⟨g',0,none⟩) (pre.length+1) cap')).ownsRow (Bl+2+2) 169 4 (.slice (some ⟨g',0,none⟩) (pre.length+1) cap') (pre.length+1) (cs++ (bM z).toList):=by
      refine ⟨hown'.1,?_⟩;rcases hown'.2 with hn| ⟨g,cp,cur,e,hb,hg,rest⟩
      ·omega
      ·exact .inr ⟨g,cp,cur,e,hb,(hset g (by omega)).trans hg,rest⟩
     rw [hsz];exact hg
    ·rw [lM];exact (c4.dat (c3.dat (c2.dat (c1.dat hdat)))).append (c4.dat (c3.dat (c2.dat hdz')))
  gi_wp2
  gi_region_with_o (refine ⟨aO,?_⟩;gi_at_call 317;refine (CallsIn.inRound _ (h317 _ _ x hB2)).mono ?_;rintro e w1 ⟨z,rfl,hbz,hdz⟩;have cO1:w1.cell? ⟨w.heap.size,0,none⟩=some v:=(hbz.1.cell (p:=⟨w.heap.size,0,none⟩) (by show w.heap.size<W.heap.size;omega)).trans cO;have bV1:Boxed w1 w.heap.size 40 v:=(hbz.1.block w.heap.size (by show w.heap.size<W.heap.size;omega)).trans bV;obtain ⟨v',w2,hrun,hown',hgrow,hdr⟩:=ah1 w1 z (Bl+2+2) v pre.length cs (Ho (by rw [<-hsz];exact hrow) hbz.1) (by omega) (by have:=hbz.1.size;have e:W.drew.heap.size=W.heap.size:=rfl;omega);obtain ⟨g',cap',rfl⟩:=ownsRow_succ hown';have bV2:=(bV1.alloc (.cells (bM z) 169)).kept hgrow (ahK hown0 (by omega));have cO2:=bV2.cell;have cO1a:=(bV1.alloc (.cells (bM z) 169)).cell;simp only [bM] at cO1a;have fO2:=bV2.frozen;simp only [bM] at hrun)
  all_goals exact fin w1 w2 z g' cap' hbz hdz hgrow hdr hown' bV2
 all_goals grind
end Go.Proofs
namespace Go.Proofs
open Go.RowKit Go.Shelf Go.Fw
attribute [local go_sem] Oper.semAt_some
theorem TR (h:T.getD 4 undef= .pointer (some ⟨b,0,none⟩)) (h5:T.getD 5 undef=u) (hc:W.cell? ⟨b,0,none⟩=some v):(results Tryz.f332 T).run Tryz.prog W= .ok (.tuple #[v,u]) W:=by
 have e:Tryz.f332.results= #[ResultVar.cell 4 40,ResultVar.tmp 5]:=rfl;unfold results;rw [e];have h':=by simpa using h
 have h5':=by simpa using h5
 simp [go_sem,h',h5',hc]
def air (f:α->KV) (a:α->KD) (tick:Int) (zs:List α) (e0:Int) (w:World) (e:Ending) (j):=
 (ff w j/\(Lit.int .i64 e0).wf=true)/\((e0≠0/\e= .returned (.tuple #[.slice none 0 0,.int .i64 e0]))\/(e0=0/\∃v cs B,w.heap.size<=B/\e= .returned (.tuple #[v,.int .i64 0])/\j.ownsRow (B+2) 169 4 v (gF f tick zs).length cs/\aT j (By (B+2) j) KT ((gF f tick zs).map a) cs))
set_option maxRecDepth 100000 in
set_option maxHeartbeats 4000000 in
theorem ahH {α:Type} (f:α->KV) (dt:α->KD) (n:Nat) (hn:3<=n) (tick:Int) (A:Option Addr) (cap:Nat) (zs:List α) (w:World) (e0:Int) (hlen:e0=0->zs.length<=1000) (hI:na f w.heap.size w (.slice A zs.length cap) zs)
 (h112:∀ (m:Nat) (W:World),Below w.heap.size w W->CallsIn Fence.wide m Tryz.prog 112 #[.slice A zs.length cap] W λe W'=>e= .returned (.int .i64 e0)/\ff W W'/\(Lit.int .i64 e0).wf=true)
 (h317:e0=0->∀ (m:Nat) (W:World) (x:α),Below w.heap.size w W->CallsIn Fence.wide m Tryz.prog 317 #[.agg (bM (f x))] W λe W'=>∃z:KV,e= .returned (.agg #[.int .u64 z.1,.slice z.2.1.1 z.2.1.2.1 z.2.1.2.2,.slice z.2.2.1.1 z.2.2.1.2.1 z.2.2.1.2.2,.int .u64 z.2.2.2])/\ff W W'/\aT W' (By W.heap.size W') KT [dt x] (bM z).toList):
 CallsIn Fence.wide n Tryz.prog 332 #[.slice A zs.length cap,.int .u64 tick] w (air f dt tick zs e0 w):=by
 have h1:1<=n:=by omega
 refine callsIn_of_wp_marks Tryz.func332 rfl aO ?_ rfl;have hnt:Tryz.f332.ntmps=23:=rfl;simp only [hnt,nF,aW,dy,Nat.reduceAdd,Nat.reduceSub,qE,qD,qx,qA,fJ,dP];have hba:Below w.heap.size w (w.alloc (.cells #[.slice none 0 0] 40)):=(Below.refl _ w).alloc (aR _) _
 gi_wp2_with (first| (refine ⟨aO,?_⟩;gi_at_call 112;refine (h112 _ _ hba).mono ?_;rintro e w1 ⟨rfl,hw1,hwf⟩;have bO1:Boxed w1 w.heap.size 40 (.slice none 0 0):=(hw1.1.block w.heap.size (by simp)).trans (Boxed.new w 40 (.slice none 0 0));have cO1:=bO1.cell;have fO1:=bO1.frozen)| (refine ⟨aO,?_⟩;gi_at_call 356;refine (ahQ Fence.wide _ aO rfl A zs.length cap tick _).mono ?_;rintro e w' ⟨rfl,rfl⟩))
 ·rename_i hne;have hb:ff w (w1.setCell ⟨w.heap.size,0,none⟩ (.slice none 0 0)):=⟨(hba.trans (hw1.1.mono (by simp))).setCell (p:=⟨w.heap.size,0,none⟩) (aR _) _,hw1.2⟩;exact ⟨_,TR rfl rfl (bO1.set _).cell,⟨hb,hwf⟩,.inl ⟨by simpa using hne,rfl⟩⟩
 ·rename_i he0 K hKK;have he:e0=0:=by simpa using he0
  have hs1:w.heap.size+1<=w1.heap.size:=by have:=hw1.1.size;simpa using this
  have hbw:Below w.heap.size w w1:=hba.trans (hw1.1.mono (by simp));have hB0:Below w.heap.size w ((w1.alloc (.cells #[.slice A zs.length cap] 40)).alloc (.cells #[.int .u64 tick] 30)):=(hbw.alloc hbw.size _).alloc (by simp;omega) _;refine ahG f dt n hn tick A cap zs (hlen he) w _ w1.heap.size (by omega) (by simp) ((bO1.alloc _).alloc _) ((Boxed.new w1 40 (.slice A zs.length cap)).alloc _) ?_ ⟨hB0,hw1.2⟩ (na.below f hB0 hI) (h317 he) _ _ _ _ _ _ _ _ _ _ ?_
  ·have:=Boxed.new (w1.alloc (.cells #[.slice A zs.length cap] 40)) 30 (.int .u64 tick);simpa using this
  ·intro W hR hB hK;obtain ⟨v,cs,bV,hown,hdat⟩:=hR
   obtain ⟨a0,n0,c0,rfl⟩:∃a n c,v= .slice a n c:=by
    rcases hown.2 with ⟨e,_⟩| ⟨g,cp,cur,e,_⟩
    ·exact ⟨_,_,_,e⟩
    ·exact ⟨_,_,_,e⟩
   have cV:=bV.cell;have fV:=bV.frozen
   gi_wp2
   generalize hBB:((w1.alloc (.cells #[.slice A zs.length cap] 40)).alloc (.cells #[.int .u64 tick] 30)).heap.size=B at hK hown hdat;have hBn:w1.heap.size+2=B:=by rw [<-hBB];simp
   have hset:∀k,k≠w.heap.size->(W.setCell ⟨w.heap.size,0,none⟩ (.slice a0 n0 c0)).heap[k]?=W.heap[k]?:=λk hk=>by
    show (W.heap.modify w.heap.size _)[k]?=_;rw [Array.getElem?_modify,ak (Ne.symm hk)]
   have hK':(W.setCell ⟨w.heap.size,0,none⟩ (.slice a0 n0 c0)).heap[B]?=some (.deferred (some [])):=(hset B (by omega)).trans hK;have hput:∀k,k≠B->((W.setCell ⟨w.heap.size,0,none⟩ (.slice a0 n0 c0)).putObj B (.deferred none)).heap[k]?=(W.setCell ⟨w.heap.size,0,none⟩ (.slice a0 n0 c0)).heap[k]?:=λk hk=>World.putObj_heap_other hk
   have hc5:=cell_kept (bV.set (.slice a0 n0 c0)).cell (grownBy_putObj' (W.setCell ⟨w.heap.size,0,none⟩ (.slice a0 n0 c0)) B (.deferred none)) (λr e=>by cases e;exact ⟨_,hK',rfl⟩)
   have hbf:Below w.heap.size w ((W.setCell ⟨w.heap.size,0,none⟩ (.slice a0 n0 c0)).putObj B (.deferred none)):=
    (hB.1.setCell (p:=⟨w.heap.size,0,none⟩) (aR _) _).trans (belowK_b (w:=w) (aR _) _ B _ _ (by omega) hK' rfl rfl)
   refine ⟨by simp,.inl ⟨_,_,rfl,run_takeDeferred hK',?_⟩⟩;refine ⟨_,TR rfl rfl hc5,⟨⟨hbf,hB.2⟩,hwf⟩,.inr ⟨he,_,cs,B,by omega,rfl,?_,?_⟩⟩
   ·refine ⟨hown.1,?_⟩;rcases hown.2 with hn| ⟨g,cp,cur,e,hb,hg,rest⟩
    ·exact .inl hn
    ·exact .inr ⟨g,cp,cur,e,hb,((hput g (by omega)).trans (hset g (by omega))).trans hg,rest⟩
   ·have c1:Calm (B+2) W ((W.setCell ⟨w.heap.size,0,none⟩ (.slice a0 n0 c0)).putObj B (.deferred none)):=⟨λb cs hb _=>(hput b (by omega)).trans (hset b (by omega))⟩;exact c1.dat hdat
end Go.Proofs
