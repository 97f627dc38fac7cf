/- Part 21: lemmas that the last text needs. -/
import Derived.Test.YtkihadlgknhpkaaGreatDoorX18
import Derived.Test.YtkihadlgknhpkaaGreatDoorX51
set_option linter.all false
set_option autoImplicit true
set_option relaxedAutoImplicit true
namespace Go.Proofs
open Go.RowKit Go.Shelf Go.Fw
attribute [local go_sem] Oper.semAt_some
set_option maxRecDepth 100000 in
set_option maxHeartbeats 1000000 in
theorem ahO (F:Fence) (n:Nat) (h5:F.fn 239) (hro:F.round=none) (k:Int) (w:World):
 CallsIn F n Tryz.prog 239 #[.int .i64 k] w λe w'=>e= .returned (.bool (decide (0<=k) && decide (k<16)))/\w'=w:=by
 refine callsIn_of_wp Tryz.func239 rfl h5 ?_ hro;have hnt:Tryz.f239.ntmps=9:=rfl;simp only [hnt,nF,aW,dy,Nat.reduceAdd,Nat.reduceSub,qE,qD,qx,qA,fJ,dP]
 gi_wp2
 ·go_ret
  rename_i h;exact ⟨by rw [aF h,Bool.true_and];rfl,rfl⟩
 ·go_ret
  rename_i h;exact ⟨by rw [aq (by omega)];rfl,rfl⟩
def jv (s:Int) (i:Nat) (x:Int×Int×Int×Int):Bool:=decide (x.1=s - 1 - i) && (decide (0<=x.2.1) && decide (x.2.1<16))
theorem Hp:∀ (l:List (Int×Int×Int×Int)) (s:Int),mu s l=true↔∀i x,l[i]?=some x->jv s i x=true
 | [],s=>by simp [mu]
 |e::r,s=>by
  rw [mu,bb,Hp r (s - 1)];constructor
  ·rintro ⟨C,I⟩ i x j
   cases i with
   |zero=>
    simp only [sJ,aB] at j;subst j;unfold jv;simpa using C
   |succ i=>
    rw [nJ] at j;have:=I i x j;unfold jv at this ⊢;rw [show s - 1 -((i+1:Nat):Int)=s - 1 - 1 -(i:Int) by omega];exact this
  ·intro h;refine ⟨?_,λi x j=> ?_⟩
   ·have:=h 0 e rfl;unfold jv at this;simpa using this
   ·have:=h (i+1) x (by rw [nJ];exact j);unfold jv at this ⊢;rw [show s - 1 -((i+1:Nat):Int)=s - 1 - 1 -(i:Int) by omega] at this;exact this
theorem TQ (zs:List (Int×Int×Int×Int)) {i:Nat} (h:i<zs.length):zs.reverse[i]?=some (bk zs i).2:=by
 rw [List.getElem?_reverse h];unfold bk;rw [cK (by omega)];rfl
def uF (s:Int) (a:List (Nat× (Int×Int×Int×Int))):Prop:=∀i x,a[i]?=some x->jv s i x.2=true
def rM (s:Int) (a:List (Nat× (Int×Int×Int×Int))):Prop:=∃i x,a[i]?=some x/\jv s i x.2=false
theorem uF.snoc {s:Int} {a:List (Nat× (Int×Int×Int×Int))} {x:Nat× (Int×Int×Int×Int)} (h:uF s a) (e:jv s a.length x.2=true):uF s (a++ [x]):=λi y b=>by
 rcases jh i a.length with d|d
 ·rw [DI d] at b;exact h i y b
 ·have c:i<(a++ [x]).length:=(oS.1 b).1;simp only [cq,aW,dy] at c;have:i=a.length:=by omega
  subst this;rw [JO (aR _),Nat.sub_self] at b;simp only [sJ,aB] at b;subst b;exact e
theorem rM.snoc {s:Int} {a:List (Nat× (Int×Int×Int×Int))} {x:Nat× (Int×Int×Int×Int)} (b:jv s a.length x.2=false):rM s (a++ [x]):=
 ⟨a.length,x,by rw [JO (aR _),Nat.sub_self];rfl,b⟩
theorem KB.alloc {n₀ Bs:Nat} {W:World} (a:n₀<=W.heap.size) (b:Bs<W.heap.size) (o:Obj):KB n₀ Bs W (W.alloc o):=
 ⟨(Below.refl n₀ W).alloc a o,by
   have:(W.alloc o).heap[Bs]?=W.heap[Bs]?:=Below.heap_alloc W o Bs b
   simp only [World.cell?,this],aR _⟩
theorem KB.set {n₀ Bs B:Nat} {W:World} (a:n₀<=B) (b:B≠Bs) (v:Value):KB n₀ Bs W (W.setCell ⟨B,0,none⟩ v):=
 ⟨(Below.refl n₀ W).setCell (p:=⟨B,0,none⟩) a v,by
   have:(W.setCell ⟨B,0,none⟩ v).heap[Bs]?=W.heap[Bs]?:=by
    show (W.heap.modify B _)[Bs]?=_;rw [Array.getElem?_modify,ak b]
   simp only [World.cell?,this],aR _⟩
def ff (w W:World):Prop:=Below w.heap.size w W/\w.drawn<=W.drawn
theorem ff.same {B:Nat} {w A j:World} (h:ff w A) (a:Same B A j) (b:w.heap.size<=B):ff w j:=⟨h.1.trans (a.below b h.1.size),b9 h.2 (Dy a.drawn.symm)⟩
set_option maxRecDepth 100000 in
set_option maxHeartbeats 4000000 in
theorem TW (F:Fence) (n:Nat) (h5:F.fn 291) (h6:F.fn 239) (hro:F.round=none) (hn:3<=n) (s:Int) (hs:0<=s/\s<=4611686018427387904) (sv:Value) (zs:List (Int×Int×Int×Int)) (hl:zs.length<=64) (hls:(zs.length:Int)<=s - 1) (w W0:World) (hsz:W0.heap.size=w.heap.size+4)
 (bR:Boxed W0 (w.heap.size+1) 59 (.int .i64 0)) (bW:Boxed W0 (w.heap.size+1+1) 30 (.int .u64 s)) (bS:Boxed W0 (w.heap.size+1+1+1) 31 sv) (hB0:ff w W0) (hI:rL w.heap.size W0 sv zs) (u6 u7 u8 u9 u10 u11 u12 u13 u14 u15 u16 u17 u18 u19 u20 u21 u22 u23 u24 u25 u26 u27 u28:Value) (Q:Exit->Act->World->Prop)
 (hd:∀ (D:Nat) (W:World),W0.heap.size<=D->uF s (iz (bk zs) zs.length)->Boxed W (w.heap.size+1) 59 (.int .i64 0)->ff w W->W.heap[D]?=some (.deferred (some []))->Q .normal {tmps:= #[.agg #[.int .u64 s,sv],.pointer (some ⟨w.heap.size,0,none⟩),.pointer (some ⟨w.heap.size+1,0,none⟩),.pointer (some ⟨w.heap.size+1+1,0,none⟩),undef,undef,u6,u7,u8,u9,u10,u11,u12,u13,u14,u15,u16,u17,u18,u19,u20,u21,u22,u23,u24,u25,u26,u27,u28,.func (.func 291) #[] #[.pointer (some ⟨w.heap.size+1+1+1,0,none⟩)],undef,undef,undef,undef,undef,undef,undef,undef,undef,undef,undef,undef,undef,undef],defers:= [{target:= .collected D,args:= #[]}]} W)
 (hst:∀ (D:Nat) (W:World) (k:Nat),W0.heap.size<=D->k<=zs.length->rM s (iz (bk zs) k)->Boxed W (w.heap.size+1) 59 (.int .i64 1)->ff w W->W.heap[D]?=some (.deferred (some []))->Code.ret.wpIn F n Tryz.prog Q {tmps:= #[.agg #[.int .u64 s,sv],.pointer (some ⟨w.heap.size,0,none⟩),.pointer (some ⟨w.heap.size+1,0,none⟩),.pointer (some ⟨w.heap.size+1+1,0,none⟩),undef,undef,u6,u7,u8,u9,u10,u11,u12,u13,u14,u15,u16,u17,u18,u19,u20,u21,u22,u23,u24,u25,u26,u27,u28,.func (.func 291) #[] #[.pointer (some ⟨w.heap.size+1+1+1,0,none⟩)],undef,undef,undef,undef,undef,undef,undef,undef,undef,undef,undef,undef,undef,undef],defers:= [{target:= .collected D,args:= #[]}]} W):
 Code.wpIn F n Tryz.prog (Go.Code.rangeFunc (Go.Operand.tmp 29) #[30,31] (Go.Code.region 5 #[{dst:=some 5,op:=Go.Op.alloc 215,type:=0,pos:= "feed.go:28",after:= #[],guard:=none},{dst:=none,op:=Go.Op.store 215 (Go.Operand.tmp 5) (Go.Operand.tmp 31),type:=0,pos:= "feed.go:28",after:= #[{on:=0,ground:=Go.Ground.data},{on:=0,ground:=Go.Ground.phase}],guard:=none}] false) (Go.Code.block 1 ((Go.Code.region 6 #[{dst:=some 32,op:=Go.Op.load 30 (Go.Operand.tmp 3),type:=30,pos:= "feed.go:29",after:= #[],guard:=none},{dst:=some 33,op:=Go.Op.binOp Go.BinOp.sub 30 (Go.Operand.tmp 32) (Go.Operand.const (Go.Value.int Go.IntKind.u64 1)) 30,type:=30,pos:= "feed.go:29",after:= #[{on:=0,ground:=Go.Ground.data}],guard:=none},{dst:=none,op:=Go.Op.store 30 (Go.Operand.tmp 3) (Go.Operand.tmp 33),type:=0,pos:= "feed.go:29",after:= #[{on:=1,ground:=Go.Ground.data},{on:=0,ground:=Go.Ground.phase},{on:=1,ground:=Go.Ground.phase}],guard:=none}] false).seq ((Go.Code.region 7 #[{dst:=some 34,op:=Go.Op.fieldAddr 215 (Go.Operand.tmp 5) 0,type:=0,pos:= "feed.go:29",after:= #[],guard:=none},{dst:=some 35,op:=Go.Op.load 30 (Go.Operand.tmp 34),type:=30,pos:= "feed.go:29",after:= #[{on:=0,ground:=Go.Ground.data}],guard:=none},{dst:=some 36,op:=Go.Op.load 30 (Go.Operand.tmp 3),type:=30,pos:= "feed.go:29",after:= #[],guard:=none},{dst:=some 37,op:=Go.Op.binOp Go.BinOp.neq 30 (Go.Operand.tmp 35) (Go.Operand.tmp 36) 30,type:=4,pos:= "feed.go:29",after:= #[{on:=1,ground:=Go.Ground.data},{on:=2,ground:=Go.Ground.data}],guard:=none},{dst:=some 38,op:=Go.Op.move (Go.Operand.tmp 37),type:=4,pos:= "feed.go:29",after:= #[{on:=3,ground:=Go.Ground.data}],guard:=none},{dst:=some 39,op:=Go.Op.fieldAddr 215 (Go.Operand.tmp 5) 1,type:=0,pos:= "feed.go:29",after:= #[{on:=4,ground:=Go.Ground.guard}],guard:=some (4,false)},{dst:=some 40,op:=Go.Op.load 3 (Go.Operand.tmp 39),type:=3,pos:= "feed.go:29",after:= #[{on:=5,ground:=Go.Ground.data},{on:=4,ground:=Go.Ground.guard}],guard:=some (4,false)},{dst:=some 41,op:=Go.Op.call {callee:=Go.Callee.value (Go.Operand.func 239),args:= #[Go.Operand.tmp 40],argTypes:= #[3]},type:=4,pos:= "feed.go:29",after:= #[{on:=6,ground:=Go.Ground.data},{on:=4,ground:=Go.Ground.chain},{on:=4,ground:=Go.Ground.guard}],guard:=some (4,false)},{dst:=some 42,op:=Go.Op.unOp Go.UnOp.not 4 (Go.Operand.tmp 41),type:=4,pos:= "feed.go:29",after:= #[{on:=7,ground:=Go.Ground.data},{on:=4,ground:=Go.Ground.guard}],guard:=some (4,false)},{dst:=some 43,op:=Go.Op.pick (Go.Operand.tmp 38) (Go.Operand.const (Go.Value.bool true)) (Go.Operand.tmp 42),type:=4,pos:= "feed.go:29",after:= #[{on:=4,ground:=Go.Ground.data},{on:=8,ground:=Go.Ground.data}],guard:=none}] false).seq (Go.Code.cond (Go.Operand.tmp 43) ((Go.Code.region 8 #[{dst:=none,op:=Go.Op.store 59 (Go.Operand.tmp 2) (Go.Operand.const (Go.Value.int Go.IntKind.i64 1)),type:=0,pos:= "feed.go:30",after:= #[],guard:=none}] false).seq Go.Code.ret) Go.Code.skip))))) Q {tmps:= #[.agg #[.int .u64 s,sv],.pointer (some ⟨w.heap.size,0,none⟩),.pointer (some ⟨w.heap.size+1,0,none⟩),.pointer (some ⟨w.heap.size+1+1,0,none⟩),undef,undef,u6,u7,u8,u9,u10,u11,u12,u13,u14,u15,u16,u17,u18,u19,u20,u21,u22,u23,u24,u25,u26,u27,u28,.func (.func 291) #[] #[.pointer (some ⟨w.heap.size+1+1+1,0,none⟩)],undef,undef,undef,undef,undef,undef,undef,undef,undef,undef,undef,undef,undef,undef],defers:= []} W0:=by
 refine TT hro (by omega) (gf:=291) (lb:= #[.pointer (some ⟨w.heap.size+1+1+1,0,none⟩)]) rfl h5 (enters_of Tryz.func291 (by kernel_rfl) rfl)
  (encs:=λx:Nat× (Int×Int×Int×Int)=> #[Value.int .i64 (x.1:Int),Value.agg (j9 x.2)]) (λ_=>rfl)
  (λW1 hW1=>ahX F (n - 1) h5 hro (by omega) _ (w.heap.size+1+1+1) w.heap.size sv zs (by omega) W1 ((hW1.cell (by omega) (by omega) 0).trans bS.cell) (hI.below (hW1.below (by omega) (by omega)))) KB.trans (λ{A B} h0 h=>KB.same h (by omega) (by omega) (by omega) (by omega))
  (λpre W=>(uF s pre/\Boxed W (w.heap.size+1+1) 30 (.int .u64 (s - pre.length))/\Boxed W (w.heap.size+1) 59 (.int .i64 0))/\ff w W)
  (λpre W=>(rM s pre/\Boxed W (w.heap.size+1) 59 (.int .i64 1))/\ff w W)
  (λx a' W=>∃Bx,W0.heap.size+2<=Bx/\W.heap[Bx]?=some (.cells (j9 x.2) 215 (0,0))/\a'= {tmps:= #[.agg #[.int .u64 s,sv],.pointer (some ⟨w.heap.size,0,none⟩),.pointer (some ⟨w.heap.size+1,0,none⟩),.pointer (some ⟨w.heap.size+1+1,0,none⟩),undef,.pointer (some ⟨Bx,0,none⟩),u6,u7,u8,u9,u10,u11,u12,u13,u14,u15,u16,u17,u18,u19,u20,u21,u22,u23,u24,u25,u26,u27,u28,.func (.func 291) #[] #[.pointer (some ⟨w.heap.size+1+1+1,0,none⟩)],.int .i64 (x.1:Int),.agg (j9 x.2),undef,undef,undef,undef,undef,undef,undef,undef,undef,undef,undef,undef],defers:= []})
  (λhs h=>⟨⟨h.1.1,Cd h.1.2.1 hs (by omega),Cd h.1.2.2 hs (by omega)⟩,h.2.same hs (by omega)⟩)
  (λhs h=>⟨⟨h.1.1,Cd h.1.2 hs (by omega)⟩,h.2.same hs (by omega)⟩)
  (λo h=>⟨⟨h.1.1,h.1.2.1.alloc o,h.1.2.2.alloc o⟩,h.2.1.alloc h.2.1.size o,h.2.2⟩)
  (λhs h=>by
   obtain ⟨Bx,h1,h2,h3⟩:=h
   exact ⟨Bx,h1,(hs.block Bx (gM.1 h2).1 (by omega) (by omega)).trans h2,h3⟩)
  ⟨⟨λi x h=>by simp at h,by simpa using bW,bR⟩,hB0⟩
  ?assign ?body ?done ?stop
 case assign=>
  rintro pre x W K ⟨⟨hp,bW1,bR1⟩,hB1⟩ hz1 hK;simp only [j9] at hK ⊢
  gi_wp2
  exact hK _ _ ((KeepsOthers.alloc _ _).from _) (KB.alloc (by omega) (by omega) _) ⟨⟨hp,bW1.alloc _,bR1.alloc _⟩,hB1.1.alloc hB1.1.size _,hB1.2⟩ ⟨W.heap.size,by omega,World.alloc_heap_new W _,rfl⟩
 case body=>
  rintro pre x a' W ⟨⟨hp,bW1,bR1⟩,hB1⟩ hz1 ⟨Bx,hBx,bX,rfl⟩ hlt;have hBlt:Bx<W.heap.size:=(gM.1 bX).1;have cX0:W.cell? ⟨Bx,0,none⟩=some (.int .u64 x.2.1):=by simp [World.cell?,bX,j9]
  have cX1:W.cell? ⟨Bx,1,none⟩=some (.int .i64 x.2.2.1):=by simp [World.cell?,bX,j9]
  have cW:=bW1.cell;have fW:=bW1.frozen;have cR:=bR1.cell;have fR:=bR1.frozen;have ne1:Bx≠w.heap.size+1+1:=by omega
  have ne2:Bx≠w.heap.size+1:=by omega
  have h1':1<=n - 1 - 1:=by omega
  have hp1:(pre.length:Int)+1<=s - 1:=by omega
  gi_wp2_with (gi_at_call 239;refine (CallsIn.inRound (W0.heap.size+1) (ahO F (n - 1 - 1 - 1) h6 hro _ _)).mono ?_;rintro e w' ⟨rfl,rfl⟩)
  ·rename_i e1 e2
   have hx:jv s pre.length x.2=false:=by
    unfold jv;rcases e2 with e2|e2
    ·rw [show decide (0<=x.2.2.1)=false by simpa using e2,Bool.false_and,Bool.and_false]
    ·rw [show decide (x.2.2.1<16)=false by simpa using e2,Bool.and_false,Bool.and_false]
   exact ⟨((KeepsOthers.setCell _ _ _).trans (KeepsOthers.setCell _ _ _)).from _,rfl,⟨rM.snoc hx,((bR1.other (by omega) _).set _)⟩,(hB1.1.setCell (p:=⟨w.heap.size+1+1,0,none⟩) (show w.heap.size<=w.heap.size+1+1 by omega) _).setCell (p:=⟨w.heap.size+1,0,none⟩) (show w.heap.size<=w.heap.size+1 by omega) _,hB1.2⟩
  ·rename_i e1 e2
   have hx:jv s pre.length x.2=true:=by
    unfold jv;rw [show decide (0<=x.2.2.1)=true by simpa using e2.1,show decide (x.2.2.1<16)=true by simpa using e2.2,aF (show x.2.1=s - 1 -(pre.length:Int) by omega)];rfl
   exact ⟨(KeepsOthers.setCell _ _ _).from _,KB.set (by omega) (by omega) _,⟨hp.snoc hx,by have:=bW1.set (.int .u64 (s - pre.length - 1));rw [show s -(((pre++ [x]).length:Nat):Int)=s - pre.length - 1 by rw [cq];simp only [aW,dy];omega];exact this,bR1.other (by omega) _⟩,hB1.1.setCell (p:=⟨w.heap.size+1+1,0,none⟩) (show w.heap.size<=w.heap.size+1+1 by omega) _,hB1.2⟩
  ·rename_i e1
   have hx:jv s pre.length x.2=false:=by
    unfold jv;rw [aq (show ¬x.2.1=s - 1 -(pre.length:Int) by omega),Bool.false_and]
   exact ⟨((KeepsOthers.setCell _ _ _).trans (KeepsOthers.setCell _ _ _)).from _,rfl,⟨rM.snoc hx,((bR1.other (by omega) _).set _)⟩,(hB1.1.setCell (p:=⟨w.heap.size+1+1,0,none⟩) (show w.heap.size<=w.heap.size+1+1 by omega) _).setCell (p:=⟨w.heap.size+1,0,none⟩) (show w.heap.size<=w.heap.size+1 by omega) _,hB1.2⟩
 case done=>
  rintro ys W rfl ⟨⟨hp,bW1,bR1⟩,hB1⟩ hK;exact hd _ W (aR _) hp bR1 hB1 hK
 case stop=>
  rintro pre W ⟨k,hk,rfl⟩ ⟨⟨he,bR1⟩,hB1⟩ hK;exact hst _ W k (aR _) hk he bR1 hB1 hK
theorem TS {T:Array Value} {W:World} {b:Nat} {v:Value} (h:T.getD 2 undef= .pointer (some ⟨b,0,none⟩)) (hc:W.cell? ⟨b,0,none⟩=some v):(results Tryz.f172 T).run Tryz.prog W= .ok v W:=by
 have e:Tryz.f172.results= #[ResultVar.cell 2 59]:=rfl;unfold results;rw [e];have h':T[2]?.getD undef= .pointer (some ⟨b,0,none⟩):=by simpa using h
 simp [go_sem,h',hc]
theorem Cb {F:Fence} {n:Nat} {s:Int} {zs:List (Int×Int×Int×Int)} {w:World} {r:Int} (T:Array Value) (W:World) (c:jG (s,zs)=r) (d:T.getD 2 undef= .pointer (some ⟨w.heap.size+1,0,none⟩)) (a:Boxed W (w.heap.size+1) 59 (.int .i64 r)) (b:ff w W):
 bodyPostM F n Tryz.prog Tryz.f172 (λe j=>e= .returned (.int .i64 (jG (s,zs)))/\ff w j) .ret {tmps:=T,defers:= []} W:=
 ⟨.int .i64 r,TS d a.cell,by rw [c],b⟩
theorem Ca {F:Fence} {n:Nat} {s:Int} {zs:List (Int×Int×Int×Int)} {w:World} {r:Int} {D:Nat} (T:Array Value) (W:World) (f:jG (s,zs)=r) (g:T.getD 2 undef= .pointer (some ⟨w.heap.size+1,0,none⟩)) (b:Boxed W (w.heap.size+1) 59 (.int .i64 r)) (a:ff w W) (h:w.heap.size+4<=D) (c:W.heap[D]?=some (.deferred (some []))):
 bodyPostM F n Tryz.prog Tryz.f172 (λe j=>e= .returned (.int .i64 (jG (s,zs)))/\ff w j) .ret {tmps:=T,defers:= [{target:= .collected D,args:= #[]}]} W:=by
 refine ⟨by simp,.inl ⟨_,_,rfl,run_takeDeferred c,?_⟩⟩;have d:=cell_kept b.cell (grownBy_putObj' W D (.deferred none)) (λr e=>by cases e;exact ⟨_,c,rfl⟩);exact ⟨.int .i64 r,TS g d,by rw [f],a.1.trans (belowK_b (w:=w) (aR _) W D _ _ (by omega) c rfl rfl),a.2⟩
theorem Cc {s:Int} {zs:List (Int×Int×Int×Int)} (h:s=0\/4611686018427387904<s\/(zs.length:Int)≠min (s - 1) 64):jG (s,zs)=1:=by
 unfold jG
 have:(decide (s=0) || decide (4611686018427387904<s) || !decide ((zs.length:Int)=min (s - 1) 64))=true:=by
  rcases h with h|h|h
  ·rw [aF h];rfl
  ·rw [aF h];simp
  ·rw [aq h];simp
 simp only [this,ah]
theorem TV {s:Int} {zs:List (Int×Int×Int×Int)} (a:s≠0) (c:s<=4611686018427387904) (b:(zs.length:Int)=min (s - 1) 64):jG (s,zs)=bif mu s zs.reverse then 0 else 1:=by
 unfold jG;simp only [aq a,aq (show ¬4611686018427387904<s by omega),aF b,Bool.or_self,ax,aa]
theorem TY {s:Int} {zs:List (Int×Int×Int×Int)} (h:uF s (iz (bk zs) zs.length)):mu s zs.reverse=true:=by
 rw [Hp];intro i x a;have b:i<zs.length:=by have:=(oS.1 a).1;simpa using this
 rw [TQ zs b] at a;cases a;refine h i (bk zs i) ?_;rw [iz,JN,List.getElem?_range b];rfl
theorem TX {s:Int} {zs:List (Int×Int×Int×Int)} {k:Nat} (e:k<=zs.length) (h:rM s (iz (bk zs) k)):mu s zs.reverse=false:=by
 obtain ⟨i,x,a,b⟩:=h
 cases c:mu s zs.reverse with
 |false=>rfl
 |true=>
  have d:i<k:=by have:=(oS.1 a).1;simpa [iz] using this
  rw [iz,JN,List.getElem?_range d] at a;simp only [sD,aB] at a;subst a;rw [(Hp _ _).1 c i (bk zs i).2 (TQ zs (by omega))] at b;cases b
set_option maxRecDepth 100000 in
set_option maxHeartbeats 4000000 in
theorem ahW (F:Fence) (n:Nat) (h3:F.fn 172) (h4:F.fn 238) (h5:F.fn 291) (h6:F.fn 239) (hro:F.round=none) (hn:3<=n) (s:Int) (hs:0<=s/\s<18446744073709551616) (A:Option Addr) (cap:Nat) (zs:List (Int×Int×Int×Int)) (hl:zs.length<=9223372036854775807) (w:World) (hI:rL w.heap.size w (.slice A zs.length cap) zs):
 CallsIn F n Tryz.prog 172 #[.agg #[.int .u64 s,.slice A zs.length cap]] w λe W'=>e= .returned (.int .i64 (jG (s,zs)))/\ff w W':=by
 have h1:1<=n:=by omega
 refine callsIn_of_wp_marks Tryz.func172 rfl h3 ?_ hro;have hnt:Tryz.f172.ntmps=44:=rfl;simp only [hnt,nF,aW,dy,Nat.reduceAdd,Nat.reduceSub,qE,qD,qx,qA,fJ,dP]
 gi_wp2_with (gi_at_call 238;refine (ahY F (n - 1) h4 hro _ _ _ _).mono ?_;rintro e w' ⟨rfl,rfl⟩)
 ·rename_i e1;have:=Boxed.new (w.alloc (.cells #[.int .u64 0,.slice A zs.length cap] 33)) 59 (.int .i64 1);rw [World.size_alloc] at this;exact Cb _ _ (Cc (.inl e1)) rfl this ⟨((Below.refl _ w).alloc (aR _) _).alloc (by simp) _,aR _⟩
 ·rename_i e1 e2 e3;have:=Boxed.new (w.alloc (.cells #[.int .u64 s,.slice A zs.length cap] 33)) 59 (.int .i64 1);rw [World.size_alloc] at this;refine Cb _ _ (Cc ?_) rfl this ⟨((Below.refl _ w).alloc (aR _) _).alloc (by simp) _,aR _⟩;rw [aw h] at e3;rcases e3 with (h|h)|h
  ·exact .inl (by simpa using h)
  ·exact .inr (.inl h)
  ·refine .inr (.inr (λhh=> ?_));simp only [nE,cU] at h;omega
 ·rename_i e1 e2 e3;have:=Boxed.new (w.alloc (.cells #[.int .u64 s,.slice A zs.length cap] 33)) 59 (.int .i64 1);rw [World.size_alloc] at this;refine Cb _ _ (Cc ?_) rfl this ⟨((Below.refl _ w).alloc (aR _) _).alloc (by simp) _,aR _⟩;rw [ak (show ¬64<s - 1 by omega)] at e3;rcases e3 with (h|h)|h
  ·exact .inl (by simpa using h)
  ·exact .inr (.inl h)
  ·refine .inr (.inr (λhh=> ?_));simp only [nE,cU] at h;omega
 ·rename_i e1 e2 e3 K hKK
  have hmin:(zs.length:Int)=min (s - 1) 64:=by
   have:=e3.2;simp only [bne_eq_false_iff_eq] at this;split at this <;>omega
  have hc:=TV (zs:=zs) e1 e2 hmin;have hB0:=(((Below.refl _ w).alloc (aR _) (.cells #[.int .u64 s,.slice A zs.length cap] 33)).alloc (by simp) (.cells #[.int .i64 0] 59)).alloc (by simp;omega) (.cells #[.int .u64 s] 30)|>.alloc (by simp;omega) (.cells #[.slice A zs.length cap] 31)
  refine TW F n h5 h6 hro hn s ⟨hs.1,e2⟩ _ zs (by omega) (by omega) w _ (by simp) ?_ ?_ ?_ ⟨hB0,aR _⟩ (hI.below hB0) _ _ _ _ _ _ _ _ _ _ _ _ _ _ _ _ _ _ _ _ _ _ _ _ ?_ ?_
  ·have:=((Boxed.new (w.alloc (.cells #[.int .u64 s,.slice A zs.length cap] 33)) 59 (.int .i64 0)).alloc (.cells #[.int .u64 s] 30)).alloc (.cells #[.slice A zs.length cap] 31);simpa using this
  ·have:=(Boxed.new ((w.alloc (.cells #[.int .u64 s,.slice A zs.length cap] 33)).alloc (.cells #[.int .i64 0] 59)) 30 (.int .u64 s)).alloc (.cells #[.slice A zs.length cap] 31);simpa using this
  ·have:=Boxed.new (((w.alloc (.cells #[.int .u64 s,.slice A zs.length cap] 33)).alloc (.cells #[.int .i64 0] 59)).alloc (.cells #[.int .u64 s] 30)) 31 (.slice A zs.length cap);simpa using this
  ·intro D W hD hal bR1 hB1 hK;have cR:=bR1.cell;have fR:=bR1.frozen
   gi_wp2
   have hK':=(KeepsOthers.setCell W ⟨w.heap.size+1,0,none⟩ (.int .i64 0)).same D _ hK rfl;simp at hD;exact Ca _ _ (by rw [hc,TY hal];rfl) rfl (bR1.set _) ⟨hB1.1.setCell (p:=⟨w.heap.size+1,0,none⟩) (show w.heap.size<=w.heap.size+1 by omega) _,hB1.2⟩ (by omega) hK'
  ·intro D W k hD hk hbad bR1 hB1 hK
   gi_wp2
   simp at hD;exact Ca _ _ (by rw [hc,TX hk hbad];rfl) rfl bR1 hB1 (by omega) hK
 ·rename_i e1 e2 e3 K hKK
  have hmin:(zs.length:Int)=min (s - 1) 64:=by
   have:=e3.2;simp only [bne_eq_false_iff_eq] at this;split at this <;>omega
  have hc:=TV (zs:=zs) e1 e2 hmin;have hB0:=(((Below.refl _ w).alloc (aR _) (.cells #[.int .u64 s,.slice A zs.length cap] 33)).alloc (by simp) (.cells #[.int .i64 0] 59)).alloc (by simp;omega) (.cells #[.int .u64 s] 30)|>.alloc (by simp;omega) (.cells #[.slice A zs.length cap] 31)
  refine TW F n h5 h6 hro hn s ⟨hs.1,e2⟩ _ zs (by omega) (by omega) w _ (by simp) ?_ ?_ ?_ ⟨hB0,aR _⟩ (hI.below hB0) _ _ _ _ _ _ _ _ _ _ _ _ _ _ _ _ _ _ _ _ _ _ _ _ ?_ ?_
  ·have:=((Boxed.new (w.alloc (.cells #[.int .u64 s,.slice A zs.length cap] 33)) 59 (.int .i64 0)).alloc (.cells #[.int .u64 s] 30)).alloc (.cells #[.slice A zs.length cap] 31);simpa using this
  ·have:=(Boxed.new ((w.alloc (.cells #[.int .u64 s,.slice A zs.length cap] 33)).alloc (.cells #[.int .i64 0] 59)) 30 (.int .u64 s)).alloc (.cells #[.slice A zs.length cap] 31);simpa using this
  ·have:=Boxed.new (((w.alloc (.cells #[.int .u64 s,.slice A zs.length cap] 33)).alloc (.cells #[.int .i64 0] 59)).alloc (.cells #[.int .u64 s] 30)) 31 (.slice A zs.length cap);simpa using this
  ·intro D W hD hal bR1 hB1 hK;have cR:=bR1.cell;have fR:=bR1.frozen
   gi_wp2
   have hK':=(KeepsOthers.setCell W ⟨w.heap.size+1,0,none⟩ (.int .i64 0)).same D _ hK rfl;simp at hD;exact Ca _ _ (by rw [hc,TY hal];rfl) rfl (bR1.set _) ⟨hB1.1.setCell (p:=⟨w.heap.size+1,0,none⟩) (show w.heap.size<=w.heap.size+1 by omega) _,hB1.2⟩ (by omega) hK'
  ·intro D W k hD hk hbad bR1 hB1 hK
   gi_wp2
   simp at hD;exact Ca _ _ (by rw [hc,TX hk hbad];rfl) rfl bR1 hB1 (by omega) hK
 ·rename_i e1 e2;have:=Boxed.new (w.alloc (.cells #[.int .u64 s,.slice A zs.length cap] 33)) 59 (.int .i64 1);rw [World.size_alloc] at this;exact Cb _ _ (Cc (.inr (.inl e2))) rfl this ⟨((Below.refl _ w).alloc (aR _) _).alloc (by simp) _,aR _⟩
end Go.Proofs
