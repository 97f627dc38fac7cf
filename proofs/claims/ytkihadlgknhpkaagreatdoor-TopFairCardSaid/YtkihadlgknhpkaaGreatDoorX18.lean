/- Part 18: lemmas that the last text needs. -/
import Derived.Test.YtkihadlgknhpkaaGreatDoorX0
import Derived.RangeFuncNested
import Derived.RangeFuncBound
import Derived.RangeFuncCalls
import Derived.RangeFuncLeaves
import Derived.RangeFuncBox
import Derived.RangeFuncWrites
import Derived.Shelf.Abstract
import Derived.Shelf.RegionOpen
import Derived.WalkKit
import Derived.OwnWalkIn
import Derived.TacticsInMore
import Derived.LoopNIn
import Derived.LoopIn
import Derived.Test.YtkihadlgknhpkaaGreatDoorProg
set_option linter.all false
set_option autoImplicit true
set_option relaxedAutoImplicit true
namespace Go.Proofs
open Go.RowKit
structure Same (B:Nat) (W W':World):Prop where
 os:W'.os=W.os
 tape:W'.tape=W.tape
 output:W'.output=W.output
 drawn:W'.drawn=W.drawn
 size:W.heap.size<=W'.heap.size
 block:∀k,k<W.heap.size->k≠B->k≠B+1->W'.heap[k]?=W.heap[k]?
theorem Same.put {B:Nat} {W:World} (o:Obj):Same B W (W.putObj (B+1) o):=⟨rfl,rfl,rfl,rfl,by simp,λk _ _ h=>World.putObj_heap_other h⟩
theorem Same.two (W:World) (o o':Obj):Same W.heap.size W ((W.alloc o).alloc o'):=⟨rfl,rfl,rfl,rfl,by simp;omega,λk a _ _=>(Below.heap_alloc _ o' k (by simp;omega)).trans (Below.heap_alloc W o k a)⟩
def Hu {α:Type} (F:Fence) (n:Nat) (P:Program) (gf l:Nat) (lb:Array Value) (encs:α->Array Value) (f:World->World->Prop) (S g:List α->Prop) (N:Nat) (W:World):Prop:=
 ∀J d:List α->World->Prop,
  (∀a x b,J a b->a.length<N->YieldAt F (n - 1) P l (encs x) b λe c=>(e= .returned (.bool true)/\J (a++ [x]) c/\f b c)\/(e= .returned (.bool false)/\d (a++ [x]) c))->
  (∀a b o,J a b->J a (b.alloc o))->J [] W->CallsIn F n P gf (#[.func (.yield l) #[] #[]]++lb) W λe c=>(∃v,e= .returned v)/\((∃xs,S xs/\J xs c)\/(∃a,g a/\d a c))
theorem TT {F:Fence} {n:Nat} {P:Program} {α:Type} {g:Operand} {ps:Array Tmp} {assign body:Code} {Q:Exit->Act->World->Prop} {a:Act} {w:World}
 (hro:F.round=none) (h1:1<=n) {gf:Nat} {lb:Array Value} (hg:a.eval g= .func (.func gf) #[] lb) (hFg:F.fn gf) (eg:∀args w,(callFunc gf args).run P w= .ok (.enter gf args) w)
 {encs:α->Array Value} (hps:∀x,(encs x).size=ps.size) {Kp:World->World->Prop} {S Sp:List α->Prop} {N:Nat}
 (hit:∀W1,Same w.heap.size w W1->Hu F (n - 1) P gf (w.heap.size+1) lb encs Kp S Sp N W1)
 (hKt:∀{A B C:World},Kp A B->Kp B C->Kp A C) (hKs:∀{A B:World},w.heap.size<=A.heap.size->Same w.heap.size A B->Kp A B)
 (I Ix:List α->World->Prop) (Ax:α->Act->World->Prop) (hI:∀{pre A B},Same w.heap.size A B->I pre A->I pre B) (hIx:∀{pre A B},Same w.heap.size A B->Ix pre A->Ix pre B) (hIa:∀{pre A} (o:Obj),I pre A->I pre (A.alloc o)) (hAx:∀{x a' A B},Same w.heap.size A B->Ax x a' A->Ax x a' B) (h0:I [] w)
 (hassign:∀ (pre:List α) (x:α) (W:World) (K:Act->World->Prop),I pre W->w.heap.size+2<=W.heap.size->(∀a' W',KeepsFrom w.heap.size W W'->Kp W W'->I pre W'->Ax x a' W'->K a' W')->
  assign.wpIn (F.inRound (w.heap.size+1)) (n - 1 - 1) P (Exit.then K (λ_ _ _=>False)) {tmps:=(ps.zip (encs x)).foldl (λt (p,v)=>t.setIfInBounds p v) a.tmps,defers:= []} W)
 (hbody:∀ (pre:List α) (x:α) (a':Act) (W:World),I pre W->w.heap.size+2<=W.heap.size->Ax x a' W->pre.length<N->
  body.wpIn (F.inRound (w.heap.size+1)) (n - 1 - 1) P (ownPostG w.heap.size Kp I (λc pre W=>c= .ret/\Ix pre W) (pre++ [x]) W) a' W)
 (hdone:∀ (xs:List α) (W:World),S xs->I xs W->W.heap[w.heap.size]?=some (.deferred (some []))->Q .normal {a with defers:={target:= .collected w.heap.size,args:= #[]}::a.defers} W)
 (hstop:∀ (pre:List α) (W:World),Sp pre->Ix pre W->W.heap[w.heap.size]?=some (.deferred (some []))->Code.ret.wpIn F n P Q {a with defers:={target:= .collected w.heap.size,args:= #[]}::a.defers} W):
 (Code.rangeFunc g ps assign body).wpIn F n P Q a w:=by
 refine wpIn_rangeFunc λfn hfn=> ?_
 rw [hro]
 let rc:LoopState->Option Code->Obj:=λst pe=> .loop {state:=st,pending:=pe,fn,tmps:=a.tmps,params:=ps,assign,body,defers:=w.heap.size}
 let bk:LoopState->Option Code->World->Prop:=λst pe W=>W.heap[w.heap.size]?=some (.deferred (some []))/\W.heap[w.heap.size+1]?=some (rc st pe)
 have lt2:∀{st pe W},bk st pe W->w.heap.size+2<=W.heap.size:=λh=>(gM.1 h.2).1
 have put:∀{st pe W} (st':LoopState) (pe':Option Code),bk st pe W->bk st' pe' (W.putObj (w.heap.size+1) (rc st' pe')):=λst' pe' h=>⟨(World.putObj_heap_other (by omega)).trans h.1,World.putObj_heap_same (by have:=lt2 h;omega)⟩
 have keep:∀{st pe W W'},KeepsFrom w.heap.size W W'->bk st pe W->bk st pe W':=λk h=>⟨k.same _ _ (aR _) h.1 rfl,k.same _ _ (dI _) h.2 rfl⟩
 have b1:bk .ready none ((w.alloc (.deferred (some []))).alloc (rc .ready none)):=
  ⟨(Below.heap_alloc _ _ _ (by simp)).trans (World.alloc_heap_new w _),by have:=World.alloc_heap_new (w.alloc (.deferred (some []))) (rc .ready none);rwa [World.size_alloc] at this⟩
 have s1:Same w.heap.size w ((w.alloc (.deferred (some []))).alloc (rc .ready none)):=Same.two w _ _
 refine ⟨w.heap.size+1,[{target:= .collected w.heap.size,args:= #[]}],(w.alloc (.deferred (some []))).alloc (rc .ready none),{target:= .fn (.func gf) lb,args:= #[.func (.yield (w.heap.size+1)) #[] #[]]},(w.alloc (.deferred (some []))).alloc (rc .ready none),gf,
  #[.func (.yield (w.heap.size+1)) #[] #[]]++lb,(w.alloc (.deferred (some []))).alloc (rc .ready none),run_enterLoop_outer _ _ _ _ _,?_,?_,?_,λ_=>h1,?_⟩
 ·simp only [resolve,hg];simp [go_sem]
 ·intro f' hf';simp [Target.leads] at hf';subst hf';exact hFg
 ·simp [invoke,go_sem,eg]
 refine (hit _ s1 (λpre W=>I pre W/\bk .ready none W) (λpre W=>Ix pre W/\bk .done (some .ret) W) ?_ (λpre W1 o h=>⟨hIa o h.1,⟨(Below.heap_alloc _ _ _ (by have:=lt2 h.2;omega)).trans h.2.1,(Below.heap_alloc _ _ _ (by have:=lt2 h.2;omega)).trans h.2.2⟩⟩) ⟨hI s1 h0,b1⟩).mono ?_
 ·rintro pre x W ⟨hi,hb⟩ hlen;refine ⟨fn,_,assign,body,run_yield hb.2 (hps x),roundIn_of_wpIn hfn (hassign pre x W _ hi (lt2 hb) ?_)⟩;intro a' Wa hkf hkp hia hax;have hb2:=keep hkf hb;refine ⟨_,run_beginRound hb2.2 rfl,?_⟩;have hb3:=put .busy none hb2;have s3:Same w.heap.size Wa (Wa.putObj (w.heap.size+1) (rc .busy none)):=Same.put _;refine wpIn_mono (hbody pre x a' _ (hI s3 hia) (lt2 hb3) (hAx s3 hax) hlen) ?_;rintro e a3 W3 hp
  cases e with
  |normal=>
   obtain ⟨hk3,hkp3,hi3⟩:=hp;have hb4:=keep hk3 hb3;exact ⟨_,_,run_endRound none hb4.2,.inl ⟨rfl,⟨hI (Same.put _) hi3,put .ready none hb4⟩,hKt hkp (hKt (hKs (by have:=lt2 hb2;omega) s3) (hKt hkp3 (hKs (by have:=lt2 hb4;omega) (Same.put _))))⟩⟩
  |ret=>
   obtain ⟨hk3,_,hi3⟩:=hp;have hb4:=keep hk3 hb3;exact ⟨_,_,run_endRound (some .ret) hb4.2,.inr ⟨rfl,hIx (Same.put _) hi3,put .done (some .ret) hb4⟩⟩
  |exit id=>exact absurd hp.2.1 (by simp)
  |goto t=>exact absurd hp.2.1 (by simp)
  |panic ch=>exact hp.elim
  |outgrown=>exact hp.elim
 ·rintro e W2 ⟨⟨v,rfl⟩,(⟨xs,hS,hi,hb⟩| ⟨pre,hSp,hi,hb⟩)⟩
  ·exact ⟨none,_,run_endLoop hb.2 (by simp),hdone xs _ hS (hI (Same.put _) hi) (put .exhausted none hb).1⟩
  ·exact ⟨some .ret,_,run_endLoop hb.2 (by simp),hstop pre _ hSp (hIx (Same.put _) hi) (put .exhausted (some .ret) hb).1⟩
end Go.Proofs
namespace Go.Proofs
theorem Hq {α:Type}:∀ (q:Ask α) (w:World),w.drawn<= (w.ask q).2.drawn
 | .done a,w=>aR _
 | .ask C j k,w=>by
   unfold World.ask;simp only;split
   ·exact Hq (k 0) w
   ·exact b9 (dI _) (Hq (k _) {w with drawn:=w.drawn+1})
theorem ahF (w:World) (c:Sys):w.drawn<= (w.sys c).2.drawn:=by
 unfold World.sys;have:=Hq (Kernel.perform c w.os) w;split
 ·exact aR _
 ·rename_i r os w1 h e;rw [e] at this;exact this
theorem TU {c α d:Type} {x:Except c α} {g:α->Except c d} {b:d} (h:(x>>=g)= .ok b):∃a,x= .ok a/\g a= .ok b:=by
 cases x with
 |error e=>cases h
 |ok a=>exact ⟨a,rfl,h⟩
theorem ahD {p:Program} {w:World} {a:Addr} {u:TypeId} {k:Addr} {v:Value} {b:Bool} {r:World×List Addr} (h:w.viewStore p a u k v b= .ok r):r.1.drawn=w.drawn:=by
 unfold World.viewStore at h;by_cases g:(!tight p p.depth u)=true
 ·rw [aw g] at h;cases h
 ·rw [ak g] at h;obtain ⟨⟨c,e,frozen,d,i,cells⟩,_,h⟩:=TU h;simp only at h
  cases j:v.bytes? with
  |none=>rw [j] at h;cases h
  |some f=>
   rw [j] at h;simp only at h;split at h
   ·cases h
   ·obtain ⟨l,_,h⟩:=TU h;cases h;rfl
theorem ahV {p:Program} {w:World} {a:Addr} {v:Value} {b:Bool} {r:World×List Addr} (h:w.farStore p a v b= .ok r):r.1.drawn=w.drawn:=by
 unfold World.farStore at h;split at h
 ·split at h
  ·rename_i e;cases h;exact ahD e
  ·cases h
 ·cases h
theorem ahI {P:Program} {α:Type}:∀ (s:Sem α) (w:World) {v:α} {w':World},s.run P w= .ok v w'->w.drawn<=w'.drawn:=by
 intro s
 induction s with
 |pure a=>intro w v w' h;cases h;exact aR _
 |load m a k b=>
  intro w v w' h;unfold Sem.run at h;split at h
  ·exact b _ _ h
  ·split at h
   ·exact b _ _ h
   ·cases h
 |store m a u k b=>
  intro w v w' h
  cases u <;>simp only [Sem.run] at h <;>first
   | (cases h;done)
   | (split at h
      ·split at h
       ·cases h
       ·have t:=b _ h;exact t
      ·split at h
       ·rename_i e;have:=b _ h;have d:=ahV e;simp only at d;omega
       ·cases h)
 |new o k b=>intro w v w' h;have t:=b _ _ h;exact t
 |shape r k b=>intro w v w' h;exact b _ _ h
 |freeze a n k b=>
  intro w v w' h;have t:=b _ h;have e:(w.freeze a n).drawn=w.drawn:=by unfold World.freeze;repeat' split <;>rfl
  rw [e] at t;exact t
 |frozen a k b=>intro w v w' h;exact b _ _ h
 |getObj r k b=>
  intro w v w' h;unfold Sem.run at h;split at h
  ·cases h
  ·exact b _ _ h
  ·cases h
 |setObj r o k b=>
  intro w v w' h;unfold Sem.run at h;split at h
  ·cases h
  ·have t:=b _ h;exact t
  ·cases h
 |choose q k b=>
  intro w v w' h;unfold Sem.run at h;split at h
  ·exact b _ _ h
  ·have t:=b _ _ h;exact b9 (dI _) t
 |sys c k b=>intro w v w' h;exact b9 (ahF w c) (b _ _ h)
 |program k b=>intro w v w' h;exact b _ _ h
 |mark m k b=>intro w v w' h;exact b _ h
 |halt e=>intro w v w' h;cases h
end Go.Proofs
namespace Go.Proofs
open Go.RowKit Go.Shelf
attribute [local go_sem] Oper.semAt_some
def j9 (x:Int×Int×Int×Int):Array Value:= #[.int .u64 x.1,.int .i64 x.2.1,.int .u64 x.2.2.1,.int .u64 x.2.2.2]
def iz {α:Type} (f:Nat->α) (k:Nat):List α:=(List.range k).map f
theorem TP {α:Type} (f:Nat->α) (k:Nat):iz f (k+1)=iz f k++ [f k]:=by simp [iz,List.range_succ]
theorem ahE {α:Type} (f:Nat->α) (k:Nat):(iz f k).length=k:=by simp [iz]
def bk (zs:List (Int×Int×Int×Int)) (k:Nat):Nat× (Int×Int×Int×Int):=(zs.length - 1 - k,zs[zs.length - 1 - k]?.getD (0,0,0,0))
def KB (n₀ Bs:Nat) (W j:World):Prop:=Below n₀ W j/\j.cell? ⟨Bs,0,none⟩=W.cell? ⟨Bs,0,none⟩/\W.drawn<=j.drawn
theorem KB.refl (n₀ Bs:Nat) (W:World):KB n₀ Bs W W:=⟨Below.refl _ _,rfl,aR _⟩
theorem KB.trans {n₀ Bs:Nat} {A B C:World} (h:KB n₀ Bs A B) (k:KB n₀ Bs B C):KB n₀ Bs A C:=⟨h.1.trans k.1,k.2.1.trans h.2.1,b9 h.2.2 k.2.2⟩
theorem Same.below {B n₀:Nat} {W j:World} (h:Same B W j) (a:n₀<=B) (b:n₀<=W.heap.size):Below n₀ W j:=⟨h.os,h.tape,h.output,h.size,λk c=>h.block k (by omega) (by omega) (by omega)⟩
theorem Same.cell {B b:Nat} {W j:World} (h:Same B W j) (c:b<B) (a:b<W.heap.size) (o:Nat):j.cell? ⟨b,o,none⟩=W.cell? ⟨b,o,none⟩:=by
 have:j.heap[b]?=W.heap[b]?:=h.block b a (by omega) (by omega);simp only [World.cell?,this]
theorem KB.same {n₀ Bs B:Nat} {W C:World} (h:Same B W C) (a:n₀<=B) (b:n₀<=W.heap.size) (c:Bs<B) (j:Bs<W.heap.size):KB n₀ Bs W C:=⟨h.below a b,h.cell c j 0,Dy h.drawn.symm⟩
theorem Cd {B b:Nat} {t:TypeId} {v:Value} {W j:World} (a:Boxed W b t v) (h:Same B W j) (c:b<B):Boxed j b t v:=(h.block b a.lt (by omega) (by omega)).trans a
set_option maxRecDepth 100000 in
set_option maxHeartbeats 2000000 in
theorem ah0 (F:Fence) (n:Nat) (h8:F.fn 291) (hro:F.round=none) (hn:1<=n) (l Bs n₀ b off cap:Nat) (zs:List (Int×Int×Int×Int)) (hlen:zs.length<=1000) (hb:b<n₀) (J Jx:List (Nat× (Int×Int×Int×Int))->World->Prop)
 (hY:∀pre x W,J pre W->pre.length<zs.length->YieldAt F (n - 1) Tryz.prog l #[.int .i64 (x.1:Int),.agg (j9 x.2)] W λe W'=>
  (e= .returned (.bool true)/\J (pre++ [x]) W'/\KB n₀ Bs W W')\/(e= .returned (.bool false)/\Jx (pre++ [x]) W'))
 (W:World) (hBs:W.cell? ⟨Bs,0,none⟩=some (.slice (some ⟨b,off,none⟩) zs.length cap))
 (hc:∀j x,zs[j]?=some x->∀ (i:Nat) (u:Value),(j9 x)[i]?=some u->W.cell? ⟨b,off+j*4+i,none⟩=some u) (h0:J [] W):
 CallsIn F n Tryz.prog 291 #[.func (.yield l) #[] #[],.pointer (some ⟨Bs,0,none⟩)] W λe W'=>(∃v,e= .returned v)/\
  ((∃ys,ys=iz (bk zs) zs.length/\J ys W')\/(∃pre,(∃k,k<=zs.length/\pre=iz (bk zs) k)/\Jx pre W')):=by
 refine callsIn_of_wp Tryz.func291 rfl h8 ?_ hro;have hnt:Tryz.f291.ntmps=19:=rfl;simp only [hnt,nF,aW,dy,Nat.reduceAdd,Nat.reduceSub,qE,qD,qx,qA,fJ,dP]
 gi_wp2
 gi_loopw [3] (λi wr=>∃k:Nat,k<=zs.length/\i= .int .i64 ((zs.length:Int) - 1 - k)/\J (iz (bk zs) k) wr/\KB n₀ Bs W wr)
  (λi _=>(intOf i+1).toNat)
 case atStart=>
  exact ⟨0,gK _,by simp,h0,KB.refl _ _ _⟩
 case round=>
  obtain ⟨k,hk,rfl,hJs,hnx⟩:=hrel;have hBs':wr.cell? ⟨Bs,0,none⟩=some (.slice (some ⟨b,off,none⟩) zs.length cap):=hnx.2.1.trans hBs;by_cases hlt:k<zs.length
  ·obtain ⟨fn,tmps,assign,body,hy,hR⟩:=hY _ (bk zs k) wr hJs (by rw [ahE];exact hlt);have hi:((zs.length:Int) - 1 - k)=((zs.length - 1 - k:Nat):Int):=by omega
   obtain ⟨q,hq⟩:∃q,zs.length - 1 - k=q:=⟨_,rfl⟩;have hql:q<zs.length:=by omega
   have hbk:(bk zs k).1=q:=hq
   have hx:zs[zs.length - 1 - k]?=some (bk zs k).2:=by
    unfold bk;rw [cK (by omega)];rfl
   have hcx:∀ (i:Nat) (u:Value),(j9 (bk zs k).2)[i]?=some u->wr.cell? ⟨b,off+ (zs.length - 1 - k)*4+i,none⟩=some u:=λi u h=>(hnx.1.cell (p:=⟨b,off+ (zs.length - 1 - k)*4+i,none⟩) hb).trans (hc _ _ hx i u h)
   rw [hq] at hcx hi;rw [hbk] at hy;rw [hi];have hc0:wr.cell? ⟨b,off+q*4,none⟩=some (.int .u64 (bk zs k).2.1):=hcx 0 _ rfl;have hc1:wr.cell? ⟨b,off+q*4+1,none⟩=some (.int .i64 (bk zs k).2.2.1):=hcx 1 _ rfl;have hc2:wr.cell? ⟨b,off+q*4+2,none⟩=some (.int .u64 (bk zs k).2.2.2.1):=hcx 2 _ rfl;have hc3:wr.cell? ⟨b,off+q*4+3,none⟩=some (.int .u64 (bk zs k).2.2.2.2):=hcx 3 _ rfl;simp only [j9] at hy
   gi_wp2
   refine hR.mono ?_;rintro e W3 (⟨rfl,hJ3,hk3⟩| ⟨rfl,hJx3⟩)
   ·gi_wp2
    go_roundw
    case rel=>exact ⟨k+1,by omega,by simp;omega,by rw [TP];exact hJ3,hnx.trans hk3⟩
    case measure=>simp [intOf]
   ·gi_wp2
    refine bodyPost_ret (results_none rfl _ _ _) rfl ?_;exact ⟨⟨_,rfl⟩,.inr ⟨_,⟨k+1,by omega,(TP _ _).symm⟩,hJx3⟩⟩
  ·obtain rfl:k=zs.length:=by omega
   gi_wp2
   go_end0
   exact ⟨⟨_,rfl⟩,.inl ⟨_,rfl,hJs⟩⟩
set_option maxRecDepth 100000 in
set_option maxHeartbeats 1000000 in
theorem ahZ (F:Fence) (n:Nat) (h7:F.fn 291) (hro:F.round=none) (l Bs:Nat) (A:Option Addr) (cap:Nat) (J:List (Nat× (Int×Int×Int×Int))->World->Prop) (W:World) (hBs:W.cell? ⟨Bs,0,none⟩=some (.slice A 0 cap)) (h0:J [] W):
 CallsIn F n Tryz.prog 291 #[.func (.yield l) #[] #[],.pointer (some ⟨Bs,0,none⟩)] W λe W'=>(∃v,e= .returned v)/\J [] W':=by
 refine callsIn_of_wp Tryz.func291 rfl h7 ?_ hro;have hnt:Tryz.f291.ntmps=19:=rfl;simp only [hnt,nF,aW,dy,Nat.reduceAdd,Nat.reduceSub,qE,qD,qx,qA,fJ,dP]
 gi_wp2
 gi_loopw [3] (λi wr=>i= .int .i64 (-1)/\J [] wr) (λ_ _=>0)
 case atStart=>exact ⟨rfl,h0⟩
 case round=>
  obtain ⟨rfl,hJs⟩:=hrel
  gi_wp2
  go_end0
  exact ⟨⟨_,rfl⟩,hJs⟩
set_option maxHeartbeats 1000000 in
theorem ahY (F:Fence) (n:Nat) (h5:F.fn 238) (hro:F.round=none) (a:Option Addr) (len cap:Nat) (w:World):
 CallsIn F n Tryz.prog 238 #[.slice a len cap] w λe w'=>e= .returned (.func (.func 291) #[] #[.pointer (some ⟨w.heap.size,0,none⟩)])/\w'=w.alloc (.cells #[.slice a len cap] 31):=by
 refine callsIn_of_wp Tryz.func238 rfl h5 ?_ hro;have hnt:Tryz.f238.ntmps=4:=rfl;simp only [hnt,nF,aW,dy,Nat.reduceAdd,Nat.reduceSub,qE,qD,qx,qA,fJ,dP]
 gi_wp2
 go_ret
 exact ⟨rfl,rfl⟩
def rL (n₀:Nat) (W:World) (a:Value) (zs:List (Int×Int×Int×Int)):Prop:=
 ∃A cap,a= .slice A zs.length cap/\(0<zs.length->∃b off,A=some ⟨b,off,none⟩/\b<n₀/\∀j x,zs[j]?=some x->∀ (i:Nat) (u:Value),(j9 x)[i]?=some u->W.cell? ⟨b,off+j*4+i,none⟩=some u)
theorem rL.below {n₀:Nat} {A B:World} (h:Below n₀ A B) {a:Value} {zs:List (Int×Int×Int×Int)}:rL n₀ A a zs->rL n₀ B a zs
 | ⟨A,cap,e,I⟩=>⟨A,cap,e,λJ=>by
   obtain ⟨b,off,R,C,U⟩:=I J
   exact ⟨b,off,R,C,λj x c i u d=>(h.cell (p:=⟨b,off+j*4+i,none⟩) C).trans (U j x c i u d)⟩⟩
theorem ahX (F:Fence) (n:Nat) (f:F.fn 291) (a:F.round=none) (i:1<=n) (l Bs n₀:Nat) (g:Value) (zs:List (Int×Int×Int×Int)) (hlen:zs.length<=1000) (W:World)
 (j:W.cell? ⟨Bs,0,none⟩=some g) (m:rL n₀ W g zs):
 Hu F n Tryz.prog 291 l #[.pointer (some ⟨Bs,0,none⟩)] (λx:Nat× (Int×Int×Int×Int)=> #[Value.int .i64 (x.1:Int),Value.agg (j9 x.2)]) (KB n₀ Bs) (λys=>ys=iz (bk zs) zs.length)
  (λc=>∃k,k<=zs.length/\c=iz (bk zs) k) zs.length W:=λJ o p _ h=>by
 obtain ⟨A,cap,rfl,q⟩:=m
 cases zs with
 |nil=>exact (ahZ F n f a l Bs A cap J W j h).mono λe u ⟨r,s⟩=>⟨r,.inl ⟨_,rfl,s⟩⟩
 |cons z zs=>
  obtain ⟨b,off,rfl,t,d⟩:=q (by simp);exact ah0 F n f a i l Bs n₀ b off cap (z::zs) hlen t J o p W j d h
end Go.Proofs
