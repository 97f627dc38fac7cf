/- Part 24: lemmas that the last text needs. -/
import Derived.Test.YtkihadlgknhpkaaGreatDoorX21
set_option linter.all false
set_option autoImplicit true
set_option relaxedAutoImplicit true
namespace Go.Proofs
open Go.RowKit Go.Shelf Go.Fw
attribute [local go_sem] Oper.semAt_some
abbrev SV:Type:=Option Addr×Nat×Nat
abbrev KV:Type:=Int×SV×SV×Int
def bM (x:KV):Array Value:= #[.int .u64 x.1,.slice x.2.1.1 x.2.1.2.1 x.2.1.2.2,.slice x.2.2.1.1 x.2.2.1.2.1 x.2.2.1.2.2,.int .u64 x.2.2.2]
section
variable {α:Type} (f:α->KV)
def gF (tick:Int) (zs:List α):List α:=zs.filter λx=>decide (tick<= (f x).2.2.2)
theorem ahS {tick:Int} {zs:List α} {k:Nat} (h:k<zs.length) (a:tick<= (f zs[k]).2.2.2):gF f tick (zs.take (k+1))=gF f tick (zs.take k)++ [zs[k]]:=by
 unfold gF;rw [fg h,oT];simp [a]
theorem ahT {tick:Int} {zs:List α} {k:Nat} (h:k<zs.length) (a:¬tick<= (f zs[k]).2.2.2):gF f tick (zs.take (k+1))=gF f tick (zs.take k):=by
 unfold gF;rw [fg h,oT];simp [a]
theorem ahU {tick:Int} {zs:List α}:(gF f tick zs).length<=zs.length:=sH _ _
def na (n₀:Nat) (W:World) (a:Value) (zs:List α):Prop:=
 ∃A cap,a= .slice A zs.length cap/\(0<zs.length->∃b off,A=some ⟨b,off,none⟩/\b<n₀/\∀j x,zs[j]?=some x->∀ (i:Nat) (u:Value),(bM (f x))[i]?=some u->W.cell? ⟨b,off+j*4+i,none⟩=some u)
theorem na.below {n₀:Nat} {A B:World} (h:Below n₀ A B) {a:Value} {zs:List α}:na f n₀ A a zs->na f n₀ B a zs
 | ⟨A,cap,e,I⟩=>⟨A,cap,e,λJ=>by
   obtain ⟨b,off,R,C,U⟩:=I J
   exact ⟨b,off,R,C,λj x c i u d=>(h.cell (p:=⟨b,off+j*4+i,none⟩) C).trans (U j x c i u d)⟩⟩
set_option maxRecDepth 100000 in
set_option maxHeartbeats 4000000 in
theorem ahR (F:Fence) (n:Nat) (h8:F.fn 368) (hro:F.round=none) (hn:1<=n) (l Bl Bt n₀:Nat) (sv:Value) (tick:Int) (zs:List α) (hlen:zs.length<=1000) (J Jx:List α->World->Prop)
 (hY:∀pre x W,J pre W->pre.length<zs.length->YieldAt F (n - 1) Tryz.prog l #[.agg (bM (f x))] W λe W'=>
  (e= .returned (.bool true)/\J (pre++ [x]) W'/\KB n₀ Bt W W')\/(e= .returned (.bool false)/\Jx (pre++ [x]) W'))
 (hal:∀pre W o,J pre W->J pre (W.alloc o))
 (W:World) (hBl:W.cell? ⟨Bl,0,none⟩=some sv) (hBt:W.cell? ⟨Bt,0,none⟩=some (.int .u64 tick)) (hBs:Bt<W.heap.size) (hn0:n₀<=W.heap.size)
 (hI:na f n₀ W sv zs) (h0:J [] W):
 CallsIn F n Tryz.prog 368 #[.func (.yield l) #[] #[],.pointer (some ⟨Bl,0,none⟩),.pointer (some ⟨Bt,0,none⟩)] W λe W'=>(∃v,e= .returned v)/\
  ((∃ys,ys=gF f tick zs/\J ys W')\/(∃pre,pre<+:gF f tick zs/\Jx pre W')):=by
 obtain ⟨A,cap,rfl,hr⟩:=hI;refine callsIn_of_wp Tryz.func368 rfl h8 ?_ hro;have hnt:Tryz.f368.ntmps=23:=rfl;simp only [hnt,nF,aW,dy,Nat.reduceAdd,Nat.reduceSub,qE,qD,qx,qA,fJ,dP]
 gi_wp2
 gi_loopw [8] (λi wr=>∃k:Nat,k<=zs.length/\i= .int .i64 (k:Int)/\J (gF f tick (zs.take k)) wr/\KB n₀ Bt W wr)
  (λi _=>zs.length -(intOf i).toNat)
 case atStart=>exact ⟨0,gK _,rfl,h0,KB.refl _ _ _⟩
 case round=>
  obtain ⟨k,hk,rfl,hJs,hnx⟩:=hrel;have hBt':wr.cell? ⟨Bt,0,none⟩=some (.int .u64 tick):=hnx.2.1.trans hBt;by_cases hlt:k<zs.length
  ·obtain ⟨b,off,rfl,hb,hc⟩:=hr (by omega);have hx:zs[k]?=some zs[k]:=cK hlt;have hcx:∀ (i:Nat) (u:Value),(bM (f zs[k]))[i]?=some u->wr.cell? ⟨b,off+k*4+i,none⟩=some u:=λi u h=>(hnx.1.cell (p:=⟨b,off+k*4+i,none⟩) hb).trans (hc _ _ hx i u h)
   obtain ⟨x,hxx⟩:∃x,zs[k]=x:=⟨_,rfl⟩;have hsz:=hnx.1.size;have hJa:=hal _ _ (.cells (bM (f x)) 169) hJs;have hlen2:(gF f tick (zs.take k)).length<zs.length:=by have:=ahU f (tick:=tick) (zs:=zs.take k);rw [dZ] at this;omega
   obtain ⟨fn,tmps,assign,body,hy,hR⟩:=hY _ x _ hJa hlen2;rw [hxx] at hcx;have hc0:wr.cell? ⟨b,off+k*4,none⟩=some (.int .u64 (f x).1):=hcx 0 _ rfl;have hc1:wr.cell? ⟨b,off+k*4+1,none⟩=some (.slice (f x).2.1.1 (f x).2.1.2.1 (f x).2.1.2.2):=hcx 1 _ rfl;have hc2:wr.cell? ⟨b,off+k*4+2,none⟩=some (.slice (f x).2.2.1.1 (f x).2.2.1.2.1 (f x).2.2.1.2.2):=hcx 2 _ rfl;have hc3:wr.cell? ⟨b,off+k*4+3,none⟩=some (.int .u64 (f x).2.2.2):=hcx 3 _ rfl;have hBtw:Bt<wr.heap.size:=by omega
   have hBta:(wr.alloc (.cells (bM (f x)) 169)).cell? ⟨Bt,0,none⟩=some (.int .u64 tick):=(KB.alloc (n₀:=n₀) (Bs:=Bt) (by omega) hBtw _).2.1.trans hBt';simp only [bM] at hy hBta hJa
   gi_wp2
   ·have ht:tick<= (f zs[k]).2.2.2:=by rw [hxx];assumption
    have e1:=ahS f hlt ht;rw [hxx] at e1;refine hR.mono ?_;rintro e W3 (⟨rfl,hJ3,hk3⟩| ⟨rfl,hJx3⟩)
    ·gi_wp2
     go_roundw
     case rel=>exact ⟨k+1,by omega,by simp,by rw [e1];exact hJ3,hnx.trans ((KB.alloc (by omega) hBtw _).trans hk3)⟩
     case measure=>simp [intOf];omega
    ·gi_wp2
     refine bodyPost_ret (results_none rfl _ _ _) rfl ?_;exact ⟨⟨_,rfl⟩,.inr ⟨_,by rw [<-e1];exact (List.take_prefix _ _).filter _,hJx3⟩⟩
   ·refine ⟨λ_ h=>(by cases h),?_⟩;have ht:¬tick<= (f zs[k]).2.2.2:=by rw [hxx];omega
    gi_wp2
    go_roundw
    case rel=>exact ⟨k+1,by omega,by simp,by rw [ahT f hlt ht];exact hJa,hnx.trans (KB.alloc (by omega) hBtw _)⟩
    case measure=>simp [intOf];omega
  ·obtain rfl:k=zs.length:=by omega
   gi_wp2
   go_end0
   exact ⟨⟨_,rfl⟩,.inl ⟨_,rfl,by rw [fX] at hJs;exact hJs⟩⟩
set_option maxHeartbeats 1000000 in
theorem ahQ (F:Fence) (n:Nat) (h5:F.fn 356) (hro:F.round=none) (a:Option Addr) (len cap:Nat) (tick:Int) (w:World):
 CallsIn F n Tryz.prog 356 #[.slice a len cap,.int .u64 tick] w λe w'=>e= .returned (.func (.func 368) #[] #[.pointer (some ⟨w.heap.size,0,none⟩),.pointer (some ⟨w.heap.size+1,0,none⟩)])/\w'=(w.alloc (.cells #[.slice a len cap] 40)).alloc (.cells #[.int .u64 tick] 30):=by
 refine callsIn_of_wp Tryz.func356 rfl h5 ?_ hro;have hnt:Tryz.f356.ntmps=6:=rfl;simp only [hnt,nF,aW,dy,Nat.reduceAdd,Nat.reduceSub,qE,qD,qx,qA,fJ,dP]
 gi_wp2
 go_ret
 exact ⟨rfl,rfl⟩
end
end Go.Proofs
