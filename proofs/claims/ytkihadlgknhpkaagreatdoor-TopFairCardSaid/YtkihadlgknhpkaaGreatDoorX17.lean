/- Part 17: lemmas that the last text needs. -/
import Derived.Test.YtkihadlgknhpkaaGreatDoorX16
import Derived.Test.YtkihadlgknhpkaaGreatDoorX52
import Derived.Shelf.RegionOpenPlain
import Derived.WalkKit
import Derived.Deep.LoopGhost
import Derived.Deep.RegionLaw
import Derived.Lib.Walk
import Derived.Sort.WalkB12
import Derived.Lib.SliceRun
import Derived.Lib.SlicesDelete
import Derived.Lib.JoinLaws
import Derived.Lib.AppendZeros
import Derived.Lib.Overlaps
import Derived.Laws.Externs
import Derived.Laws.IdiomCopy
import Derived.ArgAppend
import Derived.Deep.AppendSrc
import Derived.Lib.AppendZerosOnto
set_option linter.all false
set_option autoImplicit true
set_option relaxedAutoImplicit true
namespace Go.Fw
open Go Go.Proofs Go.Shelf Go.RowKit Go.Lib Go.Sort
structure Rows (P:Program) (ρ:Ren) (S E K:Nat) (z:Value) (i0:TypeInfo):Prop where
 mixed:P.follows .mixedOrders=true
 t0:P.underlying (ρ.t 0)=some (TypeDesc.tuple #[])
 a0:∀w,(isAgg (ρ.t 0)).run P w= .ok false w
 z0:∀w,(Go.sizeOf (ρ.t 0)).run P w= .ok 1 w
 v0:∀w,(zeroValue (ρ.t 0)).run P w= .ok (Value.tuple #[]) w
 t3:P.underlying (ρ.t 3)=some (TypeDesc.int IntKind.i64)
 a3:∀w,(isAgg (ρ.t 3)).run P w= .ok false w
 z3:∀w,(Go.sizeOf (ρ.t 3)).run P w= .ok 1 w
 v3:∀w,(zeroValue (ρ.t 3)).run P w= .ok (Value.int IntKind.i64 0) w
 t4:P.underlying (ρ.t 4)=some (TypeDesc.bool)
 a4:∀w,(isAgg (ρ.t 4)).run P w= .ok false w
 z4:∀w,(Go.sizeOf (ρ.t 4)).run P w= .ok 1 w
 v4:∀w,(zeroValue (ρ.t 4)).run P w= .ok (Value.bool false) w
 tS:P.underlying (ρ.t S)=some (TypeDesc.slice (ρ.t E))
 aS:∀w,(isAgg (ρ.t S)).run P w= .ok false w
 zS:∀w,(Go.sizeOf (ρ.t S)).run P w= .ok 1 w
 vS:∀w,(zeroValue (ρ.t S)).run P w= .ok (Value.slice none 0 0) w
 zE:∀w,(Go.sizeOf (ρ.t E)).run P w= .ok K w
 vE:∀w,(zeroValue (ρ.t E)).run P w= .ok z w
 iE:P.info? (ρ.t E)=some i0
 hi:i0.size=K
 hK:0<K
 hz:z.cells.size=K
 h1:∀v ∈ z.cells.toList,v.oneCell'=true
variable {P:Program} {ρ:Ren}
set_option maxHeartbeats 4000000 in
set_option maxRecDepth 1000000 in
theorem akF {K:Nat} {z:Value} {i0:TypeInfo} {f:FuncId} (L:Rows P ρ 62 160 K z i0) (B:Bears P f (delB ρ)) (A:Option Addr) (n cap i:Nat) (w:World) (hi:i<=n) (hc:n<=cap) (hm:cap<=9223372036854775807):
 Calls P f #[.slice A n cap,.int .i64 i,.int .i64 i] w λe w'=>e= .returned (.slice A n cap)/\w'=w:=by
 have mixed:=L.mixed;have t0:=L.t0;have a0:=L.a0;have z0:=L.z0;have v0:=L.v0;have t3:=L.t3;have a3:=L.a3;have z3:=L.z3;have v3:=L.v3;have t4:=L.t4;have a4:=L.a4;have z4:=L.z4;have v4:=L.v4;have t62:=L.tS;have a62:=L.aS;have z62:=L.zS;have v62:=L.vS;have z160:=L.zE
 obtain ⟨_,_,FG⟩:=B
 go_enter FG,delB_ntmps ρ
 cases A with
 |none=>
  go_wp2
  all_goals (go_ret;simp_all)
 |some a=>
  obtain ⟨b,off,sp⟩:=a
  go_wp2
  all_goals (go_ret;simp_all)
theorem HO (b) (vs) (o) (w:World) (h:∀j,j<vs.length->(w.cell? ⟨b,o+j,none⟩).isSome=true) (k:Nat) (c:(w.cell? ⟨b,k,none⟩).isSome=true):((w.setCells b o vs).cell? ⟨b,k,none⟩).isSome=true:=by
 by_cases a:o<=k/\k<o+vs.length
 ·have:=World.cell?_setCells_in b vs o w h (k - o) (by omega)
  grind
 grind[World.cell?_setCells_out]
theorem aiv {z:Value} (a:∀v ∈ z.cells.toList,v.oneCell'=true) (b:0<z.cells.size) (n):∀v ∈ (Builtin.zeroCells z.cells n).toList,v.oneCell'=true:=by
 grind[Builtin.zeroCells,Nat.mod_lt]
theorem ajc (w:World) (t e f:TypeId) (z:Value) (g:P.underlying t=some (.slice e)) (h:∀w,(zeroValue e).run P w= .ok z w) (i:∀v ∈ z.cells.toList,v.oneCell'=true) (k:0<z.cells.size) (b o n c:Nat) (l:0<n)
 (m:∀j,j<n*z.cells.size->(w.cell? ⟨b,o+j,none⟩).isSome=true) (p:∀j,j<n*z.cells.size->w.frozen? ⟨b,o+j,none⟩=false):
 (Builtin.clear_ #[t] f #[.slice (some ⟨b,o,none⟩) n c]).run P w= .ok (.tuple #[]) (w.setCells b o (Builtin.zeroCells z.cells n).toList):=by
 have q:(Builtin.zeroCells z.cells n).toList.length=n*z.cells.size:=by simp [Builtin.zeroCells]
 have a:=run_storeCells_cells (P:=P) b o (Builtin.zeroCells z.cells n).toList 0 w (by grind) (by grind) (aiv i k n);obtain ⟨d,rfl⟩:∃d,n=d+1:=⟨n - 1,by omega⟩;simp only [sE] at a;simp [Builtin.clear_,run_underlying g,h,a]
set_option maxHeartbeats 4000000 in
set_option maxRecDepth 1000000 in
theorem akE {K:Nat} {z:Value} {i0:TypeInfo} {f:FuncId} (L:Rows P ρ 62 160 K z i0) (B:Bears P f (delB ρ)) (blk off n cap i j:Nat) (cs:List Value) (w:World) (hlt:i<j) (hj:j<=n) (hcap:n<=cap) (hm:cap<=9223372036854775807)
 (hl:cs.length=n*K) (hcs:∀t u,cs[t]?=some u->w.cell? ⟨blk,off+t,none⟩=some u) (hfz:∀t,t<n*K->w.frozen? ⟨blk,off+t,none⟩=false) (h1:∀v ∈ cs,v.oneCell'=true):
 Calls P f #[.slice (some ⟨blk,off,none⟩) n cap,.int .i64 i,.int .i64 j] w λe w'=>e= .returned (.slice (some ⟨blk,off,none⟩) (n -(j - i)) cap)/\
  w'=(w.drew.setCells blk (off+i*K) (cs.drop (j*K))).setCells blk (off+ (i+ (n - j))*K) (Builtin.zeroCells z.cells (j - i)).toList:=by
 have mixed:=L.mixed;have t0:=L.t0;have a0:=L.a0;have z0:=L.z0;have v0:=L.v0;have t3:=L.t3;have a3:=L.a3;have z3:=L.z3;have v3:=L.v3;have t4:=L.t4;have a4:=L.a4;have z4:=L.z4;have v4:=L.v4;have t62:=L.tS;have a62:=L.aS;have z62:=L.zS;have v62:=L.vS;have z160:=L.zE
 have hK:=L.hK;have hnK:i*K<=n*K:=fH _ (by omega);have hjK:j*K<=n*K:=fH _ hj;have hdl:(cs.drop (j*K)).length=(n - j)*K:=by grind[Nat.sub_mul]
 have hik:(n - j)*K+i*K<=n*K:=by rw [<-fI];exact fH _ (by omega)
 have hsome:∀t,t<n*K->(w.cell? ⟨blk,off+t,none⟩).isSome=true:=by
  simp_all
 obtain ⟨A,hA,hsrc⟩:∃A:Addr,(if cap=j then some (⟨blk,off,none⟩:Addr) else some ⟨blk,off+j*K,none⟩)=some A/\Hid (∀t u,(cs.drop (j*K))[t]?=some u->w.drew.cell? (A.add t)=some u):=by
  by_cases h:cap=j
  ·refine ⟨⟨blk,off,none⟩,by simp [h],λt u hu=> ?_⟩
   grind
  ·refine ⟨⟨blk,off+j*K,none⟩,by simp [h],λt u hu=> ?_⟩;rw [qy] at hu;rw [Addr.add_lit,mB]
   simp_all
 have s1:Hid ((cs.drop (j*K)).length=(n - j)*K):=hdl;have s2:Hid (∀u ∈ cs.drop (j*K),u.oneCell'=true):=λu hu=>h1 u (iJ hu)
 have s3:Hid (∀t,t<(cs.drop (j*K)).length->(w.drew.cell? ⟨blk,off+i*K+t,none⟩).isSome=true/\w.drew.frozen? ⟨blk,off+i*K+t,none⟩=false):=by
  intro t ht;rw [hdl] at ht;rw [mB];exact ⟨hsome _ (by omega),hfz _ (by omega)⟩
 obtain ⟨W1,hW1⟩:∃W1,W1=w.drew.setCells blk (off+i*K) (cs.drop (j*K)):=⟨_,rfl⟩
 have hcl:∀ty,(Builtin.clear_ #[ρ.t 62] ty #[.slice (some ⟨blk,off+ (i+ (n - j))*K,none⟩) (n -(i+ (n - j))) (cap -(i+ (n - j)))]).run P W1= .ok (.tuple #[]) (W1.setCells blk (off+ (i+ (n - j))*K) (Builtin.zeroCells z.cells (n -(i+ (n - j)))).toList):=by
  intro ty;have hb:(i+ (n - j))*K+ (n -(i+ (n - j)))*K=n*K:=by rw [<-fI];grind
  refine ajc W1 _ _ ty _ t62 L.vE L.h1 (by rw [L.hz];exact hK) blk _ _ _ (by omega) (λt ht=> ?_) (λt ht=> ?_)
  ·rw [L.hz] at ht;rw [hW1,mB];exact HO blk _ _ _ (λt ht=>by rw [hdl] at ht;rw [mB];exact hsome _ (by omega)) _ (hsome _ (by omega))
  ·rw [L.hz] at ht;rw [hW1,World.frozen?_setCells,mB];exact hfz _ (by omega)
 generalize hzs:(Builtin.zeroCells z.cells (n -(i+ (n - j)))).toList=zs at hcl;have hz':Hid ((Builtin.zeroCells z.cells (n -(i+ (n - j)))).toList=zs):=hzs;have hW:Hid (W1=w.drew.setCells blk (off+i*K) (cs.drop (j*K))):=hW1;have hic:i<=cap:=by omega
 have hjc:j<=cap:=by omega
 have i1:=L.iE;have i2:=L.hi;clear hW1 hcs hl hsome hfz hdl h1 hzs;obtain ⟨_,_,FG⟩:=B
 go_enter FG,delB_ntmps ρ
 go_wp2_with fail
 go_region_law_o (refine step_append_room rfl (.tmp 22) (.tmp 25) (ρ.t 62) rfl (ρ.t 160) i0 K t62 i1 i2 blk off i cap (by simp [Act.eval,Act.put]) A (n - j) (cap - j) (cs.drop (j*K)) (by simp [Act.eval,Act.put]) s1.out hsrc.out s2.out (by omega) s3.out ?_;rw [<-hW.out])
 go_wp2
 go_ret
 refine ⟨by rw [show n -(j - i)=i+ (n - j) by omega];rfl,?_⟩;rw [<-hW.out,show j - i=n -(i+ (n - j)) by omega,hz'.out]
structure Lays (P:Program) (ρ:Ren) (S E:Nat):Prop where
 mixed:P.follows .mixedOrders=true
 t0:P.underlying (ρ.t 0)=some (TypeDesc.tuple #[])
 a0:∀w,(isAgg (ρ.t 0)).run P w= .ok false w
 z0:∀w,(Go.sizeOf (ρ.t 0)).run P w= .ok 1 w
 v0:∀w,(zeroValue (ρ.t 0)).run P w= .ok (Value.tuple #[]) w
 t3:P.underlying (ρ.t 3)=some (TypeDesc.int IntKind.i64)
 a3:∀w,(isAgg (ρ.t 3)).run P w= .ok false w
 z3:∀w,(Go.sizeOf (ρ.t 3)).run P w= .ok 1 w
 v3:∀w,(zeroValue (ρ.t 3)).run P w= .ok (Value.int IntKind.i64 0) w
 t4:P.underlying (ρ.t 4)=some (TypeDesc.bool)
 a4:∀w,(isAgg (ρ.t 4)).run P w= .ok false w
 z4:∀w,(Go.sizeOf (ρ.t 4)).run P w= .ok 1 w
 v4:∀w,(zeroValue (ρ.t 4)).run P w= .ok (Value.bool false) w
 tS:P.underlying (ρ.t S)=some (TypeDesc.slice (ρ.t E))
 aS:∀w,(isAgg (ρ.t S)).run P w= .ok false w
 zS:∀w,(Go.sizeOf (ρ.t S)).run P w= .ok 1 w
 vS:∀w,(zeroValue (ρ.t S)).run P w= .ok (Value.slice none 0 0) w
theorem Lays.rows (L:Lays P ρ S E) (n:ku P (ρ.t E)=some ⟨t,x0⟩):∃z f,Rows P ρ S E t.size z f/\f.zero=some z/\f.bytes=P.bytesOf (ρ.t E)/\0<P.bytesOf (ρ.t E)/\(∀c:Cx,aJ c.w c.ok t x0 z.cells.toList)/\z.cells.size=t.size/\0<t.size:=by
 obtain ⟨i,z,l,g,b,o,d,h,a,j,k,e,m⟩:=oL n;have hd:∀c:Cx,aJ c.w c.ok t x0 z.cells.toList:=λc=>Ty.fU j (a c)
 refine ⟨z,i,⟨L.mixed,L.t0,L.a0,L.z0,L.v0,L.t3,L.a3,L.z3,L.v3,L.t4,L.a4,L.z4,L.v4,L.tS,L.aS,L.zS,L.vS,λw=> ?_,λw=>lq g b w,g,by omega,e,by omega,?_⟩,b,h,m,hd,by omega,e⟩
 ·simp [sizeOf,typeInfo,g,d,k]
 ·exact (hd ⟨default,λ_=>False,λ_=>0,λ_=>undef,λ_=> [],λ_=>none⟩).one
theorem V9 (L:Lays P ρ 62 160) (B:Bears P f (delB ρ)) (h:ku P (ρ.t 160)=some ⟨t,x0⟩) {C:Ctx} (k:C.Sound) (l:C.P=P):(C.addDel f (ρ.t 160) t).Sound:=by
 subst l;obtain ⟨z,s,R,_,_,_,hd,a,b⟩:=L.rows h;exact Ctx.Sound.addDel k ⟨λA n cap i w c d e=>akF R B A n cap i w c d e,λg off n cap i j cs w c d e m o p q r=>akE R B g off n cap i j cs w c d e m o p q r⟩ hd a b
theorem ajT:Lays Tryz.prog (Cw 62 160) 62 160:=⟨by kernel_rfl,by kernel_rfl,λw=>by kernel_rfl,λw=>by kernel_rfl,λw=>by kernel_rfl,by kernel_rfl,λw=>by kernel_rfl,λw=>by kernel_rfl,λw=>by kernel_rfl,by kernel_rfl,λw=>by kernel_rfl,λw=>by kernel_rfl,λw=>by kernel_rfl,by kernel_rfl,λw=>by kernel_rfl,λw=>by kernel_rfl,λw=>by kernel_rfl⟩
theorem ajS:Lays Tryz.prog (Cw 29 323) 62 160:=⟨by kernel_rfl,by kernel_rfl,λw=>by kernel_rfl,λw=>by kernel_rfl,λw=>by kernel_rfl,by kernel_rfl,λw=>by kernel_rfl,λw=>by kernel_rfl,λw=>by kernel_rfl,by kernel_rfl,λw=>by kernel_rfl,λw=>by kernel_rfl,λw=>by kernel_rfl,by kernel_rfl,λw=>by kernel_rfl,λw=>by kernel_rfl,λw=>by kernel_rfl⟩
end Go.Fw
namespace Go.Fw
open Go Go.Proofs Go.Shelf Go.RowKit Go.Lib Go.Sort
variable {P:Program} {ρ:Ren}
theorem Cq (w) (k m n e) (b o c f) (a) (d g) (cs)
 (p:P.underlying k=some (.slice e)) (q:(Go.sizeOf e).run P w= .ok K w) (r:cs.length=Nat.min d c*K)
 (h:∀j v,cs[j]?=some v->w.cell? (a.add j)=some v) (t:∀j,j<cs.length->(w.cell? ⟨b,o+j,none⟩).isSome=true) (u:∀j,j<cs.length->w.frozen? ⟨b,o+j,none⟩=false) (s:∀v ∈ cs,v.oneCell'=true):
 (Builtin.copy_ #[k,m] n #[.slice (some ⟨b,o,none⟩) c f,.slice (some a) d g]).run P w= .ok (goInt (Nat.min d c)) (w.setCells b o cs):=by
 have l:=run_loadCells_list (P:=P) w a cs h;rw [r] at l;have i:=run_storeCells_cells (P:=P) b o cs 0 w (by omega) (by omega) s;simp [Builtin.copy_,run_underlying p,Builtin.lenOf,Builtin.firstCells,q,l,i]
theorem wpList_copyK (w) (b:o.guard=none) (d s) (t j)
 (c:o.op= .call {callee:= .builtin .copy,args:= #[d,s],argTypes:= #[t,j]}) (v u) (hd:a.eval d=v) (e:a.eval s=u) 
 (f:(Builtin.copy_ #[t,j] o.type #[v,u]).run P w= .ok g w') (h:wpList P ops Q rest (a.put o.dst g) w'):wpList P ops Q (o::rest) a w:=
 wpList_plain b λ_ i=>by
  unfold Oper.wp execOp;simp only [c,resolve,invoke,builtin,Sem.run_bind,Sem.run_pure,Result.andThen_ok,List.map_toArray,eX,DC,hd,e,f];exact i _ _ h
theorem Uq 
 (hg:o.guard=none) (d x) (dT sT) (hop:o.op=Op.call {callee:=Callee.builtin Builtin.copy,args:= #[d,x],argTypes:= #[dT,sT]})
 (v u:Value) (hd:a.eval d=v) (hx:a.eval x=u) (hr:(Builtin.copy_ #[dT,sT] o.type #[v,u]).run P w= .ok v' w') (hK:K (a.put o.dst v') w'):
 if Region.wanted o (yielded ops a.tmps)=true then Oper.wp P o a w K Q else E:=by
 have hw:Region.wanted o (yielded ops a.tmps)=true:=by grind[Region.wanted]
 rw [aw hw];unfold Oper.wp;simp [execOp,hop,resolve,invoke,builtin,hd,hx,hr,Result.andThen];exact hK
structure InsL (P:Program) (ρ:Ren):Prop where
 ov:∃fn,P.funcs[ρ.f 258]?=some fn/\(fn.name== "runtime.NumGoroutine")=false/\fn.body.isNone=true/\Extern.findNext fn=none/\Extern.find fn=some (Extern.SlicesOverlaps.overlaps #[(ρ.t 39),(ρ.t 39)] #[(ρ.t 4)])
set_option maxHeartbeats 4000000 in
set_option maxRecDepth 100000 in
theorem aj5 {K:Nat} {z:Value} {i0:TypeInfo} {f:FuncId} (L:Rows P ρ 39 198 K z i0) (B:Bears P f (insB ρ)) (O:InsL P ρ) (b off n c i vb voff m vc:Nat) (cs vs:List Value) (w:World) (hi:i<n) (hm:0<m) (hroom:n+m<=c) (hc63:c<=9223372036854775807) (hvb:vb≠b)
 (hcl:cs.length=n*K) (hvl:vs.length=m*K)
 (hcs:∀j v,cs[j]?=some v->w.cell? ⟨b,off+j,none⟩=some v) (hsp:∀j,j<(n+m)*K->(w.cell? ⟨b,off+j,none⟩).isSome=true) (hfz:∀j,j<(n+m)*K->w.frozen? ⟨b,off+j,none⟩=false)
 (hvs:∀j v,vs[j]?=some v->w.cell? ⟨vb,voff+j,none⟩=some v) (h1c:∀v ∈ cs,v.oneCell'=true) (h1v:∀v ∈ vs,v.oneCell'=true)
 (tA tB:TypeId) (kA kB:Nat) (hsa:w.shape? vb=some (tA,kA)) (hsb:w.shape? b=some (tB,kB)) (hkB:kB≠0) (hfa:w.frozen? ⟨vb,voff,none⟩=false) (hfe:w.frozen? ⟨vb,kA,none⟩=false):
 Calls P f #[.slice (some ⟨b,off,none⟩) n c,.int .i64 i,.slice (some ⟨vb,voff,none⟩) m vc] w λe w'=>
  e= .returned (.slice (some ⟨b,off,none⟩) (n+m) c)/\w'=(w.drew.setCells b (off+ (i+m)*K) (cs.drop (i*K))).setCells b (off+i*K) vs:=by
 have mixed:=L.mixed;have t0:=L.t0;have a0:=L.a0;have z0:=L.z0;have v0:=L.v0;have t3:=L.t3;have a3:=L.a3;have z3:=L.z3;have v3:=L.v3;have t4:=L.t4;have a4:=L.a4;have z4:=L.z4;have v4:=L.v4;have t39:=L.tS;have a39:=L.aS;have z39:=L.zS;have v39:=L.vS;have z198:=L.zE
 have hK:=L.hK;have hz1:¬ ((m:Int)=0):=by omega
 have hz2:¬ ((i:Int)=(n:Int)):=by omega
 have hov:∀lb cb,(callFunc (ρ.f 258) #[.slice (some ⟨vb,voff,none⟩) m vc,.slice (some ⟨b,off+ (i+m)*K,none⟩) lb cb]).run P w= .ok (.value (.bool false)) w:=λlb cb=>by
  obtain ⟨fn,e1,e2,e3,e4,e5⟩:=O.ov
  rw [run_callFunc_extern e1 e2 e3 e4 e5,
   Lib.run_overlaps_apart w (ρ.t 39) (ρ.t 4) (ρ.t 198) t39 K z198 ⟨vb,voff,none⟩ ⟨b,off+ (i+m)*K,none⟩ m vc lb cb hvb tA tB kA kB hsa hsb hkB hfa hfe]
  rfl
 have hdl:(cs.drop (i*K)).length=(n - i)*K:=by grind[Nat.sub_mul]
 have hw1:IntKind.i64.wrap ((i:Int)+ (m:Int))=(i:Int)+ (m:Int):=by grind[IntKind.wrap_i64]
 have hb1:(0:Int)<= (i:Int)+ (m:Int):=by omega
 have hin:i<=n:=by omega
 have htn:((i:Int)+ (m:Int)).toNat=i+m:=by omega
 have hb2:¬ (c=i+m):=by omega
 have hb3:(i:Int)<= (n:Int)+ (m:Int):=by omega
 have hb4:¬ (c=i):=by omega
 have q1:(i+m)*K+ (n - i)*K=(n+m)*K:=by rw [<-fI];grind
 have q2:i*K+m*K<= (n+m)*K:=by grind
 have hcp1:∀ty dc sc,(Builtin.copy_ #[(ρ.t 39),(ρ.t 39)] ty #[.slice (some ⟨b,off+ (i+m)*K,none⟩) (n+m -(i+m)) dc,.slice (some ⟨b,off+i*K,none⟩) (n+m - i) sc]).run P w.drew= .ok (goInt ((n - i:Nat):Int)) (w.drew.setCells b (off+ (i+m)*K) (cs.drop (i*K))):=λty dc sc=>by
  have hmin:Nat.min (n+m - i) (n+m -(i+m))=n - i:=by grind
  have:=Cq (P:=P) (K:=K) w.drew (ρ.t 39) (ρ.t 39) ty (ρ.t 198) b (off+ (i+m)*K) (n+m -(i+m)) dc ⟨b,off+i*K,none⟩ (n+m - i) sc (cs.drop (i*K)) t39 (z198 _) (by grind)
   (λj v hj=>by rw [Addr.add_lit,mB];simp_all)
   (λj hj=>by rw [hdl] at hj;rw [mB];exact hsp _ (by omega)) (λj hj=>by rw [hdl] at hj;rw [mB];exact hfz _ (by omega)) (λv hv=>h1c v (iJ hv))
  grind
 obtain ⟨W1,hW1⟩:∃W1,W1=w.drew.setCells b (off+ (i+m)*K) (cs.drop (i*K)):=⟨_,rfl⟩
 have hsp1:∀k,k<(n+m)*K->(W1.cell? ⟨b,off+k,none⟩).isSome=true:=λk hk=>by
  rw [hW1];exact HO b _ _ _ (λj hj=>by rw [hdl] at hj;rw [mB];exact hsp _ (by omega)) _ (hsp k hk)
 have hcp2:∀ (W:World),(∀x,W.cell? x=W1.cell? x)->(∀x,W.frozen? x=W1.frozen? x)->∀ty dc,(Builtin.copy_ #[(ρ.t 39),(ρ.t 39)] ty #[.slice (some ⟨b,off+i*K,none⟩) (n+m - i) dc,.slice (some ⟨vb,voff,none⟩) m vc]).run P W= .ok (goInt m) (W.setCells b (off+i*K) vs):=λW hWc hWf ty dc=>by
  have hmin:Nat.min m (n+m - i)=m:=by grind
  have:=Cq (P:=P) (K:=K) W (ρ.t 39) (ρ.t 39) ty (ρ.t 198) b (off+i*K) (n+m - i) dc ⟨vb,voff,none⟩ m vc vs t39 (z198 _) (by grind)
   (λj v hj=>by
    rw [Addr.add_lit,hWc,hW1,World.cell?_setCells_out b _ _ _ _ (λh _=>absurd h hvb)]
    simp_all)
   (λj hj=>by rw [hvl] at hj;rw [hWc,mB];exact hsp1 _ (by omega)) (λj hj=>by rw [hvl] at hj;rw [hWf,hW1,World.frozen?_setCells,mB];exact hfz _ (by omega)) h1v
  grind
 rw [<-hW1] at hcp1;have hX:Hid (W1=w.drew.setCells b (off+ (i+m)*K) (cs.drop (i*K))):=hW1;obtain ⟨_,_,FG⟩:=B;clear hW1
 go_enter FG,insB_ntmps ρ
 go_wp2_with (simp only [hov])
 go_region_law_o (refine Uq rfl _ _ (ρ.t 39) (ρ.t 39) rfl _ _ (by simp [Act.eval,Act.put]) (by simp [Act.eval,Act.put]) (hcp1 _ _ _) ?_)
 go_wp2_with (at_builtin;refine wpList_copyK _ rfl _ _ (ρ.t 39) (ρ.t 39) rfl _ _ rfl rfl (hcp2 _ (λ_=>rfl) (λ_=>rfl) _ _) ?_)
 go_ret
 rw [<-hX.out]
 simp_all
end Go.Fw
namespace Go.Fw
open Go Go.Proofs Go.Shelf Go.RowKit Go.Lib Go.Sort
variable {P:Program} {ρ:Ren}
set_option maxHeartbeats 4000000 in
set_option maxRecDepth 100000 in
theorem aj9 {K:Nat} {z:Value} {i0:TypeInfo} {f:FuncId} (L:Rows P ρ 39 198 K z i0) (B:Bears P f (insB ρ)) (b off n c vb voff m vc:Nat) (vs:List Value) (w:World) (hm:0<m) (hroom:n+m<=c) (hc63:c<=9223372036854775807)
 (hvl:vs.length=m*K) (hsp:∀j,j<m*K->(w.cell? ⟨b,off+n*K+j,none⟩).isSome=true) (hfz:∀j,j<m*K->w.frozen? ⟨b,off+n*K+j,none⟩=false)
 (hvs:∀j v,vs[j]?=some v->w.cell? ⟨vb,voff+j,none⟩=some v) (h1v:∀v ∈ vs,v.oneCell'=true):
 Calls P f #[.slice (some ⟨b,off,none⟩) n c,.int .i64 n,.slice (some ⟨vb,voff,none⟩) m vc] w λe w'=>
  e= .returned (.slice (some ⟨b,off,none⟩) (n+m) c)/\w'=w.setCells b (off+n*K) vs:=by
 have mixed:=L.mixed;have t0:=L.t0;have a0:=L.a0;have z0:=L.z0;have v0:=L.v0;have t3:=L.t3;have a3:=L.a3;have z3:=L.z3;have v3:=L.v3;have t4:=L.t4;have a4:=L.a4;have z4:=L.z4;have v4:=L.v4;have t39:=L.tS;have a39:=L.aS;have z39:=L.zS;have v39:=L.vS;have z198:=L.zE
 have hz1:¬ ((m:Int)=0):=by omega
 have hrun:∀ty,(Builtin.append_ #[(ρ.t 39),(ρ.t 39)] ty #[.slice (some ⟨b,off,none⟩) n c,.slice (some ⟨vb,voff,none⟩) m vc]).run P w= .ok (.slice (some ⟨b,off,none⟩) (n+m) c) (w.setCells b (off+n*K) vs):=λty=>by
  have:=run_append_room_cells (P:=P) w (ρ.t 39) ty (ρ.t 198) i0 t39 L.iE b off n c ⟨vb,voff,none⟩ m vc vs (by rw [L.hi];omega) (λj u hj=>by grind[Addr.add_lit]) h1v hroom (by rw [L.hi,hvl];omega) (by rw [L.hi,hvl];omega);rw [L.hi] at this;omega
 obtain ⟨_,_,FG⟩:=B
 go_enter FG,insB_ntmps ρ
 go_wp2_with (at_builtin;refine Lib.wpList_append_run _ rfl _ _ _ _ rfl _ _ rfl rfl _ _ (hrun _) ?_)
 go_ret
 simp_all
set_option maxHeartbeats 4000000 in
set_option maxRecDepth 100000 in
theorem aka {K:Nat} {z:Value} {i0:TypeInfo} {f:FuncId} (L:Rows P ρ 39 198 K z i0) (hz0:i0.zero=some z) (B:Bears P f (insB ρ)) (base:Option Addr) (n c vb voff m vc:Nat) (cs vs:List Value) (w:World) (hm:0<m) (hnc:n<=c) (hroom:c<n+m) (hbig:(n+m)*i0.bytes<=140737488355328) (h63:n+m<=140737488355328)
 (hcl:cs.length=n*K) (hvl:vs.length=m*K) (hnil:base=none->n=0)
 (hcs:∀a,base=some a->∀j v,cs[j]?=some v->w.cell? (a.add j)=some v)
 (hvs:∀j v,vs[j]?=some v->w.cell? ⟨vb,voff+j,none⟩=some v) (h1v:∀v ∈ vs,v.oneCell'=true):
 Calls P f #[.slice base n c,.int .i64 n,.slice (some ⟨vb,voff,none⟩) m vc] w λe w'=>
  e= .returned (.slice (some ⟨w.heap.size,0,none⟩) (n+m) (grownCap w (n+m) c (ρ.t 198)))/\
  w'=w.drew.alloc (.cells ((cs++vs).toArray++Builtin.zeroCells z.cells (grownCap w (n+m) c (ρ.t 198) -(n+m))) (ρ.t 198)):=by
 have mixed:=L.mixed;have t0:=L.t0;have a0:=L.a0;have z0:=L.z0;have v0:=L.v0;have t3:=L.t3;have a3:=L.a3;have z3:=L.z3;have v3:=L.v3;have t4:=L.t4;have a4:=L.a4;have z4:=L.z4;have v4:=L.v4;have t39:=L.tS;have a39:=L.aS;have z39:=L.zS;have v39:=L.vS;have z198:=L.zE
 have hz1:¬ ((m:Int)=0):=by omega
 have hsrc:Src P i0.size (ρ.t 39) (.slice (some ⟨vb,voff,none⟩) m vc) m vs w:=Src.ofSlice w t39 ⟨vb,voff,none⟩ m vc vs (by rw [L.hi];omega) (λj u hj=>by grind[Addr.add_lit]) h1v
 have hold:(Builtin.firstCells i0.size n (.slice base n c)).run P w.drew= .ok cs.toArray w.drew:=by
  cases base with
  |none=>
   grind[List.length_eq_zero_iff,run_firstCells_none]
  |some a=>exact run_firstCells_some w.drew _ n a n c cs (by rw [L.hi];omega) (λj v hj=>hcs a rfl j v hj)
 have hrun:∀ty,(Builtin.append_ #[(ρ.t 39),(ρ.t 39)] ty #[.slice base n c,.slice (some ⟨vb,voff,none⟩) m vc]).run P w=_:=λty=>
  run_append_grow_src w (ρ.t 39) (ρ.t 39) ty (ρ.t 198) i0 _ t39 L.iE hz0 base n c cs hold _ m vs hsrc hroom (by omega) (growslice_fits hroom hbig)
 generalize Builtin.zeroCells z.cells (grownCap w (n+m) c (ρ.t 198) -(n+m))=Z at hrun ⊢;obtain ⟨_,_,FG⟩:=B
 go_enter FG,insB_ntmps ρ
 cases base with
 |none=>
  have h0:=hnil rfl;subst h0
  go_wp2_with (at_builtin;refine Lib.wpList_append_run _ rfl _ _ _ _ rfl _ _ rfl rfl _ _ (hrun _) ?_)
  all_goals (go_ret;simp_all)
 |some a=>
  obtain ⟨ab,ao,asp⟩:=a
  go_wp2_with (at_builtin;refine Lib.wpList_append_run _ rfl _ _ _ _ rfl _ _ rfl rfl _ _ (hrun _) ?_)
  all_goals (go_ret;simp_all)
end Go.Fw
namespace Go.Fw
open Go Go.Proofs Go.Shelf Go.RowKit Go.Lib Go.Sort
variable {P:Program} {ρ:Ren}
theorem UX {w:World} (h:w.cell? ⟨b,o,none⟩=some v):b<w.heap.size:=by
 grind[World.cell?]
set_option maxHeartbeats 4000000 in
set_option maxRecDepth 100000 in
theorem aj8 {K:Nat} {z:Value} {i0:TypeInfo} {f:FuncId} (L:Rows P ρ 39 198 K z i0) (hz0:i0.zero=some z) (B:Bears P f (insB ρ)) (b off n c i vb voff m vc:Nat) (cs vs:List Value) (w:World) (hi:i<n) (hm:0<m) (hnc:n<=c) (hroom:c<n+m) (hbig:(n+m)*i0.bytes<=140737488355328) (h63:n+m<=140737488355328)
 (hcl:cs.length=n*K) (hvl:vs.length=m*K)
 (hcs:∀j v,cs[j]?=some v->w.cell? ⟨b,off+j,none⟩=some v)
 (hvs:∀j v,vs[j]?=some v->w.cell? ⟨vb,voff+j,none⟩=some v) (h1c:∀v ∈ cs,v.oneCell'=true) (h1v:∀v ∈ vs,v.oneCell'=true):
 Calls P f #[.slice (some ⟨b,off,none⟩) n c,.int .i64 i,.slice (some ⟨vb,voff,none⟩) m vc] w λe w'=>
  e= .returned (.slice (some ⟨w.heap.size,0,none⟩) (n+m) (grownCap w (n+m) c (ρ.t 198)))/\
  w'=(((w.alloc (.cells ((cs.take (i*K)).toArray++Builtin.zeroCells z.cells (n+m - i)++Builtin.zeroCells z.cells (grownCap w (n+m) c (ρ.t 198) -(n+m))) (ρ.t 198))).drew.setCells w.heap.size (i*K) vs).drew).setCells w.heap.size ((i+m)*K) (cs.drop (i*K)):=by
 have mixed:=L.mixed;have t0:=L.t0;have a0:=L.a0;have z0:=L.z0;have v0:=L.v0;have t3:=L.t3;have a3:=L.a3;have z3:=L.z3;have v3:=L.v3;have t4:=L.t4;have a4:=L.a4;have z4:=L.z4;have v4:=L.v4;have t39:=L.tS;have a39:=L.aS;have z39:=L.zS;have v39:=L.vS;have z198:=L.zE
 have hK:=L.hK;have hz1:¬ ((m:Int)=0):=by omega
 have hz2:¬ ((i:Int)=(n:Int)):=by omega
 have hz3:(c:Int) <(n:Int)+ (m:Int):=by omega
 have hnK:0<n*K:=yH (by omega) hK;have hmK:0<m*K:=yH hm hK;have hbw:b<w.heap.size:=UX (hcs 0 _ (cK (by omega)));have hvw:vb<w.heap.size:=UX (hvs 0 _ (cK (by omega)));have hkk:(n:Int)+ (m:Int) -(i:Int)=((n+m - i:Nat):Int):=by omega
 have hik:i+ (n+m - i)=n+m:=by omega
 have hiK:i*K<=n*K:=fH _ (by omega)
 have hold:(Builtin.firstCells i0.size i (.slice (some ⟨b,off,none⟩) i c)).run P w.drew= .ok (cs.take (i*K)).toArray w.drew:=by
  exact run_firstCells_some w.drew _ i ⟨b,off,none⟩ i c (cs.take (i*K)) (by rw [dZ,L.hi];omega) (λj v hj=>by
   rw [Addr.add_lit];rw [sI] at hj
   simp_all)
 have hrz:∀ty,(Builtin.append_ #[(ρ.t 39),(ρ.t 3)] ty #[.slice (some ⟨b,off,none⟩) i c,.int .i64 ((n:Int)+ (m:Int) -(i:Int))]).run P w=
  .ok (.slice (some ⟨w.heap.size,0,none⟩) (n+m) (grownCap w (n+m) c (ρ.t 198))) (w.drew.alloc (.cells ((cs.take (i*K)).toArray++Builtin.zeroCells z.cells (n+m - i)++Builtin.zeroCells z.cells (grownCap w (n+m) c (ρ.t 198) -(n+m))) (ρ.t 198))):=λty=>by
  have hle:(n+m - i)*i0.bytes<= (n+m)*i0.bytes:=fH _ (by omega);have h:=Lib.run_append_grow_zeros w (ρ.t 39) (ρ.t 3) ty (ρ.t 198) i0 _ .i64 .i64 t39 t3 L.iE hz0 (some ⟨b,off,none⟩) i c (cs.take (i*K)) hold (n+m - i) (by omega) (by rw [L.hi];exact hK) (by omega) (by omega) (by omega) (by rw [hik];exact growslice_fits hroom hbig)
  grind
 obtain ⟨G,hG⟩:∃G,G=grownCap w (n+m) c (ρ.t 198):=⟨_,rfl⟩;obtain ⟨ROW,hROW⟩:∃ROW:Array Value,ROW=(cs.take (i*K)).toArray++Builtin.zeroCells z.cells (n+m - i)++Builtin.zeroCells z.cells (G -(n+m)):=⟨_,rfl⟩;rw [<-hG] at hrz ⊢;rw [<-hROW] at hrz ⊢;have q0:i*K+ (n+m - i)*K=(n+m)*K:=by grind
 have q1:(i+m)*K+ (n - i)*K=(n+m)*K:=by rw [<-fI];grind
 have q2:i*K+m*K<= (n+m)*K:=by grind
 have hRl:(n+m)*K<=ROW.size:=by
  rw [hROW];simp only [Array.size_append,nF,dZ,Builtin.zeroCells,Array.size_map,Array.size_range,L.hz];omega
 obtain ⟨W1,hW1⟩:∃W1,W1=w.drew.alloc (.cells ROW (ρ.t 198)):=⟨_,rfl⟩;rw [<-hW1] at hrz
 have hN:∀j,j<(n+m)*K->(W1.cell? ⟨w.heap.size,j,none⟩).isSome=true:=λj hj=>by
  rw [hW1,World.cell?_alloc_at (w:=w.drew) ROW _ w.heap.size j rfl,sO (by omega)];rfl
 have hNf:∀j,W1.frozen? ⟨w.heap.size,j,none⟩=false:=λj=>by rw [hW1];exact World.frozen?_alloc_at (w:=w.drew) ROW _ w.heap.size j rfl
 have hOb:∀j v,w.cell? ⟨b,j,none⟩=some v->W1.cell? ⟨b,j,none⟩=some v:=λj v h=>by rw [hW1,World.cell?_alloc_past (w:=w.drew) _ b j hbw];exact h
 have hOv:∀j v,w.cell? ⟨vb,j,none⟩=some v->W1.cell? ⟨vb,j,none⟩=some v:=λj v h=>by rw [hW1,World.cell?_alloc_past (w:=w.drew) _ vb j hvw];exact h
 have hcpA:∀ (W:World),(∀x,W.cell? x=W1.cell? x)->(∀x,W.frozen? x=W1.frozen? x)->∀ty dc,(Builtin.copy_ #[(ρ.t 39),(ρ.t 39)] ty #[.slice (some ⟨w.heap.size,i*K,none⟩) (n+m - i) dc,.slice (some ⟨vb,voff,none⟩) m vc]).run P W= .ok (goInt ((m:Nat):Int)) (W.setCells w.heap.size (i*K) vs):=λW hWc hWf ty dc=>by
  have hmin:Nat.min m (n+m - i)=m:=by grind
  have:=Cq (P:=P) (K:=K) W (ρ.t 39) (ρ.t 39) ty (ρ.t 198) w.heap.size (i*K) (n+m - i) dc ⟨vb,voff,none⟩ m vc vs t39 (z198 _) (by grind)
   (λj v hj=>by grind[Addr.add_lit])
   (λj hj=>by grind) (λj hj=>by grind) h1v
  grind
 have hGn:n+m<=G:=by grind[grownCap_ge]
 have hG63:G<=9223372036854775807:=by
  grind[grownCap_le_maxLen,maxLen]
 have hGi:¬ (G=i):=by omega
 have hGim:¬ (G=i+m):=by omega
 have hci:¬ (c=i):=by omega
 have hbN:b≠w.heap.size:=by omega
 have hdl:(cs.drop (i*K)).length=(n - i)*K:=by grind
 have hcpB:∀ (W:World),(∀x,W.cell? x=(W1.setCells w.heap.size (i*K) vs).cell? x)->(∀x,W.frozen? x=(W1.setCells w.heap.size (i*K) vs).frozen? x)->∀ty dc sc,(Builtin.copy_ #[(ρ.t 39),(ρ.t 39)] ty #[.slice (some ⟨w.heap.size,(i+m)*K,none⟩) (n+m -(i+m)) dc,.slice (some ⟨b,off+i*K,none⟩) (n - i) sc]).run P W= .ok (goInt ((n - i:Nat):Int)) (W.setCells w.heap.size ((i+m)*K) (cs.drop (i*K))):=λW hWc hWf ty dc sc=>by
  have hmin:Nat.min (n - i) (n+m -(i+m))=n - i:=by grind
  have:=Cq (P:=P) (K:=K) W (ρ.t 39) (ρ.t 39) ty (ρ.t 198) w.heap.size ((i+m)*K) (n+m -(i+m)) dc ⟨b,off+i*K,none⟩ (n - i) sc (cs.drop (i*K)) t39 (z198 _) (by grind)
   (λj v hj=>by
    grind[Addr.add_lit,World.cell?_setCells_out])
   (λj hj=>by grind[HO])
   (λj hj=>by grind[World.frozen?_setCells]) (λv hv=>h1c v (iJ hv))
  grind
 subst hW1;have hE1:∀x,((w.alloc (.cells ROW (ρ.t 198))).drew).cell? x=(w.drew.alloc (.cells ROW (ρ.t 198))).cell? x:=λx=>rfl
 have hE2:∀x,((w.alloc (.cells ROW (ρ.t 198))).drew).frozen? x=(w.drew.alloc (.cells ROW (ρ.t 198))).frozen? x:=λx=>rfl
 have hF1:∀x,(((w.alloc (.cells ROW (ρ.t 198))).drew.setCells w.heap.size (i*K) vs).drew).cell? x=((w.drew.alloc (.cells ROW (ρ.t 198))).setCells w.heap.size (i*K) vs).cell? x:=λx=>rfl
 have hF2:∀x,(((w.alloc (.cells ROW (ρ.t 198))).drew.setCells w.heap.size (i*K) vs).drew).frozen? x=((w.drew.alloc (.cells ROW (ρ.t 198))).setCells w.heap.size (i*K) vs).frozen? x:=λx=>rfl
 have hw1:IntKind.i64.wrap ((i:Int)+ (m:Int))=(i:Int)+ (m:Int):=by grind[IntKind.wrap_i64]
 have hb1:(0:Int)<= (i:Int)+ (m:Int):=by omega
 have hin:i<=n:=by omega
 have htn:((i:Int)+ (m:Int)).toNat=i+m:=by omega
 have hb3:(i:Int)<= (n:Int):=by omega
 obtain ⟨_,_,FG⟩:=B;clear hkk hik hold hROW hG hRl
 go_enter FG,insB_ntmps ρ
 go_wp2_with (first
  | (at_builtin;refine Lib.wpList_append_run _ rfl _ _ _ _ rfl _ _ rfl rfl _ _ (hrz _) ?_)
  | (at_builtin;refine wpList_copyK _ rfl _ _ (ρ.t 39) (ρ.t 39) rfl _ _ rfl rfl (hcpA _ hE1 hE2 _ _) ?_)
  | (at_builtin;refine wpList_copyK _ rfl _ _ (ρ.t 39) (ρ.t 39) rfl _ _ rfl rfl (hcpB _ (λ_=>rfl) (λ_=>rfl) _ _ _) ?_))
 go_region_law_o (refine Uq rfl _ _ (ρ.t 39) (ρ.t 39) rfl (.slice (some ⟨w.heap.size,(i+m)*K,none⟩) (n+m -(i+m)) (G -(i+m))) (.slice (some ⟨b,off+i*K,none⟩) (n - i) (c - i)) (by simp [Act.eval,Act.put]) (by simp [Act.eval,Act.put]) (hcpB _ hF1 hF2 (ρ.t 3) (G -(i+m)) (c - i)) ?_)
 go_wp2
 go_ret
 simp_all
end Go.Fw
namespace Go.Fw
open Go Go.Proofs Go.Shelf Go.RowKit Go.Lib Go.Sort
variable {P:Program} {ρ:Ren}
theorem aj6 (L:Rows P ρ 39 198 K z C) (a:C.zero=some z) (R:C.bytes=P.bytesOf (ρ.t 198)) (s:0<P.bytesOf (ρ.t 198)) (B:Bears P f (insB ρ)) (O:InsL P ρ):InsPays P f (ρ.t 198) K z:=by
 have d:∀n,(n+1)*P.bytesOf (ρ.t 198)<=az->(n+1)*C.bytes<=140737488355328/\n+1<=140737488355328:=by
  intro n h;have I:az=140737488355328:=rfl;rw [I] at h;have:=yI (n+1) s
  grind
 have S:∀ (w:World) (n c:Nat),n+1<=140737488355328->n+1<=grownCap w (n+1) c (ρ.t 198)/\grownCap w (n+1) c (ρ.t 198)<=9223372036854775807:=by
  grind[grownCap_ge,grownCap_le_maxLen,maxLen]
 refine ⟨?_,?_,?_,?_⟩
 ·rintro b n c i e g cs vs w j k l m q u v H r o x y p ⟨J,M,A⟩ ⟨N,Q,D,E⟩;have:=aj5 L B O b 0 n c i e 0 1 g cs vs w j (by omega) k l m q (by omega) (by grind) (by grind) (by grind) (by grind) x y J N M Q A D E (p _) (p _)
  grind
 ·grind[aj9]
 ·intro base n c e g cs vs w j k l m q u v H r;obtain ⟨F,G⟩:=d n l;have:=aka L a B base n c e 0 1 g cs vs w (by omega) j k F G m (by omega) u v (by grind) r;refine this.mono ?_
  grind
 ·intro b n c i e g cs vs w j k l m q u v H r o;obtain ⟨F,G⟩:=d n m;have:=aj8 L a B b 0 n c i e 0 1 g cs vs w j (by omega) k l F G q (by omega) (by grind) (by grind) r o;refine this.mono ?_
  grind
theorem rZ (L:Lays P ρ 39 198) (O:InsL P ρ) (B:Bears P f (insB ρ)) (e:ku P (ρ.t 198)=some ⟨t,x0⟩) {C:Ctx} (g:C.Sound) (h:C.P=P):(C.addIns f (ρ.t 198) t).Sound:=by
 subst h;obtain ⟨z,j,R,a,i,b,hd,c,d⟩:=L.rows e;exact Ctx.Sound.addIns g (aj6 R a i b B O) c d
end Go.Fw
namespace Go.Fw
open Go Go.Proofs Go.Shelf
theorem ajP:Lays Tryz.prog (gj 62 160 388 389) 39 198:=⟨by kernel_rfl,by kernel_rfl,λw=>by kernel_rfl,λw=>by kernel_rfl,λw=>by kernel_rfl,by kernel_rfl,λw=>by kernel_rfl,λw=>by kernel_rfl,λw=>by kernel_rfl,by kernel_rfl,λw=>by kernel_rfl,λw=>by kernel_rfl,λw=>by kernel_rfl,by kernel_rfl,λw=>by kernel_rfl,λw=>by kernel_rfl,λw=>by kernel_rfl⟩
theorem ajw:InsL Tryz.prog (gj 62 160 388 389):=⟨⟨Tryz.f388,Tryz.func388,by kernel_rfl,by kernel_rfl,by kernel_rfl,by kernel_rfl⟩⟩
theorem ajR:Lays Tryz.prog (gj 29 323 377 378) 39 198:=⟨by kernel_rfl,by kernel_rfl,λw=>by kernel_rfl,λw=>by kernel_rfl,λw=>by kernel_rfl,by kernel_rfl,λw=>by kernel_rfl,λw=>by kernel_rfl,λw=>by kernel_rfl,by kernel_rfl,λw=>by kernel_rfl,λw=>by kernel_rfl,λw=>by kernel_rfl,by kernel_rfl,λw=>by kernel_rfl,λw=>by kernel_rfl,λw=>by kernel_rfl⟩
theorem ajy:InsL Tryz.prog (gj 29 323 377 378):=⟨⟨Tryz.f377,Tryz.func377,by kernel_rfl,by kernel_rfl,by kernel_rfl,by kernel_rfl⟩⟩
theorem ajQ:Lays Tryz.prog (gj 28 345 380 381) 39 198:=⟨by kernel_rfl,by kernel_rfl,λw=>by kernel_rfl,λw=>by kernel_rfl,λw=>by kernel_rfl,by kernel_rfl,λw=>by kernel_rfl,λw=>by kernel_rfl,λw=>by kernel_rfl,by kernel_rfl,λw=>by kernel_rfl,λw=>by kernel_rfl,λw=>by kernel_rfl,by kernel_rfl,λw=>by kernel_rfl,λw=>by kernel_rfl,λw=>by kernel_rfl⟩
theorem ajx:InsL Tryz.prog (gj 28 345 380 381):=⟨⟨Tryz.f380,Tryz.func380,by kernel_rfl,by kernel_rfl,by kernel_rfl,by kernel_rfl⟩⟩
theorem ajV:Lays Tryz.prog (gj 41 291 334 335) 39 198:=⟨by kernel_rfl,by kernel_rfl,λw=>by kernel_rfl,λw=>by kernel_rfl,λw=>by kernel_rfl,by kernel_rfl,λw=>by kernel_rfl,λw=>by kernel_rfl,λw=>by kernel_rfl,by kernel_rfl,λw=>by kernel_rfl,λw=>by kernel_rfl,λw=>by kernel_rfl,by kernel_rfl,λw=>by kernel_rfl,λw=>by kernel_rfl,λw=>by kernel_rfl⟩
theorem ajA:InsL Tryz.prog (gj 41 291 334 335):=⟨⟨Tryz.f334,Tryz.func334,by kernel_rfl,by kernel_rfl,by kernel_rfl,by kernel_rfl⟩⟩
theorem ajU:Lays Tryz.prog (gj 40 169 349 350) 39 198:=⟨by kernel_rfl,by kernel_rfl,λw=>by kernel_rfl,λw=>by kernel_rfl,λw=>by kernel_rfl,by kernel_rfl,λw=>by kernel_rfl,λw=>by kernel_rfl,λw=>by kernel_rfl,by kernel_rfl,λw=>by kernel_rfl,λw=>by kernel_rfl,λw=>by kernel_rfl,by kernel_rfl,λw=>by kernel_rfl,λw=>by kernel_rfl,λw=>by kernel_rfl⟩
theorem ajz:InsL Tryz.prog (gj 40 169 349 350):=⟨⟨Tryz.f349,Tryz.func349,by kernel_rfl,by kernel_rfl,by kernel_rfl,by kernel_rfl⟩⟩
theorem ajW:Lays Tryz.prog (gj 26 64 325 326) 39 198:=⟨by kernel_rfl,by kernel_rfl,λw=>by kernel_rfl,λw=>by kernel_rfl,λw=>by kernel_rfl,by kernel_rfl,λw=>by kernel_rfl,λw=>by kernel_rfl,λw=>by kernel_rfl,by kernel_rfl,λw=>by kernel_rfl,λw=>by kernel_rfl,λw=>by kernel_rfl,by kernel_rfl,λw=>by kernel_rfl,λw=>by kernel_rfl,λw=>by kernel_rfl⟩
theorem ajB:InsL Tryz.prog (gj 26 64 325 326):=⟨⟨Tryz.f325,Tryz.func325,by kernel_rfl,by kernel_rfl,by kernel_rfl,by kernel_rfl⟩⟩
theorem ajX:Lays Tryz.prog (gj 39 198 258 259) 39 198:=⟨by kernel_rfl,by kernel_rfl,λw=>by kernel_rfl,λw=>by kernel_rfl,λw=>by kernel_rfl,by kernel_rfl,λw=>by kernel_rfl,λw=>by kernel_rfl,λw=>by kernel_rfl,by kernel_rfl,λw=>by kernel_rfl,λw=>by kernel_rfl,λw=>by kernel_rfl,by kernel_rfl,λw=>by kernel_rfl,λw=>by kernel_rfl,λw=>by kernel_rfl⟩
theorem ajC:InsL Tryz.prog (gj 39 198 258 259):=⟨⟨Tryz.f258,Tryz.func258,by kernel_rfl,by kernel_rfl,by kernel_rfl,by kernel_rfl⟩⟩
end Go.Fw
