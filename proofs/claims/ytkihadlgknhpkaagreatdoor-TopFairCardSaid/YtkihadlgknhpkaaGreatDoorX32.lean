/- Part 32: lemmas that the last text needs. -/
import Derived.Test.YtkihadlgknhpkaaGreatDoorX31
set_option linter.all false
set_option autoImplicit true
set_option relaxedAutoImplicit true
namespace Go.Proofs.YtkihadlgknhpkaaGreatDoor.T
set_option maxRecDepth 100000
open Go Go.Fw Go.Proofs
noncomputable section
def Qg:=Ctx.addI GB 321 (hd []) 9000321 Tryz.f321
theorem ZK:Qg.Sound:=Ctx.Sound.addI (C:=GB) mixed Zk Tryz.func321
def AR (b:D2×Int×Unit):Option ((Int×Int×Int×Int×Int× (List (Int×Int))×Bool)×Int×Int):=
 let c:=b.1.2.2.2.2.2.1;(pF b.1).bind λf=>
 bif (!decide (f=0)) then (
 some ((0,0,0,0,0,[],false),0,f))
 else (
 (tN (c,b.2.1,())).bind λa=>let d:=IntKind.wrap .i64 (a.1+1);
 bif (!a.2) then (
 some ((0,0,0,0,0,[],false),0,5))
 else (
 bif ae a.1 c.length then
 (lj c).bind λe=>
 bif (decide (0<=a.1) && decide (a.1<=d) && ae d (e.length+1)) then
 some ((b.1.1,(IntKind.wrap .u64 (b.1.2.1+ (rd Y0 c a.1).2)),b.1.2.2.1,b.1.2.2.2.1,b.1.2.2.2.2.1,(e.take a.1.toNat++e.drop (d.toNat)),b.1.2.2.2.2.2.2),(rd Y0 c a.1).2,0)
 else none
 else none))
def Qi:=Ctx.add Qg 320 [.agg Y8,.one (.int .u64),.fn 321] (.tup [.agg [.int .u64,.int .u64,.int .u64,.int .u64,.int .u64,.fresh 160 Y0,.bool],.leaf (.int .u64),.leaf (.int .i64)]) AR
theorem ZM:Qi.Sound:=.add (H:=hd []) mixed ZK Tryz.func320 λb=>by kernel_rfl
def A4 (b:D2×Int):Option ((Int×Int×Int×Int×Int× (List (Int×Int))×Bool)×Int×Int):=
 (AR (b.1,b.2,())).bind λa=>
 some a
def GY:=Ctx.add Qi 269 [.agg Y8,.one (.int .u64)] (.tup [.agg [.int .u64,.int .u64,.int .u64,.int .u64,.int .u64,.fresh 160 Y0,.bool],.leaf (.int .u64),.leaf (.int .i64)]) A4
theorem aaw:GY.Sound:=.add (H:=hd [(1000000,[],[2])]) mixed ZM Tryz.func269 λb=>by kernel_rfl
def Qf:=Ctx.addI GY 322 (hd []) 9000322 Tryz.f322
theorem ZJ:Qf.Sound:=Ctx.Sound.addI (C:=GY) mixed aaw Tryz.func322
def AQ (b:D2×Int×Unit):Option ((Int×Int×Int×Int×Int× (List (Int×Int))×Bool)×Int×Int):=
 let c:=b.1.2.2.2.2.2.1;(pF b.1).bind λf=>
 bif (!decide (f=0)) then (
 some ((0,0,0,0,0,[],false),0,f))
 else (
 (tN (c,b.2.1,())).bind λa=>let d:=IntKind.wrap .i64 (a.1+1);
 bif (!a.2) then (
 some ((0,0,0,0,0,[],false),0,5))
 else (
 bif ae a.1 c.length then
 (lj c).bind λe=>
 bif (decide (0<=a.1) && decide (a.1<=d) && ae d (e.length+1)) then
 some ((b.1.1,b.1.2.1,(IntKind.wrap .u64 (b.1.2.2.1+ (rd Y0 c a.1).2)),b.1.2.2.2.1,b.1.2.2.2.2.1,(e.take a.1.toNat++e.drop (d.toNat)),b.1.2.2.2.2.2.2),(rd Y0 c a.1).2,0)
 else none
 else none))
def Qh:=Ctx.add Qf 320 [.agg Y8,.one (.int .u64),.fn 322] (.tup [.agg [.int .u64,.int .u64,.int .u64,.int .u64,.int .u64,.fresh 160 Y0,.bool],.leaf (.int .u64),.leaf (.int .i64)]) AQ
theorem ZL:Qh.Sound:=.add (H:=hd []) mixed ZJ Tryz.func320 λb=>by kernel_rfl
def A3 (b:D2×Int):Option ((Int×Int×Int×Int×Int× (List (Int×Int))×Bool)×Int×Int):=
 (AQ (b.1,b.2,())).bind λa=>
 some a
def QW:=Ctx.add Qh 270 [.agg Y8,.one (.int .u64)] (.tup [.agg [.int .u64,.int .u64,.int .u64,.int .u64,.int .u64,.fresh 160 Y0,.bool],.leaf (.int .u64),.leaf (.int .i64)]) A3
theorem aav:QW.Sound:=.add (H:=hd [(1000000,[],[2])]) mixed ZL Tryz.func270 λb=>by kernel_rfl
def xa (b:List D2×Int×Unit):Option (Int×Bool):=
 aD (λ(c:(Int×Int)->Option (Int×Bool)) (a:Int×Int)=>let d:=IntKind.wrap .i64 ((IntKind.wrap .u64 (IntKind.wrap .i64 (a.1+a.2))) / 2^ (min (1:Int).toNat 64));
  bif decide (a.1<a.2) then (
  bif ae d b.1.length then
  (rk ((rd Y8 b.1 d),b.2.1)).bind λe=>
  bif decide (e<0) then (
  c ((IntKind.wrap .i64 (d+1)),a.2))
  else (
  c (a.1,d))
  else none)
  else (
  bif (decide (a.1<(b.1.length:Int))==true) then (
  bif ae a.1 b.1.length then
  (rk ((rd Y8 b.1 a.1),b.2.1)).bind λf=>
  some (a.1,decide (f=0))
  else none)
  else (
  some (a.1,false)))) (0,(b.1.length:Int))
def QQ:=Ctx.add QW 279 [.one (.slice 64 Y8),.one (.int .u64),.fn 280] (.tup [.leaf (.int .i64),.leaf (.bool)]) xa
theorem aam:QQ.Sound:=.add (H:=hd [(3,[.data 9 (.int .i64),.data 10 (.int .i64)],[])]) mixed aav Tryz.func279 λb=>by kernel_rfl
def rh (b:List D2×Int):Option (Int×Int):=
 (ow b.1).bind λa=>
 bif (!decide (a=0)) then (
 some (0,a))
 else (
 (xa (b.1,b.2,())).bind λc=>
 bif (!c.2) then (
 some (0,5))
 else (
 some (c.1,0)))
def Qk:=Ctx.add QQ 319 [.one (.slice 64 Y8),.one (.int .u64)] (.tup [.leaf (.int .i64),.leaf (.int .i64)]) rh
theorem ZO:Qk.Sound:=.add (H:=hd []) mixed aam Tryz.func319 λb=>by kernel_rfl
def tZ (b:D2):Option (Int×Int×Int×Int×Int× (List (Int×Int))×Bool):=
 (lj b.2.2.2.2.2.1).bind λa=>
 some (b.1,b.2.1,b.2.2.1,b.2.2.2.1,b.2.2.2.2.1,a,b.2.2.2.2.2.2)
def QL:=Ctx.add Qk 283 [.agg Y8] (.one (.agg [.int .u64,.int .u64,.int .u64,.int .u64,.int .u64,.fresh 160 Y0,.bool])) tZ
theorem aai:QL.Sound:=.add (H:=hd []) mixed ZO Tryz.func283 λb=>by kernel_rfl
def l9 (b:List D2):Option (List D2):=
 (ry b).bind λd=>
 aD (λ(c:(Int×List D2)->Option (List D2)) (a:Int×List D2)=>
  bif decide (a.1<(d.length:Int)) then (
  bif ae a.1 a.2.length then
  (tZ (rd Y8 a.2 a.1)).bind λe=>
  bif ae a.1 a.2.length then
  c ((IntKind.wrap .i64 (a.1+1)),(a.2.set a.1.toNat e))
  else none
  else none)
  else (
  some a.2)) (0,d)
def GS:=Ctx.add QL 282 [.one (.slice 64 Y8)] (.one (.leaf (.fresh 64 Y8))) l9
theorem aaj:GS.Sound:=.add (H:=hd [(3,[.data 9 (.int .i64),.rowk 24576 64 Y8],[]),(1000004,[],[4])]) mixed aai Tryz.func282 λb=>by kernel_rfl
def QY:=Ctx.addI GS 268 (hd [(1000000,[],[4])]) 9000268 Tryz.f268
theorem aax:QY.Sound:=Ctx.Sound.addI (C:=GS) mixed aaj Tryz.func268
def wR (b:Int×Int):Option (Int×Int):=
 (fu ([b.1,b.2])).bind λa=>
 bif (!decide (a=0)) then (
 some (0,1))
 else (
 bif decide (0<(Cl b.1 b.2)) then (
 some (0,9))
 else (
 some ((Ck b.1 b.2),0)))
def Qd:=Ctx.add QY 324 [.one (.int .u64),.one (.int .u64)] (.tup [.leaf (.int .u64),.leaf (.int .i64)]) wR
theorem ZH:Qd.Sound:=.add (H:=hd []) mixed aax Tryz.func324 λb=>by kernel_rfl
def AZ (b:D2×Int):Option ((Int×Int×Int×Int×Int× (List (Int×Int))×Bool)×Int):=
 (pF b.1).bind λc=>
 bif ((!decide (c=0))==false) then (
 (fu ([b.2])).bind λd=>
 bif (!decide (d=0)) then (
 some ((0,0,0,0,0,[],false),1))
 else (
 (wR (b.1.2.2.1,b.2)).bind λa=>
 bif (!b.1.2.2.2.2.2.2) then (
 some ((0,0,0,0,0,[],false),14))
 else (
 bif (!decide (a.2=0)) then (
 some ((0,0,0,0,0,[],false),a.2))
 else (
 (lj b.1.2.2.2.2.2.1).bind λe=>
 some ((b.1.1,(IntKind.wrap .u64 (b.1.2.1+b.2)),a.1,b.1.2.2.2.1,b.1.2.2.2.2.1,e,b.1.2.2.2.2.2.2),0)))))
 else (
 some ((0,0,0,0,0,[],false),1))
def GU:=Ctx.add Qd 277 [.agg Y8,.one (.int .u64)] (.tup [.agg [.int .u64,.int .u64,.int .u64,.int .u64,.int .u64,.fresh 160 Y0,.bool],.leaf (.int .i64)]) AZ
theorem aao:GU.Sound:=.add (H:=hd []) mixed ZH Tryz.func277 λb=>by kernel_rfl
def QT:=Ctx.addI GU 276 (hd [(1000000,[],[2])]) 9000276 Tryz.f276
theorem aap:QT.Sound:=Ctx.Sound.addI (C:=GU) mixed aao Tryz.func276
def AW (b:D2):Option ((Int×Int×Int×Int×Int× (List (Int×Int))×Bool)×Int):=
 (pF b).bind λa=>
 bif (!decide (a=0)) then (
 some ((0,0,0,0,0,[],false),1))
 else (
 bif (!b.2.2.2.2.2.2) then (
 some ((0,0,0,0,0,[],false),14))
 else (
 bif decide (0<(b.2.2.2.2.2.1.length:Int)) then (
 some ((0,0,0,0,0,[],false),10))
 else (
 some ((b.1,b.2.1,b.2.2.1,b.2.2.2.1,b.2.2.2.2.1,[],false),0))))
def QK:=Ctx.add QT 284 [.agg Y8] (.tup [.agg [.int .u64,.int .u64,.int .u64,.int .u64,.int .u64,.fresh 160 Y0,.bool],.leaf (.int .i64)]) AW
theorem aah:QK.Sound:=.add (H:=hd []) mixed aap Tryz.func284 λb=>by kernel_rfl
def PM:Ctx:=Ctx.addIns QK 379 160 Y0
theorem YP:PM.Sound:=rZ ajP ajw akW (t:=Y0) (x0:=Ty.dflt Y0) (by kernel_rfl) aah rfl
def AE (b:D2×Int×Int):Option ((Int×Int×Int×Int×Int× (List (Int×Int))×Bool)×Int):=
 let a:=b.1.2.2.2.1;let c:=b.1.2.2.2.2.2.1;(pG b.1).bind λf=>
 (tN (c,b.2.1,())).bind λd=>
 bif ((bif (!decide (f.2.2=0)) then true else decide (b.2.2=0))==false) then (
 (fu ([b.2.2])).bind λg=>
 bif (!decide (g=0)) then (
 some ((0,0,0,0,0,[],false),1))
 else (
 bif (!b.1.2.2.2.2.2.2) then (
 some ((0,0,0,0,0,[],false),14))
 else (
 bif d.2 then (
 some ((0,0,0,0,0,[],false),6))
 else (
 bif decide ((c.length:Int)=64) then (
 some ((0,0,0,0,0,[],false),7))
 else (
 bif (bif decide (b.1.2.1<a) then true else decide ((IntKind.wrap .u64 (b.1.2.1 - a)) <b.2.2)) then (
 some ((0,0,0,0,0,[],false),9))
 else (
 bif decide ((IntKind.wrap .u64 (b.1.2.2.2.2.1 - f.1)) <b.2.2) then (
 some ((0,0,0,0,0,[],false),8))
 else (
 (lj c).bind λe=>
 bif (ae d.1 (e.length+1) && decide ((e.length+1)*16<=az)) then
 some ((b.1.1,(IntKind.wrap .u64 (b.1.2.1 - b.2.2)),b.1.2.2.1,a,b.1.2.2.2.2.1,(de e d.1.toNat b.2),b.1.2.2.2.2.2.2),0)
 else none)))))))
 else (
 some ((0,0,0,0,0,[],false),1))
def Gy:=Ctx.add PM 364 [.agg Y8,.one (.int .u64),.one (.int .u64)] (.tup [.agg [.int .u64,.int .u64,.int .u64,.int .u64,.int .u64,.fresh 160 Y0,.bool],.leaf (.int .i64)]) AE
theorem Za:Gy.Sound:=.add (H:=hd []) mixed YP Tryz.func364 λb=>by kernel_rfl
def Gz:=Ctx.addI Gy 363 (hd [(1000000,[],[4])]) 9000363 Tryz.f363
theorem Zb:Gz.Sound:=Ctx.Sound.addI (C:=Gy) mixed Za Tryz.func363
def QZ:=Ctx.addI Gz 267 (hd [(1000004,[],[10])]) 9000267 Tryz.f267
theorem aay:QZ.Sound:=Ctx.Sound.addI (C:=Gz) mixed Zb Tryz.func267
def Bj (b:List D2×Int×Bool):Option (List D2×Int×Int):=
 (xd (b.1,b.2.1)).bind λe=>
 bif (!decide (e.2=0)) then (
 some ([],0,e.2))
 else (
 (rh (b.1,e.1)).bind λa=>
 bif (!decide (a.2=0)) then (
 some ([],0,a.2))
 else (
 bif ae a.1 b.1.length then
 bif b.2.2 then (
 (A3 ((rd Y8 b.1 a.1),b.2.1)).bind λc=>
 bif (!decide (c.2.2=0)) then (
 some ([],c.2))
 else (
 (l9 b.1).bind λf=>
 bif ae a.1 f.length then
 some (f.set a.1.toNat c.1,c.2.1,0)
 else none))
 else (
 (A4 ((rd Y8 b.1 a.1),b.2.1)).bind λd=>
 bif (!decide (d.2.2=0)) then (
 some ([],d.2))
 else (
 (l9 b.1).bind λg=>
 bif ae a.1 g.length then
 some (g.set a.1.toNat d.1,d.2.1,0)
 else none))
 else none))
def RJ:=Ctx.add QZ 209 [.one (.slice 64 Y8),.one (.int .u64),.one .bool] (.tup [.leaf (.fresh 64 Y8),.leaf (.int .u64),.leaf (.int .i64)]) Bj
theorem abg:RJ.Sound:=.add (H:=hd [(5000005,[],[0,0,0,0,0,0,1,1,11,2,31,4])]) mixed aay Tryz.func209 λb=>by kernel_rfl
def lh (b:jY×Int×Int×Int):Option ((Int×List D1)×Int×Int):=
 (rF b.1).bind λd=>
 bif ((!decide (d=0))==false) then (
 (A6 b.2.1).bind λe=>
 bif (!e) then (
 some ((0,[]),0,1))
 else (
 bif decide (b.1.1=4611686018427387904) then (
 some ((0,[]),0,7))
 else (
 (rv b.1.2).bind λa=>let c:=IntKind.wrap .i64 (((a++ ([(b.1.1,b.2)])).length:Int) - 64);
 bif decide ((a.length+1)*32<=az) then
 bif ae (if c<0 then 0 else c) ((a++ ([(b.1.1,b.2)])).length+1) then
 some (((IntKind.wrap .u64 (b.1.1+1)),(a++ ([(b.1.1,b.2)])).drop ((if c<0 then 0 else c).toNat)),b.1.1,0)
 else none
 else none)))
 else (
 some ((0,[]),0,1))
def QV:=Ctx.add RJ 273 [.agg tC,.one (.int .i64),.one (.int .u64),.one (.int .u64)] (.tup [.agg [.int .u64,.sl 215 Y2],.leaf (.int .u64),.leaf (.int .i64)]) lh
theorem aas:QV.Sound:=.add (H:=hd [(1000000,[],[4])]) mixed abg Tryz.func273 λb=>by kernel_rfl
def js (b:aQ):Option (List D2× (List (Int×Int))×List D1×List D3×Int×List D1×Int×Int):=
 (ry b.1).bind λe=>
 (ui b.2.1).bind λf=>
 (ot b.2.2.1).bind λg=>
 (pI b.2.2.2.1).bind λh=>
 (rv b.2.2.2.2.2.1).bind λi=>
 aD (λ(d:(Int×List D2)->Option (List D2× (List (Int×Int))×List D1×List D3×Int×List D1×Int×Int)) (a:Int×List D2)=>let c:=rd Y8 a.2 a.1;
  bif decide (a.1<(e.length:Int)) then (
  bif ae a.1 a.2.length then
  (lj c.2.2.2.2.2.1).bind λj=>
  bif ae a.1 a.2.length then
  d ((IntKind.wrap .i64 (a.1+1)),(a.2.set a.1.toNat (c.1,c.2.1,c.2.2.1,c.2.2.2.1,c.2.2.2.2.1,j,c.2.2.2.2.2.2)))
  else none
  else none)
  else (
  some (a.2,f,g,h,b.2.2.2.2.1,i,b.2.2.2.2.2.2))) (0,e)
def GV:=Ctx.add QV 274 [.agg dE] (.one (.agg [.fresh 64 Y8,.fresh 279 Y9,.fresh 345 bH,.fresh 323 bF,.int .u64,.fresh 215 Y2,.int .u64,.int .u64])) js
theorem aar:GV.Sound:=.add (H:=hd [(3,[.data 30 (.int .i64),.rowk 28672 64 Y8],[81920,65536,53248,40960,8192,4096]),(1000004,[],[4]),(5000001,[],[0,0,1,1,2,2,0,0,8,8,20,16,0,0,64,64,160,128,0,0,512,512,1280,1024,0,0,4096,4096,8192,8192,18432,16384,30431,0,128735,65540,227071,0,489215,262176,1013759,0,2062335,1048832,4161535,0,8355839,4196352,16777215,0,33554431,16777216,50331647,33587200]),(5000005,[],[0,0,1,1,0,0,0,0,8,8,16,16,63,6,127,64,191,160])]) mixed aas Tryz.func274 λb=>by kernel_rfl
def Hc:=Ctx.addI GV 203 (hd [(1000000,[],[1]),(5000001,[],[0,0,0,0,2,2,5,5,8,8,31,16])]) 9000203 Tryz.f203
theorem abm:Hc.Sound:=Ctx.Sound.addI (C:=GV) mixed aar Tryz.func203
def RP:=Ctx.addI Hc 205 (hd []) 9000205 Tryz.f205
theorem abk:RP.Sound:=Ctx.Sound.addI (C:=Hc) mixed abm Tryz.func205
def PX:Ctx:=Ctx.addDel RP 361 323 bF
theorem Zd:PX.Sound:=V9 ajS akZ (t:=bF) (x0:=Ty.dflt bF) (by kernel_rfl) abk rfl
def PW:Ctx:=Ctx.addIns PX 362 323 bF
theorem Zc:PW.Sound:=rZ ajR ajy akY (t:=bF) (x0:=Ty.dflt bF) (by kernel_rfl) Zd rfl
def Fz (b:D3):Option Bool:=
 some (!decide (b.2.2.2.2=1))
def PY:=Ctx.add PW 360 [.agg bF] (.one (.leaf (.bool))) Fz
theorem Ze:PY.Sound:=.add (H:=hd [(1000000,[],[1])]) mixed Zc Tryz.func360 λb=>by kernel_rfl
def AF (b:List D3×Unit):Option Int:=
 aD (λ(c:(Int×Int)->Option Int) (a:Int×Int)=>
  bif decide (a.2<(b.1.length:Int)) then (
  bif ae a.2 b.1.length then
  (Fz (rd bF b.1 a.2)).bind λd=>
  bif d then (
  some a.2)
  else (
  c (a.1,(IntKind.wrap .i64 (a.2+1))))
  else none)
  else (
  some (-1))) (0,0)
def P0:=Ctx.add PY 359 [.one (.slice 323 bF),.fn 360] (.one (.leaf (.int .i64))) AF
theorem Zg:P0.Sound:=.add (H:=hd [(2,[.data 4 (.int .i64),.data 8 (.int .i64)],[])]) mixed Ze Tryz.func359 λb=>by kernel_rfl
def wQ (b:List D3×D3):Option (List D3×Int):=
 (ua (b.1,b.2.1)).bind λa=>let i:=IntKind.wrap .i64 (a.1 - 1);
 bif (decide (a.2=1)==false) then (
 (w8 b.2).bind λj=>
 bif (bif (!j) then true else (!decide (b.2.2.2.2.2=1))) then (
 some ([],1))
 else (
 bif decide (a.2=0) then (
 some ([],6))
 else (
 (pI b.1).bind λc=>let f:=c.length+1;
 bif decide ((c.length:Int)=256) then (
 (AF (c,())).bind λd=>let g:=IntKind.wrap .i64 (d+1);let h:=c.take d.toNat++c.drop (g.toNat);let e:=h.length+1;
 bif decide (d<0) then (
 some ([],7))
 else (
 bif (decide (0<=d) && decide (d<=g) && ae g f) then
 bif decide (d<a.1) then (
 bif (ae i e && decide (e*40<=az)) then
 some ((de h (i.toNat) b.2),0)
 else none)
 else (
 bif (ae a.1 e && decide (e*40<=az)) then
 some ((de h a.1.toNat b.2),0)
 else none)
 else none))
 else (
 bif (ae a.1 f && decide (f*40<=az)) then
 some ((de c a.1.toNat b.2),0)
 else none))))
 else (
 some ([],1))
def GK:=Ctx.add P0 338 [.one (.slice 323 bF),.agg bF] (.tup [.leaf (.fresh 323 bF),.leaf (.int .i64)]) wQ
theorem Zy:GK.Sound:=.add (H:=hd [(1000000,[],[3])]) mixed Zg Tryz.func338 λb=>by kernel_rfl
def GL:=Ctx.addI GK 337 (hd []) 9000337 Tryz.f337
theorem Zz:GL.Sound:=Ctx.Sound.addI (C:=GK) mixed Zy Tryz.func337
def Hb:=Ctx.addI GL 204 (hd []) 9000204 Tryz.f204
theorem abl:Hb.Sound:=Ctx.Sound.addI (C:=GL) mixed Zz Tryz.func204
def RM:=Ctx.addI Hb 208 (hd []) 9000208 Tryz.f208
theorem abh:RM.Sound:=Ctx.Sound.addI (C:=Hb) mixed abl Tryz.func208
def Bh (b:List D2×Int×Int):Option (List D2×Int):=
 (rh (b.1,b.2.1)).bind λa=>
 bif (!decide (a.2=0)) then (
 some ([],a.2))
 else (
 bif ae a.1 b.1.length then
 (AZ ((rd Y8 b.1 a.1),b.2.2)).bind λc=>
 bif (!decide (c.2=0)) then (
 some ([],c.2))
 else (
 (l9 b.1).bind λd=>
 bif ae a.1 d.length then
 some (d.set a.1.toNat c.1,0)
 else none)
 else none)
def G6:=Ctx.add RM 216 [.one (.slice 64 Y8),.one (.int .u64),.one (.int .u64)] (.tup [.leaf (.fresh 64 Y8),.leaf (.int .i64)]) Bh
theorem aa9:G6.Sound:=.add (H:=hd []) mixed abh Tryz.func216 λb=>by kernel_rfl
def RF:=Ctx.addI G6 215 (hd []) 9000215 Tryz.f215
theorem aba:RF.Sound:=Ctx.Sound.addI (C:=G6) mixed aa9 Tryz.func215
def QN:Ctx:=Ctx.addIns RF 281 64 Y8
theorem aak:QN.Sound:=rZ ajW ajB ak3 (t:=Y8) (x0:=Ty.dflt Y8) (by kernel_rfl) aba rfl
def Bg (b:List D2×D2):Option (List D2×Int):=
 (pF b.2).bind λe=>
 bif ((bif (bif (!decide (e=0)) then true else (!b.2.2.2.2.2.2.2)) then true else decide (0<(b.2.2.2.2.2.2.1.length:Int)))==false) then (
 (ow b.1).bind λf=>
 bif (!decide (f=0)) then (
 some ([],1))
 else (
 (xa (b.1,b.2.1,())).bind λa=>
 bif a.2 then (
 some ([],6))
 else (
 bif decide ((b.1.length:Int)=32) then (
 some ([],7))
 else (
 (l9 b.1).bind λc=>
 (tZ b.2).bind λd=>
 bif (ae a.1 (c.length+1) && decide ((c.length+1)*72<=az)) then
 (ow (de c a.1.toNat d)).bind λg=>
 bif (!decide (g=0)) then (
 some ([],8))
 else (
 some ((de c a.1.toNat d),0))
 else none))))
 else (
 some ([],1))
def G5:=Ctx.add QN 218 [.one (.slice 64 Y8),.agg Y8] (.tup [.leaf (.fresh 64 Y8),.leaf (.int .i64)]) Bg
theorem aa7:G5.Sound:=.add (H:=hd [(1000000,[],[3]),(5000008,[],[0,0,1,1,0,0,0,0,10,8,16,16,54,38,127,65])]) mixed aak Tryz.func218 λb=>by kernel_rfl
def RE:=Ctx.addI G5 217 (hd []) 9000217 Tryz.f217
theorem aa8:RE.Sound:=Ctx.Sound.addI (C:=G5) mixed aa7 Tryz.func217
def Be (b:List D2×Int):Option (List D2×Int):=
 (rh b).bind λa=>
 bif (!decide (a.2=0)) then (
 some ([],a.2))
 else (
 bif ae a.1 b.1.length then
 (AW (rd Y8 b.1 a.1)).bind λc=>
 bif (!decide (c.2=0)) then (
 some ([],c.2))
 else (
 (l9 b.1).bind λd=>
 bif ae a.1 d.length then
 some (d.set a.1.toNat c.1,0)
 else none)
 else none)
def G4:=Ctx.add RE 220 [.one (.slice 64 Y8),.one (.int .u64)] (.tup [.leaf (.fresh 64 Y8),.leaf (.int .i64)]) Be
theorem aa5:G4.Sound:=.add (H:=hd []) mixed aa8 Tryz.func220 λb=>by kernel_rfl
def RD:=Ctx.addI G4 219 (hd []) 9000219 Tryz.f219
theorem aa6:RD.Sound:=Ctx.Sound.addI (C:=G4) mixed aa5 Tryz.func219
def wP (b:List D2×Int×Int×Int):Option (List D2×Int):=
 (rh (b.1,b.2.1)).bind λa=>
 bif (!decide (a.2=0)) then (
 some ([],a.2))
 else (
 bif ae a.1 b.1.length then
 (xd (b.1,b.2.2.1)).bind λe=>
 bif decide (e.2=0) then (
 some ([],6))
 else (
 (AE ((rd Y8 b.1 a.1),b.2.2)).bind λc=>
 bif (!decide (c.2=0)) then (
 some ([],c.2))
 else (
 (l9 b.1).bind λd=>
 bif ae a.1 d.length then
 some (d.set a.1.toNat c.1,0)
 else none))
 else none)
def GH:=Ctx.add RD 340 [.one (.slice 64 Y8),.one (.int .u64),.one (.int .u64),.one (.int .u64)] (.tup [.leaf (.fresh 64 Y8),.leaf (.int .i64)]) wP
theorem Zv:GH.Sound:=.add (H:=hd []) mixed aa6 Tryz.func340 λb=>by kernel_rfl
def GJ:=Ctx.addI GH 339 (hd []) 9000339 Tryz.f339
theorem Zx:GJ.Sound:=Ctx.Sound.addI (C:=GH) mixed Zv Tryz.func339
def Ha:=Ctx.addI GJ 207 (hd []) 9000207 Tryz.f207
theorem abi:Ha.Sound:=Ctx.Sound.addI (C:=GJ) mixed Zx Tryz.func207
def GW:=Ctx.addI Ha 272 (hd []) 9000272 Tryz.f272
theorem aat:GW.Sound:=Ctx.Sound.addI (C:=Ha) mixed abi Tryz.func272
def GX:=Ctx.addI GW 271 (hd [(1000001,[],[6])]) 9000271 Tryz.f271
theorem aau:GX.Sound:=Ctx.Sound.addI (C:=GW) mixed aat Tryz.func271
def G9:=Ctx.addI GX 210 (hd []) 9000210 Tryz.f210
theorem abf:G9.Sound:=Ctx.Sound.addI (C:=GX) mixed aau Tryz.func210
def RH:=Ctx.addI G9 211 (hd [(5000002,[],[0,0,0,0,2,2,4,4,8,8,1,1,63,16])]) 9000211 Tryz.f211
theorem abe:RH.Sound:=Ctx.Sound.addI (C:=G9) mixed abf Tryz.func211
def BC (b:aQ×Int×Bool):Option ((List D2× (List (Int×Int))×List D1×List D3×Int×List D1×Int×Int)×Int):=
 (jX b.1).bind λh=>
 cE (λ(e:(aQ×Int))=>
  cE (λ(a:OK)=>let p:=!decide (a.2.2=0);
   bif b.2.2 then (
   cE (λ(i:(aQ×Int))=>
    bif (!decide (i.2=0)) then (
    (λo=>aj o o) (
    some (([],[],[],[],0,[],0,0),i.2)))
    else (
    (js i.1).bind λq=>
    some (q,0))) (λ(j:(aQ×Int)->Option ((List D2× (List (Int×Int))×List D1×List D3×Int×List D1×Int×Int)×Int))=>
    bif p then (
    j a.2)
    else (
    (lh ((a.2.1.2.2.2.2.1,a.2.1.2.2.2.2.2.1),1,b.2.1,a.1)).bind λf=>
    bif (!decide (f.2.2=0)) then (
    j (a.2.1,f.2.2))
    else (
    j ((a.2.1.1,a.2.1.2.1,a.2.1.2.2.1,a.2.1.2.2.2.1,f.1.1,f.1.2,a.2.1.2.2.2.2.2.2),a.2.2)))))
   else (
   cE (λ(k:(aQ×Int))=>
    bif (!decide (k.2=0)) then (
    (λo=>aj o o) (
    some (([],[],[],[],0,[],0,0),k.2)))
    else (
    (js k.1).bind λr=>
    some (r,0))) (λ(l:(aQ×Int)->Option ((List D2× (List (Int×Int))×List D1×List D3×Int×List D1×Int×Int)×Int))=>
    bif p then (
    l a.2)
    else (
    (lh ((a.2.1.2.2.2.2.1,a.2.1.2.2.2.2.2.1),2,b.2.1,a.1)).bind λg=>
    bif (!decide (g.2.2=0)) then (
    l (a.2.1,g.2.2))
    else (
    l ((a.2.1.1,a.2.1.2.1,a.2.1.2.2.1,a.2.1.2.2.2.1,g.1.1,g.1.2,a.2.1.2.2.2.2.2.2),a.2.2)))))) (λ(m:(OK)->Option ((List D2× (List (Int×Int))×List D1×List D3×Int×List D1×Int×Int)×Int))=>
   bif (!decide (e.2=0)) then (
   m (0,e))
   else (
   (Bj (e.1.1,b.2)).bind λc=>
   bif (!decide (c.2.2=0)) then (
   m (c.2.1,(e.1,c.2.2)))
   else (
   m (c.2.1,((c.1,e.1.2),e.2)))))) (λ(n:(aQ×Int)->Option ((List D2× (List (Int×Int))×List D1×List D3×Int×List D1×Int×Int)×Int))=>
 bif (!decide (h=0)) then (
  n (b.1,h))
  else (
  (Bk (b.1.2.2.2.1,b.2)).bind λd=>
  bif (!decide (d.2=0)) then (
  n (b.1,d.2))
  else (
  n ((b.1.1,b.1.2.1,b.1.2.2.1,d.1,b.1.2.2.2.2),h))))
def Sy:=Ctx.add RH 160 [.agg dE,.one (.int .u64),.one .bool] (.tup [.agg [.fresh 64 Y8,.fresh 279 Y9,.fresh 345 bH,.fresh 323 bF,.int .u64,.fresh 215 Y2,.int .u64,.int .u64],.leaf (.int .i64)]) BC
theorem abX:Sy.Sound:=.add (H:=hd [(1000000,[],[3]),(3000000,[],[28672]),(3000001,[],[28672]),(3000002,[],[28672]),(3000003,[],[28672]),(3000004,[],[28672]),(3000005,[],[28672]),(3000006,[],[28672]),(3000007,[],[28672]),(3000008,[],[28672]),(3000009,[],[28672]),(12000002,[.box 28672 fE],[1]),(12000004,[.box 36864 (.int .u64),.box 28672 fE],[1]),(12000008,[.box 28672 fE],[1])]) mixed abe Tryz.func160 λb=>by kernel_rfl
def AH (b:List D1×Int×Unit):Option (Int×Bool):=
 aD (λ(c:(Int×Int)->Option (Int×Bool)) (a:Int×Int)=>let d:=IntKind.wrap .i64 ((IntKind.wrap .u64 (IntKind.wrap .i64 (a.1+a.2))) / 2^ (min (1:Int).toNat 64));
  bif decide (a.1<a.2) then (
  bif ae d b.1.length then
  (rq ((rd bH b.1 d),b.2.1)).bind λe=>
  bif decide (e<0) then (
  c ((IntKind.wrap .i64 (d+1)),a.2))
  else (
  c (a.1,d))
  else none)
  else (
  bif (decide (a.1<(b.1.length:Int))==true) then (
  bif ae a.1 b.1.length then
  (rq ((rd bH b.1 a.1),b.2.1)).bind λf=>
  some (a.1,decide (f=0))
  else none)
  else (
  some (a.1,false)))) (0,(b.1.length:Int))
def P2:=Ctx.add Sy 353 [.one (.slice 345 bH),.one (.int .u64),.fn 236] (.tup [.leaf (.int .i64),.leaf (.bool)]) AH
theorem Zj:P2.Sound:=.add (H:=hd [(3,[.data 9 (.int .i64),.data 10 (.int .i64)],[])]) mixed abX Tryz.func353 λb=>by kernel_rfl
def tQ (b:List D1×Int):Option (Int×Int):=
 (uo b.1).bind λc=>
 bif (!decide (c=0)) then (
 some (0,c))
 else (
 (AH (b.1,b.2,())).bind λa=>
 bif (!a.2) then (
 some (a.1,5))
 else (
 some (a.1,0)))
def Qe:=Ctx.add P2 323 [.one (.slice 345 bH),.one (.int .u64)] (.tup [.leaf (.int .i64),.leaf (.int .i64)]) tQ
theorem ZI:Qe.Sound:=.add (H:=hd []) mixed Zj Tryz.func323 λb=>by kernel_rfl
def rj (b:D1×Int):Option Int:=
 bif (bif decide (b.1.2.2.2=1) then decide (b.1.2.2.1<b.2) else false) then (
 some 4)
 else (
 some b.1.2.2.2)
def QJ:=Ctx.add Qe 286 [.agg bH,.one (.int .u64)] (.one (.leaf (.int .i64))) rj
theorem aaf:QJ.Sound:=.add (H:=hd [(1000000,[],[2])]) mixed ZI Tryz.func286 λb=>by kernel_rfl
def xc (b:List D1×Int×Int×Int×Int):Option (List D1×Int):=
 (tQ (b.1,b.2.1)).bind λa=>
 bif (!decide (a.2=0)) then (
 some ([],a.2))
 else (
 bif ae a.1 b.1.length then
 (rj ((rd bH b.1 a.1),b.2.2.1)).bind λe=>
 bif decide (e=4) then (
 some ([],13))
 else (
 bif (!decide (e=1)) then (
 some ([],10))
 else (
 bif ae a.1 b.1.length then
 bif decide (b.2.2.2.1<(rd bH b.1 a.1).2.1) then (
 some ([],9))
 else (
 (ot b.1).bind λc=>let d:=rd bH c a.1;
 bif ae a.1 c.length then
 some (c.set a.1.toNat (d.1,d.2.1,d.2.2.1,b.2.2.2.2),0)
 else none)
 else none))
 else none)
def QU:=Ctx.add QJ 275 [.one (.slice 345 bH),.one (.int .u64),.one (.int .u64),.one (.int .u64),.one (.int .i64)] (.tup [.leaf (.fresh 345 bH),.leaf (.int .i64)]) xc
theorem aaq:QU.Sound:=.add (H:=hd []) mixed aaf Tryz.func275 λb=>by kernel_rfl
def Bi (b:List D1×Int×Int×Int):Option (List D1×Int):=
 (xc (b.1,b.2.1,b.2.2.2,b.2.2.1,2)).bind λa=>
 some a
def G7:=Ctx.add QU 214 [.one (.slice 345 bH),.one (.int .u64),.one (.int .u64),.one (.int .u64)] (.tup [.leaf (.fresh 345 bH),.leaf (.int .i64)]) Bi
theorem abb:G7.Sound:=.add (H:=hd []) mixed aaq Tryz.func214 λb=>by kernel_rfl
def G8:=Ctx.addI G7 213 (hd []) 9000213 Tryz.f213
theorem abc:G8.Sound:=Ctx.Sound.addI (C:=G7) mixed abb Tryz.func213
def GR:=Ctx.addI G8 285 (hd [(1000000,[],[2])]) 9000285 Tryz.f285
theorem aag:GR.Sound:=Ctx.Sound.addI (C:=G8) mixed abc Tryz.func285
def GN:=Ctx.addI GR 327 (hd [(2,[.data 4 (.int .i64),.data 8 (.int .i64)],[9000327,9000287,61440,12288])]) 9000327 Tryz.f327
theorem ZG:GN.Sound:=Ctx.Sound.addI (C:=GR) mixed aag Tryz.func327
def QI:=Ctx.addI GN 287 (hd [(5,[.data 5 (.int .i64),.data 6 (.int .i64),.rowk 61440 345 bH],[9000287,12288]),(4000000,[],[77,82])]) 9000287 Tryz.f287
theorem aae:QI.Sound:=Ctx.Sound.addI (C:=GN) mixed ZG Tryz.func287
def Bc (b:List D1×Int):Option (List D1×Int):=
 (uo b.1).bind λj=>
 bif (!decide (j=0)) then (
 some ([],j))
 else (
 (ot b.1).bind λf=>
 aD (λ(g:(Int×Int)->Option (List D1×Int)) (c:Int×Int)=>let k:=IntKind.wrap .i64 (c.2+1);
  bif decide (c.2<(f.length:Int)) then (
  bif ae c.2 f.length then
  (rj ((rd bH f c.2),b.2)).bind λn=>
  bif (bif decide (n=4) then true else decide ((rd bH f c.2).2.2.2=3)) then (
  bif decide (c.2=(-1)) then (
  some (f,0))
  else (
  aD (λ(d:(OJ)->Option (List D1×Int)) (a:OJ)=>let e:=a.2.2;let l:=IntKind.wrap .i64 (a.2.1+1);let h:=rd bH e a.2.1;let i:=e.length - a.1.toNat;let m:=a.2.2.take a.1.toNat++ (List.replicate i (0,0,0,0):List D1)++a.2.2.drop (a.1.toNat+i);
   bif decide (a.2.1<(e.length:Int)) then (
   bif ae a.2.1 e.length then
   (rj (h,b.2)).bind λo=>
   bif (!(bif decide (o=4) then true else decide (h.2.2.2=3))) then (
   bif ae a.1 e.length then
   d ((IntKind.wrap .i64 (a.1+1)),l,(a.2.2.set a.1.toNat h))
   else none)
   else (
   d (a.1,l,e))
   else none)
   else (
   bif ae a.1 (e.length+1) then
   bif decide (a.1.toNat+i<=e.length) then
   bif ae a.1 (m.length+1) then
   some (m.take a.1.toNat,0)
   else none
   else none
   else none)) (c.2,k,f)))
 else (
 g (c.1,k))
 else none)
 else (
 some (f,0))) (0,0))
def G3:=Ctx.add QI 223 [.one (.slice 345 bH),.one (.int .u64)] (.tup [.leaf (.fresh 345 bH),.leaf (.int .i64)]) Bc
theorem aa2:G3.Sound:=.add (H:=hd []) mixed aae Tryz.func223 λb=>by kernel_rfl
def Rz:=Ctx.addI G3 222 (hd []) 9000222 Tryz.f222
theorem aa3:Rz.Sound:=Ctx.Sound.addI (C:=G3) mixed aa2 Tryz.func222
def PU:Ctx:=Ctx.addIns Rz 365 345 bH
theorem YZ:PU.Sound:=rZ ajQ ajx akX (t:=bH) (x0:=Ty.dflt bH) (by kernel_rfl) aa3 rfl
def AM (b:List D1×Int×Int×Int):Option (List D1×Int):=
 (tQ (b.1,b.2.1)).bind λa=>
 bif (decide (a.2=1)==false) then (
 (uf b.2.2.1).bind λd=>
 bif (!d) then (
 some ([],1))
 else (
 bif decide (a.2=0) then (
 some ([],6))
 else (
 bif decide ((b.1.length:Int)=256) then (
 some ([],7))
 else (
 (ot b.1).bind λc=>
 bif (ae a.1 (c.length+1) && decide ((c.length+1)*32<=az)) then
 some ((de c a.1.toNat (b.2.1,b.2.2.1,b.2.2.2,1)),0)
 else none))))
 else (
 some ([],1))
def GG:=Ctx.add PU 342 [.one (.slice 345 bH),.one (.int .u64),.one (.int .u64),.one (.int .u64)] (.tup [.leaf (.fresh 345 bH),.leaf (.int .i64)]) AM
theorem Zt:GG.Sound:=.add (H:=hd []) mixed YZ Tryz.func342 λb=>by kernel_rfl
def P8:=Ctx.addI GG 341 (hd []) 9000341 Tryz.f341
theorem Zu:P8.Sound:=Ctx.Sound.addI (C:=GG) mixed Zt Tryz.func341
def AL (b:List D1×Int×Int):Option (List D1×Int):=
 (xc (b.1,b.2.1,b.2.2,4611686018427387904,3)).bind λa=>
 some a
def GD:=Ctx.add P8 344 [.one (.slice 345 bH),.one (.int .u64),.one (.int .u64)] (.tup [.leaf (.fresh 345 bH),.leaf (.int .i64)]) AL
theorem Zr:GD.Sound:=.add (H:=hd []) mixed Zu Tryz.func344 λb=>by kernel_rfl
def GF:=Ctx.addI GD 343 (hd []) 9000343 Tryz.f343
theorem Zs:GF.Sound:=Ctx.Sound.addI (C:=GD) mixed Zr Tryz.func343
def RG:=Ctx.addI GF 212 (hd []) 9000212 Tryz.f212
theorem abd:RG.Sound:=Ctx.Sound.addI (C:=GF) mixed Zs Tryz.func212
def BB (b:aQ×Int×Int×Int):Option ((List D2× (List (Int×Int))×List D1×List D3×Int×List D1×Int×Int)×Int):=
 (jX b.1).bind λe=>
 cE (λ(c:(aQ×Int))=>
  cE (λ(a:(aQ×Int))=>
   cE (λ(f:(aQ×Int))=>
    bif (!decide (f.2=0)) then (
    (λo=>aj o o) (
    some (([],[],[],[],0,[],0,0),f.2)))
    else (
    (js f.1).bind λl=>
    some (l,0))) (λ(g:(aQ×Int)->Option ((List D2× (List (Int×Int))×List D1×List D3×Int×List D1×Int×Int)×Int))=>
    bif (!decide (a.2=0)) then (
    g a)
    else (
    (lh ((a.1.2.2.2.2.1,a.1.2.2.2.2.2.1),5,b.2.1,b.2.2.1)).bind λd=>
    bif (!decide (d.2.2=0)) then (
    g (a.1,d.2.2))
    else (
    g ((a.1.1,a.1.2.1,a.1.2.2.1,a.1.2.2.2.1,d.1.1,d.1.2,a.1.2.2.2.2.2.2),a.2))))) (λ(h:(aQ×Int)->Option ((List D2× (List (Int×Int))×List D1×List D3×Int×List D1×Int×Int)×Int))=>
   bif (!decide (c.2=0)) then (
   h c)
   else (
   (Bh (c.1.1,b.2.2.2,b.2.2.1)).bind λi=>
   bif (!decide (i.2=0)) then (
   h (c.1,i.2))
   else (
   h ((i.1,c.1.2),c.2))))) (λ(j:(aQ×Int)->Option ((List D2× (List (Int×Int))×List D1×List D3×Int×List D1×Int×Int)×Int))=>
 bif (!decide (e=0)) then (
  j (b.1,e))
  else (
  (Bi (b.1.2.2.1,b.2.1,b.2.2.1,b.1.2.2.2.2.2.2.2)).bind λk=>
  bif (!decide (k.2=0)) then (
  j (b.1,k.2))
  else (
  j ((b.1.1,b.1.2.1,k.1,b.1.2.2.2),e))))
def Sx:=Ctx.add RG 161 [.agg dE,.one (.int .u64),.one (.int .u64),.one (.int .u64)] (.tup [.agg [.fresh 64 Y8,.fresh 279 Y9,.fresh 345 bH,.fresh 323 bF,.int .u64,.fresh 215 Y2,.int .u64,.int .u64],.leaf (.int .i64)]) BB
theorem abW:Sx.Sound:=.add (H:=hd [(3000000,[],[28673]),(3000001,[],[28673]),(3000002,[],[28673]),(3000003,[],[28673]),(3000004,[],[28673]),(3000005,[],[28673]),(12000002,[.box 28673 fE],[1]),(12000003,[.box 28673 fE],[1]),(12000004,[.box 28673 fE],[1])]) mixed abd Tryz.func161 λb=>by kernel_rfl
def BA (b:aQ×D2):Option ((List D2× (List (Int×Int))×List D1×List D3×Int×List D1×Int×Int)×Int):=
 (jX b.1).bind λd=>
 cE (λ(a:(aQ×Int))=>
  cE (λ(e:(aQ×Int))=>
   bif (!decide (e.2=0)) then (
   (λo=>aj o o) (
   some (([],[],[],[],0,[],0,0),e.2)))
   else (
   (js e.1).bind λi=>
   some (i,0))) (λ(f:(aQ×Int)->Option ((List D2× (List (Int×Int))×List D1×List D3×Int×List D1×Int×Int)×Int))=>
   bif (!decide (a.2=0)) then (
   f a)
   else (
   (lh ((a.1.2.2.2.2.1,a.1.2.2.2.2.2.1),6,b.2.1,b.2.2.1)).bind λc=>
   bif (!decide (c.2.2=0)) then (
   f (a.1,c.2.2))
   else (
   f ((a.1.1,a.1.2.1,a.1.2.2.1,a.1.2.2.2.1,c.1.1,c.1.2,a.1.2.2.2.2.2.2),a.2))))) (λ(g:(aQ×Int)->Option ((List D2× (List (Int×Int))×List D1×List D3×Int×List D1×Int×Int)×Int))=>
 bif (!decide (d=0)) then (
  g (b.1,d))
  else (
  (Bg (b.1.1,b.2)).bind λh=>
  bif (!decide (h.2=0)) then (
  g (b.1,h.2))
  else (
  g ((h.1,b.1.2),d))))
def Sw:=Ctx.add Sx 162 [.agg dE,.agg Y8] (.tup [.agg [.fresh 64 Y8,.fresh 279 Y9,.fresh 345 bH,.fresh 323 bF,.int .u64,.fresh 215 Y2,.int .u64,.int .u64],.leaf (.int .i64)]) BA
theorem abV:Sw.Sound:=.add (H:=hd [(1000000,[],[2]),(3000000,[],[28672]),(3000001,[],[28672]),(3000002,[],[28672]),(3000003,[],[28672]),(3000004,[],[28672]),(12000002,[.box 28672 fE],[1]),(12000003,[.box 28672 fE],[1])]) mixed abW Tryz.func162 λb=>by kernel_rfl
def Bz (b:aQ×Int):Option ((List D2× (List (Int×Int))×List D1×List D3×Int×List D1×Int×Int)×Int):=
 (jX b.1).bind λd=>
 cE (λ(a:(aQ×Int))=>
  cE (λ(e:(aQ×Int))=>
   bif (!decide (e.2=0)) then (
   (λo=>aj o o) (
   some (([],[],[],[],0,[],0,0),e.2)))
   else (
   (js e.1).bind λi=>
   some (i,0))) (λ(f:(aQ×Int)->Option ((List D2× (List (Int×Int))×List D1×List D3×Int×List D1×Int×Int)×Int))=>
   bif (!decide (a.2=0)) then (
   f a)
   else (
   (lh ((a.1.2.2.2.2.1,a.1.2.2.2.2.2.1),7,b.2,0)).bind λc=>
   bif (!decide (c.2.2=0)) then (
   f (a.1,c.2.2))
   else (
   f ((a.1.1,a.1.2.1,a.1.2.2.1,a.1.2.2.2.1,c.1.1,c.1.2,a.1.2.2.2.2.2.2),a.2))))) (λ(g:(aQ×Int)->Option ((List D2× (List (Int×Int))×List D1×List D3×Int×List D1×Int×Int)×Int))=>
 bif (!decide (d=0)) then (
  g (b.1,d))
  else (
  (Be (b.1.1,b.2)).bind λh=>
  bif (!decide (h.2=0)) then (
  g (b.1,h.2))
  else (
  g ((h.1,b.1.2),d))))
def He:=Ctx.add Sw 163 [.agg dE,.one (.int .u64)] (.tup [.agg [.fresh 64 Y8,.fresh 279 Y9,.fresh 345 bH,.fresh 323 bF,.int .u64,.fresh 215 Y2,.int .u64,.int .u64],.leaf (.int .i64)]) Bz
theorem abU:He.Sound:=.add (H:=hd [(1000000,[],[2]),(3000000,[],[28672]),(3000001,[],[28672]),(3000002,[],[28672]),(3000003,[],[28672]),(3000004,[],[28672]),(12000002,[.box 28672 fE],[1]),(12000003,[.box 28672 fE],[1])]) mixed abV Tryz.func163 λb=>by kernel_rfl
def RA:=Ctx.addI He 221 (hd []) 9000221 Tryz.f221
theorem aa4:RA.Sound:=Ctx.Sound.addI (C:=He) mixed abU Tryz.func221
def Bw (b:aQ×List (Int×Int)):Option ((List D2× (List (Int×Int))×List D1×List D3×Int×List D1×Int×Int)×Int):=
 (jX b.1).bind λc=>
 cE (λ(a:(aQ×Int))=>
  bif (!decide (a.2=0)) then (
  (λo=>aj o o) (
  some (([],[],[],[],0,[],0,0),a.2)))
  else (
  (js (a.1.1,b.2,a.1.2.2)).bind λe=>
  some (e,0))) (λ(d:(aQ×Int)->Option ((List D2× (List (Int×Int))×List D1×List D3×Int×List D1×Int×Int)×Int))=>
  bif (bif decide (c=0) then (!decide ((b.2.length:Int)<=32)) else false) then (
  d (b.1,1))
  else (
  d (b.1,c)))
def Sv:=Ctx.add RA 164 [.agg dE,.one (.slice 279 Y9)] (.tup [.agg [.fresh 64 Y8,.fresh 279 Y9,.fresh 345 bH,.fresh 323 bF,.int .u64,.fresh 215 Y2,.int .u64,.int .u64],.leaf (.int .i64)]) Bw
theorem abT:Sv.Sound:=.add (H:=hd [(1000000,[],[2]),(12000002,[.box 28672 fE],[1])]) mixed aa4 Tryz.func164 λb=>by kernel_rfl
end
end Go.Proofs.YtkihadlgknhpkaaGreatDoor.T
