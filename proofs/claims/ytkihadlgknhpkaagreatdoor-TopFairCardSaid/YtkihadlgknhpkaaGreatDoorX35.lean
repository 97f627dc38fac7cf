/- Part 35: lemmas that the last text needs. -/
import Derived.Test.YtkihadlgknhpkaaGreatDoorX34
set_option linter.all false
set_option autoImplicit true
set_option relaxedAutoImplicit true
namespace Go.Proofs.YtkihadlgknhpkaaGreatDoor.T
set_option maxRecDepth 100000
open Go Go.Fw Go.Proofs
noncomputable section
def wO (b:D2):Option (Int×Int):=
 (pG b).bind λc=>let d:=IntKind.wrap .u64 (b.2.2.2.2.1 - c.1);
 bif (bif (bif (!decide (c.2.2=0)) then true else (!b.2.2.2.2.2.2)) then true else decide ((b.2.2.2.2.2.1.length:Int)=64)) then (
 some (0,c.2.2))
 else (
 (wR (b.2.1,b.2.2.2.1)).bind λa=>
 bif decide (a.2=9) then (
 some (0,0))
 else (
 some ((if d<a.1 then d else a.1),a.2)))
def Gx:=Ctx.add Q2 370 [.agg Y8] (.tup [.leaf (.int .u64),.leaf (.int .i64)]) wO
theorem YX:Gx.Sound:=.add (H:=hd [(1000000,[],[1])]) mixed aaD Tryz.func370 λb=>by kernel_rfl
def Gv:=Ctx.addI Gx 384 (hd [(1000000,[],[2])]) 9000384 Tryz.f384
theorem YM:Gv.Sound:=Ctx.Sound.addI (C:=Gx) mixed YX Tryz.func384
def PL:=Ctx.addI Gv 383 (hd [(2,[.data 4 (.int .i64),.data 8 (.int .i64)],[9000383,12288])]) 9000383 Tryz.f383
theorem YN:PL.Sound:=Ctx.Sound.addI (C:=Gv) mixed YM Tryz.func383
def AA (b:List (Int×Int)×Int):Option Int:=
 aD (λ(c:(Int×Int)->Option Int) (a:Int×Int)=>
  bif decide (a.2<(b.1.length:Int)) then (
  bif ae a.2 b.1.length then
  bif decide ((rd Y9 b.1 a.2).1=b.2) then (
  bif decide (a.2<0) then (
  some 4607182418800017408)
  else (
  bif ae a.2 b.1.length then
  some (rd Y9 b.1 a.2).2
  else none))
  else (
  c (a.1,(IntKind.wrap .i64 (a.2+1))))
  else none)
  else (
  some 4607182418800017408)) (0,0)
def PR:=Ctx.add PL 372 [.one (.slice 279 Y9),.one (.int .u64)] (.one (.leaf (.flt))) AA
theorem YV:PR.Sound:=.add (H:=hd []) mixed YN Tryz.func372 λb=>by kernel_rfl
def AB (b:D2×Int×Int):Option (Int×Int):=
 (wO b.1).bind λa=>
 bif (!decide (a.2=0)) then (
 some (0,a.2))
 else (
 (mb b.1).bind λc=>
 bif (!decide (c.2=0)) then (
 some (0,c.2))
 else (
 some ((nv .mul b.2.1 (nv .quo (nv .sub (oJ a.1) b.2.2) (oJ c.1))),0)))
def PS:=Ctx.add PR 371 [.agg Y8,.one .flt,.one .flt] (.tup [.leaf (.flt),.leaf (.int .i64)]) AB
theorem YW:PS.Sound:=.add (H:=hd [(1000000,[],[3])]) mixed YV Tryz.func371 λb=>by kernel_rfl
def Fy (b:Int):Option Bool:=
 some (jD .neq b b)
def PQ:=Ctx.add PS 373 [.one .flt] (.one (.leaf (.bool))) Fy
theorem YU:PQ.Sound:=.add (H:=hd []) mixed YW Tryz.func373 λb=>by kernel_rfl
def Fx (b:Unit):Option Int:=
 some (aX (9221120237041090561:Int).toNat)
def B3:=Ctx.add PQ 374 [] (.one (.leaf (.flt))) Fx
theorem YT:B3.Sound:=.add (H:=hd []) mixed YU Tryz.func374 λb=>by kernel_rfl
theorem aem (b:Int):iC B3 NC Tryz.f256 (encs yV b) (RT.dec zh)=rn b:=by kernel_rfl
def B5:Ctx:=Ctx.add B3 256 yV zh rn
theorem aaH:B5.Sound:=Ctx.Sound.add (C:=B3) mixed YT Tryz.func256 aem
theorem aeo (b:Int×Int):iC B5 NF Tryz.f190 (encs yX b) (RT.dec zj)=rB b:=by kernel_rfl
def B6:Ctx:=Ctx.add B5 190 yX zj rB
theorem abw:B6.Sound:=Ctx.Sound.add (C:=B5) mixed aaH Tryz.func190 aeo
theorem ael (b:(Int×Int)× (Int×Int)):iC B6 NB Tryz.f376 (encs vR b) (RT.dec vW)=tM b:=by kernel_rfl
def PN:Ctx:=Ctx.add B6 376 vR vW tM
theorem YQ:PN.Sound:=Ctx.Sound.add (C:=B6) mixed abw Tryz.func376 ael
def PO:Ctx:=Ctx.addS PN 375 376 .flt rQ gQ
theorem YR:PO.Sound:=Ctx.Sound.addS YQ skM ade
def AG (b:List D2×List (Int×Int)×Int):Option (List Int×Int):=
 (ow b.1).bind λk=>
 bif (!decide (k=0)) then (
 some ([],k))
 else (
 aD (λ(c:(F5)->Option (List Int×Int)) (e:F5)=>let h:=e.2.2.2;let j:=IntKind.wrap .i64 (h+1);let a:=e.2.2.1;let f:=rd Y8 b.1 h;
  bif decide (h<(b.1.length:Int)) then (
  bif ae h b.1.length then
  (wO f).bind λl=>
  bif (bif (bif (!decide (l.2=0)) then true else (!f.2.2.2.2.2.2)) then true else decide (l.1<(if b.2.2<1 then 1 else b.2.2))) then (
  c (e.1,e.2.1,a,j))
  else (
  (λo=>aj o o) (
  (AA (b.2.1,f.1)).bind λm=>
  (AB (f,m,(oJ b.2.2))).bind λi=>
  bif (!decide (i.2=0)) then (
  some ([],i.2))
  else (
  (Fy i.1).bind λn=>
  bif n then (
  (Fx ()).bind λp=>
  bif decide ((a.length+1)*16<=az) then
  c (e.1,e.2.1,(a++ ([(f.1,p)])),j)
  else none)
  else (
  bif decide ((a.length+1)*16<=az) then
  c (e.1,e.2.1,(a++ ([(f.1,i.1)])),j)
  else none))))
  else none)
  else (
  bif rQ a then
  bif (decide (0<= ((gQ a).length:Int)) && decide (((gQ a).length:Int)=((gQ a).length:Int)) && decide (((gQ a).length:Int).toNat*8<=az)) then
  aD (λ(g:(uA)->Option (List Int×Int)) (d:uA)=>
   bif decide (d.1<((gQ a).length:Int)) then (
   bif ae d.1 (gQ a).length then
   bif ae d.1 d.2.length then
   g ((IntKind.wrap .i64 (d.1+1)),(d.2.set d.1.toNat (rd Y9 (gQ a) d.1).1))
   else none
   else none)
   else (
   some (d.2,0))) (0,(List.replicate (((gQ a).length:Int).toNat) 0:List Int))
 else none
 else none)) (([]:List Int),0,([]:List (Int×Int)),0))
def P1:=Ctx.add PO 358 [.one (.slice 64 Y8),.one (.slice 279 Y9),.one (.int .u64)] (.tup [.leaf (.fresh 30 (.int .u64)),.leaf (.int .i64)]) AG
theorem Zh:P1.Sound:=.add (H:=hd [(6,[.row 6 26630 30 (.int .u64),.data 7 (.int .i64),.row 9 38918 538 Y9,.data 25 (.int .i64)],[]),(20,[.data 79 (.int .i64),.rowk 311296 30 (.int .u64)],[26630,38918]),(1000007,[],[11]),(1000021,[],[17]),(5000010,[],[0,0,0,0,0,0,4,4,10,10,0,0,32,32,81,81,128,128,256,256,256,256,1023,512,4095,1024])]) mixed YR Tryz.func358 λb=>by kernel_rfl
def AN (b:List D2×List (Int×Int)×Int):Option (Int×Int):=
 (AG b).bind λa=>
 bif (!decide (a.2=0)) then (
 some (0,a.2))
 else (
 bif decide ((a.1.length:Int)=0) then (
 some (0,5))
 else (
 bif ae 0 a.1.length then
 some ((rd (.int .u64) a.1 0),0)
 else none))
def P9:=Ctx.add P1 336 [.one (.slice 64 Y8),.one (.slice 279 Y9),.one (.int .u64)] (.tup [.leaf (.int .u64),.leaf (.int .i64)]) AN
theorem ZA:P9.Sound:=.add (H:=hd []) mixed Zh Tryz.func336 λb=>by kernel_rfl
def oq (b:aQ×Int×Int):Option ((List D2× (List (Int×Int))×List D1×List D3×Int×List D1×Int×Int)×Int×Int):=
 let h:=b.1.2.2.2.2.2.2.1;(jX b.1).bind λj=>
 cE (λ(l:(aQ×Int))=>
 (AN (b.1.1,b.1.2.1,b.2.2)).bind λm=>
 cE (λ(n:(aQ×Int))=>
  cE (λ(d:(aQ×Int))=>
   cE (λ(i:(aQ×Int))=>
    cE (λ(a:(aQ×Int))=>
     cE (λ(c:(aQ×Int))=>let t:=!decide (c.2=0);
      bif t then (
      (λo=>aj o o) (
      bif t then (
      some (([],[],[],[],0,[],0,0),0,c.2))
      else (
      (λo=>aj o o) (
      some (([],[],[],[],0,[],0,0),h,0)))))
      else (
      (js (c.1.1,c.1.2.1,c.1.2.2.1,c.1.2.2.2.1,c.1.2.2.2.2.1,c.1.2.2.2.2.2.1,(IntKind.wrap .u64 (c.1.2.2.2.2.2.2.1+1)),c.1.2.2.2.2.2.2.2)).bind λw=>
      (λo=>aj o o) (
      some (w,h,0)))) (λ(p:(aQ×Int)->Option ((List D2× (List (Int×Int))×List D1×List D3×Int×List D1×Int×Int)×Int×Int))=>
      bif (!decide (a.2=0)) then (
      p a)
      else (
      (lh ((a.1.2.2.2.2.1,a.1.2.2.2.2.2.1),0,h,b.2.2)).bind λe=>
      bif (!decide (e.2.2=0)) then (
      p (a.1,e.2.2))
      else (
      p ((a.1.1,a.1.2.1,a.1.2.2.1,a.1.2.2.2.1,e.1.1,e.1.2,a.1.2.2.2.2.2.2),a.2))))) (λ(q:(aQ×Int)->Option ((List D2× (List (Int×Int))×List D1×List D3×Int×List D1×Int×Int)×Int×Int))=>
     bif (!decide (i.2=0)) then (
     q i)
     else (
     (wP (i.1.1,m.1,h,b.2.2)).bind λf=>
     bif (!decide (f.2=0)) then (
     q (i.1,f.2))
     else (
     q ((f.1,i.1.2),i.2))))) (λ(r:(aQ×Int)->Option ((List D2× (List (Int×Int))×List D1×List D3×Int×List D1×Int×Int)×Int×Int))=>
    bif (!decide (d.2=0)) then (
    r d)
    else (
    (wQ (d.1.2.2.2.1,h,b.2.1,m.1,b.2.2,1)).bind λg=>
    bif (!decide (g.2=0)) then (
    r (d.1,g.2))
    else (
    r ((d.1.1,d.1.2.1,d.1.2.2.1,g.1,d.1.2.2.2.2),d.2))))) (λ(u:(aQ×Int)->Option ((List D2× (List (Int×Int))×List D1×List D3×Int×List D1×Int×Int)×Int×Int))=>
   bif (bif decide (n.2=0) then (!(!decide (h=4611686018427387904))) else false) then (
   u (n.1,7))
   else (
   u n))) (λ(v:(aQ×Int)->Option ((List D2× (List (Int×Int))×List D1×List D3×Int×List D1×Int×Int)×Int×Int))=>
  bif (bif decide (l.2=0) then (!decide (m.2=0)) else false) then (
  v (l.1,9))
  else (
  v l))) (λ(k:(aQ×Int)->Option ((List D2× (List (Int×Int))×List D1×List D3×Int×List D1×Int×Int)×Int×Int))=>
 bif (decide (0<b.2.2)==true) then (
 (fu ([b.2.2])).bind λs=>
 bif (bif decide (j=0) then (!decide (s=0)) else false) then (
 k (b.1,1))
 else (
 k (b.1,j)))
 else (
 bif (bif decide (j=0) then true else false) then (
 k (b.1,1))
 else (
 k (b.1,j))))
def Qx:=Ctx.add P9 306 [.agg dE,.one (.int .u64),.one (.int .u64)] (.tup [.agg [.fresh 64 Y8,.fresh 279 Y9,.fresh 345 bH,.fresh 323 bF,.int .u64,.fresh 215 Y2,.int .u64,.int .u64],.leaf (.int .u64),.leaf (.int .i64)]) oq
theorem Z1:Qx.Sound:=.add (H:=hd [(1000010,[],[12]),(3000000,[],[28672]),(3000001,[],[28672]),(3000002,[],[28672]),(3000003,[],[28672]),(3000004,[],[28672]),(3000005,[],[28672]),(3000006,[],[28672]),(3000007,[],[28672]),(3000008,[],[28672]),(3000009,[],[28672]),(3000010,[],[28672]),(3000011,[],[28672]),(3000012,[],[28672]),(3000013,[],[28672]),(5000013,[],[0,0,0,0,2,2,1,1,15,4,31,0]),(12000002,[.box 28672 fE],[1]),(12000004,[.box 28672 fE],[1]),(12000005,[.box 28672 fE],[1]),(12000006,[.box 28672 fE],[1]),(12000007,[.box 28672 fE],[1]),(12000008,[.box 28672 fE],[1])]) mixed ZA Tryz.func306 λb=>by kernel_rfl
def wX (b:aQ×List (Int×Int)):Option ((List D2× (List (Int×Int))×List D1×List D3×Int×List D1×Int×Int)×List Int×Int×Int):=
 let d:Int:=b.2.length;(uv b.2).bind λg=>
 bif (!decide (g.2=0)) then (
 some (([],[],[],[],0,[],0,0),[],0,g.2))
 else (
 bif (decide (0<=d) && decide (d=d) && decide (d.toNat*8<=az)) then
 aD (λ(e:(BX)->Option ((List D2× (List (Int×Int))×List D1×List D3×Int×List D1×Int×Int)×List Int×Int×Int)) (a:BX)=>let c:=a.2.2.2.1;
 bif decide (c<d) then (
 bif ae c b.2.length then
 (oq (a.2.2.2.2.2,(rd Y0 b.2 c))).bind λf=>
 bif (!decide (f.2.2=0)) then (
 some (([],[],[],[],0,[],0,0),[],c,f.2.2))
 else (
 bif ae c a.2.2.2.2.1.length then
 e (a.1,a.2.1,a.2.2.1,(IntKind.wrap .i64 (c+1)),(a.2.2.2.2.1.set c.toNat f.2.1),f.1)
 else none)
 else none)
 else (
 some (a.2.2.2.2.2,a.2.2.2.2.1,0,0))) (([]:List Int),0,0,0,(List.replicate (d.toNat) 0:List Int),b.1)
 else none)
def Qw:=Ctx.add Qx 307 [.agg dE,.one (.slice 191 Y0)] (.tup [.agg [.sl 64 Y8,.sl 279 Y9,.sl 345 bH,.sl 323 bF,.int .u64,.sl 215 Y2,.int .u64,.int .u64],.leaf (.fresh 30 (.int .u64)),.leaf (.int .i64),.leaf (.int .i64)]) wX
theorem Z0:Qw.Sound:=.add (H:=hd [(6,[.row 5 22534 30 (.int .u64),.data 6 (.int .i64),.data 7 (.int .i64),.data 30 (.int .i64),.rowk 110592 30 (.int .u64),.box 8192 dE],[16384]),(1000007,[],[12]),(1000008,[],[13]),(3000000,[],[8192]),(3000001,[],[8192]),(3000002,[],[8192]),(3000003,[],[8192]),(3000004,[],[8192]),(3000005,[],[8192]),(3000006,[],[8192]),(3000007,[],[8192]),(3000008,[],[8192]),(3000009,[],[8192]),(3000010,[],[8192]),(3000011,[],[8192]),(3000012,[],[8192]),(3000013,[],[8192])]) mixed Z1 Tryz.func307 λb=>by kernel_rfl
def wW (b:aQ×Int×Int×Int):Option ((List D2× (List (Int×Int))×List D1×List D3×Int×List D1×Int×Int)×Int):=
 (jX b.1).bind λd=>
 cE (λ(a:(aQ×Int))=>
  cE (λ(e:(aQ×Int))=>
   bif (!decide (e.2=0)) then (
   (λo=>aj o o) (
   some (([],[],[],[],0,[],0,0),e.2)))
   else (
   (js e.1).bind λi=>
   some (i,0))) (λ(f:(aQ×Int)->Option ((List D2× (List (Int×Int))×List D1×List D3×Int×List D1×Int×Int)×Int))=>
   bif (!decide (a.2=0)) then (
   f a)
   else (
   (lh ((a.1.2.2.2.2.1,a.1.2.2.2.2.2.1),3,b.2.1,b.2.2.1)).bind λc=>
   bif (!decide (c.2.2=0)) then (
   f (a.1,c.2.2))
   else (
   f ((a.1.1,a.1.2.1,a.1.2.2.1,a.1.2.2.2.1,c.1.1,c.1.2,a.1.2.2.2.2.2.2),a.2))))) (λ(g:(aQ×Int)->Option ((List D2× (List (Int×Int))×List D1×List D3×Int×List D1×Int×Int)×Int))=>
 bif (!decide (d=0)) then (
  g (b.1,d))
  else (
  (AM (b.1.2.2.1,b.2)).bind λh=>
  bif (!decide (h.2=0)) then (
  g (b.1,h.2))
  else (
  g ((b.1.1,b.1.2.1,h.1,b.1.2.2.2),d))))
def Qv:=Ctx.add Qw 308 [.agg dE,.one (.int .u64),.one (.int .u64),.one (.int .u64)] (.tup [.agg [.fresh 64 Y8,.fresh 279 Y9,.fresh 345 bH,.fresh 323 bF,.int .u64,.fresh 215 Y2,.int .u64,.int .u64],.leaf (.int .i64)]) wW
theorem ZZ:Qv.Sound:=.add (H:=hd [(1000000,[],[4]),(3000000,[],[28673]),(3000001,[],[28673]),(3000002,[],[28673]),(3000003,[],[28673]),(3000004,[],[28673]),(12000002,[.box 28673 fE],[1]),(12000003,[.box 28673 fE],[1])]) mixed Z0 Tryz.func308 λb=>by kernel_rfl
def tY (b:aQ×Int):Option ((List D2× (List (Int×Int))×List D1×List D3×Int×List D1×Int×Int)×Int):=
 (jX b.1).bind λd=>
 cE (λ(a:(aQ×Int))=>
  cE (λ(e:(aQ×Int))=>
   bif (!decide (e.2=0)) then (
   (λo=>aj o o) (
   some (([],[],[],[],0,[],0,0),e.2)))
   else (
   (js e.1).bind λi=>
   some (i,0))) (λ(f:(aQ×Int)->Option ((List D2× (List (Int×Int))×List D1×List D3×Int×List D1×Int×Int)×Int))=>
   bif (!decide (a.2=0)) then (
   f a)
   else (
   (lh ((a.1.2.2.2.2.1,a.1.2.2.2.2.2.1),4,b.2,0)).bind λc=>
   bif (!decide (c.2.2=0)) then (
   f (a.1,c.2.2))
   else (
   f ((a.1.1,a.1.2.1,a.1.2.2.1,a.1.2.2.2.1,c.1.1,c.1.2,a.1.2.2.2.2.2.2),a.2))))) (λ(g:(aQ×Int)->Option ((List D2× (List (Int×Int))×List D1×List D3×Int×List D1×Int×Int)×Int))=>
 bif (!decide (d=0)) then (
  g (b.1,d))
  else (
  (AL (b.1.2.2.1,b.2,b.1.2.2.2.2.2.2.2)).bind λh=>
  bif (!decide (h.2=0)) then (
  g (b.1,h.2))
  else (
  g ((b.1.1,b.1.2.1,h.1,b.1.2.2.2),d))))
def Qu:=Ctx.add Qv 309 [.agg dE,.one (.int .u64)] (.tup [.agg [.fresh 64 Y8,.fresh 279 Y9,.fresh 345 bH,.fresh 323 bF,.int .u64,.fresh 215 Y2,.int .u64,.int .u64],.leaf (.int .i64)]) tY
theorem ZY:Qu.Sound:=.add (H:=hd [(3000000,[],[28672]),(3000001,[],[28672]),(3000002,[],[28672]),(3000003,[],[28672]),(3000004,[],[28672]),(12000002,[.box 28672 fE],[1]),(12000003,[.box 28672 fE],[1])]) mixed ZZ Tryz.func309 λb=>by kernel_rfl
def wV (b:List D1×Int×Int):Option (Int×Int):=
 (tQ (b.1,b.2.1)).bind λa=>
 bif (!decide (a.2=0)) then (
 some (0,a.2))
 else (
 bif ae a.1 b.1.length then
 (rj ((rd bH b.1 a.1),b.2.2)).bind λc=>
 some (c,0)
 else none)
def Qs:=Ctx.add Qu 310 [.one (.slice 345 bH),.one (.int .u64),.one (.int .u64)] (.tup [.leaf (.int .i64),.leaf (.int .i64)]) wV
theorem ZW:Qs.Sound:=.add (H:=hd []) mixed ZY Tryz.func310 λb=>by kernel_rfl
def wT (b:List D3×Int):Option ((Int×Int×Int×Int×Int)×Int):=
 (ua b).bind λa=>
 bif (!decide (a.2=0)) then (
 some ((0,0,0,0,0),a.2))
 else (
 bif ae a.1 b.1.length then
 some ((rd bF b.1 a.1),0)
 else none)
def Qr:=Ctx.add Qs 311 [.one (.slice 323 bF),.one (.int .u64)] (.tup [.agg [.int .u64,.int .u64,.int .u64,.int .u64,.int .i64],.leaf (.int .i64)]) wT
theorem ZV:Qr.Sound:=.add (H:=hd []) mixed ZW Tryz.func311 λb=>by kernel_rfl
def AK (b:D2):Option (Int×Int):=
 (pG b).bind λa=>
 some (a.1,a.2.2)
def P7:=Ctx.add Qr 345 [.agg Y8] (.tup [.leaf (.int .u64),.leaf (.int .i64)]) AK
theorem Zq:P7.Sound:=.add (H:=hd [(1000000,[],[1])]) mixed ZV Tryz.func345 λb=>by kernel_rfl
def tX (b:List D2):Option (Int×Int×Int):=
 (ow b).bind λe=>
 bif (!decide (e=0)) then (
 some (0,0,e))
 else (
 aD (λ(a:(D5)->Option (Int×Int×Int)) (c:D5)=>let d:=c.2.2.2;let f:=rd Y8 b d;let h:=IntKind.wrap .i64 (d+1);
  bif decide (d<(b.length:Int)) then (
  bif ae d b.length then
  (AK f).bind λg=>let i:=IntKind.wrap .u64 (c.2.1+g.1);
  bif (!decide (g.2=0)) then (
  some (0,0,g.2))
  else (
  bif f.2.2.2.2.2.2 then (
  a ((IntKind.wrap .u64 (c.1+f.2.1)),i,c.2.2.1,h))
  else (
  a (c.1,i,c.2.2.1,h)))
  else none)
  else (
  some (c.1,c.2.1,0))) (0,0,e,0))
def Qq:=Ctx.add P7 312 [.one (.slice 64 Y8)] (.tup [.leaf (.int .u64),.leaf (.int .u64),.leaf (.int .i64)]) tX
theorem ZU:Qq.Sound:=.add (H:=hd [(5,[.data 2 (.int .u64),.data 3 (.int .u64),.data 4 (.int .i64),.data 16 (.int .i64)],[]),(1000006,[],[6])]) mixed Zq Tryz.func312 λb=>by kernel_rfl
def AJ (b:jY):Option (Int×Int):=
 (rF b).bind λa=>
 bif (!decide (a=0)) then (
 some (0,a))
 else (
 some ((IntKind.wrap .u64 (b.1 -(IntKind.wrap .u64 (b.2.length:Int)))),0))
def P6:=Ctx.add Qq 346 [.agg tC] (.tup [.leaf (.int .u64),.leaf (.int .i64)]) AJ
theorem Zp:P6.Sound:=.add (H:=hd [(1000000,[],[1])]) mixed ZU Tryz.func346 λb=>by kernel_rfl
def tW (b:jY× (Int×Int)):Option Int:=
 (AJ b.1).bind λa=>
 bif (bif (bif (!decide (a.2=0)) then true else decide (0<(b.2.1 / 2^ (min (16:Int).toNat 64)))) then true else decide (b.1.1<=b.2.2)) then (
 some 1)
 else (
 bif decide ((IntKind.wrap .u64 (b.2.2+1)) <a.1) then (
 some 13)
 else (
 some 0))
def Qp:=Ctx.add P6 313 [.agg tC,.agg Y0] (.one (.leaf (.int .i64))) tW
theorem ZT:Qp.Sound:=.add (H:=hd [(1000000,[],[2,3])]) mixed Zp Tryz.func313 λb=>by kernel_rfl
def tV (b:jY× (Int×Int)×Int):Option (List D1× (Int×Int)×Int):=
 let f:=IntKind.wrap .i64 (b.2.2 - 1);let g:=IntKind.wrap .u64 (b.1.1 - 1);let h:=IntKind.wrap .i64 ((b.1.2.length:Int) -(IntKind.wrap .i64 (IntKind.wrap .u64 (g - b.2.1.2))));let d:=b.1.2.drop (h.toNat);(tW (b.1,b.2.1)).bind λi=>
 bif (!decide (i=0)) then (
 some ([],(0,0),i))
 else (
 bif decide (b.2.2<0) then (
 some ([],(0,0),1))
 else (
 bif ae h (b.1.2.length+1) then
 aD (λ(c:(List D1×Int)->Option (List D1× (Int×Int)×Int)) (a:List D1×Int)=>let e:=rd Y2 d a.2;let j:=IntKind.wrap .i64 (a.2+1);let k:Option (List D1× (Int×Int)×Int):=bif decide ((a.1.length:Int) <b.2.2) then (some (a.1,(b.2.1.1,g),0)) else (bif decide (0<b.2.2) then (bif ae f a.1.length then some (a.1,(b.2.1.1,(rd Y2 a.1 f).1),0) else none) else (some (a.1,b.2.1,0)));
 bif decide (a.2<(d.length:Int)) then (
 bif ae a.2 d.length then
 bif decide ((a.1.length:Int)=b.2.2) then k
 else (
 bif decide (0<=e.2.1) then
 bif decide ((df .and .u64 (b.2.1.1 / 2^ (min e.2.1.toNat 64)) 1)=0) then (
 c (a.1,j))
 else (
 bif decide ((a.1.length+1)*32<=az) then
 c ((a.1++ ([e])),j)
 else none)
 else none)
 else none)
 else k) (([]:List D1),0)
 else none))
def Qo:=Ctx.add Qp 314 [.agg tC,.agg Y0,.one (.int .i64)] (.tup [.leaf (.fresh 215 Y2),.agg [.int .u64,.int .u64],.leaf (.int .i64)]) tV
theorem ZS:Qo.Sound:=.add (H:=hd [(8,[.row 6 26632 215 Y2,.data 39 (.int .i64)],[28672,16384]),(1000000,[],[3]),(1000009,[],[12]),(5000018,[],[0,0,0,0,1,1,7,2,15,0])]) mixed ZT Tryz.func314 λb=>by kernel_rfl
def AI (b:List bZ×Int×List Int):Option (List bZ×Int×Int):=
 bif decide (b.2.1<0) then (
 some ([],0,1))
 else (
 (w6 (b.1,0,b.2)).bind λa=>
 some a)
def GC:=Ctx.add Qo 347 [.agg (.slice 286 eB),.one (.int .i64),.one aY] (.tup [.agg [.fresh 286 eB],.leaf (.int .i64),.leaf (.int .i64)]) AI
theorem Zo:GC.Sound:=.add (H:=hd [(1000000,[],[3])]) mixed ZS Tryz.func347 λb=>by kernel_rfl
def P5:=Ctx.addI GC 348 (hd []) 9000348 Tryz.f348
theorem Zn:P5.Sound:=Ctx.Sound.addI (C:=GC) mixed Zo Tryz.func348
def oo (b:List bZ×cD×D9):Option (List bZ× (Int×List D9×Int)×Int):=
 let a:Int:=b.2.1.2.1.length;let d:=b.2.1.2.1.take (a.toNat);(oy b.2.2).bind λe=>
 bif ((!decide (e.2=0))==false) then (
 (mS b.2.1).bind λf=>
 bif ((!decide (f=0))==false) then (
 (tG b.1).bind λg=>
 bif (!decide (g=0)) then (
 some ([],(0,[],0),1))
 else (
 bif decide (a=16) then (
 some ([],(0,[],0),7))
 else (
 (AI (b.1,b.2.1.2.2,e.1)).bind λc=>
 bif (!decide (c.2.2=0)) then (
 some ([],(0,[],0),c.2.2))
 else (
 (λo=>aj (aj o o) o) (
 bif (ae a (b.2.1.2.1.length+1) && decide (a=a)) then
 bif decide ((d.length+1)*24<=az) then
 (λo=>aj o o) (
 some (c.1,(b.2.1.1,d++ ([b.2.2]),c.2.1),0))
 else none
 else none)))))
 else (
 some ([],(0,[],0),1)))
 else (
 some ([],(0,[],0),1))
def Qn:=Ctx.add P5 315 [.agg (.slice 286 eB),.agg iq,.agg Y1] (.tup [.agg [.fresh 286 eB],.agg [.int .u64,.fresh 149 Y1,.int .i64],.leaf (.int .i64)]) oo
theorem ZR:Qn.Sound:=.add (H:=hd [(1000000,[],[5]),(5000009,[],[0,0,1,1,2,2,0,0,8,8,20,20,0,0,63,0,191,160,511,0,1023,576]),(5000010,[],[0,0,0,0,1,1,7,2,15,0])]) mixed Zn Tryz.func315 λb=>by kernel_rfl
def Qm:Ctx:=Ctx.addIns Qn 316 169 bA
theorem ZQ:Qm.Sound:=rZ ajU ajz ak1 (t:=bA) (x0:=Ty.dflt bA) (by kernel_rfl) ZR rfl
def mT (b:List D0×D0×Int):Option (List D0×Int):=
 (wY (b.1,b.2.1.1,b.2.2)).bind λa=>
 bif ((!decide (a.2.2.2=0))==false) then (
 (xq b.2.1).bind λc=>
 bif (!c) then (
 some ([],1))
 else (
 bif a.2.2.1 then (
 some ([],6))
 else (
 bif decide ((a.1.length:Int)=128) then (
 some ([],7))
 else (
 (wS b.2.1).bind λd=>
 bif (ae a.2.1 (a.1.length+1) && decide ((a.1.length+1)*64<=az)) then
 some ((de a.1 a.2.1.toNat d),0)
 else none))))
 else (
 some ([],1))
def GZ:=Ctx.add Qm 264 [.one (.slice 169 bA),.agg bA,.one (.int .u64)] (.tup [.leaf (.fresh 169 bA),.leaf (.int .i64)]) mT
theorem aaB:GZ.Sound:=.add (H:=hd [(1000000,[],[4])]) mixed ZQ Tryz.func264 λb=>by kernel_rfl
def G0:=Ctx.addI GZ 263 (hd [(1000001,[],[4]),(1000032,[],[9]),(3000000,[],[139264]),(3000001,[],[139264]),(3000002,[],[139264]),(3000003,[],[139264]),(3000004,[],[139264]),(3000036,[],[139264]),(3000005,[],[139264]),(3000006,[],[139264]),(3000007,[],[139264]),(3000008,[],[139264]),(3000009,[],[139264]),(3000010,[],[139264]),(3000011,[],[139264]),(3000012,[],[139264]),(3000013,[],[139264]),(3000014,[],[139264]),(3000015,[],[139264]),(3000016,[],[139264]),(3000017,[],[139264]),(3000018,[],[139264]),(3000019,[],[139264]),(3000020,[],[139264]),(3000021,[],[139264]),(3000022,[],[139264]),(3000023,[],[139264]),(3000024,[],[139264]),(3000025,[],[139264]),(3000026,[],[139264]),(3000027,[],[139264]),(3000028,[],[139264]),(3000029,[],[139264]),(3000030,[],[139264]),(3000031,[],[139264]),(3000032,[],[139264]),(3000033,[],[139264]),(3000034,[],[139264]),(3000035,[],[139264]),(31,[.data 2 (.int .i64),.data 239 (.int .i64),.box 139264 (.pair cH Fi)],[9000263,446464,217088,24577,9000202,24576]),(5000001,[],[0,0,1,1,2,2,4,4,8,8,0,0,32,32,64,64,128,128,0,0,512,512,1024,1024,0,0,4127,16,12799,4352,32767,2048]),(5000004,[],[0,0,0,0,0,0,4,4,8,8,0,0,32,32,0,0,128,128,336,336,512,512,1024,1024,1024,1024,1024,1024,4093,1,20477,18432,57343,2,122879,65536,188415,135168,524287,8192]),(5000006,[],[0,0,0,0,0,0,4,4,8,8,0,0,32,32,80,80,128,128,256,256,256,256,256,256,256,256,1021,1,9213,8704,26623,2,59391,32768,92159,66560,262143,4096]),(5000008,[],[0,0,0,0,2,2,4,4,0,0,16,16,0,0,64,64,0,0,256,256,680,680,1024,1024,2048,2048,2048,2048,8191,1,24575,20480,65535,8192]),(5000010,[],[0,0,0,0,2,2,4,4,0,0,16,16,40,40,64,64,128,128,128,128,511,1,1535,1280,4095,512]),(5000012,[],[0,0,0,0,2,2,4,4,8,8,0,0,32,32,0,0,128,128,256,256,512,512,1104,1104,2048,2048,4096,4096,4096,4096,16383,1,49151,32768,81919,73728,262143,16384]),(5000015,[],[0,0,1,1,2,2,4,4,0,0,16,16,40,40,64,64,128,128,128,128,511,256,2047,512]),(5000016,[],[0,0,0,0,0,0,0,0,8,8,0,0,32,32,0,0,128,128,25,1,537,512,1049,1040,3707,2,7803,4096,11899,8256,32767,4,65535,32768,98303,65792]),(5000020,[],[0,0,0,0,2,2,4,4,8,8,0,0,32,32,0,0,128,128,320,320,1,1,1024,1024,2048,2048,5119,4112,9215,8704]),(5000021,[],[0,0,1,1,2,2,4,4,0,0,0,0,32,32,64,64,128,128,16,16,512,512,1024,1024,2304,2304,4096,4096,8200,8200,32767,16384]),(5000023,[],[0,0,0,0,2,2,4,4,8,8,1,1,32,32,64,64,144,144,511,256]),(5000026,[],[0,0,0,0,0,0,4,4,8,8,16,16,0,0,64,64,128,128,0,0,512,512,1024,1024,2048,2048,4384,4384,8192,8192,16384,16384,16384,16384,16384,16384,65533,1,327677,262144,589821,557056,1966079,2,4063231,2162688,8388607,131072]),(5000033,[],[0,0,0,0,0,0,4,4,8,8,16,16,32,32,64,64,0,0,256,256,512,512,1024,1024,0,0,6272,6272,8192,8192,16384,16384,16384,16384,16384,16384,65533,1,327677,262144,589821,524288,1114109,1048576,2162685,2129920,8257535,2,16646143,8388608,25034751,16842752,67108863,131072]),(4000000,[],[4398046511273,4398046511286,4398046511299])]) 9000263 Tryz.f263
theorem aaC:G0.Sound:=Ctx.Sound.addI (C:=GZ) mixed aaB Tryz.func263
def RQ:=Ctx.addI G0 202 (hd [(1000001,[],[4]),(5000005,[],[0,0,0,0,2,2,4,4,8,8,0,0,32,32,64,64,128,128,256,256,529,529,1024,1024,2048,2048,2048,2048,8191,4096,32767,8192]),(5000012,[],[0,0,1,1,0,0,4,4,8,8,16,16,32,32,0,0,0,0,450,450,512,512,1024,1024,1024,1024,4095,2048,16383,4096]),(5000018,[],[0,0,1,1,0,0,4,4,8,8,16,16,32,32,64,64,0,0,256,256,512,512,1024,1024,2048,2048,4096,4096,0,0,24706,24706,32768,32768,65536,65536,65536,65536,262143,131072,1048575,262144]),(5000033,[],[0,0,0,0,2,2,0,0,8,8,16,16,32,32,64,64,0,0,0,0,0,0,1920,1920,0,0,6148,6148,8192,8192,16384,16384,16384,16384,65535,1,196607,131072,327679,262144,589823,524288,1114111,1081344,4194303,65536]),(12000023,[.data 15 (.int .i64),.box 139264 (.pair cH Fi)],[1])]) 9000202 Tryz.f202
theorem abn:RQ.Sound:=Ctx.Sound.addI (C:=G0) mixed aaC Tryz.func202
def pL (b:cI×Int×List Int):Option (cI×List Int×Int):=
 let m:=b.1.1.1;let j:=b.1.2;let l:=b.1.1.2;let t:=b.1.1.2.2.2.1;let e:=b.2.1;let H:=bg Y0 j e;let w:=b.1.1.1.2.2.2.2.2.2.2;let x:=IntKind.wrap .u64 (w+100);(rl b.1).bind λr1=>
 bif (bif (bif (!decide (r1=0)) then true else decide (e<0)) then true else decide (16<=e)) then (
 some (((([],[],[],[],0,[],0,0),[],[],[],[]),(0,0),(0,0),(0,0),(0,0),(0,0),(0,0),(0,0),(0,0),(0,0),(0,0),(0,0),(0,0),(0,0),(0,0),(0,0),0,0),[],1))
 else (
 (xt b.2.2).bind λd=>let y:=d.1.2.2.2.1;let z:=d.1.2.2.2.2.1;let y14:=wX (m,d.1.2.2.2.2.2.2.2.2.2.1);let y7:=d.1.2.2.2.2.2.2.2.2.2.2;let k:=d.1.2.1;let y3:=d.1.2.2.2.2.2.2.2.1;let y5:=tV ((b.1.1.1.2.2.2.2.1,b.1.1.1.2.2.2.2.2.1),H,(IntKind.wrap .i64 (if 16<y3 then 16 else y3)));let G:=d.1.2.2.2.2.2.2.1;let y27:=wT (b.1.1.1.2.2.2.1,G);let y24:=wV (b.1.1.1.2.2.1,G,w);let y13:=wW (m,G,y3,d.1.2.2.2.2.2.2.2.2.1);let I:=da j e (G,y3);let y9:=tW ((b.1.1.1.2.2.2.2.1,b.1.1.1.2.2.2.2.2.1),(bg Y0 I e));
 bif decide (d.2=0) then (
 cE (λ(x3:BW)=>
 bif (!decide (x3.1=0)) then (
 (iX (d.1.1,x3.1,0,0,0,[],[],0,[],0)).bind λr4=>
 bif (!decide (r4.2=0)) then (
 some (((([],[],[],[],0,[],0,0),[],[],[],[]),(0,0),(0,0),(0,0),(0,0),(0,0),(0,0),(0,0),(0,0),(0,0),(0,0),(0,0),(0,0),(0,0),(0,0),(0,0),0,0),[],r4.2))
 else (
 (eD b.1).bind λr5=>
 some (r5,r4.1,0)))
 else (
 (eD x3.2.2.1).bind λr6=>
 some (r6,x3.2.1,0))) (λ(n:(BW)->Option (cI×List Int×Int))=>let y8:Option (cI×List Int×Int):=n (11,[],(b.1,e,d.1,0,0,0,0,0,[],[],0,[],0));
 (rG ((m,b.1.1.2.1,b.1.1.2.2.1,t,[]),d.1,(IntKind.wrap .u64 e))).bind λr7=>
 bif (bif (!decide (r7.2=0)) then true else (!r7.1)) then y8
 else (
 (xf d.1).bind λJ=>
 bif (!decide (J.2=0)) then (
 n (J.2,[],(b.1,e,d.1,0,0,0,0,0,[],[],0,[],0)))
 else (
 bif (!decide (d.1.2.2.1=0)) then (
 (xe (t,d.1.2.2.1,J.1,w)).bind λr9=>
 bif (!decide (r9.2=5)) then (
 n (r9.2,r9.1,(b.1,e,d.1,0,0,0,0,0,[],[],0,[],0)))
 else (
 (q9 d.1).bind λK=>
 bif (!decide (K.2=0)) then (
 n (K.2,[],(b.1,e,d.1,0,0,0,0,0,[],[],0,[],0)))
 else (
 (rm (b.1.1.2.2.2.2,y,z,K.1)).bind λu=>
 bif decide (u.2=8) then y8
 else (
 bif (!decide (u.2=0)) then (
 n (u.2,[],(b.1,e,d.1,0,0,0,0,0,[],[],0,[],0)))
 else (
 cE (λ(f:Int×oB)=>let L:=f.2.1.1.2.1;let M:=f.2.1.1.2.2.1;let N:=f.2.2.2.1.2.2.1;let A:=f.2.2.2.2.2;let B:=f.2.2.2.1.1;
  bif (!decide (f.1=0)) then (
  n (f.1,[],f.2))
  else (
  (iX (B,A)).bind λp=>
  bif (bif (!decide (p.2=0)) then true else decide (N=0)) then (
  n (p.2,p.1,(((f.2.1.1.1,L,M,f.2.1.1.2.2.2.1,u.1),f.2.1.2),f.2.2.1,f.2.2.2.1,B,A)))
  else (
  bif decide (x<w) then (
  (mT (t,(N,J.1,p.1,18446744073709551615),w)).bind λr14=>
  n (r14.2,p.1,(((f.2.1.1.1,L,M,r14.1,u.1),f.2.1.2),f.2.2.1,f.2.2.2.1,B,A)))
  else (
  (mT (t,(N,J.1,p.1,x),w)).bind λr15=>
  n (r15.2,p.1,(((f.2.1.1.1,L,M,r15.1,u.1),f.2.1.2),f.2.2.1,f.2.2.2.1,B,A)))))) (λ(h:(Int×oB)->Option (cI×List Int×Int))=>
  (λo=>aj o o) (
  bif decide (k=1) then (
  (oq (m,G,y3)).bind λO=>
  h (O.2.2,(((O.1,l),j),e,d.1,0,0,O.2.1,0,0,[],[],0,[],0)))
  else (
  bif decide (k=2) then (
  y14.bind λP=>
  h (P.2.2.2,(((P.1,l),j),e,d.1,0,0,0,0,0,P.2.1,[],0,[],0)))
  else (
  bif decide (k=3) then (
  y13.bind λr18=>
  h (r18.2,(((r18.1,l),j),e,d.1,0,0,0,0,0,[],[],0,[],0)))
  else (
  bif decide (k=4) then (
  (tY (m,G)).bind λr19=>
  h (r19.2,(((r19.1,l),j),e,d.1,0,0,0,0,0,[],[],0,[],0)))
  else (
  bif decide (k=5) then (
  y24.bind λr20=>
  h (r20.2,(b.1,e,d.1,0,0,0,0,r20.1,[],[],0,[],0)))
  else (
  bif decide (k=6) then (
  y27.bind λC=>
  (λo=>aj (aj o (aj o o)) (aj (aj o o) (aj o o))) (
  h (C.2,(b.1,e,d.1,0,0,C.1.2.1,C.1.2.2.2.1,C.1.2.2.2.2,[],[],0,[],0))))
  else (
  bif decide (k=7) then (
  (tX b.1.1.1.1).bind λQ=>
  h (Q.2.2,(b.1,e,d.1,0,0,Q.1,Q.2.1,0,[],[],0,[],0)))
  else (
  bif decide (k=8) then (
  bif ae e 16 then
  bif ae e 16 then
  y9.bind λr23=>
  h (r23,((b.1.1,I),e,d.1,0,0,0,0,0,[],[],0,[],0))
  else none
  else none)
  else (
  bif decide (k=9) then (
  bif ae e 16 then
  bif decide (H.1=0) then (
  h (10,(b.1,e,d.1,0,0,0,0,0,[],[],0,[],0)))
  else (
  (λo=>aj o o) (
  y5.bind λR=>let y35:=da j e R.2.1;
  h (R.2.2,((b.1.1,y35),e,d.1,0,0,(bg Y0 y35 e).2,0,0,[],R.1,0,[],0))))
  else none)
  else (
  bif decide (k=10) then (
  aD (λ(S:(mc)->Option (cI×List Int×Int)) (a:mc)=>let y38:=a.2.2.2.2.2.2.2.2.2.1;let y33:=a.2.2.2.2.2.2.2.2.2.2.1;let y30:=a.2.2.2.2.2.2.2.2.2.2.2.1;
   bif decide (a.2.1<(y7.length:Int)) then (
   bif ae a.2.1 y7.length then
   (oo (a.2.2.1.1.2.1,a.2.2.2.2.2.2.2.2.2.2.2.2,(rd Y1 y7 a.2.1))).bind λq=>
   bif (!decide (q.2.2=0)) then (
   h (q.2.2,(((a.2.2.1.1.1,q.1,a.2.2.1.1.2.2),a.2.2.1.2),a.2.2.2.1,a.2.2.2.2.1,a.2.2.2.2.2.1,a.2.2.2.2.2.2.1,a.2.2.2.2.2.2.2.1,a.2.2.2.2.2.2.2.2.1,y38,y33,y30,q.2.1)))
   else (
   S (q.2.2,(IntKind.wrap .i64 (a.2.1+1)),(((a.2.2.1.1.1,q.1,a.2.2.1.1.2.2),a.2.2.1.2),a.2.2.2.1,a.2.2.2.2.1,a.2.2.2.2.2.1,a.2.2.2.2.2.2.1,a.2.2.2.2.2.2.2.1,a.2.2.2.2.2.2.2.2.1,y38,y33,y30,q.2.1)))
   else none)
   else (
   h (a.1,a.2.2))) (0,0,(b.1,e,d.1,0,0,0,0,0,[],[],y,z,d.1.2.2.2.2.2.1)))
  else (
  h (0,(b.1,e,d.1,0,0,0,0,0,[],[],0,[],0)))))))))))))))))))
 else (
 (q9 d.1).bind λT=>
 bif (!decide (T.2=0)) then (
 n (T.2,[],(b.1,e,d.1,0,0,0,0,0,[],[],0,[],0)))
 else (
 (rm (b.1.1.2.2.2.2,y,z,T.1)).bind λv=>
 bif decide (v.2=8) then y8
 else (
 bif (!decide (v.2=0)) then (
 n (v.2,[],(b.1,e,d.1,0,0,0,0,0,[],[],0,[],0)))
 else (
 cE (λ(g:Int×oB)=>let U:=g.2.1.1.2.1;let V:=g.2.1.1.2.2.1;let W:=g.2.2.2.1.2.2.1;let D:=g.2.2.2.2.2;let E:=g.2.2.2.1.1;
  bif (!decide (g.1=0)) then (
  n (g.1,[],g.2))
  else (
  (iX (E,D)).bind λr=>
  bif (bif (!decide (r.2=0)) then true else decide (W=0)) then (
  n (r.2,r.1,(((g.2.1.1.1,U,V,g.2.1.1.2.2.2.1,v.1),g.2.1.2),g.2.2.1,g.2.2.2.1,E,D)))
  else (
  bif decide (x<w) then (
  (mT (t,(W,J.1,r.1,18446744073709551615),w)).bind λr31=>
  n (r31.2,r.1,(((g.2.1.1.1,U,V,r31.1,v.1),g.2.1.2),g.2.2.1,g.2.2.2.1,E,D)))
  else (
  (mT (t,(W,J.1,r.1,x),w)).bind λr32=>
  n (r32.2,r.1,(((g.2.1.1.1,U,V,r32.1,v.1),g.2.1.2),g.2.2.1,g.2.2.2.1,E,D)))))) (λ(i:(Int×oB)->Option (cI×List Int×Int))=>
  (λo=>aj o o) (
  bif decide (k=1) then (
  (oq (m,G,y3)).bind λX=>
  i (X.2.2,(((X.1,l),j),e,d.1,0,0,X.2.1,0,0,[],[],0,[],0)))
  else (
  bif decide (k=2) then (
  y14.bind λY=>
  i (Y.2.2.2,(((Y.1,l),j),e,d.1,0,0,0,0,0,Y.2.1,[],0,[],0)))
  else (
  bif decide (k=3) then (
  y13.bind λr35=>
  i (r35.2,(((r35.1,l),j),e,d.1,0,0,0,0,0,[],[],0,[],0)))
  else (
  bif decide (k=4) then (
  (tY (m,G)).bind λr36=>
  i (r36.2,(((r36.1,l),j),e,d.1,0,0,0,0,0,[],[],0,[],0)))
  else (
  bif decide (k=5) then (
  y24.bind λr37=>
  i (r37.2,(b.1,e,d.1,0,0,0,0,r37.1,[],[],0,[],0)))
  else (
  bif decide (k=6) then (
  y27.bind λF=>
  (λo=>aj (aj o (aj o o)) (aj (aj o o) (aj o o))) (
  i (F.2,(b.1,e,d.1,0,0,F.1.2.1,F.1.2.2.2.1,F.1.2.2.2.2,[],[],0,[],0))))
  else (
  bif decide (k=7) then (
  (tX b.1.1.1.1).bind λZ=>
  i (Z.2.2,(b.1,e,d.1,0,0,Z.1,Z.2.1,0,[],[],0,[],0)))
  else (
  bif decide (k=8) then (
  bif ae e 16 then
  bif ae e 16 then
  y9.bind λr40=>
  i (r40,((b.1.1,I),e,d.1,0,0,0,0,0,[],[],0,[],0))
  else none
  else none)
  else (
  bif decide (k=9) then (
  bif ae e 16 then
  bif decide (H.1=0) then (
  i (10,(b.1,e,d.1,0,0,0,0,0,[],[],0,[],0)))
  else (
  (λo=>aj o o) (
  y5.bind λr41=>let y36:=da j e r41.2.1;
  i (r41.2.2,((b.1.1,y36),e,d.1,0,0,(bg Y0 y36 e).2,0,0,[],r41.1,0,[],0))))
  else none)
  else (
  bif decide (k=10) then (
  aD (λ(rec42:(mc)->Option (cI×List Int×Int)) (c:mc)=>let y40:=c.2.2.2.2.2.2.2.2.2.1;let y34:=c.2.2.2.2.2.2.2.2.2.2.1;let y32:=c.2.2.2.2.2.2.2.2.2.2.2.1;
   bif decide (c.2.1<(y7.length:Int)) then (
   bif ae c.2.1 y7.length then
   (oo (c.2.2.1.1.2.1,c.2.2.2.2.2.2.2.2.2.2.2.2,(rd Y1 y7 c.2.1))).bind λs=>
   bif (!decide (s.2.2=0)) then (
   i (s.2.2,(((c.2.2.1.1.1,s.1,c.2.2.1.1.2.2),c.2.2.1.2),c.2.2.2.1,c.2.2.2.2.1,c.2.2.2.2.2.1,c.2.2.2.2.2.2.1,c.2.2.2.2.2.2.2.1,c.2.2.2.2.2.2.2.2.1,y40,y34,y32,s.2.1)))
   else (
   rec42 (s.2.2,(IntKind.wrap .i64 (c.2.1+1)),(((c.2.2.1.1.1,s.1,c.2.2.1.1.2.2),c.2.2.1.2),c.2.2.2.1,c.2.2.2.2.1,c.2.2.2.2.2.1,c.2.2.2.2.2.2.1,c.2.2.2.2.2.2.2.1,c.2.2.2.2.2.2.2.2.1,y40,y34,y32,s.2.1)))
   else none)
   else (
   i (c.1,c.2.2))) (0,0,(b.1,e,d.1,0,0,0,0,0,[],[],y,z,d.1.2.2.2.2.2.1)))
  else (
  i (0,(b.1,e,d.1,0,0,0,0,0,[],[],0,[],0))))))))))))))))))))))
 else (
 bif (!decide (d.2=0)) then (
 (iX (d.1.1,d.2,0,0,0,[],[],0,[],0)).bind λr44=>
 bif (!decide (r44.2=0)) then (
 some (((([],[],[],[],0,[],0,0),[],[],[],[]),(0,0),(0,0),(0,0),(0,0),(0,0),(0,0),(0,0),(0,0),(0,0),(0,0),(0,0),(0,0),(0,0),(0,0),(0,0),0,0),[],r44.2))
 else (
 (eD b.1).bind λr45=>
 some (r45,r44.1,0)))
 else (
 (eD b.1).bind λr46=>
 some (r46,[],0))))
def SC:=Ctx.add RQ 157 [.agg cH,.one (.int .i64),.one aY] (.tup [.agt cH,.leaf (.sl 5 (.int .u8)),.leaf (.int .i64)]) pL
theorem ab0:SC.Sound:=.add (H:=hd [(1000000,[],[3]),(1000003,[],[9]),(1000005,[],[12]),(1000007,[],[12]),(1000010,[],[12]),(3000000,[],[139264]),(3000001,[],[139264]),(3000002,[],[139264]),(3000003,[],[139264]),(3000004,[],[139264]),(3000005,[],[139264]),(3000006,[],[139264]),(3000007,[],[139264]),(3000008,[],[139264]),(3000009,[],[139264]),(3000010,[],[139264]),(3000011,[],[139264]),(3000012,[],[139264]),(3000013,[],[139264]),(12000007,[.data 10 (.int .i64),.data 12 aY,.box 139264 (.pair cH Fi)],[1])]) mixed abn Tryz.func157 λb=>by kernel_rfl
end
end Go.Proofs.YtkihadlgknhpkaaGreatDoor.T
