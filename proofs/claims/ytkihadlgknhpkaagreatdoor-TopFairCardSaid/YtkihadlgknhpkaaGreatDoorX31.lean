/- Part 31: lemmas that the last text needs. -/
import Derived.Test.YtkihadlgknhpkaaGreatDoorX30
set_option linter.all false
set_option autoImplicit true
set_option relaxedAutoImplicit true
namespace Go.Proofs.YtkihadlgknhpkaaGreatDoor.T
set_option maxRecDepth 100000
open Go Go.Fw Go.Proofs
noncomputable section
def xB (b:List bq):Option Int:=
 bif decide (64<(b.length:Int)) then (
 some 1)
 else (
 aD (λ(c:(Int×Int)->Option Int) (a:Int×Int)=>let d:=IntKind.wrap .i64 (a.2 - 1);let e:Option Int:=c (a.1,(IntKind.wrap .i64 (a.2+1)));
  bif decide (a.2<(b.length:Int)) then (
  bif ae a.2 b.length then
  bif (decide (4096<((rd cP b a.2).2.length:Int))==false) then (
  bif (decide (0<a.2)==true) then (
  bif ae d b.length then
  (la ((rd cP b d),(rd cP b a.2).1)).bind λf=>
  bif decide (0<=f) then (
  some 1)
  else e
  else none)
  else e)
  else (
  some 1)
  else none)
  else (
  some 0)) (0,0))
def S2:=Ctx.add Qj 127 [.one (.slice 125 cP)] (.one (.leaf (.int .i64))) xB
theorem ack:S2.Sound:=.add (H:=hd [(4,[.data 2 (.int .i64),.data 10 (.int .i64)],[]),(1000005,[],[4]),(5000006,[],[0,0,1,1,2,2,4,4,8,8,16,16,48,48,80,80,128,128,128,128,640,640,1408,1408,2176,2176,128,128,8320,8320,20608,20608,32896,32896,65680,65680,131088,131088])]) mixed ZN Tryz.func127 λb=>by kernel_rfl
def Bq (b:List bq×Int×Unit):Option (Int×Bool):=
 aD (λ(c:(Int×Int)->Option (Int×Bool)) (a:Int×Int)=>let d:=IntKind.wrap .i64 ((IntKind.wrap .u64 (IntKind.wrap .i64 (a.1+a.2))) / 2^ (min (1:Int).toNat 64));
  bif decide (a.1<a.2) then (
  bif ae d b.1.length then
  (la ((rd cP b.1 d),b.2.1)).bind λe=>
  bif decide (e<0) then (
  c ((IntKind.wrap .i64 (d+1)),a.2))
  else (
  c (a.1,d))
  else none)
  else (
  bif (decide (a.1<(b.1.length:Int))==true) then (
  bif ae a.1 b.1.length then
  (la ((rd cP b.1 a.1),b.2.1)).bind λf=>
  some (a.1,decide (f=0))
  else none)
  else (
  some (a.1,false)))) (0,(b.1.length:Int))
def Sc:=Ctx.add S2 179 [.one (.slice 125 cP),.one (.int .u64),.fn 67] (.tup [.leaf (.int .i64),.leaf (.bool)]) Bq
theorem abE:Sc.Sound:=.add (H:=hd [(3,[.data 9 (.int .i64),.data 10 (.int .i64)],[])]) mixed ack Tryz.func179 λb=>by kernel_rfl
def xD (b:List bq×Int):Option (List Int×Int):=
 (xB b.1).bind λc=>
 bif (!decide (c=0)) then (
 some ([],c))
 else (
 (Bq (b.1,b.2,())).bind λa=>
 bif (!a.2) then (
 some ([],5))
 else (
 bif ae a.1 b.1.length then
 (cg (rd cP b.1 a.1).2).bind λd=>
 some (d,0)
 else none))
def Tf:=Ctx.add Sc 115 [.one (.slice 125 cP),.one (.int .u64)] (.tup [.leaf (.fresh 5 (.int .u8)),.leaf (.int .i64)]) xD
theorem acz:Tf.Sound:=.add (H:=hd []) mixed abE Tryz.func115 λb=>by kernel_rfl
def BQ (b:List bq×Int):Option (Int×Int):=
 (xD b).bind λa=>
 bif (!decide (a.2=0)) then (
 some (0,a.2))
 else (
 (iw a.1).bind λc=>
 bif (!decide (c.2.2=0)) then (
 some (0,c.2.2))
 else (
 bif decide (c.2.1<(a.1.length:Int)) then (
 some (0,2))
 else (
 some (c.1,0))))
def Te:=Ctx.add Tf 116 [.one (.slice 125 cP),.one (.int .u64)] (.tup [.leaf (.int .u64),.leaf (.int .i64)]) BQ
theorem acy:Te.Sound:=.add (H:=hd []) mixed acz Tryz.func116 λb=>by kernel_rfl
def BP (b:Int):Option Int:=
 bif decide (b<2) then (
 some (IntKind.wrap .u64 (1+ (IntKind.wrap .u64 b))))
 else (
 some (IntKind.wrap .u64 (16+ (IntKind.wrap .u64 (IntKind.wrap .i64 (b - 2))))))
def Td:=Ctx.add Te 117 [.one (.int .i64)] (.one (.leaf (.int .u64))) BP
theorem acx:Td.Sound:=.add (H:=hd []) mixed acy Tryz.func117 λb=>by kernel_rfl
def mV (b:D9):Option Int:=
 let a:Option Int:=bif (!decide (b.2.2=0)) then (some 1) else (some 0);bif decide (b.1=4) then (
 (fu ([b.2.1])).bind λc=>
 some c)
 else (
 bif decide (b.1=3) then (
 (fu ([b.2.1])).bind λd=>
 bif (!decide (d=0)) then (
 some 1)
 else a)
 else (
 bif decide (b.1=2) then (
 bif decide (0<(b.2.1 / 2^ (min (16:Int).toNat 64))) then (
 some 1)
 else a)
 else (
 bif decide (b.1=1) then (
 bif decide (b.1=1) then a
 else (
 some 1))
 else (
 bif decide (b.1=5) then a
 else (
 some 1)))))
def Tc:=Ctx.add Td 118 [.agg Y1] (.one (.leaf (.int .i64))) mV
theorem acw:Tc.Sound:=.add (H:=hd [(1000000,[],[1])]) mixed acx Tryz.func118 λb=>by kernel_rfl
def iu (b:List Int):Option ((Int×Int×Int)×Int):=
 aD (λ(d:(OS)->Option ((Int×Int×Int)×Int)) (a:OS)=>let f:=a.2.2.2.2;let g:=rd (.int .u64) f 2;let h:=rd (.int .u64) f 1;let i:=IntKind.wrap .i64 (rd (.int .u64) f 0);let e:=a.2.2.2.1;let j:=IntKind.wrap .i64 (e+1);
  bif decide (e<a.2.2.1) then (
  (iw a.1).bind λc=>let k:Option ((Int×Int×Int)×Int):=bif (bif decide (e=0) then decide (c.1=4) else false) then (bif ae c.2.1 (a.1.length+1) then bif ae e 3 then d (a.1.drop c.2.1.toNat,a.2.1,(IntKind.wrap .i64 (a.2.2.1+1)),j,a.2.2.2.2.set e.toNat c.1) else none else none) else (bif ae c.2.1 (a.1.length+1) then bif ae e 3 then d (a.1.drop c.2.1.toNat,a.2.1,a.2.2.1,j,a.2.2.2.2.set e.toNat c.1) else none else none);
  bif (!decide (c.2.2=0)) then (
  some ((0,0,0),c.2.2))
  else (
  bif (decide (e=0)==true) then (
  bif (bif decide (c.1<1) then true else decide (5<c.1)) then (
  some ((0,0,0),2))
  else k)
  else k))
  else (
  bif ae 0 3 then
  bif ae 1 3 then
  bif ae 2 3 then
  bif (decide (0<(a.1.length:Int))==false) then (
  (mV (i,h,g)).bind λl=>
  bif (!decide (l=0)) then (
  some ((0,0,0),2))
  else (
  some ((i,h,g),0)))
  else (
  some ((0,0,0),2))
  else none
  else none
  else none)) (b,0,2,0,[0,0,0])
def Pk:=Ctx.add Tc 70 [.one aY] (.tup [.agg [.int .i64,.int .u64,.int .u64],.leaf (.int .i64)]) iu
theorem Yf:Pk.Sound:=.add (H:=hd [(4,[.data 0 aY,.data 3 (.int .i64),.data 5 (.int .i64),.data 6 (.int .i64),.arr 16384 30 (.int .u64) 3],[8192]),(1000014,[],[10]),(5000013,[],[0,0,0,0,0,0,0,0,12,12,3,1,35,34,127,20])]) mixed acw Tryz.func70 λb=>by kernel_rfl
def iv (b:List Int):Option ((Int×List D9×Int)×Int):=
 (tU b).bind λc=>let k:=c.1.drop ((2:Int).toNat);
 bif (!decide (c.2=0)) then (
 some ((0,[],0),c.2))
 else (
 aD (λ(g:(Int×Int)->Option ((Int×List D9×Int)×Int)) (h:Int×Int)=>
  bif decide (h.2<2) then (
  (xD (c.1,(IntKind.wrap .u64 (1+ (IntKind.wrap .u64 h.2))))).bind λp=>
  bif (!decide (p.2=0)) then (
  some ((0,[],0),5))
  else (
  g (h.1,(IntKind.wrap .i64 (h.2+1)))))
  else (
  aD (λ(i:(OQ)->Option ((Int×List D9×Int)×Int)) (d:OQ)=>let n:=rd (.int .u64) d.2.2 1;
   bif decide (d.2.1<2) then (
   (BQ (c.1,(IntKind.wrap .u64 (1+ (IntKind.wrap .u64 d.2.1))))).bind λl=>
   bif ae d.2.1 2 then
   bif (!decide (l.2=0)) then (
   some ((0,[],0),l.2))
   else (
   i (d.1,(IntKind.wrap .i64 (d.2.1+1)),d.2.2.set d.2.1.toNat l.1))
   else none)
   else (
   bif ae 1 2 then
   aD (λ(e:(Bool×Int)->Option ((Int×List D9×Int)×Int)) (f:Bool×Int)=>let o:=IntKind.wrap .i64 (f.2+1);
    bif decide (f.2<(c.1.length:Int)) then (
    bif ae f.2 c.1.length then
    bif (f.1==false) then (
    (BP f.2).bind λq=>
    e ((!decide ((rd cP c.1 f.2).1=q)),o))
    else (
    e (true,o))
    else none)
    else (
    bif f.1 then (
    some ((0,[],0),2))
    else (
    bif ae 0 2 then
    bif ae 1 2 then
    bif ae 2 (c.1.length+1) then
    aD (λ(j:(OP)->Option ((Int×List D9×Int)×Int)) (a:OP)=>
     bif decide (a.2.1<(k.length:Int)) then (
     bif ae a.2.1 k.length then
     (iu (rd cP k a.2.1).2).bind λm=>
     bif (!decide (m.2=0)) then (
     some ((0,[],0),m.2))
     else (
     bif decide ((a.2.2.1.length+1)*24<=az) then
     j (a.1,(IntKind.wrap .i64 (a.2.1+1)),(a.2.2.1++ ([m.1])),(a.2.2.2.1,a.2.2.2.2))
     else none)
     else none)
     else (
     some ((a.2.2.2.1,a.2.2.1,a.2.2.2.2),0))) (d.1,0,([]:List D9),((rd (.int .u64) d.2.2 0),(IntKind.wrap .i64 n)))
    else none
    else none
    else none))) ((bif decide (1048576<n) then true else decide (18<(c.1.length:Int))),0)
   else none)) (h.1,0,[0,0]))) (0,0))
def Pl:=Ctx.add Pk 69 [.one aY] (.tup [.agg [.int .u64,.fresh 149 Y1,.int .i64],.leaf (.int .i64)]) iv
theorem Yg:Pl.Sound:=.add (H:=hd [(6,[.data 3 (.int .i64),.data 29 (.int .i64)],[24576,90112,8192]),(13,[.data 3 (.int .i64),.data 44 (.int .i64),.arr 24576 30 (.int .u64) 2],[90112,8192]),(22,[.data 12 .bool,.data 72 (.int .i64)],[24576,90112,8192]),(30,[.data 3 (.int .i64),.data 98 (.int .i64),.crow 61440 1 10063518 149 Y1,.boxr 61440 10063518 (.int .u64) (.int .i64)],[24576,90112,8192]),(1000001,[],[4]),(1000023,[],[14]),(1000031,[],[17]),(1000032,[],[18]),(5000024,[],[0,0,1,1,2,2,6,6,2,2,2,2,50,50,74,74,130,130,511,257])]) mixed Yf Tryz.func69 λb=>by kernel_rfl
def wI (b:List Int):Option (List Int×Int):=
 bif decide (65535<(b.length:Int)) then (
 some ([],4))
 else (
 aD (λ(c:(OO)->Option (List Int×Int)) (a:OO)=>
  bif decide (0<(a.1.length:Int)) then (
  (iw a.1).bind λd=>
  bif (!decide (d.2.2=0)) then (
  some ([],d.2.2))
  else (
  bif ae d.2.1 (a.1.length+1) then
  bif decide ((a.2.1.length+1)*8<=az) then
  c (a.1.drop d.2.1.toNat,(a.2.1++ ([d.1])),a.2.2)
  else none
  else none))
  else (
  some (a.2.1,0))) (b,([]:List Int),0))
def Pm:=Ctx.add Pl 68 [.one aY] (.tup [.leaf (.fresh 30 (.int .u64)),.leaf (.int .i64)]) wI
theorem Yh:Pm.Sound:=.add (H:=hd [(3,[.data 0 aY,.row 2 10243 30 (.int .u64),.data 3 (.int .i64)],[]),(5000007,[],[0,0,0,0,2,2,5,5,0,0,0,0,48,48,15,9,255,80])]) mixed Yg Tryz.func68 λb=>by kernel_rfl
def BI (b:D1):Option Bool:=
 some (bif decide (b.2.1<0) then true else decide (16<=b.2.1))
def SO:=Ctx.add Pm 148 [.agg Y2] (.one (.leaf (.bool))) BI
theorem aca:SO.Sound:=.add (H:=hd [(1000000,[],[1])]) mixed Yh Tryz.func148 λb=>by kernel_rfl
def xz (b:D9):Option Bool:=
 (mV b).bind λa=>
 some (!decide (a=0))
def S0:=Ctx.add SO 129 [.agg Y1] (.one (.leaf (.bool))) xz
theorem aci:S0.Sound:=.add (H:=hd [(1000000,[],[1])]) mixed aca Tryz.func129 λb=>by kernel_rfl
def FK (b:List D9×Unit):Option Int:=
 aD (λ(c:(Int×Int)->Option Int) (a:Int×Int)=>
  bif decide (a.2<(b.1.length:Int)) then (
  bif ae a.2 b.1.length then
  (xz (rd Y1 b.1 a.2)).bind λd=>
  bif d then (
  some a.2)
  else (
  c (a.1,(IntKind.wrap .i64 (a.2+1))))
  else none)
  else (
  some (-1))) (0,0)
def R8:=Ctx.add S0 182 [.one (.slice 149 Y1),.fn 129] (.one (.leaf (.int .i64))) FK
theorem abA:R8.Sound:=.add (H:=hd [(2,[.data 4 (.int .i64),.data 8 (.int .i64)],[])]) mixed aci Tryz.func182 λb=>by kernel_rfl
def BL (b:List D9×Unit):Option Bool:=
 (FK (b.1,())).bind λa=>
 some (decide (0<=a))
def S6:=Ctx.add R8 122 [.one (.slice 149 Y1),.fn 129] (.one (.leaf (.bool))) BL
theorem acq:S6.Sound:=.add (H:=hd []) mixed abA Tryz.func122 λb=>by kernel_rfl
def mS (b:cD):Option Int:=
 bif ((bif (bif decide (16<(b.2.1.length:Int)) then true else decide (b.2.2<0)) then true else decide (1048576<b.2.2))==false) then (
 (BL (b.2.1,())).bind λa=>
 bif a then (
 some 1)
 else (
 some 0))
 else (
 some 1)
def Pe:=Ctx.add S6 76 [.agg iq] (.one (.leaf (.int .i64))) mS
theorem X9:Pe.Sound:=.add (H:=hd [(1000000,[],[1])]) mixed acq Tryz.func76 λb=>by kernel_rfl
def FJ (b:List D1×Unit):Option Int:=
 aD (λ(c:(Int×Int)->Option Int) (a:Int×Int)=>
  bif decide (a.2<(b.1.length:Int)) then (
  bif ae a.2 b.1.length then
  (BI (rd Y2 b.1 a.2)).bind λd=>
  bif d then (
  some a.2)
  else (
  c (a.1,(IntKind.wrap .i64 (a.2+1))))
  else none)
  else (
  some (-1))) (0,0)
def RZ:=Ctx.add Pe 195 [.one (.slice 215 Y2),.fn 148] (.one (.leaf (.int .i64))) FJ
theorem abv:RZ.Sound:=.add (H:=hd [(2,[.data 4 (.int .i64),.data 8 (.int .i64)],[])]) mixed X9 Tryz.func195 λb=>by kernel_rfl
def BH (b:List D1×Unit):Option Bool:=
 (FJ (b.1,())).bind λa=>
 some (decide (0<=a))
def SN:=Ctx.add RZ 149 [.one (.slice 215 Y2),.fn 148] (.one (.leaf (.bool))) BH
theorem ab9:SN.Sound:=.add (H:=hd []) mixed abv Tryz.func149 λb=>by kernel_rfl
def Af (b:Gb):Option Int:=
 let a:Int:=b.2.2.2.2.2.1.length;let c:Int:=b.2.2.2.2.2.2.1.length;bif ((bif (bif (bif (bif decide (b.2.1<0) then true else decide (14<b.2.1)) then true else decide (b.2.2.2.2.1<0)) then true else decide (4<b.2.2.2.2.1)) then true else decide (16<(if a<c then c else a)))==false) then (
 (BH (b.2.2.2.2.2.2.1,())).bind λd=>
 bif d then (
 some 1)
 else (
 (mS b.2.2.2.2.2.2.2).bind λe=>
 some e))
 else (
 some 1)
def O5:=Ctx.add SN 89 [.agg Fh] (.one (.leaf (.int .i64))) Af
theorem X1:O5.Sound:=.add (H:=hd [(1000000,[],[1])]) mixed ab9 Tryz.func89 λb=>by kernel_rfl
def Ay (b:List D9×List D9):Option Bool:=
 bif (!decide ((b.1.length:Int)=(b.2.length:Int))) then (
 some false)
 else (
 aD (λ(c:(Bool×Int)->Option Bool) (a:Bool×Int)=>let d:=rd Y1 b.2 a.2;let e:=rd Y1 b.1 a.2;
  bif decide (a.2<(b.1.length:Int)) then (
  bif ae a.2 b.1.length then
  bif ae a.2 b.2.length then
  bif (!(decide (e.1=d.1) && (decide (e.2.1=d.2.1) && decide (e.2.2=d.2.2)))) then (
  some false)
  else (
  c (a.1,(IntKind.wrap .i64 (a.2+1))))
  else none
  else none)
  else (
  some true)) (false,0))
def PF:=Ctx.add O5 47 [.one (.slice 149 Y1),.one (.slice 149 Y1)] (.one (.leaf (.bool))) Ay
theorem YD:PF.Sound:=.add (H:=hd [(4,[.data 4 .bool,.data 13 (.int .i64)],[]),(5000006,[],[0,0,0,0,3,3,4,4,0,0,0,0,48,48,64,64,136,136])]) mixed X1 Tryz.func47 λb=>by kernel_rfl
def Bm (b:cD×cD):Option Bool:=
 bif ((bif decide (b.1.1=b.2.1) then decide (b.1.2.2=b.2.2.2) else false)==true) then (
 (Ay (b.1.2.1,b.2.2.1)).bind λa=>
 some a)
 else (
 some false)
def RU:=Ctx.add PF 20 [.agg iq,.agg iq] (.one (.leaf (.bool))) Bm
theorem s20:RU.Sound:=.add (H:=hd [(1000000,[],[2,3])]) mixed YD Tryz.func20 λb=>by kernel_rfl
def oy (b:D9):Option (List Int×Int):=
 let a:=IntKind.wrap .u64 b.1;(mV b).bind λc=>
 bif (!decide (c=0)) then (
 some ([],c))
 else (
 bif (!decide (b.1=4)) then (
 bif ae 2 (([a,b.2.1,b.2.2]).length+1) then
 (cm (([a,b.2.1,b.2.2]).take ((2:Int).toNat))).bind λd=>
 some (d,0)
 else none)
 else (
 (cm ([a,b.2.1,b.2.2])).bind λe=>
 some (e,0)))
def S4:=Ctx.add RU 124 [.agg Y1] (.tup [.leaf (.fresh 5 (.int .u8)),.leaf (.int .i64)]) oy
theorem aco:S4.Sound:=.add (H:=hd [(1000000,[],[1])]) mixed s20 Tryz.func124 λb=>by kernel_rfl
def wG (b:cD):Option (List (List Int)):=
 let c:Int:=b.2.1.length;bif (decide (0<=c) && decide (c=c) && decide (c.toNat*24<=az)) then
 aD (λ(d:(uC)->Option (List (List Int))) (a:uC)=>
 bif decide (a.1<c) then (
 bif ae a.1 b.2.1.length then
 (oy (rd Y1 b.2.1 a.1)).bind λe=>
 bif ae a.1 a.2.length then
 d ((IntKind.wrap .i64 (a.1+1)),(a.2.set a.1.toNat e.1))
 else none
 else none)
 else (
 some a.2)) (0,(List.replicate (c.toNat) []:List (List Int)))
 else none
def O9:=Ctx.add S4 80 [.agg iq] (.one (.leaf (.fresh 49 aY))) wG
theorem X5:O9.Sound:=.add (H:=hd [(3,[.data 13 (.int .i64),.rowk 36864 49 aY],[]),(1000000,[],[1]),(1000004,[],[5])]) mixed aco Tryz.func80 λb=>by kernel_rfl
def om (b:List bq):Option (List Int×Int):=
 (xB b).bind λf=>
 bif (!decide (f=0)) then (
 some ([],f))
 else (
 aD (λ(c:(pS)->Option (List Int×Int)) (a:pS)=>let d:=rd cP b a.2;
  bif decide (a.2<(b.length:Int)) then (
  bif ae a.2 b.length then
  (cm ([d.1,(IntKind.wrap .u64 (d.2.length:Int))])).bind λe=>
  bif decide ((a.1.length+e.length)*1<=az) then
  bif decide (((a.1++e).length+d.2.length)*1<=az) then
  c (((a.1++e)++d.2),(IntKind.wrap .i64 (a.2+1)))
  else none
  else none
  else none)
  else (
  bif decide (65535<(a.1.length:Int)) then (
  some ([],4))
  else (
  some (a.1,0)))) (([]:List Int),0))
def Pg:=Ctx.add O9 73 [.one (.slice 125 cP)] (.tup [.leaf (.fresh 5 (.int .u8)),.leaf (.int .i64)]) om
theorem Yc:Pg.Sound:=.add (H:=hd [(5,[.row 2 10245 5 (.int .u8),.data 13 (.int .i64)],[]),(1000006,[],[5]),(5000007,[],[0,0,0,0,2,2,0,0,8,8,16,16,32,32,68,68,128,128,257,257,0,0,1024,1024,2560,2560,8191,4097])]) mixed X5 Tryz.func73 λb=>by kernel_rfl
def qY (b:cD):Option (List Int×Int):=
 (mS b).bind λe=>
 bif (!decide (e=0)) then (
 some ([],e))
 else (
 (λo=>aj (aj o o) o) (
 (cm ([b.1])).bind λf=>
 (cm ([(IntKind.wrap .u64 b.2.2)])).bind λg=>
 (wG b).bind λd=>
 aD (λ(c:(ON)->Option (List Int×Int)) (a:ON)=>
  bif decide (a.2<(d.length:Int)) then (
  bif ae a.2 d.length then
  bif decide ((a.1.length+1)*32<=az) then
  c ((a.1++ ([((IntKind.wrap .u64 (16+ (IntKind.wrap .u64 a.2))),(rd aY d a.2))])),(IntKind.wrap .i64 (a.2+1)))
  else none
  else none)
  else (
  (om a.1).bind λh=>
  some h)) (([(1,f),(2,g)]),0)))
def Gm:=Ctx.add Pg 91 [.agg iq] (.tup [.leaf (.fresh 5 (.int .u8)),.leaf (.int .i64)]) qY
theorem XZ:Gm.Sound:=.add (H:=hd [(6,[.row 5 22534 125 cP,.data 28 (.int .i64)],[106496,90112,86016,65536,61440]),(1000000,[],[1]),(5000004,[],[0,0,1,1,2,2,4,4,8,8,0,0,32,32,64,64,128,128,264,256,512,512,1040,1040,4095,2048])]) mixed Yc Tryz.func91 λb=>by kernel_rfl
def O4:=Ctx.addI Gm 90 (hd [(5000001,[],[0,0,0,0,0,0,4,4,10,10,16,16,41,33,127,64]),(8000002,[.crow 20480 0 20020482 125 cP,.boxr 20480 20020482 .unit .unit],[1,81920,425984,221184,184320,151552,118784])]) 9000090 Tryz.f90
theorem X0:O4.Sound:=Ctx.Sound.addI (C:=Gm) mixed XZ Tryz.func90
def iX (b:Gb):Option (List Int×Int):=
 let u:=b.2.2.2.2.2.1;let v:=b.2.2.2.2.2.2.1;let E:=cm ([(IntKind.wrap .u64 b.2.1)]);let F:=cm ([(IntKind.wrap .u64 b.2.2.2.2.1)]);(Af b).bind λG=>
 bif (!decide (G=0)) then (
 some ([],G))
 else (
 cE (λ(l:jt)=>
 cE (λ(m:jt)=>
  cE (λ(n:jt)=>
   cE (λ(p:jt)=>
    cE (λ(q:jt)=>
     cE (λ(w:jt)=>
      (Bm (b.2.2.2.2.2.2.2,0,[],0)).bind λL=>
      cE (λ(M:OM)=>
       aD (λ(c:(mX)->Option (List Int×Int)) (a:mX)=>let r:=a.2.1;let H:=IntKind.wrap .u64 (16+ (IntKind.wrap .u64 a.1));let t:=rd Y2 v a.1;let I:=cm ([t.1,(IntKind.wrap .u64 t.2.1),t.2.2.1,t.2.2.2]);
        bif decide (a.1<(v.length:Int)) then (
        bif ae a.1 v.length then
        cE (λ(x:jt)=>
         c ((IntKind.wrap .i64 (a.1+1)),x.1,((),()))) (λ(s:(jt)->Option (List Int×Int))=>
         (aj (
         I.bind λd=>
         bif decide ((r.length+1)*32<=az) then
         s ((r++ ([(H,d)])),((),()))
         else none) (
         I.bind λd=>
         (λo=>aj o o) (
         bif decide ((r.length+1)*32<=az) then
         s ((r++ ([(H,d)])),((),()))
         else none))))
        else none)
        else (
        (om r).bind λy=>
        some y)) (0,M.2.2.1,((),()))) (λ(J:(OM)->Option (List Int×Int))=>
       bif (!L) then (
       (qY b.2.2.2.2.2.2.2).bind λe=>
       bif (!decide (e.2=0)) then (
       some ([],e.2))
       else (
       bif decide ((w.1.length+1)*32<=az) then
       J ([],0,(w.1++ ([(7,e.1)])),((),()))
       else none))
       else (
       J ([],0,w.1,((),()))))) (λ(z:(jt)->Option (List Int×Int))=>
      bif decide (0<(u.length:Int)) then (
      (aj (
      (cm u).bind λf=>
      bif decide ((q.1.length+1)*32<=az) then
      z ((q.1++ ([(6,f)])),((),()))
      else none) (
      (cm u).bind λf=>
      (λo=>aj o o) (
      bif decide ((q.1.length+1)*32<=az) then
      z ((q.1++ ([(6,f)])),((),()))
      else none))))
      else (
      z (q.1,((),()))))) (λ(A:(jt)->Option (List Int×Int))=>
     bif (!decide (b.2.2.2.2.1=0)) then (
     (aj (
     F.bind λg=>
     bif decide ((p.1.length+1)*32<=az) then
     A ((p.1++ ([(5,g)])),((),()))
     else none) (
     F.bind λg=>
     (λo=>aj o o) (
     bif decide ((p.1.length+1)*32<=az) then
     A ((p.1++ ([(5,g)])),((),()))
     else none))))
     else (
     A (p.1,((),()))))) (λ(B:(jt)->Option (List Int×Int))=>
    bif (!decide (b.2.2.2.1=0)) then (
    (aj (
    (cm ([b.2.2.2.1])).bind λh=>
    bif decide ((n.1.length+1)*32<=az) then
    B ((n.1++ ([(4,h)])),((),()))
    else none) (
    (cm ([b.2.2.2.1])).bind λh=>
    (λo=>aj o o) (
    bif decide ((n.1.length+1)*32<=az) then
    B ((n.1++ ([(4,h)])),((),()))
    else none))))
    else (
    B (n.1,((),()))))) (λ(C:(jt)->Option (List Int×Int))=>
   bif (!decide (b.2.2.1=0)) then (
   (aj (
   (cm ([b.2.2.1])).bind λi=>
   bif decide ((m.1.length+1)*32<=az) then
   C ((m.1++ ([(3,i)])),((),()))
   else none) (
   (cm ([b.2.2.1])).bind λi=>
   (λo=>aj o o) (
   bif decide ((m.1.length+1)*32<=az) then
   C ((m.1++ ([(3,i)])),((),()))
   else none))))
   else (
   C (m.1,((),()))))) (λ(D:(jt)->Option (List Int×Int))=>
  bif (!decide (b.2.1=0)) then (
  (aj (
  E.bind λj=>
  bif decide ((l.1.length+1)*32<=az) then
  D ((l.1++ ([(2,j)])),((),()))
  else none) (
  E.bind λj=>
  (λo=>aj o o) (
  bif decide ((l.1.length+1)*32<=az) then
  D ((l.1++ ([(2,j)])),((),()))
  else none))))
  else (
  D (l.1,((),()))))) (λ(K:(jt)->Option (List Int×Int))=>
 (aj (
 (cm ([b.1])).bind λk=>
 bif decide ((([]:List bq).length+1)*32<=az) then
 K ((([]:List bq)++ ([(1,k)])),((),()))
 else none) (
 (cm ([b.1])).bind λk=>
 (λo=>aj o o) (
 bif decide ((([]:List bq).length+1)*32<=az) then
 K ((([]:List bq)++ ([(1,k)])),((),()))
 else none)))))
def Gr:=Ctx.add O4 46 [.agg Fh] (.tup [.leaf (.fresh 5 (.int .u8)),.leaf (.int .i64)]) iX
theorem YE:Gr.Sound:=.add (H:=hd [(18,[.data 86 (.int .i64),.crow 20480 0 10022546 125 cP,.boxr 20480 10022546 .unit .unit],[]),(1000000,[],[1]),(1000019,[],[10]),(8000014,[.data 2 aY,.data 3 (.int .i64),.crow 20480 0 20020494 125 cP,.boxr 20480 20020494 .unit .unit],[1,20020482])]) mixed X0 Tryz.func46 λb=>by kernel_rfl
def PG:=Ctx.addI Gr 45 (hd [(1000000,[],[3]),(1000002,[],[5]),(5000014,[],[0,0,0,0,2,2,4,4,8,8,0,0,32,32,64,64,0,0,256,256,512,512,1024,1024,0,0,4096,4096,8192,8192,0,0,32768,32768,65536,65536,149632,149632,262144,262144,524304,524304,2097151,1,4194303,2097152,6291455,5242880])]) 9000045 Tryz.f45
theorem YF:PG.Sound:=Ctx.Sound.addI (C:=Gr) mixed YE Tryz.func45
def xo (b:List Int):Option ((Int×Int×Int×Int×Int×List Int×List D1×Int×List D9×Int)×Int):=
 let i:Option ((Int×Int×Int×Int×Int×List Int×List D1×Int×List D9×Int)×Int):=some ((0,0,0,0,0,[],[],0,[],0),2);bif decide (4096<(b.length:Int)) then (
 some ((0,0,0,0,0,[],[],0,[],0),4))
 else (
 (tU b).bind λt=>
 aD (λ(a:(OL)->Option ((Int×Int×Int×Int×Int×List Int×List D1×Int×List D9×Int)×Int)) (c:OL)=>let k:=c.2.2.2.1.2.2.2.2.2;let l:=c.2.2.2.1.2.2.2.2.1;let g:=c.2.2.2.1.2.2.2.1;let q:=c.2.2.2.1.2.2.1;let n:=c.2.2.2.1.2.1;let m:=c.2.2.2.1.1;let e:=c.2.2.1;let h:=c.2.2.2.2;let f:=rd cP t.1 c.2.1;let j:=IntKind.wrap .i64 (c.2.1+1);
 bif decide (c.2.1<(t.1.length:Int)) then (
 bif ae c.2.1 t.1.length then
 bif decide (f.1=7) then (
 (iv f.2).bind λu=>
 bif (!decide (u.2=0)) then i
 else (
 a (c.1,j,e,(c.2.2.2.1,u.1))))
 else (
 (wI f.2).bind λd=>let r:=rd (.int .u64) d.1 1;let p:=rd (.int .u64) d.1 0;let s:=IntKind.wrap .i64 (if 4096<p then 4096 else p);
 bif (!decide (d.2=0)) then i
 else (
 bif decide (f.1=6) then (
 a (c.1,j,e,((m,n,q,g,l,d.1),h)))
 else (
 bif decide (16<=f.1) then (
 bif ((!decide ((d.1.length:Int)=4))==false) then (
 bif ae 1 d.1.length then
 bif decide (16<=r) then i
 else (
 bif ae 0 d.1.length then
 bif ae 1 d.1.length then
 bif ae 2 d.1.length then
 bif ae 3 d.1.length then
 (λo=>aj (aj (aj (aj o o) (aj (aj o o) (aj o o))) (aj (aj (aj o o) (aj (aj o o) (aj o o))) (aj (aj (aj o o) (aj (aj o o) (aj o o))) (aj (aj o o) (aj (aj o o) (aj o o)))))) (aj (aj (aj (aj o o) (aj (aj o o) (aj o o))) (aj (aj (aj o o) (aj (aj o (aj o o)) (aj o (aj o o)))) (aj (aj (aj o o) (aj (aj o (aj o o)) (aj o (aj o o)))) (aj (aj o o) (aj (aj o (aj o o)) (aj o (aj o o))))))) (aj (aj (aj (aj o o) (aj (aj o o) (aj o o))) (aj (aj (aj o o) (aj (aj o (aj o o)) (aj o (aj o o)))) (aj (aj (aj o o) (aj (aj o (aj o o)) (aj o (aj o o)))) (aj (aj o o) (aj (aj o (aj o o)) (aj o (aj o o))))))) (aj (aj (aj (aj o o) (aj (aj o o) (aj o o))) (aj (aj (aj o o) (aj (aj o (aj o o)) (aj o (aj o o)))) (aj (aj (aj o o) (aj (aj o (aj o o)) (aj o (aj o o)))) (aj (aj o o) (aj (aj o (aj o o)) (aj o (aj o o))))))) (aj (aj (aj o o) (aj (aj o o) (aj o o))) (aj (aj (aj o o) (aj (aj o (aj o o)) (aj o (aj o o)))) (aj (aj (aj o o) (aj (aj o (aj o o)) (aj o (aj o o)))) (aj (aj o o) (aj (aj o (aj o o)) (aj o (aj o o))))))))))) (
 bif decide ((e.length+1)*32<=az) then
 a (c.1,j,(e++ ([(p,(IntKind.wrap .i64 r),(rd (.int .u64) d.1 2),(rd (.int .u64) d.1 3))])),(c.2.2.2.1,h))
 else none)
 else none
 else none
 else none
 else none)
 else none)
 else i)
 else (
 bif (!decide ((d.1.length:Int)=1)) then i
 else (
 bif ae 0 d.1.length then
 bif decide (f.1=1) then (
 bif ae 0 d.1.length then
 a (c.1,j,e,((p,c.2.2.2.1.2),h))
 else none)
 else (
 bif decide (f.1=2) then (
 a (c.1,j,e,((m,s,c.2.2.2.1.2.2),h)))
 else (
 bif decide (f.1=3) then (
 bif ae 0 d.1.length then
 a (c.1,j,e,((m,n,p,c.2.2.2.1.2.2.2),h))
 else none)
 else (
 bif decide (f.1=4) then (
 bif ae 0 d.1.length then
 a (c.1,j,e,((m,n,q,p,c.2.2.2.1.2.2.2.2),h))
 else none)
 else (
 bif decide (f.1=5) then (
 a (c.1,j,e,((m,n,q,g,s,k),h)))
 else i))))
 else none)))))
 else none)
 else (
 (iX (m,n,q,g,l,k,e,h)).bind λv=>
 bif ((bif (!decide (t.2=0)) then true else (!decide (v.2=0)))==false) then (
 (jr (v.1,b)).bind λw=>
 bif (!w) then i
 else (
 some ((m,n,q,g,l,k,e,h),0)))
 else i)) (0,0,([]:List D1),((0,0,0,0,0,[]),(0,[],0))))
def R4:=Ctx.add PG 19 [.one aY] (.tup [.agg [.int .u64,.int .i64,.int .u64,.int .u64,.int .i64,.sl 30 (.int .u64),.sl 215 Y2,.int .u64,.sl 149 Y1,.int .i64],.leaf (.int .i64)]) xo
theorem s19:R4.Sound:=.add (H:=hd [(5,[.data 3 (.int .i64),.data 21 (.int .i64),.crow 8192 6 10010245 215 Y2,.boxr 8192 10010245 Y92 iq],[65536]),(1000006,[],[7]),(3000000,[],[7696581402624]),(3000001,[],[7696581402624]),(3000002,[],[7696581402624]),(3000003,[],[7696581402624]),(3000004,[],[7696581402624]),(3000005,[],[7696581402624]),(3000006,[],[7696581402624]),(3000007,[],[7696581402624]),(3000008,[],[7696581402624]),(3000009,[],[7696581402624]),(3000010,[],[7696581402624]),(3000011,[],[7696581402624]),(3000012,[],[7696581402624]),(3000013,[],[7696581402624])]) mixed YF Tryz.func19 λb=>by kernel_rfl
def Ak (b:D0):Option Bool:=
 (xo b.2.2.1).bind λa=>
 some (bif (!decide (a.2=0)) then true else (!decide (a.1.2.1=0)))
def Ps:=Ctx.add R4 60 [.agg bA] (.one (.leaf (.bool))) Ak
theorem Yp:Ps.Sound:=.add (H:=hd [(1000000,[],[1]),(1000001,[],[3])]) mixed s19 Tryz.func60 λb=>by kernel_rfl
def F1 (b:List (Int×Int)×Unit):Option Int:=
 aD (λ(c:(Int×Int)->Option Int) (a:Int×Int)=>
  bif decide (a.2<(b.1.length:Int)) then (
  bif ae a.2 b.1.length then
  (Al (rd Y0 b.1 a.2)).bind λd=>
  bif d then (
  some a.2)
  else (
  c (a.1,(IntKind.wrap .i64 (a.2+1))))
  else none)
  else (
  some (-1))) (0,0)
def To:=Ctx.add Ps 108 [.one (.slice 45 Y0),.fn 59] (.one (.leaf (.int .i64))) F1
theorem acG:To.Sound:=.add (H:=hd [(2,[.data 4 (.int .i64),.data 8 (.int .i64)],[])]) mixed Yp Tryz.func108 λb=>by kernel_rfl
def Fv (b:List (Int×Int)×Unit):Option Bool:=
 (F1 (b.1,())).bind λa=>
 some (decide (0<=a))
def Pr:=Ctx.add To 61 [.one (.slice 45 Y0),.fn 59] (.one (.leaf (.bool))) Fv
theorem Yo:Pr.Sound:=.add (H:=hd []) mixed acG Tryz.func61 λb=>by kernel_rfl
def F0 (b:List D0×Unit):Option Int:=
 aD (λ(c:(Int×Int)->Option Int) (a:Int×Int)=>
  bif decide (a.2<(b.1.length:Int)) then (
  bif ae a.2 b.1.length then
  (Ak (rd bA b.1 a.2)).bind λd=>
  bif d then (
  some a.2)
  else (
  c (a.1,(IntKind.wrap .i64 (a.2+1))))
  else none)
  else (
  some (-1))) (0,0)
def Tn:=Ctx.add Pr 109 [.one (.slice 169 bA),.fn 60] (.one (.leaf (.int .i64))) F0
theorem acF:Tn.Sound:=.add (H:=hd [(2,[.data 4 (.int .i64),.data 8 (.int .i64)],[])]) mixed Yo Tryz.func109 λb=>by kernel_rfl
def Fu (b:List D0×Unit):Option Bool:=
 (F0 (b.1,())).bind λa=>
 some (decide (0<=a))
def Pq:=Ctx.add Tn 62 [.one (.slice 169 bA),.fn 60] (.one (.leaf (.bool))) Fu
theorem Yn:Pq.Sound:=.add (H:=hd []) mixed acF Tryz.func62 λb=>by kernel_rfl
def rl (b:cI):Option Int:=
 (Fv ((mj b.2),())).bind λa=>
 bif (a==false) then (
 (Fu (b.1.2.2.2.1,())).bind λc=>
 bif c then (
 some 1)
 else (
 (pE b.1).bind λd=>
 some d))
 else (
 some 1)
def QX:=Ctx.add Pq 27 [.agg cH] (.one (.leaf (.int .i64))) rl
theorem s27:QX.Sound:=.add (H:=hd [(1000000,[],[1])]) mixed Yn Tryz.func27 λb=>by kernel_rfl
def rK (b:cn):Option Int:=
 aD (λ(a:(Int×Int)->Option Int) (c:Int×Int)=>
  bif decide (c.2<16) then (
  bif ae c.2 16 then
  (ub (bg (.pair .bool cG) b.2 c.2)).bind λd=>
  bif (!decide (d=0)) then (
  some d)
  else (
  a (c.1,(IntKind.wrap .i64 (c.2+1))))
  else none)
  else (
  (rl b.1).bind λe=>
  some e)) (0,0)
def Tl:=Ctx.add QX 11 [.agg (.pair cH ed)] (.one (.leaf (.int .i64))) rK
theorem s11:Tl.Sound:=.add (H:=hd [(2,[.data 2 (.int .i64),.data 8 (.int .i64)],[]),(1000000,[],[1]),(1000003,[],[4]),(4000000,[],[4398046511114])]) mixed s27 Tryz.func11 λb=>by kernel_rfl
def Au (b:fc):Option Bool:=
 bif (decide (b.1=6)==false) then (
 some (bif (bif (bif decide (1<=b.1) then decide (b.1<6) else false) then decide (0<=b.2.1) else false) then decide (b.2.1<16) else false))
 else (
 some true)
def PC:=Ctx.add Tl 50 [.agg eL] (.one (.leaf (.bool))) Au
theorem YA:PC.Sound:=.add (H:=hd [(1000000,[],[1])]) mixed s11 Tryz.func50 λb=>by kernel_rfl
def ou (b:eU):Option Int:=
 (ub b).bind λa=>
 bif (bif (!decide (a=0)) then true else b.1) then (
 some a)
 else (
 some 14)
def RS:=Ctx.add PC 200 [.agg (.pair .bool cG)] (.one (.leaf (.int .i64))) ou
theorem abp:RS.Sound:=.add (H:=hd [(1000000,[],[1])]) mixed YA Tryz.func200 λb=>by kernel_rfl
def rH (b:eU):Option ((Bool×List Int×Bool×List (List Int)×List Int)×Int):=
 (ou b).bind λa=>
 bif decide (a=14) then (
 some ((true,[],false,[],[]),0))
 else (
 bif decide (a=0) then (
 some ((false,[],false,[],[]),10))
 else (
 some ((false,[],false,[],[]),a)))
def SG:=Ctx.add RS 153 [.agg (.pair .bool cG)] (.tup [.agg [.bool,.fresh 5 (.int .u8),.bool,.fresh 49 aY,.fresh 5 (.int .u8)],.leaf (.int .i64)]) rH
theorem ab4:SG.Sound:=.add (H:=hd [(1000000,[],[1])]) mixed abp Tryz.func153 λb=>by kernel_rfl
def BE (b:eU):Option ((Bool×List Int×Bool×List (List Int)×List Int)×Int):=
 (ou b).bind λa=>
 some ((false,[],false,[],[]),a)
def SF:=Ctx.add SG 154 [.agg (.pair .bool cG)] (.tup [.agg [.bool,.fresh 5 (.int .u8),.bool,.fresh 49 aY,.fresh 5 (.int .u8)],.leaf (.int .i64)]) BE
theorem ab3:SF.Sound:=.add (H:=hd [(1000000,[],[1])]) mixed ab4 Tryz.func154 λb=>by kernel_rfl
def AT (b:List D3×Int×Unit):Option (Int×Bool):=
 aD (λ(c:(Int×Int)->Option (Int×Bool)) (a:Int×Int)=>let d:=IntKind.wrap .i64 ((IntKind.wrap .u64 (IntKind.wrap .i64 (a.1+a.2))) / 2^ (min (1:Int).toNat 64));
  bif decide (a.1<a.2) then (
  bif ae d b.1.length then
  (ri ((rd bF b.1 d),b.2.1)).bind λe=>
  bif decide (e<0) then (
  c ((IntKind.wrap .i64 (d+1)),a.2))
  else (
  c (a.1,d))
  else none)
  else (
  bif (decide (a.1<(b.1.length:Int))==true) then (
  bif ae a.1 b.1.length then
  (ri ((rd bF b.1 a.1),b.2.1)).bind λf=>
  some (a.1,decide (f=0))
  else none)
  else (
  some (a.1,false)))) (0,(b.1.length:Int))
def Ql:=Ctx.add SF 318 [.one (.slice 323 bF),.one (.int .u64),.fn 293] (.tup [.leaf (.int .i64),.leaf (.bool)]) AT
theorem ZP:Ql.Sound:=.add (H:=hd [(3,[.data 9 (.int .i64),.data 10 (.int .i64)],[])]) mixed ab3 Tryz.func318 λb=>by kernel_rfl
def ua (b:List D3×Int):Option (Int×Int):=
 (xh b.1).bind λc=>
 bif (!decide (c=0)) then (
 some (0,c))
 else (
 (AT (b.1,b.2,())).bind λa=>
 bif (!a.2) then (
 some (a.1,5))
 else (
 some (a.1,0)))
def Q1:=Ctx.add Ql 265 [.one (.slice 323 bF),.one (.int .u64)] (.tup [.leaf (.int .i64),.leaf (.int .i64)]) ua
theorem aaA:Q1.Sound:=.add (H:=hd []) mixed ZP Tryz.func265 λb=>by kernel_rfl
def Bk (b:List D3×Int×Bool):Option (List D3×Int):=
 (ua (b.1,b.2.1)).bind λa=>
 bif (!decide (a.2=0)) then (
 some ([],a.2))
 else (
 bif ae a.1 b.1.length then
 bif (!decide ((rd bF b.1 a.1).2.2.2.2=1)) then (
 some ([],10))
 else (
 (pI b.1).bind λd=>let c:=rd bF d a.1;let f:=d.set a.1.toNat (c.1,c.2.1,c.2.2.1,c.2.2.2.1,3);let e:=rd bF f a.1;
 bif ae a.1 d.length then
 bif b.2.2 then (
 bif ae a.1 f.length then
 some (f.set a.1.toNat (e.1,e.2.1,e.2.2.1,e.2.2.2.1,2),0)
 else none)
 else (
 some (d.set a.1.toNat (c.1,c.2.1,c.2.2.1,c.2.2.2.1,3),0))
 else none)
 else none)
def RN:=Ctx.add Q1 206 [.one (.slice 323 bF),.one (.int .u64),.one .bool] (.tup [.leaf (.fresh 323 bF),.leaf (.int .i64)]) Bk
theorem abj:RN.Sound:=.add (H:=hd []) mixed aaA Tryz.func206 λb=>by kernel_rfl
def xd (b:List D2×Int):Option (Int×Int):=
 (xi b.1).bind λa=>let c:=cC (.int .u64) (.int .i64) 0 a.1 b.2;
 bif (!decide (a.2=0)) then (
 some (0,a.2))
 else (
 bif (!(dv (.int .u64) (.int .i64) a.1 b.2)) then (
 some (0,5))
 else (
 bif ae c b.1.length then
 some ((rd Y8 b.1 c).1,0)
 else none))
def Q0:=Ctx.add RN 266 [.one (.slice 64 Y8),.one (.int .u64)] (.tup [.leaf (.int .u64),.leaf (.int .i64)]) xd
theorem aaz:Q0.Sound:=.add (H:=hd []) mixed abj Tryz.func266 λb=>by kernel_rfl
def pF (b:D2):Option Int:=
 (pG b).bind λa=>
 some a.2.2
def QS:=Ctx.add Q0 278 [.agg Y8] (.one (.leaf (.int .i64))) pF
theorem aan:QS.Sound:=.add (H:=hd [(1000000,[],[1])]) mixed aaz Tryz.func278 λb=>by kernel_rfl
def tN (b:List (Int×Int)×Int×Unit):Option (Int×Bool):=
 aD (λ(c:(Int×Int)->Option (Int×Bool)) (a:Int×Int)=>let d:=IntKind.wrap .i64 ((IntKind.wrap .u64 (IntKind.wrap .i64 (a.1+a.2))) / 2^ (min (1:Int).toNat 64));
  bif decide (a.1<a.2) then (
  bif ae d b.1.length then
  (rf ((rd Y0 b.1 d),b.2.1)).bind λe=>
  bif decide (e<0) then (
  c ((IntKind.wrap .i64 (d+1)),a.2))
  else (
  c (a.1,d))
  else none)
  else (
  bif (decide (a.1<(b.1.length:Int))==true) then (
  bif ae a.1 b.1.length then
  (rf ((rd Y0 b.1 a.1),b.2.1)).bind λf=>
  some (a.1,decide (f=0))
  else none)
  else (
  some (a.1,false)))) (0,(b.1.length:Int))
def P3:=Ctx.add QS 351 [.one (.slice 160 Y0),.one (.int .u64),.fn 54] (.tup [.leaf (.int .i64),.leaf (.bool)]) tN
theorem Zl:P3.Sound:=.add (H:=hd [(3,[.data 9 (.int .i64),.data 10 (.int .i64)],[])]) mixed aan Tryz.func351 λb=>by kernel_rfl
def GB:Ctx:=Ctx.addDel P3 352 160 Y0
theorem Zk:GB.Sound:=V9 ajT ak0 (t:=Y0) (x0:=Ty.dflt Y0) (by kernel_rfl) Zl rfl
end
end Go.Proofs.YtkihadlgknhpkaaGreatDoor.T
