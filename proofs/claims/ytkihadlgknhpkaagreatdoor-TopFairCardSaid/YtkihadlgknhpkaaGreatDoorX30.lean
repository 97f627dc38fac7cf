/- Part 30: lemmas that the last text needs. -/
import Derived.Test.YtkihadlgknhpkaaGreatDoorX29
set_option linter.all false
set_option autoImplicit true
set_option relaxedAutoImplicit true
namespace Go.Proofs.YtkihadlgknhpkaaGreatDoor.T
set_option maxRecDepth 100000
open Go Go.Fw Go.Proofs
noncomputable section
def rv (b:List D1):Option (List D1):=
 let a:Option (List D1):=bif decide ((([]:List D1).length+b.length)*32<=az) then some (([]:List D1)++b) else none;bif b.isEmpty then (
 (aj (
 some []) a))
 else a
def Ro:=Ctx.add Rs 230 [.one (.slice 215 Y2)] (.one (.leaf (.fresh 215 Y2))) rv
theorem aaV:Ro.Sound:=.add (H:=hd []) mixed aaW Tryz.func230 λb=>by kernel_rfl
def lj (b:List (Int×Int)):Option (List (Int×Int)):=
 let a:Option (List (Int×Int)):=bif decide ((([]:List (Int×Int)).length+b.length)*16<=az) then some (([]:List (Int×Int))++b) else none;bif b.isEmpty then (
 (aj (
 some []) a))
 else a
def Rn:=Ctx.add Ro 231 [.one (.slice 160 Y0)] (.one (.leaf (.fresh 160 Y0))) lj
theorem aaU:Rn.Sound:=.add (H:=hd []) mixed aaV Tryz.func231 λb=>by kernel_rfl
def pJ (b:List dC):Option (List dC):=
 let a:Option (List dC):=bif decide ((([]:List dC).length+b.length)*24<=az) then some (([]:List dC)++b) else none;bif b.isEmpty then (
 (aj (
 some []) a))
 else a
def RV:=Ctx.add Rn 199 [.one (.slice 198 cQ)] (.one (.leaf (.fresh 198 cQ))) pJ
theorem abq:RV.Sound:=.add (H:=hd []) mixed aaU Tryz.func199 λb=>by kernel_rfl
def xj (b:List D0):Option (List D0):=
 let a:Option (List D0):=bif decide ((([]:List D0).length+b.length)*64<=az) then some (([]:List D0)++b) else none;bif b.isEmpty then (
 (aj (
 some []) a))
 else a
def Rm:=Ctx.add RV 233 [.one (.slice 169 bA)] (.one (.leaf (.fresh 169 bA))) xj
theorem aaS:Rm.Sound:=.add (H:=hd []) mixed abq Tryz.func233 λb=>by kernel_rfl
def ug (b:List D9):Option (List D9):=
 let a:Option (List D9):=bif decide ((([]:List D9).length+b.length)*24<=az) then some (([]:List D9)++b) else none;bif b.isEmpty then (
 (aj (
 some []) a))
 else a
def Rk:=Ctx.add Rm 234 [.one (.slice 291 bY)] (.one (.leaf (.fresh 291 bY))) ug
theorem aaR:Rk.Sound:=.add (H:=hd []) mixed aaS Tryz.func234 λb=>by kernel_rfl
def rA (b:cM):Option cM:=
 (ry b.1.1).bind λx=>
 (ui b.1.2.1).bind λz=>
 (ot b.1.2.2.1).bind λA=>
 (pI b.1.2.2.2.1).bind λB=>
 (rv b.1.2.2.2.2.2.1).bind λC=>
 aD (λ(n:(Int×List D2)->Option cM) (f:Int×List D2)=>let h:=rd Y8 f.2 f.1;
  bif decide (f.1<(x.length:Int)) then (
  bif ae f.1 f.2.length then
  (lj h.2.2.2.2.2.1).bind λD=>
  bif ae f.1 f.2.length then
  n ((IntKind.wrap .i64 (f.1+1)),(f.2.set f.1.toNat (h.1,h.2.1,h.2.2.1,h.2.2.2.1,h.2.2.2.2.1,D,h.2.2.2.2.2.2)))
  else none
  else none)
  else (
  (rr b.2.1).bind λy=>
  (pJ b.2.2.1).bind λE=>
  (xj b.2.2.2.1).bind λp=>
  (ug b.2.2.2.2).bind λr=>
  aD (λ(i:(pR)->Option cM) (a:pR)=>let s:=rd eB a.2 a.1;
   bif decide (a.1<(y.length:Int)) then (
   bif ae a.1 a.2.length then
   (cg s.2.2).bind λt=>
   bif ae a.1 a.2.length then
   i ((IntKind.wrap .i64 (a.1+1)),(a.2.set a.1.toNat (s.1,s.2.1,t)))
   else none
   else none)
   else (
   aD (λ(e:(Int×List D0)->Option cM) (c:Int×List D0)=>let d:=c.1;let u:=IntKind.wrap .i64 (d+1);let j:=rd bA c.2 d;let v:=cg j.2.2.1;
    bif decide (d<(p.length:Int)) then (
    bif ae d c.2.length then
    (aj (
    (cg j.2.1).bind λk=>let w:=c.2.set d.toNat (j.1,k,j.2.2);let l:=rd bA w d;
    v.bind λg=>
    bif ae d c.2.length then
    bif ae d w.length then
    e (u,(w.set d.toNat (l.1,l.2.1,g,l.2.2.2)))
    else none
    else none) (
    (cg j.2.1).bind λk=>let q:=c.2.set d.toNat (j.1,k,j.2.2);let m:=rd bA q d;
    (aj (
    v.bind λg=>
    bif ae d c.2.length then
    bif ae d q.length then
    e (u,(q.set d.toNat (m.1,m.2.1,g,m.2.2.2)))
    else none
    else none) (
    v.bind λg=>
    bif ae d c.2.length then
    (λo=>aj o o) (
    bif ae d q.length then
    e (u,(q.set d.toNat (m.1,m.2.1,g,m.2.2.2)))
    else none)
    else none))))
    else none)
    else (
    some ((f.2,z,A,B,b.1.2.2.2.2.1,C,b.1.2.2.2.2.2.2),a.2,E,c.2,r))) (0,p))) (0,y))) (0,x)
def RX:=Ctx.add Rk 197 [.agg (.pair dE gP)] (.one (.agt (.pair dE gP))) rA
theorem abt:RX.Sound:=.add (H:=hd [(4,[.data 37 (.int .i64),.rowk 57344 64 Y8],[110592,94208,81920,69632,12288,8192,4096]),(10,[.data 75 (.int .i64),.rowk 225280 286 eB],[262144,249856,237568,110592,94208,81920,69632,57344,12288,8192,4096]),(15,[.data 93 (.int .i64),.rowk 249856 169 bA],[262144,237568,225280,110592,94208,81920,69632,57344,12288,8192,4096]),(1000005,[],[5]),(1000011,[],[7]),(1000016,[],[9]),(5000002,[],[0,0,1,1,2,2,0,0,8,8,20,16,0,0,64,64,160,128,0,0,512,512,1280,1024,0,0,4096,4096,8192,8192,18432,16384,30431,0,128735,65540,227071,0,489215,262176,1013759,0,2062335,1048832,4161535,0,8355839,4196352,16777215,0,33554431,16777216,50331647,33587200]),(5000006,[],[0,0,1,1,0,0,0,0,8,8,16,16,63,6,127,64,191,160]),(5000008,[],[0,0,0,0,2,2,4,4,8,8,0,0,32,32,80,64,0,0,256,256,640,512,0,0,2048,2048,5120,4096,7023,0,31599,16385,56191,0,121727,65536,187263,131088,515071,0,1039359,524416,2088959,0,4186111,2098176,8388607,0,16777215,8396800]),(5000012,[],[0,0,1,1,2,2,0,0,0,0,16,16,32,32,127,12,255,128,383,320]),(5000017,[],[0,0,1,1,0,0,0,0,8,8,0,0,0,0,64,64,128,128,0,0,512,512,1280,1024,2503,6,6599,4096,10695,8448,32767,48,65535,32768,98303,67584])]) mixed aaR Tryz.func197 λb=>by kernel_rfl
def Bo (b:List dC×Int×Unit):Option (Int×Bool):=
 aD (λ(c:(Int×Int)->Option (Int×Bool)) (a:Int×Int)=>let d:=IntKind.wrap .i64 ((IntKind.wrap .u64 (IntKind.wrap .i64 (a.1+a.2))) / 2^ (min (1:Int).toNat 64));
  bif decide (a.1<a.2) then (
  bif ae d b.1.length then
  (rE ((rd cQ b.1 d),b.2.1)).bind λe=>
  bif decide (e<0) then (
  c ((IntKind.wrap .i64 (d+1)),a.2))
  else (
  c (a.1,d))
  else none)
  else (
  bif (decide (a.1<(b.1.length:Int))==true) then (
  bif ae a.1 b.1.length then
  (rE ((rd cQ b.1 a.1),b.2.1)).bind λf=>
  some (a.1,decide (f=0))
  else none)
  else (
  some (a.1,false)))) (0,(b.1.length:Int))
def R7:=Ctx.add RX 185 [.one (.slice 198 cQ),.one (.int .u64),.fn 174] (.tup [.leaf (.int .i64),.leaf (.bool)]) Bo
theorem abz:R7.Sound:=.add (H:=hd [(3,[.data 9 (.int .i64),.data 10 (.int .i64)],[])]) mixed abt Tryz.func185 λb=>by kernel_rfl
def xA (b:List dC×Int):Option (Int×Bool×Int):=
 (xE b.1).bind λa=>
 bif (!decide (a=0)) then (
 some (0,false,a))
 else (
 (Bo (b.1,b.2,())).bind λc=>
 some (c.1,c.2,0))
def S1:=Ctx.add R7 128 [.one (.slice 198 cQ),.one (.int .u64)] (.tup [.leaf (.int .i64),.leaf (.bool),.leaf (.int .i64)]) xA
theorem acj:S1.Sound:=.add (H:=hd []) mixed abz Tryz.func128 λb=>by kernel_rfl
def RW:Ctx:=Ctx.addIns S1 198 198 cQ
theorem abr:RW.Sound:=rZ ajX ajC ak4 (t:=cQ) (x0:=Ty.dflt cQ) (by kernel_rfl) acj rfl
def BF (b:List dC×Int×Int):Option (List dC×Int):=
 (xA (b.1,b.2.1)).bind λa=>
 bif (!decide (a.2.2=0)) then (
 some ([],a.2.2))
 else (
 bif (a.2.1==false) then (
 (uk (b.1,b.2.2)).bind λd=>
 bif d then (
 some ([],6))
 else (
 bif decide ((b.1.length:Int)=64) then (
 some ([],7))
 else (
 (pJ b.1).bind λc=>
 bif (ae a.1 (c.length+1) && decide ((c.length+1)*24<=az)) then
 some ((de c a.1.toNat (b.2.1,b.2.2,false)),0)
 else none)))
 else (
 some ([],6)))
def SH:=Ctx.add RW 152 [.one (.slice 198 cQ),.one (.int .u64),.one (.int .u64)] (.tup [.leaf (.fresh 198 cQ),.leaf (.int .i64)]) BF
theorem ab5:SH.Sound:=.add (H:=hd []) mixed abr Tryz.func152 λb=>by kernel_rfl
def FT (b:cM×Int×Int×Unit):Option (cM× (Int×List D9×Int)×Int):=
 (pE b.1).bind λd=>
 bif (!decide (d=0)) then (
 some ((([],[],[],[],0,[],0,0),[],[],[],[]),(0,[],0),d))
 else (
 (BF (b.1.2.2.1,b.2.1,b.2.2.1)).bind λc=>
 bif (!decide (c.2=0)) then (
 some ((([],[],[],[],0,[],0,0),[],[],[],[]),(0,[],0),c.2))
 else (
 (xn (b.1.2.1,b.2.1,b.2.2.1)).bind λa=>
 bif (!decide (a.2.2=0)) then (
 some ((([],[],[],[],0,[],0,0),[],[],[],[]),(0,[],0),a.2.2))
 else (
 (rA (b.1.1,a.1,c.1,b.1.2.2.2)).bind λe=>
 some (e,a.2.1,0))))
def SJ:=Ctx.add SH 151 [.agg (.pair dE gP),.one (.int .u64),.one (.int .u64),.fn 152] (.tup [.agt (.pair dE gP),.agg [.int .u64,.fresh 149 Y1,.int .i64],.leaf (.int .i64)]) FT
theorem ab7:SJ.Sound:=.add (H:=hd [(1000007,[],[14,15]),(5000010,[],[0,0,0,0,1,0,5,5,15,0,31,18]),(5000011,[],[0,0,1,1,0,0,3,2,15,4,31,0])]) mixed ab5 Tryz.func151 λb=>by kernel_rfl
def oh (b:cM×Int×Int):Option (cM× (Int×List D9×Int)×Int):=
 (FT (b.1,b.2.1,b.2.2,())).bind λa=>
 some a
def O1:=Ctx.add SJ 94 [.agg (.pair dE gP),.one (.int .u64),.one (.int .u64)] (.tup [.agt (.pair dE gP),.agg [.int .u64,.fresh 149 Y1,.int .i64],.leaf (.int .i64)]) oh
theorem XW:O1.Sound:=.add (H:=hd [(1000000,[],[3])]) mixed ab7 Tryz.func94 λb=>by kernel_rfl
def Av (b:List Int):Option (cM×List cD×Int):=
 let e:Int:=b.length;let k:=decide (0<=e) && decide (e=e) && decide (e.toNat*40<=az);(aj (
 (tF ()).bind λf=>
 (λo=>aj o (aj o o)) (
 bif k then
 aD (λ(c:(mY)->Option (cM×List cD×Int)) (a:mY)=>let g:=a.2.2.1;
 bif decide (g<e) then (
 bif ae g b.length then
 (oh (a.2.2.2.1,(IntKind.wrap .u64 ((IntKind.wrap .u64 g)+1)),(rd (.int .u64) b g))).bind λd=>
 bif (!decide (d.2.2=0)) then (
 some ((([],[],[],[],0,[],0,0),[],[],[],[]),[],d.2.2))
 else (
 bif ae g a.2.2.2.2.length then
 c (a.1,a.2.1,(IntKind.wrap .i64 (g+1)),d.1,(a.2.2.2.2.set g.toNat d.2.1))
 else none)
 else none)
 else (
 some (a.2.2.2.1,a.2.2.2.2,0))) (([]:List cD),0,0,(f,[],[],[],[]),(List.replicate (e.toNat) (0,[],0):List cD))
 else none)) (aj (
 bif k then
 (λo=>aj o o) (
 (tF ()).bind λf=>
 aD (λ(c:(mY)->Option (cM×List cD×Int)) (a:mY)=>let h:=a.2.2.1;
 bif decide (h<e) then (
 bif ae h b.length then
 (oh (a.2.2.2.1,(IntKind.wrap .u64 ((IntKind.wrap .u64 h)+1)),(rd (.int .u64) b h))).bind λd=>
 bif (!decide (d.2.2=0)) then (
 some ((([],[],[],[],0,[],0,0),[],[],[],[]),[],d.2.2))
 else (
 bif ae h a.2.2.2.2.length then
 c (a.1,a.2.1,(IntKind.wrap .i64 (h+1)),d.1,(a.2.2.2.2.set h.toNat d.2.1))
 else none)
 else none)
 else (
 some (a.2.2.2.1,a.2.2.2.2,0))) (([]:List cD),0,0,(f,[],[],[],[]),(List.replicate (e.toNat) (0,[],0):List cD)))
 else none) (
 (aj (
 (tF ()).bind λf=>
 (λo=>aj o o) (
 bif k then
 aD (λ(c:(mY)->Option (cM×List cD×Int)) (a:mY)=>let i:=a.2.2.1;
 bif decide (i<e) then (
 bif ae i b.length then
 (oh (a.2.2.2.1,(IntKind.wrap .u64 ((IntKind.wrap .u64 i)+1)),(rd (.int .u64) b i))).bind λd=>
 bif (!decide (d.2.2=0)) then (
 some ((([],[],[],[],0,[],0,0),[],[],[],[]),[],d.2.2))
 else (
 bif ae i a.2.2.2.2.length then
 c (a.1,a.2.1,(IntKind.wrap .i64 (i+1)),d.1,(a.2.2.2.2.set i.toNat d.2.1))
 else none)
 else none)
 else (
 some (a.2.2.2.1,a.2.2.2.2,0))) (([]:List cD),0,0,(f,[],[],[],[]),(List.replicate (e.toNat) (0,[],0):List cD))
 else none)) (
 bif k then
 (tF ()).bind λf=>
 aD (λ(c:(mY)->Option (cM×List cD×Int)) (a:mY)=>let j:=a.2.2.1;
 bif decide (j<e) then (
 bif ae j b.length then
 (oh (a.2.2.2.1,(IntKind.wrap .u64 ((IntKind.wrap .u64 j)+1)),(rd (.int .u64) b j))).bind λd=>
 bif (!decide (d.2.2=0)) then (
 some ((([],[],[],[],0,[],0,0),[],[],[],[]),[],d.2.2))
 else (
 bif ae j a.2.2.2.2.length then
 c (a.1,a.2.1,(IntKind.wrap .i64 (j+1)),d.1,(a.2.2.2.2.set j.toNat d.2.1))
 else none)
 else none)
 else (
 some (a.2.2.2.1,a.2.2.2.2,0))) (([]:List cD),0,0,(f,[],[],[],[]),(List.replicate (e.toNat) (0,[],0):List cD))
 else none)))))
def PD:=Ctx.add O1 49 [.one gC] (.tup [.agt (.pair dE gP),.leaf (.fresh 89 iq),.leaf (.int .i64)]) Av
theorem YB:PD.Sound:=.add (H:=hd [(3,[.row 3 14339 89 iq,.data 4 (.int .i64),.data 19 (.int .i64),.box 20480 (.pair dE gP),.rowk 65536 89 iq],[49157,49155,49154,49153,49152,8192]),(1000005,[],[9,10]),(3000000,[],[20480]),(3000001,[],[20480]),(3000002,[],[20480]),(3000003,[],[20480]),(3000004,[],[20480]),(3000005,[],[20480]),(3000006,[],[20480]),(3000007,[],[20480]),(3000008,[],[20480]),(3000009,[],[20480]),(3000010,[],[20480]),(5000001,[],[0,0,1,1,0,0,4,4,8,8,0,0,35,34,127,16]),(5000008,[],[0,0,0,0,0,0,0,0,4,4,31,3,63,40])]) mixed XW Tryz.func49 λb=>by kernel_rfl
def FH (b:List Int):Option (cI×List cD×Int):=
 (Av b).bind λa=>
 bif (!decide (a.2.2=0)) then (
 some (((([],[],[],[],0,[],0,0),[],[],[],[]),(0,0),(0,0),(0,0),(0,0),(0,0),(0,0),(0,0),(0,0),(0,0),(0,0),(0,0),(0,0),(0,0),(0,0),(0,0),0,0),[],a.2.2))
 else (
 some ((a.1,(0,0),(0,0),(0,0),(0,0),(0,0),(0,0),(0,0),(0,0),(0,0),(0,0),(0,0),(0,0),(0,0),(0,0),(0,0),0,0),a.2.1,0))
def Rr:=Ctx.add PD 23 [.one gC] (.tup [.agt cH,.leaf (.fresh 89 iq),.leaf (.int .i64)]) FH
theorem s23:Rr.Sound:=.add (H:=hd [(1000001,[],[5])]) mixed YB Tryz.func23 λb=>by kernel_rfl
def F8 (b:List Int):Option (cn×List cD×Int):=
 (FH b).bind λa=>
 bif (!decide (a.2.2=0)) then (
 some ((((([],[],[],[],0,[],0,0),[],[],[],[]),(0,0),(0,0),(0,0),(0,0),(0,0),(0,0),(0,0),(0,0),(0,0),(0,0),(0,0),(0,0),(0,0),(0,0),(0,0),0,0),(false,[],false,[],[]),(false,[],false,[],[]),(false,[],false,[],[]),(false,[],false,[],[]),(false,[],false,[],[]),(false,[],false,[],[]),(false,[],false,[],[]),(false,[],false,[],[]),(false,[],false,[],[]),(false,[],false,[],[]),(false,[],false,[],[]),(false,[],false,[],[]),(false,[],false,[],[]),(false,[],false,[],[]),(false,[],false,[],[]),false,[],false,[],[]),[],a.2.2))
 else (
 some ((a.1,(false,[],false,[],[]),(false,[],false,[],[]),(false,[],false,[],[]),(false,[],false,[],[]),(false,[],false,[],[]),(false,[],false,[],[]),(false,[],false,[],[]),(false,[],false,[],[]),(false,[],false,[],[]),(false,[],false,[],[]),(false,[],false,[],[]),(false,[],false,[],[]),(false,[],false,[],[]),(false,[],false,[],[]),(false,[],false,[],[]),false,[],false,[],[]),a.2.1,0))
def C8:=Ctx.add Rr 8 [.one gC] (.tup [.agt (.pair cH ed),.leaf (.fresh 89 iq),.leaf (.int .i64)]) F8
theorem s8:C8.Sound:=.add (H:=hd [(1000001,[],[5])]) mixed s23 Tryz.func8 λb=>by kernel_rfl
def Ap (b:List Int):Option Bool:=
 some (decide (4096<(b.length:Int)))
def Px:=Ctx.add C8 56 [.one aY] (.one (.leaf (.bool))) Ap
theorem Yu:Px.Sound:=.add (H:=hd []) mixed s8 Tryz.func56 λb=>by kernel_rfl
def jr (b:List Int×List Int):Option Bool:=
 some (decide (b.1=b.2))
def P4:=Ctx.add Px 35 [.one aY,.one aY] (.one (.leaf (.bool))) jr
theorem Zm:P4.Sound:=.add (H:=hd []) mixed Yu Tryz.func35 λb=>by kernel_rfl
def BU (b:BZ×BZ):Option Bool:=
 bif ((b.1.2==b.2.2)==true) then (
 (jr (b.1.1,b.2.1)).bind λa=>
 some a)
 else (
 some false)
def Tt:=Ctx.add P4 105 [.agg (.pair aY .bool),.agg (.pair aY .bool)] (.one (.leaf (.bool))) BU
theorem acK:Tt.Sound:=.add (H:=hd [(1000000,[],[2,3])]) mixed Zm Tryz.func105 λb=>by kernel_rfl
def BT (b:List (List Int)×List (List Int)×Unit):Option Bool:=
 bif (!decide ((b.1.length:Int)=(b.2.1.length:Int))) then (
 some false)
 else (
 aD (λ(c:(Bool×Int)->Option Bool) (a:Bool×Int)=>
  bif decide (a.2<(b.1.length:Int)) then (
  bif ae a.2 b.1.length then
  bif ae a.2 b.2.1.length then
  (jr ((rd aY b.1 a.2),(rd aY b.2.1 a.2))).bind λd=>
  bif (!d) then (
  some false)
  else (
  c (a.1,(IntKind.wrap .i64 (a.2+1))))
  else none
  else none)
  else (
  some true)) (false,0))
def Ts:=Ctx.add Tt 106 [.one (.slice 49 aY),.one (.slice 49 aY),.fn 35] (.one (.leaf (.bool))) BT
theorem acJ:Ts.Sound:=.add (H:=hd [(4,[.data 6 .bool,.data 17 (.int .i64)],[])]) mixed acK Tryz.func106 λb=>by kernel_rfl
def Ao (b:eU×eU):Option Bool:=
 bif ((b.1.1==b.2.1)==true) then (
 (BU ((b.1.2.1,b.1.2.2.1),b.2.2.1,b.2.2.2.1)).bind λa=>
 bif (a==true) then (
 (BT (b.1.2.2.2.1,b.2.2.2.2.1,())).bind λc=>
 bif (c==true) then (
 (jr (b.1.2.2.2.2,b.2.2.2.2.2)).bind λd=>
 some d)
 else (
 some false))
 else (
 some false))
 else (
 some false)
def Pw:=Ctx.add Ts 57 [.agg (.pair .bool cG),.agg (.pair .bool cG)] (.one (.leaf (.bool))) Ao
theorem Yt:Pw.Sound:=.add (H:=hd [(1000000,[],[2,3])]) mixed acJ Tryz.func57 λb=>by kernel_rfl
def w7 (b:List Int):Option (Int×Bool):=
 bif decide ((b.length:Int) <2) then (
 some (2,false))
 else (
 bif ae 0 b.length then
 bif ae 1 b.length then
 some ((IntKind.wrap .i64 ((IntKind.wrap .i64 (2+ (IntKind.wrap .i64 ((IntKind.wrap .i64 (rd (.int .u8) b 0))*2^ (min (8:Int).toNat 64)))))+ (IntKind.wrap .i64 (rd (.int .u8) b 1)))),true)
 else none
 else none)
def QD:=Ctx.add Pw 30 [.one aY] (.tup [.leaf (.int .i64),.leaf (.bool)]) w7
theorem Z7:QD.Sound:=.add (H:=hd [(5000003,[],[0,0,1,1,2,2,4,4,8,8,16,16,0,0,64,64,128,128,256,256,544,544,2047,1024,4095,0])]) mixed Yt Tryz.func30 λb=>by kernel_rfl
def w9 (b:BZ):Option Int:=
 (w7 b.1).bind λa=>
 bif ((bif b.2 then decide (0<(b.1.length:Int)) else false)==false) then (
 bif (a.2==true) then (
 bif (bif decide (4098<a.1) then true else decide (a.1<= (b.1.length:Int))) then (
 some 1)
 else (
 some 0))
 else (
 some 0))
 else (
 some 1)
def QP:=Ctx.add QD 28 [.agg (.pair aY .bool)] (.one (.leaf (.int .i64))) w9
theorem s28:QP.Sound:=.add (H:=hd [(1000000,[],[1])]) mixed Z7 Tryz.func28 λb=>by kernel_rfl
def BS (b:List (List Int)×Unit):Option Int:=
 aD (λ(c:(Int×Int)->Option Int) (a:Int×Int)=>
  bif decide (a.2<(b.1.length:Int)) then (
  bif ae a.2 b.1.length then
  (Ap (rd aY b.1 a.2)).bind λd=>
  bif d then (
  some a.2)
  else (
  c (a.1,(IntKind.wrap .i64 (a.2+1))))
  else none)
  else (
  some (-1))) (0,0)
def Tq:=Ctx.add QP 107 [.one (.slice 49 aY),.fn 56] (.one (.leaf (.int .i64))) BS
theorem acI:Tq.Sound:=.add (H:=hd [(2,[.data 4 (.int .i64),.data 8 (.int .i64)],[])]) mixed s28 Tryz.func107 λb=>by kernel_rfl
def An (b:List (List Int)×Unit):Option Bool:=
 (BS (b.1,())).bind λa=>
 some (decide (0<=a))
def Pv:=Ctx.add Tq 58 [.one (.slice 49 aY),.fn 56] (.one (.leaf (.bool))) An
theorem Ys:Pv.Sound:=.add (H:=hd []) mixed acI Tryz.func58 λb=>by kernel_rfl
def ub (b:eU):Option Int:=
 let f:=An (b.2.2.2.1,());let c:Int:=b.2.2.2.2.length;let d:Int:=b.2.2.2.1.length;let a:=w9 (b.2.1,b.2.2.1);bif ((!b.1)==true) then (
 (Ao (b,false,[],false,[],[])).bind λg=>
 bif (!g) then (
 bif (!g) then (
 some 1)
 else (
 a.bind λh=>
 some h))
 else (
 bif decide (8<d) then (
 bif decide (8<d) then (
 some 1)
 else (
 a.bind λi=>
 some i))
 else (
 bif decide (16384<c) then (
 bif decide (16384<c) then (
 some 1)
 else (
 a.bind λj=>
 some j))
 else (
 f.bind λk=>
 bif k then (
 some 1)
 else (
 a.bind λl=>
 some l)))))
 else (
 bif decide (8<d) then (
 bif decide (8<d) then (
 some 1)
 else (
 a.bind λm=>
 some m))
 else (
 bif decide (16384<c) then (
 bif decide (16384<c) then (
 some 1)
 else (
 a.bind λn=>
 some n))
 else (
 f.bind λo=>
 bif o then (
 some 1)
 else (
 a.bind λe=>
 some e))))
def Q7:=Ctx.add Pv 26 [.agg (.pair .bool cG)] (.one (.leaf (.int .i64))) ub
theorem s26:Q7.Sound:=.add (H:=hd [(1000000,[],[1])]) mixed Ys Tryz.func26 λb=>by kernel_rfl
def Al (b:(Int×Int)):Option Bool:=
 some (decide (0<(b.1 / 2^ (min (16:Int).toNat 64))))
def Pt:=Ctx.add Q7 59 [.agg Y0] (.one (.leaf (.bool))) Al
theorem Yq:Pt.Sound:=.add (H:=hd [(1000000,[],[1])]) mixed s26 Tryz.func59 λb=>by kernel_rfl
def iw (b:List Int):Option (Int×Int×Int):=
 let d:=rd (.int .u8) b 0;bif (decide ((b.length:Int)=0)==false) then (
 bif ae 0 b.length then
 (mU d).bind λh=>
 bif decide ((b.length:Int)<=h) then (
 some (0,0,3))
 else (
 bif ae 0 b.length then
 (mU d).bind λg=>let e:=IntKind.wrap .i64 (g+1);let i:=b.take (e.toNat);let f:=i.drop ((1:Int).toNat);
 bif decide (g=0) then (
 bif ae 0 b.length then
 some ((IntKind.wrap .u64 d),1,0)
 else none)
 else (
 bif (ae e (b.length+1) && (decide (0<=1) && decide (1<=e))) then
 aD (λ(c:(Int×Int)->Option (Int×Int×Int)) (a:Int×Int)=>
 bif decide (a.2<(f.length:Int)) then (
 bif ae a.2 f.length then
 c ((df .or .u64 (IntKind.wrap .u64 (a.1*2^ (min (8:Int).toNat 64))) (IntKind.wrap .u64 (rd (.int .u8) f a.2))),(IntKind.wrap .i64 (a.2+1)))
 else none)
 else (
 bif ae 0 b.length then
 (xx a.1).bind λj=>
 bif (!decide (j=d)) then (
 some (0,0,2))
 else (
 some (a.1,e,0))
 else none)) (0,0)
 else none)
 else none)
 else none)
 else (
 some (0,0,3))
def Tg:=Ctx.add Pt 114 [.one aY] (.tup [.leaf (.int .u64),.leaf (.int .i64),.leaf (.int .i64)]) iw
theorem acA:Tg.Sound:=.add (H:=hd [(7,[.data 2 (.int .u64),.data 35 (.int .i64)],[]),(5000011,[],[0,0,1,1,0,0,4,4,8,8,18,18])]) mixed Yq Tryz.func114 λb=>by kernel_rfl
def la (b:bq×Int):Option Int:=
 (gY (b.1.1,b.2)).bind λa=>
 some a
def Gp:=Ctx.add Tg 67 [.agg cP,.one (.int .u64)] (.one (.leaf (.int .i64))) la
theorem Yi:Gp.Sound:=.add (H:=hd [(1000000,[],[2])]) mixed acA Tryz.func67 λb=>by kernel_rfl
def Gq:=Ctx.addI Gp 65 (hd []) 9000065 Tryz.f65
theorem Yk:Gq.Sound:=Ctx.Sound.addI (C:=Gp) mixed Yi Tryz.func65
def Pn:=Ctx.addI Gq 66 (hd []) 9000066 Tryz.f66
theorem Yj:Pn.Sound:=Ctx.Sound.addI (C:=Gq) mixed Yk Tryz.func66
def tU (b:List Int):Option (List bq×Int):=
 bif (bif decide (65535<(b.length:Int)) then true else false) then (
 aD (λ(c:(BY)->Option (List bq×Int)) (d:BY)=>let o:=d.2.1;let U:Int:=d.1.length;let y50:=cg (d.2.1.take ((0:Int).toNat));let y41:=IntKind.wrap .u64 (o.length:Int);let V:=decide (0<U)==true;let w:=d.2.2=0;let O:=!decide w;let y23:=bif decide (y41<0) then decide w else false;let x:=o.length+1;let y20:=d.1.length+1;let q:=y20*32<=az;let P:Option (List bq×Int):=c (d.1,(o,3));let y6:=bif decide (y41<0) then false else false;let y65:Option (List bq×Int):=bif y6 then P else (c (d.1,(o,4)));let y64:Option (List bq×Int):=bif y6 then P else (c (d.1,(o,2)));let S:=IntKind.wrap .i64 (U - 1);let W:=rd cP d.1 (if S<0 then 0 else S);
  bif (bif decide w then decide (0<(o.length:Int)) else false) then (
  bif (bif decide (U=64) then decide w else false) then (
  bif V then (
  bif ae (if S<0 then 0 else S) d.1.length then
  (la (W,0)).bind λr2=>
  bif (bif decide (0<=r2) then false else false) then y64
  else y65
  else none)
  else y65)
  else (
  bif O then (
  bif V then (
  bif ae (if S<0 then 0 else S) d.1.length then
  (la (W,0)).bind λr3=>
  bif (bif decide (0<=r3) then decide w else false) then y64
  else (
  bif O then (
  bif y23 then P
  else (
  bif decide w then (
  bif ae 0 x then
  y50.bind λr4=>
  bif decide q then
  bif ae 0 x then
  c ((d.1++ ([(0,r4)])),(d.2.1.drop ((0:Int).toNat),d.2.2))
  else none
  else none
  else none)
  else (
  c (d.1,d.2))))
  else (
  (iw o).bind λr=>let y70:Option (List bq×Int):=c (d.1,(d.2.1.drop r.2.1.toNat,3));let I:=d.2.1.drop r.2.1.toNat;let y42:=IntKind.wrap .u64 (I.length:Int);
  bif ae r.2.1 x then
  bif (bif decide (4096<r.1) then decide (r.2.2=0) else false) then (
  bif (bif decide (y42<r.1) then false else false) then y70
  else (
  c (d.1,(d.2.1.drop r.2.1.toNat,4))))
  else (
  bif (bif decide (y42<r.1) then decide (r.2.2=0) else false) then y70
  else (
  bif decide (r.2.2=0) then (
  bif ae r.1 (I.length+1) then
  (cg (I.take r.1.toNat)).bind λr6=>
  bif decide q then
  bif ae r.1 (I.length+1) then
  c ((d.1++ ([(0,r6)])),(I.drop r.1.toNat,r.2.2))
  else none
  else none
  else none)
  else (
  c (d.1,(d.2.1.drop r.2.1.toNat,r.2.2)))))
  else none))
  else none)
  else (
  bif O then (
  bif y23 then P
  else (
  bif decide w then (
  bif ae 0 x then
  y50.bind λr7=>
  bif decide q then
  bif ae 0 x then
  c ((d.1++ ([(0,r7)])),(d.2.1.drop ((0:Int).toNat),d.2.2))
  else none
  else none
  else none)
  else (
  c (d.1,d.2))))
  else (
  (iw o).bind λs=>let y71:Option (List bq×Int):=c (d.1,(d.2.1.drop s.2.1.toNat,3));let J:=d.2.1.drop s.2.1.toNat;let y43:=IntKind.wrap .u64 (J.length:Int);
  bif ae s.2.1 x then
  bif (bif decide (4096<s.1) then decide (s.2.2=0) else false) then (
  bif (bif decide (y43<s.1) then false else false) then y71
  else (
  c (d.1,(d.2.1.drop s.2.1.toNat,4))))
  else (
  bif (bif decide (y43<s.1) then decide (s.2.2=0) else false) then y71
  else (
  bif decide (s.2.2=0) then (
  bif ae s.1 (J.length+1) then
  (cg (J.take s.1.toNat)).bind λr9=>
  bif decide q then
  bif ae s.1 (J.length+1) then
  c ((d.1++ ([(0,r9)])),(J.drop s.1.toNat,s.2.2))
  else none
  else none
  else none)
  else (
  c (d.1,(d.2.1.drop s.2.1.toNat,s.2.2)))))
  else none)))
  else (
  (iw o).bind λi=>let y62:Option (List bq×Int):=c (d.1,(d.2.1.drop i.2.1.toNat,i.2.2));let A:=i.2.2=0;let X:Option (List bq×Int):=c (d.1,(d.2.1.drop i.2.1.toNat,3));let t:=d.2.1.drop i.2.1.toNat;let y57:=cg (t.take ((0:Int).toNat));let y51:=IntKind.wrap .u64 (t.length:Int);let B:=t.length+1;let y24:=bif decide (y51<0) then decide A else false;
  bif ae i.2.1 x then
  bif V then (
  bif ae (if S<0 then 0 else S) d.1.length then
  (la (W,i.1)).bind λr11=>
  bif (bif decide (0<=r11) then decide A else false) then (
  bif (bif decide (y51<0) then false else false) then X
  else (
  c (d.1,(d.2.1.drop i.2.1.toNat,2))))
  else (
  bif (!decide A) then (
  bif y24 then X
  else (
  bif decide A then (
  bif ae 0 B then
  y57.bind λr12=>
  bif decide q then
  bif ae 0 B then
  c ((d.1++ ([(i.1,r12)])),(t.drop ((0:Int).toNat),i.2.2))
  else none
  else none
  else none)
  else y62))
  else (
  (iw t).bind λk=>let C:=k.2.1;let Y:=k.2.2=0;let K:=t.drop C.toNat;let y44:=IntKind.wrap .u64 (K.length:Int);
  bif ae C B then
  bif (bif decide (4096<k.1) then decide Y else false) then (
  bif (bif decide (y44<k.1) then false else false) then (
  c (d.1,(t.drop C.toNat,3)))
  else (
  c (d.1,(t.drop C.toNat,4))))
  else (
  bif (bif decide (y44<k.1) then decide Y else false) then (
  c (d.1,(t.drop C.toNat,3)))
  else (
  bif decide Y then (
  bif ae k.1 (K.length+1) then
  (cg (K.take k.1.toNat)).bind λr14=>
  bif decide q then
  bif ae k.1 (K.length+1) then
  c ((d.1++ ([(i.1,r14)])),(K.drop k.1.toNat,k.2.2))
  else none
  else none
  else none)
  else (
  c (d.1,(t.drop C.toNat,k.2.2)))))
  else none))
  else none)
  else (
  bif (!decide A) then (
  bif y24 then X
  else (
  bif decide A then (
  bif ae 0 B then
  y57.bind λr15=>
  bif decide q then
  bif ae 0 B then
  c ((d.1++ ([(i.1,r15)])),(t.drop ((0:Int).toNat),i.2.2))
  else none
  else none
  else none)
  else y62))
  else (
  (iw t).bind λl=>let D:=l.2.1;let Z:=l.2.2=0;let L:=t.drop D.toNat;let y45:=IntKind.wrap .u64 (L.length:Int);
  bif ae D B then
  bif (bif decide (4096<l.1) then decide Z else false) then (
  bif (bif decide (y45<l.1) then false else false) then (
  c (d.1,(t.drop D.toNat,3)))
  else (
  c (d.1,(t.drop D.toNat,4))))
  else (
  bif (bif decide (y45<l.1) then decide Z else false) then (
  c (d.1,(t.drop D.toNat,3)))
  else (
  bif decide Z then (
  bif ae l.1 (L.length+1) then
  (cg (L.take l.1.toNat)).bind λr17=>
  bif decide q then
  bif ae l.1 (L.length+1) then
  c ((d.1++ ([(i.1,r17)])),(L.drop l.1.toNat,l.2.2))
  else none
  else none
  else none)
  else (
  c (d.1,(t.drop D.toNat,l.2.2)))))
  else none))
  else none)))
  else (
  bif O then (
  some ([],d.2.2))
  else (
  some (d.1,0)))) (([]:List bq),(b,4)))
 else (
 aD (λ(a:(BY)->Option (List bq×Int)) (e:BY)=>let y47:=cg (e.2.1.take ((0:Int).toNat));let p:=e.2.1;let y46:=IntKind.wrap .u64 (p.length:Int);let y:=e.2.2=0;let Q:=!decide y;let y26:=bif decide (y46<0) then decide y else false;let z:=p.length+1;let f:=e.1;let y61:Int:=f.length;let y32:=decide (0<y61)==true;let y27:=f.length+1;let u:=y27*32<=az;let R:Option (List bq×Int):=a (f,(p,3));let y5:=bif decide (y46<0) then false else false;let y67:Option (List bq×Int):=bif y5 then R else (a (f,(p,4)));let y66:Option (List bq×Int):=bif y5 then R else (a (f,(p,2)));let T:=IntKind.wrap .i64 (y61 - 1);let y33:=rd cP f (if T<0 then 0 else T);
  bif (bif decide y then decide (0<(p.length:Int)) else false) then (
  bif (bif decide (y61=64) then decide y else false) then (
  bif y32 then (
  bif ae (if T<0 then 0 else T) f.length then
  (la (y33,0)).bind λr19=>
  bif (bif decide (0<=r19) then false else false) then y66
  else y67
  else none)
  else y67)
  else (
  bif Q then (
  bif y32 then (
  bif ae (if T<0 then 0 else T) f.length then
  (la (y33,0)).bind λr20=>
  bif (bif decide (0<=r20) then decide y else false) then y66
  else (
  bif Q then (
  bif y26 then R
  else (
  bif decide y then (
  bif ae 0 z then
  y47.bind λr21=>
  bif decide u then
  bif ae 0 z then
  a ((f++ ([(0,r21)])),(e.2.1.drop ((0:Int).toNat),e.2.2))
  else none
  else none
  else none)
  else (
  a (f,e.2))))
  else (
  (iw p).bind λg=>let y74:=g.2.2=0;let y68:Option (List bq×Int):=a (f,(e.2.1.drop g.2.1.toNat,3));let y8:=e.2.1.drop g.2.1.toNat;let y52:=IntKind.wrap .u64 (y8.length:Int);
  bif ae g.2.1 z then
  bif (bif decide (4096<g.1) then decide y74 else false) then (
  bif (bif decide (y52<g.1) then false else false) then y68
  else (
  a (f,(e.2.1.drop g.2.1.toNat,4))))
  else (
  bif (bif decide (y52<g.1) then decide y74 else false) then y68
  else (
  bif decide y74 then (
  bif ae g.1 (y8.length+1) then
  (cg (y8.take g.1.toNat)).bind λr23=>
  bif decide u then
  bif ae g.1 (y8.length+1) then
  a ((f++ ([(0,r23)])),(y8.drop g.1.toNat,g.2.2))
  else none
  else none
  else none)
  else (
  a (f,(e.2.1.drop g.2.1.toNat,g.2.2)))))
  else none))
  else none)
  else (
  bif Q then (
  bif y26 then R
  else (
  bif decide y then (
  bif ae 0 z then
  y47.bind λr24=>
  bif decide u then
  bif ae 0 z then
  a ((f++ ([(0,r24)])),(e.2.1.drop ((0:Int).toNat),e.2.2))
  else none
  else none
  else none)
  else (
  a (f,e.2))))
  else (
  (iw p).bind λh=>let y75:=h.2.2=0;let y69:Option (List bq×Int):=a (f,(e.2.1.drop h.2.1.toNat,3));let y9:=e.2.1.drop h.2.1.toNat;let y53:=IntKind.wrap .u64 (y9.length:Int);
  bif ae h.2.1 z then
  bif (bif decide (4096<h.1) then decide y75 else false) then (
  bif (bif decide (y53<h.1) then false else false) then y69
  else (
  a (f,(e.2.1.drop h.2.1.toNat,4))))
  else (
  bif (bif decide (y53<h.1) then decide y75 else false) then y69
  else (
  bif decide y75 then (
  bif ae h.1 (y9.length+1) then
  (cg (y9.take h.1.toNat)).bind λr26=>
  bif decide u then
  bif ae h.1 (y9.length+1) then
  a ((f++ ([(0,r26)])),(y9.drop h.1.toNat,h.2.2))
  else none
  else none
  else none)
  else (
  a (f,(e.2.1.drop h.2.1.toNat,h.2.2)))))
  else none)))
  else (
  (iw p).bind λj=>let y63:Option (List bq×Int):=a (f,(e.2.1.drop j.2.1.toNat,j.2.2));let E:=j.2.2=0;let y35:Option (List bq×Int):=a (f,(e.2.1.drop j.2.1.toNat,3));let v:=e.2.1.drop j.2.1.toNat;let y59:=cg (v.take ((0:Int).toNat));let y54:=IntKind.wrap .u64 (v.length:Int);let F:=v.length+1;let y25:=bif decide (y54<0) then decide E else false;
  bif ae j.2.1 z then
  bif y32 then (
  bif ae (if T<0 then 0 else T) f.length then
  (la (y33,j.1)).bind λr28=>
  bif (bif decide (0<=r28) then decide E else false) then (
  bif (bif decide (y54<0) then false else false) then y35
  else (
  a (f,(e.2.1.drop j.2.1.toNat,2))))
  else (
  bif (!decide E) then (
  bif y25 then y35
  else (
  bif decide E then (
  bif ae 0 F then
  y59.bind λr29=>
  bif decide u then
  bif ae 0 F then
  a ((f++ ([(j.1,r29)])),(v.drop ((0:Int).toNat),j.2.2))
  else none
  else none
  else none)
  else y63))
  else (
  (iw v).bind λm=>let G:=m.2.1;let y76:=m.2.2=0;let M:=v.drop G.toNat;let y48:=IntKind.wrap .u64 (M.length:Int);
  bif ae G F then
  bif (bif decide (4096<m.1) then decide y76 else false) then (
  bif (bif decide (y48<m.1) then false else false) then (
  a (f,(v.drop G.toNat,3)))
  else (
  a (f,(v.drop G.toNat,4))))
  else (
  bif (bif decide (y48<m.1) then decide y76 else false) then (
  a (f,(v.drop G.toNat,3)))
  else (
  bif decide y76 then (
  bif ae m.1 (M.length+1) then
  (cg (M.take m.1.toNat)).bind λr31=>
  bif decide u then
  bif ae m.1 (M.length+1) then
  a ((f++ ([(j.1,r31)])),(M.drop m.1.toNat,m.2.2))
  else none
  else none
  else none)
  else (
  a (f,(v.drop G.toNat,m.2.2)))))
  else none))
  else none)
  else (
  bif (!decide E) then (
  bif y25 then y35
  else (
  bif decide E then (
  bif ae 0 F then
  y59.bind λr32=>
  bif decide u then
  bif ae 0 F then
  a ((f++ ([(j.1,r32)])),(v.drop ((0:Int).toNat),j.2.2))
  else none
  else none
  else none)
  else y63))
  else (
  (iw v).bind λn=>let H:=n.2.1;let y77:=n.2.2=0;let N:=v.drop H.toNat;let y49:=IntKind.wrap .u64 (N.length:Int);
  bif ae H F then
  bif (bif decide (4096<n.1) then decide y77 else false) then (
  bif (bif decide (y49<n.1) then false else false) then (
  a (f,(v.drop H.toNat,3)))
  else (
  a (f,(v.drop H.toNat,4))))
  else (
  bif (bif decide (y49<n.1) then decide y77 else false) then (
  a (f,(v.drop H.toNat,3)))
  else (
  bif decide y77 then (
  bif ae n.1 (N.length+1) then
  (cg (N.take n.1.toNat)).bind λr34=>
  bif decide u then
  bif ae n.1 (N.length+1) then
  a ((f++ ([(j.1,r34)])),(N.drop n.1.toNat,n.2.2))
  else none
  else none
  else none)
  else (
  a (f,(v.drop H.toNat,n.2.2)))))
  else none))
  else none)))
  else (
  bif Q then (
  some ([],e.2.2))
  else (
  some (f,0)))) (([]:List bq),(b,0)))
def Qj:=Ctx.add Pn 32 [.one aY] (.tup [.leaf (.fresh 125 cP),.leaf (.int .i64)]) tU
theorem ZN:Qj.Sound:=.add (H:=hd [(3,[.row 2 10243 125 cP,.box 36864 Y81],[]),(5000014,[],[0,0,1,1,2,2,4,4,0,0,31,8])]) mixed Yj Tryz.func32 λb=>by kernel_rfl
end
end Go.Proofs.YtkihadlgknhpkaaGreatDoor.T
