/- Part 36: lemmas that the last text needs. -/
import Derived.Test.YtkihadlgknhpkaaGreatDoorX35
set_option linter.all false
set_option autoImplicit true
set_option relaxedAutoImplicit true
namespace Go.Proofs.YtkihadlgknhpkaaGreatDoor.T
set_option maxRecDepth 100000
open Go Go.Fw Go.Proofs
noncomputable section
def qX (b:List Int):Option (List Int×Int):=
 let e:Int:=b.length;let d:=IntKind.wrap .u8 e;let c:=IntKind.wrap .u8 (e / 2^ (min (8:Int).toNat 64));let a:=IntKind.wrap .i64 (2+e);bif decide (4096<e) then (
 some ([],4))
 else (
 bif (decide (0<=a) && decide (a=a) && decide (a.toNat*1<=az)) then
 bif ae 0 (List.replicate (a.toNat) 0:List Int).length then
 bif ae 1 ((List.replicate (a.toNat) 0:List Int).set ((0:Int).toNat) c).length then
 bif ae 2 ((((List.replicate (a.toNat) 0:List Int).set ((0:Int).toNat) c).set ((1:Int).toNat) d).length+1) then
 bif (decide (b.length<= ((((List.replicate (a.toNat) 0:List Int).set ((0:Int).toNat) c).set ((1:Int).toNat) d).length -((2:Int).toNat))) && decide ((2:Int).toNat+ ((((List.replicate (a.toNat) 0:List Int).set ((0:Int).toNat) c).set ((1:Int).toNat) d).length -((2:Int).toNat))<= (((List.replicate (a.toNat) 0:List Int).set ((0:Int).toNat) c).set ((1:Int).toNat) d).length)) then
 some ((((List.replicate (a.toNat) 0:List Int).set ((0:Int).toNat) c).set ((1:Int).toNat) d).take ((2:Int).toNat)++b++ (((List.replicate (a.toNat) 0:List Int).set ((0:Int).toNat) c).set ((1:Int).toNat) d).drop (((2:Int).toNat)+b.length),0)
 else none
 else none
 else none
 else none
 else none)
def O3:=Ctx.add SC 92 [.one aY] (.tup [.leaf (.fresh 5 (.int .u8)),.leaf (.int .i64)]) qX
theorem XY:O3.Sound:=.add (H:=hd [(4000000,[],[49])]) mixed ab0 Tryz.func92 λb=>by kernel_rfl
def xv (b:eU×List Int):Option ((Bool×List Int×Bool×List (List Int)×List Int)×Int):=
 (ou b.1).bind λd=>
 bif (!decide (d=0)) then (
 some ((false,[],false,[],[]),d))
 else (
 (qX b.2).bind λc=>
 bif (!decide (c.2=0)) then (
 some ((false,[],false,[],[]),c.2))
 else (
 bif decide (16384<(IntKind.wrap .i64 ((b.1.2.2.2.2.length:Int)+ (c.1.length:Int)))) then (
 some ((false,[],false,[],[]),7))
 else (
 (rz b.1).bind λa=>
 bif decide ((a.2.2.2.2.length+c.1.length)*1<=az) then
 some ((a.1,a.2.1,a.2.2.1,a.2.2.2.1,a.2.2.2.2++c.1),0)
 else none)))
def SA:=Ctx.add O3 158 [.agg (.pair .bool cG),.one aY] (.tup [.agg [.bool,.fresh 5 (.int .u8),.bool,.fresh 49 aY,.fresh 5 (.int .u8)],.leaf (.int .i64)]) xv
theorem abZ:SA.Sound:=.add (H:=hd []) mixed XY Tryz.func158 λb=>by kernel_rfl
def xu (b:eU×Int):Option (List Int× (Bool×List Int×Bool×List (List Int)×List Int)×Int):=
 bif decide (b.2<0) then (
 some ([],(false,[],false,[],[]),1))
 else (
 (ou b.1).bind λd=>
 bif (!decide (d=0)) then (
 some ([],(false,[],false,[],[]),d))
 else (
 (rz b.1).bind λa=>let e:=a.2.2.2.2.length+1;let c:Int:=a.2.2.2.2.length;
 bif ae (if c<b.2 then c else b.2) e then
 (cg (a.2.2.2.2.take ((if c<b.2 then c else b.2).toNat))).bind λf=>
 bif ae (if c<b.2 then c else b.2) e then
 some (f,(a.1,a.2.1,a.2.2.1,a.2.2.2.1,a.2.2.2.2.drop ((if c<b.2 then c else b.2).toNat)),0)
 else none
 else none))
def Hf:=Ctx.add SA 159 [.agg (.pair .bool cG),.one (.int .i64)] (.tup [.leaf (.fresh 5 (.int .u8)),.agg [.bool,.fresh 5 (.int .u8),.bool,.fresh 49 aY,.sl 5 (.int .u8)],.leaf (.int .i64)]) xu
theorem abY:Hf.Sound:=.add (H:=hd [(5000010,[],[0,0,0,0,1,1,7,2,15,0])]) mixed abZ Tryz.func159 λb=>by kernel_rfl
def Gl:=Ctx.addI Hf 95 (hd [(1000000,[],[3]),(5000001,[],[0,0,0,0,2,2,1,1,8,8,16,16,36,36,127,64]),(4000000,[],[4398046511116])]) 9000095 Tryz.f95
theorem XV:Gl.Sound:=Ctx.Sound.addI (C:=Hf) mixed abY Tryz.func95
def Gk:=Ctx.addI Gl 96 (hd [(1000000,[],[3]),(5000001,[],[0,0,0,0,2,2,1,1,8,8,16,16,36,36,127,64]),(5000005,[],[0,0,0,0,2,2,4,4,8,8,16,16,0,0,64,64,128,128,256,256,544,544,1024,1024,2048,2048,2048,2048,2048,2048,8191,1,40959,32768,73727,65536,139263,135168,524287,16384]),(4000000,[],[4398046511116])]) 9000096 Tryz.f96
theorem XU:Gk.Sound:=Ctx.Sound.addI (C:=Gl) mixed XV Tryz.func96
def Gj:=Ctx.addI Gk 97 (hd [(1000000,[],[3]),(5000001,[],[0,0,0,0,2,2,1,1,8,8,16,16,36,36,127,64]),(5000002,[],[0,0,0,0,0,0,4,4,8,8,0,0,32,32,80,80,128,128,256,256,256,256,256,256,1021,1,5117,4608,14335,2,30719,16384,47103,32768,79871,66560,262143,2048]),(4000000,[],[4398046511116])]) 9000097 Tryz.f97
theorem XT:Gj.Sound:=Ctx.Sound.addI (C:=Gk) mixed XU Tryz.func97
def Gi:=Ctx.addI Gj 98 (hd [(1000000,[],[3]),(1000001,[],[6]),(5000001,[],[0,0,0,0,2,2,1,1,8,8,16,16,36,36,64,64,128,128,256,256,512,512,512,512,512,512,0,0,10239,1024,28671,10240,65535,4096]),(5000006,[],[0,0,0,0,0,0,4,4,8,8,16,16,32,32,0,0,128,128,0,0,832,832,1024,1024,2048,2048,2048,2048,2048,2048,8189,1,40957,32768,73725,65536,139261,135168,507903,2,1032191,524288,1556479,1048576,2605055,2105344,8388607,16384]),(5000009,[],[0,0,0,0,2,2,0,0,0,0,16,16,32,32,64,64,128,128,264,264,512,512,1024,1024,1024,1024,1,1,8192,8192,16384,16384,36863,32772,69631,67584,262143,4096]),(4000000,[],[4398046511119,4398046511174])]) 9000098 Tryz.f98
theorem XS:Gi.Sound:=Ctx.Sound.addI (C:=Gj) mixed XT Tryz.func98
def Gh:=Ctx.addI Gi 99 (hd [(1000000,[],[3]),(5000001,[],[0,0,0,0,2,2,1,1,8,8,16,16,36,36,127,64]),(5000002,[],[0,0,0,0,0,0,4,4,8,8,0,0,32,32,80,80,128,128,256,256,256,256,256,256,1021,1,5117,4096,9213,8192,17405,16896,63487,2,129023,66560,262143,2048]),(4000000,[],[4398046511116])]) 9000099 Tryz.f99
theorem XR:Gh.Sound:=Ctx.Sound.addI (C:=Gi) mixed XS Tryz.func99
def Tz:=Ctx.addI Gh 100 (hd [(1000000,[],[3]),(5000001,[],[0,0,0,0,2,2,4,4,8,8,16,16,0,0,64,64,160,160,256,256,512,512,512,512,512,512,2047,1,10239,8192,18431,16384,34815,33792,131071,4096])]) 9000100 Tryz.f100
theorem acP:Tz.Sound:=Ctx.Sound.addI (C:=Gh) mixed XR Tryz.func100
def jq (b:cn×fc):Option (cn× (Int×Int×List Int)):=
 let f:=b.1.1;let g:=b.2.1;let e:=b.1.2;let c:=b.2.2.1;let h:=bg (.pair .bool cG) e c;bif decide (g=0) then (
 none)
 else (
 bif decide (g=1) then (
 bif ae c 16 then
 (rH h).bind λa=>
 bif (!decide (a.2=0)) then (
 some (b.1,a.2,0,[]))
 else (
 (λo=>aj o o) (
 some ((f,(da e c a.1)),0,0,[])))
 else none)
 else (
 bif decide (g=2) then (
 bif ae c 16 then
 (BE h).bind λa=>let j:=!decide (a.2=0);
 bif j then (
 bif j then (
 some (b.1,a.2,0,[]))
 else (
 (λo=>aj o o) (
 some ((f,(da e c a.1)),0,0,[]))))
 else (
 (oz (f,10,(IntKind.wrap .u64 c),0,0,false,0,0,0,0,0,[],false,[])).bind λd=>
 bif (!decide (d.2.2=0)) then (
 some (b.1,d.2.2,0,[]))
 else (
 (λo=>aj o o) (
 some ((d.1,(da e c a.1)),0,0,[]))))
 else none)
 else (
 bif decide (g=3) then (
 bif ae c 16 then
 (ur (h,b.2.2.2.2.1)).bind λa=>
 bif (!decide (a.2.2=0)) then (
 some (b.1,a.2.2,0,[]))
 else (
 (λo=>aj o o) (
 some ((f,(da e c a.1)),0,a.2.1,[])))
 else none)
 else (
 bif decide (g=4) then (
 bif ae c 16 then
 (λo=>aj (aj o o) o) (
 (BD h).bind λa=>let k:=!decide (a.2.2=0);
 bif k then (
 bif k then (
 some (b.1,a.2.2,0,[]))
 else (
 (λo=>aj o o) (
 some (b.1,0,0,[]))))
 else (
 bif decide (12286<(a.2.1.2.2.2.2.length:Int)) then (
 some (b.1,7,0,[]))
 else (
 (pL (f,c,a.1)).bind λd=>let l:=!decide (d.2.2=0);
 bif l then (
 bif l then (
 some (b.1,d.2.2,0,[]))
 else (
 (λo=>aj o o) (
 some ((d.1,e),0,0,d.2.1))))
 else (
 (xv (a.2.1,d.2.1)).bind λi=>
 bif ae c 16 then
 bif (!decide (i.2=0)) then (
 some (b.1,i.2,0,[]))
 else (
 (λo=>aj o o) (
 some ((d.1,(da e c i.1)),0,0,d.2.1)))
 else none))))
 else none)
 else (
 bif decide (g=5) then (
 bif ae c 16 then
 (xu (h,b.2.2.2.1)).bind λa=>
 bif (!decide (a.2.2=0)) then (
 some (b.1,a.2.2,0,[]))
 else (
 (λo=>aj o o) (
 some ((f,(da e c a.2.1)),0,0,a.1)))
 else none)
 else (
 bif decide (g=6) then (
 (oz (f,b.2.2.2.2.2)).bind λa=>
 bif (!decide (a.2.2=0)) then (
 some (b.1,a.2.2,0,[]))
 else (
 (λo=>aj o o) (
 some ((a.1,e),0,0,[]))))
 else (
 none)))))))
def PB:=Ctx.add Tz 51 [.agg (.pair cH ed),.agg eL] (.tup [.agt (.pair cH ed),.agg [.int .i64,.int .i64,.sl 5 (.int .u8)]]) jq
theorem Yz:PB.Sound:=.add (H:=hd [(1000000,[],[2,3]),(1000002,[],[7]),(5000003,[],[0,0,1,1,2,2,4,4,0,0,24,24,63,32]),(5000006,[],[0,0,1,1,2,2,4,4,0,0,16,16,32,32,64,64,15,8,511,128]),(4000000,[],[8796093022235])]) mixed acP Tryz.func51 λb=>by kernel_rfl
def As (b:cn):Option cn:=
 aD (λ(d:(Int×cn)->Option cn) (a:Int×cn)=>let e:=bg (.pair .bool cG) b.2 a.1;
  bif decide (a.1<16) then (
  bif ae a.1 16 then
  (cg e.2.1).bind λi=>
  (uz e.2.2.2.1).bind λg=>
  (cg e.2.2.2.2).bind λj=>
  aD (λ(f:(uC)->Option cn) (c:uC)=>
   bif decide (c.1<(g.length:Int)) then (
   bif ae c.1 c.2.length then
   (cg (rd aY c.2 c.1)).bind λk=>
   bif ae c.1 c.2.length then
   f ((IntKind.wrap .i64 (c.1+1)),(c.2.set c.1.toNat k))
   else none
   else none)
   else (
   bif ae a.1 16 then
   d ((IntKind.wrap .i64 (a.1+1)),(a.2.1,(da a.2.2 a.1 (e.1,i,e.2.2.1,c.2,j))))
   else none)) (0,g)
 else none)
 else (
  (oz (a.2.1,5,0,0,0,false,0,0,0,0,0,[],false,a.2.1.1.1.2.1)).bind λh=>
  bif decide (h.2.2=0) then (
  some (h.1,a.2.2))
  else (
  some a.2))) (0,b)
def PA:=Ctx.add PB 52 [.agg (.pair cH ed)] (.one (.agt (.pair cH ed))) As
theorem Yy:PA.Sound:=.add (H:=hd [(2,[.data 12 (.int .i64),.box 4096 (.pair cH ed)],[8192]),(6,[.data 33 (.int .i64),.rowk 90112 49 aY],[102400,77824,16384,8192,4096]),(1000012,[],[7,8]),(5000004,[],[0,0,1,1,2,2,4,4,0,0,16,16,40,32,0,0,128,128,320,256,447,0,1471,1024,3007,2056,7679,0,15871,8256,32767,0,65535,33280]),(5000008,[],[0,0,1,1,0,0,0,0,8,8,31,6,63,48]),(4000000,[],[4398046511119,4398046511152])]) mixed Yz Tryz.func52 λb=>by kernel_rfl
def ud (b:cn×List fc):Option (cn×List bZ×Int):=
 let f:Int:=b.2.length;(rK b.1).bind λg=>
 bif (!decide (g=0)) then (
 some ((((([],[],[],[],0,[],0,0),[],[],[],[]),(0,0),(0,0),(0,0),(0,0),(0,0),(0,0),(0,0),(0,0),(0,0),(0,0),(0,0),(0,0),(0,0),(0,0),(0,0),0,0),(false,[],false,[],[]),(false,[],false,[],[]),(false,[],false,[],[]),(false,[],false,[],[]),(false,[],false,[],[]),(false,[],false,[],[]),(false,[],false,[],[]),(false,[],false,[],[]),(false,[],false,[],[]),(false,[],false,[],[]),(false,[],false,[],[]),(false,[],false,[],[]),(false,[],false,[],[]),(false,[],false,[],[]),(false,[],false,[],[]),false,[],false,[],[]),[],g))
 else (
 aD (λ(d:(OE)->Option (cn×List bZ×Int)) (c:OE)=>
 bif decide (c.2.2<f) then (
 bif ae c.2.2 b.2.length then
 (Au (rd eL b.2 c.2.2)).bind λi=>
 bif (!i) then (
 some ((((([],[],[],[],0,[],0,0),[],[],[],[]),(0,0),(0,0),(0,0),(0,0),(0,0),(0,0),(0,0),(0,0),(0,0),(0,0),(0,0),(0,0),(0,0),(0,0),(0,0),0,0),(false,[],false,[],[]),(false,[],false,[],[]),(false,[],false,[],[]),(false,[],false,[],[]),(false,[],false,[],[]),(false,[],false,[],[]),(false,[],false,[],[]),(false,[],false,[],[]),(false,[],false,[],[]),(false,[],false,[],[]),(false,[],false,[],[]),(false,[],false,[],[]),(false,[],false,[],[]),(false,[],false,[],[]),(false,[],false,[],[]),false,[],false,[],[]),[],1))
 else (
 d (c.1,c.2.1,(IntKind.wrap .i64 (c.2.2+1))))
 else none)
 else (
 bif decide (4096<f) then (
 some ((((([],[],[],[],0,[],0,0),[],[],[],[]),(0,0),(0,0),(0,0),(0,0),(0,0),(0,0),(0,0),(0,0),(0,0),(0,0),(0,0),(0,0),(0,0),(0,0),(0,0),0,0),(false,[],false,[],[]),(false,[],false,[],[]),(false,[],false,[],[]),(false,[],false,[],[]),(false,[],false,[],[]),(false,[],false,[],[]),(false,[],false,[],[]),(false,[],false,[],[]),(false,[],false,[],[]),(false,[],false,[],[]),(false,[],false,[],[]),(false,[],false,[],[]),(false,[],false,[],[]),(false,[],false,[],[]),(false,[],false,[],[]),false,[],false,[],[]),[],4))
 else (
 aD (λ(e:(OD)->Option (cn×List bZ×Int)) (a:OD)=>
  bif decide (a.2.1<f) then (
  bif ae a.2.1 b.2.length then
  (jq (a.2.2,(rd eL b.2 a.2.1))).bind λh=>
  bif decide ((a.1.length+1)*40<=az) then
  e ((a.1++ ([h.2])),(IntKind.wrap .i64 (a.2.1+1)),h.1)
  else none
  else none)
  else (
  (As a.2.2).bind λj=>
  some (j,a.1,0))) (c.1,0,b.1)))) (([]:List bZ),0,0))
def Rf:=Ctx.add PA 24 [.agg (.pair cH ed),.one (.slice 68 eL)] (.tup [.agt (.pair cH ed),.leaf (.fresh 70 zZ),.leaf (.int .i64)]) ud
theorem s24:Rf.Sound:=.add (H:=hd [(5,[.row 5 22533 70 zZ,.data 6 (.int .i64),.data 22 (.int .i64)],[16384,8192]),(13,[.row 5 22541 70 zZ,.data 37 (.int .i64),.box 8192 (.pair cH ed)],[16384]),(1000006,[],[9]),(1000014,[],[11]),(1000015,[],[12,13]),(5000016,[],[0,0,0,0,0,0,4,4,10,10,17,1,63,18])]) mixed Yy Tryz.func24 λb=>by kernel_rfl
def F9 (b:cn×fc):Option (cn× (Int×Int×List Int)×Int):=
 (ud (b.1,[b.2])).bind λa=>
 bif (!decide (a.2.2=0)) then (
 some ((((([],[],[],[],0,[],0,0),[],[],[],[]),(0,0),(0,0),(0,0),(0,0),(0,0),(0,0),(0,0),(0,0),(0,0),(0,0),(0,0),(0,0),(0,0),(0,0),(0,0),0,0),(false,[],false,[],[]),(false,[],false,[],[]),(false,[],false,[],[]),(false,[],false,[],[]),(false,[],false,[],[]),(false,[],false,[],[]),(false,[],false,[],[]),(false,[],false,[],[]),(false,[],false,[],[]),(false,[],false,[],[]),(false,[],false,[],[]),(false,[],false,[],[]),(false,[],false,[],[]),(false,[],false,[],[]),(false,[],false,[],[]),false,[],false,[],[]),(0,0,[]),a.2.2))
 else (
 bif ae 0 a.2.1.length then
 (λo=>aj o o) (
 some (a.1,(rd zZ a.2.1 0),0))
 else none)
def C9:=Ctx.add Rf 9 [.agg (.pair cH ed),.agg eL] (.tup [.agt (.pair cH ed),.agg [.int .i64,.int .i64,.sl 5 (.int .u8)],.leaf (.int .i64)]) F9
theorem s9:C9.Sound:=.add (H:=hd [(1000000,[],[3]),(5000004,[],[0,0,0,0,2,2,4,4,1,1,31,8,63,0])]) mixed s24 Tryz.func9 λb=>by kernel_rfl
def fS (b:cn×fc):Option (cn×Bool):=
 (F9 b).bind λa=>
 bif (bif (!decide (a.2.2=0)) then true else (!decide (a.2.1.1=0))) then (
 some (b.1,false))
 else (
 some (a.1,true))
def Ta:=Ctx.add C9 12 [.agg (.pair cH ed),.agg eL] (.tup [.agt (.pair cH ed),.leaf (.bool)]) fS
theorem s12:Ta.Sound:=.add (H:=hd [(1000000,[],[2,3]),(1000001,[],[6,7])]) mixed s9 Tryz.func12 λb=>by kernel_rfl
def BJ (b:List Int×D2×Int):Option (cn×List cD×Bool):=
 (F8 b.1).bind λd=>
 bif (bif (bif (!decide (d.2.2=0)) then true else (!decide ((d.2.1.length:Int)=(b.1.length:Int)))) then true else decide ((b.1.length:Int)=0)) then (
 some (d.1,[],false))
 else (
 (fS (d.1,6,0,0,[],3,0,0,0,false,b.2.1.1,b.2.1.2.1,b.2.1.2.2.1,b.2.1.2.2.2.1,b.2.1.2.2.2.2.1,b.2.1.2.2.2.2.2.1,b.2.1.2.2.2.2.2.2,[])).bind λe=>
 aD (λ(c:(pO)->Option (cn×List cD×Bool)) (a:pO)=>let f:=IntKind.wrap .i64 (a.2.1+1);
  bif decide (a.2.1<b.2.2) then (
  bif a.1 then (
  (fS (a.2.2,1,a.2.1,0,[],0,0,0,0,false,0,0,0,0,0,[],false,[])).bind λg=>
  c (g.2,f,g.1))
  else (
  c (a.1,f,a.2.2)))
  else (
  some (a.2.2,d.2.1,a.1))) (e.2,0,e.1))
def SR:=Ctx.add Ta 14 [.one gC,.agg Y8,.one (.int .i64)] (.tup [.agt (.pair cH ed),.leaf (.fresh 89 iq),.leaf (.bool)]) BJ
theorem s14:SR.Sound:=.add (H:=hd [(6,[.data 12 .bool,.data 44 (.int .i64),.box 36864 (.pair cH ed)],[65600,24576]),(1000000,[],[4])]) mixed s12 Tryz.func14 λb=>by kernel_rfl
def Aw (b:cn×Int×lk):Option (cn×List Int×Bool):=
 (tO b.2.2).bind λc=>
 (qX c.1).bind λd=>
 bif (bif (!decide (c.2=0)) then true else (!decide (d.2=0))) then (
 some (b.1,[],false))
 else (
 (fS (b.1,3,b.2.1,0,d.1,0,0,0,0,false,0,0,0,0,0,[],false,[])).bind λe=>
 bif (!e.2) then (
 some (b.1,[],false))
 else (
 (F9 (e.1,4,b.2.1,0,[],0,0,0,0,false,0,0,0,0,0,[],false,[])).bind λa=>
 bif (bif (!decide (a.2.2=0)) then true else (!decide (a.2.1.1=0))) then (
 some (b.1,[],false))
 else (
 (fS (a.1,5,b.2.1,16384,[],0,0,0,0,false,0,0,0,0,0,[],false,[])).bind λf=>
 some (f.1,a.2.1.2.2,f.2))))
def PE:=Ctx.add SR 48 [.agg (.pair cH ed),.one (.int .i64),.agg mR] (.tup [.agt (.pair cH ed),.leaf (.sl 5 (.int .u8)),.leaf (.bool)]) Aw
theorem YC:PE.Sound:=.add (H:=hd [(1000000,[],[3,5]),(1000005,[],[13]),(1000008,[],[15,16]),(1000011,[],[18]),(5000012,[],[0,0,0,0,2,2,0,0,1,1,23,4,63,8])]) mixed s14 Tryz.func48 λb=>by kernel_rfl
def xl (b:cn×Int×lk):Option (cn× (Int×Int×Int×Int×Int×List Int×List D1×Int×List D9×Int)×Bool):=
 (Aw b).bind λa=>
 (xo a.2.1).bind λc=>
 some (a.1,c.1,(bif a.2.2 then decide (c.2=0) else false))
def RI:=Ctx.add PE 21 [.agg (.pair cH ed),.one (.int .i64),.agg mR] (.tup [.agt (.pair cH ed),.agg [.int .u64,.int .i64,.int .u64,.int .u64,.int .i64,.sl 30 (.int .u64),.sl 215 Y2,.int .u64,.sl 149 Y1,.int .i64],.leaf (.bool)]) xl
theorem s21:RI.Sound:=.add (H:=hd [(1000000,[],[3,5]),(1000001,[],[9]),(1000002,[],[12]),(5000003,[],[0,0,0,0,0,0,4,4,8,8,24,24,40,40,9,1,131,2,511,64])]) mixed YC Tryz.func21 λb=>by kernel_rfl
def F6 (b:Unit):Option Bool:=
 (BJ ([5],(1,10,0,0,10,[],true),1)).bind λc=>let e:=rd iq c.2.1 0;let d:=xl (c.1,0,3,1,0,e.1,e.2.1,e.2.2,9,4,0,[],[]);
 bif (bif (!c.2.2) then true else (!decide ((c.2.1.length:Int)=1))) then (
 some false)
 else (
 bif ae 0 c.2.1.length then
 (aj (
 (aj (
 d.bind λa=>
 (λo=>aj o o) (
 some (bif (bif (bif a.2.2 then decide (a.2.1.2.1=0) else false) then decide (a.2.1.1=3) else false) then decide (a.2.1.2.2.1=1) else false))) (aj (
 (λo=>aj o o) (
 d.bind λa=>
 some (bif (bif (bif a.2.2 then decide (a.2.1.2.1=0) else false) then decide (a.2.1.1=3) else false) then decide (a.2.1.2.2.1=1) else false))) (
 (λo=>aj o o) (
 d.bind λa=>
 some (bif (bif (bif a.2.2 then decide (a.2.1.2.1=0) else false) then decide (a.2.1.1=3) else false) then decide (a.2.1.2.2.1=1) else false)))))) (aj (
 (λo=>aj (aj o o) o) (
 d.bind λa=>
 some (bif (bif (bif a.2.2 then decide (a.2.1.2.1=0) else false) then decide (a.2.1.1=3) else false) then decide (a.2.1.2.2.1=1) else false))) (
 (λo=>aj (aj o o) o) (
 d.bind λa=>
 some (bif (bif (bif a.2.2 then decide (a.2.1.2.1=0) else false) then decide (a.2.1.1=3) else false) then decide (a.2.1.2.2.1=1) else false)))))
 else none)
def C6:=Ctx.add RI 6 [] (.one (.leaf (.bool))) F6
theorem s6:C6.Sound:=.add (H:=hd [(1000001,[],[1]),(1000004,[],[4,5]),(5000004,[],[0,0,0,0,2,2,4,4,8,8,17,17,32,32,64,64,64,64,64,64,0,0,0,0,3327,1152,7679,2304,16383,512])]) mixed s21 Tryz.func6 λb=>by kernel_rfl
def Bf (b:List fc×Int):Option Bool:=
 aD (λ(a:(Bool×Int)->Option Bool) (c:Bool×Int)=>let d:=rd eL b.1 c.2;
  bif decide (c.2<(b.1.length:Int)) then (
  bif ae c.2 b.1.length then
  bif (bif (bif decide (3000<(d.2.2.2.1.length:Int)) then true else decide (20<(d.2.2.2.2.2.2.2.2.2.2.2.2.2.2.1.length:Int))) then true else decide (40<(d.2.2.2.2.2.2.2.2.2.2.2.2.2.2.2.2.length:Int))) then (
  some false)
  else (
  a (c.1,(IntKind.wrap .i64 (c.2+1))))
  else none)
  else (
  some (decide ((b.1.length:Int)<=b.2)))) (false,0)
def RC:=Ctx.add C6 22 [.one (.slice 68 eL),.one (.int .i64)] (.one (.leaf (.bool))) Bf
theorem s22:RC.Sound:=.add (H:=hd [(2,[.data 4 .bool,.data 9 (.int .i64)],[]),(1000003,[],[6])]) mixed s6 Tryz.func22 λb=>by kernel_rfl
def F7 (b:List Int×List fc×Int):Option Bool:=
 bif ((bif decide (0<(b.1.length:Int)) then decide ((b.1.length:Int)<=3) else false)==true) then (
 (Bf b.2).bind λa=>
 some a)
 else (
 some false)
def C7:=Ctx.add RC 7 [.one gC,.one (.slice 68 eL),.one (.int .i64)] (.one (.leaf (.bool))) F7
theorem s7:C7.Sound:=.add (H:=hd []) mixed s22 Tryz.func7 λb=>by kernel_rfl
def F3 (b:List Int×List fc):Option Bool:=
 let i:Option Bool:=some false;(F6 ()).bind λt=>
 bif (!t) then (
 some false)
 else (
 (F7 (b.1,b.2,50)).bind λu=>
 bif (!u) then (
 some true)
 else (
 (F8 b.1).bind λp=>
 bif (!decide (p.2.2=0)) then (
 some true)
 else (
 aD (λ(c:(OC)->Option Bool) (d:OC)=>let m:=d.2.2.1;let n:=IntKind.wrap .i64 (m+1);let e:=rd eL b.2 m;
 bif decide (m<(b.2.length:Int)) then (
 bif ae m b.2.length then
 (F9 (d.2.2.2,e)).bind λg=>let j:=g.1.1.1.1.1;
 bif (!decide (g.2.2=0)) then (
 c (d.1,d.2.1,n,d.2.2.2))
 else (
 bif (bif (bif decide (e.1=6) then decide (e.2.2.2.2.1=3) else false) then decide (g.2.1.1=0) else false) then (
 (mb (e.2.2.2.2.2.2.2.2.2.1,e.2.2.2.2.2.2.2.2.2.2.1,e.2.2.2.2.2.2.2.2.2.2.2.1,e.2.2.2.2.2.2.2.2.2.2.2.2.1,e.2.2.2.2.2.2.2.2.2.2.2.2.2.1,e.2.2.2.2.2.2.2.2.2.2.2.2.2.2.1,e.2.2.2.2.2.2.2.2.2.2.2.2.2.2.2.1)).bind λq=>let r:=IntKind.wrap .u64 (d.2.1+q.1);
 bif (!decide (q.2=0)) then (
 some false)
 else (
 aD (λ(k:(oA)->Option Bool) (f:oA)=>
  bif decide (f.2.2<(j.length:Int)) then (
  bif ae f.2.2 j.length then
  (mb (rd Y8 j f.2.2)).bind λs=>
  bif (!decide (s.2=0)) then i
  else (
  k (f.1,(IntKind.wrap .u64 (f.2.1+s.1)),(IntKind.wrap .i64 (f.2.2+1))))
  else none)
  else (
  bif ((!decide (f.2.1=r))==false) then (
  (rK g.1).bind λv=>
  bif (!decide (v=0)) then i
  else (
  c (f.1,r,n,g.1)))
  else i)) (d.1,0,0)))
 else (
 aD (λ(h:(oA)->Option Bool) (a:oA)=>
  bif decide (a.2.2<(j.length:Int)) then (
  bif ae a.2.2 j.length then
  (mb (rd Y8 j a.2.2)).bind λl=>
  bif (!decide (l.2=0)) then i
  else (
  h (a.1,(IntKind.wrap .u64 (a.2.1+l.1)),(IntKind.wrap .i64 (a.2.2+1))))
  else none)
  else (
  bif ((!decide (a.2.1=d.2.1))==false) then (
  (rK g.1).bind λo=>
  bif (!decide (o=0)) then i
  else (
  c (a.1,d.2.1,n,g.1)))
  else i)) (d.1,0,0)))
 else none)
 else (
 some true)) (false,0,0,p.1))))
def C3:=Ctx.add C7 3 [.one gC,.one (.slice 68 eL)] (.one (.leaf (.bool))) F3
theorem s3:C3.Sound:=.add (H:=hd [(10,[.data 4 .bool,.data 8 (.int .u64),.data 37 (.int .i64),.box 20480 (.pair cH ed)],[118848]),(21,[.data 4 .bool,.data 16 (.int .u64),.data 82 (.int .i64)],[20480,118848]),(1000011,[],[10]),(1000012,[],[11,12]),(1000022,[],[18])]) mixed s7 Tryz.func3 λb=>by kernel_rfl
def BK (b:cn):Option (Int×Int):=
 (rK b).bind λd=>
 bif (!decide (d=0)) then (
 some (0,d))
 else (
 aD (λ(c:(Int×Int)->Option (Int×Int)) (a:Int×Int)=>
  bif decide (a.2<16) then (
  bif ae a.2 16 then
  c ((IntKind.wrap .i64 (a.1+ ((bg (.pair .bool cG) b.2 a.2).2.2.2.1.length:Int))),(IntKind.wrap .i64 (a.2+1)))
  else none)
  else (
  some (a.1,0))) (0,0))
def xI:=Ctx.add C3 13 [.agg (.pair cH ed)] (.tup [.leaf (.int .i64),.leaf (.int .i64)]) BK
theorem s13:xI.Sound:=.add (H:=hd [(5,[.data 2 (.int .i64),.data 13 (.int .i64)],[]),(1000000,[],[1]),(1000006,[],[5]),(4000000,[],[4398046511119])]) mixed s3 Tryz.func13 λb=>by kernel_rfl
def F4 (b:List Int×List fc):Option Bool:=
 (F6 ()).bind λq=>
 bif (!q) then (
 some false)
 else (
 (F7 (b.1,b.2,50)).bind λr=>
 bif (!r) then (
 some true)
 else (
 (F8 b.1).bind λk=>
 bif (!decide (k.2.2=0)) then (
 some true)
 else (
 aD (λ(a:(Int×cn)->Option Bool) (d:Int×cn)=>let l:=IntKind.wrap .i64 (d.1+1);
  bif decide (d.1<(b.2.length:Int)) then (
  bif ae d.1 b.2.length then
  (F9 (d.2,(rd eL b.2 d.1))).bind λm=>
  bif decide (m.2.2=0) then (
  a (l,m.1))
  else (
  a (l,d.2))
  else none)
  else (
  aD (λ(h:(pO)->Option Bool) (f:pO)=>
   bif decide (f.2.1<8) then (
   aD (λ(c:(pO)->Option Bool) (e:pO)=>let g:=e.2.1;let n:=IntKind.wrap .i64 (g+1);let o:=bg (.pair .bool cG) f.2.2.2 g;
    bif decide (g<16) then (
    bif ae g 16 then
    bif (!o.1) then (
    c (e.1,n,e.2.2))
    else (
    (fS (e.2.2,5,g,16384,[],0,0,0,0,false,0,0,0,0,0,[],false,[])).bind λp=>
    (F9 (p.1,4,g,0,[],0,0,0,0,false,0,0,0,0,0,[],false,[])).bind λi=>
    bif ((bif (!p.2) then true else (!decide (i.2.2=0)))==false) then (
    bif (bif (bif (!decide (i.2.1.1=0)) then (!decide (i.2.1.1=5)) else false) then true else (!(decide (i.2.1.1=5)==decide ((o.2.2.2.1.length:Int)=0)))) then (
    some false)
    else (
    c (e.1,n,i.1)))
    else (
    some false))
    else none)
    else (
    h (e.1,(IntKind.wrap .i64 (f.2.1+1)),e.2.2))) (f.1,0,f.2.2))
   else (
   (BK f.2.2).bind λj=>
   some (bif decide (j.2=0) then decide (j.1=0) else false))) (false,0,d.2))) (0,k.1))))
def C4:=Ctx.add xI 4 [.one gC,.one (.slice 68 eL)] (.one (.leaf (.bool))) F4
theorem s4:C4.Sound:=.add (H:=hd [(9,[.data 38 (.int .i64),.box 20480 (.pair cH ed)],[122944]),(16,[.data 4 .bool,.data 53 (.int .i64),.box 20480 (.pair cH ed)],[122944]),(18,[.data 4 .bool,.data 57 (.int .i64),.box 20480 (.pair cH ed)],[122944]),(1000010,[],[9]),(1000011,[],[10,11]),(1000019,[],[14]),(1000021,[],[15]),(1000022,[],[17,18]),(4000000,[],[4398046511164])]) mixed s13 Tryz.func4 λb=>by kernel_rfl
def agA (b:List (Int×Int)×List (Int×Int)):Option Bool:=
 bif (!decide ((b.1.length:Int)=(b.2.length:Int))) then (
 some false)
 else (
 aD (λ(c:(Bool×Int)->Option Bool) (a:Bool×Int)=>
  bif decide (a.2<(b.1.length:Int)) then (
  bif ae a.2 b.1.length then
  bif ae a.2 b.2.length then
  bif (!(decide ((rd Y0 b.1 a.2).1=(rd Y0 b.2 a.2).1) && decide ((rd Y0 b.1 a.2).2=(rd Y0 b.2 a.2).2))) then (
  some false)
  else (
  c (a.1,(IntKind.wrap .i64 (a.2+1))))
  else none
  else none)
  else (
  some true)) (false,0))
def ahl:=Ctx.add C4 255 [.one (.slice 160 Y0),.one (.slice 160 Y0)] (.one (.leaf (.bool))) agA
theorem al2:ahl.Sound:=.add (H:=hd [(4,[.data 4 .bool,.data 13 (.int .i64)],[]),(5000006,[],[0,0,0,0,3,3,4,4,0,0,0,0,48,48,64,64,136,136])]) mixed s4 Tryz.func255 λb=>by kernel_rfl
end
end Go.Proofs.YtkihadlgknhpkaaGreatDoor.T
