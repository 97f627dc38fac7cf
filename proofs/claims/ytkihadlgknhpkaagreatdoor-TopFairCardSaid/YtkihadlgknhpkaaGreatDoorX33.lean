/- Part 33: lemmas that the last text needs. -/
import Derived.Test.YtkihadlgknhpkaaGreatDoorX32
set_option linter.all false
set_option autoImplicit true
set_option relaxedAutoImplicit true
namespace Go.Proofs.YtkihadlgknhpkaaGreatDoor.T
set_option maxRecDepth 100000
open Go Go.Fw Go.Proofs
noncomputable section
def Bv (b:aQ×Int):Option ((List D2× (List (Int×Int))×List D1×List D3×Int×List D1×Int×Int)×Int):=
 (jX b.1).bind λf=>
 cE (λ(c:(aQ×Int))=>
  cE (λ(a:(aQ×Int))=>
   bif (!decide (a.2=0)) then (
   (λo=>aj o o) (
   some (([],[],[],[],0,[],0,0),a.2)))
   else (
   (js (a.1.1,a.1.2.1,a.1.2.2.1,a.1.2.2.2.1,a.1.2.2.2.2.1,a.1.2.2.2.2.2.1,a.1.2.2.2.2.2.2.1,b.2)).bind λh=>
   some (h,0))) (λ(d:(aQ×Int)->Option ((List D2× (List (Int×Int))×List D1×List D3×Int×List D1×Int×Int)×Int))=>
   bif (!decide (c.2=0)) then (
   d c)
   else (
   (Bc (c.1.2.2.1,b.2)).bind λe=>
   bif (!decide (e.2=0)) then (
   d (c.1,e.2))
   else (
   d ((c.1.1,c.1.2.1,e.1,c.1.2.2.2),c.2))))) (λ(g:(aQ×Int)->Option ((List D2× (List (Int×Int))×List D1×List D3×Int×List D1×Int×Int)×Int))=>
 bif (bif decide (f=0) then (!decide (b.1.2.2.2.2.2.2.2<=b.2)) else false) then (
  g (b.1,13))
  else (
  g (b.1,f)))
def Su:=Ctx.add Sv 165 [.agg dE,.one (.int .u64)] (.tup [.agg [.fresh 64 Y8,.fresh 279 Y9,.fresh 345 bH,.fresh 323 bF,.int .u64,.fresh 215 Y2,.int .u64,.int .u64],.leaf (.int .i64)]) Bv
theorem abS:Su.Sound:=.add (H:=hd [(1000000,[],[2]),(3000000,[],[28672]),(3000001,[],[28672]),(3000002,[],[28672]),(3000003,[],[28672]),(3000004,[],[28672]),(3000005,[],[28672]),(12000002,[.box 28672 fE],[1]),(12000003,[.box 28672 fE],[1])]) mixed abT Tryz.func165 λb=>by kernel_rfl
def tH (b:List dC×Int):Option (Int×Int):=
 (xA b).bind λa=>
 bif (!decide (a.2.2=0)) then (
 some (0,a.2.2))
 else (
 bif (!a.2.1) then (
 some (0,5))
 else (
 bif ae a.1 b.1.length then
 bif (rd cQ b.1 a.1).2.2 then (
 some (0,13))
 else (
 some (a.1,0))
 else none))
def Gn:=Ctx.add Su 75 [.one (.slice 198 cQ),.one (.int .u64)] (.tup [.leaf (.int .i64),.leaf (.int .i64)]) tH
theorem Ya:Gn.Sound:=.add (H:=hd []) mixed abS Tryz.func75 λb=>by kernel_rfl
def GQ:=Ctx.addI Gn 289 (hd []) 9000289 Tryz.f289
theorem aac:GQ.Sound:=Ctx.Sound.addI (C:=Gn) mixed Ya Tryz.func289
def GP:=Ctx.addI GQ 290 (hd []) 9000290 Tryz.f290
theorem aab:GP.Sound:=Ctx.Sound.addI (C:=GQ) mixed aac Tryz.func290
def QH:=Ctx.addI GP 288 (hd []) 9000288 Tryz.f288
theorem aad:QH.Sound:=Ctx.Sound.addI (C:=GP) mixed aab Tryz.func288
def Ba (b:List dC×Int×Int):Option (List dC×Int):=
 (tH (b.1,b.2.1)).bind λa=>
 bif (!decide (a.2=0)) then (
 some ([],a.2))
 else (
 (pJ b.1).bind λc=>
 bif ae a.1 c.length then
 (uk (b.1,b.2.2)).bind λd=>
 bif d then (
 some ([],6))
 else (
 some (c.set a.1.toNat ((rd cQ c a.1).1,b.2.2,(rd cQ c a.1).2.2),0))
 else none)
def Ry:=Ctx.add QH 224 [.one (.slice 198 cQ),.one (.int .u64),.one (.int .u64)] (.tup [.leaf (.fresh 198 cQ),.leaf (.int .i64)]) Ba
theorem aa1:Ry.Sound:=.add (H:=hd []) mixed aad Tryz.func224 λb=>by kernel_rfl
def FR (b:cM×Int×Int×Unit):Option (cM× (Int×List D9×Int)×Int):=
 (pE b.1).bind λd=>
 bif (!decide (d=0)) then (
 some ((([],[],[],[],0,[],0,0),[],[],[],[]),(0,[],0),d))
 else (
 (Ba (b.1.2.2.1,b.2.1,b.2.2.1)).bind λc=>
 bif (!decide (c.2=0)) then (
 some ((([],[],[],[],0,[],0,0),[],[],[],[]),(0,[],0),c.2))
 else (
 (xn (b.1.2.1,b.2.1,b.2.2.1)).bind λa=>
 bif (!decide (a.2.2=0)) then (
 some ((([],[],[],[],0,[],0,0),[],[],[],[]),(0,[],0),a.2.2))
 else (
 (rA (b.1.1,a.1,c.1,b.1.2.2.2)).bind λe=>
 some (e,a.2.1,0))))
def SI:=Ctx.add Ry 151 [.agg (.pair dE gP),.one (.int .u64),.one (.int .u64),.fn 224] (.tup [.agt (.pair dE gP),.agg [.int .u64,.fresh 149 Y1,.int .i64],.leaf (.int .i64)]) FR
theorem ab6:SI.Sound:=.add (H:=hd [(1000007,[],[14,15]),(5000010,[],[0,0,0,0,1,0,5,5,15,0,31,18]),(5000011,[],[0,0,1,1,0,0,3,2,15,4,31,0])]) mixed aa1 Tryz.func151 λb=>by kernel_rfl
def Bu (b:cM×Int×Int):Option (cM× (Int×List D9×Int)×Int):=
 (FR (b.1,b.2.1,b.2.2,())).bind λa=>
 some a
def Ss:=Ctx.add SI 166 [.agg (.pair dE gP),.one (.int .u64),.one (.int .u64)] (.tup [.agt (.pair dE gP),.agg [.int .u64,.fresh 149 Y1,.int .i64],.leaf (.int .i64)]) Bu
theorem abR:Ss.Sound:=.add (H:=hd [(1000000,[],[3])]) mixed ab6 Tryz.func166 λb=>by kernel_rfl
def A9 (b:List dC×Int):Option (List dC×Int):=
 (tH b).bind λa=>
 bif (!decide (a.2=0)) then (
 some ([],a.2))
 else (
 (pJ b.1).bind λc=>
 bif ae a.1 c.length then
 some (c.set a.1.toNat ((rd cQ c a.1).1,(rd cQ c a.1).2.1,true),0)
 else none)
def Rx:=Ctx.add Ss 225 [.one (.slice 198 cQ),.one (.int .u64)] (.tup [.leaf (.fresh 198 cQ),.leaf (.int .i64)]) A9
theorem aa0:Rx.Sound:=.add (H:=hd []) mixed abR Tryz.func225 λb=>by kernel_rfl
def Br (b:cM×Int):Option (cM×Int):=
 (pE b.1).bind λc=>
 bif (!decide (c=0)) then (
 some ((([],[],[],[],0,[],0,0),[],[],[],[]),c))
 else (
 (A9 (b.1.2.2.1,b.2)).bind λa=>
 bif (!decide (a.2=0)) then (
 some ((([],[],[],[],0,[],0,0),[],[],[],[]),a.2))
 else (
 (rA (b.1.1,b.1.2.1,a.1,b.1.2.2.2)).bind λd=>
 some (d,0)))
def Sr:=Ctx.add Rx 167 [.agg (.pair dE gP),.one (.int .u64)] (.tup [.agt (.pair dE gP),.leaf (.int .i64)]) Br
theorem abQ:Sr.Sound:=.add (H:=hd []) mixed aa0 Tryz.func167 λb=>by kernel_rfl
def eD (b:cI):Option cI:=
 (ry b.1.1.1).bind λs=>
 (ui b.1.1.2.1).bind λu=>
 (ot b.1.1.2.2.1).bind λv=>
 (pI b.1.1.2.2.2.1).bind λw=>
 (rv b.1.1.2.2.2.2.2.1).bind λx=>
 aD (λ(i:(Int×List D2)->Option cI) (d:Int×List D2)=>let f:=rd Y8 d.2 d.1;
  bif decide (d.1<(s.length:Int)) then (
  bif ae d.1 d.2.length then
  (lj f.2.2.2.2.2.1).bind λy=>
  bif ae d.1 d.2.length then
  i ((IntKind.wrap .i64 (d.1+1)),(d.2.set d.1.toNat (f.1,f.2.1,f.2.2.1,f.2.2.2.1,f.2.2.2.2.1,y,f.2.2.2.2.2.2)))
  else none
  else none)
  else (
  (rr b.1.2.1).bind λt=>
  (pJ b.1.2.2.1).bind λz=>
  (xj b.1.2.2.2.1).bind λj=>
  (ug b.1.2.2.2.2).bind λl=>
  aD (λ(g:(pR)->Option cI) (a:pR)=>let m:=rd eB a.2 a.1;
   bif decide (a.1<(t.length:Int)) then (
   bif ae a.1 a.2.length then
   (cg m.2.2).bind λn=>
   bif ae a.1 a.2.length then
   g ((IntKind.wrap .i64 (a.1+1)),(a.2.set a.1.toNat (m.1,m.2.1,n)))
   else none
   else none)
   else (
   aD (λ(h:(Int×List D0)->Option cI) (c:Int×List D0)=>let e:=c.1;let k:=rd bA c.2 e;
    bif decide (e<(j.length:Int)) then (
    bif ae e c.2.length then
    (cg k.2.1).bind λo=>let p:=c.2.set e.toNat (k.1,o,k.2.2);let q:=rd bA p e;
    (cg k.2.2.1).bind λr=>
    bif ae e c.2.length then
    bif ae e p.length then
    h ((IntKind.wrap .i64 (e+1)),(p.set e.toNat (q.1,q.2.1,r,q.2.2.2)))
    else none
    else none
    else none)
    else (
    some (((d.2,u,v,w,b.1.1.2.2.2.2.1,x,b.1.1.2.2.2.2.2.2),a.2,z,c.2,l),b.2))) (0,j))) (0,t))) (0,s)
def Sq:=Ctx.add Sr 168 [.agg cH] (.one (.agt cH)) eD
theorem abP:Sq.Sound:=.add (H:=hd [(4,[.data 69 (.int .i64),.rowk 86016 64 Y8],[188416,159744,135168,110592,8192,4096]),(10,[.data 126 (.int .i64),.rowk 389120 286 eB],[450560,430080,409600,188416,159744,135168,110592,86016,8192,4096]),(15,[.data 148 (.int .i64),.rowk 430080 169 bA],[450560,409600,389120,188416,159744,135168,110592,86016,8192,4096]),(1000005,[],[5]),(1000011,[],[7]),(1000016,[],[9]),(5000002,[],[0,0,0,0,0,0,0,0,0,0,0,0,32,32,64,64,128,128,256,256,512,512,0,0,2048,2048,4096,4096,8192,8192,16384,16384,33792,32768,0,0,131072,131072,262144,262144,524288,524288,1048576,1048576,2162688,2097152,0,0,8388608,8388608,16777216,16777216,33554432,33554432,67108864,67108864,138412032,134217728,0,0,536870912,536870912,1073741824,1073741824,2147483648,2147483648,4294967296,4294967296,8589934592,8589934592,17448304640,17179869184,51948652513,1,120668129249,68719476736,189387605985,137438953472,326826559457,274877907968,1082740834275,2,2182252462051,1099511627776,3281764089827,2199023255552,5480787345379,4398046576640,17575417216999,4,35167603261415,17592186044416,52759789305831,35184372088832,87944161394663,70368748371968,281458333712367,8,562933310423023,281474976710656,844408287133679,562949953421312,1407358240554991,1125900175278080,4503599627370495,16,9007199254740991,4503599627370496,13510798882111487,9007199254740992,22517998136852479,18014398509481984,40532396646334463,36028831378702336]),(5000006,[],[0,0,1,1,2,2,4,4,8,8,0,0,0,0,64,64,128,128,511,48,1023,512,1535,1280]),(5000008,[],[0,0,0,0,0,0,0,0,0,0,16,16,32,32,64,64,128,128,256,256,0,0,1024,1024,2048,2048,4096,4096,8704,8192,0,0,32768,32768,65536,65536,131072,131072,278528,262144,0,0,1048576,1048576,2097152,2097152,4194304,4194304,8912896,8388608,25977841,1,59532273,33554432,93086705,67108864,160195569,134218240,529301491,2,1066172403,536870912,1603043315,1073758208,4287627255,4,8582594551,4294967296,12877561847,8590458880,34359738367,8,68719476735,34359738368,103079215103,68736253952]),(5000012,[],[0,0,1,1,2,2,4,4,8,8,0,0,0,0,64,64,128,128,511,48,1023,512,1535,1280]),(5000017,[],[0,0,1,1,2,2,4,4,0,0,0,0,32,32,64,64,128,128,0,0,0,0,1024,1024,2048,2048,0,0,8192,8192,20480,16384,40223,24,105759,65536,171295,135168,524287,768,1048575,524288,1572863,1081344])]) mixed abQ Tryz.func168 λb=>by kernel_rfl
def oz (b:cI×Ga):Option (cI× (Int×List D9×Int)×Int):=
 let q:=b.1.1.1;let e:=b.2.1;let f:=b.2.2.1;let r:=b.1.1.2;let a:=b.1.2;let G:=eD (b.1.1,(da a f (0,0)));let H:Option (cI× (Int×List D9×Int)×Int):=some (((([],[],[],[],0,[],0,0),[],[],[],[]),(0,0),(0,0),(0,0),(0,0),(0,0),(0,0),(0,0),(0,0),(0,0),(0,0),(0,0),(0,0),(0,0),(0,0),(0,0),0,0),(0,[],0),1);(rl b.1).bind λx=>let I:Option (cI× (Int×List D9×Int)×Int):=some (((([],[],[],[],0,[],0,0),[],[],[],[]),(0,0),(0,0),(0,0),(0,0),(0,0),(0,0),(0,0),(0,0),(0,0),(0,0),(0,0),(0,0),(0,0),(0,0),(0,0),0,0),(0,[],0),x);
 bif (!decide (x=0)) then I
 else (
 bif decide (e=1) then (
 (BC (q,f,b.2.2.2.2.2.1)).bind λy=>let s:=eD ((y.1,r),a);
 bif (!decide (y.2=0)) then (
 some (((([],[],[],[],0,[],0,0),[],[],[],[]),(0,0),(0,0),(0,0),(0,0),(0,0),(0,0),(0,0),(0,0),(0,0),(0,0),(0,0),(0,0),(0,0),(0,0),(0,0),0,0),(0,[],0),y.2))
 else (
 (aj (
 s.bind λz=>
 (λo=>aj o o) (
 some (z,(0,[],0),0))) (
 s.bind λz=>
 some (z,(0,[],0),0)))))
 else (
 bif decide (e=2) then (
 (BB (q,f,b.2.2.2.1,b.2.2.2.2.1)).bind λA=>let t:=eD ((A.1,r),a);
 bif (!decide (A.2=0)) then (
 some (((([],[],[],[],0,[],0,0),[],[],[],[]),(0,0),(0,0),(0,0),(0,0),(0,0),(0,0),(0,0),(0,0),(0,0),(0,0),(0,0),(0,0),(0,0),(0,0),(0,0),0,0),(0,[],0),A.2))
 else (
 (aj (
 t.bind λB=>
 (λo=>aj o o) (
 some (B,(0,[],0),0))) (
 t.bind λB=>
 some (B,(0,[],0),0)))))
 else (
 bif decide (e=3) then (
 (BA (q,b.2.2.2.2.2.2.1,b.2.2.2.2.2.2.2.1,b.2.2.2.2.2.2.2.2.1,b.2.2.2.2.2.2.2.2.2.1,b.2.2.2.2.2.2.2.2.2.2.1,b.2.2.2.2.2.2.2.2.2.2.2.1,b.2.2.2.2.2.2.2.2.2.2.2.2.1)).bind λC=>let u:=eD ((C.1,r),a);
 bif (!decide (C.2=0)) then (
 some (((([],[],[],[],0,[],0,0),[],[],[],[]),(0,0),(0,0),(0,0),(0,0),(0,0),(0,0),(0,0),(0,0),(0,0),(0,0),(0,0),(0,0),(0,0),(0,0),(0,0),0,0),(0,[],0),C.2))
 else (
 (aj (
 u.bind λD=>
 (λo=>aj o o) (
 some (D,(0,[],0),0))) (
 u.bind λD=>
 some (D,(0,[],0),0)))))
 else (
 bif decide (e=4) then (
 (Bz (q,b.2.2.2.2.1)).bind λE=>let v:=eD ((E.1,r),a);
 bif (!decide (E.2=0)) then (
 some (((([],[],[],[],0,[],0,0),[],[],[],[]),(0,0),(0,0),(0,0),(0,0),(0,0),(0,0),(0,0),(0,0),(0,0),(0,0),(0,0),(0,0),(0,0),(0,0),(0,0),0,0),(0,[],0),E.2))
 else (
 (aj (
 v.bind λF=>
 (λo=>aj o o) (
 some (F,(0,[],0),0))) (
 v.bind λF=>
 some (F,(0,[],0),0)))))
 else (
 bif decide (e=5) then (
 (Bw (q,b.2.2.2.2.2.2.2.2.2.2.2.2.2)).bind λh=>let J:=eD ((h.1,r),a);
 bif (!decide (h.2=0)) then (
 some (((([],[],[],[],0,[],0,0),[],[],[],[]),(0,0),(0,0),(0,0),(0,0),(0,0),(0,0),(0,0),(0,0),(0,0),(0,0),(0,0),(0,0),(0,0),(0,0),(0,0),0,0),(0,[],0),h.2))
 else (
 (aj (
 J.bind λi=>
 (λo=>aj o o) (
 some (i,(0,[],0),0))) (
 J.bind λi=>
 some (i,(0,[],0),0)))))
 else (
 bif decide (e=6) then (
 (Bv (q,f)).bind λj=>let w:=eD ((j.1,r),a);
 bif (!decide (j.2=0)) then (
 some (((([],[],[],[],0,[],0,0),[],[],[],[]),(0,0),(0,0),(0,0),(0,0),(0,0),(0,0),(0,0),(0,0),(0,0),(0,0),(0,0),(0,0),(0,0),(0,0),(0,0),0,0),(0,[],0),j.2))
 else (
 (aj (
 w.bind λk=>
 (λo=>aj o o) (
 some (k,(0,[],0),0))) (
 w.bind λk=>
 some (k,(0,[],0),0)))))
 else (
 bif decide (e=7) then (
 (oh (b.1.1,f,b.2.2.2.1)).bind λc=>
 bif (!decide (c.2.2=0)) then (
 some (((([],[],[],[],0,[],0,0),[],[],[],[]),(0,0),(0,0),(0,0),(0,0),(0,0),(0,0),(0,0),(0,0),(0,0),(0,0),(0,0),(0,0),(0,0),(0,0),(0,0),0,0),(0,[],0),c.2.2))
 else (
 (aj (
 (eD (c.1,a)).bind λl=>
 (λo=>aj o o) (
 some (l,c.2.1,0))) (
 (eD (c.1,a)).bind λl=>
 some (l,c.2.1,0)))))
 else (
 bif decide (e=8) then (
 (Bu (b.1.1,f,b.2.2.2.1)).bind λd=>
 bif (!decide (d.2.2=0)) then (
 some (((([],[],[],[],0,[],0,0),[],[],[],[]),(0,0),(0,0),(0,0),(0,0),(0,0),(0,0),(0,0),(0,0),(0,0),(0,0),(0,0),(0,0),(0,0),(0,0),(0,0),0,0),(0,[],0),d.2.2))
 else (
 (aj (
 (eD (d.1,a)).bind λm=>
 (λo=>aj o o) (
 some (m,d.2.1,0))) (
 (eD (d.1,a)).bind λm=>
 some (m,d.2.1,0)))))
 else (
 bif decide (e=9) then (
 (Br (b.1.1,f)).bind λg=>
 bif (!decide (g.2=0)) then (
 some (((([],[],[],[],0,[],0,0),[],[],[],[]),(0,0),(0,0),(0,0),(0,0),(0,0),(0,0),(0,0),(0,0),(0,0),(0,0),(0,0),(0,0),(0,0),(0,0),(0,0),0,0),(0,[],0),g.2))
 else (
 (aj (
 (eD (g.1,a)).bind λn=>
 (λo=>aj o o) (
 some (n,(0,[],0),0))) (
 (eD (g.1,a)).bind λn=>
 some (n,(0,[],0),0)))))
 else (
 bif decide (e=10) then (
 bif decide (16<=f) then H
 else (
 bif ae f 16 then
 bif (!decide (x=0)) then I
 else (
 (aj (
 G.bind λp=>
 (λo=>aj o o) (
 some (p,(0,[],0),0))) (
 G.bind λp=>
 some (p,(0,[],0),0))))
 else none))
 else H))))))))))
def Tw:=Ctx.add Sq 102 [.agg cH,.agg Ng] (.tup [.agt cH,.agg [.int .u64,.fresh 149 Y1,.int .i64],.leaf (.int .i64)]) oz
theorem acN:Tw.Sound:=.add (H:=hd [(1000000,[],[3]),(5000008,[],[0,0,0,0,2,2,4,4,8,8,0,0,32,32,0,0,128,128,336,336,512,512,1024,1024,1024,1024,4095,1,12287,8192,20479,18432,65535,4096]),(5000010,[],[0,0,0,0,2,2,4,4,8,8,0,0,32,32,0,0,128,128,0,0,512,512,1360,1360,2048,2048,4096,4096,4096,4096,16383,1,49151,32768,81919,73728,262143,16384]),(5000012,[],[0,0,0,0,2,2,4,4,8,8,0,0,32,32,80,80,128,128,256,256,256,256,1023,1,3071,2048,5119,4608,16383,1024]),(5000014,[],[0,0,0,0,2,2,4,4,8,8,0,0,32,32,80,80,128,128,256,256,256,256,1023,1,3071,2048,5119,4608,16383,1024]),(5000016,[],[0,0,0,0,2,2,4,4,8,8,0,0,32,32,80,80,128,128,256,256,256,256,1023,1,3071,2048,5119,4608,16383,1024]),(5000018,[],[0,0,0,0,2,2,4,4,8,8,0,0,32,32,80,80,128,128,256,256,256,256,1023,1,3071,2048,5119,4608,16383,1024]),(5000020,[],[0,0,0,0,2,2,4,4,0,0,16,16,0,0,64,64,168,168,256,256,512,512,512,512,512,512,2047,1,10239,9216,28671,2048,65535,4096]),(5000022,[],[0,0,0,0,2,2,4,4,0,0,16,16,0,0,64,64,168,168,256,256,512,512,512,512,512,512,2047,1,10239,9216,28671,2048,65535,4096]),(5000024,[],[0,0,0,0,2,2,4,4,0,0,16,16,40,40,64,64,128,128,128,128,511,1,1535,1280,4095,512]),(5000031,[],[0,0,1,1,0,0,3,2,15,4,31,0]),(4000000,[],[4398046511272])]) mixed abP Tryz.func102 λb=>by kernel_rfl
def Aj (b:Unit×Int):Option (List Int):=
 let a:=IntKind.wrap .i64 (b.2 -(IntKind.wrap .i64 ((([]:List Int).length:Int) -(([]:List Int).length:Int))));bif decide (b.2<0) then (
 none)
 else (
 bif decide (0<a) then (
 bif ae (([]:List Int).length:Int) (([]:List Int).length+1) then
 bif (decide (0<a) && decide (a.toNat*1<=az)) then
 bif ae (([]:List Int).length:Int) ((List.replicate (a.toNat) 0:List Int).length+1) then
 some ((List.replicate (a.toNat) 0:List Int).take ((([]:List Int).length:Int).toNat))
 else none
 else none
 else none)
 else (
 some []))
def Po:=Ctx.add Tw 64 [.nil 5 (.int .u8),.one (.int .i64)] (.one (.leaf (.fresh 5 (.int .u8)))) Aj
theorem Yl:Po.Sound:=.add (H:=hd [(4000000,[],[50])]) mixed acN Tryz.func64 λb=>by kernel_rfl
def AU (b:List (List Int)):Option (List Int):=
 aD (λ(d:(Int×Int)->Option (List Int)) (c:Int×Int)=>let f:=IntKind.wrap .i64 (c.1+ ((rd aY b c.2).length:Int));
  bif decide (c.2<(b.length:Int)) then (
  bif ae c.2 b.length then
  bif decide (f<0) then (
  none)
  else (
  d (f,(IntKind.wrap .i64 (c.2+1))))
  else none)
  else (
  (Aj ((),c.1)).bind λg=>
  aD (λ(e:(pS)->Option (List Int)) (a:pS)=>
   bif decide (a.2<(b.length:Int)) then (
   bif ae a.2 b.length then
   bif decide ((a.1.length+ (rd aY b a.2).length)*1<=az) then
   e ((a.1++ (rd aY b a.2)),(IntKind.wrap .i64 (a.2+1)))
   else none
   else none)
   else (
   some a.1)) (g,0))) (0,0)
def QG:=Ctx.add Po 29 [.one (.slice 49 aY)] (.one (.leaf (.fresh 5 (.int .u8)))) AU
theorem s29:QG.Sound:=.add (H:=hd [(3,[.data 3 (.int .i64),.data 11 (.int .i64)],[]),(11,[.row 6 26635 5 (.int .u8),.data 27 (.int .i64)],[])]) mixed Yl Tryz.func29 λb=>by kernel_rfl
def BG (b:BZ×List Int):Option ((List Int×Bool)×List (List Int)×Int):=
 (w9 b.1).bind λj=>
 bif (!decide (j=0)) then (
 some (([],false),[],1))
 else (
 bif decide (65535<(b.2.length:Int)) then (
 some (([],false),[],4))
 else (
 bif b.1.2 then (
 some (b.1,[],0))
 else (
 (AU ([b.1.1,b.2])).bind λk=>
 aD (λ(d:(OI)->Option ((List Int×Bool)×List (List Int)×Int)) (c:OI)=>let f:=c.2.2.2;let e:=c.2.2.1;let g:=f.length+1;
  (w7 f).bind λa=>let h:=decide (0<=2) && decide (2<=a.1);let i:=cg ((c.2.2.2.take a.1.toNat).drop ((2:Int).toNat));
  bif (bif a.2 then decide (4098<a.1) else false) then (
  some (([],true),e,0))
  else (
  bif (!a.2) then (
  bif (!a.2) then (
  (cg f).bind λl=>
  some ((l,false),e,0))
  else (
  bif (ae a.1 g && h) then
  bif ae a.1 g then
  i.bind λm=>
  bif decide ((e.length+1)*24<=az) then
  d (c.1,c.2.1,(e++ ([m])),c.2.2.2.drop a.1.toNat)
  else none
  else none
  else none))
  else (
  bif decide ((f.length:Int) <a.1) then (
  (cg f).bind λn=>
  some ((n,false),e,0))
  else (
  bif (ae a.1 g && h) then
  bif ae a.1 g then
  i.bind λo=>
  bif decide ((e.length+1)*24<=az) then
  d (c.1,c.2.1,(e++ ([o])),c.2.2.2.drop a.1.toNat)
  else none
  else none
  else none)))) (([]:List (List Int)),0,([]:List (List Int)),k))))
def SM:=Ctx.add QG 15 [.agg (.pair aY .bool),.one aY] (.tup [.agg [.sl 5 (.int .u8),.bool],.leaf (.fresh 49 aY),.leaf (.int .i64)]) BG
theorem s15:SM.Sound:=.add (H:=hd [(9,[.row 5 22537 49 aY,.data 6 (.int .i64),.row 7 30729 49 aY,.data 8 aY],[118784,114688,16384]),(1000000,[],[2]),(1000008,[],[8]),(1000014,[],[8]),(5000014,[],[0,0,0,0,0,0,6,6,8,8,16,16,49,33,0,0,0,0,384,384,127,65,2047,642])]) mixed s29 Tryz.func15 λb=>by kernel_rfl
def uz (b:List (List Int)):Option (List (List Int)):=
 let a:Option (List (List Int)):=bif decide ((([]:List (List Int)).length+b.length)*24<=az) then some (([]:List (List Int))++b) else none;bif b.isEmpty then (
 (aj (
 some []) a))
 else a
def Tx:=Ctx.add SM 101 [.one (.slice 49 aY)] (.one (.leaf (.fresh 49 aY))) uz
theorem acO:Tx.Sound:=.add (H:=hd []) mixed s15 Tryz.func101 λb=>by kernel_rfl
def rz (b:eU):Option (Bool×List Int×Bool×List (List Int)×List Int):=
 (cg b.2.1).bind λe=>
 (uz b.2.2.2.1).bind λd=>
 (cg b.2.2.2.2).bind λf=>
 aD (λ(c:(uC)->Option (Bool×List Int×Bool×List (List Int)×List Int)) (a:uC)=>
  bif decide (a.1<(d.length:Int)) then (
  bif ae a.1 a.2.length then
  (cg (rd aY a.2 a.1)).bind λg=>
  bif ae a.1 a.2.length then
  c ((IntKind.wrap .i64 (a.1+1)),(a.2.set a.1.toNat g))
  else none
  else none)
  else (
  some (b.1,e,b.2.2.1,a.2,f))) (0,d)
def RR:=Ctx.add Tx 201 [.agg (.pair .bool cG)] (.one (.agg [.bool,.fresh 5 (.int .u8),.bool,.fresh 49 aY,.fresh 5 (.int .u8)])) rz
theorem abo:RR.Sound:=.add (H:=hd [(3,[.data 22 (.int .i64),.rowk 45056 49 aY],[57344,32768,8192,4096]),(5000001,[],[0,0,1,1,2,2,4,4,0,0,16,16,40,32,0,0,128,128,320,256,447,0,1471,1024,3007,2056,7679,0,15871,8256,32767,0,65535,33280]),(5000005,[],[0,0,1,1,0,0,0,0,8,8,31,6,63,48])]) mixed acO Tryz.func201 λb=>by kernel_rfl
def ur (b:eU×List Int):Option ((Bool×List Int×Bool×List (List Int)×List Int)×Int×Int):=
 (ou b.1).bind λd=>
 bif (!decide (d=0)) then (
 some ((false,[],false,[],[]),0,d))
 else (
 (BG ((b.1.2.1,b.1.2.2.1),b.2)).bind λa=>let e:Int:=a.2.1.length;
 bif (!decide (a.2.2=0)) then (
 some ((false,[],false,[],[]),0,a.2.2))
 else (
 bif decide (8<(IntKind.wrap .i64 ((b.1.2.2.2.1.length:Int)+e))) then (
 some ((false,[],false,[],[]),0,7))
 else (
 (rz b.1).bind λc=>
 bif decide ((c.2.2.2.1.length+a.2.1.length)*24<=az) then
 some ((c.1,a.1.1,a.1.2,c.2.2.2.1++a.2.1,c.2.2.2.2),e,0)
 else none)))
def SE:=Ctx.add RR 155 [.agg (.pair .bool cG),.one aY] (.tup [.agg [.bool,.sl 5 (.int .u8),.bool,.fresh 49 aY,.fresh 5 (.int .u8)],.leaf (.int .i64),.leaf (.int .i64)]) ur
theorem ab2:SE.Sound:=.add (H:=hd [(1000004,[],[8]),(5000010,[],[0,0,0,0,2,2,0,0,12,12,7,0,55,33,127,0,255,144])]) mixed abo Tryz.func155 λb=>by kernel_rfl
def BD (b:eU):Option (List Int× (Bool×List Int×Bool×List (List Int)×List Int)×Int):=
 (ou b).bind λc=>
 bif (!decide (c=0)) then (
 some ([],(false,[],false,[],[]),c))
 else (
 bif decide ((b.2.2.2.1.length:Int)=0) then (
 some ([],(false,[],false,[],[]),5))
 else (
 (rz b).bind λa=>
 bif ae 0 a.2.2.2.1.length then
 bif ae 1 (a.2.2.2.1.length+1) then
 some ((rd aY a.2.2.2.1 0),(a.1,a.2.1,a.2.2.1,a.2.2.2.1.drop ((1:Int).toNat),a.2.2.2.2),0)
 else none
 else none))
def SD:=Ctx.add SE 156 [.agg (.pair .bool cG)] (.tup [.leaf (.sl 5 (.int .u8)),.agg [.bool,.fresh 5 (.int .u8),.bool,.sl 49 aY,.fresh 5 (.int .u8)],.leaf (.int .i64)]) BD
theorem ab1:SD.Sound:=.add (H:=hd [(5000009,[],[0,0,0,0,1,1,7,2,15,0])]) mixed ab2 Tryz.func156 λb=>by kernel_rfl
def BO (b:Int):Option (Int×Bool):=
 bif (bif decide (b<=0) then true else decide (11<=b)) then (
 some (0,false))
 else (
 bif ae b 11 then
 some ((rd (.int .i64) ([0,71,17,79,3,2,2,0,6,4,32]:List Int) b),true)
 else none)
def Tb:=Ctx.add SD 119 [.one (.int .i64)] (.tup [.leaf (.int .i64),.leaf (.bool)]) BO
theorem acv:Tb.Sound:=.add (H:=hd []) mixed ab1 Tryz.func119 λb=>by kernel_rfl
def xp (b:(Int×Int)):Option Bool:=
 bif (decide (b.2=0)==false) then (
 (fu ([b.2])).bind λa=>
 some (!decide (a=0)))
 else (
 some true)
def Sb:=Ctx.add Tb 180 [.agg Y0] (.one (.leaf (.bool))) xp
theorem abD:Sb.Sound:=.add (H:=hd [(1000000,[],[1])]) mixed acv Tryz.func180 λb=>by kernel_rfl
def FE (b:List (Int×Int)×Unit):Option Int:=
 aD (λ(c:(Int×Int)->Option Int) (a:Int×Int)=>
  bif decide (a.2<(b.1.length:Int)) then (
  bif ae a.2 b.1.length then
  (xp (rd Y0 b.1 a.2)).bind λd=>
  bif d then (
  some a.2)
  else (
  c (a.1,(IntKind.wrap .i64 (a.2+1))))
  else none)
  else (
  some (-1))) (0,0)
def Ra:=Ctx.add Sb 244 [.one (.slice 191 Y0),.fn 180] (.one (.leaf (.int .i64))) FE
theorem aaI:Ra.Sound:=.add (H:=hd [(2,[.data 4 (.int .i64),.data 8 (.int .i64)],[])]) mixed abD Tryz.func244 λb=>by kernel_rfl
def Bp (b:List (Int×Int)×Unit):Option Bool:=
 (FE (b.1,())).bind λa=>
 some (decide (0<=a))
def Sa:=Ctx.add Ra 181 [.one (.slice 191 Y0),.fn 180] (.one (.leaf (.bool))) Bp
theorem abC:Sa.Sound:=.add (H:=hd []) mixed aaI Tryz.func181 λb=>by kernel_rfl
def uv (b:List (Int×Int)):Option (Int×Int):=
 let e:Int:=b.length;bif ((bif decide (e=0) then true else decide (16<e))==false) then (
 (Bp (b,())).bind λf=>
 bif f then (
 some (0,1))
 else (
 aD (λ(c:(D4)->Option (Int×Int)) (a:D4)=>
 bif decide (a.2.2<e) then (
 bif ae a.2.2 b.length then
 (jW ([a.1,(rd Y0 b a.2.2).2])).bind λd=>
 bif (!decide (d.2=0)) then (
 some (0,d.2))
 else (
 c (d.1,d.2,(IntKind.wrap .i64 (a.2.2+1))))
 else none)
 else (
 some (a.1,0))) (0,0,0)))
 else (
 some (0,1))
def S9:=Ctx.add Sa 120 [.one (.slice 191 Y0)] (.tup [.leaf (.int .u64),.leaf (.int .i64)]) uv
theorem acu:S9.Sound:=.add (H:=hd [(5,[.data 2 (.int .u64),.data 3 (.int .i64),.data 22 (.int .i64)],[]),(1000006,[],[6])]) mixed abC Tryz.func120 λb=>by kernel_rfl
def xC (b:D9):Option Bool:=
 (mV b).bind λa=>
 some (!decide (a=0))
def S8:=Ctx.add S9 121 [.agg Y1] (.one (.leaf (.bool))) xC
theorem acs:S8.Sound:=.add (H:=hd [(1000000,[],[1])]) mixed acu Tryz.func121 λb=>by kernel_rfl
def FM (b:List D9×Unit):Option Int:=
 aD (λ(c:(Int×Int)->Option Int) (a:Int×Int)=>
  bif decide (a.2<(b.1.length:Int)) then (
  bif ae a.2 b.1.length then
  (xC (rd Y1 b.1 a.2)).bind λd=>
  bif d then (
  some a.2)
  else (
  c (a.1,(IntKind.wrap .i64 (a.2+1))))
  else none)
  else (
  some (-1))) (0,0)
def R9:=Ctx.add S8 182 [.one (.slice 149 Y1),.fn 121] (.one (.leaf (.int .i64))) FM
theorem abB:R9.Sound:=.add (H:=hd [(2,[.data 4 (.int .i64),.data 8 (.int .i64)],[])]) mixed acs Tryz.func182 λb=>by kernel_rfl
def BM (b:List D9×Unit):Option Bool:=
 (FM (b.1,())).bind λa=>
 some (decide (0<=a))
def S7:=Ctx.add R9 122 [.one (.slice 149 Y1),.fn 121] (.one (.leaf (.bool))) BM
theorem acr:S7.Sound:=.add (H:=hd []) mixed abB Tryz.func122 λb=>by kernel_rfl
def pD (b:lk):Option Int:=
 let y:=b.2.2.2.2.2.2.2.1;let t:=BM (b.2.2.2.2.2.2.2.2.2.2,());let v:=mS (b.2.2.2.1,b.2.2.2.2.1,b.2.2.2.2.2.1);let g:=!decide (b.2.2.1=0);let h:=!decide (b.2.2.2.2.2.2.1=0);let i:=!decide (y=0);let j:=!decide (b.2.2.2.2.2.2.2.2.1=0);let k:Int:=b.2.2.2.2.2.2.2.2.2.1.length;let a:Int:=b.2.2.2.2.2.2.2.2.2.2.length;let Z:=bif decide (0<a) then decide (a<=16) else false;let u:=Z==true;(BO b.2.1).bind λr=>
 (uv b.2.2.2.2.2.2.2.2.2.1).bind λl=>
 bif (decide ((df .and .i64 r.1 64)=0)==false) then (
 bif (decide (0<y)==true) then (
 (fu ([y])).bind λO=>
 bif u then (
 t.bind λr4=>
 aD (λ(w:(Bool×Int)->Option Int) (z:Bool×Int)=>let P:=IntKind.wrap .i64 (z.2+1);let y8:=rd mP ([(1,g,true),(2,h,true),(4,i,decide (O=0)),(8,j,true),(16,decide (0<k),decide (l.2=0)),(32,decide (0<a),(!r4))]) z.2;
 bif decide (z.2<(([(1,g,true),(2,h,true),(4,i,decide (O=0)),(8,j,true),(16,decide (0<k),decide (l.2=0)),(32,decide (0<a),(!r4))]).length:Int)) then (
 bif ae z.2 ([(1,g,true),(2,h,true),(4,i,decide (O=0)),(8,j,true),(16,decide (0<k),decide (l.2=0)),(32,decide (0<a),(!r4))]).length then
 bif (!decide ((df .and .i64 r.1 y8.1)=0)) then (
 w ((bif z.1 then y8.2.2 else false),P))
 else (
 w ((bif z.1 then (!y8.2.1) else false),P))
 else none)
 else (
 bif ((!z.1)==false) then (
 v.bind λr6=>
 bif (!decide (r6=0)) then (
 some 1)
 else (
 some 0))
 else (
 some 1))) (r.2,0))
 else (
 aD (λ(x:(Bool×Int)->Option Int) (A:Bool×Int)=>let Q:=IntKind.wrap .i64 (A.2+1);let y9:=rd mP ([(1,g,true),(2,h,true),(4,i,decide (O=0)),(8,j,true),(16,decide (0<k),decide (l.2=0)),(32,decide (0<a),false)]) A.2;
 bif decide (A.2<(([(1,g,true),(2,h,true),(4,i,decide (O=0)),(8,j,true),(16,decide (0<k),decide (l.2=0)),(32,decide (0<a),false)]).length:Int)) then (
 bif ae A.2 ([(1,g,true),(2,h,true),(4,i,decide (O=0)),(8,j,true),(16,decide (0<k),decide (l.2=0)),(32,decide (0<a),false)]).length then
 bif (!decide ((df .and .i64 r.1 y9.1)=0)) then (
 x ((bif A.1 then y9.2.2 else false),Q))
 else (
 x ((bif A.1 then (!y9.2.1) else false),Q))
 else none)
 else (
 bif ((!A.1)==false) then (
 v.bind λr8=>
 bif (!decide (r8=0)) then (
 some 1)
 else (
 some 0))
 else (
 some 1))) (r.2,0)))
 else (
 (aj (
 bif u then (
 t.bind λB=>
 aD (λ(m:(Bool×Int)->Option Int) (c:Bool×Int)=>let R:=IntKind.wrap .i64 (c.2+1);let C:=rd mP ([(1,g,true),(2,h,true),(4,i,false),(8,j,true),(16,decide (0<k),decide (l.2=0)),(32,decide (0<a),(!B))]) c.2;
 bif decide (c.2<(([(1,g,true),(2,h,true),(4,i,false),(8,j,true),(16,decide (0<k),decide (l.2=0)),(32,decide (0<a),(!B))]).length:Int)) then (
 bif ae c.2 ([(1,g,true),(2,h,true),(4,i,false),(8,j,true),(16,decide (0<k),decide (l.2=0)),(32,decide (0<a),(!B))]).length then
 bif (!decide ((df .and .i64 r.1 C.1)=0)) then (
 m ((bif c.1 then C.2.2 else false),R))
 else (
 m ((bif c.1 then (!C.2.1) else false),R))
 else none)
 else (
 bif ((!c.1)==false) then (
 v.bind λD=>
 bif (!decide (D=0)) then (
 some 1)
 else (
 some 0))
 else (
 some 1))) (r.2,0))
 else (
 aD (λ(n:(Bool×Int)->Option Int) (d:Bool×Int)=>let S:=IntKind.wrap .i64 (d.2+1);let E:=rd mP ([(1,g,true),(2,h,true),(4,i,false),(8,j,true),(16,decide (0<k),decide (l.2=0)),(32,decide (0<a),false)]) d.2;
 bif decide (d.2<(([(1,g,true),(2,h,true),(4,i,false),(8,j,true),(16,decide (0<k),decide (l.2=0)),(32,decide (0<a),false)]).length:Int)) then (
 bif ae d.2 ([(1,g,true),(2,h,true),(4,i,false),(8,j,true),(16,decide (0<k),decide (l.2=0)),(32,decide (0<a),false)]).length then
 bif (!decide ((df .and .i64 r.1 E.1)=0)) then (
 n ((bif d.1 then E.2.2 else false),S))
 else (
 n ((bif d.1 then (!E.2.1) else false),S))
 else none)
 else (
 bif ((!d.1)==false) then (
 v.bind λF=>
 bif (!decide (F=0)) then (
 some 1)
 else (
 some 0))
 else (
 some 1))) (r.2,0))) (
 bif u then (
 t.bind λB=>
 aD (λ(m:(Bool×Int)->Option Int) (c:Bool×Int)=>let T:=IntKind.wrap .i64 (c.2+1);let G:=rd mP ([(1,g,true),(2,h,true),(4,i,false),(8,j,true),(16,decide (0<k),decide (l.2=0)),(32,decide (0<a),(!B))]) c.2;
 bif decide (c.2<(([(1,g,true),(2,h,true),(4,i,false),(8,j,true),(16,decide (0<k),decide (l.2=0)),(32,decide (0<a),(!B))]).length:Int)) then (
 bif ae c.2 ([(1,g,true),(2,h,true),(4,i,false),(8,j,true),(16,decide (0<k),decide (l.2=0)),(32,decide (0<a),(!B))]).length then
 bif (!decide ((df .and .i64 r.1 G.1)=0)) then (
 m ((bif c.1 then G.2.2 else false),T))
 else (
 m ((bif c.1 then (!G.2.1) else false),T))
 else none)
 else (
 bif ((!c.1)==false) then (
 v.bind λD=>
 bif (!decide (D=0)) then (
 some 1)
 else (
 some 0))
 else (
 some 1))) (r.2,0))
 else (
 (λo=>aj o o) (
 aD (λ(n:(Bool×Int)->Option Int) (d:Bool×Int)=>let U:=IntKind.wrap .i64 (d.2+1);let H:=rd mP ([(1,g,true),(2,h,true),(4,i,false),(8,j,true),(16,decide (0<k),decide (l.2=0)),(32,decide (0<a),false)]) d.2;
 bif decide (d.2<(([(1,g,true),(2,h,true),(4,i,false),(8,j,true),(16,decide (0<k),decide (l.2=0)),(32,decide (0<a),false)]).length:Int)) then (
 bif ae d.2 ([(1,g,true),(2,h,true),(4,i,false),(8,j,true),(16,decide (0<k),decide (l.2=0)),(32,decide (0<a),false)]).length then
 bif (!decide ((df .and .i64 r.1 H.1)=0)) then (
 n ((bif d.1 then H.2.2 else false),U))
 else (
 n ((bif d.1 then (!H.2.1) else false),U))
 else none)
 else (
 bif ((!d.1)==false) then (
 v.bind λF=>
 bif (!decide (F=0)) then (
 some 1)
 else (
 some 0))
 else (
 some 1))) (r.2,0)))))))
 else (
 (aj (
 bif u then (
 t.bind λs=>
 aD (λ(p:(Bool×Int)->Option Int) (e:Bool×Int)=>let V:=IntKind.wrap .i64 (e.2+1);let I:=rd mP ([(1,g,true),(2,h,true),(4,i,true),(8,j,true),(16,decide (0<k),decide (l.2=0)),(32,decide (0<a),(!s))]) e.2;
 bif decide (e.2<(([(1,g,true),(2,h,true),(4,i,true),(8,j,true),(16,decide (0<k),decide (l.2=0)),(32,decide (0<a),(!s))]).length:Int)) then (
 bif ae e.2 ([(1,g,true),(2,h,true),(4,i,true),(8,j,true),(16,decide (0<k),decide (l.2=0)),(32,decide (0<a),(!s))]).length then
 bif (!decide ((df .and .i64 r.1 I.1)=0)) then (
 p ((bif e.1 then I.2.2 else false),V))
 else (
 p ((bif e.1 then (!I.2.1) else false),V))
 else none)
 else (
 bif ((!e.1)==false) then (
 v.bind λJ=>
 bif (!decide (J=0)) then (
 some 1)
 else (
 some 0))
 else (
 some 1))) (r.2,0))
 else (
 aD (λ(q:(Bool×Int)->Option Int) (f:Bool×Int)=>let W:=IntKind.wrap .i64 (f.2+1);let K:=rd mP ([(1,g,true),(2,h,true),(4,i,true),(8,j,true),(16,decide (0<k),decide (l.2=0)),(32,decide (0<a),false)]) f.2;
 bif decide (f.2<(([(1,g,true),(2,h,true),(4,i,true),(8,j,true),(16,decide (0<k),decide (l.2=0)),(32,decide (0<a),false)]).length:Int)) then (
 bif ae f.2 ([(1,g,true),(2,h,true),(4,i,true),(8,j,true),(16,decide (0<k),decide (l.2=0)),(32,decide (0<a),false)]).length then
 bif (!decide ((df .and .i64 r.1 K.1)=0)) then (
 q ((bif f.1 then K.2.2 else false),W))
 else (
 q ((bif f.1 then (!K.2.1) else false),W))
 else none)
 else (
 bif ((!f.1)==false) then (
 v.bind λL=>
 bif (!decide (L=0)) then (
 some 1)
 else (
 some 0))
 else (
 some 1))) (r.2,0))) (
 bif u then (
 t.bind λs=>
 aD (λ(p:(Bool×Int)->Option Int) (e:Bool×Int)=>let X:=IntKind.wrap .i64 (e.2+1);let M:=rd mP ([(1,g,true),(2,h,true),(4,i,true),(8,j,true),(16,decide (0<k),decide (l.2=0)),(32,decide (0<a),(!s))]) e.2;
 bif decide (e.2<(([(1,g,true),(2,h,true),(4,i,true),(8,j,true),(16,decide (0<k),decide (l.2=0)),(32,decide (0<a),(!s))]).length:Int)) then (
 bif ae e.2 ([(1,g,true),(2,h,true),(4,i,true),(8,j,true),(16,decide (0<k),decide (l.2=0)),(32,decide (0<a),(!s))]).length then
 bif (!decide ((df .and .i64 r.1 M.1)=0)) then (
 p ((bif e.1 then M.2.2 else false),X))
 else (
 p ((bif e.1 then (!M.2.1) else false),X))
 else none)
 else (
 bif ((!e.1)==false) then (
 v.bind λJ=>
 bif (!decide (J=0)) then (
 some 1)
 else (
 some 0))
 else (
 some 1))) (r.2,0))
 else (
 (λo=>aj o o) (
 aD (λ(q:(Bool×Int)->Option Int) (f:Bool×Int)=>let Y:=IntKind.wrap .i64 (f.2+1);let N:=rd mP ([(1,g,true),(2,h,true),(4,i,true),(8,j,true),(16,decide (0<k),decide (l.2=0)),(32,decide (0<a),false)]) f.2;
 bif decide (f.2<(([(1,g,true),(2,h,true),(4,i,true),(8,j,true),(16,decide (0<k),decide (l.2=0)),(32,decide (0<a),false)]).length:Int)) then (
 bif ae f.2 ([(1,g,true),(2,h,true),(4,i,true),(8,j,true),(16,decide (0<k),decide (l.2=0)),(32,decide (0<a),false)]).length then
 bif (!decide ((df .and .i64 r.1 N.1)=0)) then (
 q ((bif f.1 then N.2.2 else false),Y))
 else (
 q ((bif f.1 then (!N.2.1) else false),Y))
 else none)
 else (
 bif ((!f.1)==false) then (
 v.bind λL=>
 bif (!decide (L=0)) then (
 some 1)
 else (
 some 0))
 else (
 some 1))) (r.2,0))))))
def Pj:=Ctx.add S7 71 [.agg mR] (.one (.leaf (.int .i64))) pD
theorem Ye:Pj.Sound:=.add (H:=hd [(5,[.data 4 .bool,.data 84 (.int .i64)],[335872,176128]),(1000000,[],[1]),(1000006,[],[9]),(5000004,[],[0,0,1,1,2,2,4,4,0,0,16,16,32,32,64,64,0,0,256,256,512,512,0,0,2048,2048,4096,4096,8192,8192,16384,16384,49152,49152,81920,81920,147456,147456,262144,262144,786432,786432,1310720,1310720,2359296,2359296,4456448,4456448,8667136,8667136,16793600,16793600,33555456,33555456,0,0,134217728,134217728,268435456,268435456,536870912,536870912,0,0,2147483648,2147483648,4294967296,4294967296,8589934592,8589934592,0,0,34359738368,34359738368,85899345920,85899345920,0,0,274877906944,274877906944,549755813888,549755813888,1099511627776,1099511627776,0,0,4398046511104,4398046511104,8796093022208,8796093022208,17592186044416,17592186044416,35184376283136,35184372088832,70368744177664,70368744177664,211106232532992,211106232532992,351843720888320,351843720888320,633318697598976,633318697598976,1196268651020288,1196268651020288,2322168557862912,2251799813685248,4503599627370496,4503599627370496,13510798882111488,13510798882111488,4503599627370496,4503599627370496,58546795155816448,58546795155816448,76561193665298432,76561193665298432,148618787703226368,148618787703226368,288232575174967296,288232575174967296,576460890883227784,576460890883227784,1152921504606846976,1152921504606846976,0,0])]) mixed acr Tryz.func71 λb=>by kernel_rfl
end
end Go.Proofs.YtkihadlgknhpkaaGreatDoor.T
