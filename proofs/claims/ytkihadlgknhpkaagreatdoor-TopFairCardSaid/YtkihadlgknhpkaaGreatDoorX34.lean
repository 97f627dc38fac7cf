/- Part 34: lemmas that the last text needs. -/
import Derived.Test.YtkihadlgknhpkaaGreatDoorX33
set_option linter.all false
set_option autoImplicit true
set_option relaxedAutoImplicit true
namespace Go.Proofs.YtkihadlgknhpkaaGreatDoor.T
set_option maxRecDepth 100000
open Go Go.Fw Go.Proofs
noncomputable section
def ag7 (b:bq×bq):Option Int:=
 some (IntKind.wrap .i64 ((IntKind.wrap .i64 b.1.1) -(IntKind.wrap .i64 b.2.1)))
def Hh:=Ctx.add Pj 126 [.agg cP,.agg cP] (.one (.leaf (.int .i64))) ag7
theorem acm:Hh.Sound:=.add (H:=hd [(1000000,[],[2,3])]) mixed Ye Tryz.func126 λb=>by kernel_rfl
def S5:=Ctx.addI Hh 123 (hd [(5000000,[],[0,0,0,0,0,0,4,4,10,10,16,16,41,33,127,64])]) 9000123 Tryz.f123
theorem acp:S5.Sound:=Ctx.Sound.addI (C:=Hh) mixed acm Tryz.func123
def S3:Ctx:=Ctx.addS S5 125 126 aY lp jx
theorem acn:S3.Sound:=Ctx.Sound.addS acp (skR rfl) adb
def re (b:lk):Option (List bq×Int):=
 (qY (b.2.2.2.1,b.2.2.2.2.1,b.2.2.2.2.2.1)).bind λm=>
 bif (!decide (m.2=0)) then (
 some ([],m.2))
 else (
 (aj (
 (cm ([b.1])).bind λn=>
 bif decide ((([(4,m.1)]).length+1)*32<=az) then
 (aj (
 (cm ([(IntKind.wrap .u64 b.2.1)])).bind λp=>
 bif decide (((([(4,m.1)])++ ([(1,n)])).length+1)*32<=az) then
 aD (λ(c:(pP)->Option (List bq×Int)) (e:pP)=>
  bif e.1.isEmpty then (
  aD (λ(f:(mX)->Option (List bq×Int)) (a:mX)=>
   bif decide (a.1<(b.2.2.2.2.2.2.2.2.2.1.length:Int)) then (
   bif ae a.1 b.2.2.2.2.2.2.2.2.2.1.length then
   (aj (
   (cm ([(rd Y0 b.2.2.2.2.2.2.2.2.2.1 a.1).1,(rd Y0 b.2.2.2.2.2.2.2.2.2.1 a.1).2])).bind λj=>
   bif decide ((a.2.1.length+1)*32<=az) then
   f ((IntKind.wrap .i64 (a.1+1)),(a.2.1++ ([((IntKind.wrap .u64 (32+ (IntKind.wrap .u64 a.1))),j)])),((),()))
   else none) (
   (cm ([(rd Y0 b.2.2.2.2.2.2.2.2.2.1 a.1).1,(rd Y0 b.2.2.2.2.2.2.2.2.2.1 a.1).2])).bind λj=>
   (λo=>aj o o) (
   bif decide ((a.2.1.length+1)*32<=az) then
   f ((IntKind.wrap .i64 (a.1+1)),(a.2.1++ ([((IntKind.wrap .u64 (32+ (IntKind.wrap .u64 a.1))),j)])),((),()))
   else none)))
   else none)
   else (
   aD (λ(h:(pQ)->Option (List bq×Int)) (d:pQ)=>
    bif decide (d.2.2.1<(b.2.2.2.2.2.2.2.2.2.2.length:Int)) then (
    bif ae d.2.2.1 b.2.2.2.2.2.2.2.2.2.2.length then
    (oy (rd Y1 b.2.2.2.2.2.2.2.2.2.2 d.2.2.1)).bind λk=>
    bif (!decide (k.2=0)) then (
    some ([],k.2))
    else (
    bif decide ((d.2.2.2.1.length+1)*32<=az) then
    h (d.1,d.2.1,(IntKind.wrap .i64 (d.2.2.1+1)),(d.2.2.2.1++ ([((IntKind.wrap .u64 (48+ (IntKind.wrap .u64 d.2.2.1))),k.1)])),((),()))
    else none)
    else none)
    else (
    bif lp d.2.2.2.1 then
    some ((jx d.2.2.2.1),0)
    else none)) (([]:List bq),0,0,a.2.1,((),())))) (0,e.2.1,((),())))
 else (
  jf e.1 (λ(i:Int×Int) (l:List (Int×Int))=>
   bif (!decide (i.2=0)) then (
   (aj (
   (cm ([i.2])).bind λg=>
   bif decide ((e.2.1.length+1)*32<=az) then
   c (l,(e.2.1++ ([(i.1,g)])),((),()))
   else none) (
   (cm ([i.2])).bind λg=>
   (λo=>aj o o) (
   bif decide ((e.2.1.length+1)*32<=az) then
   c (l,(e.2.1++ ([(i.1,g)])),((),()))
   else none))))
   else (
   c (l,e.2.1,((),())))))) ((bK (.int .u64) (.int .u64) (bK (.int .u64) (.int .u64) (bK (.int .u64) (.int .u64) (bK (.int .u64) (.int .u64) ([]:List (Int×Int)) 3 b.2.2.1) 5 b.2.2.2.2.2.2.1) 6 b.2.2.2.2.2.2.2.1) 7 b.2.2.2.2.2.2.2.2.1),((([(4,m.1)])++ ([(1,n)]))++ ([(2,p)])),((),()))
 else none) (
 (cm ([(IntKind.wrap .u64 b.2.1)])).bind λp=>
 (λo=>aj o o) (
 bif decide (((([(4,m.1)])++ ([(1,n)])).length+1)*32<=az) then
 aD (λ(c:(pP)->Option (List bq×Int)) (e:pP)=>
  bif e.1.isEmpty then (
  aD (λ(f:(mX)->Option (List bq×Int)) (a:mX)=>
   bif decide (a.1<(b.2.2.2.2.2.2.2.2.2.1.length:Int)) then (
   bif ae a.1 b.2.2.2.2.2.2.2.2.2.1.length then
   (aj (
   (cm ([(rd Y0 b.2.2.2.2.2.2.2.2.2.1 a.1).1,(rd Y0 b.2.2.2.2.2.2.2.2.2.1 a.1).2])).bind λj=>
   bif decide ((a.2.1.length+1)*32<=az) then
   f ((IntKind.wrap .i64 (a.1+1)),(a.2.1++ ([((IntKind.wrap .u64 (32+ (IntKind.wrap .u64 a.1))),j)])),((),()))
   else none) (
   (cm ([(rd Y0 b.2.2.2.2.2.2.2.2.2.1 a.1).1,(rd Y0 b.2.2.2.2.2.2.2.2.2.1 a.1).2])).bind λj=>
   (λo=>aj o o) (
   bif decide ((a.2.1.length+1)*32<=az) then
   f ((IntKind.wrap .i64 (a.1+1)),(a.2.1++ ([((IntKind.wrap .u64 (32+ (IntKind.wrap .u64 a.1))),j)])),((),()))
   else none)))
   else none)
   else (
   aD (λ(h:(pQ)->Option (List bq×Int)) (d:pQ)=>
    bif decide (d.2.2.1<(b.2.2.2.2.2.2.2.2.2.2.length:Int)) then (
    bif ae d.2.2.1 b.2.2.2.2.2.2.2.2.2.2.length then
    (oy (rd Y1 b.2.2.2.2.2.2.2.2.2.2 d.2.2.1)).bind λk=>
    bif (!decide (k.2=0)) then (
    some ([],k.2))
    else (
    bif decide ((d.2.2.2.1.length+1)*32<=az) then
    h (d.1,d.2.1,(IntKind.wrap .i64 (d.2.2.1+1)),(d.2.2.2.1++ ([((IntKind.wrap .u64 (48+ (IntKind.wrap .u64 d.2.2.1))),k.1)])),((),()))
    else none)
    else none)
    else (
    bif lp d.2.2.2.1 then
    some ((jx d.2.2.2.1),0)
    else none)) (([]:List bq),0,0,a.2.1,((),())))) (0,e.2.1,((),())))
 else (
  jf e.1 (λ(i:Int×Int) (l:List (Int×Int))=>
   bif (!decide (i.2=0)) then (
   (aj (
   (cm ([i.2])).bind λg=>
   bif decide ((e.2.1.length+1)*32<=az) then
   c (l,(e.2.1++ ([(i.1,g)])),((),()))
   else none) (
   (cm ([i.2])).bind λg=>
   (λo=>aj o o) (
   bif decide ((e.2.1.length+1)*32<=az) then
   c (l,(e.2.1++ ([(i.1,g)])),((),()))
   else none))))
   else (
   c (l,e.2.1,((),())))))) ((bK (.int .u64) (.int .u64) (bK (.int .u64) (.int .u64) (bK (.int .u64) (.int .u64) (bK (.int .u64) (.int .u64) ([]:List (Int×Int)) 3 b.2.2.1) 5 b.2.2.2.2.2.2.1) 6 b.2.2.2.2.2.2.2.1) 7 b.2.2.2.2.2.2.2.2.1),((([(4,m.1)])++ ([(1,n)]))++ ([(2,p)])),((),()))
 else none)))
 else none) (
 (cm ([b.1])).bind λn=>
 (λo=>aj o o) (
 bif decide ((([(4,m.1)]).length+1)*32<=az) then
 (aj (
 (cm ([(IntKind.wrap .u64 b.2.1)])).bind λp=>
 bif decide (((([(4,m.1)])++ ([(1,n)])).length+1)*32<=az) then
 aD (λ(c:(pP)->Option (List bq×Int)) (e:pP)=>
  bif e.1.isEmpty then (
  aD (λ(f:(mX)->Option (List bq×Int)) (a:mX)=>
   bif decide (a.1<(b.2.2.2.2.2.2.2.2.2.1.length:Int)) then (
   bif ae a.1 b.2.2.2.2.2.2.2.2.2.1.length then
   (aj (
   (cm ([(rd Y0 b.2.2.2.2.2.2.2.2.2.1 a.1).1,(rd Y0 b.2.2.2.2.2.2.2.2.2.1 a.1).2])).bind λj=>
   bif decide ((a.2.1.length+1)*32<=az) then
   f ((IntKind.wrap .i64 (a.1+1)),(a.2.1++ ([((IntKind.wrap .u64 (32+ (IntKind.wrap .u64 a.1))),j)])),((),()))
   else none) (
   (cm ([(rd Y0 b.2.2.2.2.2.2.2.2.2.1 a.1).1,(rd Y0 b.2.2.2.2.2.2.2.2.2.1 a.1).2])).bind λj=>
   (λo=>aj o o) (
   bif decide ((a.2.1.length+1)*32<=az) then
   f ((IntKind.wrap .i64 (a.1+1)),(a.2.1++ ([((IntKind.wrap .u64 (32+ (IntKind.wrap .u64 a.1))),j)])),((),()))
   else none)))
   else none)
   else (
   aD (λ(h:(pQ)->Option (List bq×Int)) (d:pQ)=>
    bif decide (d.2.2.1<(b.2.2.2.2.2.2.2.2.2.2.length:Int)) then (
    bif ae d.2.2.1 b.2.2.2.2.2.2.2.2.2.2.length then
    (oy (rd Y1 b.2.2.2.2.2.2.2.2.2.2 d.2.2.1)).bind λk=>
    bif (!decide (k.2=0)) then (
    some ([],k.2))
    else (
    bif decide ((d.2.2.2.1.length+1)*32<=az) then
    h (d.1,d.2.1,(IntKind.wrap .i64 (d.2.2.1+1)),(d.2.2.2.1++ ([((IntKind.wrap .u64 (48+ (IntKind.wrap .u64 d.2.2.1))),k.1)])),((),()))
    else none)
    else none)
    else (
    bif lp d.2.2.2.1 then
    some ((jx d.2.2.2.1),0)
    else none)) (([]:List bq),0,0,a.2.1,((),())))) (0,e.2.1,((),())))
 else (
  jf e.1 (λ(i:Int×Int) (l:List (Int×Int))=>
   bif (!decide (i.2=0)) then (
   (aj (
   (cm ([i.2])).bind λg=>
   bif decide ((e.2.1.length+1)*32<=az) then
   c (l,(e.2.1++ ([(i.1,g)])),((),()))
   else none) (
   (cm ([i.2])).bind λg=>
   (λo=>aj o o) (
   bif decide ((e.2.1.length+1)*32<=az) then
   c (l,(e.2.1++ ([(i.1,g)])),((),()))
   else none))))
   else (
   c (l,e.2.1,((),())))))) ((bK (.int .u64) (.int .u64) (bK (.int .u64) (.int .u64) (bK (.int .u64) (.int .u64) (bK (.int .u64) (.int .u64) ([]:List (Int×Int)) 3 b.2.2.1) 5 b.2.2.2.2.2.2.1) 6 b.2.2.2.2.2.2.2.1) 7 b.2.2.2.2.2.2.2.2.1),((([(4,m.1)])++ ([(1,n)]))++ ([(2,p)])),((),()))
 else none) (
 (cm ([(IntKind.wrap .u64 b.2.1)])).bind λp=>
 (λo=>aj o o) (
 bif decide (((([(4,m.1)])++ ([(1,n)])).length+1)*32<=az) then
 aD (λ(c:(pP)->Option (List bq×Int)) (e:pP)=>
  bif e.1.isEmpty then (
  aD (λ(f:(mX)->Option (List bq×Int)) (a:mX)=>
   bif decide (a.1<(b.2.2.2.2.2.2.2.2.2.1.length:Int)) then (
   bif ae a.1 b.2.2.2.2.2.2.2.2.2.1.length then
   (aj (
   (cm ([(rd Y0 b.2.2.2.2.2.2.2.2.2.1 a.1).1,(rd Y0 b.2.2.2.2.2.2.2.2.2.1 a.1).2])).bind λj=>
   bif decide ((a.2.1.length+1)*32<=az) then
   f ((IntKind.wrap .i64 (a.1+1)),(a.2.1++ ([((IntKind.wrap .u64 (32+ (IntKind.wrap .u64 a.1))),j)])),((),()))
   else none) (
   (cm ([(rd Y0 b.2.2.2.2.2.2.2.2.2.1 a.1).1,(rd Y0 b.2.2.2.2.2.2.2.2.2.1 a.1).2])).bind λj=>
   (λo=>aj o o) (
   bif decide ((a.2.1.length+1)*32<=az) then
   f ((IntKind.wrap .i64 (a.1+1)),(a.2.1++ ([((IntKind.wrap .u64 (32+ (IntKind.wrap .u64 a.1))),j)])),((),()))
   else none)))
   else none)
   else (
   aD (λ(h:(pQ)->Option (List bq×Int)) (d:pQ)=>
    bif decide (d.2.2.1<(b.2.2.2.2.2.2.2.2.2.2.length:Int)) then (
    bif ae d.2.2.1 b.2.2.2.2.2.2.2.2.2.2.length then
    (oy (rd Y1 b.2.2.2.2.2.2.2.2.2.2 d.2.2.1)).bind λk=>
    bif (!decide (k.2=0)) then (
    some ([],k.2))
    else (
    bif decide ((d.2.2.2.1.length+1)*32<=az) then
    h (d.1,d.2.1,(IntKind.wrap .i64 (d.2.2.1+1)),(d.2.2.2.1++ ([((IntKind.wrap .u64 (48+ (IntKind.wrap .u64 d.2.2.1))),k.1)])),((),()))
    else none)
    else none)
    else (
    bif lp d.2.2.2.1 then
    some ((jx d.2.2.2.1),0)
    else none)) (([]:List bq),0,0,a.2.1,((),())))) (0,e.2.1,((),())))
 else (
  jf e.1 (λ(i:Int×Int) (l:List (Int×Int))=>
   bif (!decide (i.2=0)) then (
   (aj (
   (cm ([i.2])).bind λg=>
   bif decide ((e.2.1.length+1)*32<=az) then
   c (l,(e.2.1++ ([(i.1,g)])),((),()))
   else none) (
   (cm ([i.2])).bind λg=>
   (λo=>aj o o) (
   bif decide ((e.2.1.length+1)*32<=az) then
   c (l,(e.2.1++ ([(i.1,g)])),((),()))
   else none))))
   else (
   c (l,e.2.1,((),())))))) ((bK (.int .u64) (.int .u64) (bK (.int .u64) (.int .u64) (bK (.int .u64) (.int .u64) (bK (.int .u64) (.int .u64) ([]:List (Int×Int)) 3 b.2.2.1) 5 b.2.2.2.2.2.2.1) 6 b.2.2.2.2.2.2.2.1) 7 b.2.2.2.2.2.2.2.2.1),((([(4,m.1)])++ ([(1,n)]))++ ([(2,p)])),((),()))
 else none)))
 else none))))
def Ph:=Ctx.add S3 72 [.agg mR] (.tup [.leaf (.fresh 125 cP),.leaf (.int .i64)]) re
theorem Yd:Ph.Sound:=.add (H:=hd [(9,[.iterk 204800 ⟨(.int .u64),(.int .u64),true⟩,.crow 24576 0 10026633 125 cP,.boxr 24576 10026633 .unit .unit],[155648,131072,77824]),(14,[.data 66 (.int .i64),.crow 24576 0 10026638 125 cP,.boxr 24576 10026638 .unit .unit],[204800,155648,131072,77824]),(19,[.row 2 10259 125 cP,.data 3 (.int .i64),.data 85 (.int .i64),.crow 24576 0 10026643 125 cP,.boxr 24576 10026643 .unit .unit],[204800,155648,131072,77824]),(1000000,[],[1]),(1000015,[],[11]),(1000020,[],[13])]) mixed acn Tryz.func72 λb=>by kernel_rfl
def tO (b:lk):Option (List Int×Int):=
 (pD b).bind λd=>
 bif (!decide (d=0)) then (
 some ([],d))
 else (
 (re b).bind λa=>
 bif (!decide (a.2=0)) then (
 some ([],a.2))
 else (
 (om a.1).bind λc=>
 bif (bif (!decide (c.2=0)) then true else decide (4096<(c.1.length:Int))) then (
 some ([],4))
 else (
 some (c.1,0))))
def GI:=Ctx.add Ph 34 [.agg mR] (.tup [.leaf (.fresh 5 (.int .u8)),.leaf (.int .i64)]) tO
theorem Zw:GI.Sound:=.add (H:=hd [(1000000,[],[1])]) mixed Yd Tryz.func34 λb=>by kernel_rfl
def Qb:=Ctx.addI GI 33 (hd [(1000000,[],[3]),(1000014,[],[9]),(5000003,[],[0,0,0,0,2,2,4,4,9,9,0,0,32,32,64,64,129,129,0,0,512,512,1024,1024,2049,2049,0,0,8192,8192,16384,16384,32769,32769,0,0,131072,131072,262144,262144,524289,524289,2097151,1,0,0,4194304,4194304,10485760,10485760,33554431,16777216]),(5000015,[],[0,0,0,0,2,2,4,4,8,8,0,0,32,32,80,80,255,1,511,256,767,640]),(5000018,[],[0,0,0,0,2,2,4,4,8,8,0,0,32,32,64,64,0,0,256,256,512,512,1152,1152,2048,2048,4112,4112,16383,1,32767,16384,49151,40960])]) 9000033 Tryz.f33
theorem ZE:Qb.Sound:=Ctx.Sound.addI (C:=GI) mixed Zw Tryz.func33
def xt (b:List Int):Option ((Int×Int×Int×Int×List D9×Int×Int×Int×Int× (List (Int×Int))×List D9)×Int):=
 let h:Option ((Int×Int×Int×Int×List D9×Int×Int×Int×Int× (List (Int×Int))×List D9)×Int):=some ((0,0,0,0,[],0,0,0,0,[],[]),2);bif decide (4096<(b.length:Int)) then (
 some ((0,0,0,0,[],0,0,0,0,[],[]),4))
 else (
 (tU b).bind λG=>
 aD (λ(a:(OH)->Option ((Int×Int×Int×Int×List D9×Int×Int×Int×Int× (List (Int×Int))×List D9)×Int)) (e:OH)=>let C:=e.2.2.2.2.1.2.2.2.2.2.2.2.1;let D:=e.2.2.2.2.1.2.2.2.2.2.2.2.2;let y:=e.2.2.2.2.1.2.2.2.1;let B:=e.2.2.2.2.1.2.2.2.2.2.2.1;let z:=e.2.2.2.2.1.2.2.2.2.1;let A:=e.2.2.2.2.1.2.2.2.2.2.1;let n:=e.2.2.2.2.1;let c:=e.2.2.1;let g:=e.2.2.2.2.1.1;let i:=e.2.2.2.2.1.2.1;let q:=e.2.2.2.2.1.2.2.2.2.2.2;let s:=e.2.2.2.2.1.2.2.1;let j:=e.2.2.2.1;let H:=j.length+1;let r:=H*24<=az;let k:=IntKind.wrap .i64 (e.2.1+1);let d:=rd cP G.1 e.2.1;
 bif decide (e.2.1<(G.1.length:Int)) then (
 bif ae e.2.1 G.1.length then
 (wI d.2).bind λf=>let p:=rd (.int .u64) f.1 0;let E:=bif decide (f.2=0) then decide ((f.1.length:Int)=1) else false;let I:=bif decide (d.1=2) then E else false;let v:=I==true;let F:Option ((Int×Int×Int×Int×List D9×Int×Int×Int×Int× (List (Int×Int))×List D9)×Int):=bif ae 0 f.1.length then a (e.1,k,c,j,((g,(IntKind.wrap .i64 p),e.2.2.2.2.1.2.2),((),()))) else none;let w:=bif (bif decide (32<=d.1) then decide (f.2=0) else false) then decide ((f.1.length:Int)=2) else false;let x:Option ((Int×Int×Int×Int×List D9×Int×Int×Int×Int× (List (Int×Int))×List D9)×Int):=bif decide ((c.length+1)*16<=az) then a (e.1,k,(c++ ([(p,(rd (.int .u64) f.1 1))])),j,(n,((),()))) else none;
 bif decide (d.1=1) then (
 bif E then (
 bif ae 0 f.1.length then
 a (e.1,k,c,j,((p,e.2.2.2.2.1.2),((),())))
 else none)
 else (
 bif v then (
 bif ae 0 f.1.length then
 bif decide (p<16) then F
 else (
 bif decide (d.1=4) then (
 (iv d.2).bind λl=>
 bif (!decide (l.2=0)) then h
 else (
 a (e.1,k,c,j,((g,i,s,l.1.1,l.1.2.1,l.1.2.2,q),((),())))))
 else (
 bif decide (48<=d.1) then (
 (iu d.2).bind λt=>
 (λo=>aj o o) (
 bif decide r then
 bif (!decide (t.2=0)) then h
 else (
 a (e.1,k,c,(j++ ([t.1])),(n,((),()))))
 else none))
 else (
 bif w then (
 bif ae 0 f.1.length then
 bif ae 1 f.1.length then
 (λo=>aj (aj o o) (aj (aj o (aj o o)) (aj o (aj o o)))) x
 else none
 else none)
 else h)))
 else none)
 else (
 bif decide (d.1=4) then (
 (iv d.2).bind λm=>
 bif (!decide (m.2=0)) then h
 else (
 a (e.1,k,c,j,((g,i,s,m.1.1,m.1.2.1,m.1.2.2,q),((),())))))
 else (
 bif decide (48<=d.1) then (
 (iu d.2).bind λu=>
 (λo=>aj o o) (
 bif decide r then
 bif (!decide (u.2=0)) then h
 else (
 a (e.1,k,c,(j++ ([u.1])),(n,((),()))))
 else none))
 else (
 bif w then (
 bif ae 0 f.1.length then
 bif ae 1 f.1.length then
 (λo=>aj (aj o o) (aj (aj o (aj o o)) (aj o (aj o o)))) x
 else none
 else none)
 else h)))))
 else (
 bif decide (d.1=3) then (
 bif E then (
 bif ae 0 f.1.length then
 a (e.1,k,c,j,((g,i,p,e.2.2.2.2.1.2.2.2),((),())))
 else none)
 else (
 bif v then (
 bif ae 0 f.1.length then
 bif decide (p<16) then F
 else (
 bif decide (d.1=4) then (
 (iv d.2).bind λl=>
 bif (!decide (l.2=0)) then h
 else (
 a (e.1,k,c,j,((g,i,s,l.1.1,l.1.2.1,l.1.2.2,q),((),())))))
 else (
 bif decide (48<=d.1) then (
 (iu d.2).bind λt=>
 (λo=>aj o o) (
 bif decide r then
 bif (!decide (t.2=0)) then h
 else (
 a (e.1,k,c,(j++ ([t.1])),(n,((),()))))
 else none))
 else (
 bif w then (
 bif ae 0 f.1.length then
 bif ae 1 f.1.length then
 (λo=>aj (aj o o) (aj (aj o (aj o o)) (aj o (aj o o)))) x
 else none
 else none)
 else h)))
 else none)
 else (
 bif decide (d.1=4) then (
 (iv d.2).bind λm=>
 bif (!decide (m.2=0)) then h
 else (
 a (e.1,k,c,j,((g,i,s,m.1.1,m.1.2.1,m.1.2.2,q),((),())))))
 else (
 bif decide (48<=d.1) then (
 (iu d.2).bind λu=>
 (λo=>aj o o) (
 bif decide r then
 bif (!decide (u.2=0)) then h
 else (
 a (e.1,k,c,(j++ ([u.1])),(n,((),()))))
 else none))
 else (
 bif w then (
 bif ae 0 f.1.length then
 bif ae 1 f.1.length then
 (λo=>aj (aj o o) (aj (aj o (aj o o)) (aj o (aj o o)))) x
 else none
 else none)
 else h)))))
 else (
 bif decide (d.1=5) then (
 bif E then (
 bif ae 0 f.1.length then
 a (e.1,k,c,j,((g,i,s,y,z,A,p,e.2.2.2.2.1.2.2.2.2.2.2.2),((),())))
 else none)
 else (
 bif v then (
 bif ae 0 f.1.length then
 bif decide (p<16) then F
 else (
 bif decide (d.1=4) then (
 (iv d.2).bind λl=>
 bif (!decide (l.2=0)) then h
 else (
 a (e.1,k,c,j,((g,i,s,l.1.1,l.1.2.1,l.1.2.2,q),((),())))))
 else (
 bif decide (48<=d.1) then (
 (iu d.2).bind λt=>
 (λo=>aj o o) (
 bif decide r then
 bif (!decide (t.2=0)) then h
 else (
 a (e.1,k,c,(j++ ([t.1])),(n,((),()))))
 else none))
 else (
 bif w then (
 bif ae 0 f.1.length then
 bif ae 1 f.1.length then
 (λo=>aj (aj o o) (aj (aj o (aj o o)) (aj o (aj o o)))) x
 else none
 else none)
 else h)))
 else none)
 else (
 bif decide (d.1=4) then (
 (iv d.2).bind λm=>
 bif (!decide (m.2=0)) then h
 else (
 a (e.1,k,c,j,((g,i,s,m.1.1,m.1.2.1,m.1.2.2,q),((),())))))
 else (
 bif decide (48<=d.1) then (
 (iu d.2).bind λu=>
 (λo=>aj o o) (
 bif decide r then
 bif (!decide (u.2=0)) then h
 else (
 a (e.1,k,c,(j++ ([u.1])),(n,((),()))))
 else none))
 else (
 bif w then (
 bif ae 0 f.1.length then
 bif ae 1 f.1.length then
 (λo=>aj (aj o o) (aj (aj o (aj o o)) (aj o (aj o o)))) x
 else none
 else none)
 else h)))))
 else (
 bif decide (d.1=6) then (
 bif E then (
 bif ae 0 f.1.length then
 a (e.1,k,c,j,((g,i,s,y,z,A,B,p,D),((),())))
 else none)
 else (
 bif v then (
 bif ae 0 f.1.length then
 bif decide (p<16) then F
 else (
 bif decide (d.1=4) then (
 (iv d.2).bind λl=>
 bif (!decide (l.2=0)) then h
 else (
 a (e.1,k,c,j,((g,i,s,l.1.1,l.1.2.1,l.1.2.2,q),((),())))))
 else (
 bif decide (48<=d.1) then (
 (iu d.2).bind λt=>
 (λo=>aj o o) (
 bif decide r then
 bif (!decide (t.2=0)) then h
 else (
 a (e.1,k,c,(j++ ([t.1])),(n,((),()))))
 else none))
 else (
 bif w then (
 bif ae 0 f.1.length then
 bif ae 1 f.1.length then
 (λo=>aj (aj o o) (aj (aj o (aj o o)) (aj o (aj o o)))) x
 else none
 else none)
 else h)))
 else none)
 else (
 bif decide (d.1=4) then (
 (iv d.2).bind λm=>
 bif (!decide (m.2=0)) then h
 else (
 a (e.1,k,c,j,((g,i,s,m.1.1,m.1.2.1,m.1.2.2,q),((),())))))
 else (
 bif decide (48<=d.1) then (
 (iu d.2).bind λu=>
 (λo=>aj o o) (
 bif decide r then
 bif (!decide (u.2=0)) then h
 else (
 a (e.1,k,c,(j++ ([u.1])),(n,((),()))))
 else none))
 else (
 bif w then (
 bif ae 0 f.1.length then
 bif ae 1 f.1.length then
 (λo=>aj (aj o o) (aj (aj o (aj o o)) (aj o (aj o o)))) x
 else none
 else none)
 else h)))))
 else (
 bif decide (d.1=7) then (
 bif E then (
 bif ae 0 f.1.length then
 a (e.1,k,c,j,((g,i,s,y,z,A,B,C,p),((),())))
 else none)
 else (
 bif v then (
 bif ae 0 f.1.length then
 bif decide (p<16) then F
 else (
 bif decide (d.1=4) then (
 (iv d.2).bind λl=>
 bif (!decide (l.2=0)) then h
 else (
 a (e.1,k,c,j,((g,i,s,l.1.1,l.1.2.1,l.1.2.2,q),((),())))))
 else (
 bif decide (48<=d.1) then (
 (iu d.2).bind λt=>
 (λo=>aj o o) (
 bif decide r then
 bif (!decide (t.2=0)) then h
 else (
 a (e.1,k,c,(j++ ([t.1])),(n,((),()))))
 else none))
 else (
 bif w then (
 bif ae 0 f.1.length then
 bif ae 1 f.1.length then
 (λo=>aj (aj o o) (aj (aj o (aj o o)) (aj o (aj o o)))) x
 else none
 else none)
 else h)))
 else none)
 else (
 bif decide (d.1=4) then (
 (iv d.2).bind λm=>
 bif (!decide (m.2=0)) then h
 else (
 a (e.1,k,c,j,((g,i,s,m.1.1,m.1.2.1,m.1.2.2,q),((),())))))
 else (
 bif decide (48<=d.1) then (
 (iu d.2).bind λu=>
 (λo=>aj o o) (
 bif decide r then
 bif (!decide (u.2=0)) then h
 else (
 a (e.1,k,c,(j++ ([u.1])),(n,((),()))))
 else none))
 else (
 bif w then (
 bif ae 0 f.1.length then
 bif ae 1 f.1.length then
 (λo=>aj (aj o o) (aj (aj o (aj o o)) (aj o (aj o o)))) x
 else none
 else none)
 else h)))))
 else (
 bif v then (
 bif ae 0 f.1.length then
 bif decide (p<16) then F
 else (
 bif decide (d.1=4) then (
 (iv d.2).bind λl=>
 bif (!decide (l.2=0)) then h
 else (
 a (e.1,k,c,j,((g,i,s,l.1.1,l.1.2.1,l.1.2.2,q),((),())))))
 else (
 bif decide (48<=d.1) then (
 (iu d.2).bind λt=>
 (λo=>aj o o) (
 bif decide r then
 bif (!decide (t.2=0)) then h
 else (
 a (e.1,k,c,(j++ ([t.1])),(n,((),()))))
 else none))
 else (
 bif w then (
 bif ae 0 f.1.length then
 bif ae 1 f.1.length then
 (λo=>aj (aj o o) (aj (aj o (aj o o)) (aj o (aj o o)))) x
 else none
 else none)
 else h)))
 else none)
 else (
 bif decide (d.1=4) then (
 (iv d.2).bind λm=>
 bif (!decide (m.2=0)) then h
 else (
 a (e.1,k,c,j,((g,i,s,m.1.1,m.1.2.1,m.1.2.2,q),((),())))))
 else (
 bif decide (48<=d.1) then (
 (iu d.2).bind λu=>
 (λo=>aj o o) (
 bif decide r then
 bif (!decide (u.2=0)) then h
 else (
 a (e.1,k,c,(j++ ([u.1])),(n,((),()))))
 else none))
 else (
 bif w then (
 bif ae 0 f.1.length then
 bif ae 1 f.1.length then
 (λo=>aj (aj o o) (aj (aj o (aj o o)) (aj o (aj o o)))) x
 else none
 else none)
 else h))))))))
 else none)
 else (
 (tO (g,i,s,y,z,A,B,C,D,c,j)).bind λJ=>
 bif ((bif (!decide (G.2=0)) then true else (!decide (J.2=0)))==false) then (
 (jr (J.1,b)).bind λK=>
 bif (!K) then h
 else (
 some ((g,i,s,y,z,A,B,C,D,c,j),0)))
 else h)) (0,0,([]:List (Int×Int)),([]:List D9),((0,0,0,0,[],0,0,0,0),((),()))))
def Sz:=Ctx.add Qb 16 [.one aY] (.tup [.agg [.int .u64,.int .i64,.int .u64,.int .u64,.sl 149 Y1,.int .i64,.int .u64,.int .u64,.int .u64,.sl 191 Y0,.sl 149 Y1],.leaf (.int .i64)]) xt
theorem s16:Sz.Sound:=.add (H:=hd [(5,[.data 3 (.int .i64),.data 21 (.int .i64),.crow 8192 9 10010245 191 Y0,.crow 8192 10 10010757 149 Y1,.boxs 8192 10010245 10010757 ae8 .unit .unit],[65536]),(1000006,[],[7]),(3000000,[],[12682147545791602688]),(3000001,[],[12682147545791602688]),(3000002,[],[12682147545791602688]),(3000003,[],[12682147545791602688]),(3000004,[],[12682147545791602688]),(3000005,[],[12682147545791602688]),(3000006,[],[12682147545791602688]),(3000007,[],[12682147545791602688]),(3000008,[],[12682147545791602688]),(3000009,[],[12682147545791602688]),(3000010,[],[12682147545791602688]),(3000011,[],[12682147545791602688]),(3000012,[],[12682147545791602688]),(3000013,[],[12682147545791602688])]) mixed ZE Tryz.func16 λb=>by kernel_rfl
def q9 (b:lk):Option (Int×Int):=
 (pD b).bind λa=>
 bif (!decide (a=0)) then (
 some (0,a))
 else (
 bif decide (b.2.1=1) then (
 some (b.2.2.2.2.2.2.2.1,0))
 else (
 bif decide (b.2.1=2) then (
 (uv b.2.2.2.2.2.2.2.2.2.1).bind λc=>
 some c)
 else (
 some (0,0))))
def Pf:=Ctx.add Sz 74 [.agg mR] (.tup [.leaf (.int .u64),.leaf (.int .i64)]) q9
theorem Yb:Pf.Sound:=.add (H:=hd [(1000000,[],[1])]) mixed s16 Tryz.func74 λb=>by kernel_rfl
def FA (b:cM×lk×Int):Option ((Int×Int×Int×Int)×Int):=
 (q9 b.2.1).bind λa=>
 bif ((!decide (a.2=0))==false) then (
 (pE b.1).bind λc=>
 bif (!decide (c=0)) then (
 some ((0,0,0,0),1))
 else (
 some ((b.1.1.2.2.2.2.2.2.2,b.2.1.2.1,a.1,b.2.2),0)))
 else (
 some ((0,0,0,0),1))
def PZ:=Ctx.add Pf 36 [.agg (.pair dE gP),.agg mR,.one (.int .u64)] (.tup [.agg [.int .u64,.int .i64,.int .u64,.int .u64],.leaf (.int .i64)]) FA
theorem Zf:PZ.Sound:=.add (H:=hd [(1000000,[],[3,4])]) mixed Yb Tryz.func36 λb=>by kernel_rfl
def AD (b:List dC×Int):Option (Int×Int):=
 (tH b).bind λa=>
 bif (!decide (a.2=0)) then (
 some (0,a.2))
 else (
 bif ae a.1 b.1.length then
 some ((rd cQ b.1 a.1).2.1,0)
 else none)
def PT:=Ctx.add PZ 37 [.one (.slice 198 cQ),.one (.int .u64)] (.tup [.leaf (.int .u64),.leaf (.int .i64)]) AD
theorem YY:PT.Sound:=.add (H:=hd []) mixed Zf Tryz.func37 λb=>by kernel_rfl
def xy (b:List Int):Option Bool:=
 some (decide (4096<(b.length:Int)))
def SY:=Ctx.add PT 131 [.one aY] (.one (.leaf (.bool))) xy
theorem acg:SY.Sound:=.add (H:=hd []) mixed YY Tryz.func131 λb=>by kernel_rfl
def F2 (b:List (List Int)×Unit):Option Int:=
 aD (λ(c:(Int×Int)->Option Int) (a:Int×Int)=>
  bif decide (a.2<(b.1.length:Int)) then (
  bif ae a.2 b.1.length then
  (xy (rd aY b.1 a.2)).bind λd=>
  bif d then (
  some a.2)
  else (
  c (a.1,(IntKind.wrap .i64 (a.2+1))))
  else none)
  else (
  some (-1))) (0,0)
def Tp:=Ctx.add SY 107 [.one (.slice 49 aY),.fn 131] (.one (.leaf (.int .i64))) F2
theorem acH:Tp.Sound:=.add (H:=hd [(2,[.data 4 (.int .i64),.data 8 (.int .i64)],[])]) mixed acg Tryz.func107 λb=>by kernel_rfl
def Am (b:List (List Int)×Unit):Option Bool:=
 (F2 (b.1,())).bind λa=>
 some (decide (0<=a))
def Pu:=Ctx.add Tp 58 [.one (.slice 49 aY),.fn 131] (.one (.leaf (.bool))) Am
theorem Yr:Pu.Sound:=.add (H:=hd []) mixed acH Tryz.func58 λb=>by kernel_rfl
def Ah (b:List bZ×Int×List Int×List (List Int)):Option (Int×Int):=
 (uu b.1).bind λc=>
 bif (!decide (c.2=0)) then (
 some (0,c.2))
 else (
 (xy b.2.2.1).bind λg=>
 bif (g==false) then (
 (Am (b.2.2.2,())).bind λh=>
 bif h then (
 some (0,4))
 else (
 aD (λ(d:(OG)->Option (Int×Int)) (a:OG)=>let e:=rd aY b.2.2.2 a.2.2;let f:Option (Int×Int):=bif (!a.2.1) then (some (0,5)) else (some (a.1,0));
  bif decide (a.2.2<(b.2.2.2.length:Int)) then (
  bif ae a.2.2 b.2.2.2.length then
  bif (!a.2.1) then f
  else (
  d ((cC mQ (.int .i64) 0 c.1 (0,a.1,e)),(dv mQ (.int .i64) c.1 (0,a.1,e)),(IntKind.wrap .i64 (a.2.2+1))))
  else none)
  else f) ((cC mQ (.int .i64) 0 c.1 (b.2.1,(-1),b.2.2.1)),(dv mQ (.int .i64) c.1 (b.2.1,(-1),b.2.2.1)),0)))
 else (
 some (0,4)))
def Pc:=Ctx.add Pu 78 [.agg (.slice 286 eB),.one (.int .u64),.one aY,.one (.slice 49 aY)] (.tup [.leaf (.int .i64),.leaf (.int .i64)]) Ah
theorem X7:Pc.Sound:=.add (H:=hd [(9,[.data 13 (.int .i64),.data 14 .bool,.data 44 (.int .i64)],[]),(1000000,[],[4])]) mixed Yr Tryz.func78 λb=>by kernel_rfl
def wN (b:List bZ×Int×cD):Option (Bool×Int):=
 (mS b.2.2).bind λc=>
 bif ((!decide (c=0))==false) then (
 (tG b.1).bind λd=>
 bif (!decide (d=0)) then (
 some (false,1))
 else (
 (cm ([b.2.2.1])).bind λe=>
 (wG b.2.2).bind λf=>
 (Ah (b.1,b.2.1,e,f)).bind λa=>
 some ((bif decide (a.2=0) then decide (a.1=b.2.2.2.2) else false),0)))
 else (
 some (false,1))
def PJ:=Ctx.add Pc 39 [.agg (.slice 286 eB),.one (.int .u64),.agg iq] (.tup [.leaf (.bool),.leaf (.int .i64)]) wN
theorem YK:PJ.Sound:=.add (H:=hd [(1000000,[],[3,5]),(5000003,[],[0,0,0,0,0,0,4,4,8,8,16,16,0,0,96,64,163,163,256,256,512,512,512,512,2047,1024,8191,2048])]) mixed X7 Tryz.func39 λb=>by kernel_rfl
def wF (b:D1):Option Bool:=
 bif ((bif decide (0<=b.2.1) then decide (b.2.1<16) else false)==true) then (
 (fu ([b.2.2.1])).bind λa=>
 some (decide (a=0)))
 else (
 some false)
def O8:=Ctx.add PJ 81 [.agg Y2] (.one (.leaf (.bool))) wF
theorem X4:O8.Sound:=.add (H:=hd [(1000000,[],[1])]) mixed YK Tryz.func81 λb=>by kernel_rfl
def Ag (b:D9×D1):Option (Bool×Int):=
 let a:Option (Bool×Int):=some (decide (b.2.2.2.1<=b.1.2.1),0);(mV b.1).bind λc=>
 bif ((!decide (c=0))==false) then (
 (wF b.2).bind λd=>
 bif (!d) then (
 some (false,1))
 else (
 bif decide (b.1.1=1) then (
 some (decide (b.2.1<=b.1.2.1),0))
 else (
 bif decide (b.1.1=2) then (
 bif decide (0<=b.2.2.1) then
 some (decide ((df .and .u64 (b.1.2.1 / 2^ (min b.2.2.1.toNat 64)) 1)=1),0)
 else none)
 else (
 bif decide (b.1.1=3) then a
 else (
 bif decide (b.1.1=4) then a
 else (
 bif decide (b.1.1=5) then (
 some (decide (b.2.2.2.2=b.1.2.1),0))
 else (
 some (false,0))))))))
 else (
 some (false,1))
def O7:=Ctx.add O8 82 [.agg Y1,.agg Y2] (.tup [.leaf (.bool),.leaf (.int .i64)]) Ag
theorem X3:O7.Sound:=.add (H:=hd [(1000000,[],[2,3])]) mixed X4 Tryz.func82 λb=>by kernel_rfl
def wM (b:List D9×D1):Option (Bool×Int):=
 bif (decide (16<(b.1.length:Int))==false) then (
 (wF b.2).bind λf=>
 bif (!f) then (
 some (false,1))
 else (
 aD (λ(a:(OF)->Option (Bool×Int)) (c:OF)=>let d:=c.2.2.2;
  bif decide (d<(b.1.length:Int)) then (
  bif ae d b.1.length then
  (Ag ((rd Y1 b.1 d),b.2)).bind λe=>
  bif (!decide (e.2=0)) then (
  some (false,e.2))
  else (
  a (c.1,c.2.1,(bif c.2.2.1 then e.1 else false),(IntKind.wrap .i64 (d+1))))
  else none)
  else (
  some (c.2.2.1,0))) (false,0,true,0)))
 else (
 some (false,1))
def PI:=Ctx.add O7 41 [.one (.slice 149 Y1),.agg Y2] (.tup [.leaf (.bool),.leaf (.int .i64)]) wM
theorem YI:PI.Sound:=.add (H:=hd [(5,[.data 4 .bool,.data 5 (.int .i64),.data 6 .bool,.data 21 (.int .i64)],[]),(1000000,[],[3]),(1000006,[],[8])]) mixed X3 Tryz.func41 λb=>by kernel_rfl
def xw (b:List D9):Option ((List (Int×Int))×Int):=
 bif decide (16<(b.length:Int)) then (
 some (([]:List (Int×Int)),1))
 else (
 aD (λ(a:(D6)->Option ((List (Int×Int))×Int)) (c:D6)=>let e:=c.2.2;let f:=IntKind.wrap .i64 (c.2.1+1);let d:=rd Y1 b c.2.1;
  bif decide (c.2.1<(b.length:Int)) then (
  bif ae c.2.1 b.length then
  (mV d).bind λg=>
  bif (!decide (g=0)) then (
  some (([]:List (Int×Int)),g))
  else (
  bif (!decide (d.1=4)) then (
  a (c.1,f,e))
  else (
  bif (bif (!(dv (.int .u64) (.int .u64) e d.2.2)) then true else decide (d.2.1<(cC (.int .u64) (.int .u64) 0 e d.2.2))) then (
  a (c.1,f,(bK (.int .u64) (.int .u64) e d.2.2 d.2.1)))
  else (
  a (c.1,f,e))))
  else none)
  else (
  some (e,0))) (0,0,([]:List (Int×Int))))
def SS:=Ctx.add PI 134 [.one (.slice 149 Y1)] (.tup [.leaf (.mp ⟨(.int .u64),(.int .u64),true⟩),.leaf (.int .i64)]) xw
theorem acd:SS.Sound:=.add (H:=hd [(5,[.data 3 (.int .i64),.data 16 (.int .i64),.mpk 53248 ⟨(.int .u64),(.int .u64),true⟩],[]),(1000000,[],[2]),(1000002,[],[2]),(1000006,[],[6]),(1000009,[],[2]),(1000015,[],[2])]) mixed YI Tryz.func134 λb=>by kernel_rfl
def Bn (b:List D9×D9×Unit):Option (Int×Bool):=
 aD (λ(c:(Int×Int)->Option (Int×Bool)) (a:Int×Int)=>let d:=IntKind.wrap .i64 ((IntKind.wrap .u64 (IntKind.wrap .i64 (a.1+a.2))) / 2^ (min (1:Int).toNat 64));
  bif decide (a.1<a.2) then (
  bif ae d b.1.length then
  (rC ((rd bY b.1 d),b.2.1)).bind λe=>
  bif decide (e<0) then (
  c ((IntKind.wrap .i64 (d+1)),a.2))
  else (
  c (a.1,d))
  else none)
  else (
  bif (decide (a.1<(b.1.length:Int))==true) then (
  bif ae a.1 b.1.length then
  (rC ((rd bY b.1 a.1),b.2.1)).bind λf=>
  some (a.1,decide (f=0))
  else none)
  else (
  (λo=>aj o o) (
  some (a.1,false))))) (0,(b.1.length:Int))
def R5:=Ctx.add SS 187 [.one (.slice 291 bY),.agg bY,.fn 178] (.tup [.leaf (.int .i64),.leaf (.bool)]) Bn
theorem abx:R5.Sound:=.add (H:=hd [(3,[.data 9 (.int .i64),.data 10 (.int .i64)],[16384]),(5000005,[],[0,0,0,0,0,0,6,6,8,8,0,0,49,49,64,64]),(5000008,[],[0,0,0,0,0,0,6,6,8,8,16,16,16,16,16,16,208,208,272,272,16,16,1584,1584,2064,2064,4112,4112,2049,1,32767,8192])]) mixed acd Tryz.func187 λb=>by kernel_rfl
def rI (b:List D9×Int×Int):Option (Int×Int×Bool):=
 (Bn (b.1,(b.2.1,b.2.2,0),())).bind λa=>
 bif (!a.2) then (
 some (0,a.1,false))
 else (
 bif ae a.1 b.1.length then
 some ((rd bY b.1 a.1).2.2,a.1,true)
 else none)
def Hg:=Ctx.add R5 135 [.one (.slice 291 bY),.one (.int .u64),.one (.int .u64)] (.tup [.leaf (.int .u64),.leaf (.int .i64),.leaf (.bool)]) rI
theorem acb:Hg.Sound:=.add (H:=hd []) mixed abx Tryz.func135 λb=>by kernel_rfl
def O6:=Ctx.addI Hg 83 (hd [(6,[.data 9 (.int .i64),.iterk 163840 ⟨(.int .u64),(.int .u64),true⟩,.mpk 155648 ⟨(.int .u64),(.int .u64),true⟩],[139264,9000083])]) 9000083 Tryz.f83
theorem X2:O6.Sound:=Ctx.Sound.addI (C:=Hg) mixed acb Tryz.func83
def wL (b:List D9×Int×List D9×Int):Option (Bool×Int):=
 (xw b.2.2.1).bind λf=>
 bif ((!decide (f.2=0))==false) then (
 (uy b.1).bind λg=>
 bif ((!decide (g=0))==false) then (
 (fu ([b.2.2.2])).bind λh=>
 bif (!decide (h=0)) then (
 some (false,1))
 else (
 aD (λ(a:(uB)->Option (Bool×Int)) (c:uB)=>
  bif c.2.1.isEmpty then (
  some (true,0))
  else (
  jf c.2.1 (λ(d:Int×Int) (i:List (Int×Int))=>
   (rI (b.1,b.2.1,d.1)).bind λj=>
   (jW ([j.1,b.2.2.2])).bind λe=>
   bif (bif (!decide (e.2=0)) then true else decide (d.2<e.1)) then (
   some (false,0))
   else (
   a (c.1,i,(bK (.int .u64) (.int .u64) c.2.2 d.1 e.1)))))) (0,f.1,([]:List (Int×Int)))))
 else (
 some (false,1)))
 else (
 some (false,1))
def Gs:=Ctx.add O6 43 [.one (.slice 291 bY),.one (.int .u64),.one (.slice 149 Y1),.one (.int .u64)] (.tup [.leaf (.bool),.leaf (.int .i64)]) wL
theorem YG:Gs.Sound:=.add (H:=hd []) mixed X2 Tryz.func43 λb=>by kernel_rfl
def Gw:=Ctx.addI Gs 38 (hd []) 9000038 Tryz.f38
theorem YO:Gw.Sound:=Ctx.Sound.addI (C:=Gs) mixed YG Tryz.func38
def Gt:=Ctx.addI Gw 40 (hd []) 9000040 Tryz.f40
theorem YJ:Gt.Sound:=Ctx.Sound.addI (C:=Gw) mixed YO Tryz.func40
def PH:=Ctx.addI Gt 42 (hd []) 9000042 Tryz.f42
theorem YH:PH.Sound:=Ctx.Sound.addI (C:=Gt) mixed YJ Tryz.func42
def rG (b:cM×lk×Int):Option (Bool×Int):=
 let c:=b.2.1.2.2.2.1;let d:=b.2.1.2.2.2.2.1;(FA b).bind λa=>
 bif (!decide (a.2=0)) then (
 some (false,a.2))
 else (
 (AD (b.1.2.2.1,c)).bind λh=>
 bif (!decide (h.2=0)) then (
 some (false,0))
 else (
 bif ae 0 3 then
 (wN (b.1.2.1,h.1,c,d,b.2.1.2.2.2.2.2.1)).bind λe=>
 bif (bif (!decide (e.2=0)) then true else (!e.1)) then (
 some (false,e.2))
 else (
 bif ae 1 3 then
 (wM (d,a.1)).bind λf=>
 bif (bif (!decide (f.2=0)) then true else (!f.1)) then (
 some (false,f.2))
 else (
 bif ae 2 3 then
 (wL (b.1.2.2.2.2,c,d,a.1.2.2.1)).bind λg=>
 bif (bif (!decide (g.2=0)) then true else (!g.1)) then (
 some (false,g.2))
 else (
 some (true,0))
 else none)
 else none)
 else none))
def Sn:=Ctx.add PH 17 [.agg (.pair dE gP),.agg mR,.one (.int .u64)] (.tup [.leaf (.bool),.leaf (.int .i64)]) rG
theorem s17:Sn.Sound:=.add (H:=hd [(1000009,[],[12]),(10000008,[],[4])]) mixed YH Tryz.func17 λb=>by kernel_rfl
def wZ (b:bq):Option Bool:=
 some (bif decide (b.1=1) then true else decide (b.1=4))
def QA:=Ctx.add Sn 303 [.agg cP] (.one (.leaf (.bool))) wZ
theorem Z4:QA.Sound:=.add (H:=hd [(1000000,[],[1])]) mixed s17 Tryz.func303 λb=>by kernel_rfl
def AP (b:List bq×Unit):Option Int:=
 aD (λ(c:(Int×Int)->Option Int) (a:Int×Int)=>
  bif decide (a.2<(b.1.length:Int)) then (
  bif ae a.2 b.1.length then
  (wZ (rd cP b.1 a.2)).bind λd=>
  bif d then (
  some a.2)
  else (
  c (a.1,(IntKind.wrap .i64 (a.2+1))))
  else none)
  else (
  some (-1))) (0,0)
def GM:=Ctx.add QA 331 [.one (.slice 125 cP),.fn 303] (.one (.leaf (.int .i64))) AP
theorem ZD:GM.Sound:=.add (H:=hd [(2,[.data 4 (.int .i64),.data 8 (.int .i64)],[])]) mixed Z4 Tryz.func331 λb=>by kernel_rfl
def QB:=Ctx.addI GM 302 (hd [(5,[.data 5 (.int .i64),.data 6 (.int .i64),.rowk 57344 125 cP],[9000302]),(4000000,[],[77,82])]) 9000302 Tryz.f302
theorem Z5:QB.Sound:=Ctx.Sound.addI (C:=GM) mixed ZD Tryz.func302
def xf (b:lk):Option (List Int×Int):=
 (pD b).bind λh=>
 bif (!decide (h=0)) then (
 some ([],h))
 else (
 (re b).bind λe=>
 bif (!decide (e.2=0)) then (
 some ([],e.2))
 else (
 (AP (e.1,())).bind λf=>
 bif decide (f=(-1)) then (
 (om e.1).bind λk=>
 some k)
 else (
 aD (λ(d:(OR)->Option (List Int×Int)) (a:OR)=>let i:=IntKind.wrap .i64 (a.2.1+1);let c:=a.2.2;let g:=c.length - a.1.toNat;let j:=a.2.2.take a.1.toNat++ (List.replicate g (0,[]):List bq)++a.2.2.drop (a.1.toNat+g);
  bif decide (a.2.1<(c.length:Int)) then (
  bif ae a.2.1 c.length then
  (wZ (rd cP c a.2.1)).bind λl=>
  bif (!l) then (
  bif ae a.1 c.length then
  d ((IntKind.wrap .i64 (a.1+1)),i,(a.2.2.set a.1.toNat (rd cP c a.2.1)))
  else none)
  else (
  d (a.1,i,c))
  else none)
  else (
  bif ae a.1 (c.length+1) then
  bif decide (a.1.toNat+g<=c.length) then
  bif ae a.1 (j.length+1) then
  (om (j.take a.1.toNat)).bind λm=>
  some m
  else none
  else none
  else none)) (f,(IntKind.wrap .i64 (f+1)),e.1))))
def Q6:=Ctx.add QB 260 [.agg mR] (.tup [.leaf (.fresh 5 (.int .u8)),.leaf (.int .i64)]) xf
theorem aaF:Q6.Sound:=.add (H:=hd [(1000000,[],[1])]) mixed Z5 Tryz.func260 λb=>by kernel_rfl
def AO (b:List D0×Int×Unit):Option (Int×Bool):=
 aD (λ(c:(Int×Int)->Option (Int×Bool)) (a:Int×Int)=>let d:=IntKind.wrap .i64 ((IntKind.wrap .u64 (IntKind.wrap .i64 (a.1+a.2))) / 2^ (min (1:Int).toNat 64));
  bif decide (a.1<a.2) then (
  bif ae d b.1.length then
  (rD ((rd bA b.1 d),b.2.1)).bind λe=>
  bif decide (e<0) then (
  c ((IntKind.wrap .i64 (d+1)),a.2))
  else (
  c (a.1,d))
  else none)
  else (
  bif (decide (a.1<(b.1.length:Int))==true) then (
  bif ae a.1 b.1.length then
  (rD ((rd bA b.1 a.1),b.2.1)).bind λf=>
  some (a.1,decide (f=0))
  else none)
  else (
  some (a.1,false)))) (0,(b.1.length:Int))
def Qa:=Ctx.add Q6 333 [.one (.slice 169 bA),.one (.int .u64),.fn 177] (.tup [.leaf (.int .i64),.leaf (.bool)]) AO
theorem ZB:Qa.Sound:=.add (H:=hd [(3,[.data 9 (.int .i64),.data 10 (.int .i64)],[])]) mixed aaF Tryz.func333 λb=>by kernel_rfl
def wY (b:List D0×Int×Int):Option (List D0×Int×Bool×Int):=
 (tP (b.1,b.2.2)).bind λa=>
 bif (!decide (a.2=0)) then (
 some ([],0,false,a.2))
 else (
 (AO (a.1,b.2.1,())).bind λc=>
 some (a.1,c.1,c.2,0))
def Qz:=Ctx.add Qa 304 [.one (.slice 169 bA),.one (.int .u64),.one (.int .u64)] (.tup [.leaf (.fresh 169 bA),.leaf (.int .i64),.leaf (.bool),.leaf (.int .i64)]) wY
theorem Z3:Qz.Sound:=.add (H:=hd []) mixed ZB Tryz.func304 λb=>by kernel_rfl
def xe (b:List D0×Int×List Int×Int):Option (List Int×Int):=
 (wY (b.1,b.2.1,b.2.2.2)).bind λa=>let c:=rd bA a.1 a.2.1;
 bif (!decide (a.2.2.2=0)) then (
 some ([],a.2.2.2))
 else (
 bif (!a.2.2.1) then (
 some ([],5))
 else (
 bif ae a.2.1 a.1.length then
 (jr (c.2.1,b.2.2.1)).bind λd=>
 bif (!d) then (
 some ([],12))
 else (
 bif ae a.2.1 a.1.length then
 some (c.2.2.1,0)
 else none)
 else none))
def Q5:=Ctx.add Qz 261 [.one (.slice 169 bA),.one (.int .u64),.one aY,.one (.int .u64)] (.tup [.leaf (.sl 5 (.int .u8)),.leaf (.int .i64)]) xe
theorem aaE:Q5.Sound:=.add (H:=hd []) mixed Z3 Tryz.func261 λb=>by kernel_rfl
def Qy:Ctx:=Ctx.addIns Q5 305 291 bY
theorem Z2:Qy.Sound:=rZ ajV ajA ak2 (t:=bY) (x0:=Ty.dflt bY) (by kernel_rfl) aaE rfl
def rm (b:List D9×Int×List D9×Int):Option (List D9×Int):=
 (xw b.2.2.1).bind λk=>
 bif ((!decide (k.2=0))==false) then (
 (uy b.1).bind λp=>
 bif ((!decide (p=0))==false) then (
 (fu ([b.2.2.2])).bind λq=>
 bif (!decide (q=0)) then (
 some ([],1))
 else (
 aD (λ(g:(uB)->Option (List D9×Int)) (h:uB)=>
  bif h.2.1.isEmpty then (
  (ug b.1).bind λl=>
  bif decide (b.2.2.2=0) then (
  some (l,0))
  else (
  aD (λ(d:(xG)->Option (List D9×Int)) (a:xG)=>
   bif a.2.isEmpty then (
   bif decide (128<(a.1.length:Int)) then (
   some ([],7))
   else (
   some (a.1,0)))
   else (
   jf a.2 (λ(f:Int×Int) (m:List (Int×Int))=>
    (rI (a.1,b.2.1,f.1)).bind λn=>let c:=n.2.1;let o:=rd bY (de a.1 c.toNat (b.2.1,f.1,0)) c;
    bif (!n.2.2) then (
    bif (ae c (a.1.length+1) && decide ((a.1.length+1)*24<=az)) then
    bif ae c (de a.1 c.toNat (b.2.1,f.1,0)).length then
    d (((de a.1 c.toNat (b.2.1,f.1,0)).set c.toNat (o.1,o.2.1,f.2)),m)
    else none
    else none)
    else (
    bif ae c a.1.length then
    d ((a.1.set c.toNat ((rd bY a.1 c).1,(rd bY a.1 c).2.1,f.2)),m)
    else none)))) (l,h.2.2)))
 else (
  jf h.2.1 (λ(i:Int×Int) (r:List (Int×Int))=>
   (rI (b.1,b.2.1,i.1)).bind λj=>
   (jW ([j.1,b.2.2.2])).bind λe=>
   bif (bif (!decide (e.2=0)) then true else decide (i.2<e.1)) then (
   some ([],8))
   else (
   g (h.1,r,(bK (.int .u64) (.int .u64) h.2.2 i.1 e.1)))))) (0,k.1,([]:List (Int×Int)))))
 else (
 some ([],1)))
 else (
 some ([],1))
def Q2:=Ctx.add Qy 262 [.one (.slice 291 bY),.one (.int .u64),.one (.slice 149 Y1),.one (.int .u64)] (.tup [.leaf (.fresh 291 bY),.leaf (.int .i64)]) rm
theorem aaD:Q2.Sound:=.add (H:=hd [(8,[.row 0 2056 291 bY,.iterk 139264 ⟨(.int .u64),(.int .u64),true⟩],[])]) mixed Z2 Tryz.func262 λb=>by kernel_rfl
end
end Go.Proofs.YtkihadlgknhpkaaGreatDoor.T
