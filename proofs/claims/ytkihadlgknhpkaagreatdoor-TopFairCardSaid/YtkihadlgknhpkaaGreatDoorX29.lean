/- Part 29: lemmas that the last text needs. -/
import Derived.Test.YtkihadlgknhpkaaGreatDoorX22
import Derived.Test.YtkihadlgknhpkaaGreatDoorX17
import Derived.Test.YtkihadlgknhpkaaGreatDoorX28
set_option linter.all false
set_option autoImplicit true
set_option relaxedAutoImplicit true
namespace Go.Proofs.YtkihadlgknhpkaaGreatDoor.T
set_option maxRecDepth 100000
open Go Go.Fw Go.Proofs
noncomputable section
def GA:Ctx:=Ctx.addX C_ 354 HJ
theorem Zi:GA.Sound:=Ctx.Sound.addX (C:=C_) s_ (aiQ (fn:=Tryz.f354) Tryz.func354 (by kernel_rfl) (by kernel_rfl) (by kernel_rfl) (by kernel_rfl) rfl)
def Gu:Ctx:=Ctx.addX GA 385 Jh
theorem YL:Gu.Sound:=Ctx.Sound.addX (C:=GA) Zi (akR (fn:=Tryz.f385) Tryz.func385 (by kernel_rfl) (by kernel_rfl) (by kernel_rfl) (by kernel_rfl))
abbrev Kr:List ATy:= [.agg tC]
abbrev KZ:RT:=(.one (.leaf (.int .i64)))
def rF (b:jY):Option Int:=some (jG b)
def Sj:Ctx:=Ctx.add Gu 172 Kr KZ rF
theorem abL:Sj.Sound:=Ctx.Sound.of (C:=Gu) (f:=172) (ts:=Kr) (r:=KZ) (F:=rF) YL λb q h=>adR _ b q h
def Ow (b:Unit):Option (Int×List D1):=
 some (1,[])
def SL:=Ctx.add Sj 150 [] (.one (.agg [.int .u64,.fresh 215 Y2])) Ow
theorem ab8:SL.Sound:=.add (H:=hd []) mixed abL Tryz.func150 λb=>by kernel_rfl
def tF (b:Unit):Option (List D2× (List (Int×Int))×List D1×List D3×Int×List D1×Int×Int):=
 (Ow ()).bind λa=>
 some ([],[],[],[],a.1,a.2,1,0)
def O2:=Ctx.add SL 93 [] (.one (.agg [.fresh 64 Y8,.fresh 279 Y9,.fresh 345 bH,.fresh 323 bF,.int .u64,.fresh 215 Y2,.int .u64,.int .u64])) tF
theorem XX:O2.Sound:=.add (H:=hd []) mixed ab8 Tryz.func93 λb=>by kernel_rfl
def pN (b:List Int):Option Int:=
 bif decide ((b.length:Int) <1) then (
 none)
 else (
 bif ae 0 b.length then
 aD (λ(c:(Int×Int)->Option Int) (a:Int×Int)=>let d:=rd (.int .u64) b a.2;
  bif decide (a.2<(b.length:Int)) then (
  bif ae a.2 b.length then
  c ((if a.1<d then d else a.1),(IntKind.wrap .i64 (a.2+1)))
  else none)
  else (
  some a.1)) ((rd (.int .u64) b 0),1)
 else none)
def Tv:=Ctx.add O2 103 [.one gC] (.one (.leaf (.int .u64))) pN
theorem acM:Tv.Sound:=.add (H:=hd [(5,[.data 3 (.int .u64),.data 4 (.int .i64)],[])]) mixed XX Tryz.func103 λb=>by kernel_rfl
def fu (b:List Int):Option Int:=
 bif (decide (0<(b.length:Int))==true) then (
 (pN b).bind λa=>
 bif decide (4611686018427387904<a) then (
 some 1)
 else (
 some 0))
 else (
 some 0)
def B0:=Ctx.add Tv 53 [.one gC] (.one (.leaf (.int .i64))) fu
theorem Yx:B0.Sound:=.add (H:=hd []) mixed acM Tryz.func53 λb=>by kernel_rfl
theorem aep (b:Int):iC B0 NG Tryz.f169 (encs yY b) (RT.dec zk)=pK b:=by kernel_rfl
def B7:Ctx:=Ctx.add B0 169 yY zk pK
theorem abO:B7.Sound:=Ctx.Sound.add (C:=B0) mixed Yx Tryz.func169 aep
theorem aeq (b:Int×Int):iC B7 NH Tryz.f104 (encs yZ b) (RT.dec zl)=gY b:=by kernel_rfl
def Tu:Ctx:=Ctx.add B7 104 yZ zl gY
theorem acL:Tu.Sound:=Ctx.Sound.add (C:=B7) mixed abO Tryz.func104 aeq
def rf (b:(Int×Int)×Int):Option Int:=
 (gY (b.1.1,b.2)).bind λa=>
 some a
def Pz:=Ctx.add Tu 54 [.agg Y0,.one (.int .u64)] (.one (.leaf (.int .i64))) rf
theorem Yw:Pz.Sound:=.add (H:=hd [(1000000,[],[2])]) mixed acL Tryz.func54 λb=>by kernel_rfl
def jW (b:List Int):Option (Int×Int):=
 (fu b).bind λd=>
 bif (!decide (d=0)) then (
 some (0,d))
 else (
 aD (λ(c:(D4)->Option (Int×Int)) (a:D4)=>let e:=IntKind.wrap .u64 (a.1+ (rd (.int .u64) b a.2.2));
  bif decide (a.2.2<(b.length:Int)) then (
  bif ae a.2.2 b.length then
  bif decide (4611686018427387904<e) then (
  some (0,8))
  else (
  c (e,a.2.1,(IntKind.wrap .i64 (a.2.2+1))))
  else none)
  else (
  some (a.1,0))) (0,d,0))
def Py:=Ctx.add Pz 55 [.one gC] (.tup [.leaf (.int .u64),.leaf (.int .i64)]) jW
theorem Yv:Py.Sound:=.add (H:=hd [(5,[.data 2 (.int .u64),.data 3 (.int .i64),.data 13 (.int .i64)],[])]) mixed Yw Tryz.func55 λb=>by kernel_rfl
def pG (b:D2):Option (Int×Int×Int):=
 let i:=b.2.2.2.2.1;let e:Option (Int×Int×Int):=some (0,0,1);let f:=b.2.2.2.2.2.1;let j:Int:=f.length;(fu ([b.2.2.2.1,i])).bind λp=>
 bif ((bif (!decide (p=0)) then true else decide (64<j))==false) then (
 bif (bif (!b.2.2.2.2.2.2) then decide (0<j) else false) then (
 some (0,0,1))
 else (
 aD (λ(a:(D5)->Option (Int×Int×Int)) (c:D5)=>let d:=c.2.2.2;let l:=IntKind.wrap .i64 (d+1);let m:=IntKind.wrap .i64 (d - 1);let k:=rd Y0 f d;let n:=jW ([c.1,k.2]);
 bif decide (d<j) then (
 bif ae d f.length then
 bif (decide (k.2=0)==false) then (
 bif (decide (0<d)==true) then (
 bif ae m f.length then
 (rf ((rd Y0 f m),k.1)).bind λq=>
 bif decide (0<=q) then e
 else (
 n.bind λg=>
 bif (bif (!decide (g.2=0)) then true else decide (i<g.1)) then e
 else (
 a (g.1,c.2.1,g.2,l)))
 else none)
 else (
 n.bind λh=>
 bif (bif (!decide (h.2=0)) then true else decide (i<h.1)) then e
 else (
 a (h.1,c.2.1,h.2,l))))
 else e
 else none)
 else (
 (jW ([c.1,b.2.1,b.2.2.1])).bind λo=>
 bif (!decide (o.2=0)) then e
 else (
 some (c.1,o.1,0)))) (0,0,0,0)))
 else (
 some (0,0,1))
def Q9:=Ctx.add Py 25 [.agg Y8] (.tup [.leaf (.int .u64),.leaf (.int .u64),.leaf (.int .i64)]) pG
theorem s25:Q9.Sound:=.add (H:=hd [(4,[.data 2 (.int .u64),.data 3 (.int .u64),.data 4 (.int .i64),.data 34 (.int .i64)],[45056]),(1000000,[],[1]),(1000005,[],[6]),(5000006,[],[0,0,1,1,2,2,4,4,8,8,24,24,40,40,64,64,192,192,64,64,576,576,1344,1344,2112,2112,64,64,8256,8256,20544,20544,32832,32832,65608,65608,131080,131080])]) mixed Yv Tryz.func25 λb=>by kernel_rfl
def mb (b:D2):Option (Int×Int):=
 (pG b).bind λa=>
 some a.2
def TA:=Ctx.add Q9 10 [.agg Y8] (.tup [.leaf (.int .u64),.leaf (.int .i64)]) mb
theorem s10:TA.Sound:=.add (H:=hd [(1000000,[],[1])]) mixed s25 Tryz.func10 λb=>by kernel_rfl
def rk (b:D2×Int):Option Int:=
 (gY (b.1.1,b.2)).bind λa=>
 some a
def QO:=Ctx.add TA 280 [.agg Y8,.one (.int .u64)] (.one (.leaf (.int .i64))) rk
theorem aal:QO.Sound:=.add (H:=hd [(1000000,[],[2])]) mixed s10 Tryz.func280 λb=>by kernel_rfl
def xi (b:List D2):Option ((List (Int×Int))×Int):=
 let j:Option ((List (Int×Int))×Int):=some (([]:List (Int×Int)),1);bif decide (32<(b.length:Int)) then (
 some (([]:List (Int×Int)),1))
 else (
 aD (λ(d:(D7)->Option ((List (Int×Int))×Int)) (g:D7)=>let e:=g.2.2.1;let l:=IntKind.wrap .i64 (e+1);let m:=IntKind.wrap .i64 (e - 1);let k:=rd Y8 b e;let f:=k.2.2.2.2.2.1;
 bif decide (e<(b.length:Int)) then (
 bif ae e b.length then
 (mb k).bind λn=>let o:=jW ([g.2.1,n.1]);
 bif ((!decide (n.2=0))==false) then (
 bif (decide (0<e)==true) then (
 bif ae m b.length then
 (rk ((rd Y8 b m),k.1)).bind λr=>
 bif decide (0<=r) then j
 else (
 o.bind λp=>
 bif (!decide (p.2=0)) then j
 else (
 aD (λ(h:(D6)->Option ((List (Int×Int))×Int)) (a:D6)=>
  bif decide (a.2.1<(f.length:Int)) then (
  bif ae a.2.1 f.length then
  bif (dv (.int .u64) (.int .i64) a.2.2 (rd Y0 f a.2.1).1) then (
  some (([]:List (Int×Int)),1))
  else (
  h (a.1,(IntKind.wrap .i64 (a.2.1+1)),(bK (.int .u64) (.int .i64) a.2.2 (rd Y0 f a.2.1).1 e)))
  else none)
  else (
  d (a.1,p.1,l,a.2.2))) (g.1,0,g.2.2.2)))
 else none)
 else (
 o.bind λq=>
 bif (!decide (q.2=0)) then j
 else (
 aD (λ(i:(D6)->Option ((List (Int×Int))×Int)) (c:D6)=>
  bif decide (c.2.1<(f.length:Int)) then (
  bif ae c.2.1 f.length then
  bif (dv (.int .u64) (.int .i64) c.2.2 (rd Y0 f c.2.1).1) then (
  some (([]:List (Int×Int)),1))
  else (
  i (c.1,(IntKind.wrap .i64 (c.2.1+1)),(bK (.int .u64) (.int .i64) c.2.2 (rd Y0 f c.2.1).1 e)))
  else none)
  else (
  d (c.1,q.1,l,c.2.2))) (g.1,0,g.2.2.2))))
 else j
 else none)
 else (
 some (g.2.2.2,0))) (0,0,0,([]:List (Int×Int))))
def Rj:=Ctx.add QO 235 [.one (.slice 64 Y8)] (.tup [.leaf (.mp ⟨(.int .u64),(.int .i64),true⟩),.leaf (.int .i64)]) xi
theorem aaQ:Rj.Sound:=.add (H:=hd [(5,[.data 3 (.int .i64),.data 5 (.int .u64),.data 20 (.int .i64),.mpk 69632 ⟨(.int .u64),(.int .i64),true⟩],[]),(14,[.data 3 (.int .i64),.data 59 (.int .i64),.mpk 69632 ⟨(.int .u64),(.int .i64),true⟩],[204800]),(1000000,[],[2]),(1000002,[],[2]),(1000006,[],[7]),(1000009,[],[2]),(1000012,[],[2]),(1000015,[],[11]),(1000018,[],[2]),(1000022,[],[2]),(5000008,[],[0,0,1,1,2,2,4,4,12,12,20,20,32,32,32,32,160,160,352,352,544,544,32,32,2080,2080,5152,5152,8224,8224,16420,16420,32772,32772])]) mixed aal Tryz.func235 λb=>by kernel_rfl
def ow (b:List D2):Option Int:=
 (xi b).bind λa=>
 some a.2
def Sm:=Ctx.add Rj 170 [.one (.slice 64 Y8)] (.one (.leaf (.int .i64))) ow
theorem abN:Sm.Sound:=.add (H:=hd []) mixed aaQ Tryz.func170 λb=>by kernel_rfl
def rq (b:D1×Int):Option Int:=
 (gY (b.1.1,b.2)).bind λa=>
 some a
def Ri:=Ctx.add Sm 236 [.agg bH,.one (.int .u64)] (.one (.leaf (.int .i64))) rq
theorem aaP:Ri.Sound:=.add (H:=hd [(1000000,[],[2])]) mixed abN Tryz.func236 λb=>by kernel_rfl
def uf (b:Int):Option Bool:=
 bif (decide (0<b)==true) then (
 (fu ([b])).bind λa=>
 some (decide (a=0)))
 else (
 some false)
def Rh:=Ctx.add Ri 237 [.one (.int .u64)] (.one (.leaf (.bool))) uf
theorem aaO:Rh.Sound:=.add (H:=hd []) mixed aaP Tryz.func237 λb=>by kernel_rfl
def uo (b:List D1):Option Int:=
 bif decide (256<(b.length:Int)) then (
 some 1)
 else (
 aD (λ(c:(Int×Int)->Option Int) (a:Int×Int)=>let f:=IntKind.wrap .i64 (a.2 - 1);let g:Option Int:=c (a.1,(IntKind.wrap .i64 (a.2+1)));let d:=rd bH b a.2;let e:=d.2.2.2;
  bif decide (a.2<(b.length:Int)) then (
  bif ae a.2 b.length then
  bif (decide (0<a.2)==true) then (
  bif ae f b.length then
  (rq ((rd bH b f),d.1)).bind λh=>
  bif (decide (0<=h)==false) then (
  (uf d.2.1).bind λi=>
  bif (bif (bif (!i) then true else decide (e<1)) then true else decide (3<e)) then (
  some 1)
  else g)
  else (
  some 1)
  else none)
  else (
  (uf d.2.1).bind λj=>
  bif (bif (bif (!j) then true else decide (e<1)) then true else decide (3<e)) then (
  some 1)
  else g)
  else none)
  else (
  some 0)) (0,0))
def Sk:=Ctx.add Rh 171 [.one (.slice 345 bH)] (.one (.leaf (.int .i64))) uo
theorem abM:Sk.Sound:=.add (H:=hd [(4,[.data 2 (.int .i64),.data 10 (.int .i64)],[]),(1000005,[],[4]),(5000006,[],[0,0,1,1,2,2,4,4,4,4,20,20,44,44,68,68,4,4,260,260,644,644,1028,1028,2052,2052,5120,4096,8192,8192,24576,24576,40960,40960,73728,73728,139264,139264,327680,262144,524288,524288,1572864,1572864,2621440,2621440,4718592,4718592,8912896,8388608,16777216,16777216,50331648,50331648,83886080,83886080,150994944,150994944])]) mixed aaO Tryz.func171 λb=>by kernel_rfl
def A6 (b:Int):Option Bool:=
 some (bif decide (0<=b) then decide (b<16) else false)
def Rg:=Ctx.add Sk 239 [.one (.int .i64)] (.one (.leaf (.bool))) A6
theorem aaN:Rg.Sound:=.add (H:=hd []) mixed abM Tryz.func239 λb=>by kernel_rfl
def w8 (b:D3):Option Bool:=
 bif (decide (0<b.2.2.2.1)==true) then (
 (fu ([b.2.2.2.1])).bind λa=>
 some (bif (bif decide (a=0) then decide (1<=b.2.2.2.2) else false) then decide (b.2.2.2.2<=3) else false))
 else (
 some false)
def QF:=Ctx.add Rg 292 [.agg bF] (.one (.leaf (.bool))) w8
theorem aaa:QF.Sound:=.add (H:=hd [(1000000,[],[1])]) mixed aaN Tryz.func292 λb=>by kernel_rfl
def ri (b:D3×Int):Option Int:=
 (gY (b.1.1,b.2)).bind λa=>
 some a
def QE:=Ctx.add QF 293 [.agg bF,.one (.int .u64)] (.one (.leaf (.int .i64))) ri
theorem Z9:QE.Sound:=.add (H:=hd [(1000000,[],[2])]) mixed aaa Tryz.func293 λb=>by kernel_rfl
def xh (b:List D3):Option Int:=
 bif decide (256<(b.length:Int)) then (
 some 1)
 else (
 aD (λ(c:(Int×Int)->Option Int) (a:Int×Int)=>let d:=IntKind.wrap .i64 (a.2 - 1);let e:Option Int:=c (a.1,(IntKind.wrap .i64 (a.2+1)));
  bif decide (a.2<(b.length:Int)) then (
  bif ae a.2 b.length then
  (w8 (rd bF b a.2)).bind λf=>
  bif ((!f)==false) then (
  bif (decide (0<a.2)==true) then (
  bif ae d b.length then
  (ri ((rd bF b d),(rd bF b a.2).1)).bind λg=>
  bif decide (0<=g) then (
  some 1)
  else e
  else none)
  else e)
  else (
  some 1)
  else none)
  else (
  some 0)) (0,0))
def Re:=Ctx.add QE 240 [.one (.slice 323 bF)] (.one (.leaf (.int .i64))) xh
theorem aaM:Re.Sound:=.add (H:=hd [(4,[.data 2 (.int .i64),.data 10 (.int .i64)],[]),(1000005,[],[4]),(5000006,[],[0,0,1,1,2,2,6,4,8,8,24,24,40,40,64,64,64,64,320,320,704,704,1088,1088,64,64,4160,4160,10304,10304,16448,16448,32840,32840,65544,65544])]) mixed Z9 Tryz.func240 λb=>by kernel_rfl
def xr (b:List D3×List D2):Option (Bool×Int):=
 (xh b.1).bind λt=>
 bif (bif (!decide (t=0)) then true else decide (32<(b.2.length:Int))) then (
 some (false,1))
 else (
 aD (λ(j:(Gc)->Option (Bool×Int)) (a:Gc)=>let e:=a.2.2.2.1;let f:=rd Y8 b.2 e;let i:=f.2.2.2.2.2.1;let p:=bK (.int .u64) (.int .i64) a.2.2.2.2.1 f.1 (IntKind.wrap .i64 ((cC (.int .u64) (.int .i64) 0 a.2.2.2.2.1 f.1)+1));
  bif decide (e<(b.2.length:Int)) then (
  bif ae e b.2.length then
  bif decide (1<(cC (.int .u64) (.int .i64) 0 p f.1)) then (
  some (false,1))
  else (
  aD (λ(g:(xH)->Option (Bool×Int)) (c:xH)=>let k:=IntKind.wrap .i64 (c.1+1);let q:=IntKind.wrap .i64 (c.2.1+1);let r:=c.2.2.length<=9223372036854775807;let m:=rd Y0 i c.2.1;let n:Int:=mi bY (.int .i64) c.2.2 (f.1,m);let l:=p7 bY (.int .i64) 0 c.2.2 (f.1,m);
   bif decide (c.2.1<(i.length:Int)) then (
   bif ae c.2.1 i.length then
   (aj (
   bif decide r then
   bif ae n l.length then
   g (k,q,(mset bY (.int .i64) l n.toNat (IntKind.wrap .i64 ((cC bY (.int .i64) 0 c.2.2 (f.1,m))+1))))
   else none
   else none) (
   bif decide r then
   bif ae n l.length then
   g (k,q,(mset bY (.int .i64) l n.toNat (IntKind.wrap .i64 ((cC bY (.int .i64) 0 l (f.1,m))+1))))
   else none
   else none))
   else none)
   else (
   j (a.1,a.2.1,c.1,(IntKind.wrap .i64 (e+1)),p,c.2.2))) (a.2.2.1,0,a.2.2.2.2.2))
 else none)
 else (
 aD (λ(h:(D8)->Option (Bool×Int)) (d:D8)=>let s:=IntKind.wrap .i64 (d.2.2.2+1);let o:=rd bF b.1 d.2.2.2;
   bif decide (d.2.2.2<(b.1.length:Int)) then (
   bif ae d.2.2.2 b.1.length then
   bif (!decide (o.2.2.2.2=1)) then (
   h (d.1,d.2.1,d.2.2.1,s))
   else (
   bif decide ((cC bY (.int .i64) 0 a.2.2.2.2.2 (o.2.2.1,o.1,o.2.2.2.1))=0) then (
   some (false,0))
   else (
   h (d.1,d.2.1,(IntKind.wrap .i64 (d.2.2.1 - 1)),s)))
   else none)
   else (
   some (decide (d.2.2.1=0),0))) (a.1,a.2.1,a.2.2.1,0))) (false,0,0,0,([]:List (Int×Int)),([]:List (D9×Int))))
def Si:=Ctx.add Re 173 [.one (.slice 323 bF),.one (.slice 64 Y8)] (.tup [.leaf (.bool),.leaf (.int .i64)]) xr
theorem abK:Si.Sound:=.add (H:=hd [(5,[.data 4 .bool,.data 5 (.int .i64),.data 8 (.int .i64),.data 27 (.int .i64),.mpk 98304 ⟨(.int .u64),(.int .i64),true⟩,.mpk 94208 ⟨bY,(.int .i64),false⟩],[]),(11,[.data 8 (.int .i64),.data 44 (.int .i64),.mpk 94208 ⟨bY,(.int .i64),false⟩],[98304]),(18,[.data 4 .bool,.data 5 (.int .i64),.data 8 (.int .i64),.data 63 (.int .i64)],[98304,94208]),(1000006,[],[10]),(1000012,[],[12]),(1000019,[],[14]),(5000013,[],[0,0,0,0,2,2,0,0,12,12,17,17,32,32,31,17,128,128,511,321])]) mixed aaM Tryz.func173 λb=>by kernel_rfl
def jX (b:aQ):Option Int:=
 let c:=b.2.2.2.2.2.2.1;let a:=b.2.2.2.1;let d:=IntKind.wrap .i64 ((a.length:Int) - 1);(ow b.1).bind λg=>
 bif ((!decide (g=0))==false) then (
 (uo b.2.2.1).bind λh=>
 bif ((!decide (h=0))==false) then (
 (rF (b.2.2.2.2.1,b.2.2.2.2.2.1)).bind λi=>
 bif (bif (bif (bif (!decide (i=0)) then true else decide (32<(b.2.1.length:Int))) then true else decide (c=0)) then true else decide (4611686018427387904<c)) then (
 some 1)
 else (
 bif (decide (0<(a.length:Int))==true) then (
 bif ae d a.length then
 bif decide (c<= (rd bF a d).1) then (
 some 1)
 else (
 (xr (a,b.1)).bind λe=>
 bif (bif (!decide (e.2=0)) then true else (!e.1)) then (
 some 1)
 else (
 some 0))
 else none)
 else (
 (xr (a,b.1)).bind λf=>
 bif (bif (!decide (f.2=0)) then true else (!f.1)) then (
 some 1)
 else (
 some 0))))
 else (
 some 1))
 else (
 some 1)
def Tk:=Ctx.add Si 110 [.agg dE] (.one (.leaf (.int .i64))) jX
theorem acE:Tk.Sound:=.add (H:=hd [(1000000,[],[1]),(5000004,[],[0,0,1,1,2,2,4,4,12,12,4,4,36,36,84,84,132,132,260,260,4,4,1028,1028,2564,2564,4100,4100])]) mixed abK Tryz.func110 λb=>by kernel_rfl
def uj (b:bZ):Option (Int×Int×List Int):=
 some b
def R6:=Ctx.add Tk 186 [.agg eB] (.one (.agg [.int .u64,.int .i64,.str])) uj
theorem aby:R6.Sound:=.add (H:=hd [(1000000,[],[1])]) mixed acE Tryz.func186 λb=>by kernel_rfl
def uu (b:List bZ):Option ((List (bZ×Int))×Int):=
 bif decide (1048576<(b.length:Int)) then (
 some (([]:List (bZ×Int)),1))
 else (
 aD (λ(d:(OT)->Option ((List (bZ×Int))×Int)) (e:OT)=>let c:=e.2.1;let a:=rd eB b c;
  bif decide (c<(b.length:Int)) then (
  bif ae c b.length then
  (uj a).bind λf=>
  bif ((bif (bif (dv mQ (.int .i64) e.2.2 f) then true else decide (a.2.1<(-1))) then true else decide (c<=a.2.1))==false) then (
  bif (bif (bif decide ((-1) <a.2.1) then (!decide (a.1=0)) else false) then true else decide (4096<(a.2.2.length:Int))) then (
  some (([]:List (bZ×Int)),1))
  else (
  (uj a).bind λg=>
  d (e.1,(IntKind.wrap .i64 (c+1)),(bK mQ (.int .i64) e.2.2 g c))))
  else (
  some (([]:List (bZ×Int)),1))
  else none)
  else (
  some (e.2.2,0))) (0,0,([]:List (bZ×Int))))
def SZ:=Ctx.add R6 130 [.agg (.slice 286 eB)] (.tup [.leaf (.mp ⟨mQ,(.int .i64),false⟩),.leaf (.int .i64)]) uu
theorem ach:SZ.Sound:=.add (H:=hd [(5,[.data 3 (.int .i64),.data 17 (.int .i64),.mpk 36864 ⟨mQ,(.int .i64),false⟩],[]),(1000000,[],[2,1]),(1000003,[],[2]),(1000006,[],[6]),(1000009,[],[2]),(1000012,[],[2])]) mixed aby Tryz.func130 λb=>by kernel_rfl
def tG (b:List bZ):Option Int:=
 (uu b).bind λa=>
 some a.2
def Pd:=Ctx.add SZ 77 [.agg (.slice 286 eB)] (.one (.leaf (.int .i64))) tG
theorem X8:Pd.Sound:=.add (H:=hd [(1000000,[],[1])]) mixed ach Tryz.func77 λb=>by kernel_rfl
def rE (b:dC×Int):Option Int:=
 (gY (b.1.1,b.2)).bind λa=>
 some a
def Hd:=Ctx.add Pd 174 [.agg cQ,.one (.int .u64)] (.one (.leaf (.int .i64))) rE
theorem abJ:Hd.Sound:=.add (H:=hd [(1000000,[],[2])]) mixed X8 Tryz.func174 λb=>by kernel_rfl
def G1:=Ctx.addI Hd 242 (hd [(1000000,[],[2])]) 9000242 Tryz.f242
theorem aaK:G1.Sound:=Ctx.Sound.addI (C:=Hd) mixed abJ Tryz.func242
def GO:=Ctx.addI G1 294 (hd [(2,[.data 4 (.int .i64),.data 8 (.int .i64)],[9000294,9000241,12288])]) 9000294 Tryz.f294
theorem Z8:GO.Sound:=Ctx.Sound.addI (C:=G1) mixed aaK Tryz.func294
def Rc:=Ctx.addI GO 241 (hd []) 9000241 Tryz.f241
theorem aaL:Rc.Sound:=Ctx.Sound.addI (C:=GO) mixed Z8 Tryz.func241
def uk (b:List dC×Int):Option Bool:=
 aD (λ(c:(Int×Int)->Option Bool) (a:Int×Int)=>
  bif decide (a.2<(b.1.length:Int)) then (
  bif ae a.2 b.1.length then
  bif decide ((rd cQ b.1 a.2).2.1=b.2) then (
  some (decide (0<=a.2)))
  else (
  c (a.1,(IntKind.wrap .i64 (a.2+1))))
  else none)
  else (
  some false)) (0,0)
def Sh:=Ctx.add Rc 175 [.one (.slice 198 cQ),.one (.int .u64)] (.one (.leaf (.bool))) uk
theorem abI:Sh.Sound:=.add (H:=hd []) mixed aaL Tryz.func175 λb=>by kernel_rfl
def xE (b:List dC):Option Int:=
 bif decide (64<(b.length:Int)) then (
 some 1)
 else (
 aD (λ(c:(Int×Int)->Option Int) (a:Int×Int)=>let d:=IntKind.wrap .i64 (a.2 - 1);let e:Option Int:=c (a.1,(IntKind.wrap .i64 (a.2+1)));let f:=uk (b.take a.2.toNat,(rd cQ b a.2).2.1);
  bif decide (a.2<(b.length:Int)) then (
  bif ae a.2 b.length then
  bif (decide (0<a.2)==true) then (
  bif ae d b.length then
  (rE ((rd cQ b d),(rd cQ b a.2).1)).bind λg=>
  bif (decide (0<=g)==false) then (
  bif ae a.2 (b.length+1) then
  f.bind λh=>
  bif h then (
  some 1)
  else e
  else none)
  else (
  some 1)
  else none)
  else (
  bif ae a.2 (b.length+1) then
  f.bind λi=>
  bif i then (
  some 1)
  else e
  else none)
  else none)
  else (
  some 0)) (0,0))
def Tj:=Ctx.add Sh 111 [.one (.slice 198 cQ)] (.one (.leaf (.int .i64))) xE
theorem acD:Tj.Sound:=.add (H:=hd [(4,[.data 2 (.int .i64),.data 10 (.int .i64)],[]),(1000005,[],[4]),(5000006,[],[0,0,1,1,2,2,4,4,4,4,20,20,44,44,68,68,4,4,260,260,644,644,1028,1028,2052,2052,5120,4096,8192,8192,8192,8192,57344,57344,8192,8192,139264,139264,335872,335872,532480,532480])]) mixed abI Tryz.func111 λb=>by kernel_rfl
def xq (b:D0):Option Bool:=
 let a:Int:=b.2.1.length;let c:Int:=b.2.2.1.length;some (decide ((if a<c then c else a)<=4096))
def Sg:=Ctx.add Tj 176 [.agg bA] (.one (.leaf (.bool))) xq
theorem abH:Sg.Sound:=.add (H:=hd [(1000000,[],[1])]) mixed acD Tryz.func176 λb=>by kernel_rfl
def rD (b:D0×Int):Option Int:=
 (gY (b.1.1,b.2)).bind λa=>
 some a
def Sf:=Ctx.add Sg 177 [.agg bA,.one (.int .u64)] (.one (.leaf (.int .i64))) rD
theorem abG:Sf.Sound:=.add (H:=hd [(1000000,[],[2])]) mixed abH Tryz.func177 λb=>by kernel_rfl
def rJ (b:List D0):Option Int:=
 bif decide (128<(b.length:Int)) then (
 some 1)
 else (
 aD (λ(c:(Int×Int)->Option Int) (a:Int×Int)=>let d:=IntKind.wrap .i64 (a.2 - 1);let e:Option Int:=c (a.1,(IntKind.wrap .i64 (a.2+1)));
  bif decide (a.2<(b.length:Int)) then (
  bif ae a.2 b.length then
  (xq (rd bA b a.2)).bind λf=>
  bif ((!f)==false) then (
  bif (decide (0<a.2)==true) then (
  bif ae d b.length then
  (rD ((rd bA b d),(rd bA b a.2).1)).bind λg=>
  bif decide (0<=g) then (
  some 1)
  else e
  else none)
  else e)
  else (
  some 1)
  else none)
  else (
  some 0)) (0,0))
def Ti:=Ctx.add Sf 112 [.one (.slice 169 bA)] (.one (.leaf (.int .i64))) rJ
theorem acC:Ti.Sound:=.add (H:=hd [(4,[.data 2 (.int .i64),.data 10 (.int .i64)],[]),(1000005,[],[4]),(5000006,[],[0,0,1,1,2,2,6,4,8,8,24,24,40,40,64,64,64,64,320,320,704,704,1088,1088,64,64,4160,4160,10304,10304,16448,16448,32840,32840,65544,65544])]) mixed abG Tryz.func112 λb=>by kernel_rfl
def cg (b:List Int):Option (List Int):=
 let a:Option (List Int):=bif decide ((([]:List Int).length+b.length)*1<=az) then some (([]:List Int)++b) else none;bif b.isEmpty then (
 (aj (
 some []) a))
 else a
def Qt:=Ctx.add Ti 31 [.one aY] (.one (.leaf (.fresh 5 (.int .u8)))) cg
theorem ZX:Qt.Sound:=.add (H:=hd []) mixed acC Tryz.func31 λb=>by kernel_rfl
def wS (b:D0):Option (Int×List Int×List Int×Int):=
 (cg b.2.1).bind λa=>
 (cg b.2.2.1).bind λc=>
 some (b.1,a,c,b.2.2.2)
def mf:=Ctx.add Qt 317 [.agg bA] (.one (.agg [.int .u64,.fresh 5 (.int .u8),.fresh 5 (.int .u8),.int .u64])) wS
theorem Eg:mf.Sound:=.add (H:=hd [(5000001,[],[0,0,1,1,2,2,0,0,8,8,20,16,31,0,127,68,255,0,511,288])]) mixed ZX Tryz.func317 λb=>by kernel_rfl
theorem L2 {l:List Int} (h:l.length<=1000000):cg l=some l:=by
 have k:(0+l.length)*1<=az:=by unfold az;omega
 unfold cg
 cases l with
 |nil=>simp [bC,az]
 |cons a r=>simp only [DF,aa,dy,k,al,ah,fJ,bC]
abbrev Kq:List ATy:= [.one (.slice 169 bA),.one (.int .u64)]
abbrev KY:RT:=(.tup [.leaf (.fresh 169 bA),.leaf (.int .i64)])
def tP (b:List D0×Int):Option (List D0×Int):=(rJ b.1).bind λe=>bif decide (e=0) then (bif decide (b.1.length<=1000) && b.1.all (λx=>decide (x.2.1.length<=4096) && decide (x.2.2.1.length<=4096)) then some (b.1.filter (λx=>decide (b.2<=x.2.2.2)),0) else none) else some ([],e)
def B4:Ctx:=Ctx.add mf 332 Kq KY tP
theorem ZC:B4.Sound:=by
 refine Ctx.Sound.of (C:=mf) (f:=332) (ts:=Kq) (r:=KY) (F:=tP) Eg λb q h=> ?_
 obtain ⟨l,tick⟩:=b;unfold tP at h
 cases i:rJ l with
 |none=>simp only [i,Option.bind_none] at h;cases h
 |some e=>
  simp only [i,ai] at h
  have a:mf.call 112 [.sl 169 bA l] (λp _=>some p)=some (PV.int .i64 e):=by
   have:mf.call 112 [.sl 169 bA l] (λp _=>some p)=(rJ l).bind λx=>some (PV.int .i64 x):=by kernel_rfl
   rw [this,i];rfl
  obtain ⟨o,c1,k⟩:=Eg.1.1 112 _ _ _ _ a;cases k
  have j:∀x:D0,x.2.1.length<=4096->x.2.2.1.length<=4096->iH mf.P mf.GlobW 317 [.agg (bA.leaves x)] (.agg [.int .u64 x.1,.fresh 5 (.int .u8) x.2.1,.fresh 5 (.int .u8) x.2.2.1,.int .u64 x.2.2.2]):=λx s t=>by
   have c:mf.call 317 [.agg (bA.leaves x)] (λp _=>some p)=some (PV.agg [.int .u64 x.1,.fresh 5 (.int .u8) x.2.1,.fresh 5 (.int .u8) x.2.2.1,.int .u64 x.2.2.2]):=by
    have:mf.call 317 [.agg (bA.leaves x)] (λp _=>some p)=(wS x).bind λy=>some (PV.agg [.int .u64 y.1,.fresh 5 (.int .u8) y.2.1,.fresh 5 (.int .u8) y.2.2.1,.int .u64 y.2.2.2]):=by kernel_rfl
    rw [this];unfold wS;rw [L2 (by omega),ai,L2 (by omega)];rfl
   obtain ⟨u,m,n⟩:=Eg.1.1 317 _ _ _ _ c;cases n;exact m
  by_cases d:e=0
  ·subst d;simp only [al,ah] at h
   cases g:(decide (l.length<=1000) && l.all (λx=>decide (x.2.1.length<=4096) && decide (x.2.2.1.length<=4096))) with
   |false=>rw [g,aa] at h;cases h
   |true=>
    rw [g,ah] at h;cases h;simp only [bb,gU,db] at g;have:=LN (C:=mf) (by rfl) (l:=l) (tick:=tick) (e0:=0) c1 (λ_=>g) j;rw [aw rfl] at this;exact this
  ·rw [aq d,aa] at h;cases h;have:=LN (C:=mf) (by rfl) (l:=l) (tick:=tick) (e0:=e) c1 (λh=>absurd h d) j;rw [ak d] at this;exact this
theorem aen (b:List Int):iC B4 ND Tryz.f243 (encs yW b) (RT.dec zi)=pH b:=by kernel_rfl
def Rb:Ctx:=Ctx.add B4 243 yW zi pH
theorem aaJ:Rb.Sound:=Ctx.Sound.add (C:=B4) mixed ZC Tryz.func243 aen
def rC (b:D9×D9):Option Int:=
 (gY (b.1.1,b.2.1)).bind λa=>
 (gY (b.1.2.1,b.2.2.1)).bind λc=>
 (pH ([a,c])).bind λd=>
 some d
def Sd:=Ctx.add Rb 178 [.agg bY,.agg bY] (.one (.leaf (.int .i64))) rC
theorem abF:Sd.Sound:=.add (H:=hd [(1000000,[],[2,3]),(5000001,[],[0,0,1,1,0,0,4,4,10,10,0,0,32,32,0,0,128,128,336,320,528,528,1536,1024,4095,2048])]) mixed aaJ Tryz.func178 λb=>by kernel_rfl
def uy (b:List D9):Option Int:=
 bif decide (128<(b.length:Int)) then (
 some 1)
 else (
 aD (λ(c:(Int×Int)->Option Int) (a:Int×Int)=>let d:=rd bY b a.2;let e:=IntKind.wrap .i64 (a.2 - 1);let f:Option Int:=c (a.1,(IntKind.wrap .i64 (a.2+1)));
  bif decide (a.2<(b.length:Int)) then (
  bif ae a.2 b.length then
  bif (decide (d.2.2=0)==false) then (
  (fu ([d.2.2])).bind λg=>
  bif ((!decide (g=0))==false) then (
  bif (decide (0<a.2)==true) then (
  bif ae e b.length then
  (rC ((rd bY b e),d)).bind λh=>
  bif decide (0<=h) then (
  some 1)
  else f
  else none)
  else f)
  else (
  some 1))
  else (
  some 1)
  else none)
  else (
  some 0)) (0,0))
def Th:=Ctx.add Sd 113 [.one (.slice 291 bY)] (.one (.leaf (.int .i64))) uy
theorem acB:Th.Sound:=.add (H:=hd [(4,[.data 2 (.int .i64),.data 10 (.int .i64)],[]),(1000005,[],[4]),(5000006,[],[0,0,1,1,2,2,4,4,8,8,24,24,40,40,72,72,136,136,264,264,640,512,1024,1024,3072,3072,5120,5120,8192,8192,8192,8192,40960,40960,90112,90112,139264,139264,8192,8192,794624,794624,1056768,1056768,2106368,2106368,4195328,4195328])]) mixed abF Tryz.func113 λb=>by kernel_rfl
def pE (b:cM):Option Int:=
 (jX b.1).bind λe=>
 (tG b.2.1).bind λf=>
 (xE b.2.2.1).bind λg=>
 (rJ b.2.2.2.1).bind λh=>
 (uy b.2.2.2.2).bind λi=>
 aD (λ(a:(Int×Int)->Option Int) (c:Int×Int)=>let d:=ajk (.int .i64) (e,f,g,h,i) c.2;
  bif decide (c.2<5) then (
  bif ae c.2 5 then
  bif (!decide (d=0)) then (
  some d)
  else (
  a (c.1,(IntKind.wrap .i64 (c.2+1))))
  else none)
  else (
  some 0)) (0,0)
def Pp:=Ctx.add Th 63 [.agg (.pair dE gP)] (.one (.leaf (.int .i64))) pE
theorem Ym:Pp.Sound:=.add (H:=hd [(2,[.data 2 (.int .i64),.data 21 (.int .i64)],[]),(1000000,[],[1]),(5000001,[],[0,0,1,1,2,2,0,0,8,8,20,16,0,0,64,64,160,128,0,0,512,512,1280,1024,0,0,4096,4096,10240,8192,18724,18724,0,0]),(4000000,[],[4398046511127])]) mixed acB Tryz.func63 λb=>by kernel_rfl
def xx (b:Int):Option Int:=
 bif decide (b<253) then (
 some (IntKind.wrap .u8 b))
 else (
 bif decide (b<65536) then (
 some 253)
 else (
 bif decide (b<4294967296) then (
 some 254)
 else (
 some 255)))
def SX:=Ctx.add Pp 132 [.one (.int .u64)] (.one (.leaf (.int .u8))) xx
theorem acf:SX.Sound:=.add (H:=hd []) mixed Ym Tryz.func132 λb=>by kernel_rfl
def mU (b:Int):Option Int:=
 bif decide (b<253) then (
 some 0)
 else (
 some (IntKind.wrap .i64 (2*2^ (min (IntKind.wrap .u8 (b - 253)).toNat 64))))
def SU:=Ctx.add SX 133 [.one (.int .u8)] (.one (.leaf (.int .i64))) mU
theorem ace:SU.Sound:=.add (H:=hd []) mixed acf Tryz.func133 λb=>by kernel_rfl
def cm (b:List Int):Option (List Int):=
 aD (λ(d:(pS)->Option (List Int)) (a:pS)=>let g:=rd (.int .u64) b a.2;
  bif decide (a.2<(b.length:Int)) then (
  bif ae a.2 b.length then
  (xx g).bind λf=>
  bif decide ((a.1.length+1)*1<=az) then
  (mU f).bind λi=>
  aD (λ(e:(pS)->Option (List Int)) (c:pS)=>
   bif decide (c.2<i) then (
   (mU f).bind λj=>let h:=IntKind.wrap .i64 (8* (IntKind.wrap .i64 ((IntKind.wrap .i64 (j - 1)) - c.2)));
   bif decide (0<=h) then
   bif decide ((c.1.length+1)*1<=az) then
   e ((c.1++ ([(IntKind.wrap .u8 (g / 2^ (min h.toNat 64)))])),(IntKind.wrap .i64 (c.2+1)))
   else none
   else none)
   else (
   d (c.1,(IntKind.wrap .i64 (a.2+1))))) ((a.1++ ([f])),0)
 else none
 else none)
 else (
 some a.1)) (([]:List Int),0)
def Pb:=Ctx.add SU 79 [.one gC] (.one (.leaf (.fresh 5 (.int .u8)))) cm
theorem X6:Pb.Sound:=.add (H:=hd [(3,[.row 3 14339 5 (.int .u8),.data 10 (.int .i64)],[]),(8,[.row 3 14344 5 (.int .u8),.data 22 (.int .i64)],[73728])]) mixed ace Tryz.func79 λb=>by kernel_rfl
def rr (b:List bZ):Option (List bZ):=
 let a:Option (List bZ):=bif decide ((([]:List bZ).length+b.length)*40<=az) then some (([]:List bZ)++b) else none;bif b.isEmpty then (
 (aj (
 some []) a))
 else a
def G2:=Ctx.add Pb 232 [.one (.slice 286 eB)] (.one (.leaf (.fresh 286 eB))) rr
theorem aaT:G2.Sound:=.add (H:=hd []) mixed X6 Tryz.func232 λb=>by kernel_rfl
def Qc:=Ctx.addI G2 329 (hd []) 9000329 Tryz.f329
theorem ZF:Qc.Sound:=Ctx.Sound.addI (C:=G2) mixed aaT Tryz.func329
def w6 (b:List bZ×bZ):Option (List bZ×Int×Int):=
 let d:Int:=b.1.length;let j:=b.1.take (d.toNat);(uu b.1).bind λg=>
 bif (bif (!decide (g.2=0)) then true else decide (d<=b.2.2.1)) then (
 some ([],0,1))
 else (
 bif decide (4096<(b.2.2.2.length:Int)) then (
 some ([],0,4))
 else (
 (uj b.2).bind λk=>
 bif (!(dv mQ (.int .i64) g.1 k)) then (
 bif decide (d=1048576) then (
 some ([],0,7))
 else (
 (λo=>aj (aj o o) o) (
 bif (ae d (b.1.length+1) && decide (d=d)) then
 bif decide ((j.length+1)*40<=az) then
 (rr (j++ ([b.2]))).bind λl=>
 aD (λ(e:(pR)->Option (List bZ×Int×Int)) (a:pR)=>let h:=rd eB a.2 a.1;
 bif decide (a.1<(l.length:Int)) then (
 bif ae a.1 a.2.length then
 (cg h.2.2).bind λn=>
 bif ae a.1 a.2.length then
 e ((IntKind.wrap .i64 (a.1+1)),(a.2.set a.1.toNat (h.1,h.2.1,n)))
 else none
 else none)
 else (
 some (a.2,d,0))) (0,l)
 else none
 else none)))
 else (
 (rr b.1).bind λm=>
 aD (λ(f:(pR)->Option (List bZ×Int×Int)) (c:pR)=>let i:=rd eB c.2 c.1;
 bif decide (c.1<(m.length:Int)) then (
 bif ae c.1 c.2.length then
 (cg i.2.2).bind λp=>
 bif ae c.1 c.2.length then
 f ((IntKind.wrap .i64 (c.1+1)),(c.2.set c.1.toNat (i.1,i.2.1,p)))
 else none
 else none)
 else (
 some (c.2,(cC mQ (.int .i64) 0 g.1 k),0))) (0,m))))
def QC:=Ctx.add Qc 300 [.agg (.slice 286 eB),.agg eB] (.tup [.agg [.fresh 286 eB],.leaf (.int .i64),.leaf (.int .i64)]) w6
theorem Z6:QC.Sound:=.add (H:=hd [(14,[.data 65 (.int .i64),.rowk 245760 286 eB],[229376,225280,16384,8192]),(1000000,[],[3]),(1000015,[],[12]),(5000011,[],[0,0,1,1,2,2,0,0,8,8,20,20,63,0,127,96]),(5000016,[],[0,0,1,1,0,0,0,0,8,8,16,16,63,6,127,64,191,160])]) mixed ZF Tryz.func300 λb=>by kernel_rfl
def A5 (b:List bZ×Int×List Int):Option (List bZ×Int×Int):=
 (w6 (b.1,b.2.1,(-1),b.2.2)).bind λa=>
 some a
def Q8:=Ctx.add QC 257 [.agg (.slice 286 eB),.one (.int .u64),.one aY] (.tup [.agg [.fresh 286 eB],.leaf (.int .i64),.leaf (.int .i64)]) A5
theorem aaG:Q8.Sound:=.add (H:=hd [(1000000,[],[3])]) mixed Z6 Tryz.func257 λb=>by kernel_rfl
def xn (b:List bZ×Int×Int):Option (List bZ× (Int×List D9×Int)×Int):=
 (λo=>aj o o) (
 (cm ([b.2.1])).bind λc=>
 (A5 (b.1,b.2.2,c)).bind λa=>
 bif (!decide (a.2.2=0)) then (
 some ([],(0,[],0),a.2.2))
 else (
 some (a.1,(b.2.1,[],a.2.1),0)))
def RY:=Ctx.add Q8 196 [.agg (.slice 286 eB),.one (.int .u64),.one (.int .u64)] (.tup [.agg [.fresh 286 eB],.agg [.int .u64,.fresh 149 Y1,.int .i64],.leaf (.int .i64)]) xn
theorem abu:RY.Sound:=.add (H:=hd [(5000001,[],[0,0,0,0,0,0,4,4,8,8,19,19,32,32,64,64,64,64,64,64,255,128,1535,256,4095,512])]) mixed aaG Tryz.func196 λb=>by kernel_rfl
def ry (b:List D2):Option (List D2):=
 let a:Option (List D2):=bif decide ((([]:List D2).length+b.length)*72<=az) then some (([]:List D2)++b) else none;bif b.isEmpty then (
 (aj (
 some []) a))
 else a
def Rw:=Ctx.add RY 226 [.one (.slice 64 Y8)] (.one (.leaf (.fresh 64 Y8))) ry
theorem aaZ:Rw.Sound:=.add (H:=hd []) mixed abu Tryz.func226 λb=>by kernel_rfl
def ui (b:List (Int×Int)):Option (List (Int×Int)):=
 let a:Option (List (Int×Int)):=bif decide ((([]:List (Int×Int)).length+b.length)*16<=az) then some (([]:List (Int×Int))++b) else none;bif b.isEmpty then (
 (aj (
 some []) a))
 else a
def Rv:=Ctx.add Rw 227 [.one (.slice 279 Y9)] (.one (.leaf (.fresh 279 Y9))) ui
theorem aaY:Rv.Sound:=.add (H:=hd []) mixed aaZ Tryz.func227 λb=>by kernel_rfl
def ot (b:List D1):Option (List D1):=
 let a:Option (List D1):=bif decide ((([]:List D1).length+b.length)*32<=az) then some (([]:List D1)++b) else none;bif b.isEmpty then (
 (aj (
 some []) a))
 else a
def Ru:=Ctx.add Rv 228 [.one (.slice 345 bH)] (.one (.leaf (.fresh 345 bH))) ot
theorem aaX:Ru.Sound:=.add (H:=hd []) mixed aaY Tryz.func228 λb=>by kernel_rfl
def pI (b:List D3):Option (List D3):=
 let a:Option (List D3):=bif decide ((([]:List D3).length+b.length)*40<=az) then some (([]:List D3)++b) else none;bif b.isEmpty then (
 (aj (
 some []) a))
 else a
def Rs:=Ctx.add Ru 229 [.one (.slice 323 bF)] (.one (.leaf (.fresh 323 bF))) pI
theorem aaW:Rs.Sound:=.add (H:=hd []) mixed aaX Tryz.func229 λb=>by kernel_rfl
end
end Go.Proofs.YtkihadlgknhpkaaGreatDoor.T
