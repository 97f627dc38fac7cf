/- Part 22: lemmas that the last text needs. -/
import Derived.Test.YtkihadlgknhpkaaGreatDoorX14
import Derived.Test.YtkihadlgknhpkaaGreatDoorX52
import Derived.Test.YtkihadlgknhpkaaGreatDoorProg
import Derived.KernelRfl
import Derived.WalkKit
import Derived.Test.YtkihadlgknhpkaaGreatDoorX21
set_option linter.all false
set_option autoImplicit true
set_option relaxedAutoImplicit true
namespace Go.Proofs.YtkihadlgknhpkaaGreatDoor.T
set_option maxRecDepth 100000
open Go Go.Fw Go.Proofs
noncomputable section
def globs:Nat->Option ((t:Ty)×List t.den)
 |0=>some ⟨(.int .i64),([0,71,17,79,3,2,2,0,6,4,32]:List Int)⟩
 |_=>none
noncomputable def C_:=Ctx.yC Tryz.prog globs
theorem s_:C_.Sound:=Ctx.al0 _ _
theorem mixed:Tryz.prog.follows .mixedOrders=true:=by kernel_rfl
abbrev D0:Type:=(Int×List Int×List Int×Int)
abbrev D1:Type:=(Int×Int×Int×Int)
abbrev D2:Type:=(Int×Int×Int×Int×Int×List (Int×Int)×Bool)
abbrev D3:Type:=(Int×Int×Int×Int×Int)
abbrev D4:Type:=Int×Int×Int
abbrev D5:Type:=Int×Int×Int×Int
abbrev D6:Type:=Int×Int×List (Int×Int)
abbrev D7:Type:=Int×Int×Int×List (Int×Int)
abbrev D8:Type:=Bool×Int×Int×Int
abbrev D9:Type:=(Int×Int×Int)
abbrev xH:Type:=Int×Int×List (D9×Int)
abbrev D11:Type:=Bool×Int×Int×Int×List (Int×Int)
abbrev Gc:Type:=Bool×Int×Int×Int×List (Int×Int)×List (D9×Int)
abbrev aQ:Type:=(List D2×List (Int×Int)×List D1×List D3×Int×List D1×Int×Int)
abbrev bZ:Type:=(Int×Int×List Int)
abbrev OT:Type:=Int×Int×List (bZ×Int)
abbrev dC:Type:=(Int×Int×Bool)
abbrev cM:Type:=(aQ×List bZ×List dC×List D0×List D9)
abbrev pS:Type:=List Int×Int
abbrev pR:Type:=Int×List bZ
abbrev cD:Type:=(Int×List D9×Int)
abbrev D21:Type:=List cD×Int×Int
abbrev D22:Type:=List cD×Int×Int×cM
abbrev mY:Type:=List cD×Int×Int×cM×List cD
abbrev cI:Type:=(cM× (Int×Int)× (Int×Int)× (Int×Int)× (Int×Int)× (Int×Int)× (Int×Int)× (Int×Int)× (Int×Int)× (Int×Int)× (Int×Int)× (Int×Int)× (Int×Int)× (Int×Int)× (Int×Int)× (Int×Int)×Int×Int)
abbrev eU:Type:=(Bool×List Int×Bool×List (List Int)×List Int)
abbrev cn:Type:=(cI×eU×eU×eU×eU×eU×eU×eU×eU×eU×eU×eU×eU×eU×eU×eU×Bool×List Int×Bool×List (List Int)×List Int)
abbrev BZ:Type:=(List Int×Bool)
abbrev bq:Type:=(Int×List Int)
abbrev D29:Type:=(List Int×Int)
abbrev BY:Type:=List bq×D29
abbrev D31:Type:=List Int×Int×Int×Int
abbrev OS:Type:=List Int×Int×Int×Int×List Int
abbrev OR:Type:=Int×Int×List bq
abbrev OQ:Type:=Int×Int×List Int
abbrev D35:Type:=Int×Int×cD
abbrev OP:Type:=Int×Int×List D9× (Int×Int)
abbrev OO:Type:=List Int×List Int×Int
abbrev Gb:Type:=(Int×Int×Int×Int×Int×List Int×List D1×Int×List D9×Int)
abbrev uC:Type:=Int×List (List Int)
abbrev ON:Type:=List bq×Int
abbrev jt:Type:=List bq× (Unit×Unit)
abbrev OM:Type:=List Int×Int×List bq× (Unit×Unit)
abbrev mX:Type:=Int×List bq× (Unit×Unit)
abbrev D44:Type:=Int×Int×Gb
abbrev D45:Type:=(List D1×Int×List D9×Int)
abbrev D46:Type:=Int×Int×List Int× (D3×D45)
abbrev D47:Type:=(Int×Int×Int×Int×Int×List Int)
abbrev OL:Type:=Int×Int×List D1× (D47×cD)
abbrev fc:Type:=(Int×Int×Int×List Int×Int×Int×Int×Int×Bool×Int×Int×Int×Int×Int×List (Int×Int)×Bool×List (Int×Int))
abbrev jY:Type:=(Int×List D1)
abbrev OK:Type:=Int× (aQ×Int)
abbrev OJ:Type:=Int×Int×List D1
abbrev Ga:Type:=(Int×Int×Int×Int×Bool×Int×Int×Int×Int×Int×List (Int×Int)×Bool×List (Int×Int))
abbrev OI:Type:=List (List Int)×Int×List (List Int)×List Int
abbrev lk:Type:=(Int×Int×Int×Int×List D9×Int×Int×Int×Int×List (Int×Int)×List D9)
abbrev D56:Type:=List bq×Int×Int
abbrev pQ:Type:=List bq×Int×Int×List bq× (Unit×Unit)
abbrev D58:Type:=List (Int×Int)
abbrev pP:Type:=List (Int×Int)×List bq× (Unit×Unit)
abbrev D60:Type:=(Int×Int×Int×Int×List D9×Int×Int×Int×Int)
abbrev OH:Type:=Int×Int×List (Int×Int)×List D9× (D60× (Unit×Unit))
abbrev OG:Type:=Int×Bool×Int
abbrev OF:Type:=Bool×Int×Bool×Int
abbrev D64:Type:=Int×List (Int×Int)
abbrev uB:Type:=Int×List (Int×Int)×List (Int×Int)
abbrev xG:Type:=List D9×List (Int×Int)
abbrev F5:Type:=List Int×Int×List (Int×Int)×Int
abbrev uA:Type:=Int×List Int
abbrev BX:Type:=List Int×Int×Int×Int×List Int×aQ
abbrev oB:Type:=(cI×Int×lk×Int×Int×Int×Int×Int×List Int×List D1×Int×List D9×Int)
abbrev mc:Type:=Int×Int×oB
abbrev BW:Type:=Int×List Int×oB
abbrev OE:Type:=List bZ×Int×Int
abbrev D74:Type:=List bZ×Int
abbrev OD:Type:=List bZ×Int×cn
abbrev pO:Type:=Bool×Int×cn
abbrev oA:Type:=Bool×Int×Int
abbrev OC:Type:=Bool×Int×Int×cn
abbrev Y0:Ty:=(.pair (.int .u64) (.int .u64))
abbrev Y1:Ty:=(.pair (.int .i64) Y0)
abbrev Y2:Ty:=(.pair (.int .u64) Y1)
abbrev Y3:Ty:=(.pair (.slice 160 Y0) .bool)
abbrev Y4:Ty:=(.pair (.int .u64) Y3)
abbrev Y5:Ty:=(.pair (.int .u64) Y4)
abbrev Y6:Ty:=(.pair (.int .u64) Y5)
abbrev Y7:Ty:=(.pair (.int .u64) Y6)
abbrev Y8:Ty:=(.pair (.int .u64) Y7)
abbrev Y9:Ty:=(.pair (.int .u64) .flt)
abbrev Y10:Ty:=(.pair (.int .u64) (.int .i64))
abbrev Y11:Ty:=(.pair (.int .u64) Y10)
abbrev bH:Ty:=(.pair (.int .u64) Y11)
abbrev bF:Ty:=(.pair (.int .u64) bH)
abbrev bY:Ty:=(.pair (.int .u64) Y0)
abbrev aY:Ty:=(.slice 5 (.int .u8))
abbrev Nh:Ty:=(.pair (.int .i64) aY)
abbrev eB:Ty:=(.pair (.int .u64) Nh)
abbrev Y18:Ty:=(.pair (.int .i64) .str)
abbrev mQ:Ty:=(.pair (.int .u64) Y18)
abbrev Y20:Ty:=(.pair (.int .u64) .bool)
abbrev cQ:Ty:=(.pair (.int .u64) Y20)
abbrev Y22:Ty:=(.pair aY (.int .u64))
abbrev bA:Ty:=(.pair (.int .u64) (.pair aY Y22))
abbrev Y24:Ty:=(.pair (.slice 215 Y2) Y0)
abbrev Y25:Ty:=(.pair (.int .u64) Y24)
abbrev Y26:Ty:=(.pair (.slice 323 bF) Y25)
abbrev Y27:Ty:=(.pair (.slice 345 bH) Y26)
abbrev Y28:Ty:=(.pair (.slice 279 Y9) Y27)
abbrev dE:Ty:=(.pair (.slice 64 Y8) Y28)
abbrev Y30:Ty:=(.pair (.slice 169 bA) (.slice 291 bY))
abbrev Y31:Ty:=(.pair (.slice 198 cQ) Y30)
abbrev gP:Ty:=(.pair (.slice 286 eB) Y31)
abbrev Y33:Ty:=(.pair (.slice 149 Y1) (.int .i64))
abbrev iq:Ty:=(.pair (.int .u64) Y33)
abbrev Y35:Ty:=(.pair Y0 (.pair Y0 Y0))
abbrev Y36:Ty:=(.pair Y0 (.pair Y0 Y35))
abbrev Y37:Ty:=(.pair Y0 (.pair Y0 Y36))
abbrev Y38:Ty:=(.pair Y0 (.pair Y0 Y37))
abbrev Y39:Ty:=(.pair Y0 (.pair Y0 Y38))
abbrev Y40:Ty:=(.pair Y0 (.pair Y0 Y39))
abbrev Y41:Ty:=(.pair Y0 (.pair Y0 Y40))
abbrev cH:Ty:=(.pair (.pair dE gP) (.pair Y0 Y41))
abbrev Y43:Ty:=(.pair (.slice 49 aY) aY)
abbrev cG:Ty:=(.pair aY (.pair .bool Y43))
abbrev Y45:Ty:=(.pair (.pair .bool cG) (.pair .bool cG))
abbrev Y46:Ty:=(.pair (.pair .bool cG) Y45)
abbrev Y47:Ty:=(.pair (.pair .bool cG) Y46)
abbrev Y48:Ty:=(.pair (.pair .bool cG) Y47)
abbrev Y49:Ty:=(.pair (.pair .bool cG) Y48)
abbrev Y50:Ty:=(.pair (.pair .bool cG) Y49)
abbrev Y51:Ty:=(.pair (.pair .bool cG) Y50)
abbrev Y52:Ty:=(.pair (.pair .bool cG) Y51)
abbrev Y53:Ty:=(.pair (.pair .bool cG) Y52)
abbrev Y54:Ty:=(.pair (.pair .bool cG) Y53)
abbrev Y55:Ty:=(.pair (.pair .bool cG) Y54)
abbrev Y56:Ty:=(.pair (.pair .bool cG) Y55)
abbrev Y57:Ty:=(.pair (.pair .bool cG) Y56)
abbrev Y58:Ty:=(.pair (.pair .bool cG) Y57)
abbrev ed:Ty:=(.pair (.pair .bool cG) Y58)
abbrev cP:Ty:=(.pair (.int .u64) aY)
abbrev Y61:Ty:=(.pair .bool .bool)
abbrev mP:Ty:=(.pair (.int .i64) Y61)
abbrev Y63:Ty:=(.pair .bool (.slice 279 Y9))
abbrev Y64:Ty:=(.pair (.slice 160 Y0) Y63)
abbrev Y65:Ty:=(.pair (.int .u64) Y64)
abbrev Y66:Ty:=(.pair (.int .u64) Y65)
abbrev Y67:Ty:=(.pair (.int .u64) Y66)
abbrev Y68:Ty:=(.pair (.int .u64) Y67)
abbrev Y69:Ty:=(.pair (.int .u64) Y68)
abbrev Y70:Ty:=(.pair (.int .u64) (.pair .bool Y69))
abbrev Y71:Ty:=(.pair (.int .u64) Y70)
abbrev Y72:Ty:=(.pair (.int .u64) Y71)
abbrev Ng:Ty:=(.pair (.int .i64) Y72)
abbrev Y74:Ty:=(.pair (.int .i64) (.pair aY Ng))
abbrev Y75:Ty:=(.pair (.int .i64) Y74)
abbrev eL:Ty:=(.pair (.int .i64) Y75)
abbrev zZ:Ty:=(.pair (.int .i64) Nh)
abbrev Y78:Ty:=(.slice 3 (.int .i64))
abbrev tC:Ty:=(.pair (.int .u64) (.slice 215 Y2))
abbrev gC:Ty:=(.slice 30 (.int .u64))
abbrev Y81:Ty:=(.pair aY (.int .i64))
abbrev Y82:Ty:=(.pair (.slice 215 Y2) iq)
abbrev Y83:Ty:=(.pair (.int .i64) (.pair gC Y82))
abbrev Y84:Ty:=(.pair (.int .u64) Y83)
abbrev Y85:Ty:=(.pair (.int .u64) Y84)
abbrev Y86:Ty:=(.pair (.int .i64) Y85)
abbrev Fh:Ty:=(.pair (.int .u64) Y86)
abbrev Y88:Ty:=(.pair (.int .i64) gC)
abbrev Y89:Ty:=(.pair (.int .u64) Y88)
abbrev Y90:Ty:=(.pair (.int .u64) Y89)
abbrev Y91:Ty:=(.pair (.int .i64) Y90)
abbrev Y92:Ty:=(.pair (.int .u64) Y91)
abbrev fE:Ty:=(.pair dE (.int .i64))
abbrev Y94:Ty:=(.pair (.slice 191 Y0) (.slice 149 Y1))
abbrev Y95:Ty:=(.pair (.int .u64) Y94)
abbrev Y96:Ty:=(.pair (.int .u64) Y95)
abbrev Y97:Ty:=(.pair (.int .u64) Y96)
abbrev Y98:Ty:=(.pair (.int .i64) Y97)
abbrev Y99:Ty:=(.pair (.slice 149 Y1) Y98)
abbrev afg:Ty:=(.pair (.int .u64) Y99)
abbrev aff:Ty:=(.pair (.int .u64) afg)
abbrev afe:Ty:=(.pair (.int .i64) aff)
abbrev mR:Ty:=(.pair (.int .u64) afe)
abbrev afd:Ty:=(.pair (.int .i64) bY)
abbrev afc:Ty:=(.pair (.slice 149 Y1) afd)
abbrev afb:Ty:=(.pair (.int .u64) afc)
abbrev afa:Ty:=(.pair (.int .u64) afb)
abbrev ae9:Ty:=(.pair (.int .i64) afa)
abbrev ae8:Ty:=(.pair (.int .u64) ae9)
abbrev Fi:Ty:=(.pair (.int .i64) (.pair mR Fh))
def hd:List (Nat×List HV×List Nat)->Nat->Head
 | [],_=>⟨[],[]⟩
 | (k,v,s)::l,n=>bif Nat.beq n k then ⟨v,s⟩ else hd l n
noncomputable def N_:=Ctx.nil Tryz.prog
theorem n_:N_.Sound:=Ctx.alZ _
def NG:Nat->Head:=λ_=>⟨[],[]⟩
abbrev yY:List ATy:= [.one (.int .u64)]
abbrev zk:RT:=(.one (.leaf (.bool)))
noncomputable def pK (b:Int):=
 some (!decide (b=b))
theorem adr (b):iC N_ NG Tryz.f169 (encs yY b) (RT.dec zk)=pK b:=by kernel_rfl
noncomputable def Ad:=Ctx.add N_ 169 yY zk pK
theorem adv:Ad.Sound:=Ctx.Sound.add (C:=N_) mixed n_ Tryz.func169 adr
def NH:Nat->Head:=λ_=>⟨[],[]⟩
abbrev yZ:List ATy:= [.one (.int .u64),.one (.int .u64)]
abbrev zl:RT:=(.one (.leaf (.int .i64)))
noncomputable def gY (b:Int×Int):=
 (pK b.1).bind λc=>
 (pK b.2).bind λa=>
 bif c then (
 bif a then (
 some 0)
 else (
 some (-1)))
 else (
 bif a then (
 some 1)
 else (
 bif decide (b.1<b.2) then (
 some (-1))
 else (
 bif decide (b.2<b.1) then (
 some 1)
 else (
 some 0))))
theorem ads (b):iC Ad NH Tryz.f104 (encs yZ b) (RT.dec zl)=gY b:=by kernel_rfl
noncomputable def Ae:=Ctx.add Ad 104 yZ zl gY
theorem adw:Ae.Sound:=Ctx.Sound.add (C:=Ad) mixed adv Tryz.func104 ads
def ND:Nat->Head
 |3=>⟨[.data 2 (.int .i64),.data 8 (.int .i64)],[]⟩
 |_=>⟨[],[]⟩
abbrev yW:List ATy:= [.one Y78]
abbrev zi:RT:=(.one (.leaf (.int .i64)))
noncomputable def pH (b:List Int):=
 aD (λ(c:(Int×Int)->Option Int) (a:Int×Int)=>
  bif decide (a.2<(b.length:Int)) then (
  bif ae a.2 b.length then
  bif (!decide ((rd (.int .i64) b a.2)=0)) then (
  some (rd (.int .i64) b a.2))
  else (
  c (a.1,(IntKind.wrap .i64 (a.2+1))))
  else none)
  else (
  some 0)) (0,0)
theorem adp (b):iC Ae ND Tryz.f243 (encs yW b) (RT.dec zi)=pH b:=by kernel_rfl
noncomputable def Ac:=Ctx.add Ae 243 yW zi pH
theorem adu:Ac.Sound:=Ctx.Sound.add (C:=Ae) mixed adw Tryz.func243 adp
def NC:Nat->Head:=λ_=>⟨[],[]⟩
abbrev yV:List ATy:= [.one .flt]
abbrev zh:RT:=(.one (.leaf (.bool)))
noncomputable def rn (b):=
 some (jD .neq b b)
theorem ado (b):iC Ac NC Tryz.f256 (encs yV b) (RT.dec zh)=rn b:=by kernel_rfl
noncomputable def Ab:=Ctx.add Ac 256 yV zh rn
theorem adt:Ab.Sound:=Ctx.Sound.add (C:=Ac) mixed adu Tryz.func256 ado
def NF:Nat->Head:=λ_=>⟨[],[]⟩
abbrev yX:List ATy:= [.one .flt,.one .flt]
abbrev zj:RT:=(.one (.leaf (.int .i64)))
noncomputable def rB (b:Int×Int):=
 (rn b.1).bind λc=>
 (rn b.2).bind λa=>
 bif c then (
 bif a then (
 some 0)
 else (
 some (-1)))
 else (
 bif a then (
 some 1)
 else (
 bif (jD .lss b.1 b.2) then (
 some (-1))
 else (
 bif (jD .gtr b.1 b.2) then (
 some 1)
 else (
 some 0))))
theorem adq (b):iC Ab NF Tryz.f190 (encs yX b) (RT.dec zj)=rB b:=by kernel_rfl
noncomputable def wE:=Ctx.add Ab 190 yX zj rB
theorem Lt:wE.Sound:=Ctx.Sound.add (C:=Ab) mixed adt Tryz.func190 adq
def NB:Nat->Head
 |1000000=>⟨[],[2,3]⟩
 |5000001=>⟨[],[0,0,1,1,0,0,4,4,10,10,0,0,32,32,0,0,128,128,336,320,528,528,1536,1024,4095,2048]⟩
 |_=>⟨[],[]⟩
abbrev vR:List ATy:= [.agg Y9,.agg Y9]
abbrev vW:RT:=(.one (.leaf (.int .i64)))
noncomputable def tM (b:(Int×Int)× (Int×Int)):=
 (rB (b.2.2,b.1.2)).bind λa=>
 (gY (b.1.1,b.2.1)).bind λc=>
 (pH ([a,c])).bind λd=>
 some d
theorem Ls (b):iC wE NB Tryz.f376 (encs vR b) (RT.dec vW)=tM b:=by kernel_rfl
noncomputable def afM:=Ctx.add wE 376 vR vW tM
theorem al4:afM.Sound:=Ctx.Sound.add (C:=wE) mixed Lt Tryz.func376 Ls
section
open Go.Shelf Go.RowKit Go.Lib Go.Sort
def XM:Go.Shelf.Ren:=⟨λ|6=>125|15=>184|14=>183|28=>253|29=>254|20=>245|21=>246|22=>247|23=>248|24=>249|25=>250|26=>251|27=>252|46=>295|47=>296|48=>297|49=>298|50=>299|57=>328|n=>n,λ|22=>121|24=>125|25=>260|3=>3|39=>166|0=>0|53=>420|55=>30|4=>4|46=>414|45=>413|50=>118|5=>5|9=>9|66=>463|70=>466|76=>500|77=>501|n=>n,λ|n=>n⟩
theorem Kv:Go.Proofs.SlLaysF0.n6 Tryz.prog XM:={
 mixed:=by kernel_rfl,
 f6:=⟨Tryz.f125.name,by decide,Tryz.func125.trans (bz some (by kernel_rfl))⟩,
 f14:=⟨Tryz.f183.name,by decide,Tryz.func183.trans (bz some (by kernel_rfl))⟩,
 f15:=Tryz.func184.trans (bz some (by kernel_rfl)),
 f20:=⟨Tryz.f245.name,by decide,Tryz.func245.trans (bz some (by kernel_rfl))⟩,
 f21:=⟨Tryz.f246.name,by decide,Tryz.func246.trans (bz some (by kernel_rfl))⟩,
 f22:=⟨Tryz.f247.name,by decide,Tryz.func247.trans (bz some (by kernel_rfl))⟩,
 f23:=⟨Tryz.f248.name,by decide,Tryz.func248.trans (bz some (by kernel_rfl))⟩,
 f24:=⟨Tryz.f249.name,by decide,Tryz.func249.trans (bz some (by kernel_rfl))⟩,
 f25:=⟨Tryz.f250.name,by decide,Tryz.func250.trans (bz some (by kernel_rfl))⟩,
 f26:=⟨Tryz.f251.name,by decide,Tryz.func251.trans (bz some (by kernel_rfl))⟩,
 f27:=⟨Tryz.f252.name,by decide,Tryz.func252.trans (bz some (by kernel_rfl))⟩,
 f28:=Tryz.func253.trans (bz some (by kernel_rfl)),
 f29:=Tryz.func254.trans (bz some (by kernel_rfl)),
 f46:=⟨Tryz.f295.name,by decide,Tryz.func295.trans (bz some (by kernel_rfl))⟩,
 f47:=Tryz.func296.trans (bz some (by kernel_rfl)),
 f48:=Tryz.func297.trans (bz some (by kernel_rfl)),
 f49:=⟨Tryz.f298.name,by decide,Tryz.func298.trans (bz some (by kernel_rfl))⟩,
 f50:=⟨Tryz.f299.name,by decide,Tryz.func299.trans (bz some (by kernel_rfl))⟩,
 f57:=⟨Tryz.f328.name,by decide,Tryz.func328.trans (bz some (by kernel_rfl))⟩,
 t0:=Tryz.underlying0,
 a0:=Tryz.isAgg0,
 z0:=Tryz.sizeOf0,
 v0:=Tryz.zeroValue0,
 t3:=Tryz.underlying3,
 a3:=Tryz.isAgg3,
 z3:=Tryz.sizeOf3,
 v3:=Tryz.zeroValue3,
 t4:=Tryz.underlying4,
 a4:=Tryz.isAgg4,
 z4:=Tryz.sizeOf4,
 v4:=Tryz.zeroValue4,
 t5:=Tryz.underlying5,
 a5:=Tryz.isAgg5,
 z5:=Tryz.sizeOf5,
 v5:=Tryz.zeroValue5,
 t9:=Tryz.underlying9,
 a9:=Tryz.isAgg9,
 z9:=Tryz.sizeOf9,
 v9:=Tryz.zeroValue9,
 t22:=Tryz.underlying121,
 a22:=Tryz.isAgg121,
 z22:=Tryz.sizeOf121,
 v22:=Tryz.zeroValue121,
 t25:=Tryz.underlying260,
 a25:=Tryz.isAgg260,
 z25:=Tryz.sizeOf260,
 v25:=Tryz.zeroValue260,
 t39:=Tryz.underlying166,
 a39:=Tryz.isAgg166,
 z39:=Tryz.sizeOf166,
 v39:=Tryz.zeroValue166,
 t45:=Tryz.underlying413,
 a45:=Tryz.isAgg413,
 z45:=Tryz.sizeOf413,
 v45:=Tryz.zeroValue413,
 t46:=Tryz.underlying414,
 a46:=Tryz.isAgg414,
 z46:=Tryz.sizeOf414,
 v46:=Tryz.zeroValue414,
 t50:=Tryz.underlying118,
 a50:=Tryz.isAgg118,
 z50:=Tryz.sizeOf118,
 v50:=Tryz.zeroValue118,
 t53:=Tryz.underlying420,
 a53:=Tryz.isAgg420,
 z53:=Tryz.sizeOf420,
 v53:=Tryz.zeroValue420,
 t55:=Tryz.underlying30,
 a55:=Tryz.isAgg30,
 z55:=Tryz.sizeOf30,
 v55:=Tryz.zeroValue30,
 t66:=Tryz.underlying463,
 a66:=Tryz.isAgg463,
 z66:=Tryz.sizeOf463,
 v66:=Tryz.zeroValue463,
 t70:=Tryz.underlying466,
 a70:=Tryz.isAgg466,
 z70:=Tryz.sizeOf466,
 v70:=Tryz.zeroValue466,
 t76:=Tryz.underlying500,
 a76:=Tryz.isAgg500,
 z76:=Tryz.sizeOf500,
 v76:=Tryz.zeroValue500,
 t77:=Tryz.underlying501,
 a77:=Tryz.isAgg501,
 z77:=Tryz.sizeOf501,
 v77:=Tryz.zeroValue501}
def XN:Go.Shelf.Ren:=⟨λ|6=>375|15=>184|14=>386|28=>253|29=>254|20=>391|21=>392|22=>393|23=>394|24=>395|25=>396|26=>397|27=>398|46=>402|47=>296|48=>297|49=>403|50=>404|57=>406|n=>n,λ|22=>532|24=>538|25=>540|3=>3|39=>166|0=>0|53=>420|55=>30|4=>4|46=>414|45=>413|50=>118|5=>5|9=>9|66=>463|70=>466|76=>500|77=>501|n=>n,λ|n=>n⟩
theorem Kw:Go.Proofs.SlLaysF0.n6 Tryz.prog XN:={
 mixed:=by kernel_rfl,
 f6:=⟨Tryz.f375.name,by decide,Tryz.func375.trans (bz some (by kernel_rfl))⟩,
 f14:=⟨Tryz.f386.name,by decide,Tryz.func386.trans (bz some (by kernel_rfl))⟩,
 f15:=Tryz.func184.trans (bz some (by kernel_rfl)),
 f20:=⟨Tryz.f391.name,by decide,Tryz.func391.trans (bz some (by kernel_rfl))⟩,
 f21:=⟨Tryz.f392.name,by decide,Tryz.func392.trans (bz some (by kernel_rfl))⟩,
 f22:=⟨Tryz.f393.name,by decide,Tryz.func393.trans (bz some (by kernel_rfl))⟩,
 f23:=⟨Tryz.f394.name,by decide,Tryz.func394.trans (bz some (by kernel_rfl))⟩,
 f24:=⟨Tryz.f395.name,by decide,Tryz.func395.trans (bz some (by kernel_rfl))⟩,
 f25:=⟨Tryz.f396.name,by decide,Tryz.func396.trans (bz some (by kernel_rfl))⟩,
 f26:=⟨Tryz.f397.name,by decide,Tryz.func397.trans (bz some (by kernel_rfl))⟩,
 f27:=⟨Tryz.f398.name,by decide,Tryz.func398.trans (bz some (by kernel_rfl))⟩,
 f28:=Tryz.func253.trans (bz some (by kernel_rfl)),
 f29:=Tryz.func254.trans (bz some (by kernel_rfl)),
 f46:=⟨Tryz.f402.name,by decide,Tryz.func402.trans (bz some (by kernel_rfl))⟩,
 f47:=Tryz.func296.trans (bz some (by kernel_rfl)),
 f48:=Tryz.func297.trans (bz some (by kernel_rfl)),
 f49:=⟨Tryz.f403.name,by decide,Tryz.func403.trans (bz some (by kernel_rfl))⟩,
 f50:=⟨Tryz.f404.name,by decide,Tryz.func404.trans (bz some (by kernel_rfl))⟩,
 f57:=⟨Tryz.f406.name,by decide,Tryz.func406.trans (bz some (by kernel_rfl))⟩,
 t0:=Tryz.underlying0,
 a0:=Tryz.isAgg0,
 z0:=Tryz.sizeOf0,
 v0:=Tryz.zeroValue0,
 t3:=Tryz.underlying3,
 a3:=Tryz.isAgg3,
 z3:=Tryz.sizeOf3,
 v3:=Tryz.zeroValue3,
 t4:=Tryz.underlying4,
 a4:=Tryz.isAgg4,
 z4:=Tryz.sizeOf4,
 v4:=Tryz.zeroValue4,
 t5:=Tryz.underlying5,
 a5:=Tryz.isAgg5,
 z5:=Tryz.sizeOf5,
 v5:=Tryz.zeroValue5,
 t9:=Tryz.underlying9,
 a9:=Tryz.isAgg9,
 z9:=Tryz.sizeOf9,
 v9:=Tryz.zeroValue9,
 t22:=Tryz.underlying532,
 a22:=Tryz.isAgg532,
 z22:=Tryz.sizeOf532,
 v22:=Tryz.zeroValue532,
 t25:=Tryz.underlying540,
 a25:=Tryz.isAgg540,
 z25:=Tryz.sizeOf540,
 v25:=Tryz.zeroValue540,
 t39:=Tryz.underlying166,
 a39:=Tryz.isAgg166,
 z39:=Tryz.sizeOf166,
 v39:=Tryz.zeroValue166,
 t45:=Tryz.underlying413,
 a45:=Tryz.isAgg413,
 z45:=Tryz.sizeOf413,
 v45:=Tryz.zeroValue413,
 t46:=Tryz.underlying414,
 a46:=Tryz.isAgg414,
 z46:=Tryz.sizeOf414,
 v46:=Tryz.zeroValue414,
 t50:=Tryz.underlying118,
 a50:=Tryz.isAgg118,
 z50:=Tryz.sizeOf118,
 v50:=Tryz.zeroValue118,
 t53:=Tryz.underlying420,
 a53:=Tryz.isAgg420,
 z53:=Tryz.sizeOf420,
 v53:=Tryz.zeroValue420,
 t55:=Tryz.underlying30,
 a55:=Tryz.isAgg30,
 z55:=Tryz.sizeOf30,
 v55:=Tryz.zeroValue30,
 t66:=Tryz.underlying463,
 a66:=Tryz.isAgg463,
 z66:=Tryz.sizeOf463,
 v66:=Tryz.zeroValue463,
 t70:=Tryz.underlying466,
 a70:=Tryz.isAgg466,
 z70:=Tryz.sizeOf466,
 v70:=Tryz.zeroValue466,
 t76:=Tryz.underlying500,
 a76:=Tryz.isAgg500,
 z76:=Tryz.sizeOf500,
 v76:=Tryz.zeroValue500,
 t77:=Tryz.underlying501,
 a77:=Tryz.isAgg501,
 z77:=Tryz.sizeOf501,
 v77:=Tryz.zeroValue501}
theorem DU (a: -9223372036854775808<=n) (b:n<=9223372036854775807):IntKind.wrap .i64 n=n:=by
 simp [IntKind.wrap,IntKind.signed,IntKind.bits];omega
theorem aeN (x y) (W):Calls Tryz.prog 126 #[.agg #[.int .u64 x.1.1,x.1.2],.agg #[.int .u64 y.1.1,y.1.2]] W λe w'=>e= .returned (.int .i64 (qi x y))/\∃q os',w'=grow (W.drewN q) os':=by
 obtain ⟨⟨a,u⟩,⟨ha0,ha1⟩,hu⟩:=x;obtain ⟨⟨b,v⟩,⟨hb0,hb1⟩,hv⟩:=y;simp only at ha0 ha1 hb0 hb1;have e1:IntKind.wrap .i64 a=a:=DU (by omega) (by omega);have e2:IntKind.wrap .i64 b=b:=DU (by omega) (by omega);have e3:IntKind.wrap .i64 (a - b)=a - b:=DU (by omega) (by omega);simp only [qi];clear hu hv
 go_enter Tryz.func126,Tryz.ntmps126
 go_wp2
 go_ret
 refine ⟨?_,0,_,by rw [alloc_eq_grow,alloc_eq_grow,grow_grow];rfl⟩;simp [e1,e2,e3]
theorem adb:SortPays Tryz.prog 125 126 QR qi where
 some_ j cap d w C I J:=AnyQ.slices_SortFunc Kv 2 Tryz.isAgg125 Tryz.sizeOf125 fT (λ_=>rfl) (λx v a=>by
  simp only [fT,a8,eu,ep] at a;rcases a with rfl|rfl
  ·rfl
  ·exact x.2.2) qi aiN 126 #[] j 0 cap d w (enters_of Tryz.func126 (by kernel_rfl) rfl) (λ_ _ _ _ x y=>aeN x y _) C I J
 none_ p cap w:=AnyF.slices_SortFunc_none Kv p cap _ w
theorem agO (a b):rB (aX a,aX b)=some (yn (aX a) (aX b)):=by
 unfold rB rn yn;simp only [ai,akn];by_cases d:aX a= -1
 ·by_cases c:aX b= -1
  ·simp [d,c,fG]
  ·have f:=VV c;have e:fG (dW (-1)) (dW (aX b))=true:=p9.2 (.inl (by rw [IL];show (-2:Int) <_;omega));simp [d,c,e]
 ·by_cases c:aX b= -1
  ·have f:=VV d;have e:fG (dW (aX a)) (dW (-1))=false:=xX.2 (by rw [IL];show ¬ (_<(-2:Int)\/_=(-2:Int)/\_);omega);have g:fG (dW (-1)) (dW (aX a))=true:=p9.2 (.inl (by rw [IL];show (-2:Int) <_;omega));simp [d,c,e,g]
  ·simp only [d,c,aK,aa,ako d c,akq d c];cases fG (dW (aX a)) (dW (aX b)) <;>cases fG (dW (aX b)) (dW (aX a)) <;>rfl
theorem pM (a b):gY (a,b)=some (cT a b):=by
 unfold gY pK cT;simp only [ai,al,ax,aa];by_cases h:a<b
 ·simp [h]
 ·by_cases c:b<a <;>simp [h,c]
theorem Of (a b):pH [a,b]=some (bif decide (a=0) then b else a):=by
 unfold pH;simp only [aW,dy];have e0:rd (.int .i64) [a,b] 0=a:=rfl;have f:rd (.int .i64) [a,b] 1=b:=rfl;refine (bE (λx=>x=(0,0)\/(x=(0,1)/\a=0)\/(x=(0,2)/\a=0/\b=0)) (λx=>2 - x.2.toNat) (λ_=>(bif decide (a=0) then b else a)) ?_ (0,0) (.inl rfl));rintro x (rfl| ⟨rfl,d⟩| ⟨rfl,d,e⟩) g c
 ·by_cases d:a=0
  ·have:=c (0,1) (.inr (.inl ⟨rfl,d⟩)) (by simp);subst d;simp [ae,e0,IntKind.wrap,IntKind.signed,IntKind.bits];simpa using this
  ·simp [ae,e0,d]
 ·subst d;by_cases e:b=0
  ·have:=c (0,2) (.inr (.inr ⟨rfl,rfl,e⟩)) (by simp);subst e;simp [ae,f,IntKind.wrap,IntKind.signed,IntKind.bits];simpa using this
  ·simp [ae,f,e]
 ·subst d;subst e;simp
theorem ade:SortPays Tryz.prog 375 376 QM oN where
 some_ j cap d w J I R:=AnyQ.slices_SortFunc Kw 2 Tryz.isAgg538 Tryz.sizeOf538 fT (λ_=>rfl) (λx v c=>by
  simp only [fT,a8,eu,ep] at c;rcases c with rfl|rfl
  ·rfl
  ·obtain ⟨_,b,I⟩:=x.2
   rw [I];rfl) oN aiO 376 #[] j 0 cap d w (enters_of Tryz.func376 (by kernel_rfl) rfl) (akI (λa b e=>by
  obtain ⟨u,v,f,c⟩:=e
  have h:tM (a,b)=some (eN a b):=by
   unfold tM;simp only [<-f,<-c,agO,pM,Of,ai];rw [eN,<-f,<-c]
  exact λW ok vs _ i k=>IZ (C:=wE) (RT.JA vW) mixed Lt Tryz.func376 (Di vR (a,b)) (by rw [Ls];exact h) W ok vs (λg t l m=>by cases m) i k) _ _ _ _) J I R
 none_ p cap w:=AnyF.slices_SortFunc_none Kw p cap _ w
end
end
end Go.Proofs.YtkihadlgknhpkaaGreatDoor.T
namespace Go.Proofs.YtkihadlgknhpkaaGreatDoor.T
open Go Go.Fw Go.Proofs
set_option maxRecDepth 100000
abbrev ad5:List ATy:= [.agg tC]
abbrev ad6:RT:=(.one (.leaf (.int .i64)))
theorem aek (d:∀b,ok b->b<w.heap.size) (h:jH w ok Y2 A l):rL w.heap.size w (.slice A l.length cap) l:=
 ⟨A,cap,rfl,λf=>by
  obtain ⟨b,off,e,g,k⟩:=h f;refine ⟨b,off,e,d b g,λj x m i u n=> ?_⟩;obtain ⟨c,hd,a⟩:=k j x m
  have o:c= [.int .u64 x.1,.int .i64 x.2.1,.int .u64 x.2.2.1,.int .u64 x.2.2.2]:=by
   obtain ⟨c1,t,rfl,p,v,y,rfl,q,z,B,rfl,r,s⟩:=hd;rw [p.1,q.1,r.1,s.1];rfl
  subst o
  exact a i u (by simpa [j9] using n)⟩
theorem adR (G) (b) (q) (h:some (jG b)=some q):iH Tryz.prog G 172 (encs ad5 b) (ad6.enc q):=by
 intro w ok vs L g z;obtain ⟨s,zs⟩:=b;cases h;simp only [encs,ATy.enc,Ty.leaves] at z;obtain ⟨v,M,m,⟨a,rfl,B⟩,C⟩:=z;simp only [au] at C;subst C
 have i:vs= #[.agg a]:=by
  apply Array.ext';simpa using m
 subst i;simp only [dP,fJ,au] at B;obtain ⟨N,O,D,⟨o,E⟩,P,Q,p,r,F⟩:=B;obtain ⟨A,n,H,R,S,j⟩:=r;subst o p F H
 have t:a= #[.int .u64 s,.slice A zs.length n]:=by
  apply Array.ext';simpa using D
 subst t
 have u:0<=s/\s<18446744073709551616:=by
  have x:=by simpa [Lit.wf] using E
  have o:IntKind.u64.min=0:=rfl;have p:IntKind.u64.max=18446744073709551615:=rfl;rw [o,p] at x;exact ⟨x.1,Int.lt_of_le_of_lt x.2 (by decide)⟩
 have I:=ahW Fence.wide 3 aO aO aO aO rfl (aR _) s u A n zs (by omega) w (aek g j);refine (callsIn_wide.1 I).mono ?_;rintro e w' ⟨rfl,f,hd⟩;refine ⟨.int .i64 (jG (s,zs)),ok,[],rfl,⟨f.os,f.tape,f.output,f.size,λk J _=>f.block k J,hd⟩,λb f=>f,λb l=>⟨eW (g b l) f.size,.inl l⟩,?_,mD,by simp⟩
 have K:(Lit.int .i64 (jG (s,zs))).wf=true:=by
  have y:∀c d,(Lit.int .i64 (bif c then (1:Int) else bif d then 0 else 1)).wf=true:=by decide
  exact y _ _
 exact ⟨rfl,rfl,K⟩
end Go.Proofs.YtkihadlgknhpkaaGreatDoor.T
