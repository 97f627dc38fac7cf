/- Part 1: lemmas that the last text needs. -/
import Derived.Test.YtkihadlgknhpkaaGreatDoorX0
import Derived.Calls
import Derived.Orders
import GoSem.Claim
set_option linter.all false
set_option autoImplicit true
set_option relaxedAutoImplicit true
namespace Go.Fw
inductive Ty where
 |int (k:IntKind)|bool|str|unit|flt
 |pair (a b:Ty)
 |slice (e:TypeId) (a:Ty)
 deriving DecidableEq
@[reducible] def Ty.den:Ty->Type
 | .int _=>Int| .bool=>Bool| .str=>List Int| .unit=>Unit| .flt=>Int
 | .pair a b=>a.den×b.den
 | .slice _ a=>List a.den
def Ty.dflt:(t:Ty)->t.den
 | .int _=>(0:Int)| .bool=>false| .str=>([]:List Int)| .unit=>()| .flt=>(0:Int)
 | .pair a b=>(a.dflt,b.dflt)
 | .slice _ _=> []
def Ty.size:Ty->Nat
 | .unit=>0| .pair a b=>a.size+b.size|_=>1
def rd (t:Ty) (l:List t.den) (i:Int):=l.getD i.toNat t.dflt
structure MTy where
 k:Ty
 v:Ty
 s:Bool
 deriving DecidableEq
inductive PV where
 |undef
 |int (k:IntKind) (n:Int)
 |bool (b:Bool)
 |str (s:List Int)
 |flt (x:Int)
 |sl (e:TypeId) (t:Ty) (l:List t.den)
 |full (e:TypeId) (t:Ty) (l:List t.den)
 |fresh (e:TypeId) (t:Ty) (l:List t.den)
 |own (k:Nat)
 |agg (c:List PV)
 |tup (c:List PV)
 |ptr (k:Nat) (off:Nat)
 |cptr (c:List PV)
 |optr (k:Nat) (i:Int) (sz off:Nat)
 |bx (c:List PV)
 |fn (f:FuncId) (caps:List PV)
 |bfn (f:FuncId) (p:PV)
 |sptr (k off n:Nat) (t:Ty) (i:Int) (fo:Nat)
 |gd (j:Nat) (w:Bool) (v:PV)
 |view (k lo n sz:Nat)
 |nilptr|nilfn|nilerr
 |none_
 |mown (k:Nat)
 |mnone
 |mp (m:MTy) (l:List (m.k.den×m.v.den))
 deriving Inhabited
inductive Tr where
 |nil
 |leaf (v:PV)
 |node (a b c d:Tr)
noncomputable section
def nj {α:Type} (i:Nat) (a b c d:α):α:=Nat.rec a (λn _=>Nat.rec b (λm _=>Nat.rec c (λ_ _=>d) m) n) i
def Tr.go (t:Tr):Nat->PV:=Tr.rec (λ_=> .undef) (λv i=>Bool.rec .undef v (Nat.beq i 0)) (λ_ _ _ _ a b c d i=>nj (Nat.mod i 4) a b c d (Nat.div i 4)) t
def Tr.set (t:Tr):Nat->PV->Tr:=Tr.rec (λ_ _=> .nil) (λu i v=>Bool.rec (.leaf u) (.leaf v) (Nat.beq i 0))
 (λa b c d e f g h i v=>nj (Nat.mod i 4) (.node (e (Nat.div i 4) v) b c d) (.node a (f (Nat.div i 4) v) c d) (.node a b (g (Nat.div i 4) v) d) (.node a b c (h (Nat.div i 4) v))) t
def Tr.has (t:Tr):Nat->Bool:=Tr.rec (λ_=>false) (λ_ i=>Nat.beq i 0) (λ_ _ _ _ a b c d i=>nj (Nat.mod i 4) a b c d (Nat.div i 4)) t
def Tr.mapI (f:Nat->PV->PV) (t:Tr):Nat->Nat->Tr:=Tr.rec (λ_ _=> .nil) (λv e _=> .leaf (f e v))
 (λ_ _ _ _ a b c d e g=> .node (a e (4*g)) (b (e+g) (4*g)) (c (e+2*g) (4*g)) (d (e+3*g) (4*g))) t
def Tr.mk:Nat->Nat->Tr
 |0,_=> .nil
 |f+1,n=>bif Nat.beq n 0 then .nil else bif Nat.beq n 1 then .leaf .undef else .node (mk f (Nat.div (n+3) 4)) (mk f (Nat.div (n+2) 4)) (mk f (Nat.div (n+1) 4)) (mk f (Nat.div n 4))
structure Sl where
 t:Tr
 g:List Nat
def Db (v:PV) (g:List Nat):=match v with| .gd s _ _=>s::g|_=>g
def Sl.go (s:Sl) (i):=s.t.go i
def Sl.has (s:Sl) (i):=s.t.has i
def Sl.set (s:Sl) (i:Nat) (v:PV):Sl:=⟨s.t.set i v,Db v s.g⟩
def Sl.map (f:PV->PV) (s:Sl):Sl:=⟨s.t.mapI (λ_=>f) 0 1,s.g⟩
def Sl.vo:Sl->Nat->List PV->Sl
 |s,_,[]=>s
 |s,i,v::r=>vo (s.set i v) (i+1) r
def Sl.oP (n) (l):=Sl.vo ⟨Tr.mk n n,[]⟩ 0 l
end
inductive Ob where
 |box (c:List PV)
 |row (e:TypeId) (t:Ty) (l:List t.den)
 |arr (e:TypeId) (t:Ty) (n:Nat) (l:List t.den)
 |frow (e:TypeId) (t:Ty) (l:List t.den)
 |held (c:Sl)
 |mp (m:MTy) (l:List (m.k.den×m.v.den))
 |iter (m:MTy) (left:List (m.k.den×m.v.den)) (cur:Option (m.k.den×m.v.den))
 |gone
 |pm (l:List (Int× (Nat×Nat)))
structure St where
 s:Sl
 o:List (Nat×Nat×Ob)
noncomputable section
namespace St
def get (a:St) (i):=a.s.go i
def set (a:St) (i:Nat) (v:PV):St:=⟨a.s.set i v,a.o⟩
def put (a:St) (d:Option Nat) (v:PV):=match d with|some i=>a.set i v|none=>a
def dH:List (Nat×Nat×Ob)->Nat->Option (Nat×Ob)
 | [],_=>none
 | (k,o)::r,i=>bif Nat.beq k i then some o else dH r i
def obj (a:St) (k:Nat):Option Ob:=match dH a.o k with|some (_,o)=>some o|none=>none
def lG:List (Nat×Nat×Ob)->Nat->Ob->List (Nat×Nat×Ob)
 | [],_,_=> []
 | (k,v,o)::r,i,o'=>bif Nat.beq k i then (k,v+1,o')::r else (k,v,o)::lG r i o'
def setO (a:St) (k:Nat) (o:Ob):St:=⟨a.s,lG a.o k o⟩
def del (a:St) (k):=a.setO k .gone
end St
mutual
def PV.refs:PV->Nat->Bool
 | .own k,i| .ptr k _,i| .optr k _ _ _,i| .view k _ _ _,i| .mown k,i| .sptr k _ _ _ _ _,i=>Nat.beq k i
 | .bfn _ p,i=>p.refs i
 | .agg c,i| .tup c,i| .cptr c,i| .bx c,i| .fn _ c,i=>PV.jJ c i
 | .gd _ _ v,i=>v.refs i
 |_,_=>false
def PV.jJ:List PV->Nat->Bool
 | [],_=>false
 |v::r,i=>v.refs i || PV.jJ r i
end
def PV.isGd:PV->Bool
 | .gd ..=>true
 |_=>false
def Sl.refs (s:Sl) (i:Nat):Bool:=Tr.rec false (λv=>v.refs i) (λ_ _ _ _ a b c d=>a || (b || (c || d))) s.t
def Ob.refs:Ob->Nat->Bool
 | .box c,i=>PV.jJ c i
 | .held c,i=>c.refs i
 | .pm l,i=>l.any λe=>Nat.beq e.2.1 i
 |_,_=>false
def jz:List (Nat×Nat×Ob)->Nat->Bool
 | [],_=>false
 | (_,_,o)::r,i=>o.refs i || jz r i
def St.new (a:St) (k:Nat) (o):=
 bif a.s.refs k || jz a.o k || o.refs k then none else
 match St.dH a.o k with
 |none=>some ⟨a.s,(k,0,o)::a.o⟩
 |some (_,.gone)=>some (a.setO k o)
 |some _=>none
section
variable (P:Program)
inductive Lf where
 |data (t:Ty)|ptr|fn|err
def jb:List Lf->Option Ty
 | []=>some .unit
 | [.data t]=>some t
 | .data t::r=>(jb r).map (.pair t)
 |_=>none
def qa:Nat->TypeId->Option (List Lf)
 |0,_=>none
 |n+1,t=>
  match P.underlying t with
  |some .bool=>some [.data .bool]
  |some (.float .f64)=>some [.data .flt]
  |some (.int k)=>some [.data (.int k)]
  |some .string=>some [.data .str]
  |some (.slice e)=>match (qa n e).bind jb with|some j=>some [.data (.slice e j)] |none=>none
  |some (.pointer _)=>some [.ptr]
  |some (.func ..)=>some [.fn]
  |some (.struct I)=>I.toList.foldr (λf r=>match qa n f.type,r with|some a,some b=>some (a++b)|_,_=>none) (some [])
  |some (.array k e)=>match qa n e with|some a=>some ((List.replicate k a).flatten)|none=>none
  |_=>none
def leaves (t):=qa P 16 t
def nf (t):=(leaves P t).bind jb
def amc (t:TypeId):Bool:=match P.underlying t with|some (.struct _)|some (.array _ _)=>true|_=>false
end
def Hw:Lf->Value->Option PV
 | .data (.int k),.int j n=>if k=j/\n=0 then some (.int k 0) else none
 | .data .bool,.bool false=>some (.bool false)
 | .data .flt,.float .f64 n=>if n=0 then some (.flt 0) else none
 | .data .str,.string s=>bif Nat.beq s.size 0 then some (.str []) else none
 | .data (.slice e t),.slice none 0 0=>some (.full e t [])
 | .ptr,.pointer none=>some .nilptr
 | .fn,.nilFunc=>some .nilfn
 |_,_=>none
def rO:List Lf->List Value->Option (List PV)
 | [],[]=>some []
 |f::j,v::vs=>match Hw f v,rO j vs with|some p,some I=>some (p::I)|_,_=>none
 |_,_=>none
def nb (P:Program) (t:TypeId):Option (List PV):=match P.info? t with
 |some i=>match i.zero,leaves P t with
  |some z,some ls=>if z.cells.size=i.size then rO ls z.cells.toList else none
  |_,_=>none
 |none=>none
def Ty.leaves:(t:Ty)->t.den->List PV
 | .int k,x=> [.int k x] | .bool,x=> [.bool x] | .str,x=> [.str x] | .unit,_=> [] | .flt,x=> [.flt x]
 | .pair a b,x=>a.leaves x.1++b.leaves x.2
 | .slice e t,x=> [.sl e t x]
def St.list (a:St):PV->Option ((_:TypeId)× (t:Ty)×List t.den)
 | .sl e t l| .full e t l=>some ⟨e,t,l⟩
 | .own k=>match a.obj k with|some (.row e t l)|some (.frow e t l)=>some ⟨e,t,l⟩|_=>none
 |_=>none
def Ty.take:(t:Ty)->List PV->Option (t.den×List PV)
 | .int k,.int I n::r=>if I=k then some (n,r) else none
 | .bool,.bool b::r=>some (b,r)
 | .flt,.flt b::r=>some (b,r)
 | .str,.str s::r=>some (s,r)
 | .unit,r=>some ((),r)
 | .pair a b,r=>match a.take r with|some (x,r)=>(match b.take r with|some (y,r)=>some ((x,y),r)|none=>none)|none=>none
 | .slice _ t,.sl _ j l::r| .slice _ t,.full _ j l::r=>if h:j=t then some (h ▸ l,r) else none
 |_,_=>none
def Ty.of (t:Ty) (c:List PV):Option t.den:=match t.take c with|some (x,[])=>some x|_=>none
def ku (P:Program) (e:TypeId):Option ((t:Ty)×t.den):=match nf P e,nb P e with
 |some t,some c=>match t.of c with
  |some x=>if t.size=P.cellsOf e/\0<t.size/\0<P.bytesOf e then some ⟨t,x⟩ else none
  |none=>none
 |_,_=>none
def PV.cells:PV->List PV
 | .agg c=>c
 |v=> [v]
def St.freeze (a:St) (k:Nat):St:=match a.obj k with|some (.row e t l)=>a.setO k (.frow e t l)|_=>a
def St.plain (a:St):PV->Option (PV×St)
 | .own k=>match a.obj k with
   |some (.row e t l)=>some (.sl e t l,a.setO k (.frow e t l))
   |some (.frow e t l)=>some (.sl e t l,a)
   |_=>none
 |v=>some (v,a)
def St.plainL (a:St):List PV->Option (List PV×St)
 | []=>some ([],a)
 |v::r=>match a.plain v with|some (v,a)=>(match a.plainL r with|some (r,a)=>some (v::r,a)|none=>none)|none=>none
def St.oO (x:Nat):Nat->St->List PV->Option (List PV×St)
 |_,j,[]=>some ([],j)
 |i,j,v::r=>bif Nat.beq (i+1) (x % 1048576) || Nat.beq (i+1) (x / 1048576) then (match St.oO x (i+1) j r with|some (r,j)=>some (v::r,j)|none=>none)
  else match j.plain v with|some (v,j)=>(match St.oO x (i+1) j r with|some (r,j)=>some (v::r,j)|none=>none)|none=>none
def aX (b:Nat):Int:=match Ieee.double.read b with| .nan ..=> -1|_=>b
def oJ (n):=aX (FloatKind.f64.nearest n)
def uY (op:BinOp) (x y:Nat):=match op with
 | .add=>some (Ieee.double.add x y)
 | .sub=>some (Ieee.double.sub x y)
 | .mul=>some (Ieee.double.mul x y)
 | .quo=>some (Ieee.double.div x y)
 |_=>none
def nv (op:BinOp) (x y:Int):Int:=if x= -1\/y= -1 then -1 else match uY op x.toNat y.toNat with
 |some (some r)=>aX r
 |_=> -1
def oH:BinOp->Bool
 | .add| .sub| .mul| .quo=>true
 |_=>false
def lB (x y):=if x= -1\/y= -1 then none else Ieee.double.order x.toNat y.toNat
def jD (op:BinOp) (x y:Int):Bool:=match op with
 | .eql=>lB x y==some .eq
 | .neq=>lB x y !=some .eq
 | .lss=>lB x y==some .lt
 | .leq=>lB x y==some .lt || lB x y==some .eq
 | .gtr=>lB x y==some .gt
 | .geq=>lB x y==some .gt || lB x y==some .eq
 |_=>false
def ya:BinOp->Bool
 | .eql| .neq| .lss| .leq| .gtr| .geq=>true
 |_=>false
def aG (a:St):Operand->PV
 | .tmp t=>a.get t
 | .const (.int k n)=>bif (Lit.int k n).wf then .int k n else .undef
 | .const (.bool b)=> .bool b
 | .const (.float .f64 n)=> .flt (aX n)
 | .const (.string s)=>bif Nat.ble s.size 4294967296 then .str (s.data.toList.map λb=>(b.toNat:Int)) else .undef
 | .const (.pointer none)=> .nilptr
 | .const .nilFunc=> .nilfn
 | .const .nilIface=> .nilerr
 | .const (.slice none 0 0)=> .none_
 | .const (.map none)=> .mnone
 | .func f=> .fn f []
 |_=> .undef
def dw (P:Program) (a:TypeId):Ty->Bool
 | .int _=>(match P.underlying a with|some (.int _)=>true|_=>false)
 | .bool=>(match P.underlying a with|some .bool=>true|_=>false)
 | .str=>(match P.underlying a with|some .string=>true|_=>false)
 |_=>false
def di (P:Program):Nat->List Field->Ty->Bool
 |i,[f],t=>f.offset=i && f.name != "_" && dw P f.type t
 |i,f::g::j,.pair a b=>f.offset=i && f.name != "_" && dw P f.type a && di P (i+1) (g::j) b
 |_,_,_=>false
def dG (P:Program):Nat->List Field->Ty->Bool
 |i,[f],t=>f.offset=i && f.name != "_" && (dw P f.type t || match P.underlying f.type with|some (.struct j)=>di P 0 j.toList t && !P.stoodInHeld f.type && P.cellsOf f.type=t.size|_=>false)
 |i,f::g::I,.pair a b=>f.offset=i && f.name != "_" && dw P f.type a && dG P (i+1) (g::I) b
 |_,_,_=>false
def nq (P:Program) (t:TypeId):Option MTy:=match P.underlying t with
 |some (.map k e)=>match P.underlying k,nf P k,nf P e with
  |some (.struct b),some a,some vt=>bif dG P 0 b.toList a && dw P e vt && !P.stoodInHeld k then some ⟨a,vt,false⟩ else none
  |some _,some a,some vt=>bif dw P k a && dw P e vt then some ⟨a,vt,true⟩ else none
  |_,_,_=>none
 |_=>none
def cN (P:Program) (t:TypeId):PV->PV
 | .mnone=>match nq P t with|some m=> .mp m [] |none=> .undef
 | .none_=>match P.underlying t with
   |some (.slice e)=>match nf P e with|some j=> .full e j [] |none=> .undef
   |_=> .undef
 |v=>v
def qj:List Int->List Int->Bool
 |_,[]=>false
 | [],_::_=>true
 |a::x,b::y=>decide (a<b) || (decide (a=b) && qj x y)
def jF (P:Program) (t:TypeId):PV->PV->Option Bool
 | .int k a,.int j b=>match P.underlying t with|some (.int _)=>if k=j then some (decide (a=b)) else none|_=>none
 | .bool a,.bool b=>match P.underlying t with|some .bool=>some (a==b)|_=>none
 | .str a,.str b=>match P.underlying t with|some .string=>some (decide (a=b))|_=>none
 |_,_=>none
def lE (P:Program):Nat->List Field->List PV->List PV->Option Bool
 |i,f::a,p::j,q::I=>if f.offset=i && f.name != "_" then
  (match jF P f.type p q with
  |some x=>(match a.isEmpty with
   |true=>some x
   |false=>(match lE P (i+1) a j I with|some y=>some (x && y)|none=>none))
  |none=>none) else none
 |_,_,_,_=>none
def df (op:BinOp) (k:IntKind) (a b:Int):=
 match op with
 | .and=>k.wrap (BitVec.ofInt k.bits a &&& BitVec.ofInt k.bits b).toNat
 | .or=>k.wrap (BitVec.ofInt k.bits a ||| BitVec.ofInt k.bits b).toNat
 | .xor=>k.wrap (BitVec.ofInt k.bits a^^^BitVec.ofInt k.bits b).toNat
 | .andNot=>k.wrap (BitVec.ofInt k.bits a &&& ~~~BitVec.ofInt k.bits b).toNat
 |_=>0
def IB (op:BinOp) (k:IntKind) (a:Int) (c:IntKind) (b:Int):Option PV:=
 match op with
 | .add=>if k=c then some (.int k (k.wrap (a+b))) else none
 | .sub=>if k=c then some (.int k (k.wrap (a - b))) else none
 | .mul=>if k=c then some (.int k (k.wrap (a*b))) else none
 | .and| .or| .xor| .andNot=>if k=c then some (.int k (df op k a b)) else none
 | .eql=>if k=c then some (.bool (decide (a=b))) else none
 | .neq=>if k=c then some (.bool (!decide (a=b))) else none
 | .lss=>if k=c then some (.bool (decide (a<b))) else none
 | .leq=>if k=c then some (.bool (decide (a<=b))) else none
 | .gtr=>if k=c then some (.bool (decide (b<a))) else none
 | .geq=>if k=c then some (.bool (decide (b<=a))) else none
 | .shl=>if c.signed then none else some (.int k (k.wrap (a*2^ (min b.toNat k.bits))))
 | .shr=>if c.signed then none else some (.int k (a / 2^ (min b.toNat k.bits)))
 |_=>none
def CZ (op:BinOp) (k:IntKind) (a:Int) (c:IntKind) (b:Int):Option (Bool×PV):=
 match op with
 | .quo=>if k=c then some (!decide (b=0),.int k (k.wrap (a.tdiv b))) else none
 | .rem=>if k=c then some (!decide (b=0),.int k (a.tmod b)) else none
 | .shl=>if c.signed then some (decide (0<=b),.int k (k.wrap (a*2^ (min b.toNat k.bits)))) else none
 | .shr=>if c.signed then some (decide (0<=b),.int k (a / 2^ (min b.toNat k.bits))) else none
 |_=>none
def HL (op:BinOp) (a b:List Int):Option PV:=
 match op with
 | .eql=>some (.bool (decide (a=b)))
 | .neq=>some (.bool (!decide (a=b)))
 | .lss=>some (.bool (qj a b))
 | .geq=>some (.bool (!qj a b))
 | .gtr=>some (.bool (!(qj a b || decide (a=b))))
 | .leq=>some (.bool (qj a b || decide (a=b)))
 |_=>none
def qm (P:Program) (t:TypeId) (op:BinOp):PV->PV->Option PV
 | .int k a,.int j b=>IB op k a j b
 | .str a,.str b=>HL op a b
 | .flt a,.flt b=>bif ya op then some (.bool (jD op a b)) else none
 | .bool a,.bool b=>match P.underlying t,op with|some .bool,.eql=>some (.bool (a==b))|some .bool,.neq=>some (.bool (!(a==b)))|_,_=>none
 | .agg a,.agg b=>match P.underlying t with
   |some (.struct I)=>bif P.stoodInHeld t || P.eqGuardType P.depth t then none else
    (match op,lE P 0 I.toList a b with
    | .eql,some r=>some (.bool r)
    | .neq,some r=>some (.bool (!r))
    |_,_=>none)
   |_=>none
 |_,_=>none
def HB (op:UnOp):PV->Option PV
 | .bool b=>match op with| .not=>some (.bool (!b))|_=>none
 | .int k n=>match op with| .neg=>some (.int k (k.wrap (0 - n)))|_=>none
 |_=>none
def De (P:Program) (s:TypeId) (f:Nat):Option Field:=match P.underlying s with|some (.struct a)=>a[f]?|_=>none
def kh (P:Program) (t:TypeId) (c:List PV) (off:Nat):Option PV:=
 match P.underlying t with
 |some (.struct _)|some (.array _ _)=>if off+P.cellsOf t<=c.length then some (.agg ((c.drop off).take (P.cellsOf t))) else none
 |some _=>c[off]?
 |none=>none
def pV (t:Ty):Nat->List PV->Option (List t.den)
 |0,[]=>some []
 |n+1,c=>match t.take c with|some (x,r)=>(match pV t n r with|some l=>some (x::l)|none=>none)|none=>none
 |_,_=>none
def yj (t:Ty) (n off:Nat) (c:List PV):=pV t n ((c.drop off).take (n*t.size))
def splice (c:List PV) (off:Nat) (v):=c.take off++v++c.drop (off+v.length)
def St.cellsAt (a:St):PV->Option (List PV)
 | .ptr k off=>match a.obj k with|some (.box c)=>some (c.drop off)|_=>none
 | .cptr c=>some c
 | .sptr k off n t i j=>match a.obj k with
   |some (.box c)=>match yj t n off c with|some b=>some ((t.leaves (rd t b i)).drop j)|none=>none
   |_=>none
 | .optr k i I off=>match a.obj k with
   |some (.row _ t l)|some (.arr _ t _ l)=>if I=t.size then some ((t.leaves (rd t l i)).drop off) else none
   |_=>none
 |_=>none
def gG (P:Program) (e:St) (o:Oper):=
 match o.op with
 | .move x| .assign x=>some (cN P o.type (aG e x))
 | .binOp op t x y u=>qm P t op (cN P t (aG e x)) (cN P u (aG e y))
 | .unOp op _ x=>HB op (aG e x)
 | .convert s d x=>match aG e x,P.underlying s,P.underlying d with
   | .int _ n,some _,some (.int k)=>some (.int k (k.wrap n))
   | .int _ n,some _,some (.float .f64)=>some (.flt (oJ n))
   | .str s,some _,some .string=>some (.str s)
   |_,_,_=>none
 | .extract x i=>match aG e x with| .tup c=>c[i]?|_=>none
 | .field t x i=>match aG e x,De P t i with| .agg c,some f=>kh P f.type c f.offset|_,_=>none
 | .fieldAddr s x i=>match De P s i with
   |some f=>if P.cellsOf f.type=0 then none else match aG e x with
    | .ptr k off=>some (.ptr k (off+f.offset))
    | .optr k i h off=>some (.optr k i h (off+f.offset))
    | .sptr k off n t i j=>some (.sptr k off n t i (j+f.offset))
    | .cptr c=>some (.cptr (c.drop f.offset))
    |_=>none
   |none=>none
 | .load t x=>match e.cellsAt (aG e x) with
   |some c=>kh P t c 0
   |none=>none
 | .nilCheck x=>match aG e x with| .sptr k off n t i j=>some (.sptr k off n t i j)| .ptr k off=>some (.ptr k off)| .optr k i h off=>some (.optr k i h off)| .cptr c=>some (.cptr c)| .fn f c=>some (.fn f c)|_=>none
 | .makeFunc (.func f) g caps=>if g.isEmpty then some (.fn f (caps.toList.map (aG e))) else match g.toList,caps.toList with
   | [x],[]=>some (.bfn f (aG e x))
   |_,_=>none
 | .call {callee:= .builtin .len,args,argTypes}=>match args.toList,argTypes.toList with
   | [x],[t]=>match P.underlying t,aG e x with
     |some .string,.str s=>some (.int .i64 s.length)
     |some (.slice _),v=>match e.list (cN P t v) with|some ⟨_,_,l⟩=>some (.int .i64 l.length)|none=>none
     |_,_=>none
   |_,_=>none
 | .call {callee:= .builtin .cap,args,argTypes}=>match args.toList,argTypes.toList with
   | [x],[t]=>match P.underlying t,cN P t (aG e x) with
     |some (.slice _),.full _ _ l=>some (.int .i64 l.length)
     |_,_=>none
   |_,_=>none
 | .call {callee:= .builtin .min,args,..}=>match args.toList with
   | [x,y]=>match aG e x,aG e y with| .int k a,.int m b=>if k=m then some (.int k (if b<a then b else a)) else none|_,_=>none
   |_=>none
 | .call {callee:= .builtin .max,args,..}=>match args.toList with
   | [x,y]=>match aG e x,aG e y with| .int k a,.int m b=>if k=m then some (.int k (if a<b then b else a)) else none|_,_=>none
   |_=>none
 |_=>none
structure Ctx where
 P:Program
 call:FuncId->List PV->{R:Type}->(PV->List (List PV)->Option R)->Option R
 marks:List Nat:= []
 inlined:FuncId->Bool:=λ_=>false
 inl:FuncId->List PV->St->{R:Type}->(PV->St->Option R)->Option R:=λ_ _ _ _ _=>none
 glob:Nat->Option ((t:Ty)×List t.den):=λ_=>none
 isExt:FuncId->Bool:=λ_=>false
 ext:FuncId->List PV->Option PV:=λ_ _=>none
def az:=140737488355328
def ae (i:Int) (n:Nat):=decide (0<=i) && decide (i<n)
def nA (a:St):PV->Option PV
 | .own k=>match a.obj k with|some (.row e t l)|some (.frow e t l)=>some (.sl e t l)|_=>none
 | .ptr k 0=>match a.obj k with|some (.box c)=>some (.bx c)|_=>none
 | .agg c=>(go c).map .agg
 | .undef| .gd ..| .none_| .cptr _| .optr ..| .ptr ..| .tup _| .bx _| .fresh ..| .view ..| .mown _| .mnone| .mp ..| .bfn ..| .sptr ..=>none
 | .fn f caps=>match caps with| []=>some (.fn f [])|_=>none
 |v=>some v
where go:List PV->Option (List PV)
 | []=>some []
 | .own k::r=>match a.obj k,go r with|some (.row e t l),some r|some (.frow e t l),some r=>some (.sl e t l::r)|_,_=>none
 | .full e t l::r=>(go r).map (.sl e t l:: ·)
 | .bfn ..::_| .sptr ..::_| .undef::_| .gd ..::_| .none_::_| .cptr _::_| .optr ..::_| .ptr ..::_| .tup _::_| .bx _::_| .fresh ..::_| .view ..::_| .agg _::_| .fn ..::_| .mown _::_| .mnone::_| .mp ..::_=>none
 |v::r=>(go r).map (v:: ·)
def yq (a:St):List PV->Option (List PV)
 | []=>some []
 |v::r=>match nA a v,yq a r with|some v,some r=>some (v::r)|_,_=>none
def ki (a:St) (k:Nat) (o:Ob):Option (Nat×St):=match a.new k o with
 |some s=>some (k,s)
 |none=>match a.new (k+1) o with
  |some s=>some (k+1,s)
  |none=>match a.new (k+2) o with
   |some s=>some (k+2,s)
   |none=>match a.new (k+3) o with
    |some s=>some (k+3,s)
    |none=>none
def sy (a:St) (k:Nat):PV->Option (PV×St)
 | .fresh e t l=>match ki a k (.row e t l) with|some (j,a)=>some (.own j,a)|none=>none
 | .bfn ..| .sptr ..| .undef| .own _| .ptr ..| .optr ..| .cptr _| .bx _| .gd ..| .agg _| .tup _| .fn ..| .none_| .view ..| .mown _| .mnone=>none
 |v=>some (v,a)
def qk (a:St) (k:Nat):List PV->Option (List PV×St)
 | []=>some ([],a)
 |v::r=>match sy a k v with
  |some (v,a)=>(match qk a (k+1) r with|some (r,a)=>some (v::r,a)|none=>none)
  |none=>none
def sw (a:St) (k:Nat):PV->Option (PV×St)
 | .agg c=>match qk a k c with|some (c,a)=>some (.agg c,a)|none=>none
 |v=>sy a k v
def ql (a:St) (k:Nat):List PV->Option (List PV×St)
 | []=>some ([],a)
 |v::r=>match sw a k v with
  |some (v,a)=>(match ql a (k+64) r with|some (r,a)=>some (v::r,a)|none=>none)
  |none=>none
def su (a:St) (d:Nat):PV->Option (PV×St)
 | .tup c=>match ql a (4096*d) c with|some (c,a)=>some (.tup c,a)|none=>none
 |v=>sw a (4096*d) v
def uW:PV->Bool
 | .int ..| .bool _| .str _| .flt _| .nilptr| .nilfn| .nilerr=>true
 |_=>false
def uV:PV->Bool
 | .agg c=>c.all uW
 |v=>uW v
def yf:List PV->Bool
 | []=>true
 |v::r=>uV v && yf r
def uX:PV->Bool
 | .tup c=>yf c
 |v=>uV v
def sk (a:St):PV->St
 | .own k=>a.freeze k
 | .agg c=>c.foldl (λa v=>match v with| .own k=>a.freeze k|_=>a) a
 |_=>a
def qg (P:Program) (f:FuncId):Bool:=match P.funcs[f]? with
 |some fn=>fn.body.isSome && fn.name != "runtime.NumGoroutine"
 |none=>false
section
variable (C:Ctx) {R:Type}
def ss (f:FuncId) (args:List PV) (d:Option Nat) (a:St) (K:St->Option R):Option R:=
 match yq a args,d with
 |some as,some d=>C.call f as λr _=>match su (bif uX r then a else args.foldl sk a) d r with
  |some (v,a)=>K (a.set d v)
  |none=>none
 |_,_=>none
def IU (f:FuncId) (args caps:List PV) (d:Option Nat) (a:St) (K:St->Option R):Option R:=match caps,C.ext f args with
 | [],some v=>bif uX v then K (a.put d v) else none
 |_,_=>none
def xO (a:St) (t:Ty):PV->Option (List t.den)
 | .str s=>if h:Ty.int .u8=t then some (h ▸ s) else none
 |v=>match a.list v with|some ⟨_,j,l⟩=>if h:j=t then some (h ▸ l) else none|none=>none
def vl (P:Program) (e:TypeId) (base src:PV) (d:Option Nat) (a:St) (K:St->Option R):Option R:=
 match d,ku P e with
 |some d,some ⟨t,_⟩=>match xO a t src,base with
  |some m,.own k=>match a.obj k with
   |some (.row f b l)=>if f=e then if h:b=t then bif decide ((l.length+m.length)*P.bytesOf e<=az) then (match ki (a.del k) (4096*d) (.row e t (h ▸ l++m)) with|some (c,a)=>K (a.set d (.own c))|none=>none) else none else none else none
   |_=>none
  |some m,.full _ b l=>if h:b=t then bif !m.isEmpty || l.isEmpty then bif decide ((l.length+m.length)*P.bytesOf e<=az) then (match ki a (4096*d) (.row e t (h ▸ l++m)) with|some (c,a)=>K (a.set d (.own c))|none=>none) else none else none else none
  |_,_=>none
 |_,_=>none
def Dm (P:Program) (e:TypeId) (base n:PV) (d:Option Nat) (a:St) (K:St->Option R):Option R:=match base,n,d,ku P e with
 | .full _ _ l,.int .i64 n,some d,some ⟨t,z⟩=>match l with
   | []=>bif decide (0<n) && decide (n.toNat*P.bytesOf e<=az) then (match a.new (4096*d) (.row e t (List.replicate n.toNat z)) with|some a=>K (a.set d (.own (4096*d)))|none=>none) else none
   |_::_=>none
 |_,_,_,_=>none
def qh (len:Nat):Option PV->Option PV->Option PV->Option (Bool×Nat×Nat×Bool)
 |none,some (.int _ h),none=>some (ae h (len+1),0,h.toNat,false)
 |some (.int _ l),none,none=>some (ae l (len+1),l.toNat,len,false)
 |some (.int _ l),some (.int _ h),none=>some (ae h (len+1) && (decide (0<=l) && decide (l<=h)),l.toNat,h.toNat,false)
 |none,none,none=>some (true,0,len,false)
 |none,some (.int _ h),some (.int _ m)=>some (ae h (len+1) && decide (h=m),0,h.toNat,true)
 |some (.int _ l),some (.int _ h),some (.int _ m)=>some (ae h (len+1) && (decide (0<=l) && decide (l<=h)) && decide (h=m),l.toNat,h.toNat,true)
 |_,_,_=>none
def cut {α:Type} (s:List α) (a b:Option PV) (l h:Nat):=match a,b with
 |none,none=>s
 |none,some _=>s.take h
 |some _,none=>s.drop l
 |some _,some _=>(s.take h).drop l
def Uw (P:Program) (t:TypeId) (x:PV) (b c mx:Option PV) (K:PV->Option R):Option R:=
 match P.underlying t,x with
 |some .string,.str s=>match qh s.length b c mx with
  |some (g,l,h,false)=>bif g then K (.str (cut s b c l h)) else none
  |_=>none
 |some (.slice d),.sl e a s|some (.slice d),.full e a s=>if a.size=P.cellsOf d/\a.size≠0 then (match qh s.length b c mx with
  |some (g,l,h,false)=>bif g then K (match x,s with| .full ..,[]=> .full e a [] |_,_=> .sl e a (cut s b c l h)) else none
  |some (g,l,h,true)=>bif g then K (.full e a (cut s b c l h)) else none
  |none=>none) else none
 |_,_=>none
def PV.one:PV->Bool
 | .int ..| .bool _| .str _| .flt _| .sl ..| .full ..| .own _| .ptr ..| .cptr _| .optr ..| .fn ..| .bfn ..| .nilptr| .nilfn| .nilerr| .none_=>true
 |_=>false
def mh {α:Type} (i:Int) (x:α):Nat->List α->List α
 |_,[]=> []
 |j,e::r=>(bif decide (i=(j:Int)) then x else e)::mh i x (j+1) r
def xN (P:Program) (t:TypeId) (b v:PV) (a:St) (K:St->Option R):=
 if v.cells.length=P.cellsOf t/\P.cellsOf t≠0/\v.cells.all PV.one then
  match b with
  | .ptr k off=>match a.obj k with
    |some (.box c)=>if off+v.cells.length<=c.length then K (a.setO k (.box (splice c off v.cells))) else none
    |_=>none
  | .optr k i d off=>match a.plainL v.cells with
    |some (vs,a)=>match a.obj k with
     |some (.row e t l)=>if d=t.size then (match t.of (splice (t.leaves (rd t l i)) off vs) with|some x=>K (a.setO k (.row e t (l.set i.toNat x)))|none=>none) else none
     |some (.arr e t n l)=>if d=t.size then (match t.of (splice (t.leaves (rd t l i)) off vs) with|some x=>K (a.setO k (.arr e t n (l.set i.toNat x)))|none=>none) else none
     |_=>none
    |none=>none
  | .sptr k off n t i g=>match a.plainL v.cells with
    |some (vs,a)=>match a.obj k with
     |some (.box c)=>match yj t n off c with
      |some f=>match t.of (splice (t.leaves (rd t f i)) g vs) with
       |some x=>K (a.setO k (.box (splice c off ((mh i x 0 f).flatMap t.leaves))))
       |none=>none
      |none=>none
     |_=>none
    |none=>none
  |_=>none
 else none
def oG (c:List PV) (d:Nat) (a:St) (K:St->Option R):Option R:=
 match ki a (4096*d) (.box c) with|some (b,a)=>K (a.set d (.ptr b 0))|none=>none
def yo (P:Program) (a:St) (b:Array Field):List PV->List (Nat×Operand)->Option (List PV)
 |c,[]=>some c
 |c,(i,x)::r=>match b[i]? with
  |some f=>let v:=(cN P f.type (aG a x)).cells
   if v.length=P.cellsOf f.type/\P.cellsOf f.type≠0/\f.offset+v.length<=c.length/\v.all PV.one then yo P a b (splice c f.offset v) r else none
  |none=>none
def vj (P:Program) (b:St) (e:TypeId) (a:Nat):List PV->List (Nat×Operand)->Option (List PV)
 |c,[]=>some c
 |c,(i,x)::r=>
  let v:=(cN P e (aG b x)).cells
  if v.length=a/\i*a+a<=c.length/\v.all PV.one then vj P b e a (splice c (i*a) v) r else none
def unw (c:Operand) (w:Bool):PV->PV
 | .gd s w' v=>match c with| .tmp j=>bif Nat.beq s j && (w==w') then san v else .undef|_=> .undef
 |v=>v
where san
 | .gd ..=> .undef
 |v=>v
def aj (a b:Option R):=open Classical in if a=b then a else none
def CJ (a:St) (p:PV) (K:Bool->Option R):Option R:=match a.list p with
 |some ⟨_,_,l⟩=>bif l.isEmpty then aj (K true) (K false) else K false
 |none=>none
def p8 (o:Oper) (b):=match o.dst with|some d=>C.marks.any (Nat.beq (b+d))|none=>false
def uK (i:Int) (f:Nat->Option R):Nat->Nat->Option R
 |0,_=>none
 |m+1,j=>bif decide (i=(j:Int)) then f j else uK i f m (j+1)
def Jk (P:Program) (n:Nat) (e:TypeId) (x:PV) (b d mx:Option Operand) (K:PV->Option R):Option R:=match x,b,d,mx,nf P e with
 | .cptr c,none,none,none,some a=>bif Nat.beq a.size (P.cellsOf e) && Nat.blt 0 a.size && Nat.ble n 4294967296 then (match yj a n 0 c with|some f=>K (.sl e a f)|none=>none) else none
 |_,_,_,_,_=>none
def CO (o:Oper) (b):=match o.dst with|some d=>C.marks.any (Nat.beq (2*d+b))|none=>false
def CH (P:Program) (t:TypeId) (x:PV) (c f mx:Option PV) (d:Option Nat) (a:St) (K:St->Option R):Option R:=match x,c,f,mx,d,P.underlying t with
 | .own k,none,some (.int _ h),none,some d,some (.slice g)=>match a.obj k with
   |some (.row e b l)=>if b.size=P.cellsOf g/\b.size≠0 then bif ae h (l.length+1) then (match (a.del k).new (4096*d) (.row e b (l.take h.toNat)) with|some a=>K (a.set d (.own (4096*d)))|none=>none) else none else none
   |_=>none
 |_,_,_,_,_,_=>none
def Cf (P:Program) (t:TypeId) (x:PV) (e f mx:Option PV) (d:Option Nat) (c:St) (K:St->Option R):Option R:=match x,e,f,mx,P.underlying t with
 | .own k,some (.int _ a),none,none,some (.slice g)=>match c.obj k with
   |some (.row _ b l)=>if b.size=P.cellsOf g/\b.size≠0 then bif ae a (l.length+1) then K (c.put d (.view k a.toNat (l.length - a.toNat) b.size)) else none else none
   |_=>none
 |_,_,_,_,_=>none
def I8 (P:Program) (j:TypeId) (b src:PV) (d:Option Nat) (a:St) (K:St->Option R):=match b with
 | .view k c n f=>match a.obj k with
   |some (.row e g l)=>if g.size=f/\f=P.cellsOf j/\f≠0 then (match xO a g src with
    |some m=>bif decide (m.length<=n) && decide (c+n<=l.length) then K ((a.setO k (.row e g (l.take c++m++l.drop (c+m.length)))).put d (.int .i64 m.length)) else none
    |none=>none) else none
   |_=>none
 |_=>none
def I9 (x:PV) (d:Option Nat) (a:St) (K:St->Option R):=match x with
 | .own k=>match a.obj k with
   |some (.row e t l)=>bif l.isEmpty then none else K ((a.setO k (.frow e t l)).put d (.sl e t l))
   |_=>none
 |_=>none
def cj:(t:Ty)->t.den->t.den->Bool
 | .int _,a,b=>decide (a=b)
 | .bool,a,b=>a==b
 | .flt,_,_=>false
 | .str,a,b=>decide (a=b)
 | .unit,_,_=>true
 | .pair s t,a,b=>cj s a.1 b.1 && cj t a.2 b.2
 | .slice _ _,_,_=>false
def cC (a vt:Ty) (z:vt.den):List (a.den×vt.den)->a.den->vt.den
 | [],_=>z
 |e::r,k=>bif cj a k e.1 then e.2 else cC a vt z r k
def dv (a vt:Ty):List (a.den×vt.den)->a.den->Bool
 | [],_=>false
 |e::r,k=>cj a k e.1 || dv a vt r k
def bK (a vt:Ty):List (a.den×vt.den)->a.den->vt.den->List (a.den×vt.den)
 | [],k,v=> [(k,v)]
 |e::r,k,v=>bif cj a k e.1 then (k,v)::r else e::bK a vt r k v
def CP (a:St) (m:MTy):PV->Option (List (m.k.den×m.v.den))
 | .mp m' l=>if h:m'=m then some (h ▸ l) else none
 | .mown k=>match a.obj k with|some (.mp m' l)=>if h:m'=m then some (h ▸ l) else none|_=>none
 |_=>none
def pT (P:Program) (e:TypeId):Bool:=match P.info? e with
 |some i=>(match i.zero with|some (.agg _)=>true|_=>false)
 |none=>false
def CN (P:Program) (t:TypeId) (m:MTy):Option m.v.den:=match P.underlying t with
 |some (.map _ e)=>bif pT P e then none else
  match nb P e with|some c=>m.v.of c|none=>none
 |_=>none
def xV (m:MTy) (ok:Bool) (x:m.v.den) (f:Bool):PV:=match m.v.leaves x with
 | [p]=>bif ok then .tup [p,.bool f] else p
 |_=> .undef
def MTy.key (m:MTy) (i):=match m.s,i with
 |true,i=>m.k.of [i]
 |false,.agg c=>m.k.of c
 |false,_=>none
def Iq (P:Program) (t:TypeId) (x i:PV) (ok:Bool) (d:Option Nat) (a:St) (K:St->Option R):Option R:=match nq P t with
 |some m=>match m.key i,CP a m x,CN P t m with
  |some q,some l,some z=>K (a.put d (xV m ok (cC m.k m.v z l q) (dv m.k m.v l q)))
  |_,_,_=>none
 |none=>none
def Is (P:Program) (t:TypeId) (p:PV) (d:Option Nat) (a:St) (K:St->Option R):Option R:=match nq P t with
 |some m=>match CP a m p with
  |some l=>bif decide (l.length<=9223372036854775807) then K (a.put d (.int .i64 l.length)) else none
  |none=>none
 |none=>none
def MTy.keyPV (m:MTy) (x):=match m.s with
 |true=>(match m.k.leaves x with| [p]=>p|_=> .undef)
 |false=> .agg (m.k.leaves x)
def MTy.valPV (m:MTy) (y:m.v.den):PV:=match m.v.leaves y with| [p]=>p|_=> .undef
def I4 (p:PV) (d:Option Nat) (a:St) (K:St->Option R):=match p with
 | .ptr k 0=>match a.obj k with
   |some (.iter m _ (some e))=>K (a.put d (.tup [m.keyPV e.1,m.valPV e.2]))
   |_=>none
 |_=>none
def jf {α R:Type} (l:List α) (f:α->List α->Option R):=open Classical in if h:∃r,l≠ []/\∀i x,l[i]?=some x->f x (l.eraseIdx i)=some r then some h.choose else none
def Ij (p:PV) (d:Option Nat) (a:St) (K:St->Option R):=match p with
 | .ptr k 0=>match a.obj k with
   |some (.iter m left _)=>bif left.isEmpty then K (a.put d (.tup [.bool false])) else jf left λe r=>K ((a.setO k (.iter m r (some e))).put d (.tup [.bool true,.undef,.undef]))
   |_=>none
 |_=>none
def HZ (P:Program) (t:TypeId) (p:PV) (d:Option Nat) (a:St) (K:St->Option R):Option R:=match nq P t,p,d with
 |some m,.mp m' l,some d=>if h:m'=m then (match a.new (4096*d) (.iter m (h ▸ l) none) with|some a=>K (a.set d (.ptr (4096*d) 0))|none=>none) else none
 |some m,.mown k,some d=>match a.obj k with
  |some (.mp m' l)=>if h:m'=m then (match (a.del k).new (4096*d) (.iter m (h ▸ l) none) with|some a=>K (a.set d (.ptr (4096*d) 0))|none=>none) else none
  |_=>none
 |_,_,_=>none
def Io (P:Program) (t:TypeId) (d:Option Nat) (a:St) (K:St->Option R):Option R:=match nq P t,d with
 |some m,some d=>match ki a (4096*d) (.mp m []) with|some (b,a)=>K (a.set d (.mown b))|none=>none
 |_,_=>none
def xT (P:Program) (t:TypeId) (x i v:PV) (d:Option Nat) (a:St) (K:St->Option R):Option R:=match nq P t,x with
 |some m,.mown n=>match a.obj n,m.key i,m.v.of [v] with
  |some (.mp m' l),some q,some y=>if h:m'=m then K ((a.setO n (.mp m (bK m.k m.v (h ▸ l) q y))).put d .undef) else none
  |_,_,_=>none
 |_,_=>none
def p7 (a vt) (z) (l) (q):=bif dv a vt l q then l else l++ [(q,z)]
def mi (a vt:Ty):List (a.den×vt.den)->a.den->Nat
 | [],_=>0
 |e::r,q=>bif cj a q e.1 then 0 else mi a vt r q+1
def mset (a vt:Ty):List (a.den×vt.den)->Nat->vt.den->List (a.den×vt.den)
 | [],_,_=> []
 |e::r,0,y=>(e.1,y)::r
 |e::r,i+1,y=>e::mset a vt r i y
def Im (P:Program) (t:TypeId) (x i:PV) (d:Option Nat) (a:St) (K:St->Option R):Option R:=match nq P t,x with
 |some m,.mown n=>match a.obj n,m.key i,CN P t m with
  |some (.mp m' l),some q,some z=>if h:m'=m then bif decide (l.length<=9223372036854775807) then K ((a.setO n (.mp m (p7 m.k m.v z (h ▸ l) q))).put d (.tup [.undef,.int .i64 (mi m.k m.v (h ▸ l) q)])) else none else none
  |_,_,_=>none
 |_,_=>none
def I3 (P:Program) (t:TypeId) (x s v:PV) (d:Option Nat) (a:St) (K:St->Option R):Option R:=match nq P t,x,s with
 |some m,.mown n,.int .i64 b=>match a.obj n,m.v.of [v] with
  |some (.mp m' l),some y=>if h:m'=m then bif ae b l.length then K ((a.setO n (.mp m (mset m.k m.v (h ▸ l) b.toNat y))).put d .undef) else none else none
  |_,_=>none
 |_,_,_=>none
def lr (P:Program) (t:TypeId):Bool:=match P.underlying t with
 |some (.map k e)=>(match P.underlying k,P.underlying e,nb P e with
  |some (.int .u64),some (.pointer _),some [.nilptr]=> !pT P e
  |_,_,_=>false)
 |_=>false
def iB:List (Int× (Nat×Nat))->Int->Nat×Nat->List (Int× (Nat×Nat))
 | [],q,v=> [(q,v)]
 |e::r,q,v=>bif decide (q<e.1) then (q,v)::e::r else e::iB r q v
def CD (d:Option Nat) (a:St) (K:St->Option R):=match d with
 |some d=>match ki a (4096*d) (.pm []) with|some (b,a)=>K (a.set d (.mown b))|none=>none
 |none=>none
def xR (x i v:PV) (d:Option Nat) (a:St) (K:St->Option R):=match x,i,v with
 | .mown n,.int .u64 q,.ptr k off=>match a.obj n with
   |some (.pm l)=>bif l.any λe=>decide (e.1=q) then none else K ((a.setO n (.pm (iB l q (k,off)))).put d .undef)
   |_=>none
 |_,_,_=>none
def rW (q:Int) (d:Option Nat) (a:St) (K:St->Option R):List (Int× (Nat×Nat))->Option R
 | []=>K (a.put d .nilptr)
 |e::r=>bif decide (q=e.1) then K (a.put d (.ptr e.2.1 e.2.2)) else rW q d a K r
def CE (x i:PV) (ok:Bool) (d:Option Nat) (a:St) (K:St->Option R):=bif ok then none else match x,i with
 | .mown n,.int .u64 q=>match a.obj n with
   |some (.pm l)=>rW q d a K l
   |_=>none
 |_,_=>none
def CC (p:PV) (K:Bool->Option R):=match p with
 | .ptr ..=>K false
 | .nilptr=>K true
 |_=>none
def IH (n:Nat) (e:TypeId) (x:Operand) (i:Int) (d:Option Nat) (a:St) (K:St->Option R):=match x with
 | .global g=>match C.glob g with
   |some ⟨t,l⟩=>bif Nat.beq t.size (C.P.cellsOf e) && Nat.beq l.length n then bif ae i n then K (a.put d (.cptr (t.leaves (rd t l i)))) else none else none
   |none=>none
 |_=>none
def Ja (P:Program) (j:TypeId) (b:PV) (d:Option Nat) (g:St) (K:St->Option R):=match b with
 | .view k a n c=>match g.obj k,ku P j with
   |some (.row e f l),some ⟨t,z⟩=>if f.size=c/\c=P.cellsOf j/\c≠0 then if h:t=f then bif decide (a+n<=l.length) then K ((g.setO k (.row e f (l.take a++List.replicate n (h ▸ z)++l.drop (a+n)))).put d .undef) else none else none else none
   |_,_=>none
 |_=>none
def be (o:Oper) (h:St) (K:St->Option R):Option R:=
 match o.op with
 | .lookup t x i ok=>bif lr C.P t then CE (aG h x) (aG h i) ok o.dst h K else Iq C.P t (aG h x) (aG h i) ok o.dst h K
 | .makeMap t none=>bif lr C.P t then CD o.dst h K else Io C.P t o.dst h K
 | .range t x=>HZ C.P t (cN C.P t (aG h x)) o.dst h K
 | .entry x=>I4 (aG h x) o.dst h K
 | .next x false=>Ij (aG h x) o.dst h K
 | .mapUpdate t x i v=>xT C.P t (aG h x) (aG h i) (aG h v) o.dst h K
 | .mapEntry t x i=>Im C.P t (aG h x) (aG h i) o.dst h K
 | .entryStore t x i v=>I3 C.P t (aG h x) (aG h i) (aG h v) o.dst h K
 | .insert t x i v=>bif lr C.P t then xR (aG h x) (aG h i) (aG h v) o.dst h K else xT C.P t (aG h x) (aG h i) (aG h v) o.dst h K
 | .pick c a b=>match aG h c with
   | .bool t=>match unw c true (aG h a),unw c false (aG h b) with
     | .bool x,.bool y=>K (h.put o.dst (.bool (bif t then x else y)))
     |x,y=>bif t then K (h.put o.dst (cN C.P o.type x)) else K (h.put o.dst (cN C.P o.type y))
   |_=>none
 | .binOp op t x y u=>match cN C.P t (aG h x),cN C.P u (aG h y) with
   | .int k a,.int D b=>match CZ op k a D b with
     |some (g,v)=>bif g then K (h.put o.dst v) else none
     |none=>none
   | .flt a,.flt b=>bif oH op then K (h.put o.dst (.flt (nv op a b))) else none
   |p,_=>match aG h y,C.P.underlying t,op with
    | .none_,some (.slice _),.eql=>CJ h p λb=>K (h.put o.dst (.bool b))
    | .none_,some (.slice _),.neq=>CJ h p λb=>K (h.put o.dst (.bool (!b)))
    | .nilptr,some (.pointer _),.eql=>CC p λb=>K (h.put o.dst (.bool b))
    | .nilptr,some (.pointer _),.neq=>CC p λb=>K (h.put o.dst (.bool (!b)))
    |_,_,_=>none
 | .indexAddr t x i=>match aG h i,C.P.underlying t with
   | .int _ i,some (.slice e)=>if C.P.cellsOf e=0 then none else match aG h x with
     | .own k=>match h.obj k with
       |some (.row _ m l)=>bif Nat.beq m.size (C.P.cellsOf e) then bif ae i l.length then K (h.put o.dst (.optr k i m.size 0)) else none else none
       |some (.frow _ m l)=>bif Nat.beq m.size (C.P.cellsOf e) then bif ae i l.length then K (h.put o.dst (.cptr (m.leaves (rd m l i)))) else none else none
       |_=>none
     | .sl _ m l| .full _ m l=>bif Nat.beq m.size (C.P.cellsOf e) then bif ae i l.length then K (h.put o.dst (.cptr (m.leaves (rd m l i)))) else none else none
     |_=>none
   | .int _ i,some (.array n e)=>if C.P.cellsOf e=0 then none else match aG h x with
     | .ptr k off=>match h.obj k with
       |some (.arr _ m E l)=>if off=0/\E=n/\m.size=C.P.cellsOf e then bif ae i n then K (h.put o.dst (.optr k i m.size 0)) else none else none
       |some (.box _)=>bif p8 C o 4398046511104 then (match nf C.P e with
        |some m=>bif Nat.beq m.size (C.P.cellsOf e) then bif ae i n then K (h.put o.dst (.sptr k off n m i 0)) else none else none
        |none=>none)
        else bif p8 C o 8796093022208 then uK i (λj=>K (h.put o.dst (.ptr k (off+j*C.P.cellsOf e)))) n 0
        else bif ae i n then K (h.put o.dst (.ptr k (off+i.toNat*C.P.cellsOf e))) else none
       |_=>none
     | .cptr c=>bif p8 C o 8796093022208 then uK i (λj=>K (h.put o.dst (.cptr (c.drop (j*C.P.cellsOf e))))) n 0
      else bif ae i n then K (h.put o.dst (.cptr (c.drop (i.toNat*C.P.cellsOf e)))) else none
     | .undef=>IH C n e x i o.dst h K
     |_=>none
   |_,_=>none
 | .index t x i=>match aG h i,aG h x with
   | .int _ i,.str s=>match C.P.underlying t with
     |some .string=>bif ae i s.length then K (h.put o.dst (.int .u8 (s.getD i.toNat 0))) else none
     |_=>none
   | .int _ i,.agg c=>match C.P.underlying t with
     |some (.array n e)=>if C.P.cellsOf e=0 then none else bif ae i n then bif p8 C o 4398046511104 then (match nf C.P e with
      |some m=>bif Nat.beq m.size (C.P.cellsOf e) then (match yj m n 0 c with
       |some F=>(match kh C.P e (m.leaves (rd m F i)) 0 with|some v=>K (h.put o.dst (unw.san v))|none=>none)
       |none=>none) else none
      |none=>none)
      else (match kh C.P e c (i.toNat*C.P.cellsOf e) with|some v=>K (h.put o.dst (unw.san v))|none=>none) else none
     |_=>none
   |_,_=>none
 | .alloc t=>match o.dst,nb C.P t with
   |some d,some c=>match C.P.underlying t with
    |some (.array n e)=>match nf C.P e with
     |some m=>(match pV m n c with
      |some l=>(match ki h (4096*d) (.arr e m n l) with|some (r,h)=>K (h.set d (.ptr r 0))|none=>none)
      |none=>none)
     |none=>oG c d h K
    |_=>oG c d h K
   |_,_=>none
 | .box t x=>match o.dst with
   |some d=>match (cN C.P t (aG h x)) with
    | .agg c=>oG c d h K
    |v=>bif v.one then oG [v] d h K else none
   |none=>none
 | .build t q=>match C.P.underlying t,nb C.P t with
   |some (.struct B),some c=>bif !(B.toList.all λf=>(C.P.info? f.type).isSome) then none else match yo C.P h B c q.toList with
    |some c=>K (h.put o.dst (.agg c))
    |none=>none
   |some (.array n e),some c=>bif Nat.blt 0 (C.P.cellsOf e) then (match vj C.P h e (C.P.cellsOf e) c q.toList with
    |some c=>K (h.put o.dst (.agg c))
    |none=>none) else none
   |_,_=>none
 | .buildSlice t n q=>match C.P.underlying t,o.dst with
   |some (.slice e),some d=>match ku C.P e with
    |some ⟨m,_⟩=>if n*m.size<=16777216 then (match vj C.P h e m.size (List.replicate (n*m.size) .undef) q.toList with
     |some c=>match h.plainL c with
      |some (c,h)=>match pV m n c with
       |some l=>(match ki h (4096*d) (.row e m l) with|some (r,h)=>K (h.set d (.own r))|none=>none)
       |none=>none
      |none=>none
     |none=>none) else none
    |none=>none
   |_,_=>none
 | .store t a v=>xN C.P t (aG h a) (cN C.P t (aG h v)) h (λh=>K (h.put o.dst .undef))
 | .makeSlice t n c=>match C.P.underlying t,o.dst,aG h n,aG h c with
   |some (.slice e),some d,.int .i64 n,.int .i64 c=>match ku C.P e with
    |some ⟨m,z⟩=>bif decide (0<=n) && decide (n=c) && decide (n.toNat*C.P.bytesOf e<=az) then
     (match ki h (4096*d) (.row e m (List.replicate n.toNat z)) with|some (r,h)=>K (h.set d (.own r))|none=>none) else none
    |none=>none
   |_,_,_,_=>none
 | .slice t x w A mx=>match C.P.underlying t with
   |some (.array n e)=>Jk C.P n e (aG h x) w A mx (λv=>K (h.put o.dst v))
   |_=>bif CO C o 0 then CH C.P t (aG h x) (w.map (aG h)) (A.map (aG h)) (mx.map (aG h)) o.dst h K else
   bif CO C o 1 then Cf C.P t (aG h x) (w.map (aG h)) (A.map (aG h)) (mx.map (aG h)) o.dst h K else match h.plain (cN C.P t (aG h x)) with
   |some (p,st1)=>Uw C.P t p (w.map (aG h)) (A.map (aG h)) (mx.map (aG h)) (λv=>K (st1.put o.dst v))
   |none=>none
 | .convert s d x=>match C.P.underlying s,C.P.underlying d with
   |some .string,some (.slice e)=>match aG h x,C.P.underlying e with
    | .str l,some (.int .u8)=>K (h.put o.dst (.sl e (.int .u8) l))
    |_,_=>none
   |some (.slice e),some .string=>match h.list (cN C.P s (aG h x)),C.P.underlying e with
    |some ⟨_,.int .u8,l⟩,some (.int .u8)=>K (h.put o.dst (.str l))
    |_,_=>none
   |some (.slice _),some (.slice e)=>match C.P.underlying e with
    |some (.int .u8)=>bif Nat.beq s d then I9 (aG h x) o.dst h K else none
    |_=>none
   |_,_=>none
 | .call {callee:= .builtin .copy,args,argTypes}=>match args.toList,argTypes.toList with
   | [b,x],[t,u]=>match C.P.underlying t,C.P.underlying u with
     |some (.slice e),some (.slice _)=>I8 C.P e (aG h b) (cN C.P u (aG h x)) o.dst h K
     |_,_=>none
   |_,_=>none
 | .call {callee:= .builtin .clear,args,argTypes}=>match args.toList,argTypes.toList with
   | [b],[t]=>match C.P.underlying t with
     |some (.slice e)=>Ja C.P e (aG h b) o.dst h K
     |_=>none
   |_,_=>none
 | .call {callee:= .builtin .len,args,argTypes}=>match args.toList,argTypes.toList with
   | [x],[t]=>Is C.P t (cN C.P t (aG h x)) o.dst h K
   |_,_=>none
 | .call {callee:= .builtin .append,args,argTypes}=>match args.toList,argTypes.toList with
   | [b,x],[t,u]=>match C.P.underlying t,C.P.underlying u with
     |some (.slice e),some (.slice _)|some (.slice e),some .string=>vl C.P e (cN C.P t (aG h b)) (cN C.P u (aG h x)) o.dst h K
     |some (.slice e),some (.int _)=>Dm C.P e (cN C.P t (aG h b)) (aG h x) o.dst h K
     |_,_=>none
   |_,_=>none
 | .call {callee:= .value f,args,argTypes}=>match aG h f with
   | .fn f caps=>bif C.isExt f then IU C f (args.toList.map (aG h)) caps o.dst h K else bif qg C.P f && decide (args.size=argTypes.size) then ss C f (((args.toList.zip argTypes.toList).map λp=>cN C.P p.2 (aG h p.1))++caps) o.dst h K else none
   |_=>none
 |_=>none
def jC (s:Sl):Option Nat->Bool
 |some d=>s.g.any (Nat.beq d)
 |none=>false
def ungd1 (s:Nat) (w:Bool):PV->PV
 | .gd j w' v=>bif Nat.beq j s && (w'==w) then unw.san v else .gd j w' v
 |v=>v
def mn (d:Option Nat) (s:Nat):=match d with|some d=>Nat.beq d s|none=>false
def oK (ops:Array Oper):Nat->Nat->Bool->St->(St->Option R)->(St->Option R)->Option R
 |0,_,_,_,_,_=>none
 |n+1,s,w,a,I,j=>match a.get s with
  | .bool g=>bif g==w then I ⟨(a.s.set s (.bool w)).map (ungd1 s w),a.o⟩ else j (a.set s (.bool (!w)))
  | .gd J w1 _=>bif ops.toList.any (λo=>mn o.dst J) then oK ops n J w1 a (λa=>oK ops n s w a I j) j else none
  |_=>none
def lC (ops:Array Oper) (o:Oper) (a:St) (K:St->Option R):=
 bif jC a.s o.dst then none else
 match o.guard with
 |none=>match gG C.P a o with
  |some v=>K (a.put o.dst (unw.san v))
  |none=>be C o a K
 |some (j,w)=>match (ops[j]?).bind (·.dst) with
  |some s=>bif mn o.dst s then none else
   match gG C.P ⟨a.s.map (ungd1 s w),a.o⟩ o with
   |some v=>K (a.put o.dst (.gd s w (unw.san v)))
   |none=>oK ops 6 s w a (λa=>be C o a K) (λa=>K (a.put o.dst .undef))
  |none=>none
def nu (a:St) (o:Oper):Option (FuncId×List PV):=match o.op with
 | .call {callee:= .value f,args,argTypes}=>match aG a f with
   | .fn g caps=>bif C.inlined g && qg C.P g && decide (args.size=argTypes.size) && o.guard.isNone && !jC a.s o.dst then
    some (g,((args.toList.zip argTypes.toList).map λp=>cN C.P p.2 (aG a p.1))++caps) else none
   | .bfn g p=>bif C.inlined g && qg C.P g && decide (args.size=argTypes.size) && o.guard.isNone && !jC a.s o.dst then
    some (g,p::((args.toList.zip argTypes.toList).map λp=>cN C.P p.2 (aG a p.1))) else none
   |_=>none
 |_=>none
def dX (ops:Array Oper) (o:Oper) (a:St) (K:St->Option R):Option R:=match nu C a o with
 |some (g,as)=>C.inl g as a λv a=>bif jC a.s o.dst then none else K (a.put o.dst (unw.san v))
 |none=>lC C ops o a K
def nw (ops:Array Oper):List Oper->St->(St->Option R)->Option R
 | [],a,K=>K a
 |o::r,a,K=>match nu C a o with
  |some (g,as)=>C.inl g as a λv a=>bif jC a.s o.dst then none else nw ops r (a.put o.dst (unw.san v)) K
  |none=>lC C ops o a λa=>nw ops r a K
def ungd:PV->PV
 | .gd ..=> .undef
 |v=>v
def Sl.ungd (s:Sl):Sl:=⟨s.t.mapI (λ_=>Fw.ungd) 0 1,[]⟩
def St.ungd (a:St):={a with s:=a.s.ungd}
inductive Ex where
 |normal|exit (id:Nat)|ret
inductive HV where
 |data (s:Nat) (t:Ty)
 |row (s K:Nat) (e:TypeId) (t:Ty)
 |arr (k:Nat) (e:TypeId) (t:Ty) (n:Nat)
 |box (k:Nat) (t:Ty)
 |rowk (k:Nat) (e:TypeId) (t:Ty)
 |crow (k i K:Nat) (e:TypeId) (t:Ty)
 |mpk (k:Nat) (m:MTy)
 |iterk (k:Nat) (m:MTy)
 |boxr (k K:Nat) (a b:Ty)
 |boxs (k K K':Nat) (a b c:Ty)
structure Head where
 vars:List HV
 stay:List Nat
@[reducible] def HV.den:HV->Type
 | .data _ t=>t.den
 | .row _ _ _ t=>List t.den
 | .arr _ _ t _=>List t.den
 | .box _ t=>t.den
 | .rowk _ _ t=>List t.den
 | .crow _ _ _ _ t=>List t.den
 | .mpk _ m=>List (m.k.den×m.v.den)
 | .iterk _ m=>List (m.k.den×m.v.den)
 | .boxr _ _ a b=>a.den×b.den
 | .boxs _ _ _ a b c=>a.den× (b.den×c.den)
@[reducible] def sr:List HV->Type
 | []=>Unit
 | [v]=>v.den
 |v::r=>v.den×sr r
def cS:Code->List Nat
 | .region _ ops _=>ops.toList.filterMap (·.dst)
 | .seq a b| .cond _ a b=>cS a++cS b
 | .block _ a| .loop a| .scope a=>cS a
 |_=> []
def CA (c:St) (e:TypeId) (t:Ty) (p:PV):=match p with
 | .own k=>match c.obj k with
   |some (.row a b l)=>if a=e then if h:b=t then some (h ▸ l) else none else none
   |_=>none
 | .full a b l=>if a=e then if h:b=t then (match (h ▸ l:List t.den) with| []=>some [] |_=>none) else none else none
 |_=>none
def St.cellPV (a:St) (k i:Nat):PV:=match a.obj k with|some (.box c)=>(c[i]?).getD .undef|_=> .undef
def HV.read (d:St):(v:HV)->Option v.den
 | .data s t=>t.of [match d.get s with| .full e t l=> .sl e t l|v=>v]
 | .row s _ e t=>CA d e t (d.get s)
 | .crow k i _ e t=>CA d e t (d.cellPV k i)
 | .mpk k m=>match d.obj k with|some (.mp m' l)=>if h:m'=m then some (h ▸ l) else none|_=>none
 | .iterk k m=>match d.obj k with|some (.iter m' l _)=>if h:m'=m then some (h ▸ l) else none|_=>none
 | .boxr k _ a b=>match d.obj k with
   |some (.box c)=>(match a.of (c.take a.size),b.of (c.drop (a.size+1)) with|some x,some y=>(bif Nat.ble (a.size+1) c.length then some (x,y) else none)|_,_=>none)
   |_=>none
 | .boxs k _ _ a b c=>match d.obj k with
   |some (.box l)=>(match a.of (l.take a.size),b.of ((l.drop (a.size+1)).take b.size),c.of (l.drop (a.size+1+b.size+1)) with|some x,some y,some z=>(bif Nat.ble (a.size+1+b.size+1) l.length then some (x,(y,z)) else none)|_,_,_=>none)
   |_=>none
 | .arr k e t n=>match d.obj k with|some (.arr j I J l)=>if j=e/\J=n then if h:I=t then some (h ▸ l) else none else none|_=>none
 | .box k t=>match d.obj k with|some (.box c)=>t.of c|_=>none
 | .rowk k e t=>match d.obj k with|some (.row j I l)=>if j=e then if h:I=t then some (h ▸ l) else none else none|_=>none
def iA (a:St):(vs:List HV)->Option (sr vs)
 | []=>some ()
 | [v]=>v.read a
 |v::w::r=>match v.read a,iA a (w::r) with|some x,some y=>some (x,y)|_,_=>none
def St.layO (a:St) (k:Nat) (o:Ob):St:=match St.dH a.o k with
 |none=>⟨a.s,(k,0,o)::a.o⟩
 |some _=>a.setO k o
def HV.lay (d:St):(v:HV)->v.den->St
 | .data s t,x=>match t.leaves x with| [v]=>d.set s v|_=>d
 | .row s K e t,l=>(d.set s (.own K)).layO K (.row e t l)
 | .arr k e t n,l=>d.layO k (.arr e t n l)
 | .rowk k e t,l=>d.layO k (.row e t l)
 | .box k t,x=>d.layO k (.box (t.leaves x))
 | .crow _ _ K e t,l=>d.layO K (.row e t l)
 | .mpk k m,l=>d.layO k (.mp m l)
 | .iterk k m,l=>d.layO k (.iter m l none)
 | .boxr k K a b,x=>d.layO k (.box (a.leaves x.1++ .own K::b.leaves x.2))
 | .boxs k K K' a b c,x=>d.layO k (.box (a.leaves x.1++ .own K::(b.leaves x.2.1++ .own K'::c.leaves x.2.2)))
def fw (a:St):(vs:List HV)->sr vs->St
 | [],_=>a
 | [v],x=>v.lay a x
 |v::w::r,x=>fw (v.lay a x.1) (w::r) x.2
def vf (w:List Nat) (s:Sl):Sl:=⟨s.t.mapI (λi v=>bif w.any (Nat.beq i) then .undef else Fw.ungd v) 0 1,[]⟩
def yd (h:List Nat):List (Nat×Nat×Ob)->List (Nat×Nat×Ob)
 | []=> []
 | (k,v,o)::r=>(bif h.any (Nat.beq k) then (k,v,o) else (k,v+1,.gone))::yd h r
def dY (h:Head) (w:List Nat) (a:St):St:=⟨vf w a.s,yd h.stay a.o⟩
def ng (h:Head) (a b:St):=h.stay.all λk=>
 match St.dH a.o k,St.dH b.o k with
 |some (v,_),some (c,_)=>Nat.beq v c
 |none,none=>true
 |_,_=>false
def HV.src (a:St):HV->Option Nat
 | .data ..=>none
 | .row s _ _ _=>match a.get s with| .own k=>some k|_=>none
 | .arr k ..| .box k _| .rowk k ..| .boxr k ..| .boxs k ..| .mpk k _| .iterk k _=>some k
 | .crow k i ..=>match a.cellPV k i with| .own k=>some k|_=>none
def yt (stay:List Nat):List Nat->Bool
 | []=>true
 |k::r=> !(stay.any (Nat.beq k)) && !(r.any (Nat.beq k)) && yt stay r
def nh (h:Head) (a):=yt h.stay (h.vars.filterMap (HV.src a))
def HV.kz:HV->Option Nat
 | .row _ K _ _| .crow _ _ K _ _=>some K
 |_=>none
def gw (h:Head) (w:List Nat) (d):=yt [] (h.vars.filterMap HV.kz) && h.vars.all λv=>match v with
 | .data s _=>w.any (Nat.beq s)
 | .row s K _ _=>w.any (Nat.beq s) && !(h.stay.any (Nat.beq K)) && !((dY h w d).s.refs K) && !(jz (dY h w d).o K)
 | .crow _ _ K _ _=> !(h.stay.any (Nat.beq K)) && !((dY h w d).s.refs K) && !(jz (dY h w d).o K)
 | .arr k ..| .box k _| .rowk k ..| .mpk k _| .iterk k _=>h.vars.all λu=>match u.kz with|some K=> !(Nat.beq K k)|none=>true
 | .boxr k K a _=>(h.vars.all λu=>match u.kz with|some K=> !(Nat.beq K k)|none=>true) &&
   h.vars.any λu=>match u with| .crow c i K' _ _=>Nat.beq c k && Nat.beq i a.size && Nat.beq K' K|_=>false
 | .boxs k K e a b _=>(h.vars.all λu=>match u.kz with|some K=> !(Nat.beq K k)|none=>true) &&
   ((h.vars.any λu=>match u with| .crow c i K' _ _=>Nat.beq c k && Nat.beq i a.size && Nat.beq K' K|_=>false) &&
   h.vars.any λu=>match u with| .crow c i K' _ _=>Nat.beq c k && Nat.beq i (a.size+1+b.size) && Nat.beq K' e|_=>false)
def iter {S R:Type} (B:(S->Option R)->S->Option R)
 |0=>λ_=>none
 |n+1=>B (iter B n)
def aD {S R} (B:(S->Option R)->S->Option R) (s):=
 open Classical in if h:∃r n,∀m,n<=m->iter B m s=some r then some h.choose else none
def cy:Code->Nat
 | .region id ..=>id
 | .seq a _=>cy a
 | .block _ a=>cy a
 | .loop a=>cy a
 | .scope a=>cy a
 |_=>0
def ly:Code->Nat
 | .region id ..=>id+1
 | .seq a b| .cond _ a b=>bif Nat.beq (ly a) 0 then ly b else ly a
 | .block _ a| .loop a| .scope a=>ly a
 |_=>0
theorem Vs (S R:Type):∃f:(S->Option R)->((S->Option R)->Option R)->Option R,∀J B,f J B=B J:=⟨λJ B=>B J,λ_ _=>rfl⟩
def cE {S R} (J) (B):=(Vs S R).choose J B
theorem jc (J) (B:(S->Option R)->Option R):cE J B=B J:=(Vs S R).choose_spec J B
def I5 (b:St) (a:List Nat):List (Nat×Nat×Ob)->List Nat
 | []=> []
 | (k,_,o)::r=>bif (match o with| .gone=>true|_=>false) || a.any (Nat.beq k) then I5 b a r else k::I5 b a r
def kj (h:Head) (a:St):Head:=⟨h.vars,I5 a (h.vars.filterMap (HV.src a)++h.stay) a.o⟩
def nr (h:Head) (a:St) (K:Ex->St->Option R) (J:sr h.vars->Option R) (e:Ex) (j:St):=match e with
 | .normal=>(match iA j h.vars with
   |some x=>bif ng h a j && nh h j then J x else none
   |none=>none)
 |e=>K e j
def gk (ops:Array Oper) (a:List Bool):=Region.ready .any ops a.toArray
def lv (o:Oper):=match o.op with
 | .move _| .assign _| .extract ..| .field ..| .pick ..| .makeFunc ..| .indexAddr ..| .slice ..| .build ..=>true
 |_=>false
def PV.W7:PV->Bool
 | .int ..| .bool _| .ptr ..| .optr ..=>true
 |_=>false
def We (s:Sl) (o:Oper):=match o.op with
 | .load _ x| .fieldAddr _ x _| .nilCheck x=>match aG ⟨s,[]⟩ x with| .cptr _=>true|_=>false
 |_=>false
def xP (P:Program) (s:Sl) (o:Oper):Bool:=match gG P ⟨s,[]⟩ o with
 |some p=>p.W7 || We s o
 |none=>false
def uT (P:Program) (ops:Array Oper) (a:St) (o:Oper):=match o.guard with
 |none=>xP P a.s o
 |some (j,w)=>match (ops[j]?).bind (·.dst) with
  |some s=>xP P (a.s.map (ungd1 s w)) o
  |none=>false
def rP (P:Program) (ops:Array Oper) (a:List Bool) (b:St) (i:Nat):Bool:=match ops[i]? with
 |some o=>(lv o || uT P ops b o) && Region.free .any ops a.toArray i
 |none=>false
def kx {R α:Type} (f:α->Option R):List α->Option R
 | []=>none
 | [i]=>f i
 |i::j::r=>aj (f i) (kx f (j::r))
def kn (ops:Array Oper):Nat->List Bool->St->(St->Option R)->Option R
 |0,a,j,K=>match gk ops a with| []=>K j|_=>none
 |n+1,a,j,K=>match gk ops a with
  | []=>K j
  |I=>match I.find? (rP C.P ops a j) with
   |some i=>match ops[i]? with
    |some o=>dX C ops o j λj=>kn ops n (a.set i true) j K
    |none=>none
   |none=>kx (λi=>match ops[i]? with
    |some o=>dX C ops o j λj=>kn ops n (a.set i true) j K
    |none=>none) I
def sq (o:Oper):=o.after.toList.foldr (λe m=>bif Region.binds .any e then Nat.lor (2^e.on) m else m) 0
def nz (ops:Array Oper) (a:Oper) (i:Nat):Nat->List Oper->Nat
 |_,[]=>0
 |j,b::r=>bif j==i || (b.after.any (λe=>Region.binds .any e && e.on==i) || a.apart ops b) then nz ops a i (j+1) r else Nat.lor (2^j) (nz ops a i (j+1) r)
def oE (ops:Array Oper):Nat->List Oper->List Nat->Bool
 |_,[],[]=>true
 |i,o::r,d::c::t=>Nat.beq (sq o) d && (Nat.beq (nz ops o i 0 ops.toList) c && oE ops (i+1) r t)
 |_,_,_=>false
def eh (lm:Nat):Nat->List Oper->List Nat->List (Nat×Oper×Nat)
 |i,o::r,d::c::t=>bif Nat.beq (Nat.land lm (2^i)) 0 && Nat.beq (Nat.land d lm) d then (i,o,c)::eh lm (i+1) r t else eh lm (i+1) r t
 |_,_,_=> []
def uI (P:Program) (ops:Array Oper) (lm:Nat) (a:St) (x:Nat×Oper×Nat):=Nat.beq (Nat.land x.2.2 lm) x.2.2 && (lv x.2.1 || uT P ops a x.2.1)
def nt (o:Oper):=match o.op with| .load ..=>true|_=>false
def dF (C:Ctx) (o):=lv o || nt o || match o.op with
 | .call {callee:= .value (.func f),..}=>o.guard.isNone && !C.inlined f && !C.isExt f
 |_=>false
def CB (C:Ctx) (lm i:Nat):Nat->List Oper->Bool
 |_,[]=>true
 |j,o::r=>(!(Nat.beq (Nat.land lm (2^j)) 0) || (Nat.beq j i || (dF C o || o.after.any (λe=>Region.binds .any e && e.on==i)))) && CB C lm i (j+1) r
def U5 (P:Program) (ops:Array Oper) (a:St) (o:Oper):=match o.guard with
 |none=>(gG P a o).isSome
 |some (j,w)=>match (ops[j]?).bind (·.dst) with
  |some s=>(gG P ⟨a.s.map (ungd1 s w),a.o⟩ o).isSome
  |none=>false
def xW (ops:Array Oper) (lm:Nat) (a:St) (x:Nat×Oper×Nat):=nt x.2.1 && (Nat.beq (Nat.land x.2.2 lm) x.2.2 && (U5 C.P ops a x.2.1 && CB C lm x.1 0 ops.toList))
def gH (P:Program) (o:Oper):Option (Nat×Int):=match o.op with
 | .insert t (.tmp m) (.const (.int .u64 q)) (.tmp _)=>bif lr P t && o.dst.isNone && o.guard.isNone && (Lit.int .u64 q).wf then some (m,q) else none
 |_=>none
def qc (P:Program) (ops:Array Oper) (a:List Nat) (m:Nat):Nat->Nat->List Nat->Bool
 |0,_,_=>true
 |n+1,lm,T=>((eh lm 0 ops.toList a).map (·.1)==T) && ((eh lm 0 ops.toList a).all λx=>match gH P x.2.1 with|some (m',_)=>Nat.beq m' m|none=>false) &&
  T.all λi=>qc P ops a m n (Nat.lor lm (2^i)) (T.erase i)
def yc (P:Program):List (Nat×Oper×Nat)->Bool
 | []=>true
 |x::r=>(r.all λy=>match gH P x.2.1,gH P y.2.1 with|some (_,p),some (_,q)=> !decide (p=q)|_,_=>false) && yc P r
def V6 (ops:Array Oper) (a:List Nat):Nat->Nat->St->(St->Option R)->Option R
 |0,lm,j,K=>match eh lm 0 ops.toList a with| []=>K j|_=>none
 |n+1,lm,j,K=>match eh lm 0 ops.toList a with
  | []=>K j
  |r::I=>match (r::I).find? (uI C.P ops lm j) with
   |some x=>dX C ops x.2.1 j λj=>V6 ops a n (Nat.lor lm (2^x.1)) j K
   |none=>kx (λx=>dX C ops x.2.1 j λj=>V6 ops a n (Nat.lor lm (2^x.1)) j K) (r::I)
def IF (P:Program) (ops:Array Oper) (a:List Nat) (lm:Nat) (L:List (Nat×Oper×Nat)):Bool:=match L with
 |x::_::_=>(match gH P x.2.1 with
  |some (m,_)=>yc P L && qc P ops a m L.length lm (L.map (·.1))
  |none=>false)
 |_=>false
def gl (ops:Array Oper) (b:List Nat):Nat->Nat->Nat->St->(St->Option R)->Option R
 |0,_,lm,a,K=>match eh lm 0 ops.toList b with| []=>K a|_=>none
 |n+1,k,lm,a,K=>match eh lm 0 ops.toList b with
  | []=>K a
  |r::j=>match k with
   |k+1=>dX C ops r.2.1 a λa=>gl ops b n k (Nat.lor lm (2^r.1)) a K
   |0=>match (r::j).find? (uI C.P ops lm a) with
    |some x=>dX C ops x.2.1 a λa=>gl ops b n 0 (Nat.lor lm (2^x.1)) a K
    |none=>match (r::j).find? (xW C ops lm a) with
    |some x=>dX C ops x.2.1 a λa=>gl ops b n 0 (Nat.lor lm (2^x.1)) a K
    |none=>bif IF C.P ops b lm (r::j) then dX C ops r.2.1 a λa=>gl ops b n j.length (Nat.lor lm (2^r.1)) a K
     else kx (λx=>dX C ops x.2.1 a λa=>gl ops b n 0 (Nat.lor lm (2^x.1)) a K) (r::j)
def vd (ops:Array Oper) (a:List Nat) (b:St) (K:St->Option R):=
 bif oE ops 0 ops.toList a then gl C ops a ops.size 0 0 b K else kn C ops ops.size (List.replicate ops.size false) b K
def xM (a:St) (s:Nat):St:=match a.get s with
 | .full e t l=>a.set s (.sl e t l)
 | .own k=>match a.plain (.own k) with|some (p,st1)=>st1.set s p|none=>a
 | .mown k=>match a.obj k with|some (.mp m l)=>(a.del k).set s (.mp m l)|_=>a
 | .ptr k off=>match a.obj k with|some (.box l)=>(a.del k).set s (.cptr (l.drop off))|_=>a
 |_=>a
def uH (ops:Array Oper) (l:List Nat) (a):=l.foldl (λa s=>bif ops.toList.any (λo=>mn o.dst s) then xM a s else a) a
def xL (a:St) (v:Nat):St:=match a.obj (v % 1099511627776) with
 |some (.box c)=>match St.oO (v / 1099511627776) 0 a c with
  |some (b,st1)=>match st1.obj (v % 1099511627776) with
   |some (.box _)=>st1.setO (v % 1099511627776) (.box b)
   |_=>a
  |none=>a
 |_=>a
def Ch (l:List Nat) (a):=l.foldl xL a
def sn (H:Nat->Head) (id:Nat) (ops:Array Oper) (b:Bool) (a:St) (K:St->Option R):=
 bif b then bif Region.noSelect ops then vd C ops (H (5000000+id)).stay a (λa=>K (Ch (H (3000000+id)).stay (uH ops (H (1000000+id)).stay a.ungd))) else none
 else nw C ops ops.toList a (λa=>K (Ch (H (3000000+id)).stay (uH ops (H (1000000+id)).stay (bif ops.any (λo=>o.guard.isSome) then a.ungd else a))))
def pU (B:St->(Ex->St->Option R)->Option R):Nat->St->(Ex->St->Option R)->Option R
 |0,_,_=>none
 |n+1,I,K=>B I λe j=>match e with| .normal=>pU B n j K|e=>K e j
def cF (H:Nat->Head):Code->St->(Ex->St->Option R)->Option R
 | .skip,d,K=>K .normal d
 | .region id ops I,d,K=>match (H (12000000+id)).stay with
   | []=>sn C H id ops I d (K .normal)
   |_::_=>bif gw (kj (H (12000000+id)) d) (cS (.region id ops I)) d then
    cE (λx=>K .normal (fw (dY (kj (H (12000000+id)) d) (cS (.region id ops I)) d) (kj (H (12000000+id)) d).vars x))
     λJ=>sn C H id ops I d (nr (kj (H (12000000+id)) d) d K J .normal)
    else none
 | .seq a b,d,K=>cF H a d λe d=>match e with| .normal=>cF H b d K|e=>K e d
 | .cond c a b,d,K=>match aG d c with
   | .bool t=>match (H (8000000+ly (.cond c a b))).stay with
     | []=>bif t then cF H a d K else cF H b d K
     |_::_=>bif gw (kj (H (8000000+ly (.cond c a b))) d) (cS a++cS b) d then
      cE (λx=>K .normal (fw (dY (kj (H (8000000+ly (.cond c a b))) d) (cS a++cS b) d) (kj (H (8000000+ly (.cond c a b))) d).vars x))
       λJ=>bif t then cF H a d (nr (kj (H (8000000+ly (.cond c a b))) d) d K J) else cF H b d (nr (kj (H (8000000+ly (.cond c a b))) d) d K J)
      else none
   |_=>none
 | .block id a,d,K=>cF H a d λe d=>match e with| .exit i=>bif Nat.beq i id then K .normal d else K (.exit i) d|e=>K e d
 | .loop a,d,K=>match (H (10000000+cy a)).stay with
   |n::_=>pU (λd K=>cF H a d K) n d K
   | []=>match iA d (H (cy a)).vars with
   |some x=>bif gw (H (cy a)) (cS a) d && nh (H (cy a)) d then
    aD (λf x=>cF H a (fw (dY (H (cy a)) (cS a) d) (H (cy a)).vars x) λe j=>match e with
    | .normal=>(match iA j (H (cy a)).vars with
      |some U=>bif ng (H (cy a)) d j && nh (H (cy a)) j then f U else none
      |none=>none)
    |e=>K e j) x else none
   |none=>none
 | .exit id,d,K=>K (.exit id) d
 | .ret,d,K=>K .ret d
 | .label _,d,K=>K .normal d
 | .scope a,d,K=>cF H a d K
 |_,_,_=>none
def uQ (a:St):PV->Option (PV×St)
 | .own k=>match a.obj k with
   |some (.row e t l)=>some (.fresh e t l,a.del k)
   |some (.frow e t l)=>some (.sl e t l,a)
   |_=>none
 | .full e t l=>match l with| []=>some (.fresh e t [],a)|_::_=>some (.sl e t l,a)
 | .bfn ..| .sptr ..| .undef| .ptr ..| .optr ..| .cptr _| .bx _| .gd ..| .agg _| .tup _| .fn ..| .none_| .fresh ..| .view ..| .mown _| .mnone=>none
 |v=>some (v,a)
def xS (a:St):List PV->Option (List PV×St)
 | []=>some ([],a)
 |v::r=>match uQ a v with
  |some (v,a)=>(match xS a r with|some (r,a)=>some (v::r,a)|none=>none)
  |none=>none
def CI (a:St):PV->Option (PV×St)
 | .agg c=>match xS a c with|some (c,a)=>some (.agg c,a)|none=>none
 |v=>uQ a v
def nm (a:St):List PV->Option (List PV×St)
 | []=>some ([],a)
 |v::r=>match CI a v with
  |some (v,a)=>(match nm a r with|some (r,a)=>some (v::r,a)|none=>none)
  |none=>none
def Cu (P:Program) (b:St):ResultVar->TypeId->Option PV
 | .tmp t,d=>some (cN P d (b.get t))
 | .cell a t,_=>match b.cellsAt (b.get a) with
   |some c=>kh P t c 0
   |none=>none
def p6 (P:Program) (a:St):List ResultVar->List TypeId->Option (List PV)
 | [],_=>some []
 |r::j,ts=>match Cu P a r (ts.headD 0),p6 P a j ts.tail with|some v,some vs=>some (v::vs)|_,_=>none
def iC (H:Nat->Head) (fn:Func) (args:List PV) (K:PV->Option R):=
 match fn.body with
 |some c=>
  cF {C with marks:=(H 4000000).stay} H c ⟨Sl.oP (args.length+ (fn.ntmps - args.length)) args,[]⟩ λb a=>
   match b with
   | .exit _=>none
   |_=>match p6 C.P a fn.results.toList fn.resultTypes.toList with
    |some vs=>match nm a vs with
     |some ([v],_)=>K v
     |some (vs,_)=>K (.tup vs)
     |none=>none
    |none=>none
 |none=>none
def U6 (a:List (Nat×Nat×Ob)) (k:Nat):Bool:=match St.dH a k with|some (_,.gone)=>false|some _=>true|none=>false
def pW (v:PV) (b:List (Nat×Nat×Ob)):List (Nat×Nat×Ob)->St->St
 | [],a=>a
 | (k,_,_)::r,a=>pW v b r (bif U6 b k || v.refs k || a.s.refs k || jz a.o k || (a.obj k).isNone then a else a.del k)
def uZ (H:Nat->Head) (k:Nat) (fn:Func) (args:List PV) (b:St) (K:PV->St->Option R):=
 bif args.any PV.isGd then none else
 match fn.body,St.new ⟨Sl.oP (args.length+ (fn.ntmps - args.length)) args,b.o⟩ k (.held b.s) with
 |some c,some st1=>(match St.dH st1.o k with
  |some (v0,_)=>cF {C with marks:=(H 4000000).stay} H c st1 λd a=>
   match d with
   | .exit _=>none
   |_=>match St.dH a.o k with
    |some (v,_)=>bif Nat.beq v v0 then (match p6 C.P a fn.results.toList fn.resultTypes.toList with
     |some [v]=>K v (pW v b.o (a.del k).o ⟨b.s,(a.del k).o⟩)
     |some vs=>K (.tup vs) (pW (.tup vs) b.o (a.del k).o ⟨b.s,(a.del k).o⟩)
     |none=>none) else none
    |none=>none
  |none=>none)
 |_,_=>none
end
end
end Go.Fw
