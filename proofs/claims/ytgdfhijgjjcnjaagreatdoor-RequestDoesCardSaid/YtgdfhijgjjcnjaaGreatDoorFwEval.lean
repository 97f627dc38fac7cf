/- The evaluator: Go code over plain values (numbers,bools,texts and lists as lists),an object for each variable and each row that the call itself makes. Nothing is proved here. -/
import Derived.Calls
import Derived.Orders
import GoSem.Claim
set_option linter.unusedVariables false
set_option linter.unusedSimpArgs false
namespace Go.Fw

inductive Ty where
  | int (k : IntKind) | bool | str | unit
  | pair (a b : Ty)
  | slice (e : TypeId) (a : Ty)
  deriving DecidableEq

@[reducible] def Ty.den : Ty → Type
  | .int _ => Int | .bool => Bool | .str => List Int | .unit => Unit
  | .pair a b => a.den×b.den
  | .slice _ a => List a.den

def Ty.dflt : (t : Ty) → t.den
  | .int _ => (0 : Int) | .bool => false | .str => ([] : List Int) | .unit => ()
  | .pair a b => (a.dflt,b.dflt)
  | .slice _ _ => []

def Ty.size : Ty → Nat
  | .unit => 0 | .pair a b => a.size + b.size | _ => 1

def rd (t : Ty) (l : List t.den) (i : Int) : t.den := l.getD i.toNat t.dflt

structure MTy where
  k : Ty
  v : Ty
  s : Bool
  deriving DecidableEq
inductive PV where
  | undef
  | int (k : IntKind) (n : Int)
  | bool (b : Bool)
  | str (s : List Int)
  | sl (e : TypeId) (t : Ty) (l : List t.den)
  | full (e : TypeId) (t : Ty) (l : List t.den)
  | fresh (e : TypeId) (t : Ty) (l : List t.den)
  | own (k : Nat)
  | agg (c : List PV)
  | tup (c : List PV)
  | ptr (k : Nat) (off : Nat)
  | cptr (c : List PV)
  | optr (k : Nat) (i : Int) (sz off : Nat)
  | bx (c : List PV)
  | fn (f : FuncId) (caps : List PV)
  | gd (j : Nat) (w : Bool) (v : PV)
  | view (k lo n sz : Nat)
  | nilptr | nilfn | nilerr
  | none_
  | mown (k : Nat)
  | mnone
  | mp (m : MTy) (l : List (m.k.den×m.v.den))
  | asl (f : Bool) (e : TypeId) (t : Ty) (l : List t.den)
  | qsl (e : TypeId) (t : Ty) (l : List t.den)
  | rptr (t : Ty) (x : t.den) (off : Nat)
  | any (k : IntKind)
  deriving Inhabited

inductive Tr where
  | nil
  | leaf (v : PV)
  | node (a b c d : Tr)
noncomputable section
def sel4 {α : Type} (i : Nat) (a b c d : α) : α := Nat.rec a (fun n _ => Nat.rec b (fun m _ => Nat.rec c (fun _ _ => d) m) n) i
def Tr.go (t : Tr) : Nat → PV := Tr.rec (fun _ => .undef) (fun v i => Bool.rec .undef v (Nat.beq i 0)) (fun _ _ _ _ a b c d i => sel4 (Nat.mod i 4) a b c d (Nat.div i 4)) t
def Tr.set (t : Tr) : Nat → PV → Tr := Tr.rec (fun _ _ => .nil) (fun u i v => Bool.rec (.leaf u) (.leaf v) (Nat.beq i 0))
  (fun a b c d sa sb sc sd i v => sel4 (Nat.mod i 4) (.node (sa (Nat.div i 4) v) b c d) (.node a (sb (Nat.div i 4) v) c d) (.node a b (sc (Nat.div i 4) v) d) (.node a b c (sd (Nat.div i 4) v))) t
def Tr.has (t : Tr) : Nat → Bool := Tr.rec (fun _ => false) (fun _ i => Nat.beq i 0) (fun _ _ _ _ a b c d i => sel4 (Nat.mod i 4) a b c d (Nat.div i 4)) t
def Tr.mapI (f : Nat → PV → PV) (t : Tr) : Nat → Nat → Tr := Tr.rec (fun _ _ => .nil) (fun v at_ _ => .leaf (f at_ v))
  (fun _ _ _ _ a b c d at_ st => .node (a at_ (4 * st)) (b (at_ + st) (4 * st)) (c (at_ + 2 * st) (4 * st)) (d (at_ + 3 * st) (4 * st))) t
def Tr.mk : Nat → Nat → Tr
  | 0,_ => .nil
  | f + 1,n => bif Nat.beq n 0 then .nil else bif Nat.beq n 1 then .leaf .undef else .node (mk f (Nat.div (n + 3) 4)) (mk f (Nat.div (n + 2) 4)) (mk f (Nat.div (n + 1) 4)) (mk f (Nat.div n 4))
structure Sl where
  t : Tr
  g : List Nat
def gAdd (v : PV) (g : List Nat) : List Nat := match v with | .gd s _ _ => s :: g | _ => g
def Sl.go (s : Sl) (i : Nat) : PV := s.t.go i
def Sl.has (s : Sl) (i : Nat) : Bool := s.t.has i
def Sl.set (s : Sl) (i : Nat) (v : PV) : Sl := ⟨s.t.set i v,gAdd v s.g⟩
def Sl.map (f : PV → PV) (s : Sl) : Sl := ⟨s.t.mapI (fun _ => f) 0 1,s.g⟩
def Sl.fill : Sl → Nat → List PV → Sl
  | s,_,[] => s
  | s,i,v :: r => fill (s.set i v) (i + 1) r
def Sl.init (n : Nat) (l : List PV) : Sl := Sl.fill ⟨Tr.mk n n,[]⟩ 0 l
end

inductive Ob where
  | box (c : List PV)
  | row (e : TypeId) (t : Ty) (l : List t.den)
  | arr (e : TypeId) (t : Ty) (n : Nat) (l : List t.den)
  | frow (e : TypeId) (t : Ty) (l : List t.den)
  | held (c : Sl)
  | mrow (e : TypeId) (t : Ty) (l : List t.den) (n : Nat)
  | live
  | mp (m : MTy) (l : List (m.k.den×m.v.den))
  | iter (m : MTy) (left : List (m.k.den×m.v.den)) (cur : Option (m.k.den×m.v.den))
  | gone
  | pm (l : List (Int×(Nat×Nat)))

structure St where
  s : Sl
  o : List (Nat×Nat×Ob)

noncomputable section
namespace St
def get (st : St) (i : Nat) : PV := st.s.go i
def set (st : St) (i : Nat) (v : PV) : St := ⟨st.s.set i v,st.o⟩
def put (st : St) (d : Option Nat) (v : PV) : St := match d with | some i => st.set i v | none => st
def findO : List (Nat×Nat×Ob) → Nat → Option (Nat×Ob)
  | [],_ => none
  | (k,o) :: r,i => bif Nat.beq k i then some o else findO r i
def obj (st : St) (k : Nat) : Option Ob := match findO st.o k with | some (_,o) => some o | none => none
def setOL : List (Nat×Nat×Ob) → Nat → Ob → List (Nat×Nat×Ob)
  | [],_,_ => []
  | (k,v,o) :: r,i,o' => bif Nat.beq k i then (k,v + 1,o') :: r else (k,v,o) :: setOL r i o'
def setO (st : St) (k : Nat) (o : Ob) : St := ⟨st.s,setOL st.o k o⟩
def del (st : St) (k : Nat) : St := st.setO k .gone
end St

mutual
def PV.refs : PV → Nat → Bool
  | .own k,i | .ptr k _,i | .optr k _ _ _,i | .view k _ _ _,i | .mown k,i => Nat.beq k i
  | .agg c,i | .tup c,i | .cptr c,i | .bx c,i | .fn _ c,i => PV.refsL c i
  | .gd _ _ v,i => v.refs i
  | _,_ => false
def PV.refsL : List PV → Nat → Bool
  | [],_ => false
  | v :: r,i => v.refs i || PV.refsL r i
end
mutual
def PV.hasq : PV → Bool
  | .qsl .. | .rptr .. => true
  | .agg c | .tup c | .cptr c | .bx c | .fn _ c => PV.hasqL c
  | .gd _ _ v => v.hasq
  | _ => false
def PV.hasqL : List PV → Bool
  | [] => false
  | v :: r => v.hasq || PV.hasqL r
end
def noQ (v : PV) : PV := bif v.hasq then .undef else v
def PV.isGd : PV → Bool
  | .gd .. => true
  | _ => false
def Sl.refs (s : Sl) (i : Nat) : Bool := Tr.rec false (fun v => v.refs i) (fun _ _ _ _ a b c d => a || (b || (c || d))) s.t
def Ob.refs : Ob → Nat → Bool
  | .box c,i => PV.refsL c i
  | .held c,i => c.refs i
  | .pm l,i => l.any fun e => Nat.beq e.2.1 i
  | _,_ => false
def refsO : List (Nat×Nat×Ob) → Nat → Bool
  | [],_ => false
  | (_,_,o) :: r,i => o.refs i || refsO r i
def St.new (st : St) (k : Nat) (o : Ob) : Option St :=
  bif st.s.refs k || refsO st.o k || o.refs k then none else
  match St.findO st.o k with
  | none => some ⟨st.s,(k,0,o) :: st.o⟩
  | some (_,.gone) => some (st.setO k o)
  | some _ => none

section
variable (P : Program)
inductive Lf where
  | data (t : Ty) | ptr | fn | err
def tyOfLeaves : List Lf → Option Ty
  | [] => some .unit
  | [.data t] => some t
  | .data t :: r => (tyOfLeaves r).map (.pair t)
  | _ => none
def leavesOf : Nat → TypeId → Option (List Lf)
  | 0,_ => none
  | n + 1,t =>
    match P.underlying t with
    | some .bool => some [.data .bool]
    | some (.int k) => some [.data (.int k)]
    | some .string => some [.data .str]
    | some (.slice e) => match (leavesOf n e).bind tyOfLeaves with | some ty => some [.data (.slice e ty)] | none => none
    | some (.pointer _) => some [.ptr]
    | some (.func ..) => some [.fn]
    | some (.struct fs) => fs.toList.foldr (fun f r => match leavesOf n f.type,r with | some a,some b => some (a ++ b) | _,_ => none) (some [])
    | some (.array k e) => match leavesOf n e with | some a => some ((List.replicate k a).flatten) | none => none
    | _ => none
def leaves (t : TypeId) : Option (List Lf) := leavesOf P 8 t
def tyOf (t : TypeId) : Option Ty := (leaves P t).bind tyOfLeaves
def aggT (t : TypeId) : Bool := match P.underlying t with | some (.struct _) | some (.array _ _) => true | _ => false
end
def zeroLeaf : Lf → Value → Option PV
  | .data (.int k),.int k' n => if k = k' ∧ n = 0 then some (.int k 0) else none
  | .data .bool,.bool false => some (.bool false)
  | .data .str,.string s => bif Nat.beq s.size 0 then some (.str []) else none
  | .data (.slice e t),.slice none 0 0 => some (.full e t [])
  | .ptr,.pointer none => some .nilptr
  | .fn,.nilFunc => some .nilfn
  | _,_ => none
def zeroLeaves : List Lf → List Value → Option (List PV)
  | [],[] => some []
  | f :: fs,v :: vs => match zeroLeaf f v,zeroLeaves fs vs with | some p,some ps => some (p :: ps) | _,_ => none
  | _,_ => none
def zeroPV (P : Program) (t : TypeId) : Option (List PV) := match P.info? t with
  | some i => match i.zero,leaves P t with
    | some z,some ls => if z.cells.size = i.size then zeroLeaves ls z.cells.toList else none
    | _,_ => none
  | none => none

def Ty.leaves : (t : Ty) → t.den → List PV
  | .int k,x => [.int k x] | .bool,x => [.bool x] | .str,x => [.str x] | .unit,_ => []
  | .pair a b,x => a.leaves x.1 ++ b.leaves x.2
  | .slice e t,x => [.sl e t x]
def Ty.flat : Ty → Bool
  | .slice .. => false
  | .pair a b => a.flat && b.flat
  | _ => true
def PV.tag : PV → PV
  | .sl e t l | .full e t l => .asl false e t l
  | v => v
def PV.untag : PV → PV
  | .asl _ e t l => .sl e t l
  | v => v
def Ty.rleaves : (t : Ty) → t.den → List PV
  | .int k,_ => [.any k] | .bool,_ => [.undef] | .str,_ => [.undef] | .unit,_ => []
  | .pair a b,x => a.rleaves x.1 ++ b.rleaves x.2
  | .slice e t,x => [.qsl e t x]
@[reducible] def QK : Nat := 70000000
def St.live (st : St) : Bool := match st.obj QK with | some .live => true | _ => false
def St.isA (st : St) : PV → Bool
  | .asl .. | .qsl .. => true
  | .own k => match st.obj k with | some (.mrow ..) => true | _ => false
  | _ => false
def PV.isQ : PV → Bool
  | .qsl .. => true
  | _ => false
def PV.toA : PV → PV
  | .sl e t l => .asl false e t l
  | .full e t l => match l with | [] => .full e t [] | x :: r => .asl false e t (x :: r)
  | .agg c => .agg (c.map PV.tag)
  | v => v
def PV.hasQ : PV → Bool
  | .agg c => c.any PV.isQ
  | v => v.isQ
def PV.isT : PV → Bool
  | .asl .. => true
  | _ => false
def PV.hasA : PV → Bool
  | .agg c => c.any PV.isT
  | v => v.isT
def St.isM (st : St) : PV → Bool
  | .qsl .. => true
  | .own k | .view k _ _ _ => match st.obj k with | some (.mrow ..) => true | _ => false
  | _ => false
def St.hasM (st : St) : PV → Bool
  | .agg c => c.any st.isM
  | v => st.isM v
def St.list (st : St) : PV → Option ((_ : TypeId)×(t : Ty)×List t.den)
  | .sl e t l | .full e t l | .asl _ e t l => some ⟨e,t,l⟩
  | .qsl e t l => bif st.live then some ⟨e,t,l⟩ else none
  | .own k => match st.obj k with | some (.row e t l) | some (.frow e t l) | some (.mrow e t l _) => some ⟨e,t,l⟩ | _ => none
  | _ => none
def Ty.take : (t : Ty) → List PV → Option (t.den×List PV)
  | .int k,.int k' n :: r => if k' = k then some (n,r) else none
  | .bool,.bool b :: r => some (b,r)
  | .str,.str s :: r => some (s,r)
  | .unit,r => some ((),r)
  | .pair a b,r => match a.take r with | some (x,r) => (match b.take r with | some (y,r) => some ((x,y),r) | none => none) | none => none
  | .slice _ t,.sl _ t' l :: r | .slice _ t,.full _ t' l :: r => if h : t' = t then some (h ▸ l,r) else none
  | _,_ => none
def Ty.of (t : Ty) (c : List PV) : Option t.den := match t.take c with | some (x,[]) => some x | _ => none
def takeN (t : Ty) : Nat → List PV → Option (List t.den)
  | 0,[] => some []
  | n + 1,c => match t.take c with | some (x,r) => (match takeN t n r with | some l => some (x :: l) | none => none) | none => none
  | _,_ => none
def elemInfo (P : Program) (e : TypeId) : Option ((t : Ty)×t.den) := match tyOf P e,zeroPV P e with
  | some t,some c => match t.of c with
    | some x => if t.size = P.cellsOf e ∧ 0 < t.size ∧ 0 < P.bytesOf e then some ⟨t,x⟩ else none
    | none => none
  | _,_ => none
def PV.cells : PV → List PV
  | .agg c => c
  | v => [v]

def St.freeze (st : St) (k : Nat) : St := match st.obj k with | some (.row e t l) => st.setO k (.frow e t l) | some (.mrow ..) => st.setO k .gone | _ => st
def St.plain (st : St) : PV → Option (PV×St)
  | .own k => match st.obj k with
    | some (.row e t l) => some (.sl e t l,st.setO k (.frow e t l))
    | some (.frow e t l) => some (.sl e t l,st)
    | _ => none
  | v => some (v,st)
def St.plainL (st : St) : List PV → Option (List PV×St)
  | [] => some ([],st)
  | v :: r => match st.plain v with | some (v,st) => (match st.plainL r with | some (r,st) => some (v :: r,st) | none => none) | none => none
def St.plainX (x : Nat) : Nat → St → List PV → Option (List PV×St)
  | _,st,[] => some ([],st)
  | i,st,v :: r => bif Nat.beq (i + 1) (x % 1048576) || Nat.beq (i + 1) (x / 1048576) then (match St.plainX x (i + 1) st r with | some (r,st) => some (v :: r,st) | none => none)
    else match st.plain v with | some (v,st) => (match St.plainX x (i + 1) st r with | some (r,st) => some (v :: r,st) | none => none) | none => none

def operand (st : St) : Operand → PV
  | .tmp t => st.get t
  | .const (.int k n) => bif (Lit.int k n).wf then .int k n else .undef
  | .const (.bool b) => .bool b
  | .const (.string s) => bif Nat.ble s.size 4294967296 then .str (s.data.toList.map fun b => (b.toNat : Int)) else .undef
  | .const (.pointer none) => .nilptr
  | .const .nilFunc => .nilfn
  | .const .nilIface => .nilerr
  | .const (.slice none 0 0) => .none_
  | .const (.map none) => .mnone
  | .func f => .fn f []
  | _ => .undef
def leafIs (P : Program) (ft : TypeId) : Ty → Bool
  | .int _ => (match P.underlying ft with | some (.int _) => true | _ => false)
  | .bool => (match P.underlying ft with | some .bool => true | _ => false)
  | .str => (match P.underlying ft with | some .string => true | _ => false)
  | _ => false
def keyFlat (P : Program) : Nat → List Field → Ty → Bool
  | i,[f],t => f.offset = i && f.name != "_" && leafIs P f.type t
  | i,f :: g :: fs,.pair a b => f.offset = i && f.name != "_" && leafIs P f.type a && keyFlat P (i + 1) (g :: fs) b
  | _,_,_ => false
def mtyOf (P : Program) (t : TypeId) : Option MTy := match P.underlying t with
  | some (.map k e) => match P.underlying k,tyOf P k,tyOf P e with
    | some (.struct fs),some kt,some vt => bif keyFlat P 0 fs.toList kt && leafIs P e vt && !P.stoodInHeld k then some ⟨kt,vt,false⟩ else none
    | some _,some kt,some vt => bif leafIs P k kt && leafIs P e vt then some ⟨kt,vt,true⟩ else none
    | _,_,_ => none
  | _ => none
def typed (P : Program) (t : TypeId) : PV → PV
  | .mnone => match mtyOf P t with | some m => .mp m [] | none => .undef
  | .none_ => match P.underlying t with
    | some (.slice e) => match tyOf P e with | some ty => .full e ty [] | none => .undef
    | _ => .undef
  | v => v

def bytesLt : List Int → List Int → Bool
  | _,[] => false
  | [],_ :: _ => true
  | a :: x,b :: y => decide (a < b) || (decide (a = b) && bytesLt x y)

def eqLeaf (P : Program) (t : TypeId) : PV → PV → Option Bool
  | .int k a,.int k' b => match P.underlying t with | some (.int _) => if k = k' then some (decide (a = b)) else none | _ => none
  | .bool a,.bool b => match P.underlying t with | some .bool => some (a == b) | _ => none
  | .str a,.str b => match P.underlying t with | some .string => some (decide (a = b)) | _ => none
  | _,_ => none
def eqFlat (P : Program) : Nat → List Field → List PV → List PV → Option Bool
  | i,f :: fs,p :: ps,q :: qs => if f.offset = i && f.name != "_" then
      (match eqLeaf P f.type p q with
      | some x => (match fs.isEmpty with
        | true => some x
        | false => (match eqFlat P (i + 1) fs ps qs with | some y => some (x && y) | none => none))
      | none => none) else none
  | _,_,_,_ => none

def bitOp (op : BinOp) (k : IntKind) (a b : Int) : Int :=
  match op with
  | .and => k.wrap (BitVec.ofInt k.bits a &&& BitVec.ofInt k.bits b).toNat
  | .or => k.wrap (BitVec.ofInt k.bits a ||| BitVec.ofInt k.bits b).toNat
  | .xor => k.wrap (BitVec.ofInt k.bits a ^^^ BitVec.ofInt k.bits b).toNat
  | .andNot => k.wrap (BitVec.ofInt k.bits a &&& ~~~BitVec.ofInt k.bits b).toNat
  | _ => 0
def intOp (op : BinOp) (k : IntKind) (a : Int) (yk : IntKind) (b : Int) : Option PV :=
  match op with
  | .add => if k = yk then some (.int k (k.wrap (a + b))) else none
  | .sub => if k = yk then some (.int k (k.wrap (a - b))) else none
  | .mul => if k = yk then some (.int k (k.wrap (a * b))) else none
  | .and | .or | .xor | .andNot => if k = yk then some (.int k (bitOp op k a b)) else none
  | .eql => if k = yk then some (.bool (decide (a = b))) else none
  | .neq => if k = yk then some (.bool (!decide (a = b))) else none
  | .lss => if k = yk then some (.bool (decide (a < b))) else none
  | .leq => if k = yk then some (.bool (decide (a ≤ b))) else none
  | .gtr => if k = yk then some (.bool (decide (b < a))) else none
  | .geq => if k = yk then some (.bool (decide (b ≤ a))) else none
  | .shl => if yk.signed then none else some (.int k (k.wrap (a * 2 ^ (min b.toNat k.bits))))
  | .shr => if yk.signed then none else some (.int k (a / 2 ^ (min b.toNat k.bits)))
  | _ => none
def intOpG (op : BinOp) (k : IntKind) (a : Int) (yk : IntKind) (b : Int) : Option (Bool×PV) :=
  match op with
  | .quo => if k = yk then some (!decide (b = 0),.int k (k.wrap (a.tdiv b))) else none
  | .rem => if k = yk then some (!decide (b = 0),.int k (a.tmod b)) else none
  | .shl => if yk.signed then some (decide (0 ≤ b),.int k (k.wrap (a * 2 ^ (min b.toNat k.bits)))) else none
  | .shr => if yk.signed then some (decide (0 ≤ b),.int k (a / 2 ^ (min b.toNat k.bits))) else none
  | _ => none
def strOp (op : BinOp) (a b : List Int) : Option PV :=
  match op with
  | .eql => some (.bool (decide (a = b)))
  | .neq => some (.bool (!decide (a = b)))
  | .lss => some (.bool (bytesLt a b))
  | .geq => some (.bool (!bytesLt a b))
  | .gtr => some (.bool (!(bytesLt a b || decide (a = b))))
  | .leq => some (.bool (bytesLt a b || decide (a = b)))
  | _ => none
def anyOp (op : BinOp) (k yk : IntKind) : Option PV := match op with
  | .add | .sub | .mul | .and | .or | .xor | .andNot => if k = yk then some (.any k) else none
  | _ => none
def binPure (P : Program) (t : TypeId) (op : BinOp) : PV → PV → Option PV
  | .int k a,.int yk b => intOp op k a yk b
  | .any k,.int yk _ | .any k,.any yk | .int k _,.any yk => anyOp op k yk
  | .str a,.str b => strOp op a b
  | .bool a,.bool b => match P.underlying t,op with | some .bool,.eql => some (.bool (a == b)) | some .bool,.neq => some (.bool (!(a == b))) | _,_ => none
  | .agg a,.agg b => match P.underlying t with
    | some (.struct fs) => bif P.stoodInHeld t || P.eqGuardType P.depth t then none else
      (match op,eqFlat P 0 fs.toList a b with
      | .eql,some r => some (.bool r)
      | .neq,some r => some (.bool (!r))
      | _,_ => none)
    | _ => none
  | _,_ => none
def unPure (op : UnOp) : PV → Option PV
  | .bool b => match op with | .not => some (.bool (!b)) | _ => none
  | .int k n => match op with | .neg => some (.int k (k.wrap (0 - n))) | _ => none
  | _ => none

def fieldOf (P : Program) (s : TypeId) (f : Nat) : Option Field := match P.underlying s with | some (.struct fs) => fs[f]? | _ => none
def partPV (P : Program) (t : TypeId) (c : List PV) (off : Nat) : Option PV :=
  match P.underlying t with
  | some (.struct _) | some (.array _ _) => if off + P.cellsOf t ≤ c.length then some (.agg ((c.drop off).take (P.cellsOf t))) else none
  | some _ => c[off]?
  | none => none
def splice (c : List PV) (off : Nat) (v : List PV) : List PV := c.take off ++ v ++ c.drop (off + v.length)
def St.cellsAt (st : St) : PV → Option (List PV)
  | .ptr k off => match st.obj k with | some (.box c) => some (c.drop off) | _ => none
  | .cptr c => some c
  | .optr k i sz off => match st.obj k with
    | some (.row _ t l) | some (.arr _ t _ l) => if sz = t.size then some ((t.leaves (rd t l i)).drop off) else none
    | some (.mrow _ t l _) => if sz = t.size then some (((t.leaves (rd t l i)).map PV.tag).drop off) else none
    | _ => none
  | .rptr t x off => some ((t.rleaves x).drop off)
  | _ => none

def pureOp (P : Program) (st : St) (o : Oper) : Option PV :=
  match o.op with
  | .move x | .assign x => some (typed P o.type (operand st x))
  | .binOp op t x y u => binPure P t op (typed P t (operand st x)) (typed P u (operand st y))
  | .unOp op _ x => unPure op (operand st x)
  | .convert s d x => match operand st x,P.underlying s,P.underlying d with
    | .int _ n,some _,some (.int k) => some (.int k (k.wrap n))
    | .str s,some _,some .string => some (.str s)
    | _,_,_ => none
  | .extract x i => match operand st x with | .tup c => c[i]? | _ => none
  | .field t x i => match operand st x,fieldOf P t i with | .agg c,some f => partPV P f.type c f.offset | _,_ => none
  | .fieldAddr s x i => match fieldOf P s i with
    | some f => if P.cellsOf f.type = 0 then none else match operand st x with
      | .ptr k off => some (.ptr k (off + f.offset))
      | .optr k i sz off => some (.optr k i sz (off + f.offset))
      | .cptr c => some (.cptr (c.drop f.offset))
      | .rptr t x off => some (.rptr t x (off + f.offset))
      | _ => none
    | none => none
  | .load t x => match st.cellsAt (operand st x) with
    | some c => partPV P t c 0
    | none => none
  | .nilCheck x => match operand st x with | .ptr k off => some (.ptr k off) | .optr k i sz off => some (.optr k i sz off) | .cptr c => some (.cptr c) | .rptr t x off => some (.rptr t x off) | .fn f c => some (.fn f c) | _ => none
  | .makeFunc (.func f) first caps => if first.isEmpty then some (.fn f (caps.toList.map (operand st))) else none
  | .call { callee := .builtin .len,args,argTypes } => match args.toList,argTypes.toList with
    | [x],[t] => match P.underlying t,operand st x with
      | some .string,.str s => some (.int .i64 s.length)
      | some (.slice _),.qsl _ _ l => some (.int .i64 l.length)
      | some (.slice _),v => match st.list (typed P t v) with | some ⟨_,_,l⟩ => some (.int .i64 l.length) | none => none
      | _,_ => none
    | _,_ => none
  | .call { callee := .builtin .cap,args,argTypes } => match args.toList,argTypes.toList with
    | [x],[t] => match P.underlying t,typed P t (operand st x) with
      | some (.slice _),.full _ _ l => some (.int .i64 l.length)
      | _,_ => none
    | _,_ => none
  | .call { callee := .builtin .min,args,.. } => match args.toList with
    | [x,y] => match operand st x,operand st y with | .int k a,.int k' b => if k = k' then some (.int k (if b < a then b else a)) else none | _,_ => none
    | _ => none
  | .call { callee := .builtin .max,args,.. } => match args.toList with
    | [x,y] => match operand st x,operand st y with | .int k a,.int k' b => if k = k' then some (.int k (if a < b then b else a)) else none | _,_ => none
    | _ => none
  | _ => none


structure Ctx where
  P : Program
  call : FuncId → List PV → {R : Type} → (PV → List (List PV) → Option R) → Option R
  marks : List Nat := []
  inlined : FuncId → Bool := fun _ => false
  inl : FuncId → List PV → St → {R : Type} → (PV → St → Option R) → Option R := fun _ _ _ _ _ => none
  nw : FuncId → Bool := fun _ => false
  glob : Nat → Option ((t : Ty)×List t.den) := fun _ => none

def LIM : Nat := 140737488355328
def inb (i : Int) (n : Nat) : Bool := decide (0 ≤ i) && decide (i < n)
def argPV (st : St) : PV → Option PV
  | .own k => match st.obj k with | some (.row e t l) | some (.frow e t l) | some (.mrow e t l _) => some (.sl e t l) | _ => none
  | .ptr k 0 => match st.obj k with | some (.box c) => some (.bx c) | _ => none
  | .agg c => (go c).map .agg
  | .view k lo _ sz => match st.obj k with | some (.row e t l) => if t.size = sz then some (.sl e t (l.drop lo)) else none | _ => none
  | .undef | .gd .. | .none_ | .cptr _ | .optr .. | .ptr .. | .tup _ | .bx _ | .fresh .. | .mown _ | .mnone | .mp .. | .rptr .. | .any _ => none
  | .fn f caps => match caps with | [] => some (.fn f []) | _ => none
  | .asl _ e t l => some (.sl e t l)
  | .qsl e t l => bif st.live then some (.sl e t l) else none
  | v => some v
where go : List PV → Option (List PV)
  | [] => some []
  | .own k :: r => match st.obj k,go r with | some (.row e t l),some r | some (.frow e t l),some r | some (.mrow e t l _),some r => some (.sl e t l :: r) | _,_ => none
  | .full e t l :: r => (go r).map (.sl e t l :: ·)
  | .asl _ e t l :: r => (go r).map (.sl e t l :: ·)
  | .qsl e t l :: r => bif st.live then (go r).map (.sl e t l :: ·) else none
  | .rptr .. :: _ | .any _ :: _ | .undef :: _ | .gd .. :: _ | .none_ :: _ | .cptr _ :: _ | .optr .. :: _ | .ptr .. :: _ | .tup _ :: _ | .bx _ :: _ | .fresh .. :: _ | .view .. :: _ | .agg _ :: _ | .fn .. :: _ | .mown _ :: _ | .mnone :: _ | .mp .. :: _ => none
  | v :: r => (go r).map (v :: ·)
def argsPV (st : St) : List PV → Option (List PV)
  | [] => some []
  | v :: r => match argPV st v,argsPV st r with | some v,some r => some (v :: r) | _,_ => none

def bindLeaf (ta : Bool) (st : St) (k : Nat) : PV → Option (PV×St)
  | .fresh e t l => match st.new k (bif ta && !t.flat then .mrow e t l 0 else .row e t l) with | some st => some (.own k,st) | none => none
  | .undef | .own _ | .ptr .. | .optr .. | .cptr _ | .bx _ | .gd .. | .agg _ | .tup _ | .fn .. | .none_ | .view .. | .mown _ | .mnone | .asl .. | .qsl .. | .rptr .. | .any _ => none
  | .sl e t l => some (bif ta then .asl false e t l else .sl e t l,st)
  | .full e t l => bif ta then none else some (.full e t l,st)
  | .mp m l => bif ta then none else some (.mp m l,st)
  | v => some (v,st)
def bindLeaves (ta : Bool) (st : St) (k : Nat) : List PV → Option (List PV×St)
  | [] => some ([],st)
  | v :: r => match bindLeaf ta st k v with
    | some (v,st) => (match bindLeaves ta st (k + 1) r with | some (r,st) => some (v :: r,st) | none => none)
    | none => none
def bindOne (ta : Bool) (st : St) (k : Nat) : PV → Option (PV×St)
  | .agg c => match bindLeaves ta st k c with | some (c,st) => some (.agg c,st) | none => none
  | v => bindLeaf ta st k v
def bindAll (ta : Bool) (st : St) (k : Nat) : List PV → Option (List PV×St)
  | [] => some ([],st)
  | v :: r => match bindOne ta st k v with
    | some (v,st) => (match bindAll ta st (k + 64) r with | some (r,st) => some (v :: r,st) | none => none)
    | none => none
def bindRes (ta : Bool) (st : St) (d : Nat) : PV → Option (PV×St)
  | .tup c => match bindAll ta st (4096 * d) c with | some (c,st) => some (.tup c,st) | none => none
  | v => bindOne ta st (4096 * d) v
def qLeaf : PV → PV
  | .fresh e t l | .sl e t l => .qsl e t l
  | .int k n => .int k n
  | .bool b => .bool b
  | .str s => .str s
  | .nilptr => .nilptr
  | .nilfn => .nilfn
  | .nilerr => .nilerr
  | _ => .undef
def qOne : PV → PV
  | .agg c => .agg (c.map qLeaf)
  | v => qLeaf v
def qRes : PV → PV
  | .tup c => .tup (c.map qOne)
  | v => qOne v
def St.apart (st : St) : Option St := bif st.live then some st else none
def flat1 : PV → Bool
  | .int .. | .bool _ | .str _ | .nilptr | .nilfn | .nilerr => true
  | _ => false
def flatO : PV → Bool
  | .agg c => c.all flat1
  | v => flat1 v
def flatL : List PV → Bool
  | [] => true
  | v :: r => flatO v && flatL r
def flat : PV → Bool
  | .tup c => flatL c
  | v => flatO v
def freeze1 (st : St) : PV → St
  | .own k | .view k _ _ _ => st.freeze k
  | .agg c => c.foldl (fun st v => match v with | .own k => st.freeze k | _ => st) st
  | _ => st

def enters (P : Program) (f : FuncId) : Bool := match P.funcs[f]? with
  | some fn => fn.body.isSome && fn.name != "runtime.NumGoroutine"
  | none => false

section
variable (C : Ctx) {R : Type}
def callOp (f : FuncId) (args : List PV) (d : Option Nat) (st : St) (K : St → Option R) : Option R :=
  match argsPV st args,d with
  | some as,some d => C.call f (bif C.nw f then as.map PV.toA else as) fun r _ =>
    bif C.nw f && C.marks.any (Nat.beq (1099511627776 + d)) then (match st.apart with | some st => K (st.set d (qRes r)) | none => none) else
    bif flat r || C.nw f then (match bindRes false st d r with | some (v,st) => K (st.set d v) | none => none) else
    bif args.any PV.hasQ then none else
    match bindRes (args.any PV.hasA || args.any st.hasM) (args.foldl freeze1 st) d r with
    | some (v,st) => K (st.set d v)
    | none => none
  | _,_ => none

def srcOf (st : St) (t : Ty) : PV → Option (List t.den)
  | .str s => if h : Ty.int .u8 = t then some (h ▸ s) else none
  | .asl _ _ t' l => if h : t' = t then bif t.flat then some (h ▸ l) else none else none
  | v => bif st.isA v then none else match st.list v with | some ⟨_,t',l⟩ => if h : t' = t then some (h ▸ l) else none | none => none
def newNum (st : St) (k : Nat) (o : Ob) : Option (Nat×St) := match st.new k o with
  | some s => some (k,s)
  | none => match st.new (k + 1) o with
    | some s => some (k + 1,s)
    | none => none
def appendOp (P : Program) (e : TypeId) (base src : PV) (d : Option Nat) (st : St) (K : St → Option R) : Option R :=
  match d,elemInfo P e with
  | some d,some ⟨t,_⟩ => match srcOf st t src,base with
    | some m,.own k => match st.obj k with
      | some (.row e' t' l) => if e' = e then if h : t' = t then bif decide ((l.length + m.length) * P.bytesOf e ≤ LIM) then (match newNum (st.del k) (4096 * d) (.row e t (h ▸ l ++ m)) with | some (k',st) => K (st.set d (.own k')) | none => none) else none else none else none
      | _ => none
    | some m,.full _ t' l => if h : t' = t then bif !m.isEmpty || l.isEmpty then bif decide ((l.length + m.length) * P.bytesOf e ≤ LIM) then (match newNum st (4096 * d) (.row e t (h ▸ l ++ m)) with | some (k',st) => K (st.set d (.own k')) | none => none) else none else none else none
    | _,_ => none
  | _,_ => none

def appendA (P : Program) (e : TypeId) (base src : PV) (d : Option Nat) (st : St) (K : St → Option R) : Option R :=
  match d,elemInfo P e with
  | some d,some ⟨t,_⟩ => bif src.isQ then none else match st.list src,base with
    | some ⟨_,t2,m⟩,.own k => if h2 : t2 = t then (match st.obj k with
      | some (.row e' t' l) | some (.mrow e' t' l _) => if e' = e then if h : t' = t then bif decide ((l.length + m.length) * P.bytesOf e ≤ LIM) then (match newNum (st.del k) (4096 * d) (.mrow e t (h ▸ l ++ h2 ▸ m) 0) with | some (k',st) => K (st.set d (.own k')) | none => none) else none else none else none
      | _ => none) else none
    | some ⟨_,t2,m⟩,.full _ t' l | some ⟨_,t2,m⟩,.asl true _ t' l => if h2 : t2 = t then if h : t' = t then bif !m.isEmpty || l.isEmpty then bif decide ((l.length + m.length) * P.bytesOf e ≤ LIM) then (match newNum st (4096 * d) (.mrow e t (h ▸ l ++ h2 ▸ m) 0) with | some (k',st) => K (st.set d (.own k')) | none => none) else none else none else none else none
    | _,_ => none
  | _,_ => none
def appendAny (P : Program) (e : TypeId) (base src : PV) (d : Option Nat) (st : St) (K : St → Option R) : Option R := match elemInfo P e with
  | some ⟨t,_⟩ => bif st.isA base || (st.isA src && !t.flat) then appendA P e base src d st K else appendOp P e base src d st K
  | none => none

def appendZ (P : Program) (e : TypeId) (base n : PV) (d : Option Nat) (st : St) (K : St → Option R) : Option R := match base,n,d,elemInfo P e with
  | .full _ _ l,.int .i64 n,some d,some ⟨t,z⟩ => match l with
    | [] => bif decide (0 < n) && decide (n.toNat * P.bytesOf e ≤ LIM) then (match st.new (4096 * d) (.row e t (List.replicate n.toNat z)) with | some st => K (st.set d (.own (4096 * d))) | none => none) else none
    | _ :: _ => none
  | _,_,_,_ => none
def cutOf (len : Nat) : Option PV → Option PV → Option PV → Option (Bool×Nat×Nat×Bool)
  | none,some (.int _ h),none => some (inb h (len + 1),0,h.toNat,false)
  | some (.int _ l),none,none => some (inb l (len + 1),l.toNat,len,false)
  | some (.int _ l),some (.int _ h),none => some (inb h (len + 1) && (decide (0 ≤ l) && decide (l ≤ h)),l.toNat,h.toNat,false)
  | none,none,none => some (true,0,len,false)
  | none,some (.int _ h),some (.int _ m) => some (inb h (len + 1) && decide (h = m),0,h.toNat,true)
  | some (.int _ l),some (.int _ h),some (.int _ m) => some (inb h (len + 1) && (decide (0 ≤ l) && decide (l ≤ h)) && decide (h = m),l.toNat,h.toNat,true)
  | _,_,_ => none
def cut {α : Type} (s : List α) (lo hi : Option PV) (l h : Nat) : List α := match lo,hi with
  | none,none => s
  | none,some _ => s.take h
  | some _,none => s.drop l
  | some _,some _ => (s.take h).drop l
def sliceOp (fl : Bool) (P : Program) (t : TypeId) (x : PV) (lo hi mx : Option PV) (K : PV → Option R) : Option R :=
  match P.underlying t,x with
  | some .string,.str s => match cutOf s.length lo hi mx with
    | some (g,l,h,false) => bif g then K (.str (cut s lo hi l h)) else none
    | _ => none
  | some (.slice e'),.sl e ty s | some (.slice e'),.full e ty s => if ty.size = P.cellsOf e' ∧ ty.size ≠ 0 then (match cutOf s.length lo hi mx with
    | some (g,l,h,false) => bif g then K (match x,s with | .full ..,[] => .full e ty [] | _,_ => .sl e ty (cut s lo hi l h)) else none
    | some (g,l,h,true) => bif g then K (.full e ty (cut s lo hi l h)) else none
    | none => none) else none
  | some (.slice e'),.asl _ e ty s => if ty.size = P.cellsOf e' ∧ ty.size ≠ 0 then (match cutOf s.length lo hi mx with
    | some (g,l,h,false) => bif g then K (.asl false e ty (cut s lo hi l h)) else none
    | some (g,l,h,true) => bif fl then (bif g then K (.asl true e ty (cut s lo hi l h)) else none) else (match hi with | some (.int _ (.ofNat 0)) => bif g then K (.full e ty []) else none | _ => none)
    | none => none) else none
  | _,_ => none

def PV.one : PV → Bool
  | .int .. | .bool _ | .str _ | .sl .. | .full .. | .own _ | .ptr .. | .cptr _ | .optr .. | .fn .. | .nilptr | .nilfn | .nilerr | .none_ | .asl .. | .qsl .. | .any _ => true
  | _ => false
def storeOp (P : Program) (t : TypeId) (addr v : PV) (st : St) (K : St → Option R) : Option R :=
  if v.cells.length = P.cellsOf t ∧ P.cellsOf t ≠ 0 ∧ v.cells.all PV.one then
    match addr with
    | .ptr k off => match st.obj k with
      | some (.box c) => if off + v.cells.length ≤ c.length then K (st.setO k (.box (splice c off v.cells))) else none
      | _ => none
    | .optr k i sz off => match st.plainL v.cells with
      | some (vs,st) => match st.obj k with
        | some (.row e t l) => if sz = t.size then (match t.of (splice (t.leaves (rd t l i)) off vs) with | some x => K (st.setO k (.row e t (l.set i.toNat x))) | none => none) else none
        | some (.arr e t n l) => if sz = t.size then (match t.of (splice (t.leaves (rd t l i)) off vs) with | some x => K (st.setO k (.arr e t n (l.set i.toNat x))) | none => none) else none
        | some (.mrow e t l n) => if sz = t.size then (match t.of (splice ((t.leaves (rd t l i)).map PV.tag) off vs) with | some x => bif decide (i.toNat = n) then K (st.setO k (.mrow e t (l.set i.toNat x) (n + 1))) else none | none => none) else none
        | _ => none
      | none => none
    | .rptr t x off => bif st.live then none else match (t.rleaves x)[off]?,v.cells with
      | some (.any k),[.any k'] | some (.any k),[.int k' _] => if k = k' then K st else none
      | _,_ => none
    | _ => none
  else none

def newBox (c : List PV) (d : Nat) (st : St) (K : St → Option R) : Option R :=
  match st.new (4096 * d) (.box c) with | some st => K (st.set d (.ptr (4096 * d) 0)) | none => none

def buildCells (P : Program) (st : St) (fs : Array Field) : List PV → List (Nat×Operand) → Option (List PV)
  | c,[] => some c
  | c,(i,x) :: r => match fs[i]? with
    | some f => let v := (typed P f.type (operand st x)).cells
      if v.length = P.cellsOf f.type ∧ P.cellsOf f.type ≠ 0 ∧ f.offset + v.length ≤ c.length ∧ v.all PV.one then buildCells P st fs (splice c f.offset v) r else none
    | none => none

def buildElems (P : Program) (st : St) (e : TypeId) (sz : Nat) : List PV → List (Nat×Operand) → Option (List PV)
  | c,[] => some c
  | c,(i,x) :: r =>
    let v := (typed P e (operand st x)).cells
    if v.length = sz ∧ i * sz + sz ≤ c.length ∧ v.all PV.one then buildElems P st e sz (splice c (i * sz) v) r else none
def unw (c : Operand) (w : Bool) : PV → PV
  | .gd s w' v => match c with | .tmp s' => bif Nat.beq s s' && (w == w') then san v else .undef | _ => .undef
  | v => v
where san : PV → PV
  | .gd .. => .undef
  | v => v
def both {R : Type} (a b : Option R) : Option R := open Classical in if a = b then a else none
def nilIs {R : Type} (st : St) (p : PV) (K : Bool → Option R) : Option R := match st.list p with
  | some ⟨_,_,l⟩ => bif l.isEmpty then both (K true) (K false) else K false
  | none => none
def marked (o : Oper) (b : Nat) : Bool := match o.dst with | some d => C.marks.any (Nat.beq (2 * d + b)) | none => false
def markA (o : Oper) : Bool := match o.dst with | some d => C.marks.any (Nat.beq (2199023255552 + d)) | none => false
def mrowNil (P : Program) (t : TypeId) (x : PV) (lo hi mx : Option PV) (st : St) (K : PV → Option R) : Option R := match x,lo,hi,mx,P.underlying t with
  | .own k,none,some (.int _ (.ofNat 0)),some (.int _ (.ofNat 0)),some (.slice e') => match st.obj k with
    | some (.mrow e ty _ _) => if P.cellsOf e' = 0 then none else K (.full e ty [])
    | _ => none
  | _,_,_,_,_ => none
def ownCut (P : Program) (t : TypeId) (x : PV) (lo hi mx : Option PV) (d : Option Nat) (st : St) (K : St → Option R) : Option R := match x,lo,hi,mx,d,P.underlying t with
  | .own k,none,some (.int _ h),none,some d,some (.slice e') => match st.obj k with
    | some (.row e ty l) => if ty.size = P.cellsOf e' ∧ ty.size ≠ 0 then bif inb h (l.length + 1) then (match (st.del k).new (4096 * d) (.row e ty (l.take h.toNat)) with | some st => K (st.set d (.own (4096 * d))) | none => none) else none else none
    | _ => none
  | _,_,_,_,_,_ => none
def viewCut (P : Program) (t : TypeId) (x : PV) (lo hi mx : Option PV) (d : Option Nat) (st : St) (K : St → Option R) : Option R := match x,lo,hi,mx,P.underlying t with
  | .own k,some (.int _ a),none,none,some (.slice e') => match st.obj k with
    | some (.row _ ty l) => if ty.size = P.cellsOf e' ∧ ty.size ≠ 0 then bif inb a (l.length + 1) then K (st.put d (.view k a.toNat (l.length - a.toNat) ty.size)) else none else none
    | _ => none
  | _,_,_,_,_ => none
def copyOp (P : Program) (e' : TypeId) (b src : PV) (d : Option Nat) (st : St) (K : St → Option R) : Option R := match b with
  | .view k lo n sz => match st.obj k with
    | some (.row e ty l) => if ty.size = sz ∧ sz = P.cellsOf e' ∧ sz ≠ 0 then (match srcOf st ty src with
      | some m => bif decide (m.length ≤ n) && decide (lo + n ≤ l.length) then K ((st.setO k (.row e ty (l.take lo ++ m ++ l.drop (lo + m.length)))).put d (.int .i64 m.length)) else none
      | none => none) else none
    | _ => none
  | _ => none
def convBytes (x : PV) (d : Option Nat) (st : St) (K : St → Option R) : Option R := match x with
  | .own k => match st.obj k with
    | some (.row e t l) => bif l.isEmpty then none else K ((st.setO k (.frow e t l)).put d (.sl e t l))
    | _ => none
  | _ => none
def eqb : (t : Ty) → t.den → t.den → Bool
  | .int _,a,b => decide (a = b)
  | .bool,a,b => a == b
  | .str,a,b => decide (a = b)
  | .unit,_,_ => true
  | .pair s t,a,b => eqb s a.1 b.1 && eqb t a.2 b.2
  | .slice _ _,_,_ => false
def mget (kt vt : Ty) (z : vt.den) : List (kt.den×vt.den) → kt.den → vt.den
  | [],_ => z
  | e :: r,k => bif eqb kt k e.1 then e.2 else mget kt vt z r k
def mhas (kt vt : Ty) : List (kt.den×vt.den) → kt.den → Bool
  | [],_ => false
  | e :: r,k => eqb kt k e.1 || mhas kt vt r k
def mput (kt vt : Ty) : List (kt.den×vt.den) → kt.den → vt.den → List (kt.den×vt.den)
  | [],k,v => [(k,v)]
  | e :: r,k,v => bif eqb kt k e.1 then (k,v) :: r else e :: mput kt vt r k v
def mapOf (st : St) (m : MTy) : PV → Option (List (m.k.den×m.v.den))
  | .mp m' l => if h : m' = m then some (h ▸ l) else none
  | .mown k => match st.obj k with | some (.mp m' l) => if h : m' = m then some (h ▸ l) else none | _ => none
  | _ => none
def zAgg (P : Program) (e : TypeId) : Bool := match P.info? e with
  | some i => (match i.zero with | some (.agg _) => true | _ => false)
  | none => false
def mzero (P : Program) (t : TypeId) (m : MTy) : Option m.v.den := match P.underlying t with
  | some (.map _ e) => bif zAgg P e then none else
    match zeroPV P e with | some c => m.v.of c | none => none
  | _ => none
def lookPV (m : MTy) (ok : Bool) (x : m.v.den) (f : Bool) : PV := match m.v.leaves x with
  | [p] => bif ok then .tup [p,.bool f] else p
  | _ => .undef
def MTy.key (m : MTy) (i : PV) : Option m.k.den := match m.s,i with
  | true,i => m.k.of [i]
  | false,.agg c => m.k.of c
  | false,_ => none
def lookupOp (P : Program) (t : TypeId) (x i : PV) (ok : Bool) (d : Option Nat) (st : St) (K : St → Option R) : Option R := match mtyOf P t with
  | some m => match m.key i,mapOf st m x,mzero P t m with
    | some q,some l,some z => K (st.put d (lookPV m ok (mget m.k m.v z l q) (mhas m.k m.v l q)))
    | _,_,_ => none
  | none => none
def lenMap (P : Program) (t : TypeId) (p : PV) (d : Option Nat) (st : St) (K : St → Option R) : Option R := match mtyOf P t with
  | some m => match mapOf st m p with
    | some l => bif decide (l.length ≤ 9223372036854775807) then K (st.put d (.int .i64 l.length)) else none
    | none => none
  | none => none
def MTy.keyPV (m : MTy) (x : m.k.den) : PV := match m.s with
  | true => (match m.k.leaves x with | [p] => p | _ => .undef)
  | false => .agg (m.k.leaves x)
def MTy.valPV (m : MTy) (y : m.v.den) : PV := match m.v.leaves y with | [p] => p | _ => .undef
def entryOp (p : PV) (d : Option Nat) (st : St) (K : St → Option R) : Option R := match p with
  | .ptr k 0 => match st.obj k with
    | some (.iter m _ (some e)) => K (st.put d (.tup [m.keyPV e.1,m.valPV e.2]))
    | _ => none
  | _ => none
def anyOf {α R : Type} (l : List α) (f : α → List α → Option R) : Option R := open Classical in if h : ∃ r,l ≠ [] ∧ ∀ i x,l[i]? = some x → f x (l.eraseIdx i) = some r then some h.choose else none
def nextOp (p : PV) (d : Option Nat) (st : St) (K : St → Option R) : Option R := match p with
  | .ptr k 0 => match st.obj k with
    | some (.iter m left _) => bif left.isEmpty then K (st.put d (.tup [.bool false])) else anyOf left fun e r => K ((st.setO k (.iter m r (some e))).put d (.tup [.bool true,.undef,.undef]))
    | _ => none
  | _ => none
def rangeOp (P : Program) (t : TypeId) (p : PV) (d : Option Nat) (st : St) (K : St → Option R) : Option R := match mtyOf P t,p,d with
  | some m,.mp m' l,some d => if h : m' = m then (match st.new (4096 * d) (.iter m (h ▸ l) none) with | some st => K (st.set d (.ptr (4096 * d) 0)) | none => none) else none
  | some m,.mown k,some d => match st.obj k with
    | some (.mp m' l) => if h : m' = m then (match (st.del k).new (4096 * d) (.iter m (h ▸ l) none) with | some st => K (st.set d (.ptr (4096 * d) 0)) | none => none) else none
    | _ => none
  | _,_,_ => none
def makeMapOp (P : Program) (t : TypeId) (d : Option Nat) (st : St) (K : St → Option R) : Option R := match mtyOf P t,d with
  | some m,some d => match st.new (4096 * d) (.mp m []) with | some st => K (st.set d (.mown (4096 * d))) | none => none
  | _,_ => none
def mapUpdateOp (P : Program) (t : TypeId) (x i v : PV) (d : Option Nat) (st : St) (K : St → Option R) : Option R := match mtyOf P t,x with
  | some m,.mown n => match st.obj n,m.key i,m.v.of [v] with
    | some (.mp m' l),some q,some y => if h : m' = m then K ((st.setO n (.mp m (mput m.k m.v (h ▸ l) q y))).put d .undef) else none
    | _,_,_ => none
  | _,_ => none
def pmOf (P : Program) (t : TypeId) : Bool := match P.underlying t with
  | some (.map k e) => (match P.underlying k,P.underlying e,zeroPV P e with
    | some (.int .u64),some (.pointer _),some [.nilptr] => !zAgg P e
    | _,_,_ => false)
  | _ => false
def pins : List (Int×(Nat×Nat)) → Int → Nat×Nat → List (Int×(Nat×Nat))
  | [],q,v => [(q,v)]
  | e :: r,q,v => bif decide (q < e.1) then (q,v) :: e :: r else e :: pins r q v
def pmMake (d : Option Nat) (st : St) (K : St → Option R) : Option R := match d with
  | some d => match st.new (4096 * d) (.pm []) with | some st => K (st.set d (.mown (4096 * d))) | none => none
  | none => none
def pmPut (x i v : PV) (d : Option Nat) (st : St) (K : St → Option R) : Option R := match x,i,v with
  | .mown n,.int .u64 q,.ptr k off => match st.obj n with
    | some (.pm l) => bif l.any fun e => decide (e.1 = q) then none else K ((st.setO n (.pm (pins l q (k,off)))).put d .undef)
    | _ => none
  | _,_,_ => none
def pmGo (q : Int) (d : Option Nat) (st : St) (K : St → Option R) : List (Int×(Nat×Nat)) → Option R
  | [] => K (st.put d .nilptr)
  | e :: r => bif decide (q = e.1) then K (st.put d (.ptr e.2.1 e.2.2)) else pmGo q d st K r
def pmGet (x i : PV) (ok : Bool) (d : Option Nat) (st : St) (K : St → Option R) : Option R := bif ok then none else match x,i with
  | .mown n,.int .u64 q => match st.obj n with
    | some (.pm l) => pmGo q d st K l
    | _ => none
  | _,_ => none
def ptrNil (p : PV) (K : Bool → Option R) : Option R := match p with
  | .ptr .. => K false
  | .nilptr => K true
  | _ => none
def globAddr (n : Nat) (e : TypeId) (x : Operand) (i : Int) (d : Option Nat) (st : St) (K : St → Option R) : Option R := match x with
  | .global g => match C.glob g with
    | some ⟨t,l⟩ => bif Nat.beq t.size (C.P.cellsOf e) && Nat.beq l.length n then bif inb i n then K (st.put d (.cptr (t.leaves (rd t l i)))) else none else none
    | none => none
  | _ => none
def clearOp (P : Program) (e' : TypeId) (b : PV) (d : Option Nat) (st : St) (K : St → Option R) : Option R := match b with
  | .view k lo n sz => match st.obj k,elemInfo P e' with
    | some (.row e ty l),some ⟨t,z⟩ => if ty.size = sz ∧ sz = P.cellsOf e' ∧ sz ≠ 0 then if h : t = ty then bif decide (lo + n ≤ l.length) then K ((st.setO k (.row e ty (l.take lo ++ List.replicate n (h ▸ z) ++ l.drop (lo + n)))).put d .undef) else none else none else none
    | _,_ => none
  | _ => none
def actOp (o : Oper) (st : St) (K : St → Option R) : Option R :=
  match o.op with
  | .lookup t x i ok => bif pmOf C.P t then pmGet (operand st x) (operand st i) ok o.dst st K else lookupOp C.P t (operand st x) (operand st i) ok o.dst st K
  | .makeMap t none => bif pmOf C.P t then pmMake o.dst st K else makeMapOp C.P t o.dst st K
  | .range t x => rangeOp C.P t (typed C.P t (operand st x)) o.dst st K
  | .entry x => entryOp (operand st x) o.dst st K
  | .next x false => nextOp (operand st x) o.dst st K
  | .mapUpdate t x i v => mapUpdateOp C.P t (operand st x) (operand st i) (operand st v) o.dst st K
  | .insert t x i v => bif pmOf C.P t then pmPut (operand st x) (operand st i) (operand st v) o.dst st K else mapUpdateOp C.P t (operand st x) (operand st i) (operand st v) o.dst st K
  | .pick c a b => match operand st c with
    | .bool t => match unw c true (operand st a),unw c false (operand st b) with
      | .bool x,.bool y => K (st.put o.dst (.bool (bif t then x else y)))
      | x,y => bif t then K (st.put o.dst (typed C.P o.type x)) else K (st.put o.dst (typed C.P o.type y))
    | _ => none
  | .binOp op t x y u => match typed C.P t (operand st x),typed C.P u (operand st y) with
    | .int k a,.int yk b => match intOpG op k a yk b with
      | some (g,v) => bif g then K (st.put o.dst v) else none
      | none => none
    | p,_ => match operand st y,C.P.underlying t,op with
      | .none_,some (.slice _),.eql => nilIs st p fun b => K (st.put o.dst (.bool b))
      | .none_,some (.slice _),.neq => nilIs st p fun b => K (st.put o.dst (.bool (!b)))
      | .nilptr,some (.pointer _),.eql => ptrNil p fun b => K (st.put o.dst (.bool b))
      | .nilptr,some (.pointer _),.neq => ptrNil p fun b => K (st.put o.dst (.bool (!b)))
      | _,_,_ => none
  | .indexAddr t x i => match operand st i,C.P.underlying t with
    | .int _ i,some (.slice e) => if C.P.cellsOf e = 0 then none else match operand st x with
      | .own k => match st.obj k with
        | some (.row _ ty l) => bif Nat.beq ty.size (C.P.cellsOf e) then bif inb i l.length then K (st.put o.dst (.optr k i ty.size 0)) else none else none
        | some (.mrow _ ty l _) => bif Nat.beq ty.size (C.P.cellsOf e) then bif inb i l.length then K (st.put o.dst (.optr k i ty.size 0)) else none else none
        | some (.frow _ ty l) => bif Nat.beq ty.size (C.P.cellsOf e) then bif inb i l.length then K (st.put o.dst (.cptr (ty.leaves (rd ty l i)))) else none else none
        | _ => none
      | .sl _ ty l | .full _ ty l => bif Nat.beq ty.size (C.P.cellsOf e) then bif inb i l.length then K (st.put o.dst (.cptr (ty.leaves (rd ty l i)))) else none else none
      | .asl _ _ ty l => bif Nat.beq ty.size (C.P.cellsOf e) then bif inb i l.length then K (st.put o.dst (.cptr ((ty.leaves (rd ty l i)).map PV.tag))) else none else none
      | .qsl _ ty l => bif Nat.beq ty.size (C.P.cellsOf e) then bif inb i l.length then K (st.put o.dst (.rptr ty (rd ty l i) 0)) else none else none
      | _ => none
    | .int _ i,some (.array n e) => if C.P.cellsOf e = 0 then none else match operand st x with
      | .ptr k off => match st.obj k with
        | some (.arr _ ty n' l) => if off = 0 ∧ n' = n ∧ ty.size = C.P.cellsOf e then bif inb i n then K (st.put o.dst (.optr k i ty.size 0)) else none else none
        | some (.box _) => bif inb i n then K (st.put o.dst (.ptr k (off + i.toNat * C.P.cellsOf e))) else none
        | _ => none
      | .cptr c => bif inb i n then K (st.put o.dst (.cptr (c.drop (i.toNat * C.P.cellsOf e)))) else none
      | .undef => globAddr C n e x i o.dst st K
      | _ => none
    | _,_ => none
  | .index t x i => match operand st i,operand st x with
    | .int _ i,.str s => match C.P.underlying t with
      | some .string => bif inb i s.length then K (st.put o.dst (.int .u8 (s.getD i.toNat 0))) else none
      | _ => none
    | .int _ i,.agg c => match C.P.underlying t with
      | some (.array n e) => if C.P.cellsOf e = 0 then none else bif inb i n then (match partPV C.P e c (i.toNat * C.P.cellsOf e) with | some v => K (st.put o.dst (unw.san v)) | none => none) else none
      | _ => none
    | _,_ => none
  | .alloc t => match o.dst,zeroPV C.P t with
    | some d,some c => match C.P.underlying t with
      | some (.array n e) => match tyOf C.P e with
        | some ty => (match takeN ty n c with
          | some l => (match st.new (4096 * d) (.arr e ty n l) with | some st => K (st.set d (.ptr (4096 * d) 0)) | none => none)
          | none => none)
        | none => none
      | _ => newBox c d st K
    | _,_ => none
  | .box t x => match o.dst with
    | some d => match (typed C.P t (operand st x)) with
      | .agg c => newBox c d st K
      | v => bif v.one then newBox [v] d st K else none
    | none => none
  | .build t parts => match C.P.underlying t,zeroPV C.P t with
    | some (.struct fs),some c => bif !(fs.toList.all fun f => (C.P.info? f.type).isSome) then none else match buildCells C.P st fs c parts.toList with
      | some c => K (st.put o.dst (.agg c))
      | none => none
    | _,_ => none
  | .buildSlice t n parts => match C.P.underlying t,o.dst with
    | some (.slice e),some d => match elemInfo C.P e with
      | some ⟨ty,_⟩ => if n * ty.size ≤ 16777216 then (match buildElems C.P st e ty.size (List.replicate (n * ty.size) .undef) parts.toList with
        | some c => match st.plainL c with
          | some (c,st) => match takeN ty n c with
            | some l => (match st.new (4096 * d) (.row e ty l) with | some st => K (st.set d (.own (4096 * d))) | none => none)
            | none => match takeN ty n (c.map PV.untag) with
              | some l => (match st.new (4096 * d) (.mrow e ty l 0) with | some st => K (st.set d (.own (4096 * d))) | none => none)
              | none => none
          | none => none
        | none => none) else none
      | none => none
    | _,_ => none
  | .store t a v => storeOp C.P t (operand st a) (typed C.P t (operand st v)) st (fun st => K (st.put o.dst .undef))
  | .makeSlice t n c => match C.P.underlying t,o.dst,operand st n,operand st c with
    | some (.slice e),some d,.int .i64 n,.int .i64 c => match elemInfo C.P e with
      | some ⟨ty,z⟩ => bif decide (0 ≤ n) && decide (n = c) && decide (n.toNat * C.P.bytesOf e ≤ LIM) then
          (match st.new (4096 * d) (.row e ty (List.replicate n.toNat z)) with | some st => K (st.set d (.own (4096 * d))) | none => none) else none
      | none => none
    | _,_,_,_ => none
  | .slice t x lo hi mx => bif marked C o 0 then ownCut C.P t (operand st x) (lo.map (operand st)) (hi.map (operand st)) (mx.map (operand st)) o.dst st K else
    bif marked C o 1 then viewCut C.P t (operand st x) (lo.map (operand st)) (hi.map (operand st)) (mx.map (operand st)) o.dst st K else match st.plain (typed C.P t (operand st x)) with
    | some (p,st1) => sliceOp (markA C o) C.P t p (lo.map (operand st)) (hi.map (operand st)) (mx.map (operand st)) (fun v => K (st1.put o.dst v))
    | none => mrowNil C.P t (typed C.P t (operand st x)) (lo.map (operand st)) (hi.map (operand st)) (mx.map (operand st)) st (fun v => K (st.put o.dst v))
  | .convert s d x => match C.P.underlying s,C.P.underlying d with
    | some .string,some (.slice e) => match operand st x,C.P.underlying e with
      | .str l,some (.int .u8) => K (st.put o.dst (.sl e (.int .u8) l))
      | _,_ => none
    | some (.slice e),some .string => match st.list (typed C.P s (operand st x)),C.P.underlying e with
      | some ⟨_,.int .u8,l⟩,some (.int .u8) => K (st.put o.dst (.str l))
      | _,_ => none
    | some (.slice _),some (.slice e) => match C.P.underlying e with
      | some (.int .u8) => bif Nat.beq s d then convBytes (operand st x) o.dst st K else none
      | _ => none
    | _,_ => none
  | .call { callee := .builtin .copy,args,argTypes } => match args.toList,argTypes.toList with
    | [b,x],[t,u] => match C.P.underlying t,C.P.underlying u with
      | some (.slice e),some (.slice _) => copyOp C.P e (operand st b) (typed C.P u (operand st x)) o.dst st K
      | _,_ => none
    | _,_ => none
  | .call { callee := .builtin .clear,args,argTypes } => match args.toList,argTypes.toList with
    | [b],[t] => match C.P.underlying t with
      | some (.slice e) => clearOp C.P e (operand st b) o.dst st K
      | _ => none
    | _,_ => none
  | .call { callee := .builtin .len,args,argTypes } => match args.toList,argTypes.toList with
    | [x],[t] => lenMap C.P t (typed C.P t (operand st x)) o.dst st K
    | _,_ => none
  | .call { callee := .builtin .append,args,argTypes } => match args.toList,argTypes.toList with
    | [b,x],[t,u] => match C.P.underlying t,C.P.underlying u with
      | some (.slice e),some (.slice _) | some (.slice e),some .string => appendAny C.P e (typed C.P t (operand st b)) (typed C.P u (operand st x)) o.dst st K
      | some (.slice e),some (.int _) => appendZ C.P e (typed C.P t (operand st b)) (operand st x) o.dst st K
      | _,_ => none
    | _,_ => none
  | .call { callee := .value f,args,argTypes } => match operand st f with
    | .fn f caps => bif enters C.P f && decide (args.size = argTypes.size) then callOp C f (((args.toList.zip argTypes.toList).map fun p => typed C.P p.2 (operand st p.1)) ++ caps) o.dst st K else none
    | _ => none
  | _ => none

def gdOn (s : Sl) : Option Nat → Bool
  | some d => s.g.any (Nat.beq d)
  | none => false
def ungd1 (s : Nat) (w : Bool) : PV → PV
  | .gd s' w' v => bif Nat.beq s' s && (w' == w) then unw.san v else .gd s' w' v
  | v => v
def isGdOf (d : Option Nat) (s : Nat) : Bool := match d with | some d => Nat.beq d s | none => false
def evForce {R : Type} (ops : Array Oper) : Nat → Nat → Bool → St → (St → Option R) → (St → Option R) → Option R
  | 0,_,_,_,_,_ => none
  | n + 1,s,w,st,Ky,Kn => match st.get s with
    | .bool g => bif g == w then Ky ⟨(st.s.set s (.bool w)).map (ungd1 s w),st.o⟩ else Kn (st.set s (.bool (!w)))
    | .gd s1 w1 _ => bif ops.toList.any (fun o => isGdOf o.dst s1) then evForce ops n s1 w1 st (fun st => evForce ops n s w st Ky Kn) Kn else none
    | _ => none
def evOp (ops : Array Oper) (o : Oper) (st : St) (K : St → Option R) : Option R :=
  bif gdOn st.s o.dst then none else
  match o.guard with
  | none => match pureOp C.P st o with
    | some v => K (st.put o.dst (unw.san v))
    | none => actOp C o st K
  | some (j,w) => match (ops[j]?).bind (·.dst) with
    | some s => bif isGdOf o.dst s then none else
      match pureOp C.P ⟨st.s.map (ungd1 s w),st.o⟩ o with
      | some v => K (st.put o.dst (.gd s w (unw.san v)))
      | none => evForce ops 6 s w st (fun st => actOp C o st K) (fun st => K (st.put o.dst .undef))
    | none => none
def inlOf (st : St) (o : Oper) : Option (FuncId×List PV) := match o.op with
  | .call { callee := .value f,args,argTypes } => match operand st f with
    | .fn g caps => bif C.inlined g && enters C.P g && decide (args.size = argTypes.size) && o.guard.isNone && !gdOn st.s o.dst then
        some (g,((args.toList.zip argTypes.toList).map fun p => typed C.P p.2 (operand st p.1)) ++ caps) else none
    | _ => none
  | _ => none
def evOpI (ops : Array Oper) (o : Oper) (st : St) (K : St → Option R) : Option R := match inlOf C st o with
  | some (g,as) => C.inl g as st fun v st => bif gdOn st.s o.dst then none else K (st.put o.dst (unw.san v))
  | none => evOp C ops o st K
def evOps (ops : Array Oper) : List Oper → St → (St → Option R) → Option R
  | [],st,K => K st
  | o :: r,st,K => match inlOf C st o with
    | some (g,as) => C.inl g as st fun v st => bif gdOn st.s o.dst then none else evOps ops r (st.put o.dst (unw.san v)) K
    | none => evOp C ops o st fun st => evOps ops r st K

def ungd : PV → PV
  | .gd .. => .undef
  | v => v
def Sl.ungd (s : Sl) : Sl := ⟨s.t.mapI (fun _ => Fw.ungd) 0 1,[]⟩
def St.ungd (st : St) : St := { st with s := st.s.ungd }

inductive Ex where
  | normal | exit (id : Nat) | ret

inductive HV where
  | data (s : Nat) (t : Ty)
  | row (s K : Nat) (e : TypeId) (t : Ty)
  | arr (k : Nat) (e : TypeId) (t : Ty) (n : Nat)
  | box (k : Nat) (t : Ty)
  | rowk (k : Nat) (e : TypeId) (t : Ty)
  | crow (k i K : Nat) (e : TypeId) (t : Ty)
  | mpk (k : Nat) (m : MTy)
  | iterk (k : Nat) (m : MTy)
  | boxr (k K : Nat) (a b : Ty)
  | boxs (k K K' : Nat) (a b c : Ty)
  | dataA (s : Nat) (t : Ty)
  | boxA (k : Nat) (t : Ty)
  | mrowk (k : Nat) (e : TypeId) (t : Ty)
structure Head where
  vars : List HV
  stay : List Nat
@[reducible] def HV.den : HV → Type
  | .data _ t => t.den
  | .row _ _ _ t => List t.den
  | .arr _ _ t _ => List t.den
  | .box _ t => t.den
  | .rowk _ _ t => List t.den
  | .crow _ _ _ _ t => List t.den
  | .mpk _ m => List (m.k.den×m.v.den)
  | .iterk _ m => List (m.k.den×m.v.den)
  | .boxr _ _ a b => a.den×b.den
  | .boxs _ _ _ a b c => a.den×(b.den×c.den)
  | .dataA _ t => t.den
  | .boxA _ t => t.den
  | .mrowk _ _ t => List t.den×Nat
@[reducible] def denL : List HV → Type
  | [] => Unit
  | [v] => v.den
  | v :: r => v.den×denL r
def dsts : Code → List Nat
  | .region _ ops _ => ops.toList.filterMap (·.dst)
  | .seq a b | .cond _ a b => dsts a ++ dsts b
  | .block _ a | .loop a | .scope a => dsts a
  | _ => []
def rdRow (st : St) (e : TypeId) (t : Ty) (p : PV) : Option (List t.den) := match p with
  | .own k => match st.obj k with
    | some (.row e' t' l) => if e' = e then if h : t' = t then some (h ▸ l) else none else none
    | _ => none
  | .full e' t' l => if e' = e then if h : t' = t then (match (h ▸ l : List t.den) with | [] => some [] | _ => none) else none else none
  | _ => none
def St.cellPV (st : St) (k i : Nat) : PV := match st.obj k with | some (.box c) => (c[i]?).getD .undef | _ => .undef
def HV.read (st : St) : (v : HV) → Option v.den
  | .data s t => t.of [match st.get s with | .full e t l => .sl e t l | v => v]
  | .row s _ e t => rdRow st e t (st.get s)
  | .crow k i _ e t => rdRow st e t (st.cellPV k i)
  | .mpk k m => match st.obj k with | some (.mp m' l) => if h : m' = m then some (h ▸ l) else none | _ => none
  | .iterk k m => match st.obj k with | some (.iter m' l _) => if h : m' = m then some (h ▸ l) else none | _ => none
  | .boxr k _ a b => match st.obj k with
    | some (.box c) => (match a.of (c.take a.size),b.of (c.drop (a.size + 1)) with | some x,some y => (bif Nat.ble (a.size + 1) c.length then some (x,y) else none) | _,_ => none)
    | _ => none
  | .boxs k _ _ a b c => match st.obj k with
    | some (.box l) => (match a.of (l.take a.size),b.of ((l.drop (a.size + 1)).take b.size),c.of (l.drop (a.size + 1 + b.size + 1)) with | some x,some y,some z => (bif Nat.ble (a.size + 1 + b.size + 1) l.length then some (x,(y,z)) else none) | _,_,_ => none)
    | _ => none
  | .arr k e t n => match st.obj k with | some (.arr e' t' n' l) => if e' = e ∧ n' = n then if h : t' = t then some (h ▸ l) else none else none | _ => none
  | .box k t => match st.obj k with | some (.box c) => t.of c | _ => none
  | .dataA s t => t.of [match (st.get s).untag with | .full e t l => .sl e t l | v => v]
  | .boxA k t => match st.obj k with | some (.box c) => t.of (c.map PV.untag) | _ => none
  | .mrowk k e t => match st.obj k with | some (.mrow e' t' l n) => if e' = e then if h : t' = t then some (h ▸ l,n) else none else none | _ => none
  | .rowk k e t => match st.obj k with | some (.row e' t' l) => if e' = e then if h : t' = t then some (h ▸ l) else none else none | _ => none
def readL (st : St) : (vs : List HV) → Option (denL vs)
  | [] => some ()
  | [v] => v.read st
  | v :: w :: r => match v.read st,readL st (w :: r) with | some x,some y => some (x,y) | _,_ => none
def St.layO (st : St) (k : Nat) (o : Ob) : St := match St.findO st.o k with
  | none => ⟨st.s,(k,0,o) :: st.o⟩
  | some _ => st.setO k o
def HV.lay (st : St) : (v : HV) → v.den → St
  | .data s t,x => match t.leaves x with | [v] => st.set s v | _ => st
  | .dataA s t,x => match t.leaves x with | [v] => st.set s v.tag | _ => st
  | .boxA k t,x => st.layO k (.box ((t.leaves x).map PV.tag))
  | .row s K e t,l => (st.set s (.own K)).layO K (.row e t l)
  | .arr k e t n,l => st.layO k (.arr e t n l)
  | .rowk k e t,l => st.layO k (.row e t l)
  | .mrowk k e t,l => st.layO k (.mrow e t l.1 l.2)
  | .box k t,x => st.layO k (.box (t.leaves x))
  | .crow _ _ K e t,l => st.layO K (.row e t l)
  | .mpk k m,l => st.layO k (.mp m l)
  | .iterk k m,l => st.layO k (.iter m l none)
  | .boxr k K a b,x => st.layO k (.box (a.leaves x.1 ++ .own K :: b.leaves x.2))
  | .boxs k K K' a b c,x => st.layO k (.box (a.leaves x.1 ++ .own K :: (b.leaves x.2.1 ++ .own K' :: c.leaves x.2.2)))
def layL (st : St) : (vs : List HV) → denL vs → St
  | [],_ => st
  | [v],x => v.lay st x
  | v :: w :: r,x => layL (v.lay st x.1) (w :: r) x.2
def dropS (w : List Nat) (s : Sl) : Sl := ⟨s.t.mapI (fun i v => bif w.any (Nat.beq i) then .undef else Fw.ungd v) 0 1,[]⟩
def goneO (h : List Nat) : List (Nat×Nat×Ob) → List (Nat×Nat×Ob)
  | [] => []
  | (k,v,o) :: r => (bif h.any (Nat.beq k) then (k,v,o) else (k,v + 1,.gone)) :: goneO h r
def base (h : Head) (w : List Nat) (st : St) : St := ⟨dropS w st.s,goneO h.stay st.o⟩
def stays (h : Head) (st0 st : St) : Bool := h.stay.all fun k =>
  match St.findO st0.o k,St.findO st.o k with
  | some (v,_),some (v',_) => Nat.beq v v'
  | none,none => true
  | _,_ => false
def HV.src (st : St) : HV → Option Nat
  | .data .. | .dataA .. => none
  | .row s _ _ _ => match st.get s with | .own k => some k | _ => none
  | .arr k .. | .box k _ | .rowk k .. | .boxr k .. | .boxs k .. | .mpk k _ | .iterk k _ | .boxA k _ | .mrowk k .. => some k
  | .crow k i .. => match st.cellPV k i with | .own k => some k | _ => none
def apart1 (stay : List Nat) : List Nat → Bool
  | [] => true
  | k :: r => !(stay.any (Nat.beq k)) && !(r.any (Nat.beq k)) && apart1 stay r
def srcOk (h : Head) (st : St) : Bool := apart1 h.stay (h.vars.filterMap (HV.src st))
def HV.rowKey : HV → Option Nat
  | .row _ K _ _ | .crow _ _ K _ _ => some K
  | _ => none
def headOk (h : Head) (w : List Nat) (st : St) : Bool := apart1 [] (h.vars.filterMap HV.rowKey) && h.vars.all fun v => match v with
  | .data s _ | .dataA s _ => w.any (Nat.beq s)
  | .row s K _ _ => w.any (Nat.beq s) && !(h.stay.any (Nat.beq K)) && !((base h w st).s.refs K) && !(refsO (base h w st).o K)
  | .crow _ _ K _ _ => !(h.stay.any (Nat.beq K)) && !((base h w st).s.refs K) && !(refsO (base h w st).o K)
  | .arr k .. | .box k _ | .rowk k .. | .mpk k _ | .iterk k _ | .boxA k _ | .mrowk k .. => h.vars.all fun u => match u.rowKey with | some K => !(Nat.beq K k) | none => true
  | .boxr k K a _ => (h.vars.all fun u => match u.rowKey with | some K => !(Nat.beq K k) | none => true) &&
    h.vars.any fun u => match u with | .crow k' i K' _ _ => Nat.beq k' k && Nat.beq i a.size && Nat.beq K' K | _ => false
  | .boxs k K K2 a b _ => (h.vars.all fun u => match u.rowKey with | some K => !(Nat.beq K k) | none => true) &&
    ((h.vars.any fun u => match u with | .crow k' i K' _ _ => Nat.beq k' k && Nat.beq i a.size && Nat.beq K' K | _ => false) &&
    h.vars.any fun u => match u with | .crow k' i K' _ _ => Nat.beq k' k && Nat.beq i (a.size + 1 + b.size) && Nat.beq K' K2 | _ => false)

def iter {S R : Type} (B : (S → Option R) → S → Option R) : Nat → S → Option R
  | 0 => fun _ => none
  | n + 1 => B (iter B n)
def lfp {S R : Type} (B : (S → Option R) → S → Option R) (s : S) : Option R :=
  open Classical in if h : ∃ r n,∀ m,n ≤ m → iter B m s = some r then some h.choose else none

def loopKey : Code → Nat
  | .region id .. => id
  | .seq a _ => loopKey a
  | .block _ a => loopKey a
  | .loop a => loopKey a
  | .scope a => loopKey a
  | _ => 0

def joinKey : Code → Nat
  | .region id .. => id + 1
  | .seq a b | .cond _ a b => bif Nat.beq (joinKey a) 0 then joinKey b else joinKey a
  | .block _ a | .loop a | .scope a => joinKey a
  | _ => 0
theorem joinEx (S R : Type) : ∃ f : (S → Option R) → ((S → Option R) → Option R) → Option R,∀ J B,f J B = B J := ⟨fun J B => B J,fun _ _ => rfl⟩
def joinK {S R : Type} (J : S → Option R) (B : (S → Option R) → Option R) : Option R := (joinEx S R).choose J B
theorem joinK_eq {S R : Type} (J : S → Option R) (B : (S → Option R) → Option R) : joinK J B = B J := (joinEx S R).choose_spec J B
def dynStay (st : St) (srcs : List Nat) : List (Nat×Nat×Ob) → List Nat
  | [] => []
  | (k,_,o) :: r => bif (match o with | .gone => true | _ => false) || srcs.any (Nat.beq k) then dynStay st srcs r else k :: dynStay st srcs r
def joinHead (h : Head) (st : St) : Head := ⟨h.vars,dynStay st (h.vars.filterMap (HV.src st) ++ h.stay) st.o⟩
def joinTo {R : Type} (h : Head) (st : St) (K : Ex → St → Option R) (J : denL h.vars → Option R) (e : Ex) (st' : St) : Option R := match e with
  | .normal => (match readL st' h.vars with
    | some x => bif stays h st st' && srcOk h st' then J x else none
    | none => none)
  | e => K e st'

def readyL (ops : Array Oper) (listed : List Bool) : List Nat := Region.ready .any ops listed.toArray
def memFree (o : Oper) : Bool := match o.op with
  | .move _ | .assign _ | .extract .. | .field .. | .pick .. | .makeFunc .. | .indexAddr .. | .slice .. | .build .. => true
  | _ => false
def PV.det : PV → Bool
  | .int .. | .bool _ | .ptr .. | .optr .. => true
  | _ => false
def cptrOp (s : Sl) (o : Oper) : Bool := match o.op with
  | .load _ x | .fieldAddr _ x _ | .nilCheck x => match operand ⟨s,[]⟩ x with | .cptr _ => true | _ => false
  | _ => false
def slotFree (P : Program) (s s0 : Sl) (o : Oper) : Bool := (match pureOp P ⟨s,[]⟩ o with
  | some p => p.det
  | none => false) || (cptrOp s0 o && (pureOp P ⟨s0,[]⟩ o).isSome)
def St.still (st : St) : Sl := st.s.map noQ
def loadFree (P : Program) (ops : Array Oper) (st : St) (o : Oper) : Bool := match o.guard with
  | none => slotFree P st.still st.s o
  | some (j,w) => match (ops[j]?).bind (·.dst) with
    | some s => slotFree P (St.still ⟨st.s.map (ungd1 s w),st.o⟩) (st.s.map (ungd1 s w)) o
    | none => false
def takes (P : Program) (ops : Array Oper) (listed : List Bool) (st : St) (i : Nat) : Bool := match ops[i]? with
  | some o => (memFree o || loadFree P ops st o) && Region.free .any ops listed.toArray i
  | none => false
def allOf {R α : Type} (f : α → Option R) : List α → Option R
  | [] => none
  | [i] => f i
  | i :: j :: r => both (f i) (allOf f (j :: r))
def evAny (ops : Array Oper) : Nat → List Bool → St → (St → Option R) → Option R
  | 0,listed,st,K => match readyL ops listed with | [] => K st | _ => none
  | n + 1,listed,st,K => match readyL ops listed with
    | [] => K st
    | rs => match rs.find? (takes C.P ops listed st) with
      | some i => match ops[i]? with
        | some o => evOpI C ops o st fun st => evAny ops n (listed.set i true) st K
        | none => none
      | none => allOf (fun i => match ops[i]? with
        | some o => evOpI C ops o st fun st => evAny ops n (listed.set i true) st K
        | none => none) rs

def depOf (o : Oper) : Nat := o.after.toList.foldr (fun e m => bif Region.binds .any e then Nat.lor (2 ^ e.on) m else m) 0
def clashOf (ops : Array Oper) (oi : Oper) (i : Nat) : Nat → List Oper → Nat
  | _,[] => 0
  | j,oj :: r => bif j == i || (oj.after.any (fun e => Region.binds .any e && e.on == i) || oi.apart ops oj) then clashOf ops oi i (j + 1) r else Nat.lor (2 ^ j) (clashOf ops oi i (j + 1) r)
def tabGo (ops : Array Oper) : Nat → List Oper → List Nat → Bool
  | _,[],[] => true
  | i,o :: r,d :: c :: t => Nat.beq (depOf o) d && (Nat.beq (clashOf ops o i 0 ops.toList) c && tabGo ops (i + 1) r t)
  | _,_,_ => false
def readyM (lm : Nat) : Nat → List Oper → List Nat → List (Nat×Oper×Nat)
  | i,o :: r,d :: c :: t => bif Nat.beq (Nat.land lm (2 ^ i)) 0 && Nat.beq (Nat.land d lm) d then (i,o,c) :: readyM lm (i + 1) r t else readyM lm (i + 1) r t
  | _,_,_ => []
def takesM (P : Program) (ops : Array Oper) (lm : Nat) (st : St) (x : Nat×Oper×Nat) : Bool := Nat.beq (Nat.land x.2.2 lm) x.2.2 && (memFree x.2.1 || loadFree P ops st x.2.1)
def insOf (P : Program) (o : Oper) : Option (Nat×Int) := match o.op with
  | .insert t (.tmp m) (.const (.int .u64 q)) (.tmp _) => bif pmOf P t && o.dst.isNone && o.guard.isNone && (Lit.int .u64 q).wf then some (m,q) else none
  | _ => none
def insOnly (P : Program) (ops : Array Oper) (tab : List Nat) (m : Nat) : Nat → Nat → List Nat → Bool
  | 0,_,_ => true
  | n + 1,lm,T => ((readyM lm 0 ops.toList tab).map (·.1) == T) && ((readyM lm 0 ops.toList tab).all fun x => match insOf P x.2.1 with | some (m',_) => Nat.beq m' m | none => false) &&
      T.all fun i => insOnly P ops tab m n (Nat.lor lm (2 ^ i)) (T.erase i)
def insApart (P : Program) : List (Nat×Oper×Nat) → Bool
  | [] => true
  | x :: r => (r.all fun y => match insOf P x.2.1,insOf P y.2.1 with | some (_,p),some (_,q) => !decide (p = q) | _,_ => false) && insApart P r
def evAnyM (ops : Array Oper) (tab : List Nat) : Nat → Nat → St → (St → Option R) → Option R
  | 0,lm,st,K => match readyM lm 0 ops.toList tab with | [] => K st | _ => none
  | n + 1,lm,st,K => match readyM lm 0 ops.toList tab with
    | [] => K st
    | r :: rs => match (r :: rs).find? (takesM C.P ops lm st) with
      | some x => evOpI C ops x.2.1 st fun st => evAnyM ops tab n (Nat.lor lm (2 ^ x.1)) st K
      | none => allOf (fun x => evOpI C ops x.2.1 st fun st => evAnyM ops tab n (Nat.lor lm (2 ^ x.1)) st K) (r :: rs)
def insGood (P : Program) (ops : Array Oper) (tab : List Nat) (lm : Nat) (L : List (Nat×Oper×Nat)) : Bool := match L with
  | x :: _ :: _ => (match insOf P x.2.1 with
    | some (m,_) => insApart P L && insOnly P ops tab m L.length lm (L.map (·.1))
    | none => false)
  | _ => false
def evAnyJ (ops : Array Oper) (tab : List Nat) : Nat → Nat → Nat → St → (St → Option R) → Option R
  | 0,_,lm,st,K => match readyM lm 0 ops.toList tab with | [] => K st | _ => none
  | n + 1,k,lm,st,K => match readyM lm 0 ops.toList tab with
    | [] => K st
    | r :: rs => match k with
      | k + 1 => evOpI C ops r.2.1 st fun st => evAnyJ ops tab n k (Nat.lor lm (2 ^ r.1)) st K
      | 0 => match (r :: rs).find? (takesM C.P ops lm st) with
        | some x => evOpI C ops x.2.1 st fun st => evAnyJ ops tab n 0 (Nat.lor lm (2 ^ x.1)) st K
        | none => bif insGood C.P ops tab lm (r :: rs) then evOpI C ops r.2.1 st fun st => evAnyJ ops tab n rs.length (Nat.lor lm (2 ^ r.1)) st K
          else allOf (fun x => evOpI C ops x.2.1 st fun st => evAnyJ ops tab n 0 (Nat.lor lm (2 ^ x.1)) st K) (r :: rs)
def evAnyT (ops : Array Oper) (tab : List Nat) (st : St) (K : St → Option R) : Option R :=
  bif tabGo ops 0 ops.toList tab then evAnyJ C ops tab ops.size 0 0 st K else evAny C ops ops.size (List.replicate ops.size false) st K

def thaw (st : St) (s : Nat) : St := match st.get s with
  | .full e t l => st.set s (.sl e t l)
  | .own k => match st.plain (.own k) with | some (p,st1) => st1.set s p | none => st
  | .mown k => match st.obj k with | some (.mp m l) => (st.del k).set s (.mp m l) | _ => st
  | .ptr k off => match st.obj k with | some (.box l) => (st.del k).set s (.cptr (l.drop off)) | _ => st
  | _ => st
def thaws (ops : Array Oper) (l : List Nat) (st : St) : St := l.foldl (fun st s => bif ops.toList.any (fun o => isGdOf o.dst s) then thaw st s else st) st
def thawB (st : St) (v : Nat) : St := match st.obj (v % 1099511627776) with
  | some (.box c) => match St.plainX (v / 1099511627776) 0 st c with
    | some (c',st1) => match st1.obj (v % 1099511627776) with
      | some (.box _) => st1.setO (v % 1099511627776) (.box c')
      | _ => st
    | none => st
  | _ => st
def thawBs (l : List Nat) (st : St) : St := l.foldl thawB st
def sealOne (st : St) (k : Nat) (K : St → Option R) : Option R := match st.obj k with
  | some (.mrow e t l n) => bif decide (l.length ≤ n) then K (st.setO k (.row e t l)) else none
  | _ => K st
def sealL : List Nat → St → (St → Option R) → Option R
  | [],st,K => K st
  | k :: r,st,K => sealOne st k fun st => sealL r st K
def spoil (l : List Nat) (st : St) : St := match l with
  | [] => st
  | _ :: _ => bif st.live then st.del QK else st
def evC (H : Nat → Head) : Code → St → (Ex → St → Option R) → Option R
  | .skip,st,K => K .normal st
  | .region id ops dr,st,K => bif dr then bif Region.noSelect ops then evAnyT C ops (H (5000000 + id)).stay st (fun st => K .normal (thawBs (H (3000000 + id)).stay (thaws ops (H (1000000 + id)).stay st.ungd))) else none
      else evOps C ops ops.toList st (fun st => K .normal (thawBs (H (3000000 + id)).stay (thaws ops (H (1000000 + id)).stay (bif ops.any (fun o => o.guard.isSome) then st.ungd else st))))
  | .seq a b,st,K => evC H a st fun e st => match e with | .normal => evC H b st K | e => K e st
  | .cond c a b,st,K => match operand st c with
    | .bool t => match (H (8000000 + joinKey (.cond c a b))).stay with
      | [] => bif t then evC H a st K else evC H b st K
      | _ :: _ => bif headOk (joinHead (H (8000000 + joinKey (.cond c a b))) st) (dsts a ++ dsts b) st then
          joinK (fun x => K .normal (layL (base (joinHead (H (8000000 + joinKey (.cond c a b))) st) (dsts a ++ dsts b) st) (joinHead (H (8000000 + joinKey (.cond c a b))) st).vars x))
            fun J => bif t then evC H a st (joinTo (joinHead (H (8000000 + joinKey (.cond c a b))) st) st K J) else evC H b st (joinTo (joinHead (H (8000000 + joinKey (.cond c a b))) st) st K J)
        else none
    | _ => none
  | .block id a,st,K => evC H a st fun e st => match e with | .exit i => bif Nat.beq i id then K .normal st else K (.exit i) st | e => K e st
  | .loop a,st0,K =>
    let st := spoil (H (7000000 + loopKey a)).stay st0
    match readL st (H (loopKey a)).vars with
    | some x => bif headOk (H (loopKey a)) (dsts a) st && srcOk (H (loopKey a)) st then
        lfp (fun rec x => evC H a (layL (base (H (loopKey a)) (dsts a) st) (H (loopKey a)).vars x) fun e st' => match e with
        | .normal => (match readL st' (H (loopKey a)).vars with
          | some x' => bif stays (H (loopKey a)) st st' && srcOk (H (loopKey a)) st' then rec x' else none
          | none => none)
        | e => sealL (H (6000000 + loopKey a)).stay st' (K e)) x else none
    | none => none
  | .exit id,st,K => K (.exit id) st
  | .ret,st,K => K .ret st
  | .label _,st,K => K .normal st
  | .scope a,st,K => evC H a st K
  | _,_,_ => none

def outLeaf (st : St) : PV → Option (PV×St)
  | .own k => match st.obj k with
    | some (.row e t l) => some (.fresh e t l,st.del k)
    | some (.frow e t l) => some (.sl e t l,st)
    | _ => none
  | .full e t l => match l with | [] => some (.fresh e t [],st) | _ :: _ => some (.sl e t l,st)
  | .undef | .ptr .. | .optr .. | .cptr _ | .bx _ | .gd .. | .agg _ | .tup _ | .fn .. | .none_ | .fresh .. | .view .. | .mown _ | .mnone | .asl .. | .qsl .. | .rptr .. | .any _ => none
  | v => some (v,st)
def outLeaves (st : St) : List PV → Option (List PV×St)
  | [] => some ([],st)
  | v :: r => match outLeaf st v with
    | some (v,st) => (match outLeaves st r with | some (r,st) => some (v :: r,st) | none => none)
    | none => none
def outOne (st : St) : PV → Option (PV×St)
  | .agg c => match outLeaves st c with | some (c,st) => some (.agg c,st) | none => none
  | v => outLeaf st v
def outAll (st : St) : List PV → Option (List PV×St)
  | [] => some ([],st)
  | v :: r => match outOne st v with
    | some (v,st) => (match outAll st r with | some (r,st) => some (v :: r,st) | none => none)
    | none => none
def resultPV (P : Program) (st : St) : ResultVar → TypeId → Option PV
  | .tmp t,ty => some (typed P ty (st.get t))
  | .cell a t,_ => match st.cellsAt (st.get a) with
    | some c => partPV P t c 0
    | none => none
def resultsPV (P : Program) (st : St) : List ResultVar → List TypeId → Option (List PV)
  | [],_ => some []
  | r :: rs,ts => match resultPV P st r (ts.headD 0),resultsPV P st rs ts.tail with | some v,some vs => some (v :: vs) | _,_ => none

def emptyC : List PV → (List PV → Option R) → Option R
  | [],K => K []
  | v :: r,K => match v with
    | .asl _ e t l => bif l.isEmpty then emptyC r (fun r => K (.sl e t [] :: r)) else none
    | v => emptyC r (fun r => K (v :: r))
def emptyL : List PV → (List PV → Option R) → Option R
  | [],K => K []
  | v :: r,K => match v with
    | .asl _ e t l => bif l.isEmpty then emptyL r (fun r => K (.sl e t [] :: r)) else none
    | .agg c => emptyC c (fun c => emptyL r (fun r => K (.agg c :: r)))
    | v => emptyL r (fun r => K (v :: r))
def initO (l : List Nat) : List (Nat×Nat×Ob) := match l with
  | [] => []
  | _ :: _ => [(QK,0,.live)]
def evF (H : Nat → Head) (fn : Func) (args : List PV) (K : PV → Option R) : Option R :=
  match fn.body with
  | some c =>
    evC { C with marks := (H 4000000).stay } H c ⟨Sl.init (args.length + (fn.ntmps - args.length)) args,initO (H 9000000).stay⟩ fun ex st =>
      match ex with
      | .exit _ => none
      | _ => match resultsPV C.P st fn.results.toList fn.resultTypes.toList with
        | some vs => emptyL vs fun vs => match outAll st vs with
          | some ([v],_) => K v
          | some (vs,_) => K (.tup vs)
          | none => none
        | none => none
  | none => none
def liveO (old : List (Nat×Nat×Ob)) (k : Nat) : Bool := match St.findO old k with | some (_,.gone) => false | some _ => true | none => false
def sweep (v : PV) (old : List (Nat×Nat×Ob)) : List (Nat×Nat×Ob) → St → St
  | [],st => st
  | (k,_,_) :: r,st => sweep v old r (bif liveO old k || v.refs k || st.s.refs k || refsO st.o k || (st.obj k).isNone then st else st.del k)
def evI (H : Nat → Head) (k : Nat) (fn : Func) (args : List PV) (st : St) (K : PV → St → Option R) : Option R :=
  bif args.any PV.isGd then none else
  match fn.body,St.new ⟨Sl.init (args.length + (fn.ntmps - args.length)) args,st.o⟩ k (.held st.s) with
  | some c,some st1 => (match St.findO st1.o k with
    | some (v0,_) => evC { C with marks := (H 4000000).stay } H c st1 fun ex st' =>
      match ex with
      | .exit _ => none
      | _ => match St.findO st'.o k with
        | some (v,_) => bif Nat.beq v v0 then (match resultsPV C.P st' fn.results.toList fn.resultTypes.toList with
          | some [v] => K v (sweep v st.o (st'.del k).o ⟨st.s,(st'.del k).o⟩)
          | some vs => K (.tup vs) (sweep (.tup vs) st.o (st'.del k).o ⟨st.s,(st'.del k).o⟩)
          | none => none) else none
        | none => none
    | none => none)
  | _,_ => none
end
end
end Go.Fw
