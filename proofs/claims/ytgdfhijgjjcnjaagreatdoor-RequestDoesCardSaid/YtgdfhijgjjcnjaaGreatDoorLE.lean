/- Part of a proof: what the program's functions come to. -/
import Derived.Test.YtgdfhijgjjcnjaaGreatDoorFwSort
import Derived.Test.YtgdfhijgjjcnjaaGreatDoorEPAYz
import Derived.Test.YtgdfhijgjjcnjaaGreatDoorProg
import Derived.KernelRfl
set_option linter.unusedVariables false
set_option linter.unusedSimpArgs false
set_option maxRecDepth 100000
namespace Go.Proofs.YtgdfhijgjjcnjaaGreatDoor.RZ
open Go Go.Fw Go.Proofs
def globs : Nat → Option ((t : Ty)×List t.den)
  | 0 => some ⟨(.int .i64),([0,71,17,79,3,2,2,0,6,4,32] : List Int)⟩
  | _ => none
noncomputable def C_ : Ctx := Ctx.nilG Tryz.prog globs
theorem s_ : C_.Sound := Ctx.nilG_sound _ _
theorem mixed : Tryz.prog.follows .mixedOrders = true := by kernel_rfl
def H90 : Nat → Head := fun _ => ⟨[],[]⟩
noncomputable def F90 (b : Int) : Option Int :=
 bif decide (b < 2) then (
 some (IntKind.wrap .u64 (1 + (IntKind.wrap .u64 b))))
 else (
 some (IntKind.wrap .u64 (16 + (IntKind.wrap .u64 (IntKind.wrap .i64 (b - 2))))))
theorem ev90 (b : Int) : evF C_ H90 Tryz.f90 (encs [.one (.int .i64)] b) (RT.dec (.one (.leaf (.int .u64)))) = F90 b := by kernel_rfl
noncomputable def C90 : Ctx := Ctx.add C_ 90 [.one (.int .i64)] (.one (.leaf (.int .u64))) F90
theorem s90 : C90.Sound := Ctx.Sound.add (C := C_) mixed s_ Tryz.func90 ev90
def H29 : Nat → Head := fun _ => ⟨[],[]⟩
noncomputable def F29 (b : (Int×List Int)) : Option Bool :=
 some (bif decide (b.1 = 1) then true else decide (b.1 = 4))
theorem ev29 (b : (Int×List Int)) : evF C90 H29 Tryz.f29 (encs [.agg (.pair (.int .u64) (.slice 5 (.int .u8)))] b) (RT.dec (.one (.leaf (.bool)))) = F29 b := by kernel_rfl
noncomputable def C29 : Ctx := Ctx.add C90 29 [.agg (.pair (.int .u64) (.slice 5 (.int .u8)))] (.one (.leaf (.bool))) F29
theorem s29 : C29.Sound := Ctx.Sound.add (C := C90) mixed s90 Tryz.func29 ev29
def H52 : Nat → Head := fun _ => ⟨[],[]⟩
noncomputable def F52 (b : (Int×List Int)×(Int×List Int)) : Option Int :=
 some (IntKind.wrap .i64 ((IntKind.wrap .i64 b.1.1) - (IntKind.wrap .i64 b.2.1)))
theorem ev52 (b : (Int×List Int)×(Int×List Int)) : evF C29 H52 Tryz.f52 (encs [.agg (.pair (.int .u64) (.slice 5 (.int .u8))),.agg (.pair (.int .u64) (.slice 5 (.int .u8)))] b) (RT.dec (.one (.leaf (.int .i64)))) = F52 b := by kernel_rfl
noncomputable def C52 : Ctx := Ctx.add C29 52 [.agg (.pair (.int .u64) (.slice 5 (.int .u8))),.agg (.pair (.int .u64) (.slice 5 (.int .u8)))] (.one (.leaf (.int .i64))) F52
theorem s52 : C52.Sound := Ctx.Sound.add (C := C29) mixed s29 Tryz.func52 ev52
def H76 : Nat → Head
  | 5 => ⟨[.data 3 (.int .u64),.data 4 (.int .i64)],[]⟩
  | _ => ⟨[],[]⟩
noncomputable def F76 (b : List Int) : Option Int :=
 bif decide ((b.length : Int) < 1) then (
 none)
 else (
 bif inb 0 b.length then
 lfp (fun (rec1 : (Int×Int) → Option Int) (x1 : Int×Int) =>
  bif decide (x1.2 < (b.length : Int)) then (
  bif inb x1.2 b.length then
  rec1 ((if x1.1 < (rd (.int .u64) b x1.2) then (rd (.int .u64) b x1.2) else x1.1),(IntKind.wrap .i64 (x1.2 + 1)))
  else none)
  else (
  some x1.1)) ((rd (.int .u64) b 0),1)
 else none)
theorem ev76 (b : List Int) : evF C52 H76 Tryz.f76 (encs [.one (.slice 22 (.int .u64))] b) (RT.dec (.one (.leaf (.int .u64)))) = F76 b := by kernel_rfl
noncomputable def C76 : Ctx := Ctx.add C52 76 [.one (.slice 22 (.int .u64))] (.one (.leaf (.int .u64))) F76
theorem s76 : C76.Sound := Ctx.Sound.add (C := C52) mixed s52 Tryz.func76 ev76
def H38 : Nat → Head := fun _ => ⟨[],[]⟩
noncomputable def F38 (b : List Int) : Option Int :=
 bif (decide (0 < (b.length : Int)) == true) then (
 (F76 b).bind fun r1 =>
 bif decide (4611686018427387904 < r1) then (
 some 1)
 else (
 some 0))
 else (
 some 0)
theorem ev38 (b : List Int) : evF C76 H38 Tryz.f38 (encs [.one (.slice 22 (.int .u64))] b) (RT.dec (.one (.leaf (.int .i64)))) = F38 b := by kernel_rfl
noncomputable def C38 : Ctx := Ctx.add C76 38 [.one (.slice 22 (.int .u64))] (.one (.leaf (.int .i64))) F38
theorem s38 : C38.Sound := Ctx.Sound.add (C := C76) mixed s76 Tryz.func38 ev38
def H37 : Nat → Head := fun _ => ⟨[],[]⟩
noncomputable def F37 (b : (Int×(Int×Int))) : Option Int :=
 bif decide (b.1 = 4) then (
 (F38 ([b.2.1])).bind fun r1 =>
 some r1)
 else (
 bif decide (b.1 = 3) then (
 (F38 ([b.2.1])).bind fun r2 =>
 bif (!decide (r2 = 0)) then (
 some 1)
 else (
 bif (!decide (b.2.2 = 0)) then (
 some 1)
 else (
 some 0)))
 else (
 bif decide (b.1 = 2) then (
 bif decide (0 < (b.2.1 / 2 ^ (min (16 : Int).toNat 64))) then (
 some 1)
 else (
 bif (!decide (b.2.2 = 0)) then (
 some 1)
 else (
 some 0)))
 else (
 bif decide (b.1 = 1) then (
 bif decide (b.1 = 1) then (
 bif (!decide (b.2.2 = 0)) then (
 some 1)
 else (
 some 0))
 else (
 some 1))
 else (
 bif decide (b.1 = 5) then (
 bif (!decide (b.2.2 = 0)) then (
 some 1)
 else (
 some 0))
 else (
 some 1)))))
theorem ev37 (b : (Int×(Int×Int))) : evF C38 H37 Tryz.f37 (encs [.agg (.pair (.int .i64) (.pair (.int .u64) (.int .u64)))] b) (RT.dec (.one (.leaf (.int .i64)))) = F37 b := by kernel_rfl
noncomputable def C37 : Ctx := Ctx.add C38 37 [.agg (.pair (.int .i64) (.pair (.int .u64) (.int .u64)))] (.one (.leaf (.int .i64))) F37
theorem s37 : C37.Sound := Ctx.Sound.add (C := C38) mixed s38 Tryz.func37 ev37
def H36 : Nat → Head := fun _ => ⟨[],[]⟩
noncomputable def F36 (b : (Int×(Int×Int))) : Option Bool :=
 (F37 (b.1,(b.2.1,b.2.2))).bind fun r1 =>
 some (!decide (r1 = 0))
theorem ev36 (b : (Int×(Int×Int))) : evF C37 H36 Tryz.f36 (encs [.agg (.pair (.int .i64) (.pair (.int .u64) (.int .u64)))] b) (RT.dec (.one (.leaf (.bool)))) = F36 b := by kernel_rfl
noncomputable def C36 : Ctx := Ctx.add C37 36 [.agg (.pair (.int .i64) (.pair (.int .u64) (.int .u64)))] (.one (.leaf (.bool))) F36
theorem s36 : C36.Sound := Ctx.Sound.add (C := C37) mixed s37 Tryz.func36 ev36
def H78 : Nat → Head := fun _ => ⟨[],[]⟩
noncomputable def F78 (b : (Int×(Int×Int))) : Option Bool :=
 (F37 (b.1,(b.2.1,b.2.2))).bind fun r1 =>
 some (!decide (r1 = 0))
theorem ev78 (b : (Int×(Int×Int))) : evF C36 H78 Tryz.f78 (encs [.agg (.pair (.int .i64) (.pair (.int .u64) (.int .u64)))] b) (RT.dec (.one (.leaf (.bool)))) = F78 b := by kernel_rfl
noncomputable def C78 : Ctx := Ctx.add C36 78 [.agg (.pair (.int .i64) (.pair (.int .u64) (.int .u64)))] (.one (.leaf (.bool))) F78
theorem s78 : C78.Sound := Ctx.Sound.add (C := C36) mixed s36 Tryz.func78 ev78
def H72 : Nat → Head := fun _ => ⟨[],[]⟩
noncomputable def F72 (b : (Int×Int)) : Option Bool :=
 bif (decide (b.2 = 0) == false) then (
 (F38 ([b.2])).bind fun r1 =>
 some (!decide (r1 = 0)))
 else (
 some true)
theorem ev72 (b : (Int×Int)) : evF C78 H72 Tryz.f72 (encs [.agg (.pair (.int .u64) (.int .u64))] b) (RT.dec (.one (.leaf (.bool)))) = F72 b := by kernel_rfl
noncomputable def C72 : Ctx := Ctx.add C78 72 [.agg (.pair (.int .u64) (.int .u64))] (.one (.leaf (.bool))) F72
theorem s72 : C72.Sound := Ctx.Sound.add (C := C78) mixed s78 Tryz.func72 ev72
def H74 : Nat → Head
  | 5 => ⟨[.data 2 (.int .u64),.data 3 (.int .i64),.data 13 (.int .i64)],[]⟩
  | _ => ⟨[],[]⟩
noncomputable def F74 (b : List Int) : Option (Int×Int) :=
 (F38 b).bind fun r1 =>
 bif (!decide (r1 = 0)) then (
 some (0,r1))
 else (
 lfp (fun (rec2 : (Int×Int×Int) → Option (Int×Int)) (x2 : Int×Int×Int) =>
  bif decide (x2.2.2 < (b.length : Int)) then (
  bif inb x2.2.2 b.length then
  bif decide (4611686018427387904 < (IntKind.wrap .u64 (x2.1 + (rd (.int .u64) b x2.2.2)))) then (
  some (0,8))
  else (
  rec2 ((IntKind.wrap .u64 (x2.1 + (rd (.int .u64) b x2.2.2))),x2.2.1,(IntKind.wrap .i64 (x2.2.2 + 1))))
  else none)
  else (
  some (x2.1,0))) (0,r1,0))
theorem ev74 (b : List Int) : evF C72 H74 Tryz.f74 (encs [.one (.slice 22 (.int .u64))] b) (RT.dec (.tup [.leaf (.int .u64),.leaf (.int .i64)])) = F74 b := by kernel_rfl
noncomputable def C74 : Ctx := Ctx.add C72 74 [.one (.slice 22 (.int .u64))] (.tup [.leaf (.int .u64),.leaf (.int .i64)]) F74
theorem s74 : C74.Sound := Ctx.Sound.add (C := C72) mixed s72 Tryz.func74 ev74
def H92072 : Nat → Head
  | 2 => ⟨[.data 4 (.int .i64),.data 8 (.int .i64)],[]⟩
  | _ => ⟨[],[]⟩
noncomputable def F92072 (b : List (Int×Int)×Unit) : Option Int :=
 lfp (fun (rec1 : (Int×Int) → Option Int) (x1 : Int×Int) =>
  bif decide (x1.2 < (b.1.length : Int)) then (
  bif inb x1.2 b.1.length then
  (F72 ((rd (.pair (.int .u64) (.int .u64)) b.1 x1.2).1,(rd (.pair (.int .u64) (.int .u64)) b.1 x1.2).2)).bind fun r2 =>
  bif r2 then (
  some x1.2)
  else (
  rec1 (x1.1,(IntKind.wrap .i64 (x1.2 + 1))))
  else none)
  else (
  some (-1))) (0,0)
theorem ev92072 (b : List (Int×Int)×Unit) : evF C74 H92072 Tryz.f92 (encs [.one (.slice 74 (.pair (.int .u64) (.int .u64))),.fn 72] b) (RT.dec (.one (.leaf (.int .i64)))) = F92072 b := by kernel_rfl
noncomputable def C92072 : Ctx := Ctx.add C74 92 [.one (.slice 74 (.pair (.int .u64) (.int .u64))),.fn 72] (.one (.leaf (.int .i64))) F92072
theorem s92072 : C92072.Sound := Ctx.Sound.add (C := C74) mixed s74 Tryz.func92 ev92072
def H73072 : Nat → Head := fun _ => ⟨[],[]⟩
noncomputable def F73072 (b : List (Int×Int)×Unit) : Option Bool :=
 (F92072 (b.1,())).bind fun r1 =>
 some (decide (0 ≤ r1))
theorem ev73072 (b : List (Int×Int)×Unit) : evF C92072 H73072 Tryz.f73 (encs [.one (.slice 74 (.pair (.int .u64) (.int .u64))),.fn 72] b) (RT.dec (.one (.leaf (.bool)))) = F73072 b := by kernel_rfl
noncomputable def C73072 : Ctx := Ctx.add C92072 73 [.one (.slice 74 (.pair (.int .u64) (.int .u64))),.fn 72] (.one (.leaf (.bool))) F73072
theorem s73072 : C73072.Sound := Ctx.Sound.add (C := C92072) mixed s92072 Tryz.func73 ev73072
def H30 : Nat → Head
  | 5 => ⟨[.data 2 (.int .u64),.data 3 (.int .i64),.data 22 (.int .i64)],[]⟩
  | _ => ⟨[],[]⟩
noncomputable def F30 (b : List (Int×Int)) : Option (Int×Int) :=
 bif ((bif decide ((b.length : Int) = 0) then true else decide (16 < (b.length : Int))) == false) then (
 (F73072 (b,())).bind fun r1 =>
 bif r1 then (
 some (0,1))
 else (
 lfp (fun (rec2 : (Int×Int×Int) → Option (Int×Int)) (x2 : Int×Int×Int) =>
  bif decide (x2.2.2 < (b.length : Int)) then (
  bif inb x2.2.2 b.length then
  (F74 ([x2.1,(rd (.pair (.int .u64) (.int .u64)) b x2.2.2).2])).bind fun r3 =>
  bif (!decide (r3.2 = 0)) then (
  some (0,r3.2))
  else (
  rec2 (r3.1,r3.2,(IntKind.wrap .i64 (x2.2.2 + 1))))
  else none)
  else (
  some (x2.1,0))) (0,0,0)))
 else (
 some (0,1))
theorem ev30 (b : List (Int×Int)) : evF C73072 H30 Tryz.f30 (encs [.one (.slice 74 (.pair (.int .u64) (.int .u64)))] b) (RT.dec (.tup [.leaf (.int .u64),.leaf (.int .i64)])) = F30 b := by kernel_rfl
noncomputable def C30 : Ctx := Ctx.add C73072 30 [.one (.slice 74 (.pair (.int .u64) (.int .u64)))] (.tup [.leaf (.int .u64),.leaf (.int .i64)]) F30
theorem s30 : C30.Sound := Ctx.Sound.add (C := C73072) mixed s73072 Tryz.func30 ev30
def H35 : Nat → Head := fun _ => ⟨[],[]⟩
noncomputable def F35 (b : Int) : Option (Int×Bool) :=
 bif (bif decide (b ≤ 0) then true else decide (11 ≤ b)) then (
 some (0,false))
 else (
 bif inb b 11 then
 some ((rd (.int .i64) ([0,71,17,79,3,2,2,0,6,4,32] : List Int) b),true)
 else none)
theorem ev35 (b : Int) : evF C30 H35 Tryz.f35 (encs [.one (.int .i64)] b) (RT.dec (.tup [.leaf (.int .i64),.leaf (.bool)])) = F35 b := by kernel_rfl
noncomputable def C35 : Ctx := Ctx.add C30 35 [.one (.int .i64)] (.tup [.leaf (.int .i64),.leaf (.bool)]) F35
theorem s35 : C35.Sound := Ctx.Sound.add (C := C30) mixed s30 Tryz.func35 ev35
def H77078 : Nat → Head
  | 2 => ⟨[.data 4 (.int .i64),.data 8 (.int .i64)],[]⟩
  | _ => ⟨[],[]⟩
noncomputable def F77078 (b : List (Int×(Int×Int))×Unit) : Option Int :=
 lfp (fun (rec1 : (Int×Int) → Option Int) (x1 : Int×Int) =>
  bif decide (x1.2 < (b.1.length : Int)) then (
  bif inb x1.2 b.1.length then
  (F78 ((rd (.pair (.int .i64) (.pair (.int .u64) (.int .u64))) b.1 x1.2).1,(((rd (.pair (.int .i64) (.pair (.int .u64) (.int .u64))) b.1 x1.2).2).1,((rd (.pair (.int .i64) (.pair (.int .u64) (.int .u64))) b.1 x1.2).2).2))).bind fun r2 =>
  bif r2 then (
  some x1.2)
  else (
  rec1 (x1.1,(IntKind.wrap .i64 (x1.2 + 1))))
  else none)
  else (
  some (-1))) (0,0)
theorem ev77078 (b : List (Int×(Int×Int))×Unit) : evF C35 H77078 Tryz.f77 (encs [.one (.slice 63 (.pair (.int .i64) (.pair (.int .u64) (.int .u64)))),.fn 78] b) (RT.dec (.one (.leaf (.int .i64)))) = F77078 b := by kernel_rfl
noncomputable def C77078 : Ctx := Ctx.add C35 77 [.one (.slice 63 (.pair (.int .i64) (.pair (.int .u64) (.int .u64)))),.fn 78] (.one (.leaf (.int .i64))) F77078
theorem s77078 : C77078.Sound := Ctx.Sound.add (C := C35) mixed s35 Tryz.func77 ev77078
def H39078 : Nat → Head := fun _ => ⟨[],[]⟩
noncomputable def F39078 (b : List (Int×(Int×Int))×Unit) : Option Bool :=
 (F77078 (b.1,())).bind fun r1 =>
 some (decide (0 ≤ r1))
theorem ev39078 (b : List (Int×(Int×Int))×Unit) : evF C77078 H39078 Tryz.f39 (encs [.one (.slice 63 (.pair (.int .i64) (.pair (.int .u64) (.int .u64)))),.fn 78] b) (RT.dec (.one (.leaf (.bool)))) = F39078 b := by kernel_rfl
noncomputable def C39078 : Ctx := Ctx.add C77078 39 [.one (.slice 63 (.pair (.int .i64) (.pair (.int .u64) (.int .u64)))),.fn 78] (.one (.leaf (.bool))) F39078
theorem s39078 : C39078.Sound := Ctx.Sound.add (C := C77078) mixed s77078 Tryz.func39 ev39078
def H40 : Nat → Head := fun _ => ⟨[],[]⟩
noncomputable def F40 (b : (Int×(List (Int×(Int×Int))×Int))) : Option Int :=
 bif ((bif (bif decide (16 < (b.2.1.length : Int)) then true else decide (b.2.2 < 0)) then true else decide (1048576 < b.2.2)) == false) then (
 (F39078 (b.2.1,())).bind fun r1 =>
 bif r1 then (
 some 1)
 else (
 some 0))
 else (
 some 1)
theorem ev40 (b : (Int×(List (Int×(Int×Int))×Int))) : evF C39078 H40 Tryz.f40 (encs [.agg (.pair (.int .u64) (.pair (.slice 63 (.pair (.int .i64) (.pair (.int .u64) (.int .u64)))) (.int .i64)))] b) (RT.dec (.one (.leaf (.int .i64)))) = F40 b := by kernel_rfl
noncomputable def C40 : Ctx := Ctx.add C39078 40 [.agg (.pair (.int .u64) (.pair (.slice 63 (.pair (.int .i64) (.pair (.int .u64) (.int .u64)))) (.int .i64)))] (.one (.leaf (.int .i64))) F40
theorem s40 : C40.Sound := Ctx.Sound.add (C := C39078) mixed s39078 Tryz.func40 ev40
def H77036 : Nat → Head
  | 2 => ⟨[.data 4 (.int .i64),.data 8 (.int .i64)],[]⟩
  | _ => ⟨[],[]⟩
noncomputable def F77036 (b : List (Int×(Int×Int))×Unit) : Option Int :=
 lfp (fun (rec1 : (Int×Int) → Option Int) (x1 : Int×Int) =>
  bif decide (x1.2 < (b.1.length : Int)) then (
  bif inb x1.2 b.1.length then
  (F36 ((rd (.pair (.int .i64) (.pair (.int .u64) (.int .u64))) b.1 x1.2).1,(((rd (.pair (.int .i64) (.pair (.int .u64) (.int .u64))) b.1 x1.2).2).1,((rd (.pair (.int .i64) (.pair (.int .u64) (.int .u64))) b.1 x1.2).2).2))).bind fun r2 =>
  bif r2 then (
  some x1.2)
  else (
  rec1 (x1.1,(IntKind.wrap .i64 (x1.2 + 1))))
  else none)
  else (
  some (-1))) (0,0)
theorem ev77036 (b : List (Int×(Int×Int))×Unit) : evF C40 H77036 Tryz.f77 (encs [.one (.slice 63 (.pair (.int .i64) (.pair (.int .u64) (.int .u64)))),.fn 36] b) (RT.dec (.one (.leaf (.int .i64)))) = F77036 b := by kernel_rfl
noncomputable def C77036 : Ctx := Ctx.add C40 77 [.one (.slice 63 (.pair (.int .i64) (.pair (.int .u64) (.int .u64)))),.fn 36] (.one (.leaf (.int .i64))) F77036
theorem s77036 : C77036.Sound := Ctx.Sound.add (C := C40) mixed s40 Tryz.func77 ev77036
def H39036 : Nat → Head := fun _ => ⟨[],[]⟩
noncomputable def F39036 (b : List (Int×(Int×Int))×Unit) : Option Bool :=
 (F77036 (b.1,())).bind fun r1 =>
 some (decide (0 ≤ r1))
theorem ev39036 (b : List (Int×(Int×Int))×Unit) : evF C77036 H39036 Tryz.f39 (encs [.one (.slice 63 (.pair (.int .i64) (.pair (.int .u64) (.int .u64)))),.fn 36] b) (RT.dec (.one (.leaf (.bool)))) = F39036 b := by kernel_rfl
noncomputable def C39036 : Ctx := Ctx.add C77036 39 [.one (.slice 63 (.pair (.int .i64) (.pair (.int .u64) (.int .u64)))),.fn 36] (.one (.leaf (.bool))) F39036
theorem s39036 : C39036.Sound := Ctx.Sound.add (C := C77036) mixed s77036 Tryz.func39 ev39036
def H16 : Nat → Head
  | 5 => ⟨[.data 4 .bool,.data 84 (.int .i64)],[335872,176128]⟩
  | 1000000 => ⟨[],[1]⟩
  | 1000006 => ⟨[],[9]⟩
  | 5000004 => ⟨[],[0,0,1,1,2,2,4,4,0,0,16,16,32,32,64,64,0,0,256,256,512,512,0,0,2048,2048,4096,4096,8192,8192,16384,16384,49152,49152,81920,81920,147456,147456,262144,262144,786432,786432,1310720,1310720,2359296,2359296,4456448,4456448,8667136,8667136,16793600,16793600,33555456,33555456,0,0,134217728,134217728,268435456,268435456,536870912,536870912,0,0,2147483648,2147483648,4294967296,4294967296,8589934592,8589934592,0,0,34359738368,34359738368,85899345920,85899345920,0,0,274877906944,274877906944,549755813888,549755813888,1099511627776,1099511627776,0,0,4398046511104,4398046511104,8796093022208,8796093022208,17592186044416,17592186044416,35184376283136,35184372088832,70368744177664,70368744177664,211106232532992,211106232532992,351843720888320,351843720888320,633318697598976,633318697598976,1196268651020288,1196268651020288,2322168557862912,2251799813685248,4503599627370496,4503599627370496,13510798882111488,13510798882111488,4503599627370496,4503599627370496,58546795155816448,58546795155816448,76561193665298432,76561193665298432,148618787703226368,148618787703226368,288232575174967296,288232575174967296,576460890883227784,576460890883227784,1152921504606846976,1152921504606846976,0,0]⟩
  | _ => ⟨[],[]⟩
noncomputable def F16 (b : (Int×(Int×(Int×(Int×(List (Int×(Int×Int))×(Int×(Int×(Int×(Int×(List (Int×Int)×List (Int×(Int×Int))))))))))))) : Option Int :=
 (F35 b.2.1).bind fun r1 =>
 (F30 b.2.2.2.2.2.2.2.2.2.1).bind fun r2 =>
 bif (decide ((bitOp .and .i64 r1.1 64) = 0) == false) then (
 bif (decide (0 < b.2.2.2.2.2.2.2.1) == true) then (
 (F38 ([b.2.2.2.2.2.2.2.1])).bind fun r3 =>
 bif ((bif decide (0 < (b.2.2.2.2.2.2.2.2.2.2.length : Int)) then decide ((b.2.2.2.2.2.2.2.2.2.2.length : Int) ≤ 16) else false) == true) then (
 (F39036 (b.2.2.2.2.2.2.2.2.2.2,())).bind fun r4 =>
 lfp (fun (rec5 : (Bool×Int) → Option Int) (x5 : Bool×Int) =>
  bif decide (x5.2 < (([(1,((!decide (b.2.2.1 = 0)),true)),(2,((!decide (b.2.2.2.2.2.2.1 = 0)),true)),(4,((!decide (b.2.2.2.2.2.2.2.1 = 0)),decide (r3 = 0))),(8,((!decide (b.2.2.2.2.2.2.2.2.1 = 0)),true)),(16,(decide (0 < (b.2.2.2.2.2.2.2.2.2.1.length : Int)),decide (r2.2 = 0))),(32,(decide (0 < (b.2.2.2.2.2.2.2.2.2.2.length : Int)),(!r4)))]).length : Int)) then (
  bif inb x5.2 ([(1,((!decide (b.2.2.1 = 0)),true)),(2,((!decide (b.2.2.2.2.2.2.1 = 0)),true)),(4,((!decide (b.2.2.2.2.2.2.2.1 = 0)),decide (r3 = 0))),(8,((!decide (b.2.2.2.2.2.2.2.2.1 = 0)),true)),(16,(decide (0 < (b.2.2.2.2.2.2.2.2.2.1.length : Int)),decide (r2.2 = 0))),(32,(decide (0 < (b.2.2.2.2.2.2.2.2.2.2.length : Int)),(!r4)))]).length then
  bif (!decide ((bitOp .and .i64 r1.1 ((rd (.pair (.int .i64) (.pair .bool .bool)) ([(1,((!decide (b.2.2.1 = 0)),true)),(2,((!decide (b.2.2.2.2.2.2.1 = 0)),true)),(4,((!decide (b.2.2.2.2.2.2.2.1 = 0)),decide (r3 = 0))),(8,((!decide (b.2.2.2.2.2.2.2.2.1 = 0)),true)),(16,(decide (0 < (b.2.2.2.2.2.2.2.2.2.1.length : Int)),decide (r2.2 = 0))),(32,(decide (0 < (b.2.2.2.2.2.2.2.2.2.2.length : Int)),(!r4)))]) x5.2).1)) = 0)) then (
  rec5 ((bif x5.1 then ((rd (.pair (.int .i64) (.pair .bool .bool)) ([(1,((!decide (b.2.2.1 = 0)),true)),(2,((!decide (b.2.2.2.2.2.2.1 = 0)),true)),(4,((!decide (b.2.2.2.2.2.2.2.1 = 0)),decide (r3 = 0))),(8,((!decide (b.2.2.2.2.2.2.2.2.1 = 0)),true)),(16,(decide (0 < (b.2.2.2.2.2.2.2.2.2.1.length : Int)),decide (r2.2 = 0))),(32,(decide (0 < (b.2.2.2.2.2.2.2.2.2.2.length : Int)),(!r4)))]) x5.2).2).2 else false),(IntKind.wrap .i64 (x5.2 + 1))))
  else (
  rec5 ((bif x5.1 then (!((rd (.pair (.int .i64) (.pair .bool .bool)) ([(1,((!decide (b.2.2.1 = 0)),true)),(2,((!decide (b.2.2.2.2.2.2.1 = 0)),true)),(4,((!decide (b.2.2.2.2.2.2.2.1 = 0)),decide (r3 = 0))),(8,((!decide (b.2.2.2.2.2.2.2.2.1 = 0)),true)),(16,(decide (0 < (b.2.2.2.2.2.2.2.2.2.1.length : Int)),decide (r2.2 = 0))),(32,(decide (0 < (b.2.2.2.2.2.2.2.2.2.2.length : Int)),(!r4)))]) x5.2).2).1) else false),(IntKind.wrap .i64 (x5.2 + 1))))
  else none)
  else (
  bif ((!x5.1) == false) then (
  (F40 (b.2.2.2.1,(b.2.2.2.2.1,b.2.2.2.2.2.1))).bind fun r6 =>
  bif (!decide (r6 = 0)) then (
  some 1)
  else (
  some 0))
  else (
  some 1))) (r1.2,0))
 else (
 lfp (fun (rec7 : (Bool×Int) → Option Int) (x7 : Bool×Int) =>
  bif decide (x7.2 < (([(1,((!decide (b.2.2.1 = 0)),true)),(2,((!decide (b.2.2.2.2.2.2.1 = 0)),true)),(4,((!decide (b.2.2.2.2.2.2.2.1 = 0)),decide (r3 = 0))),(8,((!decide (b.2.2.2.2.2.2.2.2.1 = 0)),true)),(16,(decide (0 < (b.2.2.2.2.2.2.2.2.2.1.length : Int)),decide (r2.2 = 0))),(32,(decide (0 < (b.2.2.2.2.2.2.2.2.2.2.length : Int)),false))]).length : Int)) then (
  bif inb x7.2 ([(1,((!decide (b.2.2.1 = 0)),true)),(2,((!decide (b.2.2.2.2.2.2.1 = 0)),true)),(4,((!decide (b.2.2.2.2.2.2.2.1 = 0)),decide (r3 = 0))),(8,((!decide (b.2.2.2.2.2.2.2.2.1 = 0)),true)),(16,(decide (0 < (b.2.2.2.2.2.2.2.2.2.1.length : Int)),decide (r2.2 = 0))),(32,(decide (0 < (b.2.2.2.2.2.2.2.2.2.2.length : Int)),false))]).length then
  bif (!decide ((bitOp .and .i64 r1.1 ((rd (.pair (.int .i64) (.pair .bool .bool)) ([(1,((!decide (b.2.2.1 = 0)),true)),(2,((!decide (b.2.2.2.2.2.2.1 = 0)),true)),(4,((!decide (b.2.2.2.2.2.2.2.1 = 0)),decide (r3 = 0))),(8,((!decide (b.2.2.2.2.2.2.2.2.1 = 0)),true)),(16,(decide (0 < (b.2.2.2.2.2.2.2.2.2.1.length : Int)),decide (r2.2 = 0))),(32,(decide (0 < (b.2.2.2.2.2.2.2.2.2.2.length : Int)),false))]) x7.2).1)) = 0)) then (
  rec7 ((bif x7.1 then ((rd (.pair (.int .i64) (.pair .bool .bool)) ([(1,((!decide (b.2.2.1 = 0)),true)),(2,((!decide (b.2.2.2.2.2.2.1 = 0)),true)),(4,((!decide (b.2.2.2.2.2.2.2.1 = 0)),decide (r3 = 0))),(8,((!decide (b.2.2.2.2.2.2.2.2.1 = 0)),true)),(16,(decide (0 < (b.2.2.2.2.2.2.2.2.2.1.length : Int)),decide (r2.2 = 0))),(32,(decide (0 < (b.2.2.2.2.2.2.2.2.2.2.length : Int)),false))]) x7.2).2).2 else false),(IntKind.wrap .i64 (x7.2 + 1))))
  else (
  rec7 ((bif x7.1 then (!((rd (.pair (.int .i64) (.pair .bool .bool)) ([(1,((!decide (b.2.2.1 = 0)),true)),(2,((!decide (b.2.2.2.2.2.2.1 = 0)),true)),(4,((!decide (b.2.2.2.2.2.2.2.1 = 0)),decide (r3 = 0))),(8,((!decide (b.2.2.2.2.2.2.2.2.1 = 0)),true)),(16,(decide (0 < (b.2.2.2.2.2.2.2.2.2.1.length : Int)),decide (r2.2 = 0))),(32,(decide (0 < (b.2.2.2.2.2.2.2.2.2.2.length : Int)),false))]) x7.2).2).1) else false),(IntKind.wrap .i64 (x7.2 + 1))))
  else none)
  else (
  bif ((!x7.1) == false) then (
  (F40 (b.2.2.2.1,(b.2.2.2.2.1,b.2.2.2.2.2.1))).bind fun r8 =>
  bif (!decide (r8 = 0)) then (
  some 1)
  else (
  some 0))
  else (
  some 1))) (r1.2,0)))
 else (
 (both (
 bif ((bif decide (0 < (b.2.2.2.2.2.2.2.2.2.2.length : Int)) then decide ((b.2.2.2.2.2.2.2.2.2.2.length : Int) ≤ 16) else false) == true) then (
 (F39036 (b.2.2.2.2.2.2.2.2.2.2,())).bind fun r9 =>
 lfp (fun (rec10 : (Bool×Int) → Option Int) (x10 : Bool×Int) =>
  bif decide (x10.2 < (([(1,((!decide (b.2.2.1 = 0)),true)),(2,((!decide (b.2.2.2.2.2.2.1 = 0)),true)),(4,((!decide (b.2.2.2.2.2.2.2.1 = 0)),false)),(8,((!decide (b.2.2.2.2.2.2.2.2.1 = 0)),true)),(16,(decide (0 < (b.2.2.2.2.2.2.2.2.2.1.length : Int)),decide (r2.2 = 0))),(32,(decide (0 < (b.2.2.2.2.2.2.2.2.2.2.length : Int)),(!r9)))]).length : Int)) then (
  bif inb x10.2 ([(1,((!decide (b.2.2.1 = 0)),true)),(2,((!decide (b.2.2.2.2.2.2.1 = 0)),true)),(4,((!decide (b.2.2.2.2.2.2.2.1 = 0)),false)),(8,((!decide (b.2.2.2.2.2.2.2.2.1 = 0)),true)),(16,(decide (0 < (b.2.2.2.2.2.2.2.2.2.1.length : Int)),decide (r2.2 = 0))),(32,(decide (0 < (b.2.2.2.2.2.2.2.2.2.2.length : Int)),(!r9)))]).length then
  bif (!decide ((bitOp .and .i64 r1.1 ((rd (.pair (.int .i64) (.pair .bool .bool)) ([(1,((!decide (b.2.2.1 = 0)),true)),(2,((!decide (b.2.2.2.2.2.2.1 = 0)),true)),(4,((!decide (b.2.2.2.2.2.2.2.1 = 0)),false)),(8,((!decide (b.2.2.2.2.2.2.2.2.1 = 0)),true)),(16,(decide (0 < (b.2.2.2.2.2.2.2.2.2.1.length : Int)),decide (r2.2 = 0))),(32,(decide (0 < (b.2.2.2.2.2.2.2.2.2.2.length : Int)),(!r9)))]) x10.2).1)) = 0)) then (
  rec10 ((bif x10.1 then ((rd (.pair (.int .i64) (.pair .bool .bool)) ([(1,((!decide (b.2.2.1 = 0)),true)),(2,((!decide (b.2.2.2.2.2.2.1 = 0)),true)),(4,((!decide (b.2.2.2.2.2.2.2.1 = 0)),false)),(8,((!decide (b.2.2.2.2.2.2.2.2.1 = 0)),true)),(16,(decide (0 < (b.2.2.2.2.2.2.2.2.2.1.length : Int)),decide (r2.2 = 0))),(32,(decide (0 < (b.2.2.2.2.2.2.2.2.2.2.length : Int)),(!r9)))]) x10.2).2).2 else false),(IntKind.wrap .i64 (x10.2 + 1))))
  else (
  rec10 ((bif x10.1 then (!((rd (.pair (.int .i64) (.pair .bool .bool)) ([(1,((!decide (b.2.2.1 = 0)),true)),(2,((!decide (b.2.2.2.2.2.2.1 = 0)),true)),(4,((!decide (b.2.2.2.2.2.2.2.1 = 0)),false)),(8,((!decide (b.2.2.2.2.2.2.2.2.1 = 0)),true)),(16,(decide (0 < (b.2.2.2.2.2.2.2.2.2.1.length : Int)),decide (r2.2 = 0))),(32,(decide (0 < (b.2.2.2.2.2.2.2.2.2.2.length : Int)),(!r9)))]) x10.2).2).1) else false),(IntKind.wrap .i64 (x10.2 + 1))))
  else none)
  else (
  bif ((!x10.1) == false) then (
  (F40 (b.2.2.2.1,(b.2.2.2.2.1,b.2.2.2.2.2.1))).bind fun r11 =>
  bif (!decide (r11 = 0)) then (
  some 1)
  else (
  some 0))
  else (
  some 1))) (r1.2,0))
 else (
 lfp (fun (rec12 : (Bool×Int) → Option Int) (x12 : Bool×Int) =>
  bif decide (x12.2 < (([(1,((!decide (b.2.2.1 = 0)),true)),(2,((!decide (b.2.2.2.2.2.2.1 = 0)),true)),(4,((!decide (b.2.2.2.2.2.2.2.1 = 0)),false)),(8,((!decide (b.2.2.2.2.2.2.2.2.1 = 0)),true)),(16,(decide (0 < (b.2.2.2.2.2.2.2.2.2.1.length : Int)),decide (r2.2 = 0))),(32,(decide (0 < (b.2.2.2.2.2.2.2.2.2.2.length : Int)),false))]).length : Int)) then (
  bif inb x12.2 ([(1,((!decide (b.2.2.1 = 0)),true)),(2,((!decide (b.2.2.2.2.2.2.1 = 0)),true)),(4,((!decide (b.2.2.2.2.2.2.2.1 = 0)),false)),(8,((!decide (b.2.2.2.2.2.2.2.2.1 = 0)),true)),(16,(decide (0 < (b.2.2.2.2.2.2.2.2.2.1.length : Int)),decide (r2.2 = 0))),(32,(decide (0 < (b.2.2.2.2.2.2.2.2.2.2.length : Int)),false))]).length then
  bif (!decide ((bitOp .and .i64 r1.1 ((rd (.pair (.int .i64) (.pair .bool .bool)) ([(1,((!decide (b.2.2.1 = 0)),true)),(2,((!decide (b.2.2.2.2.2.2.1 = 0)),true)),(4,((!decide (b.2.2.2.2.2.2.2.1 = 0)),false)),(8,((!decide (b.2.2.2.2.2.2.2.2.1 = 0)),true)),(16,(decide (0 < (b.2.2.2.2.2.2.2.2.2.1.length : Int)),decide (r2.2 = 0))),(32,(decide (0 < (b.2.2.2.2.2.2.2.2.2.2.length : Int)),false))]) x12.2).1)) = 0)) then (
  rec12 ((bif x12.1 then ((rd (.pair (.int .i64) (.pair .bool .bool)) ([(1,((!decide (b.2.2.1 = 0)),true)),(2,((!decide (b.2.2.2.2.2.2.1 = 0)),true)),(4,((!decide (b.2.2.2.2.2.2.2.1 = 0)),false)),(8,((!decide (b.2.2.2.2.2.2.2.2.1 = 0)),true)),(16,(decide (0 < (b.2.2.2.2.2.2.2.2.2.1.length : Int)),decide (r2.2 = 0))),(32,(decide (0 < (b.2.2.2.2.2.2.2.2.2.2.length : Int)),false))]) x12.2).2).2 else false),(IntKind.wrap .i64 (x12.2 + 1))))
  else (
  rec12 ((bif x12.1 then (!((rd (.pair (.int .i64) (.pair .bool .bool)) ([(1,((!decide (b.2.2.1 = 0)),true)),(2,((!decide (b.2.2.2.2.2.2.1 = 0)),true)),(4,((!decide (b.2.2.2.2.2.2.2.1 = 0)),false)),(8,((!decide (b.2.2.2.2.2.2.2.2.1 = 0)),true)),(16,(decide (0 < (b.2.2.2.2.2.2.2.2.2.1.length : Int)),decide (r2.2 = 0))),(32,(decide (0 < (b.2.2.2.2.2.2.2.2.2.2.length : Int)),false))]) x12.2).2).1) else false),(IntKind.wrap .i64 (x12.2 + 1))))
  else none)
  else (
  bif ((!x12.1) == false) then (
  (F40 (b.2.2.2.1,(b.2.2.2.2.1,b.2.2.2.2.2.1))).bind fun r13 =>
  bif (!decide (r13 = 0)) then (
  some 1)
  else (
  some 0))
  else (
  some 1))) (r1.2,0))) (
 bif ((bif decide (0 < (b.2.2.2.2.2.2.2.2.2.2.length : Int)) then decide ((b.2.2.2.2.2.2.2.2.2.2.length : Int) ≤ 16) else false) == true) then (
 (F39036 (b.2.2.2.2.2.2.2.2.2.2,())).bind fun r9 =>
 lfp (fun (rec10 : (Bool×Int) → Option Int) (x10 : Bool×Int) =>
  bif decide (x10.2 < (([(1,((!decide (b.2.2.1 = 0)),true)),(2,((!decide (b.2.2.2.2.2.2.1 = 0)),true)),(4,((!decide (b.2.2.2.2.2.2.2.1 = 0)),false)),(8,((!decide (b.2.2.2.2.2.2.2.2.1 = 0)),true)),(16,(decide (0 < (b.2.2.2.2.2.2.2.2.2.1.length : Int)),decide (r2.2 = 0))),(32,(decide (0 < (b.2.2.2.2.2.2.2.2.2.2.length : Int)),(!r9)))]).length : Int)) then (
  bif inb x10.2 ([(1,((!decide (b.2.2.1 = 0)),true)),(2,((!decide (b.2.2.2.2.2.2.1 = 0)),true)),(4,((!decide (b.2.2.2.2.2.2.2.1 = 0)),false)),(8,((!decide (b.2.2.2.2.2.2.2.2.1 = 0)),true)),(16,(decide (0 < (b.2.2.2.2.2.2.2.2.2.1.length : Int)),decide (r2.2 = 0))),(32,(decide (0 < (b.2.2.2.2.2.2.2.2.2.2.length : Int)),(!r9)))]).length then
  bif (!decide ((bitOp .and .i64 r1.1 ((rd (.pair (.int .i64) (.pair .bool .bool)) ([(1,((!decide (b.2.2.1 = 0)),true)),(2,((!decide (b.2.2.2.2.2.2.1 = 0)),true)),(4,((!decide (b.2.2.2.2.2.2.2.1 = 0)),false)),(8,((!decide (b.2.2.2.2.2.2.2.2.1 = 0)),true)),(16,(decide (0 < (b.2.2.2.2.2.2.2.2.2.1.length : Int)),decide (r2.2 = 0))),(32,(decide (0 < (b.2.2.2.2.2.2.2.2.2.2.length : Int)),(!r9)))]) x10.2).1)) = 0)) then (
  rec10 ((bif x10.1 then ((rd (.pair (.int .i64) (.pair .bool .bool)) ([(1,((!decide (b.2.2.1 = 0)),true)),(2,((!decide (b.2.2.2.2.2.2.1 = 0)),true)),(4,((!decide (b.2.2.2.2.2.2.2.1 = 0)),false)),(8,((!decide (b.2.2.2.2.2.2.2.2.1 = 0)),true)),(16,(decide (0 < (b.2.2.2.2.2.2.2.2.2.1.length : Int)),decide (r2.2 = 0))),(32,(decide (0 < (b.2.2.2.2.2.2.2.2.2.2.length : Int)),(!r9)))]) x10.2).2).2 else false),(IntKind.wrap .i64 (x10.2 + 1))))
  else (
  rec10 ((bif x10.1 then (!((rd (.pair (.int .i64) (.pair .bool .bool)) ([(1,((!decide (b.2.2.1 = 0)),true)),(2,((!decide (b.2.2.2.2.2.2.1 = 0)),true)),(4,((!decide (b.2.2.2.2.2.2.2.1 = 0)),false)),(8,((!decide (b.2.2.2.2.2.2.2.2.1 = 0)),true)),(16,(decide (0 < (b.2.2.2.2.2.2.2.2.2.1.length : Int)),decide (r2.2 = 0))),(32,(decide (0 < (b.2.2.2.2.2.2.2.2.2.2.length : Int)),(!r9)))]) x10.2).2).1) else false),(IntKind.wrap .i64 (x10.2 + 1))))
  else none)
  else (
  bif ((!x10.1) == false) then (
  (F40 (b.2.2.2.1,(b.2.2.2.2.1,b.2.2.2.2.2.1))).bind fun r11 =>
  bif (!decide (r11 = 0)) then (
  some 1)
  else (
  some 0))
  else (
  some 1))) (r1.2,0))
 else (
 (fun o => both o o) (
 lfp (fun (rec12 : (Bool×Int) → Option Int) (x12 : Bool×Int) =>
  bif decide (x12.2 < (([(1,((!decide (b.2.2.1 = 0)),true)),(2,((!decide (b.2.2.2.2.2.2.1 = 0)),true)),(4,((!decide (b.2.2.2.2.2.2.2.1 = 0)),false)),(8,((!decide (b.2.2.2.2.2.2.2.2.1 = 0)),true)),(16,(decide (0 < (b.2.2.2.2.2.2.2.2.2.1.length : Int)),decide (r2.2 = 0))),(32,(decide (0 < (b.2.2.2.2.2.2.2.2.2.2.length : Int)),false))]).length : Int)) then (
  bif inb x12.2 ([(1,((!decide (b.2.2.1 = 0)),true)),(2,((!decide (b.2.2.2.2.2.2.1 = 0)),true)),(4,((!decide (b.2.2.2.2.2.2.2.1 = 0)),false)),(8,((!decide (b.2.2.2.2.2.2.2.2.1 = 0)),true)),(16,(decide (0 < (b.2.2.2.2.2.2.2.2.2.1.length : Int)),decide (r2.2 = 0))),(32,(decide (0 < (b.2.2.2.2.2.2.2.2.2.2.length : Int)),false))]).length then
  bif (!decide ((bitOp .and .i64 r1.1 ((rd (.pair (.int .i64) (.pair .bool .bool)) ([(1,((!decide (b.2.2.1 = 0)),true)),(2,((!decide (b.2.2.2.2.2.2.1 = 0)),true)),(4,((!decide (b.2.2.2.2.2.2.2.1 = 0)),false)),(8,((!decide (b.2.2.2.2.2.2.2.2.1 = 0)),true)),(16,(decide (0 < (b.2.2.2.2.2.2.2.2.2.1.length : Int)),decide (r2.2 = 0))),(32,(decide (0 < (b.2.2.2.2.2.2.2.2.2.2.length : Int)),false))]) x12.2).1)) = 0)) then (
  rec12 ((bif x12.1 then ((rd (.pair (.int .i64) (.pair .bool .bool)) ([(1,((!decide (b.2.2.1 = 0)),true)),(2,((!decide (b.2.2.2.2.2.2.1 = 0)),true)),(4,((!decide (b.2.2.2.2.2.2.2.1 = 0)),false)),(8,((!decide (b.2.2.2.2.2.2.2.2.1 = 0)),true)),(16,(decide (0 < (b.2.2.2.2.2.2.2.2.2.1.length : Int)),decide (r2.2 = 0))),(32,(decide (0 < (b.2.2.2.2.2.2.2.2.2.2.length : Int)),false))]) x12.2).2).2 else false),(IntKind.wrap .i64 (x12.2 + 1))))
  else (
  rec12 ((bif x12.1 then (!((rd (.pair (.int .i64) (.pair .bool .bool)) ([(1,((!decide (b.2.2.1 = 0)),true)),(2,((!decide (b.2.2.2.2.2.2.1 = 0)),true)),(4,((!decide (b.2.2.2.2.2.2.2.1 = 0)),false)),(8,((!decide (b.2.2.2.2.2.2.2.2.1 = 0)),true)),(16,(decide (0 < (b.2.2.2.2.2.2.2.2.2.1.length : Int)),decide (r2.2 = 0))),(32,(decide (0 < (b.2.2.2.2.2.2.2.2.2.2.length : Int)),false))]) x12.2).2).1) else false),(IntKind.wrap .i64 (x12.2 + 1))))
  else none)
  else (
  bif ((!x12.1) == false) then (
  (F40 (b.2.2.2.1,(b.2.2.2.2.1,b.2.2.2.2.2.1))).bind fun r13 =>
  bif (!decide (r13 = 0)) then (
  some 1)
  else (
  some 0))
  else (
  some 1))) (r1.2,0)))))))
 else (
 (both (
 bif ((bif decide (0 < (b.2.2.2.2.2.2.2.2.2.2.length : Int)) then decide ((b.2.2.2.2.2.2.2.2.2.2.length : Int) ≤ 16) else false) == true) then (
 (F39036 (b.2.2.2.2.2.2.2.2.2.2,())).bind fun r14 =>
 lfp (fun (rec15 : (Bool×Int) → Option Int) (x15 : Bool×Int) =>
  bif decide (x15.2 < (([(1,((!decide (b.2.2.1 = 0)),true)),(2,((!decide (b.2.2.2.2.2.2.1 = 0)),true)),(4,((!decide (b.2.2.2.2.2.2.2.1 = 0)),true)),(8,((!decide (b.2.2.2.2.2.2.2.2.1 = 0)),true)),(16,(decide (0 < (b.2.2.2.2.2.2.2.2.2.1.length : Int)),decide (r2.2 = 0))),(32,(decide (0 < (b.2.2.2.2.2.2.2.2.2.2.length : Int)),(!r14)))]).length : Int)) then (
  bif inb x15.2 ([(1,((!decide (b.2.2.1 = 0)),true)),(2,((!decide (b.2.2.2.2.2.2.1 = 0)),true)),(4,((!decide (b.2.2.2.2.2.2.2.1 = 0)),true)),(8,((!decide (b.2.2.2.2.2.2.2.2.1 = 0)),true)),(16,(decide (0 < (b.2.2.2.2.2.2.2.2.2.1.length : Int)),decide (r2.2 = 0))),(32,(decide (0 < (b.2.2.2.2.2.2.2.2.2.2.length : Int)),(!r14)))]).length then
  bif (!decide ((bitOp .and .i64 r1.1 ((rd (.pair (.int .i64) (.pair .bool .bool)) ([(1,((!decide (b.2.2.1 = 0)),true)),(2,((!decide (b.2.2.2.2.2.2.1 = 0)),true)),(4,((!decide (b.2.2.2.2.2.2.2.1 = 0)),true)),(8,((!decide (b.2.2.2.2.2.2.2.2.1 = 0)),true)),(16,(decide (0 < (b.2.2.2.2.2.2.2.2.2.1.length : Int)),decide (r2.2 = 0))),(32,(decide (0 < (b.2.2.2.2.2.2.2.2.2.2.length : Int)),(!r14)))]) x15.2).1)) = 0)) then (
  rec15 ((bif x15.1 then ((rd (.pair (.int .i64) (.pair .bool .bool)) ([(1,((!decide (b.2.2.1 = 0)),true)),(2,((!decide (b.2.2.2.2.2.2.1 = 0)),true)),(4,((!decide (b.2.2.2.2.2.2.2.1 = 0)),true)),(8,((!decide (b.2.2.2.2.2.2.2.2.1 = 0)),true)),(16,(decide (0 < (b.2.2.2.2.2.2.2.2.2.1.length : Int)),decide (r2.2 = 0))),(32,(decide (0 < (b.2.2.2.2.2.2.2.2.2.2.length : Int)),(!r14)))]) x15.2).2).2 else false),(IntKind.wrap .i64 (x15.2 + 1))))
  else (
  rec15 ((bif x15.1 then (!((rd (.pair (.int .i64) (.pair .bool .bool)) ([(1,((!decide (b.2.2.1 = 0)),true)),(2,((!decide (b.2.2.2.2.2.2.1 = 0)),true)),(4,((!decide (b.2.2.2.2.2.2.2.1 = 0)),true)),(8,((!decide (b.2.2.2.2.2.2.2.2.1 = 0)),true)),(16,(decide (0 < (b.2.2.2.2.2.2.2.2.2.1.length : Int)),decide (r2.2 = 0))),(32,(decide (0 < (b.2.2.2.2.2.2.2.2.2.2.length : Int)),(!r14)))]) x15.2).2).1) else false),(IntKind.wrap .i64 (x15.2 + 1))))
  else none)
  else (
  bif ((!x15.1) == false) then (
  (F40 (b.2.2.2.1,(b.2.2.2.2.1,b.2.2.2.2.2.1))).bind fun r16 =>
  bif (!decide (r16 = 0)) then (
  some 1)
  else (
  some 0))
  else (
  some 1))) (r1.2,0))
 else (
 lfp (fun (rec17 : (Bool×Int) → Option Int) (x17 : Bool×Int) =>
  bif decide (x17.2 < (([(1,((!decide (b.2.2.1 = 0)),true)),(2,((!decide (b.2.2.2.2.2.2.1 = 0)),true)),(4,((!decide (b.2.2.2.2.2.2.2.1 = 0)),true)),(8,((!decide (b.2.2.2.2.2.2.2.2.1 = 0)),true)),(16,(decide (0 < (b.2.2.2.2.2.2.2.2.2.1.length : Int)),decide (r2.2 = 0))),(32,(decide (0 < (b.2.2.2.2.2.2.2.2.2.2.length : Int)),false))]).length : Int)) then (
  bif inb x17.2 ([(1,((!decide (b.2.2.1 = 0)),true)),(2,((!decide (b.2.2.2.2.2.2.1 = 0)),true)),(4,((!decide (b.2.2.2.2.2.2.2.1 = 0)),true)),(8,((!decide (b.2.2.2.2.2.2.2.2.1 = 0)),true)),(16,(decide (0 < (b.2.2.2.2.2.2.2.2.2.1.length : Int)),decide (r2.2 = 0))),(32,(decide (0 < (b.2.2.2.2.2.2.2.2.2.2.length : Int)),false))]).length then
  bif (!decide ((bitOp .and .i64 r1.1 ((rd (.pair (.int .i64) (.pair .bool .bool)) ([(1,((!decide (b.2.2.1 = 0)),true)),(2,((!decide (b.2.2.2.2.2.2.1 = 0)),true)),(4,((!decide (b.2.2.2.2.2.2.2.1 = 0)),true)),(8,((!decide (b.2.2.2.2.2.2.2.2.1 = 0)),true)),(16,(decide (0 < (b.2.2.2.2.2.2.2.2.2.1.length : Int)),decide (r2.2 = 0))),(32,(decide (0 < (b.2.2.2.2.2.2.2.2.2.2.length : Int)),false))]) x17.2).1)) = 0)) then (
  rec17 ((bif x17.1 then ((rd (.pair (.int .i64) (.pair .bool .bool)) ([(1,((!decide (b.2.2.1 = 0)),true)),(2,((!decide (b.2.2.2.2.2.2.1 = 0)),true)),(4,((!decide (b.2.2.2.2.2.2.2.1 = 0)),true)),(8,((!decide (b.2.2.2.2.2.2.2.2.1 = 0)),true)),(16,(decide (0 < (b.2.2.2.2.2.2.2.2.2.1.length : Int)),decide (r2.2 = 0))),(32,(decide (0 < (b.2.2.2.2.2.2.2.2.2.2.length : Int)),false))]) x17.2).2).2 else false),(IntKind.wrap .i64 (x17.2 + 1))))
  else (
  rec17 ((bif x17.1 then (!((rd (.pair (.int .i64) (.pair .bool .bool)) ([(1,((!decide (b.2.2.1 = 0)),true)),(2,((!decide (b.2.2.2.2.2.2.1 = 0)),true)),(4,((!decide (b.2.2.2.2.2.2.2.1 = 0)),true)),(8,((!decide (b.2.2.2.2.2.2.2.2.1 = 0)),true)),(16,(decide (0 < (b.2.2.2.2.2.2.2.2.2.1.length : Int)),decide (r2.2 = 0))),(32,(decide (0 < (b.2.2.2.2.2.2.2.2.2.2.length : Int)),false))]) x17.2).2).1) else false),(IntKind.wrap .i64 (x17.2 + 1))))
  else none)
  else (
  bif ((!x17.1) == false) then (
  (F40 (b.2.2.2.1,(b.2.2.2.2.1,b.2.2.2.2.2.1))).bind fun r18 =>
  bif (!decide (r18 = 0)) then (
  some 1)
  else (
  some 0))
  else (
  some 1))) (r1.2,0))) (
 bif ((bif decide (0 < (b.2.2.2.2.2.2.2.2.2.2.length : Int)) then decide ((b.2.2.2.2.2.2.2.2.2.2.length : Int) ≤ 16) else false) == true) then (
 (F39036 (b.2.2.2.2.2.2.2.2.2.2,())).bind fun r14 =>
 lfp (fun (rec15 : (Bool×Int) → Option Int) (x15 : Bool×Int) =>
  bif decide (x15.2 < (([(1,((!decide (b.2.2.1 = 0)),true)),(2,((!decide (b.2.2.2.2.2.2.1 = 0)),true)),(4,((!decide (b.2.2.2.2.2.2.2.1 = 0)),true)),(8,((!decide (b.2.2.2.2.2.2.2.2.1 = 0)),true)),(16,(decide (0 < (b.2.2.2.2.2.2.2.2.2.1.length : Int)),decide (r2.2 = 0))),(32,(decide (0 < (b.2.2.2.2.2.2.2.2.2.2.length : Int)),(!r14)))]).length : Int)) then (
  bif inb x15.2 ([(1,((!decide (b.2.2.1 = 0)),true)),(2,((!decide (b.2.2.2.2.2.2.1 = 0)),true)),(4,((!decide (b.2.2.2.2.2.2.2.1 = 0)),true)),(8,((!decide (b.2.2.2.2.2.2.2.2.1 = 0)),true)),(16,(decide (0 < (b.2.2.2.2.2.2.2.2.2.1.length : Int)),decide (r2.2 = 0))),(32,(decide (0 < (b.2.2.2.2.2.2.2.2.2.2.length : Int)),(!r14)))]).length then
  bif (!decide ((bitOp .and .i64 r1.1 ((rd (.pair (.int .i64) (.pair .bool .bool)) ([(1,((!decide (b.2.2.1 = 0)),true)),(2,((!decide (b.2.2.2.2.2.2.1 = 0)),true)),(4,((!decide (b.2.2.2.2.2.2.2.1 = 0)),true)),(8,((!decide (b.2.2.2.2.2.2.2.2.1 = 0)),true)),(16,(decide (0 < (b.2.2.2.2.2.2.2.2.2.1.length : Int)),decide (r2.2 = 0))),(32,(decide (0 < (b.2.2.2.2.2.2.2.2.2.2.length : Int)),(!r14)))]) x15.2).1)) = 0)) then (
  rec15 ((bif x15.1 then ((rd (.pair (.int .i64) (.pair .bool .bool)) ([(1,((!decide (b.2.2.1 = 0)),true)),(2,((!decide (b.2.2.2.2.2.2.1 = 0)),true)),(4,((!decide (b.2.2.2.2.2.2.2.1 = 0)),true)),(8,((!decide (b.2.2.2.2.2.2.2.2.1 = 0)),true)),(16,(decide (0 < (b.2.2.2.2.2.2.2.2.2.1.length : Int)),decide (r2.2 = 0))),(32,(decide (0 < (b.2.2.2.2.2.2.2.2.2.2.length : Int)),(!r14)))]) x15.2).2).2 else false),(IntKind.wrap .i64 (x15.2 + 1))))
  else (
  rec15 ((bif x15.1 then (!((rd (.pair (.int .i64) (.pair .bool .bool)) ([(1,((!decide (b.2.2.1 = 0)),true)),(2,((!decide (b.2.2.2.2.2.2.1 = 0)),true)),(4,((!decide (b.2.2.2.2.2.2.2.1 = 0)),true)),(8,((!decide (b.2.2.2.2.2.2.2.2.1 = 0)),true)),(16,(decide (0 < (b.2.2.2.2.2.2.2.2.2.1.length : Int)),decide (r2.2 = 0))),(32,(decide (0 < (b.2.2.2.2.2.2.2.2.2.2.length : Int)),(!r14)))]) x15.2).2).1) else false),(IntKind.wrap .i64 (x15.2 + 1))))
  else none)
  else (
  bif ((!x15.1) == false) then (
  (F40 (b.2.2.2.1,(b.2.2.2.2.1,b.2.2.2.2.2.1))).bind fun r16 =>
  bif (!decide (r16 = 0)) then (
  some 1)
  else (
  some 0))
  else (
  some 1))) (r1.2,0))
 else (
 (fun o => both o o) (
 lfp (fun (rec17 : (Bool×Int) → Option Int) (x17 : Bool×Int) =>
  bif decide (x17.2 < (([(1,((!decide (b.2.2.1 = 0)),true)),(2,((!decide (b.2.2.2.2.2.2.1 = 0)),true)),(4,((!decide (b.2.2.2.2.2.2.2.1 = 0)),true)),(8,((!decide (b.2.2.2.2.2.2.2.2.1 = 0)),true)),(16,(decide (0 < (b.2.2.2.2.2.2.2.2.2.1.length : Int)),decide (r2.2 = 0))),(32,(decide (0 < (b.2.2.2.2.2.2.2.2.2.2.length : Int)),false))]).length : Int)) then (
  bif inb x17.2 ([(1,((!decide (b.2.2.1 = 0)),true)),(2,((!decide (b.2.2.2.2.2.2.1 = 0)),true)),(4,((!decide (b.2.2.2.2.2.2.2.1 = 0)),true)),(8,((!decide (b.2.2.2.2.2.2.2.2.1 = 0)),true)),(16,(decide (0 < (b.2.2.2.2.2.2.2.2.2.1.length : Int)),decide (r2.2 = 0))),(32,(decide (0 < (b.2.2.2.2.2.2.2.2.2.2.length : Int)),false))]).length then
  bif (!decide ((bitOp .and .i64 r1.1 ((rd (.pair (.int .i64) (.pair .bool .bool)) ([(1,((!decide (b.2.2.1 = 0)),true)),(2,((!decide (b.2.2.2.2.2.2.1 = 0)),true)),(4,((!decide (b.2.2.2.2.2.2.2.1 = 0)),true)),(8,((!decide (b.2.2.2.2.2.2.2.2.1 = 0)),true)),(16,(decide (0 < (b.2.2.2.2.2.2.2.2.2.1.length : Int)),decide (r2.2 = 0))),(32,(decide (0 < (b.2.2.2.2.2.2.2.2.2.2.length : Int)),false))]) x17.2).1)) = 0)) then (
  rec17 ((bif x17.1 then ((rd (.pair (.int .i64) (.pair .bool .bool)) ([(1,((!decide (b.2.2.1 = 0)),true)),(2,((!decide (b.2.2.2.2.2.2.1 = 0)),true)),(4,((!decide (b.2.2.2.2.2.2.2.1 = 0)),true)),(8,((!decide (b.2.2.2.2.2.2.2.2.1 = 0)),true)),(16,(decide (0 < (b.2.2.2.2.2.2.2.2.2.1.length : Int)),decide (r2.2 = 0))),(32,(decide (0 < (b.2.2.2.2.2.2.2.2.2.2.length : Int)),false))]) x17.2).2).2 else false),(IntKind.wrap .i64 (x17.2 + 1))))
  else (
  rec17 ((bif x17.1 then (!((rd (.pair (.int .i64) (.pair .bool .bool)) ([(1,((!decide (b.2.2.1 = 0)),true)),(2,((!decide (b.2.2.2.2.2.2.1 = 0)),true)),(4,((!decide (b.2.2.2.2.2.2.2.1 = 0)),true)),(8,((!decide (b.2.2.2.2.2.2.2.2.1 = 0)),true)),(16,(decide (0 < (b.2.2.2.2.2.2.2.2.2.1.length : Int)),decide (r2.2 = 0))),(32,(decide (0 < (b.2.2.2.2.2.2.2.2.2.2.length : Int)),false))]) x17.2).2).1) else false),(IntKind.wrap .i64 (x17.2 + 1))))
  else none)
  else (
  bif ((!x17.1) == false) then (
  (F40 (b.2.2.2.1,(b.2.2.2.2.1,b.2.2.2.2.2.1))).bind fun r18 =>
  bif (!decide (r18 = 0)) then (
  some 1)
  else (
  some 0))
  else (
  some 1))) (r1.2,0))))))
theorem ev16 (b : (Int×(Int×(Int×(Int×(List (Int×(Int×Int))×(Int×(Int×(Int×(Int×(List (Int×Int)×List (Int×(Int×Int))))))))))))) : evF C39036 H16 Tryz.f16 (encs [.agg (.pair (.int .u64) (.pair (.int .i64) (.pair (.int .u64) (.pair (.int .u64) (.pair (.slice 63 (.pair (.int .i64) (.pair (.int .u64) (.int .u64)))) (.pair (.int .i64) (.pair (.int .u64) (.pair (.int .u64) (.pair (.int .u64) (.pair (.slice 74 (.pair (.int .u64) (.int .u64))) (.slice 63 (.pair (.int .i64) (.pair (.int .u64) (.int .u64))))))))))))))] b) (RT.dec (.one (.leaf (.int .i64)))) = F16 b := by kernel_rfl
noncomputable def C16 : Ctx := Ctx.add C39036 16 [.agg (.pair (.int .u64) (.pair (.int .i64) (.pair (.int .u64) (.pair (.int .u64) (.pair (.slice 63 (.pair (.int .i64) (.pair (.int .u64) (.int .u64)))) (.pair (.int .i64) (.pair (.int .u64) (.pair (.int .u64) (.pair (.int .u64) (.pair (.slice 74 (.pair (.int .u64) (.int .u64))) (.slice 63 (.pair (.int .i64) (.pair (.int .u64) (.int .u64))))))))))))))] (.one (.leaf (.int .i64))) F16
theorem s16 : C16.Sound := Ctx.Sound.add (C := C39036) mixed s39036 Tryz.func16 ev16
def H81 : Nat → Head := fun _ => ⟨[],[]⟩
noncomputable def F81 (b : Int) : Option Int :=
 bif decide (b < 253) then (
 some (IntKind.wrap .u8 b))
 else (
 bif decide (b < 65536) then (
 some 253)
 else (
 bif decide (b < 4294967296) then (
 some 254)
 else (
 some 255)))
theorem ev81 (b : Int) : evF C16 H81 Tryz.f81 (encs [.one (.int .u64)] b) (RT.dec (.one (.leaf (.int .u8)))) = F81 b := by kernel_rfl
noncomputable def C81 : Ctx := Ctx.add C16 81 [.one (.int .u64)] (.one (.leaf (.int .u8))) F81
theorem s81 : C81.Sound := Ctx.Sound.add (C := C16) mixed s16 Tryz.func81 ev81
def H82 : Nat → Head := fun _ => ⟨[],[]⟩
noncomputable def F82 (b : Int) : Option Int :=
 bif decide (b < 253) then (
 some 0)
 else (
 some (IntKind.wrap .i64 (2 * 2 ^ (min (IntKind.wrap .u8 (b - 253)).toNat 64))))
theorem ev82 (b : Int) : evF C81 H82 Tryz.f82 (encs [.one (.int .u8)] b) (RT.dec (.one (.leaf (.int .i64)))) = F82 b := by kernel_rfl
noncomputable def C82 : Ctx := Ctx.add C81 82 [.one (.int .u8)] (.one (.leaf (.int .i64))) F82
theorem s82 : C82.Sound := Ctx.Sound.add (C := C81) mixed s81 Tryz.func82 ev82
def H49 : Nat → Head
  | 3 => ⟨[.row 3 14339 5 (.int .u8),.data 10 (.int .i64)],[]⟩
  | 8 => ⟨[.row 3 14344 5 (.int .u8),.data 22 (.int .i64)],[73728]⟩
  | _ => ⟨[],[]⟩
noncomputable def F49 (b : List Int) : Option (List Int) :=
 lfp (fun (rec1 : (List Int×Int) → Option (List Int)) (x1 : List Int×Int) =>
  bif decide (x1.2 < (b.length : Int)) then (
  bif inb x1.2 b.length then
  (F81 (rd (.int .u64) b x1.2)).bind fun r2 =>
  bif decide ((x1.1.length + 1) * 1 ≤ LIM) then
  (F82 r2).bind fun r3 =>
  lfp (fun (rec4 : (List Int×Int) → Option (List Int)) (x4 : List Int×Int) =>
   bif decide (x4.2 < r3) then (
   (F82 r2).bind fun r5 =>
   bif decide (0 ≤ (IntKind.wrap .i64 (8 * (IntKind.wrap .i64 ((IntKind.wrap .i64 (r5 - 1)) - x4.2))))) then
   bif decide ((x4.1.length + 1) * 1 ≤ LIM) then
   rec4 ((x4.1 ++ ([(IntKind.wrap .u8 ((rd (.int .u64) b x1.2) / 2 ^ (min (IntKind.wrap .i64 (8 * (IntKind.wrap .i64 ((IntKind.wrap .i64 (r5 - 1)) - x4.2)))).toNat 64)))])),(IntKind.wrap .i64 (x4.2 + 1)))
   else none
   else none)
   else (
   rec1 (x4.1,(IntKind.wrap .i64 (x1.2 + 1))))) ((x1.1 ++ ([r2])),0)
  else none
  else none)
  else (
  some x1.1)) (([] : List Int),0)
theorem ev49 (b : List Int) : evF C82 H49 Tryz.f49 (encs [.oneA (.slice 22 (.int .u64))] b) (RT.dec (.one (.leaf (.fresh 5 (.int .u8))))) = F49 b := by kernel_rfl
noncomputable def C49 : Ctx := Ctx.addA C82 49 [.oneA (.slice 22 (.int .u64))] (.one (.leaf (.fresh 5 (.int .u8)))) F49
theorem s49 : C49.Sound := Ctx.Sound.addA (C := C82) mixed s82 Tryz.func49 ev49
def H105 : Nat → Head := fun _ => ⟨[],[]⟩
noncomputable def F105 (b : Int) : Option Bool :=
 some (!decide (b = b))
theorem ev105 (b : Int) : evF C49 H105 Tryz.f105 (encs [.one (.int .u64)] b) (RT.dec (.one (.leaf (.bool)))) = F105 b := by kernel_rfl
noncomputable def C105 : Ctx := Ctx.add C49 105 [.one (.int .u64)] (.one (.leaf (.bool))) F105
theorem s105 : C105.Sound := Ctx.Sound.add (C := C49) mixed s49 Tryz.func105 ev105
def H87 : Nat → Head := fun _ => ⟨[],[]⟩
noncomputable def F87 (b : Int×Int) : Option Int :=
 (F105 b.1).bind fun r1 =>
 (F105 b.2).bind fun r2 =>
 bif r1 then (
 bif r2 then (
 some 0)
 else (
 some (-1)))
 else (
 bif r2 then (
 some 1)
 else (
 bif decide (b.1 < b.2) then (
 some (-1))
 else (
 bif decide (b.2 < b.1) then (
 some 1)
 else (
 some 0))))
theorem ev87 (b : Int×Int) : evF C105 H87 Tryz.f87 (encs [.one (.int .u64),.one (.int .u64)] b) (RT.dec (.one (.leaf (.int .i64)))) = F87 b := by kernel_rfl
noncomputable def C87 : Ctx := Ctx.add C105 87 [.one (.int .u64),.one (.int .u64)] (.one (.leaf (.int .i64))) F87
theorem s87 : C87.Sound := Ctx.Sound.add (C := C105) mixed s105 Tryz.func87 ev87
def H60 : Nat → Head := fun _ => ⟨[],[]⟩
noncomputable def F60 (b : (Int×List Int)×Int) : Option Int :=
 (F87 (b.1.1,b.2)).bind fun r1 =>
 some r1
theorem ev60 (b : (Int×List Int)×Int) : evF C87 H60 Tryz.f60 (encs [.agg (.pair (.int .u64) (.slice 5 (.int .u8))),.one (.int .u64)] b) (RT.dec (.one (.leaf (.int .i64)))) = F60 b := by kernel_rfl
noncomputable def C60 : Ctx := Ctx.add C87 60 [.agg (.pair (.int .u64) (.slice 5 (.int .u8))),.one (.int .u64)] (.one (.leaf (.int .i64))) F60
theorem s60 : C60.Sound := Ctx.Sound.add (C := C87) mixed s87 Tryz.func60 ev60
def H53 : Nat → Head
  | 4 => ⟨[.data 2 (.int .i64),.data 10 (.int .i64)],[]⟩
  | 5000006 => ⟨[],[0,0,1,1,2,2,4,4,8,8,16,16,48,48,80,80,128,128,128,128,640,640,1408,1408,2176,2176,128,128,8320,8320,20608,20608,32896,32896,65680,65680,131088,131088]⟩
  | _ => ⟨[],[]⟩
noncomputable def F53 (b : List (Int×List Int)) : Option Int :=
 bif decide (64 < (b.length : Int)) then (
 some 1)
 else (
 lfp (fun (rec1 : (Int×Int) → Option Int) (x1 : Int×Int) =>
  bif decide (x1.2 < (b.length : Int)) then (
  bif inb x1.2 b.length then
  bif (decide (4096 < (((rd (.pair (.int .u64) (.slice 5 (.int .u8))) b x1.2).2).length : Int)) == false) then (
  bif (decide (0 < x1.2) == true) then (
  bif inb (IntKind.wrap .i64 (x1.2 - 1)) b.length then
  (F60 (((rd (.pair (.int .u64) (.slice 5 (.int .u8))) b (IntKind.wrap .i64 (x1.2 - 1))).1,(rd (.pair (.int .u64) (.slice 5 (.int .u8))) b (IntKind.wrap .i64 (x1.2 - 1))).2),(rd (.pair (.int .u64) (.slice 5 (.int .u8))) b x1.2).1)).bind fun r2 =>
  bif decide (0 ≤ r2) then (
  some 1)
  else (
  rec1 (x1.1,(IntKind.wrap .i64 (x1.2 + 1))))
  else none)
  else (
  (fun o => both o o) (
  rec1 (x1.1,(IntKind.wrap .i64 (x1.2 + 1))))))
  else (
  (fun o => both o o) (
  some 1))
  else none)
  else (
  some 0)) (0,0))
theorem ev53 (b : List (Int×List Int)) : evF C60 H53 Tryz.f53 (encs [.one (.slice 50 (.pair (.int .u64) (.slice 5 (.int .u8))))] b) (RT.dec (.one (.leaf (.int .i64)))) = F53 b := by kernel_rfl
noncomputable def C53 : Ctx := Ctx.add C60 53 [.one (.slice 50 (.pair (.int .u64) (.slice 5 (.int .u8))))] (.one (.leaf (.int .i64))) F53
theorem s53 : C53.Sound := Ctx.Sound.add (C := C60) mixed s60 Tryz.func53 ev53
def H20 : Nat → Head
  | 5 => ⟨[.row 2 10245 5 (.int .u8),.data 13 (.int .i64)],[]⟩
  | 5000007 => ⟨[],[0,0,0,0,2,2,0,0,8,8,16,16,32,32,68,68,128,128,257,257,0,0,1024,1024,2560,2560,8191,4097]⟩
  | _ => ⟨[],[]⟩
noncomputable def F20 (b : List (Int×List Int)) : Option (List Int×Int) :=
 (F53 b).bind fun r1 =>
 bif (!decide (r1 = 0)) then (
 some (([] : List Int),r1))
 else (
 lfp (fun (rec2 : (List Int×Int) → Option (List Int×Int)) (x2 : List Int×Int) =>
  bif decide (x2.2 < (b.length : Int)) then (
  bif inb x2.2 b.length then
  (both (
  (both (
  (both (
  (both (
  (F49 ([(rd (.pair (.int .u64) (.slice 5 (.int .u8))) b x2.2).1,(IntKind.wrap .u64 (((rd (.pair (.int .u64) (.slice 5 (.int .u8))) b x2.2).2).length : Int))])).bind fun r3 =>
  (fun o => both o o) (
  bif decide ((x2.1.length + r3.length) * 1 ≤ LIM) then
  bif decide (((x2.1 ++ r3).length + ((rd (.pair (.int .u64) (.slice 5 (.int .u8))) b x2.2).2).length) * 1 ≤ LIM) then
  rec2 (((x2.1 ++ r3) ++ ((rd (.pair (.int .u64) (.slice 5 (.int .u8))) b x2.2).2)),(IntKind.wrap .i64 (x2.2 + 1)))
  else none
  else none)) (
  (F49 ([(rd (.pair (.int .u64) (.slice 5 (.int .u8))) b x2.2).1,(IntKind.wrap .u64 (((rd (.pair (.int .u64) (.slice 5 (.int .u8))) b x2.2).2).length : Int))])).bind fun r3 =>
  bif decide ((x2.1.length + r3.length) * 1 ≤ LIM) then
  bif decide (((x2.1 ++ r3).length + ((rd (.pair (.int .u64) (.slice 5 (.int .u8))) b x2.2).2).length) * 1 ≤ LIM) then
  rec2 (((x2.1 ++ r3) ++ ((rd (.pair (.int .u64) (.slice 5 (.int .u8))) b x2.2).2)),(IntKind.wrap .i64 (x2.2 + 1)))
  else none
  else none))) (
  (F49 ([(rd (.pair (.int .u64) (.slice 5 (.int .u8))) b x2.2).1,(IntKind.wrap .u64 (((rd (.pair (.int .u64) (.slice 5 (.int .u8))) b x2.2).2).length : Int))])).bind fun r3 =>
  bif decide ((x2.1.length + r3.length) * 1 ≤ LIM) then
  bif decide (((x2.1 ++ r3).length + ((rd (.pair (.int .u64) (.slice 5 (.int .u8))) b x2.2).2).length) * 1 ≤ LIM) then
  rec2 (((x2.1 ++ r3) ++ ((rd (.pair (.int .u64) (.slice 5 (.int .u8))) b x2.2).2)),(IntKind.wrap .i64 (x2.2 + 1)))
  else none
  else none))) (
  (F49 ([(rd (.pair (.int .u64) (.slice 5 (.int .u8))) b x2.2).1,(IntKind.wrap .u64 (((rd (.pair (.int .u64) (.slice 5 (.int .u8))) b x2.2).2).length : Int))])).bind fun r3 =>
  bif decide ((x2.1.length + r3.length) * 1 ≤ LIM) then
  bif decide (((x2.1 ++ r3).length + ((rd (.pair (.int .u64) (.slice 5 (.int .u8))) b x2.2).2).length) * 1 ≤ LIM) then
  rec2 (((x2.1 ++ r3) ++ ((rd (.pair (.int .u64) (.slice 5 (.int .u8))) b x2.2).2)),(IntKind.wrap .i64 (x2.2 + 1)))
  else none
  else none))) (both (
  (both (
  (both (
  (both (
  (F49 ([(rd (.pair (.int .u64) (.slice 5 (.int .u8))) b x2.2).1,(IntKind.wrap .u64 (((rd (.pair (.int .u64) (.slice 5 (.int .u8))) b x2.2).2).length : Int))])).bind fun r3 =>
  (fun o => both o o) (
  bif decide ((x2.1.length + r3.length) * 1 ≤ LIM) then
  bif decide (((x2.1 ++ r3).length + ((rd (.pair (.int .u64) (.slice 5 (.int .u8))) b x2.2).2).length) * 1 ≤ LIM) then
  rec2 (((x2.1 ++ r3) ++ ((rd (.pair (.int .u64) (.slice 5 (.int .u8))) b x2.2).2)),(IntKind.wrap .i64 (x2.2 + 1)))
  else none
  else none)) (
  (F49 ([(rd (.pair (.int .u64) (.slice 5 (.int .u8))) b x2.2).1,(IntKind.wrap .u64 (((rd (.pair (.int .u64) (.slice 5 (.int .u8))) b x2.2).2).length : Int))])).bind fun r3 =>
  bif decide ((x2.1.length + r3.length) * 1 ≤ LIM) then
  bif decide (((x2.1 ++ r3).length + ((rd (.pair (.int .u64) (.slice 5 (.int .u8))) b x2.2).2).length) * 1 ≤ LIM) then
  rec2 (((x2.1 ++ r3) ++ ((rd (.pair (.int .u64) (.slice 5 (.int .u8))) b x2.2).2)),(IntKind.wrap .i64 (x2.2 + 1)))
  else none
  else none))) (
  (F49 ([(rd (.pair (.int .u64) (.slice 5 (.int .u8))) b x2.2).1,(IntKind.wrap .u64 (((rd (.pair (.int .u64) (.slice 5 (.int .u8))) b x2.2).2).length : Int))])).bind fun r3 =>
  bif decide ((x2.1.length + r3.length) * 1 ≤ LIM) then
  bif decide (((x2.1 ++ r3).length + ((rd (.pair (.int .u64) (.slice 5 (.int .u8))) b x2.2).2).length) * 1 ≤ LIM) then
  rec2 (((x2.1 ++ r3) ++ ((rd (.pair (.int .u64) (.slice 5 (.int .u8))) b x2.2).2)),(IntKind.wrap .i64 (x2.2 + 1)))
  else none
  else none))) (
  (F49 ([(rd (.pair (.int .u64) (.slice 5 (.int .u8))) b x2.2).1,(IntKind.wrap .u64 (((rd (.pair (.int .u64) (.slice 5 (.int .u8))) b x2.2).2).length : Int))])).bind fun r3 =>
  bif decide ((x2.1.length + r3.length) * 1 ≤ LIM) then
  bif decide (((x2.1 ++ r3).length + ((rd (.pair (.int .u64) (.slice 5 (.int .u8))) b x2.2).2).length) * 1 ≤ LIM) then
  rec2 (((x2.1 ++ r3) ++ ((rd (.pair (.int .u64) (.slice 5 (.int .u8))) b x2.2).2)),(IntKind.wrap .i64 (x2.2 + 1)))
  else none
  else none))) (
  (fun o => both o o) (
  (F49 ([(rd (.pair (.int .u64) (.slice 5 (.int .u8))) b x2.2).1,(IntKind.wrap .u64 (((rd (.pair (.int .u64) (.slice 5 (.int .u8))) b x2.2).2).length : Int))])).bind fun r3 =>
  bif decide ((x2.1.length + r3.length) * 1 ≤ LIM) then
  bif decide (((x2.1 ++ r3).length + ((rd (.pair (.int .u64) (.slice 5 (.int .u8))) b x2.2).2).length) * 1 ≤ LIM) then
  rec2 (((x2.1 ++ r3) ++ ((rd (.pair (.int .u64) (.slice 5 (.int .u8))) b x2.2).2)),(IntKind.wrap .i64 (x2.2 + 1)))
  else none
  else none))))
  else none)
  else (
  bif decide (65535 < (x2.1.length : Int)) then (
  some (([] : List Int),4))
  else (
  some (x2.1,0)))) (([] : List Int),0))
theorem ev20 (b : List (Int×List Int)) : evF C53 H20 Tryz.f20 (encs [.oneA (.slice 50 (.pair (.int .u64) (.slice 5 (.int .u8))))] b) (RT.dec (.tup [.leaf (.fresh 5 (.int .u8)),.leaf (.int .i64)])) = F20 b := by kernel_rfl
noncomputable def C20 : Ctx := Ctx.addA C53 20 [.oneA (.slice 50 (.pair (.int .u64) (.slice 5 (.int .u8))))] (.tup [.leaf (.fresh 5 (.int .u8)),.leaf (.int .i64)]) F20
theorem s20 : C20.Sound := Ctx.Sound.addA (C := C53) mixed s53 Tryz.func20 ev20
def H50 : Nat → Head := fun _ => ⟨[],[]⟩
noncomputable def F50 (b : (Int×(Int×Int))) : Option (List Int×Int) :=
 (F37 (b.1,(b.2.1,b.2.2))).bind fun r1 =>
 bif (!decide (r1 = 0)) then (
 some (([] : List Int),r1))
 else (
 bif (!decide (b.1 = 4)) then (
 bif inb 2 (([(IntKind.wrap .u64 b.1),b.2.1,b.2.2]).length + 1) then
 (F49 (([(IntKind.wrap .u64 b.1),b.2.1,b.2.2]).take ((2 : Int).toNat))).bind fun r2 =>
 some (r2,0)
 else none)
 else (
 (F49 ([(IntKind.wrap .u64 b.1),b.2.1,b.2.2])).bind fun r3 =>
 some (r3,0)))
theorem ev50 (b : (Int×(Int×Int))) : evF C20 H50 Tryz.f50 (encs [.agg (.pair (.int .i64) (.pair (.int .u64) (.int .u64)))] b) (RT.dec (.tup [.leaf (.fresh 5 (.int .u8)),.leaf (.int .i64)])) = F50 b := by kernel_rfl
noncomputable def C50 : Ctx := Ctx.add C20 50 [.agg (.pair (.int .i64) (.pair (.int .u64) (.int .u64)))] (.tup [.leaf (.fresh 5 (.int .u8)),.leaf (.int .i64)]) F50
theorem s50 : C50.Sound := Ctx.Sound.add (C := C20) mixed s20 Tryz.func50 ev50
def H80 : Nat → Head
  | 3 => ⟨[.data 13 (.int .i64),.rowk 36864 29 (.slice 5 (.int .u8))],[4096]⟩
  | _ => ⟨[],[]⟩
noncomputable def F80 (b : (Int×(List (Int×(Int×Int))×Int))) : Option (List (List Int)) :=
 bif (decide (0 ≤ (b.2.1.length : Int)) && decide ((b.2.1.length : Int) = (b.2.1.length : Int)) && decide ((b.2.1.length : Int).toNat * 24 ≤ LIM)) then
 lfp (fun (rec1 : (Int×List (List Int)) → Option (List (List Int))) (x1 : Int×List (List Int)) =>
  bif decide (x1.1 < (b.2.1.length : Int)) then (
  bif inb x1.1 b.2.1.length then
  (F50 ((rd (.pair (.int .i64) (.pair (.int .u64) (.int .u64))) b.2.1 x1.1).1,(((rd (.pair (.int .i64) (.pair (.int .u64) (.int .u64))) b.2.1 x1.1).2).1,((rd (.pair (.int .i64) (.pair (.int .u64) (.int .u64))) b.2.1 x1.1).2).2))).bind fun r2 =>
  bif inb x1.1 x1.2.length then
  rec1 ((IntKind.wrap .i64 (x1.1 + 1)),(x1.2.set x1.1.toNat r2.1))
  else none
  else none)
  else (
  some x1.2)) (0,(List.replicate ((b.2.1.length : Int).toNat) [] : List (List Int)))
 else none
theorem ev80 (b : (Int×(List (Int×(Int×Int))×Int))) : evF C50 H80 Tryz.f80 (encs [.aggA (.pair (.int .u64) (.pair (.slice 63 (.pair (.int .i64) (.pair (.int .u64) (.int .u64)))) (.int .i64)))] b) (RT.dec (.one (.leaf (.fresh 29 (.slice 5 (.int .u8)))))) = F80 b := by kernel_rfl
noncomputable def C80 : Ctx := Ctx.addA C50 80 [.aggA (.pair (.int .u64) (.pair (.slice 63 (.pair (.int .i64) (.pair (.int .u64) (.int .u64)))) (.int .i64)))] (.one (.leaf (.fresh 29 (.slice 5 (.int .u8))))) F80
theorem s80 : C80.Sound := Ctx.Sound.addA (C := C50) mixed s50 Tryz.func80 ev80
def H47 : Nat → Head
  | 6 => ⟨[.row 5 22534 50 (.pair (.int .u64) (.slice 5 (.int .u8))),.data 28 (.int .i64)],[106496,90112,86016,65536,61440,4096]⟩
  | 5000004 => ⟨[],[0,0,1,1,2,2,4,4,8,8,0,0,32,32,64,64,128,128,264,256,512,512,1040,1040,4095,2048]⟩
  | _ => ⟨[],[]⟩
noncomputable def F47 (b : (Int×(List (Int×(Int×Int))×Int))) : Option (List Int×Int) :=
 (F40 (b.1,(b.2.1,b.2.2))).bind fun r1 =>
 bif (!decide (r1 = 0)) then (
 some (([] : List Int),r1))
 else (
 (fun o => both (both (both o (both o o)) (both (both o o) o)) (both (both (both o o) o) o)) (
 (F49 ([b.1])).bind fun r2 =>
 (F49 ([(IntKind.wrap .u64 b.2.2)])).bind fun r3 =>
 (F80 (b.1,(b.2.1,b.2.2))).bind fun r4 =>
 lfp (fun (rec5 : (List (Int×List Int)×Int) → Option (List Int×Int)) (x5 : List (Int×List Int)×Int) =>
  bif decide (x5.2 < (r4.length : Int)) then (
  bif inb x5.2 r4.length then
  bif decide ((x5.1.length + 1) * 32 ≤ LIM) then
  rec5 ((x5.1 ++ ([((IntKind.wrap .u64 (16 + (IntKind.wrap .u64 x5.2))),(rd (.slice 5 (.int .u8)) r4 x5.2))])),(IntKind.wrap .i64 (x5.2 + 1)))
  else none
  else none)
  else (
  (F20 x5.1).bind fun r6 =>
  some (r6.1,r6.2))) (([(1,r2),(2,r3)]),0)))
theorem ev47 (b : (Int×(List (Int×(Int×Int))×Int))) : evF C80 H47 Tryz.f47 (encs [.aggA (.pair (.int .u64) (.pair (.slice 63 (.pair (.int .i64) (.pair (.int .u64) (.int .u64)))) (.int .i64)))] b) (RT.dec (.tup [.leaf (.fresh 5 (.int .u8)),.leaf (.int .i64)])) = F47 b := by kernel_rfl
noncomputable def C47 : Ctx := Ctx.addA C80 47 [.aggA (.pair (.int .u64) (.pair (.slice 63 (.pair (.int .i64) (.pair (.int .u64) (.int .u64)))) (.int .i64)))] (.tup [.leaf (.fresh 5 (.int .u8)),.leaf (.int .i64)]) F47
theorem s47 : C47.Sound := Ctx.Sound.addA (C := C80) mixed s80 Tryz.func47 ev47
def H48 : Nat → Head
  | 5000000 => ⟨[],[0,0,0,0,0,0,4,4,10,10,16,16,41,33,127,64]⟩
  | _ => ⟨[],[]⟩
noncomputable def C48 : Ctx := Ctx.addI C47 48 H48 9000048 Tryz.f48
theorem s48 : C48.Sound := Ctx.Sound.addI (C := C47) mixed s47 Tryz.func48
noncomputable def C51 : Ctx := Ctx.addS C48 51 52 50 (.slice 5 (.int .u8))
theorem s51 : C51.Sound := Ctx.Sound.addS (C := C48) s48 rfl sortPays
def H19 : Nat → Head
  | 9 => ⟨[.iterk 204800 ⟨(.int .u64),(.int .u64),true⟩,.crow 24576 0 10026633 50 (.pair (.int .u64) (.slice 5 (.int .u8))),.boxr 24576 10026633 .unit .unit],[155648,131072,77824]⟩
  | 14 => ⟨[.data 66 (.int .i64),.crow 24576 0 10026638 50 (.pair (.int .u64) (.slice 5 (.int .u8))),.boxr 24576 10026638 .unit .unit],[204800,155648,131072,77824]⟩
  | 19 => ⟨[.row 2 10259 50 (.pair (.int .u64) (.slice 5 (.int .u8))),.data 3 (.int .i64),.data 85 (.int .i64),.crow 24576 0 10026643 50 (.pair (.int .u64) (.slice 5 (.int .u8))),.boxr 24576 10026643 .unit .unit],[204800,155648,131072,77824]⟩
  | 1000000 => ⟨[],[1]⟩
  | 1000015 => ⟨[],[11]⟩
  | 1000020 => ⟨[],[13]⟩
  | _ => ⟨[],[]⟩
noncomputable def F19 (b : (Int×(Int×(Int×(Int×(List (Int×(Int×Int))×(Int×(Int×(Int×(Int×(List (Int×Int)×List (Int×(Int×Int))))))))))))) : Option ((List (Int×List Int))×Int) :=
 (F47 (b.2.2.2.1,(b.2.2.2.2.1,b.2.2.2.2.2.1))).bind fun r1 =>
 bif (!decide (r1.2 = 0)) then (
 some (([] : List (Int×List Int)),r1.2))
 else (
 (both (
 (F49 ([b.1])).bind fun r2 =>
 bif decide ((([(4,r1.1)]).length + 1) * 32 ≤ LIM) then
 (both (
 (F49 ([(IntKind.wrap .u64 b.2.1)])).bind fun r3 =>
 bif decide (((([(4,r1.1)]) ++ ([(1,r2)])).length + 1) * 32 ≤ LIM) then
 lfp (fun (rec4 : (List (Int×Int)×List (Int×List Int)×(Unit×Unit)) → Option ((List (Int×List Int))×Int)) (x4 : List (Int×Int)×List (Int×List Int)×(Unit×Unit)) =>
  bif x4.1.isEmpty then (
  lfp (fun (rec5 : (Int×List (Int×List Int)×(Unit×Unit)) → Option ((List (Int×List Int))×Int)) (x5 : Int×List (Int×List Int)×(Unit×Unit)) =>
   bif decide (x5.1 < (b.2.2.2.2.2.2.2.2.2.1.length : Int)) then (
   bif inb x5.1 b.2.2.2.2.2.2.2.2.2.1.length then
   (both (
   (F49 ([(rd (.pair (.int .u64) (.int .u64)) b.2.2.2.2.2.2.2.2.2.1 x5.1).1,(rd (.pair (.int .u64) (.int .u64)) b.2.2.2.2.2.2.2.2.2.1 x5.1).2])).bind fun r6 =>
   bif decide ((x5.2.1.length + 1) * 32 ≤ LIM) then
   rec5 ((IntKind.wrap .i64 (x5.1 + 1)),(x5.2.1 ++ ([((IntKind.wrap .u64 (32 + (IntKind.wrap .u64 x5.1))),r6)])),((),()))
   else none) (
   (F49 ([(rd (.pair (.int .u64) (.int .u64)) b.2.2.2.2.2.2.2.2.2.1 x5.1).1,(rd (.pair (.int .u64) (.int .u64)) b.2.2.2.2.2.2.2.2.2.1 x5.1).2])).bind fun r6 =>
   (fun o => both o o) (
   bif decide ((x5.2.1.length + 1) * 32 ≤ LIM) then
   rec5 ((IntKind.wrap .i64 (x5.1 + 1)),(x5.2.1 ++ ([((IntKind.wrap .u64 (32 + (IntKind.wrap .u64 x5.1))),r6)])),((),()))
   else none)))
   else none)
   else (
   lfp (fun (rec7 : (List (Int×List Int)×Int×Int×List (Int×List Int)×(Unit×Unit)) → Option ((List (Int×List Int))×Int)) (x7 : List (Int×List Int)×Int×Int×List (Int×List Int)×(Unit×Unit)) =>
    bif decide (x7.2.2.1 < (b.2.2.2.2.2.2.2.2.2.2.length : Int)) then (
    bif inb x7.2.2.1 b.2.2.2.2.2.2.2.2.2.2.length then
    (F50 ((rd (.pair (.int .i64) (.pair (.int .u64) (.int .u64))) b.2.2.2.2.2.2.2.2.2.2 x7.2.2.1).1,(((rd (.pair (.int .i64) (.pair (.int .u64) (.int .u64))) b.2.2.2.2.2.2.2.2.2.2 x7.2.2.1).2).1,((rd (.pair (.int .i64) (.pair (.int .u64) (.int .u64))) b.2.2.2.2.2.2.2.2.2.2 x7.2.2.1).2).2))).bind fun r8 =>
    bif (!decide (r8.2 = 0)) then (
    some (([] : List (Int×List Int)),r8.2))
    else (
    bif decide ((x7.2.2.2.1.length + 1) * 32 ≤ LIM) then
    rec7 (x7.1,x7.2.1,(IntKind.wrap .i64 (x7.2.2.1 + 1)),(x7.2.2.2.1 ++ ([((IntKind.wrap .u64 (48 + (IntKind.wrap .u64 x7.2.2.1))),r8.1)])),((),()))
    else none)
    else none)
    else (
    bif srtOk x7.2.2.2.1 then
    some ((srt x7.2.2.2.1),0)
    else none)) (([] : List (Int×List Int)),0,0,x5.2.1,((),())))) (0,x4.2.1,((),())))
  else (
  anyOf x4.1 (fun (e9 : Int×Int) (r9 : List (Int×Int)) =>
   bif (!decide (e9.2 = 0)) then (
   (both (
   (F49 ([e9.2])).bind fun r10 =>
   bif decide ((x4.2.1.length + 1) * 32 ≤ LIM) then
   rec4 (r9,(x4.2.1 ++ ([(e9.1,r10)])),((),()))
   else none) (
   (F49 ([e9.2])).bind fun r10 =>
   (fun o => both o o) (
   bif decide ((x4.2.1.length + 1) * 32 ≤ LIM) then
   rec4 (r9,(x4.2.1 ++ ([(e9.1,r10)])),((),()))
   else none))))
   else (
   rec4 (r9,x4.2.1,((),())))))) ((mput (.int .u64) (.int .u64) (mput (.int .u64) (.int .u64) (mput (.int .u64) (.int .u64) (mput (.int .u64) (.int .u64) ([] : List (Int×Int)) 3 b.2.2.1) 5 b.2.2.2.2.2.2.1) 6 b.2.2.2.2.2.2.2.1) 7 b.2.2.2.2.2.2.2.2.1),((([(4,r1.1)]) ++ ([(1,r2)])) ++ ([(2,r3)])),((),()))
 else none) (
 (F49 ([(IntKind.wrap .u64 b.2.1)])).bind fun r3 =>
 (fun o => both o o) (
 bif decide (((([(4,r1.1)]) ++ ([(1,r2)])).length + 1) * 32 ≤ LIM) then
 lfp (fun (rec4 : (List (Int×Int)×List (Int×List Int)×(Unit×Unit)) → Option ((List (Int×List Int))×Int)) (x4 : List (Int×Int)×List (Int×List Int)×(Unit×Unit)) =>
  bif x4.1.isEmpty then (
  lfp (fun (rec5 : (Int×List (Int×List Int)×(Unit×Unit)) → Option ((List (Int×List Int))×Int)) (x5 : Int×List (Int×List Int)×(Unit×Unit)) =>
   bif decide (x5.1 < (b.2.2.2.2.2.2.2.2.2.1.length : Int)) then (
   bif inb x5.1 b.2.2.2.2.2.2.2.2.2.1.length then
   (both (
   (F49 ([(rd (.pair (.int .u64) (.int .u64)) b.2.2.2.2.2.2.2.2.2.1 x5.1).1,(rd (.pair (.int .u64) (.int .u64)) b.2.2.2.2.2.2.2.2.2.1 x5.1).2])).bind fun r6 =>
   bif decide ((x5.2.1.length + 1) * 32 ≤ LIM) then
   rec5 ((IntKind.wrap .i64 (x5.1 + 1)),(x5.2.1 ++ ([((IntKind.wrap .u64 (32 + (IntKind.wrap .u64 x5.1))),r6)])),((),()))
   else none) (
   (F49 ([(rd (.pair (.int .u64) (.int .u64)) b.2.2.2.2.2.2.2.2.2.1 x5.1).1,(rd (.pair (.int .u64) (.int .u64)) b.2.2.2.2.2.2.2.2.2.1 x5.1).2])).bind fun r6 =>
   (fun o => both o o) (
   bif decide ((x5.2.1.length + 1) * 32 ≤ LIM) then
   rec5 ((IntKind.wrap .i64 (x5.1 + 1)),(x5.2.1 ++ ([((IntKind.wrap .u64 (32 + (IntKind.wrap .u64 x5.1))),r6)])),((),()))
   else none)))
   else none)
   else (
   lfp (fun (rec7 : (List (Int×List Int)×Int×Int×List (Int×List Int)×(Unit×Unit)) → Option ((List (Int×List Int))×Int)) (x7 : List (Int×List Int)×Int×Int×List (Int×List Int)×(Unit×Unit)) =>
    bif decide (x7.2.2.1 < (b.2.2.2.2.2.2.2.2.2.2.length : Int)) then (
    bif inb x7.2.2.1 b.2.2.2.2.2.2.2.2.2.2.length then
    (F50 ((rd (.pair (.int .i64) (.pair (.int .u64) (.int .u64))) b.2.2.2.2.2.2.2.2.2.2 x7.2.2.1).1,(((rd (.pair (.int .i64) (.pair (.int .u64) (.int .u64))) b.2.2.2.2.2.2.2.2.2.2 x7.2.2.1).2).1,((rd (.pair (.int .i64) (.pair (.int .u64) (.int .u64))) b.2.2.2.2.2.2.2.2.2.2 x7.2.2.1).2).2))).bind fun r8 =>
    bif (!decide (r8.2 = 0)) then (
    some (([] : List (Int×List Int)),r8.2))
    else (
    bif decide ((x7.2.2.2.1.length + 1) * 32 ≤ LIM) then
    rec7 (x7.1,x7.2.1,(IntKind.wrap .i64 (x7.2.2.1 + 1)),(x7.2.2.2.1 ++ ([((IntKind.wrap .u64 (48 + (IntKind.wrap .u64 x7.2.2.1))),r8.1)])),((),()))
    else none)
    else none)
    else (
    bif srtOk x7.2.2.2.1 then
    some ((srt x7.2.2.2.1),0)
    else none)) (([] : List (Int×List Int)),0,0,x5.2.1,((),())))) (0,x4.2.1,((),())))
  else (
  anyOf x4.1 (fun (e9 : Int×Int) (r9 : List (Int×Int)) =>
   bif (!decide (e9.2 = 0)) then (
   (both (
   (F49 ([e9.2])).bind fun r10 =>
   bif decide ((x4.2.1.length + 1) * 32 ≤ LIM) then
   rec4 (r9,(x4.2.1 ++ ([(e9.1,r10)])),((),()))
   else none) (
   (F49 ([e9.2])).bind fun r10 =>
   (fun o => both o o) (
   bif decide ((x4.2.1.length + 1) * 32 ≤ LIM) then
   rec4 (r9,(x4.2.1 ++ ([(e9.1,r10)])),((),()))
   else none))))
   else (
   rec4 (r9,x4.2.1,((),())))))) ((mput (.int .u64) (.int .u64) (mput (.int .u64) (.int .u64) (mput (.int .u64) (.int .u64) (mput (.int .u64) (.int .u64) ([] : List (Int×Int)) 3 b.2.2.1) 5 b.2.2.2.2.2.2.1) 6 b.2.2.2.2.2.2.2.1) 7 b.2.2.2.2.2.2.2.2.1),((([(4,r1.1)]) ++ ([(1,r2)])) ++ ([(2,r3)])),((),()))
 else none)))
 else none) (
 (F49 ([b.1])).bind fun r2 =>
 (fun o => both o o) (
 bif decide ((([(4,r1.1)]).length + 1) * 32 ≤ LIM) then
 (both (
 (F49 ([(IntKind.wrap .u64 b.2.1)])).bind fun r3 =>
 bif decide (((([(4,r1.1)]) ++ ([(1,r2)])).length + 1) * 32 ≤ LIM) then
 lfp (fun (rec4 : (List (Int×Int)×List (Int×List Int)×(Unit×Unit)) → Option ((List (Int×List Int))×Int)) (x4 : List (Int×Int)×List (Int×List Int)×(Unit×Unit)) =>
  bif x4.1.isEmpty then (
  lfp (fun (rec5 : (Int×List (Int×List Int)×(Unit×Unit)) → Option ((List (Int×List Int))×Int)) (x5 : Int×List (Int×List Int)×(Unit×Unit)) =>
   bif decide (x5.1 < (b.2.2.2.2.2.2.2.2.2.1.length : Int)) then (
   bif inb x5.1 b.2.2.2.2.2.2.2.2.2.1.length then
   (both (
   (F49 ([(rd (.pair (.int .u64) (.int .u64)) b.2.2.2.2.2.2.2.2.2.1 x5.1).1,(rd (.pair (.int .u64) (.int .u64)) b.2.2.2.2.2.2.2.2.2.1 x5.1).2])).bind fun r6 =>
   bif decide ((x5.2.1.length + 1) * 32 ≤ LIM) then
   rec5 ((IntKind.wrap .i64 (x5.1 + 1)),(x5.2.1 ++ ([((IntKind.wrap .u64 (32 + (IntKind.wrap .u64 x5.1))),r6)])),((),()))
   else none) (
   (F49 ([(rd (.pair (.int .u64) (.int .u64)) b.2.2.2.2.2.2.2.2.2.1 x5.1).1,(rd (.pair (.int .u64) (.int .u64)) b.2.2.2.2.2.2.2.2.2.1 x5.1).2])).bind fun r6 =>
   (fun o => both o o) (
   bif decide ((x5.2.1.length + 1) * 32 ≤ LIM) then
   rec5 ((IntKind.wrap .i64 (x5.1 + 1)),(x5.2.1 ++ ([((IntKind.wrap .u64 (32 + (IntKind.wrap .u64 x5.1))),r6)])),((),()))
   else none)))
   else none)
   else (
   lfp (fun (rec7 : (List (Int×List Int)×Int×Int×List (Int×List Int)×(Unit×Unit)) → Option ((List (Int×List Int))×Int)) (x7 : List (Int×List Int)×Int×Int×List (Int×List Int)×(Unit×Unit)) =>
    bif decide (x7.2.2.1 < (b.2.2.2.2.2.2.2.2.2.2.length : Int)) then (
    bif inb x7.2.2.1 b.2.2.2.2.2.2.2.2.2.2.length then
    (F50 ((rd (.pair (.int .i64) (.pair (.int .u64) (.int .u64))) b.2.2.2.2.2.2.2.2.2.2 x7.2.2.1).1,(((rd (.pair (.int .i64) (.pair (.int .u64) (.int .u64))) b.2.2.2.2.2.2.2.2.2.2 x7.2.2.1).2).1,((rd (.pair (.int .i64) (.pair (.int .u64) (.int .u64))) b.2.2.2.2.2.2.2.2.2.2 x7.2.2.1).2).2))).bind fun r8 =>
    bif (!decide (r8.2 = 0)) then (
    some (([] : List (Int×List Int)),r8.2))
    else (
    bif decide ((x7.2.2.2.1.length + 1) * 32 ≤ LIM) then
    rec7 (x7.1,x7.2.1,(IntKind.wrap .i64 (x7.2.2.1 + 1)),(x7.2.2.2.1 ++ ([((IntKind.wrap .u64 (48 + (IntKind.wrap .u64 x7.2.2.1))),r8.1)])),((),()))
    else none)
    else none)
    else (
    bif srtOk x7.2.2.2.1 then
    some ((srt x7.2.2.2.1),0)
    else none)) (([] : List (Int×List Int)),0,0,x5.2.1,((),())))) (0,x4.2.1,((),())))
  else (
  anyOf x4.1 (fun (e9 : Int×Int) (r9 : List (Int×Int)) =>
   bif (!decide (e9.2 = 0)) then (
   (both (
   (F49 ([e9.2])).bind fun r10 =>
   bif decide ((x4.2.1.length + 1) * 32 ≤ LIM) then
   rec4 (r9,(x4.2.1 ++ ([(e9.1,r10)])),((),()))
   else none) (
   (F49 ([e9.2])).bind fun r10 =>
   (fun o => both o o) (
   bif decide ((x4.2.1.length + 1) * 32 ≤ LIM) then
   rec4 (r9,(x4.2.1 ++ ([(e9.1,r10)])),((),()))
   else none))))
   else (
   rec4 (r9,x4.2.1,((),())))))) ((mput (.int .u64) (.int .u64) (mput (.int .u64) (.int .u64) (mput (.int .u64) (.int .u64) (mput (.int .u64) (.int .u64) ([] : List (Int×Int)) 3 b.2.2.1) 5 b.2.2.2.2.2.2.1) 6 b.2.2.2.2.2.2.2.1) 7 b.2.2.2.2.2.2.2.2.1),((([(4,r1.1)]) ++ ([(1,r2)])) ++ ([(2,r3)])),((),()))
 else none) (
 (F49 ([(IntKind.wrap .u64 b.2.1)])).bind fun r3 =>
 (fun o => both o o) (
 bif decide (((([(4,r1.1)]) ++ ([(1,r2)])).length + 1) * 32 ≤ LIM) then
 lfp (fun (rec4 : (List (Int×Int)×List (Int×List Int)×(Unit×Unit)) → Option ((List (Int×List Int))×Int)) (x4 : List (Int×Int)×List (Int×List Int)×(Unit×Unit)) =>
  bif x4.1.isEmpty then (
  lfp (fun (rec5 : (Int×List (Int×List Int)×(Unit×Unit)) → Option ((List (Int×List Int))×Int)) (x5 : Int×List (Int×List Int)×(Unit×Unit)) =>
   bif decide (x5.1 < (b.2.2.2.2.2.2.2.2.2.1.length : Int)) then (
   bif inb x5.1 b.2.2.2.2.2.2.2.2.2.1.length then
   (both (
   (F49 ([(rd (.pair (.int .u64) (.int .u64)) b.2.2.2.2.2.2.2.2.2.1 x5.1).1,(rd (.pair (.int .u64) (.int .u64)) b.2.2.2.2.2.2.2.2.2.1 x5.1).2])).bind fun r6 =>
   bif decide ((x5.2.1.length + 1) * 32 ≤ LIM) then
   rec5 ((IntKind.wrap .i64 (x5.1 + 1)),(x5.2.1 ++ ([((IntKind.wrap .u64 (32 + (IntKind.wrap .u64 x5.1))),r6)])),((),()))
   else none) (
   (F49 ([(rd (.pair (.int .u64) (.int .u64)) b.2.2.2.2.2.2.2.2.2.1 x5.1).1,(rd (.pair (.int .u64) (.int .u64)) b.2.2.2.2.2.2.2.2.2.1 x5.1).2])).bind fun r6 =>
   (fun o => both o o) (
   bif decide ((x5.2.1.length + 1) * 32 ≤ LIM) then
   rec5 ((IntKind.wrap .i64 (x5.1 + 1)),(x5.2.1 ++ ([((IntKind.wrap .u64 (32 + (IntKind.wrap .u64 x5.1))),r6)])),((),()))
   else none)))
   else none)
   else (
   lfp (fun (rec7 : (List (Int×List Int)×Int×Int×List (Int×List Int)×(Unit×Unit)) → Option ((List (Int×List Int))×Int)) (x7 : List (Int×List Int)×Int×Int×List (Int×List Int)×(Unit×Unit)) =>
    bif decide (x7.2.2.1 < (b.2.2.2.2.2.2.2.2.2.2.length : Int)) then (
    bif inb x7.2.2.1 b.2.2.2.2.2.2.2.2.2.2.length then
    (F50 ((rd (.pair (.int .i64) (.pair (.int .u64) (.int .u64))) b.2.2.2.2.2.2.2.2.2.2 x7.2.2.1).1,(((rd (.pair (.int .i64) (.pair (.int .u64) (.int .u64))) b.2.2.2.2.2.2.2.2.2.2 x7.2.2.1).2).1,((rd (.pair (.int .i64) (.pair (.int .u64) (.int .u64))) b.2.2.2.2.2.2.2.2.2.2 x7.2.2.1).2).2))).bind fun r8 =>
    bif (!decide (r8.2 = 0)) then (
    some (([] : List (Int×List Int)),r8.2))
    else (
    bif decide ((x7.2.2.2.1.length + 1) * 32 ≤ LIM) then
    rec7 (x7.1,x7.2.1,(IntKind.wrap .i64 (x7.2.2.1 + 1)),(x7.2.2.2.1 ++ ([((IntKind.wrap .u64 (48 + (IntKind.wrap .u64 x7.2.2.1))),r8.1)])),((),()))
    else none)
    else none)
    else (
    bif srtOk x7.2.2.2.1 then
    some ((srt x7.2.2.2.1),0)
    else none)) (([] : List (Int×List Int)),0,0,x5.2.1,((),())))) (0,x4.2.1,((),())))
  else (
  anyOf x4.1 (fun (e9 : Int×Int) (r9 : List (Int×Int)) =>
   bif (!decide (e9.2 = 0)) then (
   (both (
   (F49 ([e9.2])).bind fun r10 =>
   bif decide ((x4.2.1.length + 1) * 32 ≤ LIM) then
   rec4 (r9,(x4.2.1 ++ ([(e9.1,r10)])),((),()))
   else none) (
   (F49 ([e9.2])).bind fun r10 =>
   (fun o => both o o) (
   bif decide ((x4.2.1.length + 1) * 32 ≤ LIM) then
   rec4 (r9,(x4.2.1 ++ ([(e9.1,r10)])),((),()))
   else none))))
   else (
   rec4 (r9,x4.2.1,((),())))))) ((mput (.int .u64) (.int .u64) (mput (.int .u64) (.int .u64) (mput (.int .u64) (.int .u64) (mput (.int .u64) (.int .u64) ([] : List (Int×Int)) 3 b.2.2.1) 5 b.2.2.2.2.2.2.1) 6 b.2.2.2.2.2.2.2.1) 7 b.2.2.2.2.2.2.2.2.1),((([(4,r1.1)]) ++ ([(1,r2)])) ++ ([(2,r3)])),((),()))
 else none)))
 else none))))
theorem ev19 (b : (Int×(Int×(Int×(Int×(List (Int×(Int×Int))×(Int×(Int×(Int×(Int×(List (Int×Int)×List (Int×(Int×Int))))))))))))) : evF C51 H19 Tryz.f19 (encs [.aggA (.pair (.int .u64) (.pair (.int .i64) (.pair (.int .u64) (.pair (.int .u64) (.pair (.slice 63 (.pair (.int .i64) (.pair (.int .u64) (.int .u64)))) (.pair (.int .i64) (.pair (.int .u64) (.pair (.int .u64) (.pair (.int .u64) (.pair (.slice 74 (.pair (.int .u64) (.int .u64))) (.slice 63 (.pair (.int .i64) (.pair (.int .u64) (.int .u64))))))))))))))] b) (RT.dec (.tup [.leaf (.fresh 50 (.pair (.int .u64) (.slice 5 (.int .u8)))),.leaf (.int .i64)])) = F19 b := by kernel_rfl
noncomputable def C19 : Ctx := Ctx.addA C51 19 [.aggA (.pair (.int .u64) (.pair (.int .i64) (.pair (.int .u64) (.pair (.int .u64) (.pair (.slice 63 (.pair (.int .i64) (.pair (.int .u64) (.int .u64)))) (.pair (.int .i64) (.pair (.int .u64) (.pair (.int .u64) (.pair (.int .u64) (.pair (.slice 74 (.pair (.int .u64) (.int .u64))) (.slice 63 (.pair (.int .i64) (.pair (.int .u64) (.int .u64))))))))))))))] (.tup [.leaf (.fresh 50 (.pair (.int .u64) (.slice 5 (.int .u8)))),.leaf (.int .i64)]) F19
theorem s19 : C19.Sound := Ctx.Sound.addA (C := C51) mixed s51 Tryz.func19 ev19
def H71029 : Nat → Head
  | 2 => ⟨[.data 4 (.int .i64),.data 8 (.int .i64)],[]⟩
  | _ => ⟨[],[]⟩
noncomputable def F71029 (b : List (Int×List Int)×Unit) : Option Int :=
 lfp (fun (rec1 : (Int×Int) → Option Int) (x1 : Int×Int) =>
  bif decide (x1.2 < (b.1.length : Int)) then (
  bif inb x1.2 b.1.length then
  (F29 ((rd (.pair (.int .u64) (.slice 5 (.int .u8))) b.1 x1.2).1,(rd (.pair (.int .u64) (.slice 5 (.int .u8))) b.1 x1.2).2)).bind fun r2 =>
  bif r2 then (
  some x1.2)
  else (
  rec1 (x1.1,(IntKind.wrap .i64 (x1.2 + 1))))
  else none)
  else (
  some (-1))) (0,0)
theorem ev71029 (b : List (Int×List Int)×Unit) : evF C19 H71029 Tryz.f71 (encs [.one (.slice 50 (.pair (.int .u64) (.slice 5 (.int .u8)))),.fn 29] b) (RT.dec (.one (.leaf (.int .i64)))) = F71029 b := by kernel_rfl
noncomputable def C71029 : Ctx := Ctx.add C19 71 [.one (.slice 50 (.pair (.int .u64) (.slice 5 (.int .u8)))),.fn 29] (.one (.leaf (.int .i64))) F71029
theorem s71029 : C71029.Sound := Ctx.Sound.add (C := C19) mixed s19 Tryz.func71 ev71029
def H28 : Nat → Head
  | 5 => ⟨[.data 5 (.int .i64),.data 6 (.int .i64),.rowk 57344 50 (.pair (.int .u64) (.slice 5 (.int .u8)))],[9000028]⟩
  | 4000000 => ⟨[],[77,82]⟩
  | _ => ⟨[],[]⟩
noncomputable def C28 : Ctx := Ctx.addI C71029 28 H28 9000028 Tryz.f28
theorem s28 : C28.Sound := Ctx.Sound.addI (C := C71029) mixed s71029 Tryz.func28
def H10 : Nat → Head
  | 1000000 => ⟨[],[1]⟩
  | _ => ⟨[],[]⟩
noncomputable def F10 (b : (Int×(Int×(Int×(Int×(List (Int×(Int×Int))×(Int×(Int×(Int×(Int×(List (Int×Int)×List (Int×(Int×Int))))))))))))) : Option (List Int×Int) :=
 (F16 (b.1,(b.2.1,(b.2.2.1,(b.2.2.2.1,(b.2.2.2.2.1,(b.2.2.2.2.2.1,(b.2.2.2.2.2.2.1,(b.2.2.2.2.2.2.2.1,(b.2.2.2.2.2.2.2.2.1,(b.2.2.2.2.2.2.2.2.2.1,b.2.2.2.2.2.2.2.2.2.2))))))))))).bind fun r1 =>
 bif (!decide (r1 = 0)) then (
 some (([] : List Int),r1))
 else (
 (F19 (b.1,(b.2.1,(b.2.2.1,(b.2.2.2.1,(b.2.2.2.2.1,(b.2.2.2.2.2.1,(b.2.2.2.2.2.2.1,(b.2.2.2.2.2.2.2.1,(b.2.2.2.2.2.2.2.2.1,(b.2.2.2.2.2.2.2.2.2.1,b.2.2.2.2.2.2.2.2.2.2))))))))))).bind fun r2 =>
 bif (!decide (r2.2 = 0)) then (
 some (([] : List Int),r2.2))
 else (
 (F71029 (r2.1,())).bind fun r3 =>
 bif decide (r3 = (-1)) then (
 (F20 r2.1).bind fun r4 =>
 some (r4.1,r4.2))
 else (
 lfp (fun (rec5 : (Int×Int×List (Int×List Int)) → Option (List Int×Int)) (x5 : Int×Int×List (Int×List Int)) =>
  bif decide (x5.2.1 < (x5.2.2.length : Int)) then (
  bif inb x5.2.1 x5.2.2.length then
  (F29 ((rd (.pair (.int .u64) (.slice 5 (.int .u8))) x5.2.2 x5.2.1).1,(rd (.pair (.int .u64) (.slice 5 (.int .u8))) x5.2.2 x5.2.1).2)).bind fun r6 =>
  bif (!r6) then (
  bif inb x5.1 x5.2.2.length then
  rec5 ((IntKind.wrap .i64 (x5.1 + 1)),(IntKind.wrap .i64 (x5.2.1 + 1)),(x5.2.2.set x5.1.toNat ((rd (.pair (.int .u64) (.slice 5 (.int .u8))) x5.2.2 x5.2.1).1,(rd (.pair (.int .u64) (.slice 5 (.int .u8))) x5.2.2 x5.2.1).2)))
  else none)
  else (
  rec5 (x5.1,(IntKind.wrap .i64 (x5.2.1 + 1)),x5.2.2))
  else none)
  else (
  bif inb x5.1 (x5.2.2.length + 1) then
  bif decide (x5.1.toNat + (x5.2.2.length - x5.1.toNat) ≤ x5.2.2.length) then
  bif inb x5.1 ((x5.2.2.take x5.1.toNat ++ (List.replicate (x5.2.2.length - x5.1.toNat) (0,[]) : List (Int×List Int)) ++ x5.2.2.drop (x5.1.toNat + (x5.2.2.length - x5.1.toNat))).length + 1) then
  (F20 ((x5.2.2.take x5.1.toNat ++ (List.replicate (x5.2.2.length - x5.1.toNat) (0,[]) : List (Int×List Int)) ++ x5.2.2.drop (x5.1.toNat + (x5.2.2.length - x5.1.toNat))).take x5.1.toNat)).bind fun r7 =>
  some (r7.1,r7.2)
  else none
  else none
  else none)) (r3,(IntKind.wrap .i64 (r3 + 1)),r2.1))))
theorem ev10 (b : (Int×(Int×(Int×(Int×(List (Int×(Int×Int))×(Int×(Int×(Int×(Int×(List (Int×Int)×List (Int×(Int×Int))))))))))))) : evF C28 H10 Tryz.f10 (encs [.aggA (.pair (.int .u64) (.pair (.int .i64) (.pair (.int .u64) (.pair (.int .u64) (.pair (.slice 63 (.pair (.int .i64) (.pair (.int .u64) (.int .u64)))) (.pair (.int .i64) (.pair (.int .u64) (.pair (.int .u64) (.pair (.int .u64) (.pair (.slice 74 (.pair (.int .u64) (.int .u64))) (.slice 63 (.pair (.int .i64) (.pair (.int .u64) (.int .u64))))))))))))))] b) (RT.dec (.tup [.leaf (.fresh 5 (.int .u8)),.leaf (.int .i64)])) = F10 b := by kernel_rfl
noncomputable def C10 : Ctx := Ctx.addA C28 10 [.aggA (.pair (.int .u64) (.pair (.int .i64) (.pair (.int .u64) (.pair (.int .u64) (.pair (.slice 63 (.pair (.int .i64) (.pair (.int .u64) (.int .u64)))) (.pair (.int .i64) (.pair (.int .u64) (.pair (.int .u64) (.pair (.int .u64) (.pair (.slice 74 (.pair (.int .u64) (.int .u64))) (.slice 63 (.pair (.int .i64) (.pair (.int .u64) (.int .u64))))))))))))))] (.tup [.leaf (.fresh 5 (.int .u8)),.leaf (.int .i64)]) F10
theorem s10 : C10.Sound := Ctx.Sound.addA (C := C28) mixed s28 Tryz.func10 ev10
def H4 : Nat → Head := fun _ => ⟨[],[]⟩
noncomputable def F4 (b : Unit) : Option Bool :=
 (F10 (5,(7,(0,(0,([],(0,(0,(0,(0,([],[]))))))))))).bind fun r1 =>
 bif (decide (r1.2 = 0) == true) then (
 some (decide (r1.1 = ([2,1,7]))))
 else (
 some false)
theorem ev4 (b : Unit) : evF C10 H4 Tryz.f4 (encs [] b) (RT.dec (.one (.leaf (.bool)))) = F4 b := by kernel_rfl
noncomputable def C4 : Ctx := Ctx.add C10 4 [] (.one (.leaf (.bool))) F4
theorem s4 : C4.Sound := Ctx.Sound.add (C := C10) mixed s10 Tryz.func4 ev4
def H5 : Nat → Head := fun _ => ⟨[],[]⟩
noncomputable def F5 (b : (Int×(Int×(Int×(Int×(List (Int×(Int×Int))×(Int×(Int×(Int×(Int×(List (Int×Int)×List (Int×(Int×Int))))))))))))) : Option Bool :=
 some (bif (bif decide ((b.2.2.2.2.1.length : Int) ≤ 20) then decide ((b.2.2.2.2.2.2.2.2.2.1.length : Int) ≤ 20) else false) then decide ((b.2.2.2.2.2.2.2.2.2.2.length : Int) ≤ 20) else false)
theorem ev5 (b : (Int×(Int×(Int×(Int×(List (Int×(Int×Int))×(Int×(Int×(Int×(Int×(List (Int×Int)×List (Int×(Int×Int))))))))))))) : evF C4 H5 Tryz.f5 (encs [.agg (.pair (.int .u64) (.pair (.int .i64) (.pair (.int .u64) (.pair (.int .u64) (.pair (.slice 63 (.pair (.int .i64) (.pair (.int .u64) (.int .u64)))) (.pair (.int .i64) (.pair (.int .u64) (.pair (.int .u64) (.pair (.int .u64) (.pair (.slice 74 (.pair (.int .u64) (.int .u64))) (.slice 63 (.pair (.int .i64) (.pair (.int .u64) (.int .u64))))))))))))))] b) (RT.dec (.one (.leaf (.bool)))) = F5 b := by kernel_rfl
noncomputable def C5 : Ctx := Ctx.add C4 5 [.agg (.pair (.int .u64) (.pair (.int .i64) (.pair (.int .u64) (.pair (.int .u64) (.pair (.slice 63 (.pair (.int .i64) (.pair (.int .u64) (.int .u64)))) (.pair (.int .i64) (.pair (.int .u64) (.pair (.int .u64) (.pair (.int .u64) (.pair (.slice 74 (.pair (.int .u64) (.int .u64))) (.slice 63 (.pair (.int .i64) (.pair (.int .u64) (.int .u64))))))))))))))] (.one (.leaf (.bool))) F5
theorem s5 : C5.Sound := Ctx.Sound.add (C := C4) mixed s4 Tryz.func5 ev5
def H6 : Nat → Head
  | 1000000 => ⟨[],[1]⟩
  | _ => ⟨[],[]⟩
noncomputable def F6 (b : (Int×(Int×(Int×(Int×(List (Int×(Int×Int))×(Int×(Int×(Int×(Int×(List (Int×Int)×List (Int×(Int×Int))))))))))))) : Option (List Int×Int) :=
 (F16 (b.1,(b.2.1,(b.2.2.1,(b.2.2.2.1,(b.2.2.2.2.1,(b.2.2.2.2.2.1,(b.2.2.2.2.2.2.1,(b.2.2.2.2.2.2.2.1,(b.2.2.2.2.2.2.2.2.1,(b.2.2.2.2.2.2.2.2.2.1,b.2.2.2.2.2.2.2.2.2.2))))))))))).bind fun r1 =>
 bif (!decide (r1 = 0)) then (
 some (([] : List Int),r1))
 else (
 (F19 (b.1,(b.2.1,(b.2.2.1,(b.2.2.2.1,(b.2.2.2.2.1,(b.2.2.2.2.2.1,(b.2.2.2.2.2.2.1,(b.2.2.2.2.2.2.2.1,(b.2.2.2.2.2.2.2.2.1,(b.2.2.2.2.2.2.2.2.2.1,b.2.2.2.2.2.2.2.2.2.2))))))))))).bind fun r2 =>
 bif (!decide (r2.2 = 0)) then (
 some (([] : List Int),r2.2))
 else (
 (F20 r2.1).bind fun r3 =>
 bif (bif (!decide (r3.2 = 0)) then true else decide (4096 < (r3.1.length : Int))) then (
 some (([] : List Int),4))
 else (
 some (r3.1,0))))
theorem ev6 (b : (Int×(Int×(Int×(Int×(List (Int×(Int×Int))×(Int×(Int×(Int×(Int×(List (Int×Int)×List (Int×(Int×Int))))))))))))) : evF C5 H6 Tryz.f6 (encs [.aggA (.pair (.int .u64) (.pair (.int .i64) (.pair (.int .u64) (.pair (.int .u64) (.pair (.slice 63 (.pair (.int .i64) (.pair (.int .u64) (.int .u64)))) (.pair (.int .i64) (.pair (.int .u64) (.pair (.int .u64) (.pair (.int .u64) (.pair (.slice 74 (.pair (.int .u64) (.int .u64))) (.slice 63 (.pair (.int .i64) (.pair (.int .u64) (.int .u64))))))))))))))] b) (RT.dec (.tup [.leaf (.fresh 5 (.int .u8)),.leaf (.int .i64)])) = F6 b := by kernel_rfl
noncomputable def C6 : Ctx := Ctx.addA C5 6 [.aggA (.pair (.int .u64) (.pair (.int .i64) (.pair (.int .u64) (.pair (.int .u64) (.pair (.slice 63 (.pair (.int .i64) (.pair (.int .u64) (.int .u64)))) (.pair (.int .i64) (.pair (.int .u64) (.pair (.int .u64) (.pair (.int .u64) (.pair (.slice 74 (.pair (.int .u64) (.int .u64))) (.slice 63 (.pair (.int .i64) (.pair (.int .u64) (.int .u64))))))))))))))] (.tup [.leaf (.fresh 5 (.int .u8)),.leaf (.int .i64)]) F6
theorem s6 : C6.Sound := Ctx.Sound.addA (C := C5) mixed s5 Tryz.func6 ev6
def H34 : Nat → Head
  | 4 => ⟨[.data 4 .bool,.data 13 (.int .i64)],[]⟩
  | 5000006 => ⟨[],[0,0,0,0,3,3,4,4,0,0,0,0,48,48,64,64,136,136]⟩
  | _ => ⟨[],[]⟩
noncomputable def F34 (b : List (Int×(Int×Int))×List (Int×(Int×Int))) : Option Bool :=
 bif (!decide ((b.1.length : Int) = (b.2.length : Int))) then (
 some false)
 else (
 lfp (fun (rec1 : (Bool×Int) → Option Bool) (x1 : Bool×Int) =>
  bif decide (x1.2 < (b.1.length : Int)) then (
  bif inb x1.2 b.1.length then
  bif inb x1.2 b.2.length then
  bif (!(decide ((rd (.pair (.int .i64) (.pair (.int .u64) (.int .u64))) b.1 x1.2).1 = (rd (.pair (.int .i64) (.pair (.int .u64) (.int .u64))) b.2 x1.2).1) && (decide (((rd (.pair (.int .i64) (.pair (.int .u64) (.int .u64))) b.1 x1.2).2).1 = ((rd (.pair (.int .i64) (.pair (.int .u64) (.int .u64))) b.2 x1.2).2).1) && decide (((rd (.pair (.int .i64) (.pair (.int .u64) (.int .u64))) b.1 x1.2).2).2 = ((rd (.pair (.int .i64) (.pair (.int .u64) (.int .u64))) b.2 x1.2).2).2)))) then (
  some false)
  else (
  rec1 (x1.1,(IntKind.wrap .i64 (x1.2 + 1))))
  else none
  else none)
  else (
  some true)) (false,0))
theorem ev34 (b : List (Int×(Int×Int))×List (Int×(Int×Int))) : evF C6 H34 Tryz.f34 (encs [.one (.slice 63 (.pair (.int .i64) (.pair (.int .u64) (.int .u64)))),.one (.slice 63 (.pair (.int .i64) (.pair (.int .u64) (.int .u64))))] b) (RT.dec (.one (.leaf (.bool)))) = F34 b := by kernel_rfl
noncomputable def C34 : Ctx := Ctx.add C6 34 [.one (.slice 63 (.pair (.int .i64) (.pair (.int .u64) (.int .u64)))),.one (.slice 63 (.pair (.int .i64) (.pair (.int .u64) (.int .u64))))] (.one (.leaf (.bool))) F34
theorem s34 : C34.Sound := Ctx.Sound.add (C := C6) mixed s6 Tryz.func34 ev34
def H32 : Nat → Head := fun _ => ⟨[],[]⟩
noncomputable def F32 (b : (Int×(List (Int×(Int×Int))×Int))×(Int×(List (Int×(Int×Int))×Int))) : Option Bool :=
 bif ((bif decide (b.1.1 = b.2.1) then decide (b.1.2.2 = b.2.2.2) else false) == true) then (
 (F34 (b.1.2.1,b.2.2.1)).bind fun r1 =>
 some r1)
 else (
 some false)
theorem ev32 (b : (Int×(List (Int×(Int×Int))×Int))×(Int×(List (Int×(Int×Int))×Int))) : evF C34 H32 Tryz.f32 (encs [.agg (.pair (.int .u64) (.pair (.slice 63 (.pair (.int .i64) (.pair (.int .u64) (.int .u64)))) (.int .i64))),.agg (.pair (.int .u64) (.pair (.slice 63 (.pair (.int .i64) (.pair (.int .u64) (.int .u64)))) (.int .i64)))] b) (RT.dec (.one (.leaf (.bool)))) = F32 b := by kernel_rfl
noncomputable def C32 : Ctx := Ctx.add C34 32 [.agg (.pair (.int .u64) (.pair (.slice 63 (.pair (.int .i64) (.pair (.int .u64) (.int .u64)))) (.int .i64))),.agg (.pair (.int .u64) (.pair (.slice 63 (.pair (.int .i64) (.pair (.int .u64) (.int .u64)))) (.int .i64)))] (.one (.leaf (.bool))) F32
theorem s32 : C32.Sound := Ctx.Sound.add (C := C34) mixed s34 Tryz.func32 ev32
def H33 : Nat → Head
  | 4 => ⟨[.data 4 .bool,.data 13 (.int .i64)],[]⟩
  | 5000006 => ⟨[],[0,0,0,0,3,3,4,4,0,0,0,0,48,48,64,64,136,136]⟩
  | _ => ⟨[],[]⟩
noncomputable def F33 (b : List (Int×Int)×List (Int×Int)) : Option Bool :=
 bif (!decide ((b.1.length : Int) = (b.2.length : Int))) then (
 some false)
 else (
 lfp (fun (rec1 : (Bool×Int) → Option Bool) (x1 : Bool×Int) =>
  bif decide (x1.2 < (b.1.length : Int)) then (
  bif inb x1.2 b.1.length then
  bif inb x1.2 b.2.length then
  bif (!(decide ((rd (.pair (.int .u64) (.int .u64)) b.1 x1.2).1 = (rd (.pair (.int .u64) (.int .u64)) b.2 x1.2).1) && decide ((rd (.pair (.int .u64) (.int .u64)) b.1 x1.2).2 = (rd (.pair (.int .u64) (.int .u64)) b.2 x1.2).2))) then (
  some false)
  else (
  rec1 (x1.1,(IntKind.wrap .i64 (x1.2 + 1))))
  else none
  else none)
  else (
  some true)) (false,0))
theorem ev33 (b : List (Int×Int)×List (Int×Int)) : evF C32 H33 Tryz.f33 (encs [.one (.slice 74 (.pair (.int .u64) (.int .u64))),.one (.slice 74 (.pair (.int .u64) (.int .u64)))] b) (RT.dec (.one (.leaf (.bool)))) = F33 b := by kernel_rfl
noncomputable def C33 : Ctx := Ctx.add C32 33 [.one (.slice 74 (.pair (.int .u64) (.int .u64))),.one (.slice 74 (.pair (.int .u64) (.int .u64)))] (.one (.leaf (.bool))) F33
theorem s33 : C33.Sound := Ctx.Sound.add (C := C32) mixed s32 Tryz.func33 ev33
def H15 : Nat → Head := fun _ => ⟨[],[]⟩
noncomputable def F15 (b : (Int×(Int×(Int×(Int×(List (Int×(Int×Int))×(Int×(Int×(Int×(Int×(List (Int×Int)×List (Int×(Int×Int))))))))))))×(Int×(Int×(Int×(Int×(List (Int×(Int×Int))×(Int×(Int×(Int×(Int×(List (Int×Int)×List (Int×(Int×Int))))))))))))) : Option Bool :=
 bif ((bif (bif decide (b.1.1 = b.2.1) then decide (b.1.2.1 = b.2.2.1) else false) then decide (b.1.2.2.1 = b.2.2.2.1) else false) == true) then (
 (F32 ((b.1.2.2.2.1,(b.1.2.2.2.2.1,b.1.2.2.2.2.2.1)),(b.2.2.2.2.1,(b.2.2.2.2.2.1,b.2.2.2.2.2.2.1)))).bind fun r1 =>
 bif ((bif (bif (bif r1 then decide (b.1.2.2.2.2.2.2.1 = b.2.2.2.2.2.2.2.1) else false) then decide (b.1.2.2.2.2.2.2.2.1 = b.2.2.2.2.2.2.2.2.1) else false) then decide (b.1.2.2.2.2.2.2.2.2.1 = b.2.2.2.2.2.2.2.2.2.1) else false) == true) then (
 (F33 (b.1.2.2.2.2.2.2.2.2.2.1,b.2.2.2.2.2.2.2.2.2.2.1)).bind fun r2 =>
 bif (r2 == true) then (
 (F34 (b.1.2.2.2.2.2.2.2.2.2.2,b.2.2.2.2.2.2.2.2.2.2.2)).bind fun r3 =>
 some r3)
 else (
 some false))
 else (
 some false))
 else (
 some false)
theorem ev15 (b : (Int×(Int×(Int×(Int×(List (Int×(Int×Int))×(Int×(Int×(Int×(Int×(List (Int×Int)×List (Int×(Int×Int))))))))))))×(Int×(Int×(Int×(Int×(List (Int×(Int×Int))×(Int×(Int×(Int×(Int×(List (Int×Int)×List (Int×(Int×Int))))))))))))) : evF C33 H15 Tryz.f15 (encs [.agg (.pair (.int .u64) (.pair (.int .i64) (.pair (.int .u64) (.pair (.int .u64) (.pair (.slice 63 (.pair (.int .i64) (.pair (.int .u64) (.int .u64)))) (.pair (.int .i64) (.pair (.int .u64) (.pair (.int .u64) (.pair (.int .u64) (.pair (.slice 74 (.pair (.int .u64) (.int .u64))) (.slice 63 (.pair (.int .i64) (.pair (.int .u64) (.int .u64)))))))))))))),.agg (.pair (.int .u64) (.pair (.int .i64) (.pair (.int .u64) (.pair (.int .u64) (.pair (.slice 63 (.pair (.int .i64) (.pair (.int .u64) (.int .u64)))) (.pair (.int .i64) (.pair (.int .u64) (.pair (.int .u64) (.pair (.int .u64) (.pair (.slice 74 (.pair (.int .u64) (.int .u64))) (.slice 63 (.pair (.int .i64) (.pair (.int .u64) (.int .u64))))))))))))))] b) (RT.dec (.one (.leaf (.bool)))) = F15 b := by kernel_rfl
noncomputable def C15 : Ctx := Ctx.add C33 15 [.agg (.pair (.int .u64) (.pair (.int .i64) (.pair (.int .u64) (.pair (.int .u64) (.pair (.slice 63 (.pair (.int .i64) (.pair (.int .u64) (.int .u64)))) (.pair (.int .i64) (.pair (.int .u64) (.pair (.int .u64) (.pair (.int .u64) (.pair (.slice 74 (.pair (.int .u64) (.int .u64))) (.slice 63 (.pair (.int .i64) (.pair (.int .u64) (.int .u64)))))))))))))),.agg (.pair (.int .u64) (.pair (.int .i64) (.pair (.int .u64) (.pair (.int .u64) (.pair (.slice 63 (.pair (.int .i64) (.pair (.int .u64) (.int .u64)))) (.pair (.int .i64) (.pair (.int .u64) (.pair (.int .u64) (.pair (.int .u64) (.pair (.slice 74 (.pair (.int .u64) (.int .u64))) (.slice 63 (.pair (.int .i64) (.pair (.int .u64) (.int .u64))))))))))))))] (.one (.leaf (.bool))) F15
theorem s15 : C15.Sound := Ctx.Sound.add (C := C33) mixed s33 Tryz.func15 ev15
def H93 : Nat → Head
  | 2 => ⟨[.data 2 (.int .i64),.data 7 (.int .i64)],[]⟩
  | _ => ⟨[],[]⟩
noncomputable def F93 (b : List Int) : Option Int :=
 lfp (fun (rec1 : (Int×Int) → Option Int) (x1 : Int×Int) =>
  bif decide (x1.2 < (b.length : Int)) then (
  bif inb x1.2 b.length then
  bif decide (4611686018427387904 < (rd (.int .u64) b x1.2)) then (
  some 1)
  else (
  rec1 (x1.1,(IntKind.wrap .i64 (x1.2 + 1))))
  else none)
  else (
  some 0)) (0,0)
theorem ev93 (b : List Int) : evF C15 H93 Tryz.f93 (encs [.one (.slice 22 (.int .u64))] b) (RT.dec (.one (.leaf (.int .i64)))) = F93 b := by kernel_rfl
noncomputable def C93 : Ctx := Ctx.add C15 93 [.one (.slice 22 (.int .u64))] (.one (.leaf (.int .i64))) F93
theorem s93 : C93.Sound := Ctx.Sound.add (C := C15) mixed s15 Tryz.func93 ev93
def H75 : Nat → Head
  | 5 => ⟨[.data 2 (.int .u64),.data 3 (.int .i64),.data 4 (.int .u64),.data 12 (.int .i64)],[]⟩
  | _ => ⟨[],[]⟩
noncomputable def F75 (b : List Int) : Option (Int×Int) :=
 (F93 b).bind fun r1 =>
 bif (!decide (r1 = 0)) then (
 some (0,1))
 else (
 lfp (fun (rec2 : (Int×Int×Int×Int) → Option (Int×Int)) (x2 : Int×Int×Int×Int) =>
  bif decide (x2.2.2.2 < (b.length : Int)) then (
  bif inb x2.2.2.2 b.length then
  bif decide ((IntKind.wrap .u64 (4611686018427387904 - x2.2.2.1)) < (rd (.int .u64) b x2.2.2.2)) then (
  some (0,8))
  else (
  rec2 (x2.1,x2.2.1,(IntKind.wrap .u64 (x2.2.2.1 + (rd (.int .u64) b x2.2.2.2))),(IntKind.wrap .i64 (x2.2.2.2 + 1))))
  else none)
  else (
  some (x2.2.2.1,0))) (0,0,0,0))
theorem ev75 (b : List Int) : evF C93 H75 Tryz.f75 (encs [.one (.slice 22 (.int .u64))] b) (RT.dec (.tup [.leaf (.int .u64),.leaf (.int .i64)])) = F75 b := by kernel_rfl
noncomputable def C75 : Ctx := Ctx.add C93 75 [.one (.slice 22 (.int .u64))] (.tup [.leaf (.int .u64),.leaf (.int .i64)]) F75
theorem s75 : C75.Sound := Ctx.Sound.add (C := C93) mixed s93 Tryz.func75 ev75
def H31 : Nat → Head
  | 5 => ⟨[.data 2 (.int .u64),.data 3 (.int .i64),.row 4 18437 22 (.int .u64),.data 17 (.int .i64)],[]⟩
  | _ => ⟨[],[]⟩
noncomputable def F31 (b : List (Int×Int)) : Option (Int×Int) :=
 bif (bif decide ((b.length : Int) = 0) then true else decide (16 < (b.length : Int))) then (
 some (0,1))
 else (
 lfp (fun (rec1 : (Int×Int×List Int×Int) → Option (Int×Int)) (x1 : Int×Int×List Int×Int) =>
  bif decide (x1.2.2.2 < (b.length : Int)) then (
  bif inb x1.2.2.2 b.length then
  bif decide ((rd (.pair (.int .u64) (.int .u64)) b x1.2.2.2).2 = 0) then (
  some (0,1))
  else (
  bif decide ((x1.2.2.1.length + 1) * 8 ≤ LIM) then
  rec1 (x1.1,x1.2.1,(x1.2.2.1 ++ ([(rd (.pair (.int .u64) (.int .u64)) b x1.2.2.2).2])),(IntKind.wrap .i64 (x1.2.2.2 + 1)))
  else none)
  else none)
  else (
  (F75 x1.2.2.1).bind fun r2 =>
  some (r2.1,r2.2))) (0,0,([] : List Int),0))
theorem ev31 (b : List (Int×Int)) : evF C75 H31 Tryz.f31 (encs [.one (.slice 74 (.pair (.int .u64) (.int .u64)))] b) (RT.dec (.tup [.leaf (.int .u64),.leaf (.int .i64)])) = F31 b := by kernel_rfl
noncomputable def C31 : Ctx := Ctx.add C75 31 [.one (.slice 74 (.pair (.int .u64) (.int .u64)))] (.tup [.leaf (.int .u64),.leaf (.int .i64)]) F31
theorem s31 : C31.Sound := Ctx.Sound.add (C := C75) mixed s75 Tryz.func31 ev31
def H79 : Nat → Head := fun _ => ⟨[],[]⟩
noncomputable def F79 (b : (Int×(Int×Int))) : Option Int :=
 bif ((bif decide (b.1 < 1) then true else decide (5 < b.1)) == false) then (
 bif ((bif decide (b.1 = 2) then decide (65535 < b.2.1) else false) == false) then (
 bif ((bif (bif decide (b.1 = 3) then true else decide (b.1 = 4)) then decide (4611686018427387904 < b.2.1) else false) == false) then (
 bif (bif (!decide (b.1 = 4)) then (!decide (b.2.2 = 0)) else false) then (
 some 1)
 else (
 some 0))
 else (
 some 1))
 else (
 some 1))
 else (
 some 1)
theorem ev79 (b : (Int×(Int×Int))) : evF C31 H79 Tryz.f79 (encs [.agg (.pair (.int .i64) (.pair (.int .u64) (.int .u64)))] b) (RT.dec (.one (.leaf (.int .i64)))) = F79 b := by kernel_rfl
noncomputable def C79 : Ctx := Ctx.add C31 79 [.agg (.pair (.int .i64) (.pair (.int .u64) (.int .u64)))] (.one (.leaf (.int .i64))) F79
theorem s79 : C79.Sound := Ctx.Sound.add (C := C31) mixed s31 Tryz.func79 ev79
def H43 : Nat → Head
  | 2 => ⟨[.data 2 .bool,.data 7 (.int .i64)],[]⟩
  | _ => ⟨[],[]⟩
noncomputable def F43 (b : List (Int×(Int×Int))) : Option Bool :=
 lfp (fun (rec1 : (Bool×Int) → Option Bool) (x1 : Bool×Int) =>
  bif decide (x1.2 < (b.length : Int)) then (
  bif inb x1.2 b.length then
  (F79 ((rd (.pair (.int .i64) (.pair (.int .u64) (.int .u64))) b x1.2).1,(((rd (.pair (.int .i64) (.pair (.int .u64) (.int .u64))) b x1.2).2).1,((rd (.pair (.int .i64) (.pair (.int .u64) (.int .u64))) b x1.2).2).2))).bind fun r2 =>
  bif (!decide (r2 = 0)) then (
  some false)
  else (
  rec1 (x1.1,(IntKind.wrap .i64 (x1.2 + 1))))
  else none)
  else (
  some (decide ((b.length : Int) ≤ 16)))) (false,0)
theorem ev43 (b : List (Int×(Int×Int))) : evF C79 H43 Tryz.f43 (encs [.one (.slice 63 (.pair (.int .i64) (.pair (.int .u64) (.int .u64))))] b) (RT.dec (.one (.leaf (.bool)))) = F43 b := by kernel_rfl
noncomputable def C43 : Ctx := Ctx.add C79 43 [.one (.slice 63 (.pair (.int .i64) (.pair (.int .u64) (.int .u64))))] (.one (.leaf (.bool))) F43
theorem s43 : C43.Sound := Ctx.Sound.add (C := C79) mixed s79 Tryz.func43 ev43
def H41 : Nat → Head := fun _ => ⟨[],[]⟩
noncomputable def F41 (b : (Int×(List (Int×(Int×Int))×Int))) : Option Int :=
 (F43 b.2.1).bind fun r1 =>
 bif (bif (bif (!r1) then true else decide (b.2.2 < 0)) then true else decide (1048576 < b.2.2)) then (
 some 1)
 else (
 some 0)
theorem ev41 (b : (Int×(List (Int×(Int×Int))×Int))) : evF C43 H41 Tryz.f41 (encs [.agg (.pair (.int .u64) (.pair (.slice 63 (.pair (.int .i64) (.pair (.int .u64) (.int .u64)))) (.int .i64)))] b) (RT.dec (.one (.leaf (.int .i64)))) = F41 b := by kernel_rfl
noncomputable def C41 : Ctx := Ctx.add C43 41 [.agg (.pair (.int .u64) (.pair (.slice 63 (.pair (.int .i64) (.pair (.int .u64) (.int .u64)))) (.int .i64)))] (.one (.leaf (.int .i64))) F41
theorem s41 : C41.Sound := Ctx.Sound.add (C := C43) mixed s43 Tryz.func41 ev41
def H42 : Nat → Head := fun _ => ⟨[],[]⟩
noncomputable def F42 (b : (Int×(Int×(Int×(Int×(List (Int×(Int×Int))×(Int×(Int×(Int×(Int×(List (Int×Int)×List (Int×(Int×Int))))))))))))) : Option (Int×Int×Int×Int×(List (Int×(Int×Int)))×Int×Int×Int×Int×(List (Int×Int))×(List (Int×(Int×Int)))) :=
 bif (bif decide (1 ≤ b.2.1) then decide (b.2.1 ≤ 4) else false) then (
 bif (bif (bif (bif (bif (bif decide (b.2.1 = 1) then true else decide (b.2.1 = 3)) then true else decide (b.2.1 = 4)) then true else decide (b.2.1 = 5)) then true else decide (b.2.1 = 6)) then true else decide (b.2.1 = 8)) then (
 bif (bif (bif (bif decide (b.2.1 = 1) then true else decide (b.2.1 = 3)) then true else decide (b.2.1 = 8)) then true else decide (b.2.1 = 9)) then (
 bif decide (b.2.1 = 2) then (
 bif decide (b.2.1 = 3) then (
 bif decide (b.2.1 = 10) then (
 some (b.1,b.2.1,b.2.2.1,b.2.2.2.1,b.2.2.2.2.1,b.2.2.2.2.2.1,b.2.2.2.2.2.2.1,b.2.2.2.2.2.2.2.1,b.2.2.2.2.2.2.2.2.1,b.2.2.2.2.2.2.2.2.2.1,b.2.2.2.2.2.2.2.2.2.2))
 else (
 some (b.1,b.2.1,b.2.2.1,b.2.2.2.1,b.2.2.2.2.1,b.2.2.2.2.2.1,b.2.2.2.2.2.2.1,b.2.2.2.2.2.2.2.1,b.2.2.2.2.2.2.2.2.1,b.2.2.2.2.2.2.2.2.2.1,([] : List (Int×(Int×Int))))))
 else (
 bif decide (b.2.1 = 10) then (
 some (b.1,b.2.1,b.2.2.1,b.2.2.2.1,b.2.2.2.2.1,b.2.2.2.2.2.1,b.2.2.2.2.2.2.1,b.2.2.2.2.2.2.2.1,0,b.2.2.2.2.2.2.2.2.2.1,b.2.2.2.2.2.2.2.2.2.2))
 else (
 some (b.1,b.2.1,b.2.2.1,b.2.2.2.1,b.2.2.2.2.1,b.2.2.2.2.2.1,b.2.2.2.2.2.2.1,b.2.2.2.2.2.2.2.1,0,b.2.2.2.2.2.2.2.2.2.1,([] : List (Int×(Int×Int)))))))
 else (
 bif decide (b.2.1 = 3) then (
 bif decide (b.2.1 = 10) then (
 some (b.1,b.2.1,b.2.2.1,b.2.2.2.1,b.2.2.2.2.1,b.2.2.2.2.2.1,b.2.2.2.2.2.2.1,b.2.2.2.2.2.2.2.1,b.2.2.2.2.2.2.2.2.1,([] : List (Int×Int)),b.2.2.2.2.2.2.2.2.2.2))
 else (
 some (b.1,b.2.1,b.2.2.1,b.2.2.2.1,b.2.2.2.2.1,b.2.2.2.2.2.1,b.2.2.2.2.2.2.1,b.2.2.2.2.2.2.2.1,b.2.2.2.2.2.2.2.2.1,([] : List (Int×Int)),([] : List (Int×(Int×Int))))))
 else (
 bif decide (b.2.1 = 10) then (
 some (b.1,b.2.1,b.2.2.1,b.2.2.2.1,b.2.2.2.2.1,b.2.2.2.2.2.1,b.2.2.2.2.2.2.1,b.2.2.2.2.2.2.2.1,0,([] : List (Int×Int)),b.2.2.2.2.2.2.2.2.2.2))
 else (
 some (b.1,b.2.1,b.2.2.1,b.2.2.2.1,b.2.2.2.2.1,b.2.2.2.2.2.1,b.2.2.2.2.2.2.1,b.2.2.2.2.2.2.2.1,0,([] : List (Int×Int)),([] : List (Int×(Int×Int))))))))
 else (
 bif decide (b.2.1 = 2) then (
 bif decide (b.2.1 = 3) then (
 bif decide (b.2.1 = 10) then (
 some (b.1,b.2.1,b.2.2.1,b.2.2.2.1,b.2.2.2.2.1,b.2.2.2.2.2.1,b.2.2.2.2.2.2.1,0,b.2.2.2.2.2.2.2.2.1,b.2.2.2.2.2.2.2.2.2.1,b.2.2.2.2.2.2.2.2.2.2))
 else (
 some (b.1,b.2.1,b.2.2.1,b.2.2.2.1,b.2.2.2.2.1,b.2.2.2.2.2.1,b.2.2.2.2.2.2.1,0,b.2.2.2.2.2.2.2.2.1,b.2.2.2.2.2.2.2.2.2.1,([] : List (Int×(Int×Int))))))
 else (
 bif decide (b.2.1 = 10) then (
 some (b.1,b.2.1,b.2.2.1,b.2.2.2.1,b.2.2.2.2.1,b.2.2.2.2.2.1,b.2.2.2.2.2.2.1,0,0,b.2.2.2.2.2.2.2.2.2.1,b.2.2.2.2.2.2.2.2.2.2))
 else (
 some (b.1,b.2.1,b.2.2.1,b.2.2.2.1,b.2.2.2.2.1,b.2.2.2.2.2.1,b.2.2.2.2.2.2.1,0,0,b.2.2.2.2.2.2.2.2.2.1,([] : List (Int×(Int×Int)))))))
 else (
 bif decide (b.2.1 = 3) then (
 bif decide (b.2.1 = 10) then (
 some (b.1,b.2.1,b.2.2.1,b.2.2.2.1,b.2.2.2.2.1,b.2.2.2.2.2.1,b.2.2.2.2.2.2.1,0,b.2.2.2.2.2.2.2.2.1,([] : List (Int×Int)),b.2.2.2.2.2.2.2.2.2.2))
 else (
 some (b.1,b.2.1,b.2.2.1,b.2.2.2.1,b.2.2.2.2.1,b.2.2.2.2.2.1,b.2.2.2.2.2.2.1,0,b.2.2.2.2.2.2.2.2.1,([] : List (Int×Int)),([] : List (Int×(Int×Int))))))
 else (
 bif decide (b.2.1 = 10) then (
 some (b.1,b.2.1,b.2.2.1,b.2.2.2.1,b.2.2.2.2.1,b.2.2.2.2.2.1,b.2.2.2.2.2.2.1,0,0,([] : List (Int×Int)),b.2.2.2.2.2.2.2.2.2.2))
 else (
 some (b.1,b.2.1,b.2.2.1,b.2.2.2.1,b.2.2.2.2.1,b.2.2.2.2.2.1,b.2.2.2.2.2.2.1,0,0,([] : List (Int×Int)),([] : List (Int×(Int×Int)))))))))
 else (
 bif (bif (bif (bif decide (b.2.1 = 1) then true else decide (b.2.1 = 3)) then true else decide (b.2.1 = 8)) then true else decide (b.2.1 = 9)) then (
 bif decide (b.2.1 = 2) then (
 bif decide (b.2.1 = 3) then (
 bif decide (b.2.1 = 10) then (
 some (b.1,b.2.1,b.2.2.1,b.2.2.2.1,b.2.2.2.2.1,b.2.2.2.2.2.1,0,b.2.2.2.2.2.2.2.1,b.2.2.2.2.2.2.2.2.1,b.2.2.2.2.2.2.2.2.2.1,b.2.2.2.2.2.2.2.2.2.2))
 else (
 some (b.1,b.2.1,b.2.2.1,b.2.2.2.1,b.2.2.2.2.1,b.2.2.2.2.2.1,0,b.2.2.2.2.2.2.2.1,b.2.2.2.2.2.2.2.2.1,b.2.2.2.2.2.2.2.2.2.1,([] : List (Int×(Int×Int))))))
 else (
 bif decide (b.2.1 = 10) then (
 some (b.1,b.2.1,b.2.2.1,b.2.2.2.1,b.2.2.2.2.1,b.2.2.2.2.2.1,0,b.2.2.2.2.2.2.2.1,0,b.2.2.2.2.2.2.2.2.2.1,b.2.2.2.2.2.2.2.2.2.2))
 else (
 some (b.1,b.2.1,b.2.2.1,b.2.2.2.1,b.2.2.2.2.1,b.2.2.2.2.2.1,0,b.2.2.2.2.2.2.2.1,0,b.2.2.2.2.2.2.2.2.2.1,([] : List (Int×(Int×Int)))))))
 else (
 bif decide (b.2.1 = 3) then (
 bif decide (b.2.1 = 10) then (
 some (b.1,b.2.1,b.2.2.1,b.2.2.2.1,b.2.2.2.2.1,b.2.2.2.2.2.1,0,b.2.2.2.2.2.2.2.1,b.2.2.2.2.2.2.2.2.1,([] : List (Int×Int)),b.2.2.2.2.2.2.2.2.2.2))
 else (
 some (b.1,b.2.1,b.2.2.1,b.2.2.2.1,b.2.2.2.2.1,b.2.2.2.2.2.1,0,b.2.2.2.2.2.2.2.1,b.2.2.2.2.2.2.2.2.1,([] : List (Int×Int)),([] : List (Int×(Int×Int))))))
 else (
 bif decide (b.2.1 = 10) then (
 some (b.1,b.2.1,b.2.2.1,b.2.2.2.1,b.2.2.2.2.1,b.2.2.2.2.2.1,0,b.2.2.2.2.2.2.2.1,0,([] : List (Int×Int)),b.2.2.2.2.2.2.2.2.2.2))
 else (
 some (b.1,b.2.1,b.2.2.1,b.2.2.2.1,b.2.2.2.2.1,b.2.2.2.2.2.1,0,b.2.2.2.2.2.2.2.1,0,([] : List (Int×Int)),([] : List (Int×(Int×Int))))))))
 else (
 bif decide (b.2.1 = 2) then (
 bif decide (b.2.1 = 3) then (
 bif decide (b.2.1 = 10) then (
 some (b.1,b.2.1,b.2.2.1,b.2.2.2.1,b.2.2.2.2.1,b.2.2.2.2.2.1,0,0,b.2.2.2.2.2.2.2.2.1,b.2.2.2.2.2.2.2.2.2.1,b.2.2.2.2.2.2.2.2.2.2))
 else (
 some (b.1,b.2.1,b.2.2.1,b.2.2.2.1,b.2.2.2.2.1,b.2.2.2.2.2.1,0,0,b.2.2.2.2.2.2.2.2.1,b.2.2.2.2.2.2.2.2.2.1,([] : List (Int×(Int×Int))))))
 else (
 bif decide (b.2.1 = 10) then (
 some (b.1,b.2.1,b.2.2.1,b.2.2.2.1,b.2.2.2.2.1,b.2.2.2.2.2.1,0,0,0,b.2.2.2.2.2.2.2.2.2.1,b.2.2.2.2.2.2.2.2.2.2))
 else (
 some (b.1,b.2.1,b.2.2.1,b.2.2.2.1,b.2.2.2.2.1,b.2.2.2.2.2.1,0,0,0,b.2.2.2.2.2.2.2.2.2.1,([] : List (Int×(Int×Int)))))))
 else (
 bif decide (b.2.1 = 3) then (
 bif decide (b.2.1 = 10) then (
 some (b.1,b.2.1,b.2.2.1,b.2.2.2.1,b.2.2.2.2.1,b.2.2.2.2.2.1,0,0,b.2.2.2.2.2.2.2.2.1,([] : List (Int×Int)),b.2.2.2.2.2.2.2.2.2.2))
 else (
 some (b.1,b.2.1,b.2.2.1,b.2.2.2.1,b.2.2.2.2.1,b.2.2.2.2.2.1,0,0,b.2.2.2.2.2.2.2.2.1,([] : List (Int×Int)),([] : List (Int×(Int×Int))))))
 else (
 bif decide (b.2.1 = 10) then (
 some (b.1,b.2.1,b.2.2.1,b.2.2.2.1,b.2.2.2.2.1,b.2.2.2.2.2.1,0,0,0,([] : List (Int×Int)),b.2.2.2.2.2.2.2.2.2.2))
 else (
 some (b.1,b.2.1,b.2.2.1,b.2.2.2.1,b.2.2.2.2.1,b.2.2.2.2.2.1,0,0,0,([] : List (Int×Int)),([] : List (Int×(Int×Int))))))))))
 else (
 bif (bif (bif (bif (bif (bif decide (b.2.1 = 1) then true else decide (b.2.1 = 3)) then true else decide (b.2.1 = 4)) then true else decide (b.2.1 = 5)) then true else decide (b.2.1 = 6)) then true else decide (b.2.1 = 8)) then (
 bif (bif (bif (bif decide (b.2.1 = 1) then true else decide (b.2.1 = 3)) then true else decide (b.2.1 = 8)) then true else decide (b.2.1 = 9)) then (
 bif decide (b.2.1 = 2) then (
 bif decide (b.2.1 = 3) then (
 bif decide (b.2.1 = 10) then (
 some (b.1,b.2.1,0,b.2.2.2.1,b.2.2.2.2.1,b.2.2.2.2.2.1,b.2.2.2.2.2.2.1,b.2.2.2.2.2.2.2.1,b.2.2.2.2.2.2.2.2.1,b.2.2.2.2.2.2.2.2.2.1,b.2.2.2.2.2.2.2.2.2.2))
 else (
 some (b.1,b.2.1,0,b.2.2.2.1,b.2.2.2.2.1,b.2.2.2.2.2.1,b.2.2.2.2.2.2.1,b.2.2.2.2.2.2.2.1,b.2.2.2.2.2.2.2.2.1,b.2.2.2.2.2.2.2.2.2.1,([] : List (Int×(Int×Int))))))
 else (
 bif decide (b.2.1 = 10) then (
 some (b.1,b.2.1,0,b.2.2.2.1,b.2.2.2.2.1,b.2.2.2.2.2.1,b.2.2.2.2.2.2.1,b.2.2.2.2.2.2.2.1,0,b.2.2.2.2.2.2.2.2.2.1,b.2.2.2.2.2.2.2.2.2.2))
 else (
 some (b.1,b.2.1,0,b.2.2.2.1,b.2.2.2.2.1,b.2.2.2.2.2.1,b.2.2.2.2.2.2.1,b.2.2.2.2.2.2.2.1,0,b.2.2.2.2.2.2.2.2.2.1,([] : List (Int×(Int×Int)))))))
 else (
 bif decide (b.2.1 = 3) then (
 bif decide (b.2.1 = 10) then (
 some (b.1,b.2.1,0,b.2.2.2.1,b.2.2.2.2.1,b.2.2.2.2.2.1,b.2.2.2.2.2.2.1,b.2.2.2.2.2.2.2.1,b.2.2.2.2.2.2.2.2.1,([] : List (Int×Int)),b.2.2.2.2.2.2.2.2.2.2))
 else (
 some (b.1,b.2.1,0,b.2.2.2.1,b.2.2.2.2.1,b.2.2.2.2.2.1,b.2.2.2.2.2.2.1,b.2.2.2.2.2.2.2.1,b.2.2.2.2.2.2.2.2.1,([] : List (Int×Int)),([] : List (Int×(Int×Int))))))
 else (
 bif decide (b.2.1 = 10) then (
 some (b.1,b.2.1,0,b.2.2.2.1,b.2.2.2.2.1,b.2.2.2.2.2.1,b.2.2.2.2.2.2.1,b.2.2.2.2.2.2.2.1,0,([] : List (Int×Int)),b.2.2.2.2.2.2.2.2.2.2))
 else (
 some (b.1,b.2.1,0,b.2.2.2.1,b.2.2.2.2.1,b.2.2.2.2.2.1,b.2.2.2.2.2.2.1,b.2.2.2.2.2.2.2.1,0,([] : List (Int×Int)),([] : List (Int×(Int×Int))))))))
 else (
 bif decide (b.2.1 = 2) then (
 bif decide (b.2.1 = 3) then (
 bif decide (b.2.1 = 10) then (
 some (b.1,b.2.1,0,b.2.2.2.1,b.2.2.2.2.1,b.2.2.2.2.2.1,b.2.2.2.2.2.2.1,0,b.2.2.2.2.2.2.2.2.1,b.2.2.2.2.2.2.2.2.2.1,b.2.2.2.2.2.2.2.2.2.2))
 else (
 some (b.1,b.2.1,0,b.2.2.2.1,b.2.2.2.2.1,b.2.2.2.2.2.1,b.2.2.2.2.2.2.1,0,b.2.2.2.2.2.2.2.2.1,b.2.2.2.2.2.2.2.2.2.1,([] : List (Int×(Int×Int))))))
 else (
 bif decide (b.2.1 = 10) then (
 some (b.1,b.2.1,0,b.2.2.2.1,b.2.2.2.2.1,b.2.2.2.2.2.1,b.2.2.2.2.2.2.1,0,0,b.2.2.2.2.2.2.2.2.2.1,b.2.2.2.2.2.2.2.2.2.2))
 else (
 some (b.1,b.2.1,0,b.2.2.2.1,b.2.2.2.2.1,b.2.2.2.2.2.1,b.2.2.2.2.2.2.1,0,0,b.2.2.2.2.2.2.2.2.2.1,([] : List (Int×(Int×Int)))))))
 else (
 bif decide (b.2.1 = 3) then (
 bif decide (b.2.1 = 10) then (
 some (b.1,b.2.1,0,b.2.2.2.1,b.2.2.2.2.1,b.2.2.2.2.2.1,b.2.2.2.2.2.2.1,0,b.2.2.2.2.2.2.2.2.1,([] : List (Int×Int)),b.2.2.2.2.2.2.2.2.2.2))
 else (
 some (b.1,b.2.1,0,b.2.2.2.1,b.2.2.2.2.1,b.2.2.2.2.2.1,b.2.2.2.2.2.2.1,0,b.2.2.2.2.2.2.2.2.1,([] : List (Int×Int)),([] : List (Int×(Int×Int))))))
 else (
 bif decide (b.2.1 = 10) then (
 some (b.1,b.2.1,0,b.2.2.2.1,b.2.2.2.2.1,b.2.2.2.2.2.1,b.2.2.2.2.2.2.1,0,0,([] : List (Int×Int)),b.2.2.2.2.2.2.2.2.2.2))
 else (
 some (b.1,b.2.1,0,b.2.2.2.1,b.2.2.2.2.1,b.2.2.2.2.2.1,b.2.2.2.2.2.2.1,0,0,([] : List (Int×Int)),([] : List (Int×(Int×Int)))))))))
 else (
 bif (bif (bif (bif decide (b.2.1 = 1) then true else decide (b.2.1 = 3)) then true else decide (b.2.1 = 8)) then true else decide (b.2.1 = 9)) then (
 bif decide (b.2.1 = 2) then (
 bif decide (b.2.1 = 3) then (
 bif decide (b.2.1 = 10) then (
 some (b.1,b.2.1,0,b.2.2.2.1,b.2.2.2.2.1,b.2.2.2.2.2.1,0,b.2.2.2.2.2.2.2.1,b.2.2.2.2.2.2.2.2.1,b.2.2.2.2.2.2.2.2.2.1,b.2.2.2.2.2.2.2.2.2.2))
 else (
 some (b.1,b.2.1,0,b.2.2.2.1,b.2.2.2.2.1,b.2.2.2.2.2.1,0,b.2.2.2.2.2.2.2.1,b.2.2.2.2.2.2.2.2.1,b.2.2.2.2.2.2.2.2.2.1,([] : List (Int×(Int×Int))))))
 else (
 bif decide (b.2.1 = 10) then (
 some (b.1,b.2.1,0,b.2.2.2.1,b.2.2.2.2.1,b.2.2.2.2.2.1,0,b.2.2.2.2.2.2.2.1,0,b.2.2.2.2.2.2.2.2.2.1,b.2.2.2.2.2.2.2.2.2.2))
 else (
 some (b.1,b.2.1,0,b.2.2.2.1,b.2.2.2.2.1,b.2.2.2.2.2.1,0,b.2.2.2.2.2.2.2.1,0,b.2.2.2.2.2.2.2.2.2.1,([] : List (Int×(Int×Int)))))))
 else (
 bif decide (b.2.1 = 3) then (
 bif decide (b.2.1 = 10) then (
 some (b.1,b.2.1,0,b.2.2.2.1,b.2.2.2.2.1,b.2.2.2.2.2.1,0,b.2.2.2.2.2.2.2.1,b.2.2.2.2.2.2.2.2.1,([] : List (Int×Int)),b.2.2.2.2.2.2.2.2.2.2))
 else (
 some (b.1,b.2.1,0,b.2.2.2.1,b.2.2.2.2.1,b.2.2.2.2.2.1,0,b.2.2.2.2.2.2.2.1,b.2.2.2.2.2.2.2.2.1,([] : List (Int×Int)),([] : List (Int×(Int×Int))))))
 else (
 bif decide (b.2.1 = 10) then (
 some (b.1,b.2.1,0,b.2.2.2.1,b.2.2.2.2.1,b.2.2.2.2.2.1,0,b.2.2.2.2.2.2.2.1,0,([] : List (Int×Int)),b.2.2.2.2.2.2.2.2.2.2))
 else (
 some (b.1,b.2.1,0,b.2.2.2.1,b.2.2.2.2.1,b.2.2.2.2.2.1,0,b.2.2.2.2.2.2.2.1,0,([] : List (Int×Int)),([] : List (Int×(Int×Int))))))))
 else (
 bif decide (b.2.1 = 2) then (
 bif decide (b.2.1 = 3) then (
 bif decide (b.2.1 = 10) then (
 some (b.1,b.2.1,0,b.2.2.2.1,b.2.2.2.2.1,b.2.2.2.2.2.1,0,0,b.2.2.2.2.2.2.2.2.1,b.2.2.2.2.2.2.2.2.2.1,b.2.2.2.2.2.2.2.2.2.2))
 else (
 some (b.1,b.2.1,0,b.2.2.2.1,b.2.2.2.2.1,b.2.2.2.2.2.1,0,0,b.2.2.2.2.2.2.2.2.1,b.2.2.2.2.2.2.2.2.2.1,([] : List (Int×(Int×Int))))))
 else (
 bif decide (b.2.1 = 10) then (
 some (b.1,b.2.1,0,b.2.2.2.1,b.2.2.2.2.1,b.2.2.2.2.2.1,0,0,0,b.2.2.2.2.2.2.2.2.2.1,b.2.2.2.2.2.2.2.2.2.2))
 else (
 some (b.1,b.2.1,0,b.2.2.2.1,b.2.2.2.2.1,b.2.2.2.2.2.1,0,0,0,b.2.2.2.2.2.2.2.2.2.1,([] : List (Int×(Int×Int)))))))
 else (
 bif decide (b.2.1 = 3) then (
 bif decide (b.2.1 = 10) then (
 some (b.1,b.2.1,0,b.2.2.2.1,b.2.2.2.2.1,b.2.2.2.2.2.1,0,0,b.2.2.2.2.2.2.2.2.1,([] : List (Int×Int)),b.2.2.2.2.2.2.2.2.2.2))
 else (
 some (b.1,b.2.1,0,b.2.2.2.1,b.2.2.2.2.1,b.2.2.2.2.2.1,0,0,b.2.2.2.2.2.2.2.2.1,([] : List (Int×Int)),([] : List (Int×(Int×Int))))))
 else (
 bif decide (b.2.1 = 10) then (
 some (b.1,b.2.1,0,b.2.2.2.1,b.2.2.2.2.1,b.2.2.2.2.2.1,0,0,0,([] : List (Int×Int)),b.2.2.2.2.2.2.2.2.2.2))
 else (
 some (b.1,b.2.1,0,b.2.2.2.1,b.2.2.2.2.1,b.2.2.2.2.2.1,0,0,0,([] : List (Int×Int)),([] : List (Int×(Int×Int))))))))))
theorem ev42 (b : (Int×(Int×(Int×(Int×(List (Int×(Int×Int))×(Int×(Int×(Int×(Int×(List (Int×Int)×List (Int×(Int×Int))))))))))))) : evF C41 H42 Tryz.f42 (encs [.agg (.pair (.int .u64) (.pair (.int .i64) (.pair (.int .u64) (.pair (.int .u64) (.pair (.slice 63 (.pair (.int .i64) (.pair (.int .u64) (.int .u64)))) (.pair (.int .i64) (.pair (.int .u64) (.pair (.int .u64) (.pair (.int .u64) (.pair (.slice 74 (.pair (.int .u64) (.int .u64))) (.slice 63 (.pair (.int .i64) (.pair (.int .u64) (.int .u64))))))))))))))] b) (RT.dec (.one (.agg [.int .u64,.int .i64,.int .u64,.int .u64,.sl 63 (.pair (.int .i64) (.pair (.int .u64) (.int .u64))),.int .i64,.int .u64,.int .u64,.int .u64,.sl 74 (.pair (.int .u64) (.int .u64)),.sl 63 (.pair (.int .i64) (.pair (.int .u64) (.int .u64)))]))) = F42 b := by kernel_rfl
noncomputable def C42 : Ctx := Ctx.add C41 42 [.agg (.pair (.int .u64) (.pair (.int .i64) (.pair (.int .u64) (.pair (.int .u64) (.pair (.slice 63 (.pair (.int .i64) (.pair (.int .u64) (.int .u64)))) (.pair (.int .i64) (.pair (.int .u64) (.pair (.int .u64) (.pair (.int .u64) (.pair (.slice 74 (.pair (.int .u64) (.int .u64))) (.slice 63 (.pair (.int .i64) (.pair (.int .u64) (.int .u64))))))))))))))] (.one (.agg [.int .u64,.int .i64,.int .u64,.int .u64,.sl 63 (.pair (.int .i64) (.pair (.int .u64) (.int .u64))),.int .i64,.int .u64,.int .u64,.int .u64,.sl 74 (.pair (.int .u64) (.int .u64)),.sl 63 (.pair (.int .i64) (.pair (.int .u64) (.int .u64)))])) F42
theorem s42 : C42.Sound := Ctx.Sound.add (C := C41) mixed s41 Tryz.func42 ev42
def H17 : Nat → Head
  | 5000001 => ⟨[],[0,0,1,1,2,2,4,4,8,8,24,24,40,40,72,72,136,128,256,256,768,768,1280,1280,2304,2304,4352,4352,10240,8192,16384,16384,16384,16384,81920,81920,180224,180224,278528,278528,540672,540672]⟩
  | _ => ⟨[],[]⟩
noncomputable def F17 (b : (Int×(Int×(Int×(Int×(List (Int×(Int×Int))×(Int×(Int×(Int×(Int×(List (Int×Int)×List (Int×(Int×Int))))))))))))) : Option Int :=
 bif ((bif decide (b.2.1 < 1) then true else decide (10 < b.2.1)) == false) then (
 (F41 (b.2.2.2.1,(b.2.2.2.2.1,b.2.2.2.2.2.1))).bind fun r1 =>
 (fun o => both o (both o o)) (
 bif ((!decide (r1 = 0)) == false) then (
 (F42 (b.1,(b.2.1,(b.2.2.1,(b.2.2.2.1,(b.2.2.2.2.1,(b.2.2.2.2.2.1,(b.2.2.2.2.2.2.1,(b.2.2.2.2.2.2.2.1,(b.2.2.2.2.2.2.2.2.1,(b.2.2.2.2.2.2.2.2.2.1,b.2.2.2.2.2.2.2.2.2.2))))))))))).bind fun r2 =>
 (F15 ((b.1,(b.2.1,(b.2.2.1,(b.2.2.2.1,(b.2.2.2.2.1,(b.2.2.2.2.2.1,(b.2.2.2.2.2.2.1,(b.2.2.2.2.2.2.2.1,(b.2.2.2.2.2.2.2.2.1,(b.2.2.2.2.2.2.2.2.2.1,b.2.2.2.2.2.2.2.2.2.2)))))))))),(r2.1,(r2.2.1,(r2.2.2.1,(r2.2.2.2.1,(r2.2.2.2.2.1,(r2.2.2.2.2.2.1,(r2.2.2.2.2.2.2.1,(r2.2.2.2.2.2.2.2.1,(r2.2.2.2.2.2.2.2.2.1,(r2.2.2.2.2.2.2.2.2.2.1,r2.2.2.2.2.2.2.2.2.2.2)))))))))))).bind fun r3 =>
 bif (!r3) then (
 some 1)
 else (
 bif ((bif decide (b.2.1 = 1) then true else decide (b.2.1 = 3)) == true) then (
 bif (bif decide (b.2.2.2.2.2.2.2.1 = 0) then true else decide (4611686018427387904 < b.2.2.2.2.2.2.2.1)) then (
 some 1)
 else (
 (F31 b.2.2.2.2.2.2.2.2.2.1).bind fun r4 =>
 bif (bif decide (b.2.1 = 2) then (!decide (r4.2 = 0)) else false) then (
 some 1)
 else (
 bif (decide (b.2.1 = 10) == true) then (
 bif (decide ((b.2.2.2.2.2.2.2.2.2.2.length : Int) = 0) == false) then (
 (F43 b.2.2.2.2.2.2.2.2.2.2).bind fun r5 =>
 bif (!r5) then (
 some 1)
 else (
 some 0))
 else (
 some 1))
 else (
 some 0))))
 else (
 (F31 b.2.2.2.2.2.2.2.2.2.1).bind fun r6 =>
 bif (bif decide (b.2.1 = 2) then (!decide (r6.2 = 0)) else false) then (
 some 1)
 else (
 bif (decide (b.2.1 = 10) == true) then (
 bif (decide ((b.2.2.2.2.2.2.2.2.2.2.length : Int) = 0) == false) then (
 (F43 b.2.2.2.2.2.2.2.2.2.2).bind fun r7 =>
 bif (!r7) then (
 some 1)
 else (
 some 0))
 else (
 some 1))
 else (
 some 0)))))
 else (
 some 1)))
 else (
 (fun o => both o (both o o)) (
 some 1))
theorem ev17 (b : (Int×(Int×(Int×(Int×(List (Int×(Int×Int))×(Int×(Int×(Int×(Int×(List (Int×Int)×List (Int×(Int×Int))))))))))))) : evF C42 H17 Tryz.f17 (encs [.agg (.pair (.int .u64) (.pair (.int .i64) (.pair (.int .u64) (.pair (.int .u64) (.pair (.slice 63 (.pair (.int .i64) (.pair (.int .u64) (.int .u64)))) (.pair (.int .i64) (.pair (.int .u64) (.pair (.int .u64) (.pair (.int .u64) (.pair (.slice 74 (.pair (.int .u64) (.int .u64))) (.slice 63 (.pair (.int .i64) (.pair (.int .u64) (.int .u64))))))))))))))] b) (RT.dec (.one (.leaf (.int .i64)))) = F17 b := by kernel_rfl
noncomputable def C17 : Ctx := Ctx.add C42 17 [.agg (.pair (.int .u64) (.pair (.int .i64) (.pair (.int .u64) (.pair (.int .u64) (.pair (.slice 63 (.pair (.int .i64) (.pair (.int .u64) (.int .u64)))) (.pair (.int .i64) (.pair (.int .u64) (.pair (.int .u64) (.pair (.int .u64) (.pair (.slice 74 (.pair (.int .u64) (.int .u64))) (.slice 63 (.pair (.int .i64) (.pair (.int .u64) (.int .u64))))))))))))))] (.one (.leaf (.int .i64))) F17
theorem s17 : C17.Sound := Ctx.Sound.add (C := C42) mixed s42 Tryz.func17 ev17
def H54 : Nat → Head
  | 4 => ⟨[.data 2 (.int .i64),.data 10 (.int .i64)],[]⟩
  | 5000006 => ⟨[],[0,0,1,1,2,2,4,4,8,8,16,16,48,48,80,80,128,128,128,128,640,640,1408,1408,2176,2176,4224,4224,128,128,16512,16512,41088,41088,65680,65680,131088,131088]⟩
  | _ => ⟨[],[]⟩
noncomputable def F54 (b : List (Int×List Int)) : Option Int :=
 bif decide (64 < (b.length : Int)) then (
 some 1)
 else (
 lfp (fun (rec1 : (Int×Int) → Option Int) (x1 : Int×Int) =>
  bif decide (x1.2 < (b.length : Int)) then (
  bif inb x1.2 b.length then
  bif (decide (4096 < (((rd (.pair (.int .u64) (.slice 5 (.int .u8))) b x1.2).2).length : Int)) == false) then (
  bif (decide (0 < x1.2) == true) then (
  bif inb (IntKind.wrap .i64 (x1.2 - 1)) b.length then
  bif decide ((rd (.pair (.int .u64) (.slice 5 (.int .u8))) b x1.2).1 ≤ (rd (.pair (.int .u64) (.slice 5 (.int .u8))) b (IntKind.wrap .i64 (x1.2 - 1))).1) then (
  some 1)
  else (
  rec1 (x1.1,(IntKind.wrap .i64 (x1.2 + 1))))
  else none)
  else (
  (fun o => both (both o o) o) (
  rec1 (x1.1,(IntKind.wrap .i64 (x1.2 + 1))))))
  else (
  (fun o => both (both o o) o) (
  some 1))
  else none)
  else (
  some 0)) (0,0))
theorem ev54 (b : List (Int×List Int)) : evF C17 H54 Tryz.f54 (encs [.one (.slice 50 (.pair (.int .u64) (.slice 5 (.int .u8))))] b) (RT.dec (.one (.leaf (.int .i64)))) = F54 b := by kernel_rfl
noncomputable def C54 : Ctx := Ctx.add C17 54 [.one (.slice 50 (.pair (.int .u64) (.slice 5 (.int .u8))))] (.one (.leaf (.int .i64))) F54
theorem s54 : C54.Sound := Ctx.Sound.add (C := C17) mixed s17 Tryz.func54 ev54
def H104 : Nat → Head := fun _ => ⟨[],[]⟩
noncomputable def B104 (recF : (Int×Int) → Option (List Int)) (b : Int×Int) : Option (List Int) :=
 bif decide (b.2 = 0) then (
 some ([] : List Int))
 else (
 (recF ((IntKind.wrap .u64 (Int.tdiv b.1 256)),(IntKind.wrap .i64 (b.2 - 1)))).bind fun r1 =>
 bif decide ((r1.length + 1) * 1 ≤ LIM) then
 some (r1 ++ ([(IntKind.wrap .u8 (Int.tmod b.1 256))]))
 else none)
noncomputable def F104 : (Int×Int) → Option (List Int) := lfp B104
theorem ev104 (F : (Int×Int) → Option (List Int)) (b : Int×Int) : evF (Ctx.add C54 104 [.one (.int .u64),.one (.int .i64)] (.one (.leaf (.fresh 5 (.int .u8)))) F) H104 Tryz.f104 (encs [.one (.int .u64),.one (.int .i64)] b) (RT.dec (.one (.leaf (.fresh 5 (.int .u8))))) = B104 F b := by kernel_rfl
noncomputable def C104 : Ctx := Ctx.add C54 104 [.one (.int .u64),.one (.int .i64)] (.one (.leaf (.fresh 5 (.int .u8)))) F104
theorem s104 : C104.Sound := Ctx.Sound.fix (C := C54) mixed s54 Tryz.func104 ev104
def H85 : Nat → Head := fun _ => ⟨[],[]⟩
noncomputable def F85 (b : Int) : Option (List Int) :=
 bif decide (b < 253) then (
 some ([(IntKind.wrap .u8 b)]))
 else (
 bif decide (b < 65536) then (
 (F104 (b,2)).bind fun r1 =>
 bif decide ((([253]).length + r1.length) * 1 ≤ LIM) then
 some (([253]) ++ r1)
 else none)
 else (
 bif decide (b < 4294967296) then (
 (F104 (b,4)).bind fun r2 =>
 bif decide ((([254]).length + r2.length) * 1 ≤ LIM) then
 some (([254]) ++ r2)
 else none)
 else (
 (F104 (b,8)).bind fun r3 =>
 bif decide ((([255]).length + r3.length) * 1 ≤ LIM) then
 some (([255]) ++ r3)
 else none)))
theorem ev85 (b : Int) : evF C104 H85 Tryz.f85 (encs [.one (.int .u64)] b) (RT.dec (.one (.leaf (.fresh 5 (.int .u8))))) = F85 b := by kernel_rfl
noncomputable def C85 : Ctx := Ctx.add C104 85 [.one (.int .u64)] (.one (.leaf (.fresh 5 (.int .u8)))) F85
theorem s85 : C85.Sound := Ctx.Sound.add (C := C104) mixed s104 Tryz.func85 ev85
def H55 : Nat → Head
  | 3 => ⟨[.row 3 14339 5 (.int .u8),.data 8 (.int .i64)],[]⟩
  | _ => ⟨[],[]⟩
noncomputable def F55 (b : List Int) : Option (List Int) :=
 lfp (fun (rec1 : (List Int×Int) → Option (List Int)) (x1 : List Int×Int) =>
  bif decide (x1.2 < (b.length : Int)) then (
  bif inb x1.2 b.length then
  (F85 (rd (.int .u64) b x1.2)).bind fun r2 =>
  bif decide ((x1.1.length + r2.length) * 1 ≤ LIM) then
  rec1 ((x1.1 ++ r2),(IntKind.wrap .i64 (x1.2 + 1)))
  else none
  else none)
  else (
  some x1.1)) (([] : List Int),0)
theorem ev55 (b : List Int) : evF C85 H55 Tryz.f55 (encs [.oneA (.slice 22 (.int .u64))] b) (RT.dec (.one (.leaf (.fresh 5 (.int .u8))))) = F55 b := by kernel_rfl
noncomputable def C55 : Ctx := Ctx.addA C85 55 [.oneA (.slice 22 (.int .u64))] (.one (.leaf (.fresh 5 (.int .u8)))) F55
theorem s55 : C55.Sound := Ctx.Sound.addA (C := C85) mixed s85 Tryz.func55 ev55
def H21 : Nat → Head
  | 5 => ⟨[.row 4 18437 5 (.int .u8),.data 12 (.int .i64)],[]⟩
  | _ => ⟨[],[]⟩
noncomputable def F21 (b : List (Int×List Int)) : Option (List Int×Int) :=
 (F54 b).bind fun r1 =>
 bif (!decide (r1 = 0)) then (
 some (([] : List Int),1))
 else (
 lfp (fun (rec2 : (List Int×Int) → Option (List Int×Int)) (x2 : List Int×Int) =>
  bif decide (x2.2 < (b.length : Int)) then (
  bif inb x2.2 b.length then
  (F55 ([(rd (.pair (.int .u64) (.slice 5 (.int .u8))) b x2.2).1,(IntKind.wrap .u64 (((rd (.pair (.int .u64) (.slice 5 (.int .u8))) b x2.2).2).length : Int))])).bind fun r3 =>
  bif decide ((x2.1.length + r3.length) * 1 ≤ LIM) then
  bif decide (((x2.1 ++ r3).length + ((rd (.pair (.int .u64) (.slice 5 (.int .u8))) b x2.2).2).length) * 1 ≤ LIM) then
  rec2 (((x2.1 ++ r3) ++ ((rd (.pair (.int .u64) (.slice 5 (.int .u8))) b x2.2).2)),(IntKind.wrap .i64 (x2.2 + 1)))
  else none
  else none
  else none)
  else (
  bif decide (65535 < (x2.1.length : Int)) then (
  some (([] : List Int),4))
  else (
  some (x2.1,0)))) (([] : List Int),0))
theorem ev21 (b : List (Int×List Int)) : evF C55 H21 Tryz.f21 (encs [.oneA (.slice 50 (.pair (.int .u64) (.slice 5 (.int .u8))))] b) (RT.dec (.tup [.leaf (.fresh 5 (.int .u8)),.leaf (.int .i64)])) = F21 b := by kernel_rfl
noncomputable def C21 : Ctx := Ctx.addA C55 21 [.oneA (.slice 50 (.pair (.int .u64) (.slice 5 (.int .u8))))] (.tup [.leaf (.fresh 5 (.int .u8)),.leaf (.int .i64)]) F21
theorem s21 : C21.Sound := Ctx.Sound.addA (C := C55) mixed s55 Tryz.func21 ev21
def H57 : Nat → Head := fun _ => ⟨[],[]⟩
noncomputable def F57 (b : (Int×(Int×Int))) : Option (List Int×Int) :=
 (F79 (b.1,(b.2.1,b.2.2))).bind fun r1 =>
 bif (!decide (r1 = 0)) then (
 some (([] : List Int),1))
 else (
 bif decide (b.1 = 4) then (
 (F55 ([4,b.2.1,b.2.2])).bind fun r2 =>
 some (r2,0))
 else (
 (F55 ([(IntKind.wrap .u64 b.1),b.2.1])).bind fun r3 =>
 some (r3,0)))
theorem ev57 (b : (Int×(Int×Int))) : evF C21 H57 Tryz.f57 (encs [.agg (.pair (.int .i64) (.pair (.int .u64) (.int .u64)))] b) (RT.dec (.tup [.leaf (.fresh 5 (.int .u8)),.leaf (.int .i64)])) = F57 b := by kernel_rfl
noncomputable def C57 : Ctx := Ctx.add C21 57 [.agg (.pair (.int .i64) (.pair (.int .u64) (.int .u64)))] (.tup [.leaf (.fresh 5 (.int .u8)),.leaf (.int .i64)]) F57
theorem s57 : C57.Sound := Ctx.Sound.add (C := C21) mixed s21 Tryz.func57 ev57
def H56 : Nat → Head
  | 5 => ⟨[.row 4 18437 50 (.pair (.int .u64) (.slice 5 (.int .u8))),.data 27 (.int .i64)],[86016,81920,61440,57344,4096]⟩
  | 5000003 => ⟨[],[0,0,1,1,2,2,4,4,8,8,0,0,32,32,64,64,128,128,264,256,512,512,1040,1040,4095,2048]⟩
  | _ => ⟨[],[]⟩
noncomputable def F56 (b : (Int×(List (Int×(Int×Int))×Int))) : Option (List Int×Int) :=
 (F41 (b.1,(b.2.1,b.2.2))).bind fun r1 =>
 bif (!decide (r1 = 0)) then (
 some (([] : List Int),1))
 else (
 (fun o => both (both (both o (both o o)) (both (both o o) o)) (both (both (both o o) o) o)) (
 (F55 ([b.1])).bind fun r2 =>
 (F55 ([(IntKind.wrap .u64 b.2.2)])).bind fun r3 =>
 lfp (fun (rec4 : (List (Int×List Int)×Int) → Option (List Int×Int)) (x4 : List (Int×List Int)×Int) =>
  bif decide (x4.2 < (b.2.1.length : Int)) then (
  bif inb x4.2 b.2.1.length then
  (F57 ((rd (.pair (.int .i64) (.pair (.int .u64) (.int .u64))) b.2.1 x4.2).1,(((rd (.pair (.int .i64) (.pair (.int .u64) (.int .u64))) b.2.1 x4.2).2).1,((rd (.pair (.int .i64) (.pair (.int .u64) (.int .u64))) b.2.1 x4.2).2).2))).bind fun r5 =>
  bif decide ((x4.1.length + 1) * 32 ≤ LIM) then
  rec4 ((x4.1 ++ ([((IntKind.wrap .u64 (IntKind.wrap .i64 (16 + x4.2))),r5.1)])),(IntKind.wrap .i64 (x4.2 + 1)))
  else none
  else none)
  else (
  (F21 x4.1).bind fun r6 =>
  some (r6.1,r6.2))) (([(1,r2),(2,r3)]),0)))
theorem ev56 (b : (Int×(List (Int×(Int×Int))×Int))) : evF C57 H56 Tryz.f56 (encs [.aggA (.pair (.int .u64) (.pair (.slice 63 (.pair (.int .i64) (.pair (.int .u64) (.int .u64)))) (.int .i64)))] b) (RT.dec (.tup [.leaf (.fresh 5 (.int .u8)),.leaf (.int .i64)])) = F56 b := by kernel_rfl
noncomputable def C56 : Ctx := Ctx.addA C57 56 [.aggA (.pair (.int .u64) (.pair (.slice 63 (.pair (.int .i64) (.pair (.int .u64) (.int .u64)))) (.int .i64)))] (.tup [.leaf (.fresh 5 (.int .u8)),.leaf (.int .i64)]) F56
theorem s56 : C56.Sound := Ctx.Sound.addA (C := C57) mixed s57 Tryz.func56 ev56
def H22 : Nat → Head
  | 13 => ⟨[.row 5 22541 50 (.pair (.int .u64) (.slice 5 (.int .u8))),.data 82 (.int .i64)],[180224,110592,106496,86016,81920,61440,4096]⟩
  | 18 => ⟨[.row 5 22546 50 (.pair (.int .u64) (.slice 5 (.int .u8))),.data 104 (.int .i64)],[180224,110592,106496,86016,81920,61440,4096]⟩
  | 5000002 => ⟨[],[0,0,1,1,2,2,4,4,8,8,0,0,32,32,64,64,128,128,264,256,512,512,1040,1040,4095,2048]⟩
  | 8000005 => ⟨[.row 5 23557 50 (.pair (.int .u64) (.slice 5 (.int .u8)))],[1,118784]⟩
  | 8000008 => ⟨[.row 5 23560 50 (.pair (.int .u64) (.slice 5 (.int .u8)))],[1,184320]⟩
  | 8000010 => ⟨[.row 5 23562 50 (.pair (.int .u64) (.slice 5 (.int .u8)))],[1,23560]⟩
  | 8000012 => ⟨[.row 5 23564 50 (.pair (.int .u64) (.slice 5 (.int .u8)))],[1,23562]⟩
  | _ => ⟨[],[]⟩
noncomputable def F22 (b : (Int×(Int×(Int×(Int×(List (Int×(Int×Int))×(Int×(Int×(Int×(Int×(List (Int×Int)×List (Int×(Int×Int))))))))))))) : Option (List (Int×List Int)) :=
 (F56 (b.2.2.2.1,(b.2.2.2.2.1,b.2.2.2.2.2.1))).bind fun r1 =>
 (fun o => both (both (both o (both o o)) (both (both o o) o)) (both (both (both o o) o) o)) (
 (F55 ([b.1])).bind fun r2 =>
 (F55 ([(IntKind.wrap .u64 b.2.1)])).bind fun r3 =>
 joinK (fun (x4 : List (Int×List Int)) =>
  bif decide ((x4.length + 1) * 32 ≤ LIM) then
  joinK (fun (x5 : List (Int×List Int)) =>
   joinK (fun (x6 : List (Int×List Int)) =>
    joinK (fun (x7 : List (Int×List Int)) =>
     lfp (fun (rec8 : (List (Int×List Int)×Int) → Option (List (Int×List Int))) (x8 : List (Int×List Int)×Int) =>
      bif decide (x8.2 < (b.2.2.2.2.2.2.2.2.2.1.length : Int)) then (
      bif inb x8.2 b.2.2.2.2.2.2.2.2.2.1.length then
      (F55 ([(rd (.pair (.int .u64) (.int .u64)) b.2.2.2.2.2.2.2.2.2.1 x8.2).1,(rd (.pair (.int .u64) (.int .u64)) b.2.2.2.2.2.2.2.2.2.1 x8.2).2])).bind fun r9 =>
      bif decide ((x8.1.length + 1) * 32 ≤ LIM) then
      rec8 ((x8.1 ++ ([((IntKind.wrap .u64 (IntKind.wrap .i64 (32 + x8.2))),r9)])),(IntKind.wrap .i64 (x8.2 + 1)))
      else none
      else none)
      else (
      lfp (fun (rec10 : (List (Int×List Int)×Int) → Option (List (Int×List Int))) (x10 : List (Int×List Int)×Int) =>
       bif decide (x10.2 < (b.2.2.2.2.2.2.2.2.2.2.length : Int)) then (
       bif inb x10.2 b.2.2.2.2.2.2.2.2.2.2.length then
       (F57 ((rd (.pair (.int .i64) (.pair (.int .u64) (.int .u64))) b.2.2.2.2.2.2.2.2.2.2 x10.2).1,(((rd (.pair (.int .i64) (.pair (.int .u64) (.int .u64))) b.2.2.2.2.2.2.2.2.2.2 x10.2).2).1,((rd (.pair (.int .i64) (.pair (.int .u64) (.int .u64))) b.2.2.2.2.2.2.2.2.2.2 x10.2).2).2))).bind fun r11 =>
       bif decide ((x10.1.length + 1) * 32 ≤ LIM) then
       rec10 ((x10.1 ++ ([((IntKind.wrap .u64 (IntKind.wrap .i64 (48 + x10.2))),r11.1)])),(IntKind.wrap .i64 (x10.2 + 1)))
       else none
       else none)
       else (
       some x10.1)) (x8.1,0))) (x7,0)) (fun (J7 : List (Int×List Int) → Option (List (Int×List Int))) =>
     bif (!decide (b.2.2.2.2.2.2.2.2.1 = 0)) then (
     (F55 ([b.2.2.2.2.2.2.2.2.1])).bind fun r12 =>
     bif decide ((x6.length + 1) * 32 ≤ LIM) then
     J7 (x6 ++ ([(7,r12)]))
     else none)
     else (
     J7 x6))) (fun (J6 : List (Int×List Int) → Option (List (Int×List Int))) =>
    bif (!decide (b.2.2.2.2.2.2.2.1 = 0)) then (
    (F55 ([b.2.2.2.2.2.2.2.1])).bind fun r13 =>
    bif decide ((x5.length + 1) * 32 ≤ LIM) then
    J6 (x5 ++ ([(6,r13)]))
    else none)
    else (
    J6 x5))) (fun (J5 : List (Int×List Int) → Option (List (Int×List Int))) =>
   bif (!decide (b.2.2.2.2.2.2.1 = 0)) then (
   (F55 ([b.2.2.2.2.2.2.1])).bind fun r14 =>
   bif decide (((x4 ++ ([(4,r1.1)])).length + 1) * 32 ≤ LIM) then
   J5 ((x4 ++ ([(4,r1.1)])) ++ ([(5,r14)]))
   else none)
   else (
   J5 (x4 ++ ([(4,r1.1)]))))
  else none) (fun (J4 : List (Int×List Int) → Option (List (Int×List Int))) =>
  bif (!decide (b.2.2.1 = 0)) then (
  (F55 ([b.2.2.1])).bind fun r15 =>
  bif decide ((([(1,r2),(2,r3)]).length + 1) * 32 ≤ LIM) then
  J4 (([(1,r2),(2,r3)]) ++ ([(3,r15)]))
  else none)
  else (
  J4 ([(1,r2),(2,r3)]))))
theorem ev22 (b : (Int×(Int×(Int×(Int×(List (Int×(Int×Int))×(Int×(Int×(Int×(Int×(List (Int×Int)×List (Int×(Int×Int))))))))))))) : evF C56 H22 Tryz.f22 (encs [.aggA (.pair (.int .u64) (.pair (.int .i64) (.pair (.int .u64) (.pair (.int .u64) (.pair (.slice 63 (.pair (.int .i64) (.pair (.int .u64) (.int .u64)))) (.pair (.int .i64) (.pair (.int .u64) (.pair (.int .u64) (.pair (.int .u64) (.pair (.slice 74 (.pair (.int .u64) (.int .u64))) (.slice 63 (.pair (.int .i64) (.pair (.int .u64) (.int .u64))))))))))))))] b) (RT.dec (.one (.leaf (.fresh 50 (.pair (.int .u64) (.slice 5 (.int .u8))))))) = F22 b := by kernel_rfl
noncomputable def C22 : Ctx := Ctx.addA C56 22 [.aggA (.pair (.int .u64) (.pair (.int .i64) (.pair (.int .u64) (.pair (.int .u64) (.pair (.slice 63 (.pair (.int .i64) (.pair (.int .u64) (.int .u64)))) (.pair (.int .i64) (.pair (.int .u64) (.pair (.int .u64) (.pair (.int .u64) (.pair (.slice 74 (.pair (.int .u64) (.int .u64))) (.slice 63 (.pair (.int .i64) (.pair (.int .u64) (.int .u64))))))))))))))] (.one (.leaf (.fresh 50 (.pair (.int .u64) (.slice 5 (.int .u8)))))) F22
theorem s22 : C22.Sound := Ctx.Sound.addA (C := C56) mixed s56 Tryz.func22 ev22
def H7 : Nat → Head := fun _ => ⟨[],[]⟩
noncomputable def F7 (b : (Int×(Int×(Int×(Int×(List (Int×(Int×Int))×(Int×(Int×(Int×(Int×(List (Int×Int)×List (Int×(Int×Int))))))))))))) : Option (List Int×Int) :=
 (F17 (b.1,(b.2.1,(b.2.2.1,(b.2.2.2.1,(b.2.2.2.2.1,(b.2.2.2.2.2.1,(b.2.2.2.2.2.2.1,(b.2.2.2.2.2.2.2.1,(b.2.2.2.2.2.2.2.2.1,(b.2.2.2.2.2.2.2.2.2.1,b.2.2.2.2.2.2.2.2.2.2))))))))))).bind fun r1 =>
 bif (!decide (r1 = 0)) then (
 some (([] : List Int),1))
 else (
 (F22 (b.1,(b.2.1,(b.2.2.1,(b.2.2.2.1,(b.2.2.2.2.1,(b.2.2.2.2.2.1,(b.2.2.2.2.2.2.1,(b.2.2.2.2.2.2.2.1,(b.2.2.2.2.2.2.2.2.1,(b.2.2.2.2.2.2.2.2.2.1,b.2.2.2.2.2.2.2.2.2.2))))))))))).bind fun r2 =>
 (F21 r2).bind fun r3 =>
 bif (bif (!decide (r3.2 = 0)) then true else decide (4096 < (r3.1.length : Int))) then (
 some (([] : List Int),4))
 else (
 some (r3.1,0)))
theorem ev7 (b : (Int×(Int×(Int×(Int×(List (Int×(Int×Int))×(Int×(Int×(Int×(Int×(List (Int×Int)×List (Int×(Int×Int))))))))))))) : evF C22 H7 Tryz.f7 (encs [.aggA (.pair (.int .u64) (.pair (.int .i64) (.pair (.int .u64) (.pair (.int .u64) (.pair (.slice 63 (.pair (.int .i64) (.pair (.int .u64) (.int .u64)))) (.pair (.int .i64) (.pair (.int .u64) (.pair (.int .u64) (.pair (.int .u64) (.pair (.slice 74 (.pair (.int .u64) (.int .u64))) (.slice 63 (.pair (.int .i64) (.pair (.int .u64) (.int .u64))))))))))))))] b) (RT.dec (.tup [.leaf (.fresh 5 (.int .u8)),.leaf (.int .i64)])) = F7 b := by kernel_rfl
noncomputable def C7 : Ctx := Ctx.addA C22 7 [.aggA (.pair (.int .u64) (.pair (.int .i64) (.pair (.int .u64) (.pair (.int .u64) (.pair (.slice 63 (.pair (.int .i64) (.pair (.int .u64) (.int .u64)))) (.pair (.int .i64) (.pair (.int .u64) (.pair (.int .u64) (.pair (.int .u64) (.pair (.slice 74 (.pair (.int .u64) (.int .u64))) (.slice 63 (.pair (.int .i64) (.pair (.int .u64) (.int .u64))))))))))))))] (.tup [.leaf (.fresh 5 (.int .u8)),.leaf (.int .i64)]) F7
theorem s7 : C7.Sound := Ctx.Sound.addA (C := C22) mixed s22 Tryz.func7 ev7
def H86 : Nat → Head
  | 7 => ⟨[.data 2 (.int .u64),.data 35 (.int .i64)],[]⟩
  | 5000011 => ⟨[],[0,0,1,1,0,0,4,4,8,8,18,18]⟩
  | _ => ⟨[],[]⟩
noncomputable def F86 (b : List Int) : Option (Int×Int×Int) :=
 bif (decide ((b.length : Int) = 0) == false) then (
 bif inb 0 b.length then
 (F82 (rd (.int .u8) b 0)).bind fun r1 =>
 bif decide ((b.length : Int) ≤ r1) then (
 some (0,0,3))
 else (
 bif inb 0 b.length then
 (F82 (rd (.int .u8) b 0)).bind fun r2 =>
 bif decide (r2 = 0) then (
 bif inb 0 b.length then
 some ((IntKind.wrap .u64 (rd (.int .u8) b 0)),1,0)
 else none)
 else (
 bif (inb (IntKind.wrap .i64 (r2 + 1)) (b.length + 1) && (decide (0 ≤ 1) && decide (1 ≤ (IntKind.wrap .i64 (r2 + 1))))) then
 lfp (fun (rec3 : (Int×Int) → Option (Int×Int×Int)) (x3 : Int×Int) =>
  bif decide (x3.2 < (((b.take ((IntKind.wrap .i64 (r2 + 1)).toNat)).drop ((1 : Int).toNat)).length : Int)) then (
  bif inb x3.2 ((b.take ((IntKind.wrap .i64 (r2 + 1)).toNat)).drop ((1 : Int).toNat)).length then
  rec3 ((bitOp .or .u64 (IntKind.wrap .u64 (x3.1 * 2 ^ (min (8 : Int).toNat 64))) (IntKind.wrap .u64 (rd (.int .u8) ((b.take ((IntKind.wrap .i64 (r2 + 1)).toNat)).drop ((1 : Int).toNat)) x3.2))),(IntKind.wrap .i64 (x3.2 + 1)))
  else none)
  else (
  bif inb 0 b.length then
  (F81 x3.1).bind fun r4 =>
  bif (!decide (r4 = (rd (.int .u8) b 0))) then (
  some (0,0,2))
  else (
  some (x3.1,(IntKind.wrap .i64 (r2 + 1)),0))
  else none)) (0,0)
 else none)
 else none)
 else none)
 else (
 some (0,0,3))
theorem ev86 (b : List Int) : evF C7 H86 Tryz.f86 (encs [.one (.slice 5 (.int .u8))] b) (RT.dec (.tup [.leaf (.int .u64),.leaf (.int .i64),.leaf (.int .i64)])) = F86 b := by kernel_rfl
noncomputable def C86 : Ctx := Ctx.add C7 86 [.one (.slice 5 (.int .u8))] (.tup [.leaf (.int .u64),.leaf (.int .i64),.leaf (.int .i64)]) F86
theorem s86 : C86.Sound := Ctx.Sound.add (C := C7) mixed s7 Tryz.func86 ev86
def H61 : Nat → Head := fun _ => ⟨[],[]⟩
noncomputable def F61 (b : List Int) : Option (List Int) :=
 bif b.isEmpty then (
 (both (
 some ([] : List Int)) (
 bif decide ((([] : List Int).length + b.length) * 1 ≤ LIM) then
 some (([] : List Int) ++ b)
 else none)))
 else (
 bif decide ((([] : List Int).length + b.length) * 1 ≤ LIM) then
 some (([] : List Int) ++ b)
 else none)
theorem ev61 (b : List Int) : evF C86 H61 Tryz.f61 (encs [.oneA (.slice 5 (.int .u8))] b) (RT.dec (.one (.leaf (.fresh 5 (.int .u8))))) = F61 b := by kernel_rfl
noncomputable def C61 : Ctx := Ctx.addA C86 61 [.oneA (.slice 5 (.int .u8))] (.one (.leaf (.fresh 5 (.int .u8)))) F61
theorem s61 : C61.Sound := Ctx.Sound.addA (C := C86) mixed s86 Tryz.func61 ev61
def H58 : Nat → Head := fun _ => ⟨[],[]⟩
noncomputable def C58 : Ctx := Ctx.addI C61 58 H58 9000058 Tryz.f58
theorem s58 : C58.Sound := Ctx.Sound.addI (C := C61) mixed s61 Tryz.func58
def H59 : Nat → Head := fun _ => ⟨[],[]⟩
noncomputable def C59 : Ctx := Ctx.addI C58 59 H59 9000059 Tryz.f59
theorem s59 : C59.Sound := Ctx.Sound.addI (C := C58) mixed s58 Tryz.func59
def H23 : Nat → Head
  | 3 => ⟨[.row 2 10243 50 (.pair (.int .u64) (.slice 5 (.int .u8))),.boxA 36864 (.pair (.slice 5 (.int .u8)) (.int .i64))],[]⟩
  | 5000014 => ⟨[],[0,0,1,1,2,2,4,4,0,0,31,8]⟩
  | _ => ⟨[],[]⟩
noncomputable def F23 (b : List Int) : Option ((List (Int×List Int))×Int) :=
 bif (bif decide (65535 < (b.length : Int)) then true else false) then (
 lfp (fun (rec1 : (List (Int×List Int)×(List Int×Int)) → Option ((List (Int×List Int))×Int)) (x1 : List (Int×List Int)×(List Int×Int)) =>
  bif (bif decide (x1.2.2 = 0) then decide (0 < (x1.2.1.length : Int)) else false) then (
  bif (bif decide ((x1.1.length : Int) = 64) then decide (x1.2.2 = 0) else false) then (
  bif (decide (0 < (x1.1.length : Int)) == true) then (
  bif inb (if (IntKind.wrap .i64 ((x1.1.length : Int) - 1)) < 0 then 0 else (IntKind.wrap .i64 ((x1.1.length : Int) - 1))) x1.1.length then
  (F60 (((rd (.pair (.int .u64) (.slice 5 (.int .u8))) x1.1 (if (IntKind.wrap .i64 ((x1.1.length : Int) - 1)) < 0 then 0 else (IntKind.wrap .i64 ((x1.1.length : Int) - 1)))).1,(rd (.pair (.int .u64) (.slice 5 (.int .u8))) x1.1 (if (IntKind.wrap .i64 ((x1.1.length : Int) - 1)) < 0 then 0 else (IntKind.wrap .i64 ((x1.1.length : Int) - 1)))).2),0)).bind fun r2 =>
  bif (bif decide (0 ≤ r2) then false else false) then (
  bif (bif decide ((IntKind.wrap .u64 (x1.2.1.length : Int)) < 0) then false else false) then (
  rec1 (x1.1,(x1.2.1,3)))
  else (
  rec1 (x1.1,(x1.2.1,2))))
  else (
  bif (bif decide ((IntKind.wrap .u64 (x1.2.1.length : Int)) < 0) then false else false) then (
  rec1 (x1.1,(x1.2.1,3)))
  else (
  rec1 (x1.1,(x1.2.1,4))))
  else none)
  else (
  bif (bif decide ((IntKind.wrap .u64 (x1.2.1.length : Int)) < 0) then false else false) then (
  rec1 (x1.1,(x1.2.1,3)))
  else (
  rec1 (x1.1,(x1.2.1,4)))))
  else (
  bif (!decide (x1.2.2 = 0)) then (
  bif (decide (0 < (x1.1.length : Int)) == true) then (
  bif inb (if (IntKind.wrap .i64 ((x1.1.length : Int) - 1)) < 0 then 0 else (IntKind.wrap .i64 ((x1.1.length : Int) - 1))) x1.1.length then
  (F60 (((rd (.pair (.int .u64) (.slice 5 (.int .u8))) x1.1 (if (IntKind.wrap .i64 ((x1.1.length : Int) - 1)) < 0 then 0 else (IntKind.wrap .i64 ((x1.1.length : Int) - 1)))).1,(rd (.pair (.int .u64) (.slice 5 (.int .u8))) x1.1 (if (IntKind.wrap .i64 ((x1.1.length : Int) - 1)) < 0 then 0 else (IntKind.wrap .i64 ((x1.1.length : Int) - 1)))).2),0)).bind fun r3 =>
  bif (bif decide (0 ≤ r3) then decide (x1.2.2 = 0) else false) then (
  bif (bif decide ((IntKind.wrap .u64 (x1.2.1.length : Int)) < 0) then false else false) then (
  rec1 (x1.1,(x1.2.1,3)))
  else (
  rec1 (x1.1,(x1.2.1,2))))
  else (
  bif (!decide (x1.2.2 = 0)) then (
  bif (bif decide ((IntKind.wrap .u64 (x1.2.1.length : Int)) < 0) then decide (x1.2.2 = 0) else false) then (
  rec1 (x1.1,(x1.2.1,3)))
  else (
  bif decide (x1.2.2 = 0) then (
  bif inb 0 (x1.2.1.length + 1) then
  (F61 (x1.2.1.take ((0 : Int).toNat))).bind fun r4 =>
  bif decide ((x1.1.length + 1) * 32 ≤ LIM) then
  bif inb 0 (x1.2.1.length + 1) then
  rec1 ((x1.1 ++ ([(0,r4)])),(x1.2.1.drop ((0 : Int).toNat),x1.2.2))
  else none
  else none
  else none)
  else (
  rec1 (x1.1,(x1.2.1,x1.2.2)))))
  else (
  (F86 x1.2.1).bind fun r5 =>
  bif inb r5.2.1 (x1.2.1.length + 1) then
  bif (bif decide (4096 < r5.1) then decide (r5.2.2 = 0) else false) then (
  bif (bif decide ((IntKind.wrap .u64 ((x1.2.1.drop r5.2.1.toNat).length : Int)) < r5.1) then false else false) then (
  rec1 (x1.1,(x1.2.1.drop r5.2.1.toNat,3)))
  else (
  rec1 (x1.1,(x1.2.1.drop r5.2.1.toNat,4))))
  else (
  bif (bif decide ((IntKind.wrap .u64 ((x1.2.1.drop r5.2.1.toNat).length : Int)) < r5.1) then decide (r5.2.2 = 0) else false) then (
  rec1 (x1.1,(x1.2.1.drop r5.2.1.toNat,3)))
  else (
  bif decide (r5.2.2 = 0) then (
  bif inb r5.1 ((x1.2.1.drop r5.2.1.toNat).length + 1) then
  (F61 ((x1.2.1.drop r5.2.1.toNat).take r5.1.toNat)).bind fun r6 =>
  bif decide ((x1.1.length + 1) * 32 ≤ LIM) then
  bif inb r5.1 ((x1.2.1.drop r5.2.1.toNat).length + 1) then
  rec1 ((x1.1 ++ ([(0,r6)])),((x1.2.1.drop r5.2.1.toNat).drop r5.1.toNat,r5.2.2))
  else none
  else none
  else none)
  else (
  rec1 (x1.1,(x1.2.1.drop r5.2.1.toNat,r5.2.2)))))
  else none))
  else none)
  else (
  bif (!decide (x1.2.2 = 0)) then (
  bif (bif decide ((IntKind.wrap .u64 (x1.2.1.length : Int)) < 0) then decide (x1.2.2 = 0) else false) then (
  rec1 (x1.1,(x1.2.1,3)))
  else (
  bif decide (x1.2.2 = 0) then (
  bif inb 0 (x1.2.1.length + 1) then
  (F61 (x1.2.1.take ((0 : Int).toNat))).bind fun r7 =>
  bif decide ((x1.1.length + 1) * 32 ≤ LIM) then
  bif inb 0 (x1.2.1.length + 1) then
  rec1 ((x1.1 ++ ([(0,r7)])),(x1.2.1.drop ((0 : Int).toNat),x1.2.2))
  else none
  else none
  else none)
  else (
  rec1 (x1.1,(x1.2.1,x1.2.2)))))
  else (
  (F86 x1.2.1).bind fun r8 =>
  bif inb r8.2.1 (x1.2.1.length + 1) then
  bif (bif decide (4096 < r8.1) then decide (r8.2.2 = 0) else false) then (
  bif (bif decide ((IntKind.wrap .u64 ((x1.2.1.drop r8.2.1.toNat).length : Int)) < r8.1) then false else false) then (
  rec1 (x1.1,(x1.2.1.drop r8.2.1.toNat,3)))
  else (
  rec1 (x1.1,(x1.2.1.drop r8.2.1.toNat,4))))
  else (
  bif (bif decide ((IntKind.wrap .u64 ((x1.2.1.drop r8.2.1.toNat).length : Int)) < r8.1) then decide (r8.2.2 = 0) else false) then (
  rec1 (x1.1,(x1.2.1.drop r8.2.1.toNat,3)))
  else (
  bif decide (r8.2.2 = 0) then (
  bif inb r8.1 ((x1.2.1.drop r8.2.1.toNat).length + 1) then
  (F61 ((x1.2.1.drop r8.2.1.toNat).take r8.1.toNat)).bind fun r9 =>
  bif decide ((x1.1.length + 1) * 32 ≤ LIM) then
  bif inb r8.1 ((x1.2.1.drop r8.2.1.toNat).length + 1) then
  rec1 ((x1.1 ++ ([(0,r9)])),((x1.2.1.drop r8.2.1.toNat).drop r8.1.toNat,r8.2.2))
  else none
  else none
  else none)
  else (
  rec1 (x1.1,(x1.2.1.drop r8.2.1.toNat,r8.2.2)))))
  else none)))
  else (
  (F86 x1.2.1).bind fun r10 =>
  bif inb r10.2.1 (x1.2.1.length + 1) then
  bif (decide (0 < (x1.1.length : Int)) == true) then (
  bif inb (if (IntKind.wrap .i64 ((x1.1.length : Int) - 1)) < 0 then 0 else (IntKind.wrap .i64 ((x1.1.length : Int) - 1))) x1.1.length then
  (F60 (((rd (.pair (.int .u64) (.slice 5 (.int .u8))) x1.1 (if (IntKind.wrap .i64 ((x1.1.length : Int) - 1)) < 0 then 0 else (IntKind.wrap .i64 ((x1.1.length : Int) - 1)))).1,(rd (.pair (.int .u64) (.slice 5 (.int .u8))) x1.1 (if (IntKind.wrap .i64 ((x1.1.length : Int) - 1)) < 0 then 0 else (IntKind.wrap .i64 ((x1.1.length : Int) - 1)))).2),r10.1)).bind fun r11 =>
  bif (bif decide (0 ≤ r11) then decide (r10.2.2 = 0) else false) then (
  bif (bif decide ((IntKind.wrap .u64 ((x1.2.1.drop r10.2.1.toNat).length : Int)) < 0) then false else false) then (
  rec1 (x1.1,(x1.2.1.drop r10.2.1.toNat,3)))
  else (
  rec1 (x1.1,(x1.2.1.drop r10.2.1.toNat,2))))
  else (
  bif (!decide (r10.2.2 = 0)) then (
  bif (bif decide ((IntKind.wrap .u64 ((x1.2.1.drop r10.2.1.toNat).length : Int)) < 0) then decide (r10.2.2 = 0) else false) then (
  rec1 (x1.1,(x1.2.1.drop r10.2.1.toNat,3)))
  else (
  bif decide (r10.2.2 = 0) then (
  bif inb 0 ((x1.2.1.drop r10.2.1.toNat).length + 1) then
  (F61 ((x1.2.1.drop r10.2.1.toNat).take ((0 : Int).toNat))).bind fun r12 =>
  bif decide ((x1.1.length + 1) * 32 ≤ LIM) then
  bif inb 0 ((x1.2.1.drop r10.2.1.toNat).length + 1) then
  rec1 ((x1.1 ++ ([(r10.1,r12)])),((x1.2.1.drop r10.2.1.toNat).drop ((0 : Int).toNat),r10.2.2))
  else none
  else none
  else none)
  else (
  rec1 (x1.1,(x1.2.1.drop r10.2.1.toNat,r10.2.2)))))
  else (
  (F86 (x1.2.1.drop r10.2.1.toNat)).bind fun r13 =>
  bif inb r13.2.1 ((x1.2.1.drop r10.2.1.toNat).length + 1) then
  bif (bif decide (4096 < r13.1) then decide (r13.2.2 = 0) else false) then (
  bif (bif decide ((IntKind.wrap .u64 (((x1.2.1.drop r10.2.1.toNat).drop r13.2.1.toNat).length : Int)) < r13.1) then false else false) then (
  rec1 (x1.1,((x1.2.1.drop r10.2.1.toNat).drop r13.2.1.toNat,3)))
  else (
  rec1 (x1.1,((x1.2.1.drop r10.2.1.toNat).drop r13.2.1.toNat,4))))
  else (
  bif (bif decide ((IntKind.wrap .u64 (((x1.2.1.drop r10.2.1.toNat).drop r13.2.1.toNat).length : Int)) < r13.1) then decide (r13.2.2 = 0) else false) then (
  rec1 (x1.1,((x1.2.1.drop r10.2.1.toNat).drop r13.2.1.toNat,3)))
  else (
  bif decide (r13.2.2 = 0) then (
  bif inb r13.1 (((x1.2.1.drop r10.2.1.toNat).drop r13.2.1.toNat).length + 1) then
  (F61 (((x1.2.1.drop r10.2.1.toNat).drop r13.2.1.toNat).take r13.1.toNat)).bind fun r14 =>
  bif decide ((x1.1.length + 1) * 32 ≤ LIM) then
  bif inb r13.1 (((x1.2.1.drop r10.2.1.toNat).drop r13.2.1.toNat).length + 1) then
  rec1 ((x1.1 ++ ([(r10.1,r14)])),(((x1.2.1.drop r10.2.1.toNat).drop r13.2.1.toNat).drop r13.1.toNat,r13.2.2))
  else none
  else none
  else none)
  else (
  rec1 (x1.1,((x1.2.1.drop r10.2.1.toNat).drop r13.2.1.toNat,r13.2.2)))))
  else none))
  else none)
  else (
  bif (!decide (r10.2.2 = 0)) then (
  bif (bif decide ((IntKind.wrap .u64 ((x1.2.1.drop r10.2.1.toNat).length : Int)) < 0) then decide (r10.2.2 = 0) else false) then (
  rec1 (x1.1,(x1.2.1.drop r10.2.1.toNat,3)))
  else (
  bif decide (r10.2.2 = 0) then (
  bif inb 0 ((x1.2.1.drop r10.2.1.toNat).length + 1) then
  (F61 ((x1.2.1.drop r10.2.1.toNat).take ((0 : Int).toNat))).bind fun r15 =>
  bif decide ((x1.1.length + 1) * 32 ≤ LIM) then
  bif inb 0 ((x1.2.1.drop r10.2.1.toNat).length + 1) then
  rec1 ((x1.1 ++ ([(r10.1,r15)])),((x1.2.1.drop r10.2.1.toNat).drop ((0 : Int).toNat),r10.2.2))
  else none
  else none
  else none)
  else (
  rec1 (x1.1,(x1.2.1.drop r10.2.1.toNat,r10.2.2)))))
  else (
  (F86 (x1.2.1.drop r10.2.1.toNat)).bind fun r16 =>
  bif inb r16.2.1 ((x1.2.1.drop r10.2.1.toNat).length + 1) then
  bif (bif decide (4096 < r16.1) then decide (r16.2.2 = 0) else false) then (
  bif (bif decide ((IntKind.wrap .u64 (((x1.2.1.drop r10.2.1.toNat).drop r16.2.1.toNat).length : Int)) < r16.1) then false else false) then (
  rec1 (x1.1,((x1.2.1.drop r10.2.1.toNat).drop r16.2.1.toNat,3)))
  else (
  rec1 (x1.1,((x1.2.1.drop r10.2.1.toNat).drop r16.2.1.toNat,4))))
  else (
  bif (bif decide ((IntKind.wrap .u64 (((x1.2.1.drop r10.2.1.toNat).drop r16.2.1.toNat).length : Int)) < r16.1) then decide (r16.2.2 = 0) else false) then (
  rec1 (x1.1,((x1.2.1.drop r10.2.1.toNat).drop r16.2.1.toNat,3)))
  else (
  bif decide (r16.2.2 = 0) then (
  bif inb r16.1 (((x1.2.1.drop r10.2.1.toNat).drop r16.2.1.toNat).length + 1) then
  (F61 (((x1.2.1.drop r10.2.1.toNat).drop r16.2.1.toNat).take r16.1.toNat)).bind fun r17 =>
  bif decide ((x1.1.length + 1) * 32 ≤ LIM) then
  bif inb r16.1 (((x1.2.1.drop r10.2.1.toNat).drop r16.2.1.toNat).length + 1) then
  rec1 ((x1.1 ++ ([(r10.1,r17)])),(((x1.2.1.drop r10.2.1.toNat).drop r16.2.1.toNat).drop r16.1.toNat,r16.2.2))
  else none
  else none
  else none)
  else (
  rec1 (x1.1,((x1.2.1.drop r10.2.1.toNat).drop r16.2.1.toNat,r16.2.2)))))
  else none))
  else none)))
  else (
  bif (!decide (x1.2.2 = 0)) then (
  some (([] : List (Int×List Int)),x1.2.2))
  else (
  some (x1.1,0)))) (([] : List (Int×List Int)),(b,4)))
 else (
 lfp (fun (rec18 : (List (Int×List Int)×(List Int×Int)) → Option ((List (Int×List Int))×Int)) (x18 : List (Int×List Int)×(List Int×Int)) =>
  bif (bif decide (x18.2.2 = 0) then decide (0 < (x18.2.1.length : Int)) else false) then (
  bif (bif decide ((x18.1.length : Int) = 64) then decide (x18.2.2 = 0) else false) then (
  bif (decide (0 < (x18.1.length : Int)) == true) then (
  bif inb (if (IntKind.wrap .i64 ((x18.1.length : Int) - 1)) < 0 then 0 else (IntKind.wrap .i64 ((x18.1.length : Int) - 1))) x18.1.length then
  (F60 (((rd (.pair (.int .u64) (.slice 5 (.int .u8))) x18.1 (if (IntKind.wrap .i64 ((x18.1.length : Int) - 1)) < 0 then 0 else (IntKind.wrap .i64 ((x18.1.length : Int) - 1)))).1,(rd (.pair (.int .u64) (.slice 5 (.int .u8))) x18.1 (if (IntKind.wrap .i64 ((x18.1.length : Int) - 1)) < 0 then 0 else (IntKind.wrap .i64 ((x18.1.length : Int) - 1)))).2),0)).bind fun r19 =>
  bif (bif decide (0 ≤ r19) then false else false) then (
  bif (bif decide ((IntKind.wrap .u64 (x18.2.1.length : Int)) < 0) then false else false) then (
  rec18 (x18.1,(x18.2.1,3)))
  else (
  rec18 (x18.1,(x18.2.1,2))))
  else (
  bif (bif decide ((IntKind.wrap .u64 (x18.2.1.length : Int)) < 0) then false else false) then (
  rec18 (x18.1,(x18.2.1,3)))
  else (
  rec18 (x18.1,(x18.2.1,4))))
  else none)
  else (
  bif (bif decide ((IntKind.wrap .u64 (x18.2.1.length : Int)) < 0) then false else false) then (
  rec18 (x18.1,(x18.2.1,3)))
  else (
  rec18 (x18.1,(x18.2.1,4)))))
  else (
  bif (!decide (x18.2.2 = 0)) then (
  bif (decide (0 < (x18.1.length : Int)) == true) then (
  bif inb (if (IntKind.wrap .i64 ((x18.1.length : Int) - 1)) < 0 then 0 else (IntKind.wrap .i64 ((x18.1.length : Int) - 1))) x18.1.length then
  (F60 (((rd (.pair (.int .u64) (.slice 5 (.int .u8))) x18.1 (if (IntKind.wrap .i64 ((x18.1.length : Int) - 1)) < 0 then 0 else (IntKind.wrap .i64 ((x18.1.length : Int) - 1)))).1,(rd (.pair (.int .u64) (.slice 5 (.int .u8))) x18.1 (if (IntKind.wrap .i64 ((x18.1.length : Int) - 1)) < 0 then 0 else (IntKind.wrap .i64 ((x18.1.length : Int) - 1)))).2),0)).bind fun r20 =>
  bif (bif decide (0 ≤ r20) then decide (x18.2.2 = 0) else false) then (
  bif (bif decide ((IntKind.wrap .u64 (x18.2.1.length : Int)) < 0) then false else false) then (
  rec18 (x18.1,(x18.2.1,3)))
  else (
  rec18 (x18.1,(x18.2.1,2))))
  else (
  bif (!decide (x18.2.2 = 0)) then (
  bif (bif decide ((IntKind.wrap .u64 (x18.2.1.length : Int)) < 0) then decide (x18.2.2 = 0) else false) then (
  rec18 (x18.1,(x18.2.1,3)))
  else (
  bif decide (x18.2.2 = 0) then (
  bif inb 0 (x18.2.1.length + 1) then
  (F61 (x18.2.1.take ((0 : Int).toNat))).bind fun r21 =>
  bif decide ((x18.1.length + 1) * 32 ≤ LIM) then
  bif inb 0 (x18.2.1.length + 1) then
  rec18 ((x18.1 ++ ([(0,r21)])),(x18.2.1.drop ((0 : Int).toNat),x18.2.2))
  else none
  else none
  else none)
  else (
  rec18 (x18.1,(x18.2.1,x18.2.2)))))
  else (
  (F86 x18.2.1).bind fun r22 =>
  bif inb r22.2.1 (x18.2.1.length + 1) then
  bif (bif decide (4096 < r22.1) then decide (r22.2.2 = 0) else false) then (
  bif (bif decide ((IntKind.wrap .u64 ((x18.2.1.drop r22.2.1.toNat).length : Int)) < r22.1) then false else false) then (
  rec18 (x18.1,(x18.2.1.drop r22.2.1.toNat,3)))
  else (
  rec18 (x18.1,(x18.2.1.drop r22.2.1.toNat,4))))
  else (
  bif (bif decide ((IntKind.wrap .u64 ((x18.2.1.drop r22.2.1.toNat).length : Int)) < r22.1) then decide (r22.2.2 = 0) else false) then (
  rec18 (x18.1,(x18.2.1.drop r22.2.1.toNat,3)))
  else (
  bif decide (r22.2.2 = 0) then (
  bif inb r22.1 ((x18.2.1.drop r22.2.1.toNat).length + 1) then
  (F61 ((x18.2.1.drop r22.2.1.toNat).take r22.1.toNat)).bind fun r23 =>
  bif decide ((x18.1.length + 1) * 32 ≤ LIM) then
  bif inb r22.1 ((x18.2.1.drop r22.2.1.toNat).length + 1) then
  rec18 ((x18.1 ++ ([(0,r23)])),((x18.2.1.drop r22.2.1.toNat).drop r22.1.toNat,r22.2.2))
  else none
  else none
  else none)
  else (
  rec18 (x18.1,(x18.2.1.drop r22.2.1.toNat,r22.2.2)))))
  else none))
  else none)
  else (
  bif (!decide (x18.2.2 = 0)) then (
  bif (bif decide ((IntKind.wrap .u64 (x18.2.1.length : Int)) < 0) then decide (x18.2.2 = 0) else false) then (
  rec18 (x18.1,(x18.2.1,3)))
  else (
  bif decide (x18.2.2 = 0) then (
  bif inb 0 (x18.2.1.length + 1) then
  (F61 (x18.2.1.take ((0 : Int).toNat))).bind fun r24 =>
  bif decide ((x18.1.length + 1) * 32 ≤ LIM) then
  bif inb 0 (x18.2.1.length + 1) then
  rec18 ((x18.1 ++ ([(0,r24)])),(x18.2.1.drop ((0 : Int).toNat),x18.2.2))
  else none
  else none
  else none)
  else (
  rec18 (x18.1,(x18.2.1,x18.2.2)))))
  else (
  (F86 x18.2.1).bind fun r25 =>
  bif inb r25.2.1 (x18.2.1.length + 1) then
  bif (bif decide (4096 < r25.1) then decide (r25.2.2 = 0) else false) then (
  bif (bif decide ((IntKind.wrap .u64 ((x18.2.1.drop r25.2.1.toNat).length : Int)) < r25.1) then false else false) then (
  rec18 (x18.1,(x18.2.1.drop r25.2.1.toNat,3)))
  else (
  rec18 (x18.1,(x18.2.1.drop r25.2.1.toNat,4))))
  else (
  bif (bif decide ((IntKind.wrap .u64 ((x18.2.1.drop r25.2.1.toNat).length : Int)) < r25.1) then decide (r25.2.2 = 0) else false) then (
  rec18 (x18.1,(x18.2.1.drop r25.2.1.toNat,3)))
  else (
  bif decide (r25.2.2 = 0) then (
  bif inb r25.1 ((x18.2.1.drop r25.2.1.toNat).length + 1) then
  (F61 ((x18.2.1.drop r25.2.1.toNat).take r25.1.toNat)).bind fun r26 =>
  bif decide ((x18.1.length + 1) * 32 ≤ LIM) then
  bif inb r25.1 ((x18.2.1.drop r25.2.1.toNat).length + 1) then
  rec18 ((x18.1 ++ ([(0,r26)])),((x18.2.1.drop r25.2.1.toNat).drop r25.1.toNat,r25.2.2))
  else none
  else none
  else none)
  else (
  rec18 (x18.1,(x18.2.1.drop r25.2.1.toNat,r25.2.2)))))
  else none)))
  else (
  (F86 x18.2.1).bind fun r27 =>
  bif inb r27.2.1 (x18.2.1.length + 1) then
  bif (decide (0 < (x18.1.length : Int)) == true) then (
  bif inb (if (IntKind.wrap .i64 ((x18.1.length : Int) - 1)) < 0 then 0 else (IntKind.wrap .i64 ((x18.1.length : Int) - 1))) x18.1.length then
  (F60 (((rd (.pair (.int .u64) (.slice 5 (.int .u8))) x18.1 (if (IntKind.wrap .i64 ((x18.1.length : Int) - 1)) < 0 then 0 else (IntKind.wrap .i64 ((x18.1.length : Int) - 1)))).1,(rd (.pair (.int .u64) (.slice 5 (.int .u8))) x18.1 (if (IntKind.wrap .i64 ((x18.1.length : Int) - 1)) < 0 then 0 else (IntKind.wrap .i64 ((x18.1.length : Int) - 1)))).2),r27.1)).bind fun r28 =>
  bif (bif decide (0 ≤ r28) then decide (r27.2.2 = 0) else false) then (
  bif (bif decide ((IntKind.wrap .u64 ((x18.2.1.drop r27.2.1.toNat).length : Int)) < 0) then false else false) then (
  rec18 (x18.1,(x18.2.1.drop r27.2.1.toNat,3)))
  else (
  rec18 (x18.1,(x18.2.1.drop r27.2.1.toNat,2))))
  else (
  bif (!decide (r27.2.2 = 0)) then (
  bif (bif decide ((IntKind.wrap .u64 ((x18.2.1.drop r27.2.1.toNat).length : Int)) < 0) then decide (r27.2.2 = 0) else false) then (
  rec18 (x18.1,(x18.2.1.drop r27.2.1.toNat,3)))
  else (
  bif decide (r27.2.2 = 0) then (
  bif inb 0 ((x18.2.1.drop r27.2.1.toNat).length + 1) then
  (F61 ((x18.2.1.drop r27.2.1.toNat).take ((0 : Int).toNat))).bind fun r29 =>
  bif decide ((x18.1.length + 1) * 32 ≤ LIM) then
  bif inb 0 ((x18.2.1.drop r27.2.1.toNat).length + 1) then
  rec18 ((x18.1 ++ ([(r27.1,r29)])),((x18.2.1.drop r27.2.1.toNat).drop ((0 : Int).toNat),r27.2.2))
  else none
  else none
  else none)
  else (
  rec18 (x18.1,(x18.2.1.drop r27.2.1.toNat,r27.2.2)))))
  else (
  (F86 (x18.2.1.drop r27.2.1.toNat)).bind fun r30 =>
  bif inb r30.2.1 ((x18.2.1.drop r27.2.1.toNat).length + 1) then
  bif (bif decide (4096 < r30.1) then decide (r30.2.2 = 0) else false) then (
  bif (bif decide ((IntKind.wrap .u64 (((x18.2.1.drop r27.2.1.toNat).drop r30.2.1.toNat).length : Int)) < r30.1) then false else false) then (
  rec18 (x18.1,((x18.2.1.drop r27.2.1.toNat).drop r30.2.1.toNat,3)))
  else (
  rec18 (x18.1,((x18.2.1.drop r27.2.1.toNat).drop r30.2.1.toNat,4))))
  else (
  bif (bif decide ((IntKind.wrap .u64 (((x18.2.1.drop r27.2.1.toNat).drop r30.2.1.toNat).length : Int)) < r30.1) then decide (r30.2.2 = 0) else false) then (
  rec18 (x18.1,((x18.2.1.drop r27.2.1.toNat).drop r30.2.1.toNat,3)))
  else (
  bif decide (r30.2.2 = 0) then (
  bif inb r30.1 (((x18.2.1.drop r27.2.1.toNat).drop r30.2.1.toNat).length + 1) then
  (F61 (((x18.2.1.drop r27.2.1.toNat).drop r30.2.1.toNat).take r30.1.toNat)).bind fun r31 =>
  bif decide ((x18.1.length + 1) * 32 ≤ LIM) then
  bif inb r30.1 (((x18.2.1.drop r27.2.1.toNat).drop r30.2.1.toNat).length + 1) then
  rec18 ((x18.1 ++ ([(r27.1,r31)])),(((x18.2.1.drop r27.2.1.toNat).drop r30.2.1.toNat).drop r30.1.toNat,r30.2.2))
  else none
  else none
  else none)
  else (
  rec18 (x18.1,((x18.2.1.drop r27.2.1.toNat).drop r30.2.1.toNat,r30.2.2)))))
  else none))
  else none)
  else (
  bif (!decide (r27.2.2 = 0)) then (
  bif (bif decide ((IntKind.wrap .u64 ((x18.2.1.drop r27.2.1.toNat).length : Int)) < 0) then decide (r27.2.2 = 0) else false) then (
  rec18 (x18.1,(x18.2.1.drop r27.2.1.toNat,3)))
  else (
  bif decide (r27.2.2 = 0) then (
  bif inb 0 ((x18.2.1.drop r27.2.1.toNat).length + 1) then
  (F61 ((x18.2.1.drop r27.2.1.toNat).take ((0 : Int).toNat))).bind fun r32 =>
  bif decide ((x18.1.length + 1) * 32 ≤ LIM) then
  bif inb 0 ((x18.2.1.drop r27.2.1.toNat).length + 1) then
  rec18 ((x18.1 ++ ([(r27.1,r32)])),((x18.2.1.drop r27.2.1.toNat).drop ((0 : Int).toNat),r27.2.2))
  else none
  else none
  else none)
  else (
  rec18 (x18.1,(x18.2.1.drop r27.2.1.toNat,r27.2.2)))))
  else (
  (F86 (x18.2.1.drop r27.2.1.toNat)).bind fun r33 =>
  bif inb r33.2.1 ((x18.2.1.drop r27.2.1.toNat).length + 1) then
  bif (bif decide (4096 < r33.1) then decide (r33.2.2 = 0) else false) then (
  bif (bif decide ((IntKind.wrap .u64 (((x18.2.1.drop r27.2.1.toNat).drop r33.2.1.toNat).length : Int)) < r33.1) then false else false) then (
  rec18 (x18.1,((x18.2.1.drop r27.2.1.toNat).drop r33.2.1.toNat,3)))
  else (
  rec18 (x18.1,((x18.2.1.drop r27.2.1.toNat).drop r33.2.1.toNat,4))))
  else (
  bif (bif decide ((IntKind.wrap .u64 (((x18.2.1.drop r27.2.1.toNat).drop r33.2.1.toNat).length : Int)) < r33.1) then decide (r33.2.2 = 0) else false) then (
  rec18 (x18.1,((x18.2.1.drop r27.2.1.toNat).drop r33.2.1.toNat,3)))
  else (
  bif decide (r33.2.2 = 0) then (
  bif inb r33.1 (((x18.2.1.drop r27.2.1.toNat).drop r33.2.1.toNat).length + 1) then
  (F61 (((x18.2.1.drop r27.2.1.toNat).drop r33.2.1.toNat).take r33.1.toNat)).bind fun r34 =>
  bif decide ((x18.1.length + 1) * 32 ≤ LIM) then
  bif inb r33.1 (((x18.2.1.drop r27.2.1.toNat).drop r33.2.1.toNat).length + 1) then
  rec18 ((x18.1 ++ ([(r27.1,r34)])),(((x18.2.1.drop r27.2.1.toNat).drop r33.2.1.toNat).drop r33.1.toNat,r33.2.2))
  else none
  else none
  else none)
  else (
  rec18 (x18.1,((x18.2.1.drop r27.2.1.toNat).drop r33.2.1.toNat,r33.2.2)))))
  else none))
  else none)))
  else (
  bif (!decide (x18.2.2 = 0)) then (
  some (([] : List (Int×List Int)),x18.2.2))
  else (
  some (x18.1,0)))) (([] : List (Int×List Int)),(b,0)))
theorem ev23 (b : List Int) : evF C59 H23 Tryz.f23 (encs [.oneA (.slice 5 (.int .u8))] b) (RT.dec (.tup [.leaf (.fresh 50 (.pair (.int .u64) (.slice 5 (.int .u8)))),.leaf (.int .i64)])) = F23 b := by kernel_rfl
noncomputable def C23 : Ctx := Ctx.addA C59 23 [.oneA (.slice 5 (.int .u8))] (.tup [.leaf (.fresh 50 (.pair (.int .u64) (.slice 5 (.int .u8)))),.leaf (.int .i64)]) F23
theorem s23 : C23.Sound := Ctx.Sound.addA (C := C59) mixed s59 Tryz.func23 ev23
def H62 : Nat → Head
  | 3 => ⟨[.dataA 0 (.slice 5 (.int .u8)),.row 2 10243 22 (.int .u64),.data 3 (.int .i64)],[]⟩
  | 5000007 => ⟨[],[0,0,0,0,2,2,5,5,0,0,0,0,48,48,15,9,255,80]⟩
  | _ => ⟨[],[]⟩
noncomputable def F62 (b : List Int) : Option (List Int×Int) :=
 bif decide (65535 < (b.length : Int)) then (
 some (([] : List Int),4))
 else (
 lfp (fun (rec1 : (List Int×List Int×Int) → Option (List Int×Int)) (x1 : List Int×List Int×Int) =>
  bif decide (0 < (x1.1.length : Int)) then (
  (F86 x1.1).bind fun r2 =>
  bif (!decide (r2.2.2 = 0)) then (
  some (([] : List Int),r2.2.2))
  else (
  bif inb r2.2.1 (x1.1.length + 1) then
  bif decide ((x1.2.1.length + 1) * 8 ≤ LIM) then
  rec1 (x1.1.drop r2.2.1.toNat,(x1.2.1 ++ ([r2.1])),x1.2.2)
  else none
  else none))
  else (
  some (x1.2.1,0))) (b,([] : List Int),0))
theorem ev62 (b : List Int) : evF C23 H62 Tryz.f62 (encs [.oneA (.slice 5 (.int .u8))] b) (RT.dec (.tup [.leaf (.fresh 22 (.int .u64)),.leaf (.int .i64)])) = F62 b := by kernel_rfl
noncomputable def C62 : Ctx := Ctx.addA C23 62 [.oneA (.slice 5 (.int .u8))] (.tup [.leaf (.fresh 22 (.int .u64)),.leaf (.int .i64)]) F62
theorem s62 : C62.Sound := Ctx.Sound.addA (C := C23) mixed s23 Tryz.func62 ev62
def H64 : Nat → Head
  | 4 => ⟨[.data 0 (.slice 5 (.int .u8)),.data 3 (.int .i64),.data 5 (.int .i64),.data 6 (.int .i64),.arr 16384 22 (.int .u64) 3],[8192]⟩
  | 5000013 => ⟨[],[0,0,0,0,0,0,0,0,12,12,3,1,35,34,127,20]⟩
  | _ => ⟨[],[]⟩
noncomputable def F64 (b : List Int) : Option ((Int×Int×Int)×Int) :=
 lfp (fun (rec1 : (List Int×Int×Int×Int×List Int) → Option ((Int×Int×Int)×Int)) (x1 : List Int×Int×Int×Int×List Int) =>
  bif decide (x1.2.2.2.1 < x1.2.2.1) then (
  (F86 x1.1).bind fun r2 =>
  bif (!decide (r2.2.2 = 0)) then (
  some ((0,0,0),r2.2.2))
  else (
  bif (decide (x1.2.2.2.1 = 0) == true) then (
  bif (bif decide (r2.1 < 1) then true else decide (5 < r2.1)) then (
  some ((0,0,0),2))
  else (
  bif (bif decide (x1.2.2.2.1 = 0) then decide (r2.1 = 4) else false) then (
  bif inb r2.2.1 (x1.1.length + 1) then
  bif inb x1.2.2.2.1 3 then
  rec1 (x1.1.drop r2.2.1.toNat,x1.2.1,(IntKind.wrap .i64 (x1.2.2.1 + 1)),(IntKind.wrap .i64 (x1.2.2.2.1 + 1)),x1.2.2.2.2.set x1.2.2.2.1.toNat r2.1)
  else none
  else none)
  else (
  bif inb r2.2.1 (x1.1.length + 1) then
  bif inb x1.2.2.2.1 3 then
  rec1 (x1.1.drop r2.2.1.toNat,x1.2.1,x1.2.2.1,(IntKind.wrap .i64 (x1.2.2.2.1 + 1)),x1.2.2.2.2.set x1.2.2.2.1.toNat r2.1)
  else none
  else none)))
  else (
  bif (bif decide (x1.2.2.2.1 = 0) then decide (r2.1 = 4) else false) then (
  bif inb r2.2.1 (x1.1.length + 1) then
  bif inb x1.2.2.2.1 3 then
  rec1 (x1.1.drop r2.2.1.toNat,x1.2.1,(IntKind.wrap .i64 (x1.2.2.1 + 1)),(IntKind.wrap .i64 (x1.2.2.2.1 + 1)),x1.2.2.2.2.set x1.2.2.2.1.toNat r2.1)
  else none
  else none)
  else (
  bif inb r2.2.1 (x1.1.length + 1) then
  bif inb x1.2.2.2.1 3 then
  rec1 (x1.1.drop r2.2.1.toNat,x1.2.1,x1.2.2.1,(IntKind.wrap .i64 (x1.2.2.2.1 + 1)),x1.2.2.2.2.set x1.2.2.2.1.toNat r2.1)
  else none
  else none))))
  else (
  bif inb 0 3 then
  bif inb 1 3 then
  bif inb 2 3 then
  bif (decide (0 < (x1.1.length : Int)) == false) then (
  (F37 ((IntKind.wrap .i64 (rd (.int .u64) x1.2.2.2.2 0)),((rd (.int .u64) x1.2.2.2.2 1),(rd (.int .u64) x1.2.2.2.2 2)))).bind fun r3 =>
  bif (!decide (r3 = 0)) then (
  some ((0,0,0),2))
  else (
  some (((IntKind.wrap .i64 (rd (.int .u64) x1.2.2.2.2 0)),(rd (.int .u64) x1.2.2.2.2 1),(rd (.int .u64) x1.2.2.2.2 2)),0)))
  else (
  some ((0,0,0),2))
  else none
  else none
  else none)) (b,0,2,0,[0,0,0])
theorem ev64 (b : List Int) : evF C62 H64 Tryz.f64 (encs [.one (.slice 5 (.int .u8))] b) (RT.dec (.tup [.agg [.int .i64,.int .u64,.int .u64],.leaf (.int .i64)])) = F64 b := by kernel_rfl
noncomputable def C64 : Ctx := Ctx.add C62 64 [.one (.slice 5 (.int .u8))] (.tup [.agg [.int .i64,.int .u64,.int .u64],.leaf (.int .i64)]) F64
theorem s64 : C64.Sound := Ctx.Sound.add (C := C62) mixed s62 Tryz.func64 ev64
def H106060 : Nat → Head
  | 3 => ⟨[.data 9 (.int .i64),.data 10 (.int .i64)],[]⟩
  | _ => ⟨[],[]⟩
noncomputable def F106060 (b : List (Int×List Int)×Int×Unit) : Option (Int×Bool) :=
 lfp (fun (rec1 : (Int×Int) → Option (Int×Bool)) (x1 : Int×Int) =>
  bif decide (x1.1 < x1.2) then (
  bif inb (IntKind.wrap .i64 ((IntKind.wrap .u64 (IntKind.wrap .i64 (x1.1 + x1.2))) / 2 ^ (min (1 : Int).toNat 64))) b.1.length then
  (F60 (((rd (.pair (.int .u64) (.slice 5 (.int .u8))) b.1 (IntKind.wrap .i64 ((IntKind.wrap .u64 (IntKind.wrap .i64 (x1.1 + x1.2))) / 2 ^ (min (1 : Int).toNat 64)))).1,(rd (.pair (.int .u64) (.slice 5 (.int .u8))) b.1 (IntKind.wrap .i64 ((IntKind.wrap .u64 (IntKind.wrap .i64 (x1.1 + x1.2))) / 2 ^ (min (1 : Int).toNat 64)))).2),b.2.1)).bind fun r2 =>
  bif decide (r2 < 0) then (
  rec1 ((IntKind.wrap .i64 ((IntKind.wrap .i64 ((IntKind.wrap .u64 (IntKind.wrap .i64 (x1.1 + x1.2))) / 2 ^ (min (1 : Int).toNat 64))) + 1)),x1.2))
  else (
  rec1 (x1.1,(IntKind.wrap .i64 ((IntKind.wrap .u64 (IntKind.wrap .i64 (x1.1 + x1.2))) / 2 ^ (min (1 : Int).toNat 64)))))
  else none)
  else (
  bif (decide (x1.1 < (b.1.length : Int)) == true) then (
  bif inb x1.1 b.1.length then
  (F60 (((rd (.pair (.int .u64) (.slice 5 (.int .u8))) b.1 x1.1).1,(rd (.pair (.int .u64) (.slice 5 (.int .u8))) b.1 x1.1).2),b.2.1)).bind fun r3 =>
  some (x1.1,decide (r3 = 0))
  else none)
  else (
  some (x1.1,false)))) (0,(b.1.length : Int))
theorem ev106060 (b : List (Int×List Int)×Int×Unit) : evF C64 H106060 Tryz.f106 (encs [.one (.slice 50 (.pair (.int .u64) (.slice 5 (.int .u8)))),.one (.int .u64),.fn 60] b) (RT.dec (.tup [.leaf (.int .i64),.leaf (.bool)])) = F106060 b := by kernel_rfl
noncomputable def C106060 : Ctx := Ctx.add C64 106 [.one (.slice 50 (.pair (.int .u64) (.slice 5 (.int .u8)))),.one (.int .u64),.fn 60] (.tup [.leaf (.int .i64),.leaf (.bool)]) F106060
theorem s106060 : C106060.Sound := Ctx.Sound.add (C := C64) mixed s64 Tryz.func106 ev106060
def H88 : Nat → Head := fun _ => ⟨[],[]⟩
noncomputable def F88 (b : List (Int×List Int)×Int) : Option (List Int×Int) :=
 (F53 b.1).bind fun r1 =>
 bif (!decide (r1 = 0)) then (
 some (([] : List Int),r1))
 else (
 (F106060 (b.1,b.2,())).bind fun r2 =>
 bif (!r2.2) then (
 some (([] : List Int),5))
 else (
 bif inb r2.1 b.1.length then
 (F61 ((rd (.pair (.int .u64) (.slice 5 (.int .u8))) b.1 r2.1).2)).bind fun r3 =>
 some (r3,0)
 else none))
theorem ev88 (b : List (Int×List Int)×Int) : evF C106060 H88 Tryz.f88 (encs [.oneA (.slice 50 (.pair (.int .u64) (.slice 5 (.int .u8)))),.one (.int .u64)] b) (RT.dec (.tup [.leaf (.fresh 5 (.int .u8)),.leaf (.int .i64)])) = F88 b := by kernel_rfl
noncomputable def C88 : Ctx := Ctx.addA C106060 88 [.oneA (.slice 50 (.pair (.int .u64) (.slice 5 (.int .u8)))),.one (.int .u64)] (.tup [.leaf (.fresh 5 (.int .u8)),.leaf (.int .i64)]) F88
theorem s88 : C88.Sound := Ctx.Sound.addA (C := C106060) mixed s106060 Tryz.func88 ev88
def H89 : Nat → Head := fun _ => ⟨[],[]⟩
noncomputable def F89 (b : List (Int×List Int)×Int) : Option (Int×Int) :=
 (F88 (b.1,b.2)).bind fun r1 =>
 bif (!decide (r1.2 = 0)) then (
 some (0,r1.2))
 else (
 (F86 r1.1).bind fun r2 =>
 bif (!decide (r2.2.2 = 0)) then (
 some (0,r2.2.2))
 else (
 bif decide (r2.2.1 < (r1.1.length : Int)) then (
 some (0,2))
 else (
 some (r2.1,0))))
theorem ev89 (b : List (Int×List Int)×Int) : evF C88 H89 Tryz.f89 (encs [.one (.slice 50 (.pair (.int .u64) (.slice 5 (.int .u8)))),.one (.int .u64)] b) (RT.dec (.tup [.leaf (.int .u64),.leaf (.int .i64)])) = F89 b := by kernel_rfl
noncomputable def C89 : Ctx := Ctx.add C88 89 [.one (.slice 50 (.pair (.int .u64) (.slice 5 (.int .u8)))),.one (.int .u64)] (.tup [.leaf (.int .u64),.leaf (.int .i64)]) F89
theorem s89 : C89.Sound := Ctx.Sound.add (C := C88) mixed s88 Tryz.func89 ev89
def H63 : Nat → Head
  | 6 => ⟨[.data 3 (.int .i64),.data 29 (.int .i64)],[24576,90112,8192]⟩
  | 13 => ⟨[.data 3 (.int .i64),.data 44 (.int .i64),.arr 24576 22 (.int .u64) 2],[90112,8192]⟩
  | 22 => ⟨[.data 12 .bool,.data 72 (.int .i64)],[24576,90112,8192]⟩
  | 30 => ⟨[.data 3 (.int .i64),.data 98 (.int .i64),.crow 61440 1 10063518 63 (.pair (.int .i64) (.pair (.int .u64) (.int .u64))),.boxr 61440 10063518 (.int .u64) (.int .i64)],[24576,90112,8192]⟩
  | 5000024 => ⟨[],[0,0,1,1,2,2,6,6,2,2,2,2,50,50,74,74,130,130,511,257]⟩
  | _ => ⟨[],[]⟩
noncomputable def F63 (b : List Int) : Option ((Int×(List (Int×(Int×Int)))×Int)×Int) :=
 (F23 b).bind fun r1 =>
 bif (!decide (r1.2 = 0)) then (
 some ((0,([] : List (Int×(Int×Int))),0),r1.2))
 else (
 lfp (fun (rec2 : (Int×Int) → Option ((Int×(List (Int×(Int×Int)))×Int)×Int)) (x2 : Int×Int) =>
  bif decide (x2.2 < 2) then (
  (F88 (r1.1,(IntKind.wrap .u64 (1 + (IntKind.wrap .u64 x2.2))))).bind fun r3 =>
  bif (!decide (r3.2 = 0)) then (
  some ((0,([] : List (Int×(Int×Int))),0),5))
  else (
  rec2 (x2.1,(IntKind.wrap .i64 (x2.2 + 1)))))
  else (
  lfp (fun (rec4 : (Int×Int×List Int) → Option ((Int×(List (Int×(Int×Int)))×Int)×Int)) (x4 : Int×Int×List Int) =>
   bif decide (x4.2.1 < 2) then (
   (F89 (r1.1,(IntKind.wrap .u64 (1 + (IntKind.wrap .u64 x4.2.1))))).bind fun r5 =>
   bif inb x4.2.1 2 then
   bif (!decide (r5.2 = 0)) then (
   some ((0,([] : List (Int×(Int×Int))),0),r5.2))
   else (
   rec4 (x4.1,(IntKind.wrap .i64 (x4.2.1 + 1)),x4.2.2.set x4.2.1.toNat r5.1))
   else none)
   else (
   bif inb 1 2 then
   lfp (fun (rec6 : (Bool×Int) → Option ((Int×(List (Int×(Int×Int)))×Int)×Int)) (x6 : Bool×Int) =>
    bif decide (x6.2 < (r1.1.length : Int)) then (
    bif inb x6.2 r1.1.length then
    (fun o => both o o) (
    bif (x6.1 == false) then (
    (F90 x6.2).bind fun r7 =>
    rec6 ((!decide ((rd (.pair (.int .u64) (.slice 5 (.int .u8))) r1.1 x6.2).1 = r7)),(IntKind.wrap .i64 (x6.2 + 1))))
    else (
    rec6 (true,(IntKind.wrap .i64 (x6.2 + 1)))))
    else none)
    else (
    bif x6.1 then (
    some ((0,([] : List (Int×(Int×Int))),0),2))
    else (
    bif inb 0 2 then
    bif inb 1 2 then
    bif inb 2 (r1.1.length + 1) then
    lfp (fun (rec8 : (Int×Int×List (Int×(Int×Int))×(Int×Int)) → Option ((Int×(List (Int×(Int×Int)))×Int)×Int)) (x8 : Int×Int×List (Int×(Int×Int))×(Int×Int)) =>
     bif decide (x8.2.1 < ((r1.1.drop ((2 : Int).toNat)).length : Int)) then (
     bif inb x8.2.1 (r1.1.drop ((2 : Int).toNat)).length then
     (F64 ((rd (.pair (.int .u64) (.slice 5 (.int .u8))) (r1.1.drop ((2 : Int).toNat)) x8.2.1).2)).bind fun r9 =>
     bif (!decide (r9.2 = 0)) then (
     some ((0,([] : List (Int×(Int×Int))),0),r9.2))
     else (
     bif decide ((x8.2.2.1.length + 1) * 24 ≤ LIM) then
     rec8 (x8.1,(IntKind.wrap .i64 (x8.2.1 + 1)),(x8.2.2.1 ++ ([(r9.1.1,(r9.1.2.1,r9.1.2.2))])),(x8.2.2.2.1,x8.2.2.2.2))
     else none)
     else none)
     else (
     some ((x8.2.2.2.1,x8.2.2.1,x8.2.2.2.2),0))) (x4.1,0,([] : List (Int×(Int×Int))),((rd (.int .u64) x4.2.2 0),(IntKind.wrap .i64 (rd (.int .u64) x4.2.2 1))))
    else none
    else none
    else none))) ((bif decide (1048576 < (rd (.int .u64) x4.2.2 1)) then true else decide (18 < (r1.1.length : Int))),0)
   else none)) (x2.1,0,[0,0]))) (0,0))
theorem ev63 (b : List Int) : evF C89 H63 Tryz.f63 (encs [.oneA (.slice 5 (.int .u8))] b) (RT.dec (.tup [.agg [.int .u64,.fresh 63 (.pair (.int .i64) (.pair (.int .u64) (.int .u64))),.int .i64],.leaf (.int .i64)])) = F63 b := by kernel_rfl
noncomputable def C63 : Ctx := Ctx.addA C89 63 [.oneA (.slice 5 (.int .u8))] (.tup [.agg [.int .u64,.fresh 63 (.pair (.int .i64) (.pair (.int .u64) (.int .u64))),.int .i64],.leaf (.int .i64)]) F63
theorem s63 : C63.Sound := Ctx.Sound.addA (C := C89) mixed s89 Tryz.func63 ev63
def H25 : Nat → Head := fun _ => ⟨[],[]⟩
noncomputable def F25 (b : List Int×List Int) : Option Bool :=
 some (decide (b.1 = b.2))
theorem ev25 (b : List Int×List Int) : evF C63 H25 Tryz.f25 (encs [.one (.slice 5 (.int .u8)),.one (.slice 5 (.int .u8))] b) (RT.dec (.one (.leaf (.bool)))) = F25 b := by kernel_rfl
noncomputable def C25 : Ctx := Ctx.add C63 25 [.one (.slice 5 (.int .u8)),.one (.slice 5 (.int .u8))] (.one (.leaf (.bool))) F25
theorem s25 : C25.Sound := Ctx.Sound.add (C := C63) mixed s63 Tryz.func25 ev25
def H24 : Nat → Head
  | 1000000 => ⟨[],[3]⟩
  | 1000014 => ⟨[],[9]⟩
  | 5000003 => ⟨[],[0,0,0,0,2,2,4,4,9,9,0,0,32,32,64,64,129,129,0,0,512,512,1024,1024,2049,2049,0,0,8192,8192,16384,16384,32769,32769,0,0,131072,131072,262144,262144,524289,524289,2097151,1,0,0,4194304,4194304,10485760,10485760,33554431,16777216]⟩
  | 5000015 => ⟨[],[0,0,0,0,2,2,4,4,8,8,0,0,32,32,80,80,255,1,511,256,767,640]⟩
  | 5000018 => ⟨[],[0,0,0,0,2,2,4,4,8,8,0,0,32,32,64,64,0,0,256,256,512,512,1152,1152,2048,2048,4112,4112,16383,1,32767,16384,49151,40960]⟩
  | _ => ⟨[],[]⟩
noncomputable def C24 : Ctx := Ctx.addI C25 24 H24 9000024 Tryz.f24
theorem s24 : C24.Sound := Ctx.Sound.addI (C := C25) mixed s25 Tryz.func24
def H8 : Nat → Head
  | 5 => ⟨[.data 3 (.int .i64),.data 21 (.int .i64),.crow 8192 9 10010245 74 (.pair (.int .u64) (.int .u64)),.crow 8192 10 10010757 63 (.pair (.int .i64) (.pair (.int .u64) (.int .u64))),.boxs 8192 10010245 10010757 (.pair (.int .u64) (.pair (.int .i64) (.pair (.int .u64) (.pair (.int .u64) (.pair (.slice 63 (.pair (.int .i64) (.pair (.int .u64) (.int .u64)))) (.pair (.int .i64) (.pair (.int .u64) (.pair (.int .u64) (.int .u64))))))))) .unit .unit],[65536]⟩
  | 3000000 => ⟨[],[12682147545791602688]⟩
  | 3000001 => ⟨[],[12682147545791602688]⟩
  | 3000002 => ⟨[],[12682147545791602688]⟩
  | 3000003 => ⟨[],[12682147545791602688]⟩
  | 3000004 => ⟨[],[12682147545791602688]⟩
  | 3000005 => ⟨[],[12682147545791602688]⟩
  | 3000006 => ⟨[],[12682147545791602688]⟩
  | 3000007 => ⟨[],[12682147545791602688]⟩
  | 3000008 => ⟨[],[12682147545791602688]⟩
  | 3000009 => ⟨[],[12682147545791602688]⟩
  | 3000010 => ⟨[],[12682147545791602688]⟩
  | 3000011 => ⟨[],[12682147545791602688]⟩
  | 3000012 => ⟨[],[12682147545791602688]⟩
  | 3000013 => ⟨[],[12682147545791602688]⟩
  | _ => ⟨[],[]⟩
noncomputable def F8 (b : List Int) : Option ((Int×Int×Int×Int×(List (Int×(Int×Int)))×Int×Int×Int×Int×(List (Int×Int))×(List (Int×(Int×Int))))×Int) :=
 bif decide (4096 < (b.length : Int)) then (
 some ((0,0,0,0,([] : List (Int×(Int×Int))),0,0,0,0,([] : List (Int×Int)),([] : List (Int×(Int×Int)))),4))
 else (
 (F23 b).bind fun r1 =>
 lfp (fun (rec2 : (Int×Int×List (Int×Int)×List (Int×(Int×Int))×((Int×(Int×(Int×(Int×(List (Int×(Int×Int))×(Int×(Int×(Int×Int))))))))×(Unit×Unit))) → Option ((Int×Int×Int×Int×(List (Int×(Int×Int)))×Int×Int×Int×Int×(List (Int×Int))×(List (Int×(Int×Int))))×Int)) (x2 : Int×Int×List (Int×Int)×List (Int×(Int×Int))×((Int×(Int×(Int×(Int×(List (Int×(Int×Int))×(Int×(Int×(Int×Int))))))))×(Unit×Unit))) =>
  bif decide (x2.2.1 < (r1.1.length : Int)) then (
  bif inb x2.2.1 r1.1.length then
  (F62 ((rd (.pair (.int .u64) (.slice 5 (.int .u8))) r1.1 x2.2.1).2)).bind fun r3 =>
  bif decide ((rd (.pair (.int .u64) (.slice 5 (.int .u8))) r1.1 x2.2.1).1 = 1) then (
  bif (bif decide (r3.2 = 0) then decide ((r3.1.length : Int) = 1) else false) then (
  bif inb 0 r3.1.length then
  rec2 (x2.1,(IntKind.wrap .i64 (x2.2.1 + 1)),x2.2.2.1,x2.2.2.2.1,(((rd (.int .u64) r3.1 0),(x2.2.2.2.2.1.2.1,(x2.2.2.2.2.1.2.2.1,(x2.2.2.2.2.1.2.2.2.1,(x2.2.2.2.2.1.2.2.2.2.1,(x2.2.2.2.2.1.2.2.2.2.2.1,(x2.2.2.2.2.1.2.2.2.2.2.2.1,(x2.2.2.2.2.1.2.2.2.2.2.2.2.1,x2.2.2.2.2.1.2.2.2.2.2.2.2.2)))))))),((),())))
  else none)
  else (
  bif ((bif decide ((rd (.pair (.int .u64) (.slice 5 (.int .u8))) r1.1 x2.2.1).1 = 2) then (bif decide (r3.2 = 0) then decide ((r3.1.length : Int) = 1) else false) else false) == true) then (
  bif inb 0 r3.1.length then
  bif decide ((rd (.int .u64) r3.1 0) < 16) then (
  bif inb 0 r3.1.length then
  rec2 (x2.1,(IntKind.wrap .i64 (x2.2.1 + 1)),x2.2.2.1,x2.2.2.2.1,((x2.2.2.2.2.1.1,((IntKind.wrap .i64 (rd (.int .u64) r3.1 0)),(x2.2.2.2.2.1.2.2.1,(x2.2.2.2.2.1.2.2.2.1,(x2.2.2.2.2.1.2.2.2.2.1,(x2.2.2.2.2.1.2.2.2.2.2.1,(x2.2.2.2.2.1.2.2.2.2.2.2.1,(x2.2.2.2.2.1.2.2.2.2.2.2.2.1,x2.2.2.2.2.1.2.2.2.2.2.2.2.2)))))))),((),())))
  else none)
  else (
  bif decide ((rd (.pair (.int .u64) (.slice 5 (.int .u8))) r1.1 x2.2.1).1 = 4) then (
  (F63 ((rd (.pair (.int .u64) (.slice 5 (.int .u8))) r1.1 x2.2.1).2)).bind fun r4 =>
  bif (!decide (r4.2 = 0)) then (
  some ((0,0,0,0,([] : List (Int×(Int×Int))),0,0,0,0,([] : List (Int×Int)),([] : List (Int×(Int×Int)))),2))
  else (
  rec2 (x2.1,(IntKind.wrap .i64 (x2.2.1 + 1)),x2.2.2.1,x2.2.2.2.1,((x2.2.2.2.2.1.1,(x2.2.2.2.2.1.2.1,(x2.2.2.2.2.1.2.2.1,(r4.1.1,(r4.1.2.1,(r4.1.2.2,(x2.2.2.2.2.1.2.2.2.2.2.2.1,(x2.2.2.2.2.1.2.2.2.2.2.2.2.1,x2.2.2.2.2.1.2.2.2.2.2.2.2.2)))))))),((),())))))
  else (
  bif decide (48 ≤ (rd (.pair (.int .u64) (.slice 5 (.int .u8))) r1.1 x2.2.1).1) then (
  (F64 ((rd (.pair (.int .u64) (.slice 5 (.int .u8))) r1.1 x2.2.1).2)).bind fun r5 =>
  (fun o => both o o) (
  bif decide ((x2.2.2.2.1.length + 1) * 24 ≤ LIM) then
  bif (!decide (r5.2 = 0)) then (
  some ((0,0,0,0,([] : List (Int×(Int×Int))),0,0,0,0,([] : List (Int×Int)),([] : List (Int×(Int×Int)))),2))
  else (
  rec2 (x2.1,(IntKind.wrap .i64 (x2.2.1 + 1)),x2.2.2.1,(x2.2.2.2.1 ++ ([(r5.1.1,(r5.1.2.1,r5.1.2.2))])),((x2.2.2.2.2.1.1,(x2.2.2.2.2.1.2.1,(x2.2.2.2.2.1.2.2.1,(x2.2.2.2.2.1.2.2.2.1,(x2.2.2.2.2.1.2.2.2.2.1,(x2.2.2.2.2.1.2.2.2.2.2.1,(x2.2.2.2.2.1.2.2.2.2.2.2.1,(x2.2.2.2.2.1.2.2.2.2.2.2.2.1,x2.2.2.2.2.1.2.2.2.2.2.2.2.2)))))))),((),()))))
  else none))
  else (
  bif (bif (bif decide (32 ≤ (rd (.pair (.int .u64) (.slice 5 (.int .u8))) r1.1 x2.2.1).1) then decide (r3.2 = 0) else false) then decide ((r3.1.length : Int) = 2) else false) then (
  bif inb 0 r3.1.length then
  bif inb 1 r3.1.length then
  (fun o => both (both o o) (both (both o (both o o)) (both o (both o o)))) (
  bif decide ((x2.2.2.1.length + 1) * 16 ≤ LIM) then
  rec2 (x2.1,(IntKind.wrap .i64 (x2.2.1 + 1)),(x2.2.2.1 ++ ([((rd (.int .u64) r3.1 0),(rd (.int .u64) r3.1 1))])),x2.2.2.2.1,((x2.2.2.2.2.1.1,(x2.2.2.2.2.1.2.1,(x2.2.2.2.2.1.2.2.1,(x2.2.2.2.2.1.2.2.2.1,(x2.2.2.2.2.1.2.2.2.2.1,(x2.2.2.2.2.1.2.2.2.2.2.1,(x2.2.2.2.2.1.2.2.2.2.2.2.1,(x2.2.2.2.2.1.2.2.2.2.2.2.2.1,x2.2.2.2.2.1.2.2.2.2.2.2.2.2)))))))),((),())))
  else none)
  else none
  else none)
  else (
  some ((0,0,0,0,([] : List (Int×(Int×Int))),0,0,0,0,([] : List (Int×Int)),([] : List (Int×(Int×Int)))),2)))))
  else none)
  else (
  bif decide ((rd (.pair (.int .u64) (.slice 5 (.int .u8))) r1.1 x2.2.1).1 = 4) then (
  (F63 ((rd (.pair (.int .u64) (.slice 5 (.int .u8))) r1.1 x2.2.1).2)).bind fun r6 =>
  bif (!decide (r6.2 = 0)) then (
  some ((0,0,0,0,([] : List (Int×(Int×Int))),0,0,0,0,([] : List (Int×Int)),([] : List (Int×(Int×Int)))),2))
  else (
  rec2 (x2.1,(IntKind.wrap .i64 (x2.2.1 + 1)),x2.2.2.1,x2.2.2.2.1,((x2.2.2.2.2.1.1,(x2.2.2.2.2.1.2.1,(x2.2.2.2.2.1.2.2.1,(r6.1.1,(r6.1.2.1,(r6.1.2.2,(x2.2.2.2.2.1.2.2.2.2.2.2.1,(x2.2.2.2.2.1.2.2.2.2.2.2.2.1,x2.2.2.2.2.1.2.2.2.2.2.2.2.2)))))))),((),())))))
  else (
  bif decide (48 ≤ (rd (.pair (.int .u64) (.slice 5 (.int .u8))) r1.1 x2.2.1).1) then (
  (F64 ((rd (.pair (.int .u64) (.slice 5 (.int .u8))) r1.1 x2.2.1).2)).bind fun r7 =>
  (fun o => both o o) (
  bif decide ((x2.2.2.2.1.length + 1) * 24 ≤ LIM) then
  bif (!decide (r7.2 = 0)) then (
  some ((0,0,0,0,([] : List (Int×(Int×Int))),0,0,0,0,([] : List (Int×Int)),([] : List (Int×(Int×Int)))),2))
  else (
  rec2 (x2.1,(IntKind.wrap .i64 (x2.2.1 + 1)),x2.2.2.1,(x2.2.2.2.1 ++ ([(r7.1.1,(r7.1.2.1,r7.1.2.2))])),((x2.2.2.2.2.1.1,(x2.2.2.2.2.1.2.1,(x2.2.2.2.2.1.2.2.1,(x2.2.2.2.2.1.2.2.2.1,(x2.2.2.2.2.1.2.2.2.2.1,(x2.2.2.2.2.1.2.2.2.2.2.1,(x2.2.2.2.2.1.2.2.2.2.2.2.1,(x2.2.2.2.2.1.2.2.2.2.2.2.2.1,x2.2.2.2.2.1.2.2.2.2.2.2.2.2)))))))),((),()))))
  else none))
  else (
  bif (bif (bif decide (32 ≤ (rd (.pair (.int .u64) (.slice 5 (.int .u8))) r1.1 x2.2.1).1) then decide (r3.2 = 0) else false) then decide ((r3.1.length : Int) = 2) else false) then (
  bif inb 0 r3.1.length then
  bif inb 1 r3.1.length then
  (fun o => both (both o o) (both (both o (both o o)) (both o (both o o)))) (
  bif decide ((x2.2.2.1.length + 1) * 16 ≤ LIM) then
  rec2 (x2.1,(IntKind.wrap .i64 (x2.2.1 + 1)),(x2.2.2.1 ++ ([((rd (.int .u64) r3.1 0),(rd (.int .u64) r3.1 1))])),x2.2.2.2.1,((x2.2.2.2.2.1.1,(x2.2.2.2.2.1.2.1,(x2.2.2.2.2.1.2.2.1,(x2.2.2.2.2.1.2.2.2.1,(x2.2.2.2.2.1.2.2.2.2.1,(x2.2.2.2.2.1.2.2.2.2.2.1,(x2.2.2.2.2.1.2.2.2.2.2.2.1,(x2.2.2.2.2.1.2.2.2.2.2.2.2.1,x2.2.2.2.2.1.2.2.2.2.2.2.2.2)))))))),((),())))
  else none)
  else none
  else none)
  else (
  some ((0,0,0,0,([] : List (Int×(Int×Int))),0,0,0,0,([] : List (Int×Int)),([] : List (Int×(Int×Int)))),2)))))))
  else (
  bif decide ((rd (.pair (.int .u64) (.slice 5 (.int .u8))) r1.1 x2.2.1).1 = 3) then (
  bif (bif decide (r3.2 = 0) then decide ((r3.1.length : Int) = 1) else false) then (
  bif inb 0 r3.1.length then
  rec2 (x2.1,(IntKind.wrap .i64 (x2.2.1 + 1)),x2.2.2.1,x2.2.2.2.1,((x2.2.2.2.2.1.1,(x2.2.2.2.2.1.2.1,((rd (.int .u64) r3.1 0),(x2.2.2.2.2.1.2.2.2.1,(x2.2.2.2.2.1.2.2.2.2.1,(x2.2.2.2.2.1.2.2.2.2.2.1,(x2.2.2.2.2.1.2.2.2.2.2.2.1,(x2.2.2.2.2.1.2.2.2.2.2.2.2.1,x2.2.2.2.2.1.2.2.2.2.2.2.2.2)))))))),((),())))
  else none)
  else (
  bif ((bif decide ((rd (.pair (.int .u64) (.slice 5 (.int .u8))) r1.1 x2.2.1).1 = 2) then (bif decide (r3.2 = 0) then decide ((r3.1.length : Int) = 1) else false) else false) == true) then (
  bif inb 0 r3.1.length then
  bif decide ((rd (.int .u64) r3.1 0) < 16) then (
  bif inb 0 r3.1.length then
  rec2 (x2.1,(IntKind.wrap .i64 (x2.2.1 + 1)),x2.2.2.1,x2.2.2.2.1,((x2.2.2.2.2.1.1,((IntKind.wrap .i64 (rd (.int .u64) r3.1 0)),(x2.2.2.2.2.1.2.2.1,(x2.2.2.2.2.1.2.2.2.1,(x2.2.2.2.2.1.2.2.2.2.1,(x2.2.2.2.2.1.2.2.2.2.2.1,(x2.2.2.2.2.1.2.2.2.2.2.2.1,(x2.2.2.2.2.1.2.2.2.2.2.2.2.1,x2.2.2.2.2.1.2.2.2.2.2.2.2.2)))))))),((),())))
  else none)
  else (
  bif decide ((rd (.pair (.int .u64) (.slice 5 (.int .u8))) r1.1 x2.2.1).1 = 4) then (
  (F63 ((rd (.pair (.int .u64) (.slice 5 (.int .u8))) r1.1 x2.2.1).2)).bind fun r4 =>
  bif (!decide (r4.2 = 0)) then (
  some ((0,0,0,0,([] : List (Int×(Int×Int))),0,0,0,0,([] : List (Int×Int)),([] : List (Int×(Int×Int)))),2))
  else (
  rec2 (x2.1,(IntKind.wrap .i64 (x2.2.1 + 1)),x2.2.2.1,x2.2.2.2.1,((x2.2.2.2.2.1.1,(x2.2.2.2.2.1.2.1,(x2.2.2.2.2.1.2.2.1,(r4.1.1,(r4.1.2.1,(r4.1.2.2,(x2.2.2.2.2.1.2.2.2.2.2.2.1,(x2.2.2.2.2.1.2.2.2.2.2.2.2.1,x2.2.2.2.2.1.2.2.2.2.2.2.2.2)))))))),((),())))))
  else (
  bif decide (48 ≤ (rd (.pair (.int .u64) (.slice 5 (.int .u8))) r1.1 x2.2.1).1) then (
  (F64 ((rd (.pair (.int .u64) (.slice 5 (.int .u8))) r1.1 x2.2.1).2)).bind fun r5 =>
  (fun o => both o o) (
  bif decide ((x2.2.2.2.1.length + 1) * 24 ≤ LIM) then
  bif (!decide (r5.2 = 0)) then (
  some ((0,0,0,0,([] : List (Int×(Int×Int))),0,0,0,0,([] : List (Int×Int)),([] : List (Int×(Int×Int)))),2))
  else (
  rec2 (x2.1,(IntKind.wrap .i64 (x2.2.1 + 1)),x2.2.2.1,(x2.2.2.2.1 ++ ([(r5.1.1,(r5.1.2.1,r5.1.2.2))])),((x2.2.2.2.2.1.1,(x2.2.2.2.2.1.2.1,(x2.2.2.2.2.1.2.2.1,(x2.2.2.2.2.1.2.2.2.1,(x2.2.2.2.2.1.2.2.2.2.1,(x2.2.2.2.2.1.2.2.2.2.2.1,(x2.2.2.2.2.1.2.2.2.2.2.2.1,(x2.2.2.2.2.1.2.2.2.2.2.2.2.1,x2.2.2.2.2.1.2.2.2.2.2.2.2.2)))))))),((),()))))
  else none))
  else (
  bif (bif (bif decide (32 ≤ (rd (.pair (.int .u64) (.slice 5 (.int .u8))) r1.1 x2.2.1).1) then decide (r3.2 = 0) else false) then decide ((r3.1.length : Int) = 2) else false) then (
  bif inb 0 r3.1.length then
  bif inb 1 r3.1.length then
  (fun o => both (both o o) (both (both o (both o o)) (both o (both o o)))) (
  bif decide ((x2.2.2.1.length + 1) * 16 ≤ LIM) then
  rec2 (x2.1,(IntKind.wrap .i64 (x2.2.1 + 1)),(x2.2.2.1 ++ ([((rd (.int .u64) r3.1 0),(rd (.int .u64) r3.1 1))])),x2.2.2.2.1,((x2.2.2.2.2.1.1,(x2.2.2.2.2.1.2.1,(x2.2.2.2.2.1.2.2.1,(x2.2.2.2.2.1.2.2.2.1,(x2.2.2.2.2.1.2.2.2.2.1,(x2.2.2.2.2.1.2.2.2.2.2.1,(x2.2.2.2.2.1.2.2.2.2.2.2.1,(x2.2.2.2.2.1.2.2.2.2.2.2.2.1,x2.2.2.2.2.1.2.2.2.2.2.2.2.2)))))))),((),())))
  else none)
  else none
  else none)
  else (
  some ((0,0,0,0,([] : List (Int×(Int×Int))),0,0,0,0,([] : List (Int×Int)),([] : List (Int×(Int×Int)))),2)))))
  else none)
  else (
  bif decide ((rd (.pair (.int .u64) (.slice 5 (.int .u8))) r1.1 x2.2.1).1 = 4) then (
  (F63 ((rd (.pair (.int .u64) (.slice 5 (.int .u8))) r1.1 x2.2.1).2)).bind fun r6 =>
  bif (!decide (r6.2 = 0)) then (
  some ((0,0,0,0,([] : List (Int×(Int×Int))),0,0,0,0,([] : List (Int×Int)),([] : List (Int×(Int×Int)))),2))
  else (
  rec2 (x2.1,(IntKind.wrap .i64 (x2.2.1 + 1)),x2.2.2.1,x2.2.2.2.1,((x2.2.2.2.2.1.1,(x2.2.2.2.2.1.2.1,(x2.2.2.2.2.1.2.2.1,(r6.1.1,(r6.1.2.1,(r6.1.2.2,(x2.2.2.2.2.1.2.2.2.2.2.2.1,(x2.2.2.2.2.1.2.2.2.2.2.2.2.1,x2.2.2.2.2.1.2.2.2.2.2.2.2.2)))))))),((),())))))
  else (
  bif decide (48 ≤ (rd (.pair (.int .u64) (.slice 5 (.int .u8))) r1.1 x2.2.1).1) then (
  (F64 ((rd (.pair (.int .u64) (.slice 5 (.int .u8))) r1.1 x2.2.1).2)).bind fun r7 =>
  (fun o => both o o) (
  bif decide ((x2.2.2.2.1.length + 1) * 24 ≤ LIM) then
  bif (!decide (r7.2 = 0)) then (
  some ((0,0,0,0,([] : List (Int×(Int×Int))),0,0,0,0,([] : List (Int×Int)),([] : List (Int×(Int×Int)))),2))
  else (
  rec2 (x2.1,(IntKind.wrap .i64 (x2.2.1 + 1)),x2.2.2.1,(x2.2.2.2.1 ++ ([(r7.1.1,(r7.1.2.1,r7.1.2.2))])),((x2.2.2.2.2.1.1,(x2.2.2.2.2.1.2.1,(x2.2.2.2.2.1.2.2.1,(x2.2.2.2.2.1.2.2.2.1,(x2.2.2.2.2.1.2.2.2.2.1,(x2.2.2.2.2.1.2.2.2.2.2.1,(x2.2.2.2.2.1.2.2.2.2.2.2.1,(x2.2.2.2.2.1.2.2.2.2.2.2.2.1,x2.2.2.2.2.1.2.2.2.2.2.2.2.2)))))))),((),()))))
  else none))
  else (
  bif (bif (bif decide (32 ≤ (rd (.pair (.int .u64) (.slice 5 (.int .u8))) r1.1 x2.2.1).1) then decide (r3.2 = 0) else false) then decide ((r3.1.length : Int) = 2) else false) then (
  bif inb 0 r3.1.length then
  bif inb 1 r3.1.length then
  (fun o => both (both o o) (both (both o (both o o)) (both o (both o o)))) (
  bif decide ((x2.2.2.1.length + 1) * 16 ≤ LIM) then
  rec2 (x2.1,(IntKind.wrap .i64 (x2.2.1 + 1)),(x2.2.2.1 ++ ([((rd (.int .u64) r3.1 0),(rd (.int .u64) r3.1 1))])),x2.2.2.2.1,((x2.2.2.2.2.1.1,(x2.2.2.2.2.1.2.1,(x2.2.2.2.2.1.2.2.1,(x2.2.2.2.2.1.2.2.2.1,(x2.2.2.2.2.1.2.2.2.2.1,(x2.2.2.2.2.1.2.2.2.2.2.1,(x2.2.2.2.2.1.2.2.2.2.2.2.1,(x2.2.2.2.2.1.2.2.2.2.2.2.2.1,x2.2.2.2.2.1.2.2.2.2.2.2.2.2)))))))),((),())))
  else none)
  else none
  else none)
  else (
  some ((0,0,0,0,([] : List (Int×(Int×Int))),0,0,0,0,([] : List (Int×Int)),([] : List (Int×(Int×Int)))),2)))))))
  else (
  bif decide ((rd (.pair (.int .u64) (.slice 5 (.int .u8))) r1.1 x2.2.1).1 = 5) then (
  bif (bif decide (r3.2 = 0) then decide ((r3.1.length : Int) = 1) else false) then (
  bif inb 0 r3.1.length then
  rec2 (x2.1,(IntKind.wrap .i64 (x2.2.1 + 1)),x2.2.2.1,x2.2.2.2.1,((x2.2.2.2.2.1.1,(x2.2.2.2.2.1.2.1,(x2.2.2.2.2.1.2.2.1,(x2.2.2.2.2.1.2.2.2.1,(x2.2.2.2.2.1.2.2.2.2.1,(x2.2.2.2.2.1.2.2.2.2.2.1,((rd (.int .u64) r3.1 0),(x2.2.2.2.2.1.2.2.2.2.2.2.2.1,x2.2.2.2.2.1.2.2.2.2.2.2.2.2)))))))),((),())))
  else none)
  else (
  bif ((bif decide ((rd (.pair (.int .u64) (.slice 5 (.int .u8))) r1.1 x2.2.1).1 = 2) then (bif decide (r3.2 = 0) then decide ((r3.1.length : Int) = 1) else false) else false) == true) then (
  bif inb 0 r3.1.length then
  bif decide ((rd (.int .u64) r3.1 0) < 16) then (
  bif inb 0 r3.1.length then
  rec2 (x2.1,(IntKind.wrap .i64 (x2.2.1 + 1)),x2.2.2.1,x2.2.2.2.1,((x2.2.2.2.2.1.1,((IntKind.wrap .i64 (rd (.int .u64) r3.1 0)),(x2.2.2.2.2.1.2.2.1,(x2.2.2.2.2.1.2.2.2.1,(x2.2.2.2.2.1.2.2.2.2.1,(x2.2.2.2.2.1.2.2.2.2.2.1,(x2.2.2.2.2.1.2.2.2.2.2.2.1,(x2.2.2.2.2.1.2.2.2.2.2.2.2.1,x2.2.2.2.2.1.2.2.2.2.2.2.2.2)))))))),((),())))
  else none)
  else (
  bif decide ((rd (.pair (.int .u64) (.slice 5 (.int .u8))) r1.1 x2.2.1).1 = 4) then (
  (F63 ((rd (.pair (.int .u64) (.slice 5 (.int .u8))) r1.1 x2.2.1).2)).bind fun r4 =>
  bif (!decide (r4.2 = 0)) then (
  some ((0,0,0,0,([] : List (Int×(Int×Int))),0,0,0,0,([] : List (Int×Int)),([] : List (Int×(Int×Int)))),2))
  else (
  rec2 (x2.1,(IntKind.wrap .i64 (x2.2.1 + 1)),x2.2.2.1,x2.2.2.2.1,((x2.2.2.2.2.1.1,(x2.2.2.2.2.1.2.1,(x2.2.2.2.2.1.2.2.1,(r4.1.1,(r4.1.2.1,(r4.1.2.2,(x2.2.2.2.2.1.2.2.2.2.2.2.1,(x2.2.2.2.2.1.2.2.2.2.2.2.2.1,x2.2.2.2.2.1.2.2.2.2.2.2.2.2)))))))),((),())))))
  else (
  bif decide (48 ≤ (rd (.pair (.int .u64) (.slice 5 (.int .u8))) r1.1 x2.2.1).1) then (
  (F64 ((rd (.pair (.int .u64) (.slice 5 (.int .u8))) r1.1 x2.2.1).2)).bind fun r5 =>
  (fun o => both o o) (
  bif decide ((x2.2.2.2.1.length + 1) * 24 ≤ LIM) then
  bif (!decide (r5.2 = 0)) then (
  some ((0,0,0,0,([] : List (Int×(Int×Int))),0,0,0,0,([] : List (Int×Int)),([] : List (Int×(Int×Int)))),2))
  else (
  rec2 (x2.1,(IntKind.wrap .i64 (x2.2.1 + 1)),x2.2.2.1,(x2.2.2.2.1 ++ ([(r5.1.1,(r5.1.2.1,r5.1.2.2))])),((x2.2.2.2.2.1.1,(x2.2.2.2.2.1.2.1,(x2.2.2.2.2.1.2.2.1,(x2.2.2.2.2.1.2.2.2.1,(x2.2.2.2.2.1.2.2.2.2.1,(x2.2.2.2.2.1.2.2.2.2.2.1,(x2.2.2.2.2.1.2.2.2.2.2.2.1,(x2.2.2.2.2.1.2.2.2.2.2.2.2.1,x2.2.2.2.2.1.2.2.2.2.2.2.2.2)))))))),((),()))))
  else none))
  else (
  bif (bif (bif decide (32 ≤ (rd (.pair (.int .u64) (.slice 5 (.int .u8))) r1.1 x2.2.1).1) then decide (r3.2 = 0) else false) then decide ((r3.1.length : Int) = 2) else false) then (
  bif inb 0 r3.1.length then
  bif inb 1 r3.1.length then
  (fun o => both (both o o) (both (both o (both o o)) (both o (both o o)))) (
  bif decide ((x2.2.2.1.length + 1) * 16 ≤ LIM) then
  rec2 (x2.1,(IntKind.wrap .i64 (x2.2.1 + 1)),(x2.2.2.1 ++ ([((rd (.int .u64) r3.1 0),(rd (.int .u64) r3.1 1))])),x2.2.2.2.1,((x2.2.2.2.2.1.1,(x2.2.2.2.2.1.2.1,(x2.2.2.2.2.1.2.2.1,(x2.2.2.2.2.1.2.2.2.1,(x2.2.2.2.2.1.2.2.2.2.1,(x2.2.2.2.2.1.2.2.2.2.2.1,(x2.2.2.2.2.1.2.2.2.2.2.2.1,(x2.2.2.2.2.1.2.2.2.2.2.2.2.1,x2.2.2.2.2.1.2.2.2.2.2.2.2.2)))))))),((),())))
  else none)
  else none
  else none)
  else (
  some ((0,0,0,0,([] : List (Int×(Int×Int))),0,0,0,0,([] : List (Int×Int)),([] : List (Int×(Int×Int)))),2)))))
  else none)
  else (
  bif decide ((rd (.pair (.int .u64) (.slice 5 (.int .u8))) r1.1 x2.2.1).1 = 4) then (
  (F63 ((rd (.pair (.int .u64) (.slice 5 (.int .u8))) r1.1 x2.2.1).2)).bind fun r6 =>
  bif (!decide (r6.2 = 0)) then (
  some ((0,0,0,0,([] : List (Int×(Int×Int))),0,0,0,0,([] : List (Int×Int)),([] : List (Int×(Int×Int)))),2))
  else (
  rec2 (x2.1,(IntKind.wrap .i64 (x2.2.1 + 1)),x2.2.2.1,x2.2.2.2.1,((x2.2.2.2.2.1.1,(x2.2.2.2.2.1.2.1,(x2.2.2.2.2.1.2.2.1,(r6.1.1,(r6.1.2.1,(r6.1.2.2,(x2.2.2.2.2.1.2.2.2.2.2.2.1,(x2.2.2.2.2.1.2.2.2.2.2.2.2.1,x2.2.2.2.2.1.2.2.2.2.2.2.2.2)))))))),((),())))))
  else (
  bif decide (48 ≤ (rd (.pair (.int .u64) (.slice 5 (.int .u8))) r1.1 x2.2.1).1) then (
  (F64 ((rd (.pair (.int .u64) (.slice 5 (.int .u8))) r1.1 x2.2.1).2)).bind fun r7 =>
  (fun o => both o o) (
  bif decide ((x2.2.2.2.1.length + 1) * 24 ≤ LIM) then
  bif (!decide (r7.2 = 0)) then (
  some ((0,0,0,0,([] : List (Int×(Int×Int))),0,0,0,0,([] : List (Int×Int)),([] : List (Int×(Int×Int)))),2))
  else (
  rec2 (x2.1,(IntKind.wrap .i64 (x2.2.1 + 1)),x2.2.2.1,(x2.2.2.2.1 ++ ([(r7.1.1,(r7.1.2.1,r7.1.2.2))])),((x2.2.2.2.2.1.1,(x2.2.2.2.2.1.2.1,(x2.2.2.2.2.1.2.2.1,(x2.2.2.2.2.1.2.2.2.1,(x2.2.2.2.2.1.2.2.2.2.1,(x2.2.2.2.2.1.2.2.2.2.2.1,(x2.2.2.2.2.1.2.2.2.2.2.2.1,(x2.2.2.2.2.1.2.2.2.2.2.2.2.1,x2.2.2.2.2.1.2.2.2.2.2.2.2.2)))))))),((),()))))
  else none))
  else (
  bif (bif (bif decide (32 ≤ (rd (.pair (.int .u64) (.slice 5 (.int .u8))) r1.1 x2.2.1).1) then decide (r3.2 = 0) else false) then decide ((r3.1.length : Int) = 2) else false) then (
  bif inb 0 r3.1.length then
  bif inb 1 r3.1.length then
  (fun o => both (both o o) (both (both o (both o o)) (both o (both o o)))) (
  bif decide ((x2.2.2.1.length + 1) * 16 ≤ LIM) then
  rec2 (x2.1,(IntKind.wrap .i64 (x2.2.1 + 1)),(x2.2.2.1 ++ ([((rd (.int .u64) r3.1 0),(rd (.int .u64) r3.1 1))])),x2.2.2.2.1,((x2.2.2.2.2.1.1,(x2.2.2.2.2.1.2.1,(x2.2.2.2.2.1.2.2.1,(x2.2.2.2.2.1.2.2.2.1,(x2.2.2.2.2.1.2.2.2.2.1,(x2.2.2.2.2.1.2.2.2.2.2.1,(x2.2.2.2.2.1.2.2.2.2.2.2.1,(x2.2.2.2.2.1.2.2.2.2.2.2.2.1,x2.2.2.2.2.1.2.2.2.2.2.2.2.2)))))))),((),())))
  else none)
  else none
  else none)
  else (
  some ((0,0,0,0,([] : List (Int×(Int×Int))),0,0,0,0,([] : List (Int×Int)),([] : List (Int×(Int×Int)))),2)))))))
  else (
  bif decide ((rd (.pair (.int .u64) (.slice 5 (.int .u8))) r1.1 x2.2.1).1 = 6) then (
  bif (bif decide (r3.2 = 0) then decide ((r3.1.length : Int) = 1) else false) then (
  bif inb 0 r3.1.length then
  rec2 (x2.1,(IntKind.wrap .i64 (x2.2.1 + 1)),x2.2.2.1,x2.2.2.2.1,((x2.2.2.2.2.1.1,(x2.2.2.2.2.1.2.1,(x2.2.2.2.2.1.2.2.1,(x2.2.2.2.2.1.2.2.2.1,(x2.2.2.2.2.1.2.2.2.2.1,(x2.2.2.2.2.1.2.2.2.2.2.1,(x2.2.2.2.2.1.2.2.2.2.2.2.1,((rd (.int .u64) r3.1 0),x2.2.2.2.2.1.2.2.2.2.2.2.2.2)))))))),((),())))
  else none)
  else (
  bif ((bif decide ((rd (.pair (.int .u64) (.slice 5 (.int .u8))) r1.1 x2.2.1).1 = 2) then (bif decide (r3.2 = 0) then decide ((r3.1.length : Int) = 1) else false) else false) == true) then (
  bif inb 0 r3.1.length then
  bif decide ((rd (.int .u64) r3.1 0) < 16) then (
  bif inb 0 r3.1.length then
  rec2 (x2.1,(IntKind.wrap .i64 (x2.2.1 + 1)),x2.2.2.1,x2.2.2.2.1,((x2.2.2.2.2.1.1,((IntKind.wrap .i64 (rd (.int .u64) r3.1 0)),(x2.2.2.2.2.1.2.2.1,(x2.2.2.2.2.1.2.2.2.1,(x2.2.2.2.2.1.2.2.2.2.1,(x2.2.2.2.2.1.2.2.2.2.2.1,(x2.2.2.2.2.1.2.2.2.2.2.2.1,(x2.2.2.2.2.1.2.2.2.2.2.2.2.1,x2.2.2.2.2.1.2.2.2.2.2.2.2.2)))))))),((),())))
  else none)
  else (
  bif decide ((rd (.pair (.int .u64) (.slice 5 (.int .u8))) r1.1 x2.2.1).1 = 4) then (
  (F63 ((rd (.pair (.int .u64) (.slice 5 (.int .u8))) r1.1 x2.2.1).2)).bind fun r4 =>
  bif (!decide (r4.2 = 0)) then (
  some ((0,0,0,0,([] : List (Int×(Int×Int))),0,0,0,0,([] : List (Int×Int)),([] : List (Int×(Int×Int)))),2))
  else (
  rec2 (x2.1,(IntKind.wrap .i64 (x2.2.1 + 1)),x2.2.2.1,x2.2.2.2.1,((x2.2.2.2.2.1.1,(x2.2.2.2.2.1.2.1,(x2.2.2.2.2.1.2.2.1,(r4.1.1,(r4.1.2.1,(r4.1.2.2,(x2.2.2.2.2.1.2.2.2.2.2.2.1,(x2.2.2.2.2.1.2.2.2.2.2.2.2.1,x2.2.2.2.2.1.2.2.2.2.2.2.2.2)))))))),((),())))))
  else (
  bif decide (48 ≤ (rd (.pair (.int .u64) (.slice 5 (.int .u8))) r1.1 x2.2.1).1) then (
  (F64 ((rd (.pair (.int .u64) (.slice 5 (.int .u8))) r1.1 x2.2.1).2)).bind fun r5 =>
  (fun o => both o o) (
  bif decide ((x2.2.2.2.1.length + 1) * 24 ≤ LIM) then
  bif (!decide (r5.2 = 0)) then (
  some ((0,0,0,0,([] : List (Int×(Int×Int))),0,0,0,0,([] : List (Int×Int)),([] : List (Int×(Int×Int)))),2))
  else (
  rec2 (x2.1,(IntKind.wrap .i64 (x2.2.1 + 1)),x2.2.2.1,(x2.2.2.2.1 ++ ([(r5.1.1,(r5.1.2.1,r5.1.2.2))])),((x2.2.2.2.2.1.1,(x2.2.2.2.2.1.2.1,(x2.2.2.2.2.1.2.2.1,(x2.2.2.2.2.1.2.2.2.1,(x2.2.2.2.2.1.2.2.2.2.1,(x2.2.2.2.2.1.2.2.2.2.2.1,(x2.2.2.2.2.1.2.2.2.2.2.2.1,(x2.2.2.2.2.1.2.2.2.2.2.2.2.1,x2.2.2.2.2.1.2.2.2.2.2.2.2.2)))))))),((),()))))
  else none))
  else (
  bif (bif (bif decide (32 ≤ (rd (.pair (.int .u64) (.slice 5 (.int .u8))) r1.1 x2.2.1).1) then decide (r3.2 = 0) else false) then decide ((r3.1.length : Int) = 2) else false) then (
  bif inb 0 r3.1.length then
  bif inb 1 r3.1.length then
  (fun o => both (both o o) (both (both o (both o o)) (both o (both o o)))) (
  bif decide ((x2.2.2.1.length + 1) * 16 ≤ LIM) then
  rec2 (x2.1,(IntKind.wrap .i64 (x2.2.1 + 1)),(x2.2.2.1 ++ ([((rd (.int .u64) r3.1 0),(rd (.int .u64) r3.1 1))])),x2.2.2.2.1,((x2.2.2.2.2.1.1,(x2.2.2.2.2.1.2.1,(x2.2.2.2.2.1.2.2.1,(x2.2.2.2.2.1.2.2.2.1,(x2.2.2.2.2.1.2.2.2.2.1,(x2.2.2.2.2.1.2.2.2.2.2.1,(x2.2.2.2.2.1.2.2.2.2.2.2.1,(x2.2.2.2.2.1.2.2.2.2.2.2.2.1,x2.2.2.2.2.1.2.2.2.2.2.2.2.2)))))))),((),())))
  else none)
  else none
  else none)
  else (
  some ((0,0,0,0,([] : List (Int×(Int×Int))),0,0,0,0,([] : List (Int×Int)),([] : List (Int×(Int×Int)))),2)))))
  else none)
  else (
  bif decide ((rd (.pair (.int .u64) (.slice 5 (.int .u8))) r1.1 x2.2.1).1 = 4) then (
  (F63 ((rd (.pair (.int .u64) (.slice 5 (.int .u8))) r1.1 x2.2.1).2)).bind fun r6 =>
  bif (!decide (r6.2 = 0)) then (
  some ((0,0,0,0,([] : List (Int×(Int×Int))),0,0,0,0,([] : List (Int×Int)),([] : List (Int×(Int×Int)))),2))
  else (
  rec2 (x2.1,(IntKind.wrap .i64 (x2.2.1 + 1)),x2.2.2.1,x2.2.2.2.1,((x2.2.2.2.2.1.1,(x2.2.2.2.2.1.2.1,(x2.2.2.2.2.1.2.2.1,(r6.1.1,(r6.1.2.1,(r6.1.2.2,(x2.2.2.2.2.1.2.2.2.2.2.2.1,(x2.2.2.2.2.1.2.2.2.2.2.2.2.1,x2.2.2.2.2.1.2.2.2.2.2.2.2.2)))))))),((),())))))
  else (
  bif decide (48 ≤ (rd (.pair (.int .u64) (.slice 5 (.int .u8))) r1.1 x2.2.1).1) then (
  (F64 ((rd (.pair (.int .u64) (.slice 5 (.int .u8))) r1.1 x2.2.1).2)).bind fun r7 =>
  (fun o => both o o) (
  bif decide ((x2.2.2.2.1.length + 1) * 24 ≤ LIM) then
  bif (!decide (r7.2 = 0)) then (
  some ((0,0,0,0,([] : List (Int×(Int×Int))),0,0,0,0,([] : List (Int×Int)),([] : List (Int×(Int×Int)))),2))
  else (
  rec2 (x2.1,(IntKind.wrap .i64 (x2.2.1 + 1)),x2.2.2.1,(x2.2.2.2.1 ++ ([(r7.1.1,(r7.1.2.1,r7.1.2.2))])),((x2.2.2.2.2.1.1,(x2.2.2.2.2.1.2.1,(x2.2.2.2.2.1.2.2.1,(x2.2.2.2.2.1.2.2.2.1,(x2.2.2.2.2.1.2.2.2.2.1,(x2.2.2.2.2.1.2.2.2.2.2.1,(x2.2.2.2.2.1.2.2.2.2.2.2.1,(x2.2.2.2.2.1.2.2.2.2.2.2.2.1,x2.2.2.2.2.1.2.2.2.2.2.2.2.2)))))))),((),()))))
  else none))
  else (
  bif (bif (bif decide (32 ≤ (rd (.pair (.int .u64) (.slice 5 (.int .u8))) r1.1 x2.2.1).1) then decide (r3.2 = 0) else false) then decide ((r3.1.length : Int) = 2) else false) then (
  bif inb 0 r3.1.length then
  bif inb 1 r3.1.length then
  (fun o => both (both o o) (both (both o (both o o)) (both o (both o o)))) (
  bif decide ((x2.2.2.1.length + 1) * 16 ≤ LIM) then
  rec2 (x2.1,(IntKind.wrap .i64 (x2.2.1 + 1)),(x2.2.2.1 ++ ([((rd (.int .u64) r3.1 0),(rd (.int .u64) r3.1 1))])),x2.2.2.2.1,((x2.2.2.2.2.1.1,(x2.2.2.2.2.1.2.1,(x2.2.2.2.2.1.2.2.1,(x2.2.2.2.2.1.2.2.2.1,(x2.2.2.2.2.1.2.2.2.2.1,(x2.2.2.2.2.1.2.2.2.2.2.1,(x2.2.2.2.2.1.2.2.2.2.2.2.1,(x2.2.2.2.2.1.2.2.2.2.2.2.2.1,x2.2.2.2.2.1.2.2.2.2.2.2.2.2)))))))),((),())))
  else none)
  else none
  else none)
  else (
  some ((0,0,0,0,([] : List (Int×(Int×Int))),0,0,0,0,([] : List (Int×Int)),([] : List (Int×(Int×Int)))),2)))))))
  else (
  bif decide ((rd (.pair (.int .u64) (.slice 5 (.int .u8))) r1.1 x2.2.1).1 = 7) then (
  bif (bif decide (r3.2 = 0) then decide ((r3.1.length : Int) = 1) else false) then (
  bif inb 0 r3.1.length then
  rec2 (x2.1,(IntKind.wrap .i64 (x2.2.1 + 1)),x2.2.2.1,x2.2.2.2.1,((x2.2.2.2.2.1.1,(x2.2.2.2.2.1.2.1,(x2.2.2.2.2.1.2.2.1,(x2.2.2.2.2.1.2.2.2.1,(x2.2.2.2.2.1.2.2.2.2.1,(x2.2.2.2.2.1.2.2.2.2.2.1,(x2.2.2.2.2.1.2.2.2.2.2.2.1,(x2.2.2.2.2.1.2.2.2.2.2.2.2.1,(rd (.int .u64) r3.1 0))))))))),((),())))
  else none)
  else (
  bif ((bif decide ((rd (.pair (.int .u64) (.slice 5 (.int .u8))) r1.1 x2.2.1).1 = 2) then (bif decide (r3.2 = 0) then decide ((r3.1.length : Int) = 1) else false) else false) == true) then (
  bif inb 0 r3.1.length then
  bif decide ((rd (.int .u64) r3.1 0) < 16) then (
  bif inb 0 r3.1.length then
  rec2 (x2.1,(IntKind.wrap .i64 (x2.2.1 + 1)),x2.2.2.1,x2.2.2.2.1,((x2.2.2.2.2.1.1,((IntKind.wrap .i64 (rd (.int .u64) r3.1 0)),(x2.2.2.2.2.1.2.2.1,(x2.2.2.2.2.1.2.2.2.1,(x2.2.2.2.2.1.2.2.2.2.1,(x2.2.2.2.2.1.2.2.2.2.2.1,(x2.2.2.2.2.1.2.2.2.2.2.2.1,(x2.2.2.2.2.1.2.2.2.2.2.2.2.1,x2.2.2.2.2.1.2.2.2.2.2.2.2.2)))))))),((),())))
  else none)
  else (
  bif decide ((rd (.pair (.int .u64) (.slice 5 (.int .u8))) r1.1 x2.2.1).1 = 4) then (
  (F63 ((rd (.pair (.int .u64) (.slice 5 (.int .u8))) r1.1 x2.2.1).2)).bind fun r4 =>
  bif (!decide (r4.2 = 0)) then (
  some ((0,0,0,0,([] : List (Int×(Int×Int))),0,0,0,0,([] : List (Int×Int)),([] : List (Int×(Int×Int)))),2))
  else (
  rec2 (x2.1,(IntKind.wrap .i64 (x2.2.1 + 1)),x2.2.2.1,x2.2.2.2.1,((x2.2.2.2.2.1.1,(x2.2.2.2.2.1.2.1,(x2.2.2.2.2.1.2.2.1,(r4.1.1,(r4.1.2.1,(r4.1.2.2,(x2.2.2.2.2.1.2.2.2.2.2.2.1,(x2.2.2.2.2.1.2.2.2.2.2.2.2.1,x2.2.2.2.2.1.2.2.2.2.2.2.2.2)))))))),((),())))))
  else (
  bif decide (48 ≤ (rd (.pair (.int .u64) (.slice 5 (.int .u8))) r1.1 x2.2.1).1) then (
  (F64 ((rd (.pair (.int .u64) (.slice 5 (.int .u8))) r1.1 x2.2.1).2)).bind fun r5 =>
  (fun o => both o o) (
  bif decide ((x2.2.2.2.1.length + 1) * 24 ≤ LIM) then
  bif (!decide (r5.2 = 0)) then (
  some ((0,0,0,0,([] : List (Int×(Int×Int))),0,0,0,0,([] : List (Int×Int)),([] : List (Int×(Int×Int)))),2))
  else (
  rec2 (x2.1,(IntKind.wrap .i64 (x2.2.1 + 1)),x2.2.2.1,(x2.2.2.2.1 ++ ([(r5.1.1,(r5.1.2.1,r5.1.2.2))])),((x2.2.2.2.2.1.1,(x2.2.2.2.2.1.2.1,(x2.2.2.2.2.1.2.2.1,(x2.2.2.2.2.1.2.2.2.1,(x2.2.2.2.2.1.2.2.2.2.1,(x2.2.2.2.2.1.2.2.2.2.2.1,(x2.2.2.2.2.1.2.2.2.2.2.2.1,(x2.2.2.2.2.1.2.2.2.2.2.2.2.1,x2.2.2.2.2.1.2.2.2.2.2.2.2.2)))))))),((),()))))
  else none))
  else (
  bif (bif (bif decide (32 ≤ (rd (.pair (.int .u64) (.slice 5 (.int .u8))) r1.1 x2.2.1).1) then decide (r3.2 = 0) else false) then decide ((r3.1.length : Int) = 2) else false) then (
  bif inb 0 r3.1.length then
  bif inb 1 r3.1.length then
  (fun o => both (both o o) (both (both o (both o o)) (both o (both o o)))) (
  bif decide ((x2.2.2.1.length + 1) * 16 ≤ LIM) then
  rec2 (x2.1,(IntKind.wrap .i64 (x2.2.1 + 1)),(x2.2.2.1 ++ ([((rd (.int .u64) r3.1 0),(rd (.int .u64) r3.1 1))])),x2.2.2.2.1,((x2.2.2.2.2.1.1,(x2.2.2.2.2.1.2.1,(x2.2.2.2.2.1.2.2.1,(x2.2.2.2.2.1.2.2.2.1,(x2.2.2.2.2.1.2.2.2.2.1,(x2.2.2.2.2.1.2.2.2.2.2.1,(x2.2.2.2.2.1.2.2.2.2.2.2.1,(x2.2.2.2.2.1.2.2.2.2.2.2.2.1,x2.2.2.2.2.1.2.2.2.2.2.2.2.2)))))))),((),())))
  else none)
  else none
  else none)
  else (
  some ((0,0,0,0,([] : List (Int×(Int×Int))),0,0,0,0,([] : List (Int×Int)),([] : List (Int×(Int×Int)))),2)))))
  else none)
  else (
  bif decide ((rd (.pair (.int .u64) (.slice 5 (.int .u8))) r1.1 x2.2.1).1 = 4) then (
  (F63 ((rd (.pair (.int .u64) (.slice 5 (.int .u8))) r1.1 x2.2.1).2)).bind fun r6 =>
  bif (!decide (r6.2 = 0)) then (
  some ((0,0,0,0,([] : List (Int×(Int×Int))),0,0,0,0,([] : List (Int×Int)),([] : List (Int×(Int×Int)))),2))
  else (
  rec2 (x2.1,(IntKind.wrap .i64 (x2.2.1 + 1)),x2.2.2.1,x2.2.2.2.1,((x2.2.2.2.2.1.1,(x2.2.2.2.2.1.2.1,(x2.2.2.2.2.1.2.2.1,(r6.1.1,(r6.1.2.1,(r6.1.2.2,(x2.2.2.2.2.1.2.2.2.2.2.2.1,(x2.2.2.2.2.1.2.2.2.2.2.2.2.1,x2.2.2.2.2.1.2.2.2.2.2.2.2.2)))))))),((),())))))
  else (
  bif decide (48 ≤ (rd (.pair (.int .u64) (.slice 5 (.int .u8))) r1.1 x2.2.1).1) then (
  (F64 ((rd (.pair (.int .u64) (.slice 5 (.int .u8))) r1.1 x2.2.1).2)).bind fun r7 =>
  (fun o => both o o) (
  bif decide ((x2.2.2.2.1.length + 1) * 24 ≤ LIM) then
  bif (!decide (r7.2 = 0)) then (
  some ((0,0,0,0,([] : List (Int×(Int×Int))),0,0,0,0,([] : List (Int×Int)),([] : List (Int×(Int×Int)))),2))
  else (
  rec2 (x2.1,(IntKind.wrap .i64 (x2.2.1 + 1)),x2.2.2.1,(x2.2.2.2.1 ++ ([(r7.1.1,(r7.1.2.1,r7.1.2.2))])),((x2.2.2.2.2.1.1,(x2.2.2.2.2.1.2.1,(x2.2.2.2.2.1.2.2.1,(x2.2.2.2.2.1.2.2.2.1,(x2.2.2.2.2.1.2.2.2.2.1,(x2.2.2.2.2.1.2.2.2.2.2.1,(x2.2.2.2.2.1.2.2.2.2.2.2.1,(x2.2.2.2.2.1.2.2.2.2.2.2.2.1,x2.2.2.2.2.1.2.2.2.2.2.2.2.2)))))))),((),()))))
  else none))
  else (
  bif (bif (bif decide (32 ≤ (rd (.pair (.int .u64) (.slice 5 (.int .u8))) r1.1 x2.2.1).1) then decide (r3.2 = 0) else false) then decide ((r3.1.length : Int) = 2) else false) then (
  bif inb 0 r3.1.length then
  bif inb 1 r3.1.length then
  (fun o => both (both o o) (both (both o (both o o)) (both o (both o o)))) (
  bif decide ((x2.2.2.1.length + 1) * 16 ≤ LIM) then
  rec2 (x2.1,(IntKind.wrap .i64 (x2.2.1 + 1)),(x2.2.2.1 ++ ([((rd (.int .u64) r3.1 0),(rd (.int .u64) r3.1 1))])),x2.2.2.2.1,((x2.2.2.2.2.1.1,(x2.2.2.2.2.1.2.1,(x2.2.2.2.2.1.2.2.1,(x2.2.2.2.2.1.2.2.2.1,(x2.2.2.2.2.1.2.2.2.2.1,(x2.2.2.2.2.1.2.2.2.2.2.1,(x2.2.2.2.2.1.2.2.2.2.2.2.1,(x2.2.2.2.2.1.2.2.2.2.2.2.2.1,x2.2.2.2.2.1.2.2.2.2.2.2.2.2)))))))),((),())))
  else none)
  else none
  else none)
  else (
  some ((0,0,0,0,([] : List (Int×(Int×Int))),0,0,0,0,([] : List (Int×Int)),([] : List (Int×(Int×Int)))),2)))))))
  else (
  bif ((bif decide ((rd (.pair (.int .u64) (.slice 5 (.int .u8))) r1.1 x2.2.1).1 = 2) then (bif decide (r3.2 = 0) then decide ((r3.1.length : Int) = 1) else false) else false) == true) then (
  bif inb 0 r3.1.length then
  bif decide ((rd (.int .u64) r3.1 0) < 16) then (
  bif inb 0 r3.1.length then
  rec2 (x2.1,(IntKind.wrap .i64 (x2.2.1 + 1)),x2.2.2.1,x2.2.2.2.1,((x2.2.2.2.2.1.1,((IntKind.wrap .i64 (rd (.int .u64) r3.1 0)),(x2.2.2.2.2.1.2.2.1,(x2.2.2.2.2.1.2.2.2.1,(x2.2.2.2.2.1.2.2.2.2.1,(x2.2.2.2.2.1.2.2.2.2.2.1,(x2.2.2.2.2.1.2.2.2.2.2.2.1,(x2.2.2.2.2.1.2.2.2.2.2.2.2.1,x2.2.2.2.2.1.2.2.2.2.2.2.2.2)))))))),((),())))
  else none)
  else (
  bif decide ((rd (.pair (.int .u64) (.slice 5 (.int .u8))) r1.1 x2.2.1).1 = 4) then (
  (F63 ((rd (.pair (.int .u64) (.slice 5 (.int .u8))) r1.1 x2.2.1).2)).bind fun r4 =>
  bif (!decide (r4.2 = 0)) then (
  some ((0,0,0,0,([] : List (Int×(Int×Int))),0,0,0,0,([] : List (Int×Int)),([] : List (Int×(Int×Int)))),2))
  else (
  rec2 (x2.1,(IntKind.wrap .i64 (x2.2.1 + 1)),x2.2.2.1,x2.2.2.2.1,((x2.2.2.2.2.1.1,(x2.2.2.2.2.1.2.1,(x2.2.2.2.2.1.2.2.1,(r4.1.1,(r4.1.2.1,(r4.1.2.2,(x2.2.2.2.2.1.2.2.2.2.2.2.1,(x2.2.2.2.2.1.2.2.2.2.2.2.2.1,x2.2.2.2.2.1.2.2.2.2.2.2.2.2)))))))),((),())))))
  else (
  bif decide (48 ≤ (rd (.pair (.int .u64) (.slice 5 (.int .u8))) r1.1 x2.2.1).1) then (
  (F64 ((rd (.pair (.int .u64) (.slice 5 (.int .u8))) r1.1 x2.2.1).2)).bind fun r5 =>
  (fun o => both o o) (
  bif decide ((x2.2.2.2.1.length + 1) * 24 ≤ LIM) then
  bif (!decide (r5.2 = 0)) then (
  some ((0,0,0,0,([] : List (Int×(Int×Int))),0,0,0,0,([] : List (Int×Int)),([] : List (Int×(Int×Int)))),2))
  else (
  rec2 (x2.1,(IntKind.wrap .i64 (x2.2.1 + 1)),x2.2.2.1,(x2.2.2.2.1 ++ ([(r5.1.1,(r5.1.2.1,r5.1.2.2))])),((x2.2.2.2.2.1.1,(x2.2.2.2.2.1.2.1,(x2.2.2.2.2.1.2.2.1,(x2.2.2.2.2.1.2.2.2.1,(x2.2.2.2.2.1.2.2.2.2.1,(x2.2.2.2.2.1.2.2.2.2.2.1,(x2.2.2.2.2.1.2.2.2.2.2.2.1,(x2.2.2.2.2.1.2.2.2.2.2.2.2.1,x2.2.2.2.2.1.2.2.2.2.2.2.2.2)))))))),((),()))))
  else none))
  else (
  bif (bif (bif decide (32 ≤ (rd (.pair (.int .u64) (.slice 5 (.int .u8))) r1.1 x2.2.1).1) then decide (r3.2 = 0) else false) then decide ((r3.1.length : Int) = 2) else false) then (
  bif inb 0 r3.1.length then
  bif inb 1 r3.1.length then
  (fun o => both (both o o) (both (both o (both o o)) (both o (both o o)))) (
  bif decide ((x2.2.2.1.length + 1) * 16 ≤ LIM) then
  rec2 (x2.1,(IntKind.wrap .i64 (x2.2.1 + 1)),(x2.2.2.1 ++ ([((rd (.int .u64) r3.1 0),(rd (.int .u64) r3.1 1))])),x2.2.2.2.1,((x2.2.2.2.2.1.1,(x2.2.2.2.2.1.2.1,(x2.2.2.2.2.1.2.2.1,(x2.2.2.2.2.1.2.2.2.1,(x2.2.2.2.2.1.2.2.2.2.1,(x2.2.2.2.2.1.2.2.2.2.2.1,(x2.2.2.2.2.1.2.2.2.2.2.2.1,(x2.2.2.2.2.1.2.2.2.2.2.2.2.1,x2.2.2.2.2.1.2.2.2.2.2.2.2.2)))))))),((),())))
  else none)
  else none
  else none)
  else (
  some ((0,0,0,0,([] : List (Int×(Int×Int))),0,0,0,0,([] : List (Int×Int)),([] : List (Int×(Int×Int)))),2)))))
  else none)
  else (
  bif decide ((rd (.pair (.int .u64) (.slice 5 (.int .u8))) r1.1 x2.2.1).1 = 4) then (
  (F63 ((rd (.pair (.int .u64) (.slice 5 (.int .u8))) r1.1 x2.2.1).2)).bind fun r6 =>
  bif (!decide (r6.2 = 0)) then (
  some ((0,0,0,0,([] : List (Int×(Int×Int))),0,0,0,0,([] : List (Int×Int)),([] : List (Int×(Int×Int)))),2))
  else (
  rec2 (x2.1,(IntKind.wrap .i64 (x2.2.1 + 1)),x2.2.2.1,x2.2.2.2.1,((x2.2.2.2.2.1.1,(x2.2.2.2.2.1.2.1,(x2.2.2.2.2.1.2.2.1,(r6.1.1,(r6.1.2.1,(r6.1.2.2,(x2.2.2.2.2.1.2.2.2.2.2.2.1,(x2.2.2.2.2.1.2.2.2.2.2.2.2.1,x2.2.2.2.2.1.2.2.2.2.2.2.2.2)))))))),((),())))))
  else (
  bif decide (48 ≤ (rd (.pair (.int .u64) (.slice 5 (.int .u8))) r1.1 x2.2.1).1) then (
  (F64 ((rd (.pair (.int .u64) (.slice 5 (.int .u8))) r1.1 x2.2.1).2)).bind fun r7 =>
  (fun o => both o o) (
  bif decide ((x2.2.2.2.1.length + 1) * 24 ≤ LIM) then
  bif (!decide (r7.2 = 0)) then (
  some ((0,0,0,0,([] : List (Int×(Int×Int))),0,0,0,0,([] : List (Int×Int)),([] : List (Int×(Int×Int)))),2))
  else (
  rec2 (x2.1,(IntKind.wrap .i64 (x2.2.1 + 1)),x2.2.2.1,(x2.2.2.2.1 ++ ([(r7.1.1,(r7.1.2.1,r7.1.2.2))])),((x2.2.2.2.2.1.1,(x2.2.2.2.2.1.2.1,(x2.2.2.2.2.1.2.2.1,(x2.2.2.2.2.1.2.2.2.1,(x2.2.2.2.2.1.2.2.2.2.1,(x2.2.2.2.2.1.2.2.2.2.2.1,(x2.2.2.2.2.1.2.2.2.2.2.2.1,(x2.2.2.2.2.1.2.2.2.2.2.2.2.1,x2.2.2.2.2.1.2.2.2.2.2.2.2.2)))))))),((),()))))
  else none))
  else (
  bif (bif (bif decide (32 ≤ (rd (.pair (.int .u64) (.slice 5 (.int .u8))) r1.1 x2.2.1).1) then decide (r3.2 = 0) else false) then decide ((r3.1.length : Int) = 2) else false) then (
  bif inb 0 r3.1.length then
  bif inb 1 r3.1.length then
  (fun o => both (both o o) (both (both o (both o o)) (both o (both o o)))) (
  bif decide ((x2.2.2.1.length + 1) * 16 ≤ LIM) then
  rec2 (x2.1,(IntKind.wrap .i64 (x2.2.1 + 1)),(x2.2.2.1 ++ ([((rd (.int .u64) r3.1 0),(rd (.int .u64) r3.1 1))])),x2.2.2.2.1,((x2.2.2.2.2.1.1,(x2.2.2.2.2.1.2.1,(x2.2.2.2.2.1.2.2.1,(x2.2.2.2.2.1.2.2.2.1,(x2.2.2.2.2.1.2.2.2.2.1,(x2.2.2.2.2.1.2.2.2.2.2.1,(x2.2.2.2.2.1.2.2.2.2.2.2.1,(x2.2.2.2.2.1.2.2.2.2.2.2.2.1,x2.2.2.2.2.1.2.2.2.2.2.2.2.2)))))))),((),())))
  else none)
  else none
  else none)
  else (
  some ((0,0,0,0,([] : List (Int×(Int×Int))),0,0,0,0,([] : List (Int×Int)),([] : List (Int×(Int×Int)))),2))))))))))
  else none)
  else (
  (F6 (x2.2.2.2.2.1.1,(x2.2.2.2.2.1.2.1,(x2.2.2.2.2.1.2.2.1,(x2.2.2.2.2.1.2.2.2.1,(x2.2.2.2.2.1.2.2.2.2.1,(x2.2.2.2.2.1.2.2.2.2.2.1,(x2.2.2.2.2.1.2.2.2.2.2.2.1,(x2.2.2.2.2.1.2.2.2.2.2.2.2.1,(x2.2.2.2.2.1.2.2.2.2.2.2.2.2,(x2.2.2.1,x2.2.2.2.1))))))))))).bind fun r8 =>
  bif ((bif (!decide (r1.2 = 0)) then true else (!decide (r8.2 = 0))) == false) then (
  (F25 (r8.1,b)).bind fun r9 =>
  bif (!r9) then (
  some ((0,0,0,0,([] : List (Int×(Int×Int))),0,0,0,0,([] : List (Int×Int)),([] : List (Int×(Int×Int)))),2))
  else (
  some ((x2.2.2.2.2.1.1,x2.2.2.2.2.1.2.1,x2.2.2.2.2.1.2.2.1,x2.2.2.2.2.1.2.2.2.1,x2.2.2.2.2.1.2.2.2.2.1,x2.2.2.2.2.1.2.2.2.2.2.1,x2.2.2.2.2.1.2.2.2.2.2.2.1,x2.2.2.2.2.1.2.2.2.2.2.2.2.1,x2.2.2.2.2.1.2.2.2.2.2.2.2.2,x2.2.2.1,x2.2.2.2.1),0)))
  else (
  some ((0,0,0,0,([] : List (Int×(Int×Int))),0,0,0,0,([] : List (Int×Int)),([] : List (Int×(Int×Int)))),2)))) (0,0,([] : List (Int×Int)),([] : List (Int×(Int×Int))),((0,(0,(0,(0,([],(0,(0,(0,0)))))))),((),()))))
theorem ev8 (b : List Int) : evF C24 H8 Tryz.f8 (encs [.oneA (.slice 5 (.int .u8))] b) (RT.dec (.tup [.agg [.int .u64,.int .i64,.int .u64,.int .u64,.sl 63 (.pair (.int .i64) (.pair (.int .u64) (.int .u64))),.int .i64,.int .u64,.int .u64,.int .u64,.fresh 74 (.pair (.int .u64) (.int .u64)),.fresh 63 (.pair (.int .i64) (.pair (.int .u64) (.int .u64)))],.leaf (.int .i64)])) = F8 b := by kernel_rfl
noncomputable def C8 : Ctx := Ctx.addA C24 8 [.oneA (.slice 5 (.int .u8))] (.tup [.agg [.int .u64,.int .i64,.int .u64,.int .u64,.sl 63 (.pair (.int .i64) (.pair (.int .u64) (.int .u64))),.int .i64,.int .u64,.int .u64,.int .u64,.fresh 74 (.pair (.int .u64) (.int .u64)),.fresh 63 (.pair (.int .i64) (.pair (.int .u64) (.int .u64)))],.leaf (.int .i64)]) F8
theorem s8 : C8.Sound := Ctx.Sound.addA (C := C24) mixed s24 Tryz.func8 ev8
def H91 : Nat → Head := fun _ => ⟨[],[]⟩
noncomputable def F91 (b : Int) : Option Int :=
 bif decide (b < 253) then (
 some 1)
 else (
 bif decide (b = 253) then (
 some 3)
 else (
 bif decide (b = 254) then (
 some 5)
 else (
 some 9)))
theorem ev91 (b : Int) : evF C8 H91 Tryz.f91 (encs [.one (.int .u8)] b) (RT.dec (.one (.leaf (.int .i64)))) = F91 b := by kernel_rfl
noncomputable def C91 : Ctx := Ctx.add C8 91 [.one (.int .u8)] (.one (.leaf (.int .i64))) F91
theorem s91 : C91.Sound := Ctx.Sound.add (C := C8) mixed s8 Tryz.func91 ev91
def H65 : Nat → Head
  | 8 => ⟨[.data 6 (.int .u64),.data 35 (.int .i64)],[]⟩
  | 5000012 => ⟨[],[0,0,1,1,2,2,0,0,0,0,24,24,32,32,68,68]⟩
  | _ => ⟨[],[]⟩
noncomputable def F65 (b : List Int) : Option (Int×Int×Int) :=
 bif (decide ((b.length : Int) = 0) == false) then (
 bif inb 0 b.length then
 (F91 (rd (.int .u8) b 0)).bind fun r1 =>
 bif decide ((b.length : Int) < r1) then (
 some (0,0,3))
 else (
 bif inb 0 b.length then
 (F91 (rd (.int .u8) b 0)).bind fun r2 =>
 bif decide (r2 = 1) then (
 bif inb 0 b.length then
 bif (inb r2 (b.length + 1) && (decide (0 ≤ 1) && decide (1 ≤ r2))) then
 lfp (fun (rec3 : (Int×Int) → Option (Int×Int×Int)) (x3 : Int×Int) =>
  bif decide (x3.2 < (((b.take r2.toNat).drop ((1 : Int).toNat)).length : Int)) then (
  bif inb x3.2 ((b.take r2.toNat).drop ((1 : Int).toNat)).length then
  rec3 ((IntKind.wrap .u64 ((IntKind.wrap .u64 (256 * x3.1)) + (IntKind.wrap .u64 (rd (.int .u8) ((b.take r2.toNat).drop ((1 : Int).toNat)) x3.2)))),(IntKind.wrap .i64 (x3.2 + 1)))
  else none)
  else (
  bif inb r2 (b.length + 1) then
  (both (
  (F85 x3.1).bind fun r4 =>
  (fun o => both o o) (
  bif (!decide (r4 = (b.take r2.toNat))) then (
  some (0,0,2))
  else (
  some (x3.1,r2,0)))) (
  (F85 x3.1).bind fun r4 =>
  bif (!decide (r4 = (b.take r2.toNat))) then (
  some (0,0,2))
  else (
  some (x3.1,r2,0))))
  else none)) ((IntKind.wrap .u64 (rd (.int .u8) b 0)),0)
 else none
 else none)
 else (
 bif (inb r2 (b.length + 1) && (decide (0 ≤ 1) && decide (1 ≤ r2))) then
 lfp (fun (rec5 : (Int×Int) → Option (Int×Int×Int)) (x5 : Int×Int) =>
  bif decide (x5.2 < (((b.take r2.toNat).drop ((1 : Int).toNat)).length : Int)) then (
  bif inb x5.2 ((b.take r2.toNat).drop ((1 : Int).toNat)).length then
  rec5 ((IntKind.wrap .u64 ((IntKind.wrap .u64 (256 * x5.1)) + (IntKind.wrap .u64 (rd (.int .u8) ((b.take r2.toNat).drop ((1 : Int).toNat)) x5.2)))),(IntKind.wrap .i64 (x5.2 + 1)))
  else none)
  else (
  bif inb r2 (b.length + 1) then
  (both (
  (F85 x5.1).bind fun r6 =>
  (fun o => both o o) (
  bif (!decide (r6 = (b.take r2.toNat))) then (
  some (0,0,2))
  else (
  some (x5.1,r2,0)))) (
  (F85 x5.1).bind fun r6 =>
  bif (!decide (r6 = (b.take r2.toNat))) then (
  some (0,0,2))
  else (
  some (x5.1,r2,0))))
  else none)) (0,0)
 else none)
 else none)
 else none)
 else (
 some (0,0,3))
theorem ev65 (b : List Int) : evF C91 H65 Tryz.f65 (encs [.one (.slice 5 (.int .u8))] b) (RT.dec (.tup [.leaf (.int .u64),.leaf (.int .i64),.leaf (.int .i64)])) = F65 b := by kernel_rfl
noncomputable def C65 : Ctx := Ctx.add C91 65 [.one (.slice 5 (.int .u8))] (.tup [.leaf (.int .u64),.leaf (.int .i64),.leaf (.int .i64)]) F65
theorem s65 : C65.Sound := Ctx.Sound.add (C := C91) mixed s91 Tryz.func65 ev65
def H26 : Nat → Head
  | 4 => ⟨[.dataA 0 (.slice 5 (.int .u8)),.row 2 10244 50 (.pair (.int .u64) (.slice 5 (.int .u8))),.data 3 (.int .i64),.row 4 18436 50 (.pair (.int .u64) (.slice 5 (.int .u8)))],[]⟩
  | _ => ⟨[],[]⟩
noncomputable def F26 (b : List Int) : Option ((List (Int×List Int))×Int) :=
 bif decide (65535 < (b.length : Int)) then (
 some (([] : List (Int×List Int)),4))
 else (
 lfp (fun (rec1 : (List Int×List (Int×List Int)×Int×List (Int×List Int)) → Option ((List (Int×List Int))×Int)) (x1 : List Int×List (Int×List Int)×Int×List (Int×List Int)) =>
  bif decide (0 < (x1.1.length : Int)) then (
  bif decide ((x1.2.2.2.length : Int) = 64) then (
  some (([] : List (Int×List Int)),4))
  else (
  (F65 x1.1).bind fun r2 =>
  bif (!decide (r2.2.2 = 0)) then (
  some (([] : List (Int×List Int)),r2.2.2))
  else (
  bif (decide (0 < (x1.2.2.2.length : Int)) == true) then (
  bif inb (IntKind.wrap .i64 ((x1.2.2.2.length : Int) - 1)) x1.2.2.2.length then
  bif decide (r2.1 ≤ (rd (.pair (.int .u64) (.slice 5 (.int .u8))) x1.2.2.2 (IntKind.wrap .i64 ((x1.2.2.2.length : Int) - 1))).1) then (
  some (([] : List (Int×List Int)),2))
  else (
  bif inb r2.2.1 (x1.1.length + 1) then
  (F65 (x1.1.drop r2.2.1.toNat)).bind fun r3 =>
  bif (!decide (r3.2.2 = 0)) then (
  some (([] : List (Int×List Int)),r3.2.2))
  else (
  bif decide (4096 < r3.1) then (
  some (([] : List (Int×List Int)),4))
  else (
  bif inb r3.2.1 ((x1.1.drop r2.2.1.toNat).length + 1) then
  bif decide ((((x1.1.drop r2.2.1.toNat).drop r3.2.1.toNat).length : Int) < (IntKind.wrap .i64 r3.1)) then (
  some (([] : List (Int×List Int)),3))
  else (
  bif inb r3.1 (((x1.1.drop r2.2.1.toNat).drop r3.2.1.toNat).length + 1) then
  bif (!(((x1.1.drop r2.2.1.toNat).drop r3.2.1.toNat).take r3.1.toNat).isEmpty || true) then
  bif decide ((([] : List Int).length + (((x1.1.drop r2.2.1.toNat).drop r3.2.1.toNat).take r3.1.toNat).length) * 1 ≤ LIM) then
  bif decide ((x1.2.2.2.length + 1) * 32 ≤ LIM) then
  bif inb r3.1 (((x1.1.drop r2.2.1.toNat).drop r3.2.1.toNat).length + 1) then
  rec1 (((x1.1.drop r2.2.1.toNat).drop r3.2.1.toNat).drop r3.1.toNat,x1.2.1,x1.2.2.1,(x1.2.2.2 ++ ([(r2.1,([] : List Int) ++ (((x1.1.drop r2.2.1.toNat).drop r3.2.1.toNat).take r3.1.toNat))])))
  else none
  else none
  else none
  else none
  else none)
  else none))
  else none)
  else none)
  else (
  bif inb r2.2.1 (x1.1.length + 1) then
  (F65 (x1.1.drop r2.2.1.toNat)).bind fun r4 =>
  bif (!decide (r4.2.2 = 0)) then (
  some (([] : List (Int×List Int)),r4.2.2))
  else (
  bif decide (4096 < r4.1) then (
  some (([] : List (Int×List Int)),4))
  else (
  bif inb r4.2.1 ((x1.1.drop r2.2.1.toNat).length + 1) then
  bif decide ((((x1.1.drop r2.2.1.toNat).drop r4.2.1.toNat).length : Int) < (IntKind.wrap .i64 r4.1)) then (
  some (([] : List (Int×List Int)),3))
  else (
  bif inb r4.1 (((x1.1.drop r2.2.1.toNat).drop r4.2.1.toNat).length + 1) then
  bif (!(((x1.1.drop r2.2.1.toNat).drop r4.2.1.toNat).take r4.1.toNat).isEmpty || true) then
  bif decide ((([] : List Int).length + (((x1.1.drop r2.2.1.toNat).drop r4.2.1.toNat).take r4.1.toNat).length) * 1 ≤ LIM) then
  bif decide ((x1.2.2.2.length + 1) * 32 ≤ LIM) then
  bif inb r4.1 (((x1.1.drop r2.2.1.toNat).drop r4.2.1.toNat).length + 1) then
  rec1 (((x1.1.drop r2.2.1.toNat).drop r4.2.1.toNat).drop r4.1.toNat,x1.2.1,x1.2.2.1,(x1.2.2.2 ++ ([(r2.1,([] : List Int) ++ (((x1.1.drop r2.2.1.toNat).drop r4.2.1.toNat).take r4.1.toNat))])))
  else none
  else none
  else none
  else none
  else none)
  else none))
  else none))))
  else (
  some (x1.2.2.2,0))) (b,([] : List (Int×List Int)),0,([] : List (Int×List Int))))
theorem ev26 (b : List Int) : evF C65 H26 Tryz.f26 (encs [.oneA (.slice 5 (.int .u8))] b) (RT.dec (.tup [.leaf (.fresh 50 (.pair (.int .u64) (.slice 5 (.int .u8)))),.leaf (.int .i64)])) = F26 b := by kernel_rfl
noncomputable def C26 : Ctx := Ctx.addA C65 26 [.oneA (.slice 5 (.int .u8))] (.tup [.leaf (.fresh 50 (.pair (.int .u64) (.slice 5 (.int .u8)))),.leaf (.int .i64)]) F26
theorem s26 : C26.Sound := Ctx.Sound.addA (C := C65) mixed s65 Tryz.func26 ev26
def H67 : Nat → Head
  | 4 => ⟨[.row 4 18436 5 (.int .u8),.data 5 (.int .i64),.data 13 (.int .i64)],[]⟩
  | _ => ⟨[],[]⟩
noncomputable def F67 (b : List (Int×List Int)×Int) : Option (List Int×Int) :=
 (F54 b.1).bind fun r1 =>
 bif (!decide (r1 = 0)) then (
 some (([] : List Int),1))
 else (
 lfp (fun (rec2 : (List Int×Int×Int) → Option (List Int×Int)) (x2 : List Int×Int×Int) =>
  bif decide (x2.2.2 < (b.1.length : Int)) then (
  bif inb x2.2.2 b.1.length then
  bif decide ((rd (.pair (.int .u64) (.slice 5 (.int .u8))) b.1 x2.2.2).1 = b.2) then (
  bif (!((rd (.pair (.int .u64) (.slice 5 (.int .u8))) b.1 x2.2.2).2).isEmpty || true) then
  bif decide ((([] : List Int).length + ((rd (.pair (.int .u64) (.slice 5 (.int .u8))) b.1 x2.2.2).2).length) * 1 ≤ LIM) then
  some (([] : List Int) ++ ((rd (.pair (.int .u64) (.slice 5 (.int .u8))) b.1 x2.2.2).2),0)
  else none
  else none)
  else (
  rec2 (x2.1,x2.2.1,(IntKind.wrap .i64 (x2.2.2 + 1))))
  else none)
  else (
  some (([] : List Int),5))) (([] : List Int),0,0))
theorem ev67 (b : List (Int×List Int)×Int) : evF C26 H67 Tryz.f67 (encs [.oneA (.slice 50 (.pair (.int .u64) (.slice 5 (.int .u8)))),.one (.int .u64)] b) (RT.dec (.tup [.leaf (.fresh 5 (.int .u8)),.leaf (.int .i64)])) = F67 b := by kernel_rfl
noncomputable def C67 : Ctx := Ctx.addA C26 67 [.oneA (.slice 50 (.pair (.int .u64) (.slice 5 (.int .u8)))),.one (.int .u64)] (.tup [.leaf (.fresh 5 (.int .u8)),.leaf (.int .i64)]) F67
theorem s67 : C67.Sound := Ctx.Sound.addA (C := C26) mixed s26 Tryz.func67 ev67
def H66 : Nat → Head := fun _ => ⟨[],[]⟩
noncomputable def F66 (b : List (Int×List Int)×Int) : Option (Int×Int) :=
 (F67 (b.1,b.2)).bind fun r1 =>
 bif (!decide (r1.2 = 0)) then (
 some (0,r1.2))
 else (
 (F65 r1.1).bind fun r2 =>
 bif (!decide (r2.2.2 = 0)) then (
 some (0,r2.2.2))
 else (
 bif (!decide (r2.2.1 = (r1.1.length : Int))) then (
 some (0,2))
 else (
 some (r2.1,0))))
theorem ev66 (b : List (Int×List Int)×Int) : evF C67 H66 Tryz.f66 (encs [.one (.slice 50 (.pair (.int .u64) (.slice 5 (.int .u8)))),.one (.int .u64)] b) (RT.dec (.tup [.leaf (.int .u64),.leaf (.int .i64)])) = F66 b := by kernel_rfl
noncomputable def C66 : Ctx := Ctx.add C67 66 [.one (.slice 50 (.pair (.int .u64) (.slice 5 (.int .u8)))),.one (.int .u64)] (.tup [.leaf (.int .u64),.leaf (.int .i64)]) F66
theorem s66 : C66.Sound := Ctx.Sound.add (C := C67) mixed s67 Tryz.func66 ev66
def H70 : Nat → Head := fun _ => ⟨[],[]⟩
noncomputable def F70 (b : List Int) : Option ((Int×Int×Int)×Int) :=
 (F65 b).bind fun r1 =>
 bif (!decide (r1.2.2 = 0)) then (
 some ((0,0,0),r1.2.2))
 else (
 bif (bif decide (r1.1 < 1) then true else decide (5 < r1.1)) then (
 some ((0,0,0),2))
 else (
 bif inb r1.2.1 (b.length + 1) then
 (F65 (b.drop r1.2.1.toNat)).bind fun r2 =>
 bif (!decide (r2.2.2 = 0)) then (
 some ((0,0,0),r2.2.2))
 else (
 bif inb r2.2.1 ((b.drop r1.2.1.toNat).length + 1) then
 bif decide (r1.1 = 4) then (
 (F65 ((b.drop r1.2.1.toNat).drop r2.2.1.toNat)).bind fun r3 =>
 bif (!decide (r3.2.2 = 0)) then (
 some ((0,0,0),r3.2.2))
 else (
 bif inb r3.2.1 (((b.drop r1.2.1.toNat).drop r2.2.1.toNat).length + 1) then
 bif (decide (0 < ((((b.drop r1.2.1.toNat).drop r2.2.1.toNat).drop r3.2.1.toNat).length : Int)) == false) then (
 (F79 ((IntKind.wrap .i64 r1.1),(r2.1,r3.1))).bind fun r4 =>
 bif (!decide (r4 = 0)) then (
 some ((0,0,0),2))
 else (
 some (((IntKind.wrap .i64 r1.1),r2.1,r3.1),0)))
 else (
 some ((0,0,0),2))
 else none))
 else (
 bif (decide (0 < (((b.drop r1.2.1.toNat).drop r2.2.1.toNat).length : Int)) == false) then (
 (F79 ((IntKind.wrap .i64 r1.1),(r2.1,0))).bind fun r5 =>
 bif (!decide (r5 = 0)) then (
 some ((0,0,0),2))
 else (
 some (((IntKind.wrap .i64 r1.1),r2.1,0),0)))
 else (
 some ((0,0,0),2)))
 else none)
 else none))
theorem ev70 (b : List Int) : evF C66 H70 Tryz.f70 (encs [.one (.slice 5 (.int .u8))] b) (RT.dec (.tup [.agg [.int .i64,.int .u64,.int .u64],.leaf (.int .i64)])) = F70 b := by kernel_rfl
noncomputable def C70 : Ctx := Ctx.add C66 70 [.one (.slice 5 (.int .u8))] (.tup [.agg [.int .i64,.int .u64,.int .u64],.leaf (.int .i64)]) F70
theorem s70 : C70.Sound := Ctx.Sound.add (C := C66) mixed s66 Tryz.func70 ev70
def H68 : Nat → Head
  | 5 => ⟨[.data 3 (.int .i64),.data 30 (.int .i64)],[114688,86016,8192]⟩
  | 20 => ⟨[.data 3 (.int .i64),.data 73 (.int .i64)],[114688,86016,8192]⟩
  | 29 => ⟨[.data 3 (.int .i64),.data 99 (.int .i64),.crow 57344 1 10059421 63 (.pair (.int .i64) (.pair (.int .u64) (.int .u64))),.boxr 57344 10059421 (.int .u64) (.int .i64)],[114688,86016,8192]⟩
  | _ => ⟨[],[]⟩
noncomputable def F68 (b : List Int) : Option ((Int×(List (Int×(Int×Int)))×Int)×Int) :=
 (F26 b).bind fun r1 =>
 bif (!decide (r1.2 = 0)) then (
 some ((0,([] : List (Int×(Int×Int))),0),r1.2))
 else (
 lfp (fun (rec2 : (Int×Int) → Option ((Int×(List (Int×(Int×Int)))×Int)×Int)) (x2 : Int×Int) =>
  bif decide (x2.2 < (([1,2]).length : Int)) then (
  bif inb x2.2 ([1,2]).length then
  (F67 (r1.1,(rd (.int .u64) ([1,2]) x2.2))).bind fun r3 =>
  bif (!decide (r3.2 = 0)) then (
  some ((0,([] : List (Int×(Int×Int))),0),5))
  else (
  rec2 (x2.1,(IntKind.wrap .i64 (x2.2 + 1))))
  else none)
  else (
  (F66 (r1.1,1)).bind fun r4 =>
  bif (!decide (r4.2 = 0)) then (
  some ((0,([] : List (Int×(Int×Int))),0),r4.2))
  else (
  (F66 (r1.1,2)).bind fun r5 =>
  bif (!decide (r5.2 = 0)) then (
  some ((0,([] : List (Int×(Int×Int))),0),r5.2))
  else (
  bif (bif decide (1048576 < r5.1) then true else decide (18 < (r1.1.length : Int))) then (
  some ((0,([] : List (Int×(Int×Int))),0),2))
  else (
  bif inb 2 (r1.1.length + 1) then
  lfp (fun (rec6 : (Int×Int) → Option ((Int×(List (Int×(Int×Int)))×Int)×Int)) (x6 : Int×Int) =>
   bif decide (x6.2 < ((r1.1.drop ((2 : Int).toNat)).length : Int)) then (
   bif inb x6.2 (r1.1.drop ((2 : Int).toNat)).length then
   bif (!decide ((rd (.pair (.int .u64) (.slice 5 (.int .u8))) (r1.1.drop ((2 : Int).toNat)) x6.2).1 = (IntKind.wrap .u64 (IntKind.wrap .i64 (16 + x6.2))))) then (
   some ((0,([] : List (Int×(Int×Int))),0),2))
   else (
   rec6 (x6.1,(IntKind.wrap .i64 (x6.2 + 1))))
   else none)
   else (
   bif inb 0 r1.1.length then
   bif (!decide ((rd (.pair (.int .u64) (.slice 5 (.int .u8))) r1.1 0).1 = 1)) then (
   some ((0,([] : List (Int×(Int×Int))),0),2))
   else (
   bif inb 2 (r1.1.length + 1) then
   lfp (fun (rec7 : (Int×Int×List (Int×(Int×Int))×(Int×Int)) → Option ((Int×(List (Int×(Int×Int)))×Int)×Int)) (x7 : Int×Int×List (Int×(Int×Int))×(Int×Int)) =>
    bif decide (x7.2.1 < ((r1.1.drop ((2 : Int).toNat)).length : Int)) then (
    bif inb x7.2.1 (r1.1.drop ((2 : Int).toNat)).length then
    (F70 ((rd (.pair (.int .u64) (.slice 5 (.int .u8))) (r1.1.drop ((2 : Int).toNat)) x7.2.1).2)).bind fun r8 =>
    bif (!decide (r8.2 = 0)) then (
    some ((0,([] : List (Int×(Int×Int))),0),r8.2))
    else (
    bif decide ((x7.2.2.1.length + 1) * 24 ≤ LIM) then
    rec7 (x7.1,(IntKind.wrap .i64 (x7.2.1 + 1)),(x7.2.2.1 ++ ([(r8.1.1,(r8.1.2.1,r8.1.2.2))])),(x7.2.2.2.1,x7.2.2.2.2))
    else none)
    else none)
    else (
    some ((x7.2.2.2.1,x7.2.2.1,x7.2.2.2.2),0))) (x6.1,0,([] : List (Int×(Int×Int))),(r4.1,(IntKind.wrap .i64 r5.1)))
   else none)
   else none)) (x2.1,0)
  else none))))) (0,0))
theorem ev68 (b : List Int) : evF C70 H68 Tryz.f68 (encs [.oneA (.slice 5 (.int .u8))] b) (RT.dec (.tup [.agg [.int .u64,.fresh 63 (.pair (.int .i64) (.pair (.int .u64) (.int .u64))),.int .i64],.leaf (.int .i64)])) = F68 b := by kernel_rfl
noncomputable def C68 : Ctx := Ctx.addA C70 68 [.oneA (.slice 5 (.int .u8))] (.tup [.agg [.int .u64,.fresh 63 (.pair (.int .i64) (.pair (.int .u64) (.int .u64))),.int .i64],.leaf (.int .i64)]) F68
theorem s68 : C68.Sound := Ctx.Sound.addA (C := C70) mixed s70 Tryz.func68 ev68
def H69 : Nat → Head
  | 4 => ⟨[.dataA 0 (.slice 5 (.int .u8)),.row 2 10244 22 (.int .u64),.data 3 (.int .i64),.row 4 18436 22 (.int .u64)],[]⟩
  | _ => ⟨[],[]⟩
noncomputable def F69 (b : List Int) : Option (List Int×Int) :=
 bif decide (65535 < (b.length : Int)) then (
 some (([] : List Int),4))
 else (
 lfp (fun (rec1 : (List Int×List Int×Int×List Int) → Option (List Int×Int)) (x1 : List Int×List Int×Int×List Int) =>
  bif decide (0 < (x1.1.length : Int)) then (
  (F65 x1.1).bind fun r2 =>
  bif (!decide (r2.2.2 = 0)) then (
  some (([] : List Int),r2.2.2))
  else (
  bif decide ((x1.2.2.2.length + 1) * 8 ≤ LIM) then
  bif inb r2.2.1 (x1.1.length + 1) then
  rec1 (x1.1.drop r2.2.1.toNat,x1.2.1,x1.2.2.1,(x1.2.2.2 ++ ([r2.1])))
  else none
  else none))
  else (
  some (x1.2.2.2,0))) (b,([] : List Int),0,([] : List Int)))
theorem ev69 (b : List Int) : evF C68 H69 Tryz.f69 (encs [.oneA (.slice 5 (.int .u8))] b) (RT.dec (.tup [.leaf (.fresh 22 (.int .u64)),.leaf (.int .i64)])) = F69 b := by kernel_rfl
noncomputable def C69 : Ctx := Ctx.addA C68 69 [.oneA (.slice 5 (.int .u8))] (.tup [.leaf (.fresh 22 (.int .u64)),.leaf (.int .i64)]) F69
theorem s69 : C69.Sound := Ctx.Sound.addA (C := C68) mixed s68 Tryz.func69 ev69
def H27 : Nat → Head
  | 12 => ⟨[.data 67 (.int .i64),.crow 12288 9 10014348 74 (.pair (.int .u64) (.int .u64)),.crow 12288 10 10014860 63 (.pair (.int .i64) (.pair (.int .u64) (.int .u64))),.boxs 12288 10014348 10014860 (.pair (.int .u64) (.pair (.int .i64) (.pair (.int .u64) (.pair (.int .u64) (.pair (.slice 63 (.pair (.int .i64) (.pair (.int .u64) (.int .u64)))) (.pair (.int .i64) (.pair (.int .u64) (.pair (.int .u64) (.int .u64))))))))) .unit .unit],[176129,155648,8192]⟩
  | 3000000 => ⟨[],[12682147545791606784]⟩
  | 3000001 => ⟨[],[12682147545791606784]⟩
  | 3000002 => ⟨[],[12682147545791606784]⟩
  | 3000003 => ⟨[],[12682147545791606784]⟩
  | 3000004 => ⟨[],[12682147545791606784]⟩
  | 3000005 => ⟨[],[12682147545791606784]⟩
  | 3000006 => ⟨[],[12682147545791606784]⟩
  | 3000007 => ⟨[],[12682147545791606784]⟩
  | 3000008 => ⟨[],[12682147545791606784]⟩
  | 3000009 => ⟨[],[12682147545791606784]⟩
  | 3000010 => ⟨[],[12682147545791606784]⟩
  | 3000011 => ⟨[],[12682147545791606784]⟩
  | 3000012 => ⟨[],[12682147545791606784]⟩
  | 3000013 => ⟨[],[12682147545791606784]⟩
  | 3000014 => ⟨[],[12682147545791606784]⟩
  | 3000015 => ⟨[],[12682147545791606784]⟩
  | 3000016 => ⟨[],[12682147545791606784]⟩
  | 3000017 => ⟨[],[12682147545791606784]⟩
  | 3000018 => ⟨[],[12682147545791606784]⟩
  | 3000019 => ⟨[],[12682147545791606784]⟩
  | 3000020 => ⟨[],[12682147545791606784]⟩
  | 3000021 => ⟨[],[12682147545791606784]⟩
  | 3000022 => ⟨[],[12682147545791606784]⟩
  | 5000017 => ⟨[],[0,0,1,1,0,0,4,4,8,8,0,0,32,32,64,64,144,144,256,256,514,514,2047,0,4095,3072]⟩
  | _ => ⟨[],[]⟩
noncomputable def F27 (b : List (Int×List Int)) : Option (Int×Int×Int×Int×(List (Int×(Int×Int)))×Int×Int×Int×Int×(List (Int×Int))×(List (Int×(Int×Int)))) :=
 (F66 (b,1)).bind fun r1 =>
 (F66 (b,2)).bind fun r2 =>
 (F66 (b,3)).bind fun r3 =>
 (F67 (b,4)).bind fun r4 =>
 (F68 r4.1).bind fun r5 =>
 (F66 (b,5)).bind fun r6 =>
 (F66 (b,6)).bind fun r7 =>
 (F66 (b,7)).bind fun r8 =>
 lfp (fun (rec9 : (Int×List (Int×Int)×List (Int×(Int×Int))×((Int×(Int×(Int×(Int×(List (Int×(Int×Int))×(Int×(Int×(Int×Int))))))))×(Unit×Unit))) → Option (Int×Int×Int×Int×(List (Int×(Int×Int)))×Int×Int×Int×Int×(List (Int×Int))×(List (Int×(Int×Int))))) (x9 : Int×List (Int×Int)×List (Int×(Int×Int))×((Int×(Int×(Int×(Int×(List (Int×(Int×Int))×(Int×(Int×(Int×Int))))))))×(Unit×Unit))) =>
  bif decide (x9.1 < (b.length : Int)) then (
  bif inb x9.1 b.length then
  bif (bif decide (32 ≤ (rd (.pair (.int .u64) (.slice 5 (.int .u8))) b x9.1).1) then decide ((rd (.pair (.int .u64) (.slice 5 (.int .u8))) b x9.1).1 < 48) else false) then (
  (F69 ((rd (.pair (.int .u64) (.slice 5 (.int .u8))) b x9.1).2)).bind fun r10 =>
  bif decide ((r10.1.length + 2) * 8 ≤ LIM) then
  bif inb 0 (r10.1 ++ ([0,0])).length then
  bif inb 1 (r10.1 ++ ([0,0])).length then
  (fun o => both (both o o) (both (both o (both o o)) (both o (both o o)))) (
  bif decide ((x9.2.1.length + 1) * 16 ≤ LIM) then
  bif decide (48 ≤ (rd (.pair (.int .u64) (.slice 5 (.int .u8))) b x9.1).1) then (
  (F70 ((rd (.pair (.int .u64) (.slice 5 (.int .u8))) b x9.1).2)).bind fun r11 =>
  bif decide ((x9.2.2.1.length + 1) * 24 ≤ LIM) then
  rec9 ((IntKind.wrap .i64 (x9.1 + 1)),(x9.2.1 ++ ([((rd (.int .u64) (r10.1 ++ ([0,0])) 0),(rd (.int .u64) (r10.1 ++ ([0,0])) 1))])),(x9.2.2.1 ++ ([(r11.1.1,(r11.1.2.1,r11.1.2.2))])),((x9.2.2.2.1.1,(x9.2.2.2.1.2.1,(x9.2.2.2.1.2.2.1,(x9.2.2.2.1.2.2.2.1,(x9.2.2.2.1.2.2.2.2.1,(x9.2.2.2.1.2.2.2.2.2.1,(x9.2.2.2.1.2.2.2.2.2.2.1,(x9.2.2.2.1.2.2.2.2.2.2.2.1,x9.2.2.2.1.2.2.2.2.2.2.2.2)))))))),((),())))
  else none)
  else (
  rec9 ((IntKind.wrap .i64 (x9.1 + 1)),(x9.2.1 ++ ([((rd (.int .u64) (r10.1 ++ ([0,0])) 0),(rd (.int .u64) (r10.1 ++ ([0,0])) 1))])),x9.2.2.1,((x9.2.2.2.1.1,(x9.2.2.2.1.2.1,(x9.2.2.2.1.2.2.1,(x9.2.2.2.1.2.2.2.1,(x9.2.2.2.1.2.2.2.2.1,(x9.2.2.2.1.2.2.2.2.2.1,(x9.2.2.2.1.2.2.2.2.2.2.1,(x9.2.2.2.1.2.2.2.2.2.2.2.1,x9.2.2.2.1.2.2.2.2.2.2.2.2)))))))),((),()))))
  else none)
  else none
  else none
  else none)
  else (
  bif decide (48 ≤ (rd (.pair (.int .u64) (.slice 5 (.int .u8))) b x9.1).1) then (
  (F70 ((rd (.pair (.int .u64) (.slice 5 (.int .u8))) b x9.1).2)).bind fun r12 =>
  bif decide ((x9.2.2.1.length + 1) * 24 ≤ LIM) then
  rec9 ((IntKind.wrap .i64 (x9.1 + 1)),x9.2.1,(x9.2.2.1 ++ ([(r12.1.1,(r12.1.2.1,r12.1.2.2))])),((x9.2.2.2.1.1,(x9.2.2.2.1.2.1,(x9.2.2.2.1.2.2.1,(x9.2.2.2.1.2.2.2.1,(x9.2.2.2.1.2.2.2.2.1,(x9.2.2.2.1.2.2.2.2.2.1,(x9.2.2.2.1.2.2.2.2.2.2.1,(x9.2.2.2.1.2.2.2.2.2.2.2.1,x9.2.2.2.1.2.2.2.2.2.2.2.2)))))))),((),())))
  else none)
  else (
  rec9 ((IntKind.wrap .i64 (x9.1 + 1)),x9.2.1,x9.2.2.1,((x9.2.2.2.1.1,(x9.2.2.2.1.2.1,(x9.2.2.2.1.2.2.1,(x9.2.2.2.1.2.2.2.1,(x9.2.2.2.1.2.2.2.2.1,(x9.2.2.2.1.2.2.2.2.2.1,(x9.2.2.2.1.2.2.2.2.2.2.1,(x9.2.2.2.1.2.2.2.2.2.2.2.1,x9.2.2.2.1.2.2.2.2.2.2.2.2)))))))),((),())))))
  else none)
  else (
  some (x9.2.2.2.1.1,x9.2.2.2.1.2.1,x9.2.2.2.1.2.2.1,x9.2.2.2.1.2.2.2.1,x9.2.2.2.1.2.2.2.2.1,x9.2.2.2.1.2.2.2.2.2.1,x9.2.2.2.1.2.2.2.2.2.2.1,x9.2.2.2.1.2.2.2.2.2.2.2.1,x9.2.2.2.1.2.2.2.2.2.2.2.2,x9.2.1,x9.2.2.1))) (0,([] : List (Int×Int)),([] : List (Int×(Int×Int))),((r1.1,((IntKind.wrap .i64 (if 99 < r2.1 then 99 else r2.1)),(r3.1,(r5.1.1,(r5.1.2.1,(r5.1.2.2,(r6.1,(r7.1,r8.1)))))))),((),())))
theorem ev27 (b : List (Int×List Int)) : evF C69 H27 Tryz.f27 (encs [.oneA (.slice 50 (.pair (.int .u64) (.slice 5 (.int .u8))))] b) (RT.dec (.one (.agg [.int .u64,.int .i64,.int .u64,.int .u64,.sl 63 (.pair (.int .i64) (.pair (.int .u64) (.int .u64))),.int .i64,.int .u64,.int .u64,.int .u64,.fresh 74 (.pair (.int .u64) (.int .u64)),.fresh 63 (.pair (.int .i64) (.pair (.int .u64) (.int .u64)))]))) = F27 b := by kernel_rfl
noncomputable def C27 : Ctx := Ctx.addA C69 27 [.oneA (.slice 50 (.pair (.int .u64) (.slice 5 (.int .u8))))] (.one (.agg [.int .u64,.int .i64,.int .u64,.int .u64,.sl 63 (.pair (.int .i64) (.pair (.int .u64) (.int .u64))),.int .i64,.int .u64,.int .u64,.int .u64,.fresh 74 (.pair (.int .u64) (.int .u64)),.fresh 63 (.pair (.int .i64) (.pair (.int .u64) (.int .u64)))])) F27
theorem s27 : C27.Sound := Ctx.Sound.addA (C := C69) mixed s69 Tryz.func27 ev27
def H9 : Nat → Head := fun _ => ⟨[],[]⟩
noncomputable def F9 (b : List Int) : Option ((Int×Int×Int×Int×(List (Int×(Int×Int)))×Int×Int×Int×Int×(List (Int×Int))×(List (Int×(Int×Int))))×Int) :=
 bif decide (4096 < (b.length : Int)) then (
 some ((0,0,0,0,([] : List (Int×(Int×Int))),0,0,0,0,([] : List (Int×Int)),([] : List (Int×(Int×Int)))),4))
 else (
 (F26 b).bind fun r1 =>
 bif (!decide (r1.2 = 0)) then (
 some ((0,0,0,0,([] : List (Int×(Int×Int))),0,0,0,0,([] : List (Int×Int)),([] : List (Int×(Int×Int)))),2))
 else (
 (F27 r1.1).bind fun r2 =>
 (F7 (r2.1,(r2.2.1,(r2.2.2.1,(r2.2.2.2.1,(r2.2.2.2.2.1,(r2.2.2.2.2.2.1,(r2.2.2.2.2.2.2.1,(r2.2.2.2.2.2.2.2.1,(r2.2.2.2.2.2.2.2.2.1,(r2.2.2.2.2.2.2.2.2.2.1,r2.2.2.2.2.2.2.2.2.2.2))))))))))).bind fun r3 =>
 bif ((!decide (r3.2 = 0)) == false) then (
 bif (!decide (r3.1 = b)) then (
 some ((0,0,0,0,([] : List (Int×(Int×Int))),0,0,0,0,([] : List (Int×Int)),([] : List (Int×(Int×Int)))),2))
 else (
 some ((r2.1,r2.2.1,r2.2.2.1,r2.2.2.2.1,r2.2.2.2.2.1,r2.2.2.2.2.2.1,r2.2.2.2.2.2.2.1,r2.2.2.2.2.2.2.2.1,r2.2.2.2.2.2.2.2.2.1,r2.2.2.2.2.2.2.2.2.2.1,r2.2.2.2.2.2.2.2.2.2.2),0)))
 else (
 some ((0,0,0,0,([] : List (Int×(Int×Int))),0,0,0,0,([] : List (Int×Int)),([] : List (Int×(Int×Int)))),2))))
theorem ev9 (b : List Int) : evF C27 H9 Tryz.f9 (encs [.oneA (.slice 5 (.int .u8))] b) (RT.dec (.tup [.agg [.int .u64,.int .i64,.int .u64,.int .u64,.sl 63 (.pair (.int .i64) (.pair (.int .u64) (.int .u64))),.int .i64,.int .u64,.int .u64,.int .u64,.fresh 74 (.pair (.int .u64) (.int .u64)),.fresh 63 (.pair (.int .i64) (.pair (.int .u64) (.int .u64)))],.leaf (.int .i64)])) = F9 b := by kernel_rfl
noncomputable def C9 : Ctx := Ctx.addA C27 9 [.oneA (.slice 5 (.int .u8))] (.tup [.agg [.int .u64,.int .i64,.int .u64,.int .u64,.sl 63 (.pair (.int .i64) (.pair (.int .u64) (.int .u64))),.int .i64,.int .u64,.int .u64,.int .u64,.fresh 74 (.pair (.int .u64) (.int .u64)),.fresh 63 (.pair (.int .i64) (.pair (.int .u64) (.int .u64)))],.leaf (.int .i64)]) F9
theorem s9 : C9.Sound := Ctx.Sound.addA (C := C27) mixed s27 Tryz.func9 ev9
def H11 : Nat → Head
  | 5 => ⟨[.row 4 18437 50 (.pair (.int .u64) (.slice 5 (.int .u8))),.data 13 (.int .i64)],[45056,4096]⟩
  | _ => ⟨[],[]⟩
noncomputable def F11 (b : (Int×(Int×(Int×(Int×(List (Int×(Int×Int))×(Int×(Int×(Int×(Int×(List (Int×Int)×List (Int×(Int×Int))))))))))))) : Option (List Int×Int) :=
 (F17 (b.1,(b.2.1,(b.2.2.1,(b.2.2.2.1,(b.2.2.2.2.1,(b.2.2.2.2.2.1,(b.2.2.2.2.2.2.1,(b.2.2.2.2.2.2.2.1,(b.2.2.2.2.2.2.2.2.1,(b.2.2.2.2.2.2.2.2.2.1,b.2.2.2.2.2.2.2.2.2.2))))))))))).bind fun r1 =>
 bif (!decide (r1 = 0)) then (
 some (([] : List Int),1))
 else (
 (F22 (b.1,(b.2.1,(b.2.2.1,(b.2.2.2.1,(b.2.2.2.2.1,(b.2.2.2.2.2.1,(b.2.2.2.2.2.2.1,(b.2.2.2.2.2.2.2.1,(b.2.2.2.2.2.2.2.2.1,(b.2.2.2.2.2.2.2.2.2.1,b.2.2.2.2.2.2.2.2.2.2))))))))))).bind fun r2 =>
 lfp (fun (rec3 : (List (Int×List Int)×Int) → Option (List Int×Int)) (x3 : List (Int×List Int)×Int) =>
  bif decide (x3.2 < (r2.length : Int)) then (
  bif inb x3.2 r2.length then
  bif (bif (!decide ((rd (.pair (.int .u64) (.slice 5 (.int .u8))) r2 x3.2).1 = 1)) then (!decide ((rd (.pair (.int .u64) (.slice 5 (.int .u8))) r2 x3.2).1 = 4)) else false) then (
  bif decide ((x3.1.length + 1) * 32 ≤ LIM) then
  rec3 ((x3.1 ++ ([((rd (.pair (.int .u64) (.slice 5 (.int .u8))) r2 x3.2).1,(rd (.pair (.int .u64) (.slice 5 (.int .u8))) r2 x3.2).2)])),(IntKind.wrap .i64 (x3.2 + 1)))
  else none)
  else (
  rec3 (x3.1,(IntKind.wrap .i64 (x3.2 + 1))))
  else none)
  else (
  (F21 x3.1).bind fun r4 =>
  some (r4.1,r4.2))) (([] : List (Int×List Int)),0))
theorem ev11 (b : (Int×(Int×(Int×(Int×(List (Int×(Int×Int))×(Int×(Int×(Int×(Int×(List (Int×Int)×List (Int×(Int×Int))))))))))))) : evF C9 H11 Tryz.f11 (encs [.aggA (.pair (.int .u64) (.pair (.int .i64) (.pair (.int .u64) (.pair (.int .u64) (.pair (.slice 63 (.pair (.int .i64) (.pair (.int .u64) (.int .u64)))) (.pair (.int .i64) (.pair (.int .u64) (.pair (.int .u64) (.pair (.int .u64) (.pair (.slice 74 (.pair (.int .u64) (.int .u64))) (.slice 63 (.pair (.int .i64) (.pair (.int .u64) (.int .u64))))))))))))))] b) (RT.dec (.tup [.leaf (.fresh 5 (.int .u8)),.leaf (.int .i64)])) = F11 b := by kernel_rfl
noncomputable def C11 : Ctx := Ctx.addA C9 11 [.aggA (.pair (.int .u64) (.pair (.int .i64) (.pair (.int .u64) (.pair (.int .u64) (.pair (.slice 63 (.pair (.int .i64) (.pair (.int .u64) (.int .u64)))) (.pair (.int .i64) (.pair (.int .u64) (.pair (.int .u64) (.pair (.int .u64) (.pair (.slice 74 (.pair (.int .u64) (.int .u64))) (.slice 63 (.pair (.int .i64) (.pair (.int .u64) (.int .u64))))))))))))))] (.tup [.leaf (.fresh 5 (.int .u8)),.leaf (.int .i64)]) F11
theorem s11 : C11.Sound := Ctx.Sound.addA (C := C9) mixed s9 Tryz.func11 ev11
def H12 : Nat → Head
  | 1000000 => ⟨[],[1]⟩
  | _ => ⟨[],[]⟩
noncomputable def F12 (b : (Int×(Int×(Int×(Int×(List (Int×(Int×Int))×(Int×(Int×(Int×(Int×(List (Int×Int)×List (Int×(Int×Int))))))))))))) : Option (Int×Int) :=
 (F16 (b.1,(b.2.1,(b.2.2.1,(b.2.2.2.1,(b.2.2.2.2.1,(b.2.2.2.2.2.1,(b.2.2.2.2.2.2.1,(b.2.2.2.2.2.2.2.1,(b.2.2.2.2.2.2.2.2.1,(b.2.2.2.2.2.2.2.2.2.1,b.2.2.2.2.2.2.2.2.2.2))))))))))).bind fun r1 =>
 bif (!decide (r1 = 0)) then (
 some (0,r1))
 else (
 bif decide (b.2.1 = 1) then (
 some (b.2.2.2.2.2.2.2.1,0))
 else (
 bif decide (b.2.1 = 2) then (
 (F30 b.2.2.2.2.2.2.2.2.2.1).bind fun r2 =>
 some (r2.1,r2.2))
 else (
 some (0,0))))
theorem ev12 (b : (Int×(Int×(Int×(Int×(List (Int×(Int×Int))×(Int×(Int×(Int×(Int×(List (Int×Int)×List (Int×(Int×Int))))))))))))) : evF C11 H12 Tryz.f12 (encs [.agg (.pair (.int .u64) (.pair (.int .i64) (.pair (.int .u64) (.pair (.int .u64) (.pair (.slice 63 (.pair (.int .i64) (.pair (.int .u64) (.int .u64)))) (.pair (.int .i64) (.pair (.int .u64) (.pair (.int .u64) (.pair (.int .u64) (.pair (.slice 74 (.pair (.int .u64) (.int .u64))) (.slice 63 (.pair (.int .i64) (.pair (.int .u64) (.int .u64))))))))))))))] b) (RT.dec (.tup [.leaf (.int .u64),.leaf (.int .i64)])) = F12 b := by kernel_rfl
noncomputable def C12 : Ctx := Ctx.add C11 12 [.agg (.pair (.int .u64) (.pair (.int .i64) (.pair (.int .u64) (.pair (.int .u64) (.pair (.slice 63 (.pair (.int .i64) (.pair (.int .u64) (.int .u64)))) (.pair (.int .i64) (.pair (.int .u64) (.pair (.int .u64) (.pair (.int .u64) (.pair (.slice 74 (.pair (.int .u64) (.int .u64))) (.slice 63 (.pair (.int .i64) (.pair (.int .u64) (.int .u64))))))))))))))] (.tup [.leaf (.int .u64),.leaf (.int .i64)]) F12
theorem s12 : C12.Sound := Ctx.Sound.add (C := C11) mixed s11 Tryz.func12 ev12
def H13 : Nat → Head := fun _ => ⟨[],[]⟩
noncomputable def F13 (b : (Int×(Int×(Int×(Int×(List (Int×(Int×Int))×(Int×(Int×(Int×(Int×(List (Int×Int)×List (Int×(Int×Int))))))))))))) : Option (Int×Int) :=
 (F17 (b.1,(b.2.1,(b.2.2.1,(b.2.2.2.1,(b.2.2.2.2.1,(b.2.2.2.2.2.1,(b.2.2.2.2.2.2.1,(b.2.2.2.2.2.2.2.1,(b.2.2.2.2.2.2.2.2.1,(b.2.2.2.2.2.2.2.2.2.1,b.2.2.2.2.2.2.2.2.2.2))))))))))).bind fun r1 =>
 bif (!decide (r1 = 0)) then (
 some (0,1))
 else (
 bif decide (b.2.1 = 1) then (
 some (b.2.2.2.2.2.2.2.1,0))
 else (
 bif decide (b.2.1 = 2) then (
 (F31 b.2.2.2.2.2.2.2.2.2.1).bind fun r2 =>
 some (r2.1,r2.2))
 else (
 some (0,0))))
theorem ev13 (b : (Int×(Int×(Int×(Int×(List (Int×(Int×Int))×(Int×(Int×(Int×(Int×(List (Int×Int)×List (Int×(Int×Int))))))))))))) : evF C12 H13 Tryz.f13 (encs [.agg (.pair (.int .u64) (.pair (.int .i64) (.pair (.int .u64) (.pair (.int .u64) (.pair (.slice 63 (.pair (.int .i64) (.pair (.int .u64) (.int .u64)))) (.pair (.int .i64) (.pair (.int .u64) (.pair (.int .u64) (.pair (.int .u64) (.pair (.slice 74 (.pair (.int .u64) (.int .u64))) (.slice 63 (.pair (.int .i64) (.pair (.int .u64) (.int .u64))))))))))))))] b) (RT.dec (.tup [.leaf (.int .u64),.leaf (.int .i64)])) = F13 b := by kernel_rfl
noncomputable def C13 : Ctx := Ctx.add C12 13 [.agg (.pair (.int .u64) (.pair (.int .i64) (.pair (.int .u64) (.pair (.int .u64) (.pair (.slice 63 (.pair (.int .i64) (.pair (.int .u64) (.int .u64)))) (.pair (.int .i64) (.pair (.int .u64) (.pair (.int .u64) (.pair (.int .u64) (.pair (.slice 74 (.pair (.int .u64) (.int .u64))) (.slice 63 (.pair (.int .i64) (.pair (.int .u64) (.int .u64))))))))))))))] (.tup [.leaf (.int .u64),.leaf (.int .i64)]) F13
theorem s13 : C13.Sound := Ctx.Sound.add (C := C12) mixed s12 Tryz.func13 ev13
def H14 : Nat → Head := fun _ => ⟨[],[]⟩
noncomputable def F14 (b : List Int×List Int) : Option Bool :=
 some (decide (b.1 = b.2))
theorem ev14 (b : List Int×List Int) : evF C13 H14 Tryz.f14 (encs [.one (.slice 5 (.int .u8)),.one (.slice 5 (.int .u8))] b) (RT.dec (.one (.leaf (.bool)))) = F14 b := by kernel_rfl
noncomputable def C14 : Ctx := Ctx.add C13 14 [.one (.slice 5 (.int .u8)),.one (.slice 5 (.int .u8))] (.one (.leaf (.bool))) F14
theorem s14 : C14.Sound := Ctx.Sound.add (C := C13) mixed s13 Tryz.func14 ev14
def H46 : Nat → Head
  | 4 => ⟨[.data 4 .bool,.data 13 (.int .i64)],[]⟩
  | 5000006 => ⟨[],[0,0,0,0,3,3,4,4,0,0,0,0,48,48,64,64,136,136]⟩
  | _ => ⟨[],[]⟩
noncomputable def F46 (b : List (Int×(Int×Int))×List (Int×(Int×Int))) : Option Bool :=
 bif (!decide ((b.1.length : Int) = (b.2.length : Int))) then (
 some false)
 else (
 lfp (fun (rec1 : (Bool×Int) → Option Bool) (x1 : Bool×Int) =>
  bif decide (x1.2 < (b.1.length : Int)) then (
  bif inb x1.2 b.1.length then
  bif inb x1.2 b.2.length then
  bif (!(decide ((rd (.pair (.int .i64) (.pair (.int .u64) (.int .u64))) b.1 x1.2).1 = (rd (.pair (.int .i64) (.pair (.int .u64) (.int .u64))) b.2 x1.2).1) && (decide (((rd (.pair (.int .i64) (.pair (.int .u64) (.int .u64))) b.1 x1.2).2).1 = ((rd (.pair (.int .i64) (.pair (.int .u64) (.int .u64))) b.2 x1.2).2).1) && decide (((rd (.pair (.int .i64) (.pair (.int .u64) (.int .u64))) b.1 x1.2).2).2 = ((rd (.pair (.int .i64) (.pair (.int .u64) (.int .u64))) b.2 x1.2).2).2)))) then (
  some false)
  else (
  rec1 (x1.1,(IntKind.wrap .i64 (x1.2 + 1))))
  else none
  else none)
  else (
  some true)) (false,0))
theorem ev46 (b : List (Int×(Int×Int))×List (Int×(Int×Int))) : evF C14 H46 Tryz.f46 (encs [.one (.slice 63 (.pair (.int .i64) (.pair (.int .u64) (.int .u64)))),.one (.slice 63 (.pair (.int .i64) (.pair (.int .u64) (.int .u64))))] b) (RT.dec (.one (.leaf (.bool)))) = F46 b := by kernel_rfl
noncomputable def C46 : Ctx := Ctx.add C14 46 [.one (.slice 63 (.pair (.int .i64) (.pair (.int .u64) (.int .u64)))),.one (.slice 63 (.pair (.int .i64) (.pair (.int .u64) (.int .u64))))] (.one (.leaf (.bool))) F46
theorem s46 : C46.Sound := Ctx.Sound.add (C := C14) mixed s14 Tryz.func46 ev46
def H44 : Nat → Head := fun _ => ⟨[],[]⟩
noncomputable def F44 (b : (Int×(List (Int×(Int×Int))×Int))×(Int×(List (Int×(Int×Int))×Int))) : Option Bool :=
 bif ((bif decide (b.1.1 = b.2.1) then decide (b.1.2.2 = b.2.2.2) else false) == true) then (
 (F46 (b.1.2.1,b.2.2.1)).bind fun r1 =>
 some r1)
 else (
 some false)
theorem ev44 (b : (Int×(List (Int×(Int×Int))×Int))×(Int×(List (Int×(Int×Int))×Int))) : evF C46 H44 Tryz.f44 (encs [.agg (.pair (.int .u64) (.pair (.slice 63 (.pair (.int .i64) (.pair (.int .u64) (.int .u64)))) (.int .i64))),.agg (.pair (.int .u64) (.pair (.slice 63 (.pair (.int .i64) (.pair (.int .u64) (.int .u64)))) (.int .i64)))] b) (RT.dec (.one (.leaf (.bool)))) = F44 b := by kernel_rfl
noncomputable def C44 : Ctx := Ctx.add C46 44 [.agg (.pair (.int .u64) (.pair (.slice 63 (.pair (.int .i64) (.pair (.int .u64) (.int .u64)))) (.int .i64))),.agg (.pair (.int .u64) (.pair (.slice 63 (.pair (.int .i64) (.pair (.int .u64) (.int .u64)))) (.int .i64)))] (.one (.leaf (.bool))) F44
theorem s44 : C44.Sound := Ctx.Sound.add (C := C46) mixed s46 Tryz.func44 ev44
def H45 : Nat → Head
  | 4 => ⟨[.data 4 .bool,.data 13 (.int .i64)],[]⟩
  | 5000006 => ⟨[],[0,0,0,0,3,3,4,4,0,0,0,0,48,48,64,64,136,136]⟩
  | _ => ⟨[],[]⟩
noncomputable def F45 (b : List (Int×Int)×List (Int×Int)) : Option Bool :=
 bif (!decide ((b.1.length : Int) = (b.2.length : Int))) then (
 some false)
 else (
 lfp (fun (rec1 : (Bool×Int) → Option Bool) (x1 : Bool×Int) =>
  bif decide (x1.2 < (b.1.length : Int)) then (
  bif inb x1.2 b.1.length then
  bif inb x1.2 b.2.length then
  bif (!(decide ((rd (.pair (.int .u64) (.int .u64)) b.1 x1.2).1 = (rd (.pair (.int .u64) (.int .u64)) b.2 x1.2).1) && decide ((rd (.pair (.int .u64) (.int .u64)) b.1 x1.2).2 = (rd (.pair (.int .u64) (.int .u64)) b.2 x1.2).2))) then (
  some false)
  else (
  rec1 (x1.1,(IntKind.wrap .i64 (x1.2 + 1))))
  else none
  else none)
  else (
  some true)) (false,0))
theorem ev45 (b : List (Int×Int)×List (Int×Int)) : evF C44 H45 Tryz.f45 (encs [.one (.slice 74 (.pair (.int .u64) (.int .u64))),.one (.slice 74 (.pair (.int .u64) (.int .u64)))] b) (RT.dec (.one (.leaf (.bool)))) = F45 b := by kernel_rfl
noncomputable def C45 : Ctx := Ctx.add C44 45 [.one (.slice 74 (.pair (.int .u64) (.int .u64))),.one (.slice 74 (.pair (.int .u64) (.int .u64)))] (.one (.leaf (.bool))) F45
theorem s45 : C45.Sound := Ctx.Sound.add (C := C44) mixed s44 Tryz.func45 ev45
def H18 : Nat → Head
  | 1000000 => ⟨[],[2,3]⟩
  | _ => ⟨[],[]⟩
noncomputable def F18 (b : (Int×(Int×(Int×(Int×(List (Int×(Int×Int))×(Int×(Int×(Int×(Int×(List (Int×Int)×List (Int×(Int×Int))))))))))))×(Int×(Int×(Int×(Int×(List (Int×(Int×Int))×(Int×(Int×(Int×(Int×(List (Int×Int)×List (Int×(Int×Int))))))))))))) : Option Bool :=
 bif ((bif (bif decide (b.1.1 = b.2.1) then decide (b.1.2.1 = b.2.2.1) else false) then decide (b.1.2.2.1 = b.2.2.2.1) else false) == true) then (
 (F44 ((b.1.2.2.2.1,(b.1.2.2.2.2.1,b.1.2.2.2.2.2.1)),(b.2.2.2.2.1,(b.2.2.2.2.2.1,b.2.2.2.2.2.2.1)))).bind fun r1 =>
 bif ((bif (bif (bif r1 then decide (b.1.2.2.2.2.2.2.1 = b.2.2.2.2.2.2.2.1) else false) then decide (b.1.2.2.2.2.2.2.2.1 = b.2.2.2.2.2.2.2.2.1) else false) then decide (b.1.2.2.2.2.2.2.2.2.1 = b.2.2.2.2.2.2.2.2.2.1) else false) == true) then (
 (F45 (b.1.2.2.2.2.2.2.2.2.2.1,b.2.2.2.2.2.2.2.2.2.2.1)).bind fun r2 =>
 bif (r2 == true) then (
 (F46 (b.1.2.2.2.2.2.2.2.2.2.2,b.2.2.2.2.2.2.2.2.2.2.2)).bind fun r3 =>
 some r3)
 else (
 some false))
 else (
 some false))
 else (
 some false)
theorem ev18 (b : (Int×(Int×(Int×(Int×(List (Int×(Int×Int))×(Int×(Int×(Int×(Int×(List (Int×Int)×List (Int×(Int×Int))))))))))))×(Int×(Int×(Int×(Int×(List (Int×(Int×Int))×(Int×(Int×(Int×(Int×(List (Int×Int)×List (Int×(Int×Int))))))))))))) : evF C45 H18 Tryz.f18 (encs [.agg (.pair (.int .u64) (.pair (.int .i64) (.pair (.int .u64) (.pair (.int .u64) (.pair (.slice 63 (.pair (.int .i64) (.pair (.int .u64) (.int .u64)))) (.pair (.int .i64) (.pair (.int .u64) (.pair (.int .u64) (.pair (.int .u64) (.pair (.slice 74 (.pair (.int .u64) (.int .u64))) (.slice 63 (.pair (.int .i64) (.pair (.int .u64) (.int .u64)))))))))))))),.agg (.pair (.int .u64) (.pair (.int .i64) (.pair (.int .u64) (.pair (.int .u64) (.pair (.slice 63 (.pair (.int .i64) (.pair (.int .u64) (.int .u64)))) (.pair (.int .i64) (.pair (.int .u64) (.pair (.int .u64) (.pair (.int .u64) (.pair (.slice 74 (.pair (.int .u64) (.int .u64))) (.slice 63 (.pair (.int .i64) (.pair (.int .u64) (.int .u64))))))))))))))] b) (RT.dec (.one (.leaf (.bool)))) = F18 b := by kernel_rfl
noncomputable def C18 : Ctx := Ctx.add C45 18 [.agg (.pair (.int .u64) (.pair (.int .i64) (.pair (.int .u64) (.pair (.int .u64) (.pair (.slice 63 (.pair (.int .i64) (.pair (.int .u64) (.int .u64)))) (.pair (.int .i64) (.pair (.int .u64) (.pair (.int .u64) (.pair (.int .u64) (.pair (.slice 74 (.pair (.int .u64) (.int .u64))) (.slice 63 (.pair (.int .i64) (.pair (.int .u64) (.int .u64)))))))))))))),.agg (.pair (.int .u64) (.pair (.int .i64) (.pair (.int .u64) (.pair (.int .u64) (.pair (.slice 63 (.pair (.int .i64) (.pair (.int .u64) (.int .u64)))) (.pair (.int .i64) (.pair (.int .u64) (.pair (.int .u64) (.pair (.int .u64) (.pair (.slice 74 (.pair (.int .u64) (.int .u64))) (.slice 63 (.pair (.int .i64) (.pair (.int .u64) (.int .u64))))))))))))))] (.one (.leaf (.bool))) F18
theorem s18 : C18.Sound := Ctx.Sound.add (C := C45) mixed s45 Tryz.func18 ev18
def H3 : Nat → Head
  | 1000000 => ⟨[],[3,4]⟩
  | 1000007 => ⟨[],[11]⟩
  | 1000008 => ⟨[],[13]⟩
  | 5000013 => ⟨[],[0,0,0,0,3,3,4,4,8,8,8,8,56,56,72,72,136,128,256,256,256,256,1792,1792,2304,2304,6144,4096,8192,8192,8192,8192,57344,57344,73728,73728,139264,131072,262144,262144,262144,262144,1835008,1835008,2359296,2359296,6291456,4194304,8388608,8388608,8388608,8388608,58720256,58720256,75497472,75497472,142606336,134217728,268435456,268435456,268435456,268435456,1879048192,1879048192,2415919104,2415919104,4563402752,4294967296,8589934592,8589934592,8589934592,8589934592,60129542144,60129542144,77309411328,77309411328,146028888064,137438953472,274877906944,274877906944,824633720832,824633720832,274877906944,274877906944,3573412790272,2473901162496,5772436045824,5772436045824,9070970929152,9070970929152,21990232555520,17592186044416,35184372088832,35184372088832,35184372088832,35184372088832,246290604621824,246290604621824,35184372088832,35184372088832,35184372088832,35184372088832,2005509209063424,1724034232352768,2568459162484736,2568459162484736,4538783999459328,4538783999459328,18014398509481983,9007199254740992]⟩
  | _ => ⟨[],[]⟩
noncomputable def F3 (b : (Int×(Int×(Int×(Int×(List (Int×(Int×Int))×(Int×(Int×(Int×(Int×(List (Int×Int)×List (Int×(Int×Int))))))))))))×(Int×(Int×(Int×(Int×(List (Int×(Int×Int))×(Int×(Int×(Int×(Int×(List (Int×Int)×List (Int×(Int×Int))))))))))))×List Int) : Option Bool :=
 (F4 ()).bind fun r1 =>
 bif (!r1) then (
 some false)
 else (
 (F5 (b.1.1,(b.1.2.1,(b.1.2.2.1,(b.1.2.2.2.1,(b.1.2.2.2.2.1,(b.1.2.2.2.2.2.1,(b.1.2.2.2.2.2.2.1,(b.1.2.2.2.2.2.2.2.1,(b.1.2.2.2.2.2.2.2.2.1,(b.1.2.2.2.2.2.2.2.2.2.1,b.1.2.2.2.2.2.2.2.2.2.2))))))))))).bind fun r2 =>
 bif ((!r2) == false) then (
 (F5 (b.2.1.1,(b.2.1.2.1,(b.2.1.2.2.1,(b.2.1.2.2.2.1,(b.2.1.2.2.2.2.1,(b.2.1.2.2.2.2.2.1,(b.2.1.2.2.2.2.2.2.1,(b.2.1.2.2.2.2.2.2.2.1,(b.2.1.2.2.2.2.2.2.2.2.1,(b.2.1.2.2.2.2.2.2.2.2.2.1,b.2.1.2.2.2.2.2.2.2.2.2.2))))))))))).bind fun r3 =>
 bif ((!r3) == false) then (
 bif (bif (bif decide (1500 < (b.2.2.length : Int)) then decide ((b.2.2.length : Int) ≤ 4096) else false) then true else decide (4100 < (b.2.2.length : Int))) then (
 some true)
 else (
 (F6 (b.1.1,(b.1.2.1,(b.1.2.2.1,(b.1.2.2.2.1,(b.1.2.2.2.2.1,(b.1.2.2.2.2.2.1,(b.1.2.2.2.2.2.2.1,(b.1.2.2.2.2.2.2.2.1,(b.1.2.2.2.2.2.2.2.2.1,(b.1.2.2.2.2.2.2.2.2.2.1,b.1.2.2.2.2.2.2.2.2.2.2))))))))))).bind fun r4 =>
 (F7 (b.1.1,(b.1.2.1,(b.1.2.2.1,(b.1.2.2.2.1,(b.1.2.2.2.2.1,(b.1.2.2.2.2.2.1,(b.1.2.2.2.2.2.2.1,(b.1.2.2.2.2.2.2.2.1,(b.1.2.2.2.2.2.2.2.2.1,(b.1.2.2.2.2.2.2.2.2.2.1,b.1.2.2.2.2.2.2.2.2.2.2))))))))))).bind fun r5 =>
 (F8 b.2.2).bind fun r6 =>
 (F9 b.2.2).bind fun r7 =>
 (F10 (b.1.1,(b.1.2.1,(b.1.2.2.1,(b.1.2.2.2.1,(b.1.2.2.2.2.1,(b.1.2.2.2.2.2.1,(b.1.2.2.2.2.2.2.1,(b.1.2.2.2.2.2.2.2.1,(b.1.2.2.2.2.2.2.2.2.1,(b.1.2.2.2.2.2.2.2.2.2.1,b.1.2.2.2.2.2.2.2.2.2.2))))))))))).bind fun r8 =>
 (F11 (b.1.1,(b.1.2.1,(b.1.2.2.1,(b.1.2.2.2.1,(b.1.2.2.2.2.1,(b.1.2.2.2.2.2.1,(b.1.2.2.2.2.2.2.1,(b.1.2.2.2.2.2.2.2.1,(b.1.2.2.2.2.2.2.2.2.1,(b.1.2.2.2.2.2.2.2.2.2.1,b.1.2.2.2.2.2.2.2.2.2.2))))))))))).bind fun r9 =>
 (F12 (b.1.1,(b.1.2.1,(b.1.2.2.1,(b.1.2.2.2.1,(b.1.2.2.2.2.1,(b.1.2.2.2.2.2.1,(b.1.2.2.2.2.2.2.1,(b.1.2.2.2.2.2.2.2.1,(b.1.2.2.2.2.2.2.2.2.1,(b.1.2.2.2.2.2.2.2.2.2.1,b.1.2.2.2.2.2.2.2.2.2.2))))))))))).bind fun r10 =>
 (F13 (b.1.1,(b.1.2.1,(b.1.2.2.1,(b.1.2.2.2.1,(b.1.2.2.2.2.1,(b.1.2.2.2.2.2.1,(b.1.2.2.2.2.2.2.1,(b.1.2.2.2.2.2.2.2.1,(b.1.2.2.2.2.2.2.2.2.1,(b.1.2.2.2.2.2.2.2.2.2.1,b.1.2.2.2.2.2.2.2.2.2.2))))))))))).bind fun r11 =>
 (F14 (r4.1,r5.1)).bind fun r12 =>
 bif ((bif r12 then decide (r4.2 = r5.2) else false) == true) then (
 (F15 ((r6.1.1,(r6.1.2.1,(r6.1.2.2.1,(r6.1.2.2.2.1,(r6.1.2.2.2.2.1,(r6.1.2.2.2.2.2.1,(r6.1.2.2.2.2.2.2.1,(r6.1.2.2.2.2.2.2.2.1,(r6.1.2.2.2.2.2.2.2.2.1,(r6.1.2.2.2.2.2.2.2.2.2.1,r6.1.2.2.2.2.2.2.2.2.2.2)))))))))),(r7.1.1,(r7.1.2.1,(r7.1.2.2.1,(r7.1.2.2.2.1,(r7.1.2.2.2.2.1,(r7.1.2.2.2.2.2.1,(r7.1.2.2.2.2.2.2.1,(r7.1.2.2.2.2.2.2.2.1,(r7.1.2.2.2.2.2.2.2.2.1,(r7.1.2.2.2.2.2.2.2.2.2.1,r7.1.2.2.2.2.2.2.2.2.2.2)))))))))))).bind fun r13 =>
 bif ((bif r13 then decide (r6.2 = r7.2) else false) == true) then (
 (F14 (r8.1,r9.1)).bind fun r14 =>
 bif ((bif (bif (bif r14 then decide (r8.2 = r9.2) else false) then decide (r10.1 = r11.1) else false) then decide (r10.2 = r11.2) else false) == true) then (
 (F16 (b.1.1,(b.1.2.1,(b.1.2.2.1,(b.1.2.2.2.1,(b.1.2.2.2.2.1,(b.1.2.2.2.2.2.1,(b.1.2.2.2.2.2.2.1,(b.1.2.2.2.2.2.2.2.1,(b.1.2.2.2.2.2.2.2.2.1,(b.1.2.2.2.2.2.2.2.2.2.1,b.1.2.2.2.2.2.2.2.2.2.2))))))))))).bind fun r15 =>
 (F17 (b.1.1,(b.1.2.1,(b.1.2.2.1,(b.1.2.2.2.1,(b.1.2.2.2.2.1,(b.1.2.2.2.2.2.1,(b.1.2.2.2.2.2.2.1,(b.1.2.2.2.2.2.2.2.1,(b.1.2.2.2.2.2.2.2.2.1,(b.1.2.2.2.2.2.2.2.2.2.1,b.1.2.2.2.2.2.2.2.2.2.2))))))))))).bind fun r16 =>
 bif (decide (r15 = r16) == true) then (
 (F18 ((b.1.1,(b.1.2.1,(b.1.2.2.1,(b.1.2.2.2.1,(b.1.2.2.2.2.1,(b.1.2.2.2.2.2.1,(b.1.2.2.2.2.2.2.1,(b.1.2.2.2.2.2.2.2.1,(b.1.2.2.2.2.2.2.2.2.1,(b.1.2.2.2.2.2.2.2.2.2.1,b.1.2.2.2.2.2.2.2.2.2.2)))))))))),(b.2.1.1,(b.2.1.2.1,(b.2.1.2.2.1,(b.2.1.2.2.2.1,(b.2.1.2.2.2.2.1,(b.2.1.2.2.2.2.2.1,(b.2.1.2.2.2.2.2.2.1,(b.2.1.2.2.2.2.2.2.2.1,(b.2.1.2.2.2.2.2.2.2.2.1,(b.2.1.2.2.2.2.2.2.2.2.2.1,b.2.1.2.2.2.2.2.2.2.2.2.2)))))))))))).bind fun r17 =>
 (F15 ((b.1.1,(b.1.2.1,(b.1.2.2.1,(b.1.2.2.2.1,(b.1.2.2.2.2.1,(b.1.2.2.2.2.2.1,(b.1.2.2.2.2.2.2.1,(b.1.2.2.2.2.2.2.2.1,(b.1.2.2.2.2.2.2.2.2.1,(b.1.2.2.2.2.2.2.2.2.2.1,b.1.2.2.2.2.2.2.2.2.2.2)))))))))),(b.2.1.1,(b.2.1.2.1,(b.2.1.2.2.1,(b.2.1.2.2.2.1,(b.2.1.2.2.2.2.1,(b.2.1.2.2.2.2.2.1,(b.2.1.2.2.2.2.2.2.1,(b.2.1.2.2.2.2.2.2.2.1,(b.2.1.2.2.2.2.2.2.2.2.1,(b.2.1.2.2.2.2.2.2.2.2.2.1,b.2.1.2.2.2.2.2.2.2.2.2.2)))))))))))).bind fun r18 =>
 some (r17 == r18))
 else (
 some false))
 else (
 some false))
 else (
 some false))
 else (
 some false)))
 else (
 some true))
 else (
 some true))
theorem ev3 (b : (Int×(Int×(Int×(Int×(List (Int×(Int×Int))×(Int×(Int×(Int×(Int×(List (Int×Int)×List (Int×(Int×Int))))))))))))×(Int×(Int×(Int×(Int×(List (Int×(Int×Int))×(Int×(Int×(Int×(Int×(List (Int×Int)×List (Int×(Int×Int))))))))))))×List Int) : evF C18 H3 Tryz.f3 (encs [.agg (.pair (.int .u64) (.pair (.int .i64) (.pair (.int .u64) (.pair (.int .u64) (.pair (.slice 63 (.pair (.int .i64) (.pair (.int .u64) (.int .u64)))) (.pair (.int .i64) (.pair (.int .u64) (.pair (.int .u64) (.pair (.int .u64) (.pair (.slice 74 (.pair (.int .u64) (.int .u64))) (.slice 63 (.pair (.int .i64) (.pair (.int .u64) (.int .u64)))))))))))))),.agg (.pair (.int .u64) (.pair (.int .i64) (.pair (.int .u64) (.pair (.int .u64) (.pair (.slice 63 (.pair (.int .i64) (.pair (.int .u64) (.int .u64)))) (.pair (.int .i64) (.pair (.int .u64) (.pair (.int .u64) (.pair (.int .u64) (.pair (.slice 74 (.pair (.int .u64) (.int .u64))) (.slice 63 (.pair (.int .i64) (.pair (.int .u64) (.int .u64)))))))))))))),.one (.slice 5 (.int .u8))] b) (RT.dec (.one (.leaf (.bool)))) = F3 b := by kernel_rfl
noncomputable def C3 : Ctx := Ctx.add C18 3 [.agg (.pair (.int .u64) (.pair (.int .i64) (.pair (.int .u64) (.pair (.int .u64) (.pair (.slice 63 (.pair (.int .i64) (.pair (.int .u64) (.int .u64)))) (.pair (.int .i64) (.pair (.int .u64) (.pair (.int .u64) (.pair (.int .u64) (.pair (.slice 74 (.pair (.int .u64) (.int .u64))) (.slice 63 (.pair (.int .i64) (.pair (.int .u64) (.int .u64)))))))))))))),.agg (.pair (.int .u64) (.pair (.int .i64) (.pair (.int .u64) (.pair (.int .u64) (.pair (.slice 63 (.pair (.int .i64) (.pair (.int .u64) (.int .u64)))) (.pair (.int .i64) (.pair (.int .u64) (.pair (.int .u64) (.pair (.int .u64) (.pair (.slice 74 (.pair (.int .u64) (.int .u64))) (.slice 63 (.pair (.int .i64) (.pair (.int .u64) (.int .u64)))))))))))))),.one (.slice 5 (.int .u8))] (.one (.leaf (.bool))) F3
theorem s3 : C3.Sound := Ctx.Sound.add (C := C18) mixed s18 Tryz.func3 ev3
end Go.Proofs.YtgdfhijgjjcnjaaGreatDoor.RZ
