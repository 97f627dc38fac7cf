/- Part of a proof: what the program's functions come to. -/
import Derived.Test.YtpgfkfmmnciblaaFwCtx
import Derived.Test.YtpgfkfmmnciblaaProg
import Derived.KernelRfl
set_option linter.unusedVariables false
set_option linter.unusedSimpArgs false
set_option maxRecDepth 100000
namespace Go.Proofs.Ytpgfkfmmnciblaa.R1
open Go Go.Fw Go.Proofs
noncomputable def C_ : Ctx := Ctx.nil Try.prog
theorem s_ : C_.Sound := Ctx.nil_sound _
theorem mixed : Try.prog.follows .mixedOrders = true := by kernel_rfl
/-! slices.Max[[]uint64,uint64] -/
def H45 : Nat → Head
  | 5 => ⟨[.data 3 (.int .u64), .data 4 (.int .i64)], []⟩
  | _ => ⟨[], []⟩
noncomputable def F45 (b : List Int) : Option Int :=
 bif decide ((b.length : Int) < 1) then (
 none)
 else (
 bif inb 0 b.length then
 lfp (fun (rec1 : (Int × Int) → Option Int) (x1 : Int × Int) =>
  bif decide (x1.2 < (b.length : Int)) then (
  bif inb x1.2 b.length then
  rec1 ((if x1.1 < (rd (.int .u64) b x1.2) then (rd (.int .u64) b x1.2) else x1.1), (IntKind.wrap .i64 (x1.2 + 1)))
  else none)
  else (
  some x1.1)) ((rd (.int .u64) b 0), 1)
 else none)
theorem ev45 (b : List Int) : evF C_ H45 Try.f45 (encs [.one (.slice 22 (.int .u64))] b) (RT.dec (.one (.leaf (.int .u64)))) = F45 b := by kernel_rfl
noncomputable def C45 : Ctx := Ctx.add C_ 45 [.one (.slice 22 (.int .u64))] (.one (.leaf (.int .u64))) F45
theorem s45 : C45.Sound := Ctx.Sound.add (C := C_) mixed s_ Try.func45 ev45
/-! damson/money.Check -/
def H41 : Nat → Head := fun _ => ⟨[], []⟩
noncomputable def F41 (b : List Int) : Option Int :=
 bif (decide (0 < (b.length : Int)) == true) then (
 (F45 b).bind fun r1 =>
 bif decide (4611686018427387904 < r1) then (
 some 1)
 else (
 some 0))
 else (
 some 0)
theorem ev41 (b : List Int) : evF C45 H41 Try.f41 (encs [.one (.slice 22 (.int .u64))] b) (RT.dec (.one (.leaf (.int .i64)))) = F41 b := by kernel_rfl
noncomputable def C41 : Ctx := Ctx.add C45 41 [.one (.slice 22 (.int .u64))] (.one (.leaf (.int .i64))) F41
theorem s41 : C41.Sound := Ctx.Sound.add (C := C45) mixed s45 Try.func41 ev41
/-! damson/caveat.Check -/
def H30 : Nat → Head := fun _ => ⟨[], []⟩
noncomputable def F30 (b : (Int × (Int × Int))) : Option Int :=
 bif decide (b.1 = 4) then (
 (F41 ([b.2.1])).bind fun r1 =>
 some r1)
 else (
 bif decide (b.1 = 3) then (
 (F41 ([b.2.1])).bind fun r2 =>
 bif (!decide (r2 = 0)) then (
 some 1)
 else (
 bif (!decide (b.2.2 = 0)) then (
 some 1)
 else (
 some 0)))
 else (
 bif decide (b.1 = 2) then (
 bif decide (0 < (b.2.1 / 2 ^ (min (16 : Int).toNat 64))) then (
 some 1)
 else (
 bif (!decide (b.2.2 = 0)) then (
 some 1)
 else (
 some 0)))
 else (
 bif decide (b.1 = 1) then (
 bif decide (b.1 = 1) then (
 bif (!decide (b.2.2 = 0)) then (
 some 1)
 else (
 some 0))
 else (
 some 1))
 else (
 bif decide (b.1 = 5) then (
 bif (!decide (b.2.2 = 0)) then (
 some 1)
 else (
 some 0))
 else (
 some 1)))))
theorem ev30 (b : (Int × (Int × Int))) : evF C41 H30 Try.f30 (encs [.agg (.pair (.int .i64) (.pair (.int .u64) (.int .u64)))] b) (RT.dec (.one (.leaf (.int .i64)))) = F30 b := by kernel_rfl
noncomputable def C30 : Ctx := Ctx.add C41 30 [.agg (.pair (.int .i64) (.pair (.int .u64) (.int .u64)))] (.one (.leaf (.int .i64))) F30
theorem s30 : C30.Sound := Ctx.Sound.add (C := C41) mixed s41 Try.func30 ev30
/-! damson/caveat.may -/
def H40 : Nat → Head := fun _ => ⟨[], []⟩
noncomputable def F40 (b : (Int × (Int × (Int × Int)))) : Option Bool :=
 bif ((bif decide (0 ≤ b.2.1) then decide (b.2.1 < 16) else false) == true) then (
 (F41 ([b.2.2.1])).bind fun r1 =>
 some (decide (r1 = 0)))
 else (
 some false)
theorem ev40 (b : (Int × (Int × (Int × Int)))) : evF C30 H40 Try.f40 (encs [.agg (.pair (.int .u64) (.pair (.int .i64) (.pair (.int .u64) (.int .u64))))] b) (RT.dec (.one (.leaf (.bool)))) = F40 b := by kernel_rfl
noncomputable def C40 : Ctx := Ctx.add C30 40 [.agg (.pair (.int .u64) (.pair (.int .i64) (.pair (.int .u64) (.int .u64))))] (.one (.leaf (.bool))) F40
theorem s40 : C40.Sound := Ctx.Sound.add (C := C30) mixed s30 Try.func40 ev40
/-! damson/caveat.Holds -/
def H25 : Nat → Head := fun _ => ⟨[], []⟩
noncomputable def F25 (b : (Int × (Int × Int)) × (Int × (Int × (Int × Int)))) : Option (Bool × Int) :=
 (F30 (b.1.1, (b.1.2.1, b.1.2.2))).bind fun r1 =>
 bif ((!decide (r1 = 0)) == false) then (
 (F40 (b.2.1, (b.2.2.1, (b.2.2.2.1, b.2.2.2.2)))).bind fun r2 =>
 bif (!r2) then (
 some (false, 1))
 else (
 bif decide (b.1.1 = 1) then (
 some (decide (b.2.1 ≤ b.1.2.1), 0))
 else (
 bif decide (b.1.1 = 2) then (
 bif decide (0 ≤ b.2.2.1) then
 some (decide ((bitOp .and .u64 (b.1.2.1 / 2 ^ (min b.2.2.1.toNat 64)) 1) = 1), 0)
 else none)
 else (
 bif decide (b.1.1 = 3) then (
 some (decide (b.2.2.2.1 ≤ b.1.2.1), 0))
 else (
 bif decide (b.1.1 = 4) then (
 some (decide (b.2.2.2.1 ≤ b.1.2.1), 0))
 else (
 bif decide (b.1.1 = 5) then (
 some (decide (b.2.2.2.2 = b.1.2.1), 0))
 else (
 some (false, 0))))))))
 else (
 some (false, 1))
theorem ev25 (b : (Int × (Int × Int)) × (Int × (Int × (Int × Int)))) : evF C40 H25 Try.f25 (encs [.agg (.pair (.int .i64) (.pair (.int .u64) (.int .u64))), .agg (.pair (.int .u64) (.pair (.int .i64) (.pair (.int .u64) (.int .u64))))] b) (RT.dec (.tup [.leaf (.bool), .leaf (.int .i64)])) = F25 b := by kernel_rfl
noncomputable def C25 : Ctx := Ctx.add C40 25 [.agg (.pair (.int .i64) (.pair (.int .u64) (.int .u64))), .agg (.pair (.int .u64) (.pair (.int .i64) (.pair (.int .u64) (.int .u64))))] (.tup [.leaf (.bool), .leaf (.int .i64)]) F25
theorem s25 : C25.Sound := Ctx.Sound.add (C := C40) mixed s40 Try.func25 ev25
/-! damson/damsonlaw06.live -/
def H23 : Nat → Head := fun _ => ⟨[], []⟩
noncomputable def F23 (b : Unit) : Option Bool :=
 (F25 ((1, (9, 0)), (9, (0, (0, 0))))).bind fun r1 =>
 (F25 ((1, (9, 0)), (10, (0, (0, 0))))).bind fun r2 =>
 some (bif (bif (bif decide (r1.2 = 0) then decide (r2.2 = 0) else false) then r1.1 else false) then (!r2.1) else false)
theorem ev23 (b : Unit) : evF C25 H23 Try.f23 (encs [] b) (RT.dec (.one (.leaf (.bool)))) = F23 b := by kernel_rfl
noncomputable def C23 : Ctx := Ctx.add C25 23 [] (.one (.leaf (.bool))) F23
theorem s23 : C23.Sound := Ctx.Sound.add (C := C25) mixed s25 Try.func23 ev23
/-! damson/caveat.All -/
def H24 : Nat → Head
  | 5 => ⟨[.data 4 .bool, .data 5 (.int .i64), .data 6 .bool, .data 21 (.int .i64)], [12288]⟩
  | _ => ⟨[], []⟩
noncomputable def F24 (b : List (Int × (Int × Int)) × (Int × (Int × (Int × Int)))) : Option (Bool × Int) :=
 bif (decide (16 < (b.1.length : Int)) == false) then (
 (F40 (b.2.1, (b.2.2.1, (b.2.2.2.1, b.2.2.2.2)))).bind fun r1 =>
 bif (!r1) then (
 some (false, 1))
 else (
 lfp (fun (rec2 : (Bool × Int × Bool × Int) → Option (Bool × Int)) (x2 : Bool × Int × Bool × Int) =>
  bif decide (x2.2.2.2 < (b.1.length : Int)) then (
  bif inb x2.2.2.2 b.1.length then
  (F25 (((rd (.pair (.int .i64) (.pair (.int .u64) (.int .u64))) b.1 x2.2.2.2).1, (((rd (.pair (.int .i64) (.pair (.int .u64) (.int .u64))) b.1 x2.2.2.2).2).1, ((rd (.pair (.int .i64) (.pair (.int .u64) (.int .u64))) b.1 x2.2.2.2).2).2)), (b.2.1, (b.2.2.1, (b.2.2.2.1, b.2.2.2.2))))).bind fun r3 =>
  bif (!decide (r3.2 = 0)) then (
  some (false, r3.2))
  else (
  rec2 (x2.1, x2.2.1, (bif x2.2.2.1 then r3.1 else false), (IntKind.wrap .i64 (x2.2.2.2 + 1))))
  else none)
  else (
  some (x2.2.2.1, 0))) (false, 0, true, 0)))
 else (
 some (false, 1))
theorem ev24 (b : List (Int × (Int × Int)) × (Int × (Int × (Int × Int)))) : evF C23 H24 Try.f24 (encs [.one (.slice 40 (.pair (.int .i64) (.pair (.int .u64) (.int .u64)))), .agg (.pair (.int .u64) (.pair (.int .i64) (.pair (.int .u64) (.int .u64))))] b) (RT.dec (.tup [.leaf (.bool), .leaf (.int .i64)])) = F24 b := by kernel_rfl
noncomputable def C24 : Ctx := Ctx.add C23 24 [.one (.slice 40 (.pair (.int .i64) (.pair (.int .u64) (.int .u64)))), .agg (.pair (.int .u64) (.pair (.int .i64) (.pair (.int .u64) (.int .u64))))] (.tup [.leaf (.bool), .leaf (.int .i64)]) F24
theorem s24 : C24.Sound := Ctx.Sound.add (C := C23) mixed s23 Try.func24 ev24
/-! damson/caveat.Caps -/
def H27 : Nat → Head
  | 5 => ⟨[.data 3 (.int .i64), .data 16 (.int .i64), .mpk 53248 ⟨(.int .u64), (.int .u64), true⟩], []⟩
  | 1000000 => ⟨[], [2]⟩
  | 1000002 => ⟨[], [2]⟩
  | 1000009 => ⟨[], [2]⟩
  | 1000015 => ⟨[], [2]⟩
  | _ => ⟨[], []⟩
noncomputable def F27 (b : List (Int × (Int × Int))) : Option ((List (Int × Int)) × Int) :=
 bif decide (16 < (b.length : Int)) then (
 some (([] : List (Int × Int)), 1))
 else (
 lfp (fun (rec1 : (Int × Int × List (Int × Int)) → Option ((List (Int × Int)) × Int)) (x1 : Int × Int × List (Int × Int)) =>
  bif decide (x1.2.1 < (b.length : Int)) then (
  bif inb x1.2.1 b.length then
  (F30 ((rd (.pair (.int .i64) (.pair (.int .u64) (.int .u64))) b x1.2.1).1, (((rd (.pair (.int .i64) (.pair (.int .u64) (.int .u64))) b x1.2.1).2).1, ((rd (.pair (.int .i64) (.pair (.int .u64) (.int .u64))) b x1.2.1).2).2))).bind fun r2 =>
  bif (!decide (r2 = 0)) then (
  some (([] : List (Int × Int)), r2))
  else (
  bif (!decide ((rd (.pair (.int .i64) (.pair (.int .u64) (.int .u64))) b x1.2.1).1 = 4)) then (
  rec1 (x1.1, (IntKind.wrap .i64 (x1.2.1 + 1)), x1.2.2))
  else (
  bif (bif (!(mhas (.int .u64) (.int .u64) x1.2.2 (((rd (.pair (.int .i64) (.pair (.int .u64) (.int .u64))) b x1.2.1).2).2))) then true else decide (((rd (.pair (.int .i64) (.pair (.int .u64) (.int .u64))) b x1.2.1).2).1 < (mget (.int .u64) (.int .u64) 0 x1.2.2 (((rd (.pair (.int .i64) (.pair (.int .u64) (.int .u64))) b x1.2.1).2).2)))) then (
  rec1 (x1.1, (IntKind.wrap .i64 (x1.2.1 + 1)), (mput (.int .u64) (.int .u64) x1.2.2 (((rd (.pair (.int .i64) (.pair (.int .u64) (.int .u64))) b x1.2.1).2).2) (((rd (.pair (.int .i64) (.pair (.int .u64) (.int .u64))) b x1.2.1).2).1))))
  else (
  rec1 (x1.1, (IntKind.wrap .i64 (x1.2.1 + 1)), x1.2.2))))
  else none)
  else (
  some (x1.2.2, 0))) (0, 0, ([] : List (Int × Int))))
theorem ev27 (b : List (Int × (Int × Int))) : evF C24 H27 Try.f27 (encs [.oneA (.slice 40 (.pair (.int .i64) (.pair (.int .u64) (.int .u64))))] b) (RT.dec (.tup [.leaf (.mp ⟨(.int .u64), (.int .u64), true⟩), .leaf (.int .i64)])) = F27 b := by kernel_rfl
noncomputable def C27 : Ctx := Ctx.addA C24 27 [.oneA (.slice 40 (.pair (.int .i64) (.pair (.int .u64) (.int .u64))))] (.tup [.leaf (.mp ⟨(.int .u64), (.int .u64), true⟩), .leaf (.int .i64)]) F27
theorem s27 : C27.Sound := Ctx.Sound.addA (C := C24) mixed s24 Try.func27 ev27
/-! damson/damsonlaw06.CaveatCaps -/
def H9 : Nat → Head
  | 13 => ⟨[.data 6 .bool, .iterk 266240 ⟨(.int .u64), (.int .u64), true⟩], [131072, 126976]⟩
  | 1000000 => ⟨[], [4, 5]⟩
  | 5000006 => ⟨[], [0, 0, 1, 1, 0, 0, 4, 4, 10, 10, 16, 16, 32, 32, 64, 64, 64, 64, 255, 128, 1023, 256]⟩
  | _ => ⟨[], []⟩
noncomputable def F9 (b : List (Int × (Int × Int)) × (Int × (Int × Int)) × (Int × (Int × (Int × Int)))) : Option Bool :=
 (F23 ()).bind fun r1 =>
 bif (!r1) then (
 some false)
 else (
 bif decide (15 < (b.1.length : Int)) then (
 some true)
 else (
 (F27 b.1).bind fun r2 =>
 (fun o => both o o) (
 bif (!b.1.isEmpty || true) then
 bif decide ((([] : List (Int × (Int × Int))).length + b.1.length) * 24 ≤ LIM) then
 bif decide (((([] : List (Int × (Int × Int))) ++ b.1).length + 1) * 24 ≤ LIM) then
 (F27 ((([] : List (Int × (Int × Int))) ++ b.1) ++ ([(b.2.1.1, (b.2.1.2.1, b.2.1.2.2))]))).bind fun r3 =>
 bif (!decide (r3.2 = 0)) then (
 bif decide (r3.1.length ≤ 9223372036854775807) then
 some (decide ((r3.1.length : Int) = 0))
 else none)
 else (
 bif ((!decide (r2.2 = 0)) == false) then (
 bif decide (r3.1.length ≤ 9223372036854775807) then
 bif decide (r2.1.length ≤ 9223372036854775807) then
 bif (decide ((r3.1.length : Int) < (r2.1.length : Int)) == false) then (
 bif decide (r3.1.length ≤ 9223372036854775807) then
 bif decide (r2.1.length ≤ 9223372036854775807) then
 bif decide ((IntKind.wrap .i64 ((r2.1.length : Int) + 1)) < (r3.1.length : Int)) then (
 some false)
 else (
 (F24 (b.1, (b.2.2.1, (b.2.2.2.1, (b.2.2.2.2.1, b.2.2.2.2.2))))).bind fun r4 =>
 lfp (fun (rec5 : (Bool × List (Int × Int)) → Option Bool) (x5 : Bool × List (Int × Int)) =>
  bif x5.2.isEmpty then (
  some true)
  else (
  anyOf x5.2 (fun (e6 : Int × Int) (r6 : List (Int × Int)) =>
   bif ((bif (!(mhas (.int .u64) (.int .u64) r3.1 e6.1)) then true else decide (e6.2 < (mget (.int .u64) (.int .u64) 0 r3.1 e6.1))) == false) then (
   bif ((!decide ((mget (.int .u64) (.int .u64) 0 r3.1 e6.1) = e6.2)) == true) then (
   bif ((bif (bif (!decide (b.2.1.1 = 4)) then true else (!decide (b.2.1.2.2 = e6.1))) then true else (!decide ((mget (.int .u64) (.int .u64) 0 r3.1 e6.1) = b.2.1.2.1))) == false) then (
   bif (bif (bif decide (r4.2 = 0) then r4.1 else false) then decide (e6.2 < b.2.2.2.2.1) else false) then (
   some false)
   else (
   rec5 (x5.1, r6)))
   else (
   some false))
   else (
   bif (bif (bif decide (r4.2 = 0) then r4.1 else false) then decide (e6.2 < b.2.2.2.2.1) else false) then (
   some false)
   else (
   rec5 (x5.1, r6))))
   else (
   some false)))) (false, r2.1))
 else none
 else none)
 else (
 some false)
 else none
 else none)
 else (
 some false))
 else none
 else none
 else none)))
theorem ev9 (b : List (Int × (Int × Int)) × (Int × (Int × Int)) × (Int × (Int × (Int × Int)))) : evF C27 H9 Try.f9 (encs [.one (.slice 40 (.pair (.int .i64) (.pair (.int .u64) (.int .u64)))), .agg (.pair (.int .i64) (.pair (.int .u64) (.int .u64))), .agg (.pair (.int .u64) (.pair (.int .i64) (.pair (.int .u64) (.int .u64))))] b) (RT.dec (.one (.leaf (.bool)))) = F9 b := by kernel_rfl
noncomputable def C9 : Ctx := Ctx.add C27 9 [.one (.slice 40 (.pair (.int .i64) (.pair (.int .u64) (.int .u64)))), .agg (.pair (.int .i64) (.pair (.int .u64) (.int .u64))), .agg (.pair (.int .u64) (.pair (.int .i64) (.pair (.int .u64) (.int .u64))))] (.one (.leaf (.bool))) F9
theorem s9 : C9.Sound := Ctx.Sound.add (C := C27) mixed s27 Try.func9 ev9
end Go.Proofs.Ytpgfkfmmnciblaa.R1
