/- Part of a proof: what the program's functions come to. -/
import Derived.Test.YtpgfkfmmnciblaaFwCtx
import Derived.Test.YtpgfkfmmnciblaaProg
import Derived.KernelRfl
set_option linter.unusedVariables false
set_option linter.unusedSimpArgs false
set_option maxRecDepth 100000
namespace Go.Proofs.Ytpgfkfmmnciblaa.R1
open Go Go.Fw Go.Proofs
noncomputable def C_ : Ctx := Ctx.nil Try.prog
theorem s_ : C_.Sound := Ctx.nil_sound _
theorem mixed : Try.prog.follows .mixedOrders = true := by kernel_rfl
/-! damson/bigsize.first -/
def H36 : Nat → Head := fun _ => ⟨[], []⟩
noncomputable def F36 (b : Int) : Option Int :=
 bif decide (b < 253) then (
 some (IntKind.wrap .u8 b))
 else (
 bif decide (b < 65536) then (
 some 253)
 else (
 bif decide (b < 4294967296) then (
 some 254)
 else (
 some 255)))
theorem ev36 (b : Int) : evF C_ H36 Try.f36 (encs [.one (.int .u64)] b) (RT.dec (.one (.leaf (.int .u8)))) = F36 b := by kernel_rfl
noncomputable def C36 : Ctx := Ctx.add C_ 36 [.one (.int .u64)] (.one (.leaf (.int .u8))) F36
theorem s36 : C36.Sound := Ctx.Sound.add (C := C_) mixed s_ Try.func36 ev36
/-! damson/bigsize.wide -/
def H37 : Nat → Head := fun _ => ⟨[], []⟩
noncomputable def F37 (b : Int) : Option Int :=
 bif decide (b < 253) then (
 some 0)
 else (
 some (IntKind.wrap .i64 (2 * 2 ^ (min (IntKind.wrap .u8 (b - 253)).toNat 64))))
theorem ev37 (b : Int) : evF C36 H37 Try.f37 (encs [.one (.int .u8)] b) (RT.dec (.one (.leaf (.int .i64)))) = F37 b := by kernel_rfl
noncomputable def C37 : Ctx := Ctx.add C36 37 [.one (.int .u8)] (.one (.leaf (.int .i64))) F37
theorem s37 : C37.Sound := Ctx.Sound.add (C := C36) mixed s36 Try.func37 ev37
/-! damson/bigsize.Put -/
def H13 : Nat → Head
  | 3 => ⟨[.row 3 14339 5 (.int .u8), .data 10 (.int .i64)], []⟩
  | 8 => ⟨[.row 3 14344 5 (.int .u8), .data 22 (.int .i64)], [73728]⟩
  | _ => ⟨[], []⟩
noncomputable def F13 (b : List Int) : Option (List Int) :=
 lfp (fun (rec1 : (List Int × Int) → Option (List Int)) (x1 : List Int × Int) =>
  bif decide (x1.2 < (b.length : Int)) then (
  bif inb x1.2 b.length then
  (F36 (rd (.int .u64) b x1.2)).bind fun r2 =>
  bif decide ((x1.1.length + 1) * 1 ≤ LIM) then
  (F37 r2).bind fun r3 =>
  lfp (fun (rec4 : (List Int × Int) → Option (List Int)) (x4 : List Int × Int) =>
   bif decide (x4.2 < r3) then (
   (F37 r2).bind fun r5 =>
   bif decide (0 ≤ (IntKind.wrap .i64 (8 * (IntKind.wrap .i64 ((IntKind.wrap .i64 (r5 - 1)) - x4.2))))) then
   bif decide ((x4.1.length + 1) * 1 ≤ LIM) then
   rec4 ((x4.1 ++ ([(IntKind.wrap .u8 ((rd (.int .u64) b x1.2) / 2 ^ (min (IntKind.wrap .i64 (8 * (IntKind.wrap .i64 ((IntKind.wrap .i64 (r5 - 1)) - x4.2)))).toNat 64)))])), (IntKind.wrap .i64 (x4.2 + 1)))
   else none
   else none)
   else (
   rec1 (x4.1, (IntKind.wrap .i64 (x1.2 + 1))))) ((x1.1 ++ ([r2])), 0)
  else none
  else none)
  else (
  some x1.1)) (([] : List Int), 0)
theorem ev13 (b : List Int) : evF C37 H13 Try.f13 (encs [.one (.slice 22 (.int .u64))] b) (RT.dec (.one (.leaf (.fresh 5 (.int .u8))))) = F13 b := by kernel_rfl
noncomputable def C13 : Ctx := Ctx.add C37 13 [.one (.slice 22 (.int .u64))] (.one (.leaf (.fresh 5 (.int .u8)))) F13
theorem s13 : C13.Sound := Ctx.Sound.add (C := C37) mixed s37 Try.func13 ev13
/-! damson/damsonlaw01.live -/
def H12 : Nat → Head := fun _ => ⟨[], []⟩
noncomputable def F12 (b : Unit) : Option Bool :=
 (both (
 (both (
 (F13 ([253])).bind fun r1 =>
 (both (
 some (decide (r1 = ([253, 0, 253])))) (
 (fun o => both o o) (
 some (decide (r1 = ([253, 0, 253]))))))) (
 (both (
 (F13 ([253])).bind fun r1 =>
 (fun o => both o o) (
 some (decide (r1 = ([253, 0, 253]))))) (
 (F13 ([253])).bind fun r1 =>
 some (decide (r1 = ([253, 0, 253])))))))) (
 (both (
 (both (
 (F13 ([253])).bind fun r1 =>
 (fun o => both o o) (
 some (decide (r1 = ([253, 0, 253]))))) (
 (F13 ([253])).bind fun r1 =>
 some (decide (r1 = ([253, 0, 253])))))) (
 (F13 ([253])).bind fun r1 =>
 some (decide (r1 = ([253, 0, 253])))))))
theorem ev12 (b : Unit) : evF C13 H12 Try.f12 (encs [] b) (RT.dec (.one (.leaf (.bool)))) = F12 b := by kernel_rfl
noncomputable def C12 : Ctx := Ctx.add C13 12 [] (.one (.leaf (.bool))) F12
theorem s12 : C12.Sound := Ctx.Sound.add (C := C13) mixed s13 Try.func12 ev12
/-! damson/damsonref01.SameBytes -/
def H14 : Nat → Head := fun _ => ⟨[], []⟩
noncomputable def F14 (b : List Int × List Int) : Option Bool :=
 some (decide (b.1 = b.2))
theorem ev14 (b : List Int × List Int) : evF C12 H14 Try.f14 (encs [.one (.slice 5 (.int .u8)), .one (.slice 5 (.int .u8))] b) (RT.dec (.one (.leaf (.bool)))) = F14 b := by kernel_rfl
noncomputable def C14 : Ctx := Ctx.add C12 14 [.one (.slice 5 (.int .u8)), .one (.slice 5 (.int .u8))] (.one (.leaf (.bool))) F14
theorem s14 : C14.Sound := Ctx.Sound.add (C := C12) mixed s12 Try.func14 ev14
/-! damson/damsonlaw01.BigsizeApart -/
def H3 : Nat → Head := fun _ => ⟨[], []⟩
noncomputable def F3 (b : Int × Int) : Option Bool :=
 (F12 ()).bind fun r1 =>
 bif (!r1) then (
 some false)
 else (
 (F13 ([b.1])).bind fun r2 =>
 (F13 ([b.2])).bind fun r3 =>
 bif decide (b.1 = b.2) then (
 (F14 (r2, r3)).bind fun r4 =>
 some r4)
 else (
 bif decide (b.2 < b.1) then (
 (fun o => both o o) (
 (fun o => both o o) (
 bif (decide ((r3.length : Int) ≤ (r2.length : Int)) == true) then (
 (both (
 bif (bytesLt r3 r2 == true) then (
 bif inb (r3.length : Int) (r2.length + 1) then
 some (!decide (r3 = (r2.take ((r3.length : Int).toNat))))
 else none)
 else (
 some false)) (
 bif (bytesLt r3 r2 == true) then (
 bif inb (r3.length : Int) (r2.length + 1) then
 (fun o => both o o) (
 some (!decide (r3 = (r2.take ((r3.length : Int).toNat)))))
 else none)
 else (
 (fun o => both o o) (
 some false)))))
 else (
 (both (
 some false) (
 (fun o => both o o) (
 some false)))))))
 else (
 (fun o => both o o) (
 (fun o => both o o) (
 bif (decide ((r2.length : Int) ≤ (r3.length : Int)) == true) then (
 (both (
 bif (bytesLt r2 r3 == true) then (
 bif inb (r2.length : Int) (r3.length + 1) then
 some (!decide (r2 = (r3.take ((r2.length : Int).toNat))))
 else none)
 else (
 some false)) (
 bif (bytesLt r2 r3 == true) then (
 bif inb (r2.length : Int) (r3.length + 1) then
 (fun o => both o o) (
 some (!decide (r2 = (r3.take ((r2.length : Int).toNat)))))
 else none)
 else (
 (fun o => both o o) (
 some false)))))
 else (
 (both (
 some false) (
 (fun o => both o o) (
 some false)))))))))
theorem ev3 (b : Int × Int) : evF C14 H3 Try.f3 (encs [.one (.int .u64), .one (.int .u64)] b) (RT.dec (.one (.leaf (.bool)))) = F3 b := by kernel_rfl
noncomputable def C3 : Ctx := Ctx.add C14 3 [.one (.int .u64), .one (.int .u64)] (.one (.leaf (.bool))) F3
theorem s3 : C3.Sound := Ctx.Sound.add (C := C14) mixed s14 Try.func3 ev3
/-! damson/bigsize.Size -/
def H15 : Nat → Head := fun _ => ⟨[], []⟩
noncomputable def F15 (b : Int) : Option Int :=
 (F36 b).bind fun r1 =>
 (F37 r1).bind fun r2 =>
 some (IntKind.wrap .i64 (1 + r2))
theorem ev15 (b : Int) : evF C3 H15 Try.f15 (encs [.one (.int .u64)] b) (RT.dec (.one (.leaf (.int .i64)))) = F15 b := by kernel_rfl
noncomputable def C15 : Ctx := Ctx.add C3 15 [.one (.int .u64)] (.one (.leaf (.int .i64))) F15
theorem s15 : C15.Sound := Ctx.Sound.add (C := C3) mixed s3 Try.func15 ev15
/-! damson/damsonlaw01.BigsizeSum -/
def H4 : Nat → Head
  | 7 => ⟨[.data 4 .bool, .data 5 (.int .i64), .data 25 (.int .i64)], [94208]⟩
  | _ => ⟨[], []⟩
noncomputable def F4 (b : List Int × List Int) : Option Bool :=
 (F12 ()).bind fun r1 =>
 bif (!r1) then (
 some false)
 else (
 bif (bif decide (200 < (b.1.length : Int)) then true else decide (200 < (b.2.length : Int))) then (
 some true)
 else (
 bif (!b.1.isEmpty || true) then
 bif decide ((([] : List Int).length + b.1.length) * 8 ≤ LIM) then
 bif decide (((([] : List Int) ++ b.1).length + b.2.length) * 8 ≤ LIM) then
 lfp (fun (rec2 : (Bool × Int × Int) → Option Bool) (x2 : Bool × Int × Int) =>
  bif decide (x2.2.2 < (((([] : List Int) ++ b.1) ++ b.2).length : Int)) then (
  bif inb x2.2.2 ((([] : List Int) ++ b.1) ++ b.2).length then
  (F15 (rd (.int .u64) ((([] : List Int) ++ b.1) ++ b.2) x2.2.2)).bind fun r3 =>
  bif (bif (bif (bif (!decide (r3 = 1)) then (!decide (r3 = 3)) else false) then (!decide (r3 = 5)) else false) then (!decide (r3 = 9)) else false) then (
  some false)
  else (
  rec2 (x2.1, (IntKind.wrap .i64 (x2.2.1 + r3)), (IntKind.wrap .i64 (x2.2.2 + 1))))
  else none)
  else (
  bif (!b.1.isEmpty || true) then
  bif decide ((([] : List Int).length + b.1.length) * 8 ≤ LIM) then
  bif decide (((([] : List Int) ++ b.1).length + b.2.length) * 8 ≤ LIM) then
  (F13 ((([] : List Int) ++ b.1) ++ b.2)).bind fun r4 =>
  bif (decide ((r4.length : Int) = x2.2.1) == true) then (
  (F13 b.1).bind fun r5 =>
  (F13 b.2).bind fun r6 =>
  bif decide ((r5.length + r6.length) * 1 ≤ LIM) then
  (F14 (r4, r5 ++ r6)).bind fun r7 =>
  some r7
  else none)
  else (
  some false)
  else none
  else none
  else none)) (false, 0, 0)
 else none
 else none
 else none))
theorem ev4 (b : List Int × List Int) : evF C15 H4 Try.f4 (encs [.one (.slice 22 (.int .u64)), .one (.slice 22 (.int .u64))] b) (RT.dec (.one (.leaf (.bool)))) = F4 b := by kernel_rfl
noncomputable def C4 : Ctx := Ctx.add C15 4 [.one (.slice 22 (.int .u64)), .one (.slice 22 (.int .u64))] (.one (.leaf (.bool))) F4
theorem s4 : C4.Sound := Ctx.Sound.add (C := C15) mixed s15 Try.func4 ev4
end Go.Proofs.Ytpgfkfmmnciblaa.R1
