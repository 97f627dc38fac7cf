/- Part of a proof: what the program's functions come to. -/
import Derived.Test.YtpgfkfmmnciblaaFwCtx
import Derived.Test.YtpgfkfmmnciblaaProg
import Derived.KernelRfl
set_option linter.unusedVariables false
set_option linter.unusedSimpArgs false
set_option maxRecDepth 100000
namespace Go.Proofs.Ytpgfkfmmnciblaa.R1
open Go Go.Fw Go.Proofs
noncomputable def C_ : Ctx := Ctx.nil Try.prog
theorem s_ : C_.Sound := Ctx.nil_sound _
theorem mixed : Try.prog.follows .mixedOrders = true := by kernel_rfl
/-! damson/bigsize.first -/
def H36 : Nat → Head := fun _ => ⟨[], []⟩
noncomputable def F36 (b : Int) : Option Int :=
 bif decide (b < 253) then (
 some (IntKind.wrap .u8 b))
 else (
 bif decide (b < 65536) then (
 some 253)
 else (
 bif decide (b < 4294967296) then (
 some 254)
 else (
 some 255)))
theorem ev36 (b : Int) : evF C_ H36 Try.f36 (encs [.one (.int .u64)] b) (RT.dec (.one (.leaf (.int .u8)))) = F36 b := by kernel_rfl
noncomputable def C36 : Ctx := Ctx.add C_ 36 [.one (.int .u64)] (.one (.leaf (.int .u8))) F36
theorem s36 : C36.Sound := Ctx.Sound.add (C := C_) mixed s_ Try.func36 ev36
/-! damson/bigsize.wide -/
def H37 : Nat → Head := fun _ => ⟨[], []⟩
noncomputable def F37 (b : Int) : Option Int :=
 bif decide (b < 253) then (
 some 0)
 else (
 some (IntKind.wrap .i64 (2 * 2 ^ (min (IntKind.wrap .u8 (b - 253)).toNat 64))))
theorem ev37 (b : Int) : evF C36 H37 Try.f37 (encs [.one (.int .u8)] b) (RT.dec (.one (.leaf (.int .i64)))) = F37 b := by kernel_rfl
noncomputable def C37 : Ctx := Ctx.add C36 37 [.one (.int .u8)] (.one (.leaf (.int .i64))) F37
theorem s37 : C37.Sound := Ctx.Sound.add (C := C36) mixed s36 Try.func37 ev37
/-! damson/bigsize.Put -/
def H13 : Nat → Head
  | 3 => ⟨[.row 3 14339 5 (.int .u8), .data 10 (.int .i64)], []⟩
  | 8 => ⟨[.row 3 14344 5 (.int .u8), .data 22 (.int .i64)], [73728]⟩
  | _ => ⟨[], []⟩
noncomputable def F13 (b : List Int) : Option (List Int) :=
 lfp (fun (rec1 : (List Int × Int) → Option (List Int)) (x1 : List Int × Int) =>
  bif decide (x1.2 < (b.length : Int)) then (
  bif inb x1.2 b.length then
  (F36 (rd (.int .u64) b x1.2)).bind fun r2 =>
  bif decide ((x1.1.length + 1) * 1 ≤ LIM) then
  (F37 r2).bind fun r3 =>
  lfp (fun (rec4 : (List Int × Int) → Option (List Int)) (x4 : List Int × Int) =>
   bif decide (x4.2 < r3) then (
   (F37 r2).bind fun r5 =>
   bif decide (0 ≤ (IntKind.wrap .i64 (8 * (IntKind.wrap .i64 ((IntKind.wrap .i64 (r5 - 1)) - x4.2))))) then
   bif decide ((x4.1.length + 1) * 1 ≤ LIM) then
   rec4 ((x4.1 ++ ([(IntKind.wrap .u8 ((rd (.int .u64) b x1.2) / 2 ^ (min (IntKind.wrap .i64 (8 * (IntKind.wrap .i64 ((IntKind.wrap .i64 (r5 - 1)) - x4.2)))).toNat 64)))])), (IntKind.wrap .i64 (x4.2 + 1)))
   else none
   else none)
   else (
   rec1 (x4.1, (IntKind.wrap .i64 (x1.2 + 1))))) ((x1.1 ++ ([r2])), 0)
  else none
  else none)
  else (
  some x1.1)) (([] : List Int), 0)
theorem ev13 (b : List Int) : evF C37 H13 Try.f13 (encs [.one (.slice 22 (.int .u64))] b) (RT.dec (.one (.leaf (.fresh 5 (.int .u8))))) = F13 b := by kernel_rfl
noncomputable def C13 : Ctx := Ctx.add C37 13 [.one (.slice 22 (.int .u64))] (.one (.leaf (.fresh 5 (.int .u8)))) F13
theorem s13 : C13.Sound := Ctx.Sound.add (C := C37) mixed s37 Try.func13 ev13
/-! damson/damsonlaw01.live -/
def H12 : Nat → Head := fun _ => ⟨[], []⟩
noncomputable def F12 (b : Unit) : Option Bool :=
 (both (
 (both (
 (F13 ([253])).bind fun r1 =>
 (both (
 some (decide (r1 = ([253, 0, 253])))) (
 (fun o => both o o) (
 some (decide (r1 = ([253, 0, 253]))))))) (
 (both (
 (F13 ([253])).bind fun r1 =>
 (fun o => both o o) (
 some (decide (r1 = ([253, 0, 253]))))) (
 (F13 ([253])).bind fun r1 =>
 some (decide (r1 = ([253, 0, 253])))))))) (
 (both (
 (both (
 (F13 ([253])).bind fun r1 =>
 (fun o => both o o) (
 some (decide (r1 = ([253, 0, 253]))))) (
 (F13 ([253])).bind fun r1 =>
 some (decide (r1 = ([253, 0, 253])))))) (
 (F13 ([253])).bind fun r1 =>
 some (decide (r1 = ([253, 0, 253])))))))
theorem ev12 (b : Unit) : evF C13 H12 Try.f12 (encs [] b) (RT.dec (.one (.leaf (.bool)))) = F12 b := by kernel_rfl
noncomputable def C12 : Ctx := Ctx.add C13 12 [] (.one (.leaf (.bool))) F12
theorem s12 : C12.Sound := Ctx.Sound.add (C := C13) mixed s13 Try.func12 ev12
/-! damson/damsonref01.SameBytes -/
def H14 : Nat → Head := fun _ => ⟨[], []⟩
noncomputable def F14 (b : List Int × List Int) : Option Bool :=
 some (decide (b.1 = b.2))
theorem ev14 (b : List Int × List Int) : evF C12 H14 Try.f14 (encs [.one (.slice 5 (.int .u8)), .one (.slice 5 (.int .u8))] b) (RT.dec (.one (.leaf (.bool)))) = F14 b := by kernel_rfl
noncomputable def C14 : Ctx := Ctx.add C12 14 [.one (.slice 5 (.int .u8)), .one (.slice 5 (.int .u8))] (.one (.leaf (.bool))) F14
theorem s14 : C14.Sound := Ctx.Sound.add (C := C12) mixed s12 Try.func14 ev14
/-! damson/damsonlaw01.BigsizeApart -/
def H3 : Nat → Head := fun _ => ⟨[], []⟩
noncomputable def F3 (b : Int × Int) : Option Bool :=
 (F12 ()).bind fun r1 =>
 bif (!r1) then (
 some false)
 else (
 (F13 ([b.1])).bind fun r2 =>
 (F13 ([b.2])).bind fun r3 =>
 bif decide (b.1 = b.2) then (
 (F14 (r2, r3)).bind fun r4 =>
 some r4)
 else (
 bif decide (b.2 < b.1) then (
 (fun o => both o o) (
 (fun o => both o o) (
 bif (decide ((r3.length : Int) ≤ (r2.length : Int)) == true) then (
 (both (
 bif (bytesLt r3 r2 == true) then (
 bif inb (r3.length : Int) (r2.length + 1) then
 some (!decide (r3 = (r2.take ((r3.length : Int).toNat))))
 else none)
 else (
 some false)) (
 bif (bytesLt r3 r2 == true) then (
 bif inb (r3.length : Int) (r2.length + 1) then
 (fun o => both o o) (
 some (!decide (r3 = (r2.take ((r3.length : Int).toNat)))))
 else none)
 else (
 (fun o => both o o) (
 some false)))))
 else (
 (both (
 some false) (
 (fun o => both o o) (
 some false)))))))
 else (
 (fun o => both o o) (
 (fun o => both o o) (
 bif (decide ((r2.length : Int) ≤ (r3.length : Int)) == true) then (
 (both (
 bif (bytesLt r2 r3 == true) then (
 bif inb (r2.length : Int) (r3.length + 1) then
 some (!decide (r2 = (r3.take ((r2.length : Int).toNat))))
 else none)
 else (
 some false)) (
 bif (bytesLt r2 r3 == true) then (
 bif inb (r2.length : Int) (r3.length + 1) then
 (fun o => both o o) (
 some (!decide (r2 = (r3.take ((r2.length : Int).toNat)))))
 else none)
 else (
 (fun o => both o o) (
 some false)))))
 else (
 (both (
 some false) (
 (fun o => both o o) (
 some false)))))))))
theorem ev3 (b : Int × Int) : evF C14 H3 Try.f3 (encs [.one (.int .u64), .one (.int .u64)] b) (RT.dec (.one (.leaf (.bool)))) = F3 b := by kernel_rfl
noncomputable def C3 : Ctx := Ctx.add C14 3 [.one (.int .u64), .one (.int .u64)] (.one (.leaf (.bool))) F3
theorem s3 : C3.Sound := Ctx.Sound.add (C := C14) mixed s14 Try.func3 ev3
/-! damson/bigsize.Size -/
def H15 : Nat → Head := fun _ => ⟨[], []⟩
noncomputable def F15 (b : Int) : Option Int :=
 (F36 b).bind fun r1 =>
 (F37 r1).bind fun r2 =>
 some (IntKind.wrap .i64 (1 + r2))
theorem ev15 (b : Int) : evF C3 H15 Try.f15 (encs [.one (.int .u64)] b) (RT.dec (.one (.leaf (.int .i64)))) = F15 b := by kernel_rfl
noncomputable def C15 : Ctx := Ctx.add C3 15 [.one (.int .u64)] (.one (.leaf (.int .i64))) F15
theorem s15 : C15.Sound := Ctx.Sound.add (C := C3) mixed s3 Try.func15 ev15
/-! damson/damsonlaw01.BigsizeSum -/
def H4 : Nat → Head
  | 7 => ⟨[.data 4 .bool, .data 5 (.int .i64), .data 25 (.int .i64)], [94208]⟩
  | _ => ⟨[], []⟩
noncomputable def F4 (b : List Int × List Int) : Option Bool :=
 (F12 ()).bind fun r1 =>
 bif (!r1) then (
 some false)
 else (
 bif (bif decide (200 < (b.1.length : Int)) then true else decide (200 < (b.2.length : Int))) then (
 some true)
 else (
 bif (!b.1.isEmpty || true) then
 bif decide ((([] : List Int).length + b.1.length) * 8 ≤ LIM) then
 bif decide (((([] : List Int) ++ b.1).length + b.2.length) * 8 ≤ LIM) then
 lfp (fun (rec2 : (Bool × Int × Int) → Option Bool) (x2 : Bool × Int × Int) =>
  bif decide (x2.2.2 < (((([] : List Int) ++ b.1) ++ b.2).length : Int)) then (
  bif inb x2.2.2 ((([] : List Int) ++ b.1) ++ b.2).length then
  (F15 (rd (.int .u64) ((([] : List Int) ++ b.1) ++ b.2) x2.2.2)).bind fun r3 =>
  bif (bif (bif (bif (!decide (r3 = 1)) then (!decide (r3 = 3)) else false) then (!decide (r3 = 5)) else false) then (!decide (r3 = 9)) else false) then (
  some false)
  else (
  rec2 (x2.1, (IntKind.wrap .i64 (x2.2.1 + r3)), (IntKind.wrap .i64 (x2.2.2 + 1))))
  else none)
  else (
  bif (!b.1.isEmpty || true) then
  bif decide ((([] : List Int).length + b.1.length) * 8 ≤ LIM) then
  bif decide (((([] : List Int) ++ b.1).length + b.2.length) * 8 ≤ LIM) then
  (F13 ((([] : List Int) ++ b.1) ++ b.2)).bind fun r4 =>
  bif (decide ((r4.length : Int) = x2.2.1) == true) then (
  (F13 b.1).bind fun r5 =>
  (F13 b.2).bind fun r6 =>
  bif decide ((r5.length + r6.length) * 1 ≤ LIM) then
  (F14 (r4, r5 ++ r6)).bind fun r7 =>
  some r7
  else none)
  else (
  some false)
  else none
  else none
  else none)) (false, 0, 0)
 else none
 else none
 else none))
theorem ev4 (b : List Int × List Int) : evF C15 H4 Try.f4 (encs [.one (.slice 22 (.int .u64)), .one (.slice 22 (.int .u64))] b) (RT.dec (.one (.leaf (.bool)))) = F4 b := by kernel_rfl
noncomputable def C4 : Ctx := Ctx.add C15 4 [.one (.slice 22 (.int .u64)), .one (.slice 22 (.int .u64))] (.one (.leaf (.bool))) F4
theorem s4 : C4.Sound := Ctx.Sound.add (C := C15) mixed s15 Try.func4 ev4
/-! damson/bigsize.Get -/
def H16 : Nat → Head
  | 7 => ⟨[.data 2 (.int .u64), .data 35 (.int .i64)], []⟩
  | _ => ⟨[], []⟩
noncomputable def F16 (b : List Int) : Option (Int × Int × Int) :=
 bif (decide ((b.length : Int) = 0) == false) then (
 bif inb 0 b.length then
 (F37 (rd (.int .u8) b 0)).bind fun r1 =>
 bif decide ((b.length : Int) ≤ r1) then (
 some (0, 0, 3))
 else (
 bif inb 0 b.length then
 (F37 (rd (.int .u8) b 0)).bind fun r2 =>
 bif decide (r2 = 0) then (
 bif inb 0 b.length then
 some ((IntKind.wrap .u64 (rd (.int .u8) b 0)), 1, 0)
 else none)
 else (
 bif (inb (IntKind.wrap .i64 (r2 + 1)) (b.length + 1) && (decide (0 ≤ 1) && decide (1 ≤ (IntKind.wrap .i64 (r2 + 1))))) then
 lfp (fun (rec3 : (Int × Int) → Option (Int × Int × Int)) (x3 : Int × Int) =>
  bif decide (x3.2 < (((b.take ((IntKind.wrap .i64 (r2 + 1)).toNat)).drop ((1 : Int).toNat)).length : Int)) then (
  bif inb x3.2 ((b.take ((IntKind.wrap .i64 (r2 + 1)).toNat)).drop ((1 : Int).toNat)).length then
  rec3 ((bitOp .or .u64 (IntKind.wrap .u64 (x3.1 * 2 ^ (min (8 : Int).toNat 64))) (IntKind.wrap .u64 (rd (.int .u8) ((b.take ((IntKind.wrap .i64 (r2 + 1)).toNat)).drop ((1 : Int).toNat)) x3.2))), (IntKind.wrap .i64 (x3.2 + 1)))
  else none)
  else (
  bif inb 0 b.length then
  (F36 x3.1).bind fun r4 =>
  bif (!decide (r4 = (rd (.int .u8) b 0))) then (
  some (0, 0, 2))
  else (
  some (x3.1, (IntKind.wrap .i64 (r2 + 1)), 0))
  else none)) (0, 0)
 else none)
 else none)
 else none)
 else (
 some (0, 0, 3))
theorem ev16 (b : List Int) : evF C4 H16 Try.f16 (encs [.one (.slice 5 (.int .u8))] b) (RT.dec (.tup [.leaf (.int .u64), .leaf (.int .i64), .leaf (.int .i64)])) = F16 b := by kernel_rfl
noncomputable def C16 : Ctx := Ctx.add C4 16 [.one (.slice 5 (.int .u8))] (.tup [.leaf (.int .u64), .leaf (.int .i64), .leaf (.int .i64)]) F16
theorem s16 : C16.Sound := Ctx.Sound.add (C := C4) mixed s4 Try.func16 ev16
/-! damson/damsonref01.long -/
def H38 : Nat → Head := fun _ => ⟨[], []⟩
noncomputable def F38 (b : Int) : Option Int :=
 bif decide (b < 253) then (
 some 1)
 else (
 bif decide (b = 253) then (
 some 3)
 else (
 bif decide (b = 254) then (
 some 5)
 else (
 some 9)))
theorem ev38 (b : Int) : evF C16 H38 Try.f38 (encs [.one (.int .u8)] b) (RT.dec (.one (.leaf (.int .i64)))) = F38 b := by kernel_rfl
noncomputable def C38 : Ctx := Ctx.add C16 38 [.one (.int .u8)] (.one (.leaf (.int .i64))) F38
theorem s38 : C38.Sound := Ctx.Sound.add (C := C16) mixed s16 Try.func38 ev38
/-! damson/damsonref01.high -/
def H44 : Nat → Head := fun _ => ⟨[], []⟩
noncomputable def B44 (recF : (Int × Int) → Option (List Int)) (b : Int × Int) : Option (List Int) :=
 bif decide (b.2 = 0) then (
 some ([] : List Int))
 else (
 (recF ((IntKind.wrap .u64 (Int.tdiv b.1 256)), (IntKind.wrap .i64 (b.2 - 1)))).bind fun r1 =>
 bif decide ((r1.length + 1) * 1 ≤ LIM) then
 some (r1 ++ ([(IntKind.wrap .u8 (Int.tmod b.1 256))]))
 else none)
noncomputable def F44 : (Int × Int) → Option (List Int) := lfp B44
theorem ev44 (F : (Int × Int) → Option (List Int)) (b : Int × Int) : evF (Ctx.add C38 44 [.one (.int .u64), .one (.int .i64)] (.one (.leaf (.fresh 5 (.int .u8)))) F) H44 Try.f44 (encs [.one (.int .u64), .one (.int .i64)] b) (RT.dec (.one (.leaf (.fresh 5 (.int .u8))))) = B44 F b := by kernel_rfl
noncomputable def C44 : Ctx := Ctx.add C38 44 [.one (.int .u64), .one (.int .i64)] (.one (.leaf (.fresh 5 (.int .u8)))) F44
theorem s44 : C44.Sound := Ctx.Sound.fix (C := C38) mixed s38 Try.func44 ev44
/-! damson/damsonref01.one -/
def H39 : Nat → Head := fun _ => ⟨[], []⟩
noncomputable def F39 (b : Int) : Option (List Int) :=
 bif decide (b < 253) then (
 some ([(IntKind.wrap .u8 b)]))
 else (
 bif decide (b < 65536) then (
 (F44 (b, 2)).bind fun r1 =>
 bif decide ((([253]).length + r1.length) * 1 ≤ LIM) then
 some (([253]) ++ r1)
 else none)
 else (
 bif decide (b < 4294967296) then (
 (F44 (b, 4)).bind fun r2 =>
 bif decide ((([254]).length + r2.length) * 1 ≤ LIM) then
 some (([254]) ++ r2)
 else none)
 else (
 (F44 (b, 8)).bind fun r3 =>
 bif decide ((([255]).length + r3.length) * 1 ≤ LIM) then
 some (([255]) ++ r3)
 else none)))
theorem ev39 (b : Int) : evF C44 H39 Try.f39 (encs [.one (.int .u64)] b) (RT.dec (.one (.leaf (.fresh 5 (.int .u8))))) = F39 b := by kernel_rfl
noncomputable def C39 : Ctx := Ctx.add C44 39 [.one (.int .u64)] (.one (.leaf (.fresh 5 (.int .u8)))) F39
theorem s39 : C39.Sound := Ctx.Sound.add (C := C44) mixed s44 Try.func39 ev39
/-! damson/damsonref01.Get -/
def H17 : Nat → Head
  | 8 => ⟨[.data 6 (.int .u64), .data 35 (.int .i64)], []⟩
  | _ => ⟨[], []⟩
noncomputable def F17 (b : List Int) : Option (Int × Int × Int) :=
 bif (decide ((b.length : Int) = 0) == false) then (
 bif inb 0 b.length then
 (F38 (rd (.int .u8) b 0)).bind fun r1 =>
 bif decide ((b.length : Int) < r1) then (
 some (0, 0, 3))
 else (
 bif inb 0 b.length then
 (F38 (rd (.int .u8) b 0)).bind fun r2 =>
 bif decide (r2 = 1) then (
 bif inb 0 b.length then
 bif (inb r2 (b.length + 1) && (decide (0 ≤ 1) && decide (1 ≤ r2))) then
 lfp (fun (rec3 : (Int × Int) → Option (Int × Int × Int)) (x3 : Int × Int) =>
  bif decide (x3.2 < (((b.take r2.toNat).drop ((1 : Int).toNat)).length : Int)) then (
  bif inb x3.2 ((b.take r2.toNat).drop ((1 : Int).toNat)).length then
  rec3 ((IntKind.wrap .u64 ((IntKind.wrap .u64 (256 * x3.1)) + (IntKind.wrap .u64 (rd (.int .u8) ((b.take r2.toNat).drop ((1 : Int).toNat)) x3.2)))), (IntKind.wrap .i64 (x3.2 + 1)))
  else none)
  else (
  bif inb r2 (b.length + 1) then
  (both (
  (F39 x3.1).bind fun r4 =>
  (fun o => both o o) (
  bif (!decide (r4 = (b.take r2.toNat))) then (
  some (0, 0, 2))
  else (
  some (x3.1, r2, 0)))) (
  (F39 x3.1).bind fun r4 =>
  bif (!decide (r4 = (b.take r2.toNat))) then (
  some (0, 0, 2))
  else (
  some (x3.1, r2, 0))))
  else none)) ((IntKind.wrap .u64 (rd (.int .u8) b 0)), 0)
 else none
 else none)
 else (
 bif (inb r2 (b.length + 1) && (decide (0 ≤ 1) && decide (1 ≤ r2))) then
 lfp (fun (rec5 : (Int × Int) → Option (Int × Int × Int)) (x5 : Int × Int) =>
  bif decide (x5.2 < (((b.take r2.toNat).drop ((1 : Int).toNat)).length : Int)) then (
  bif inb x5.2 ((b.take r2.toNat).drop ((1 : Int).toNat)).length then
  rec5 ((IntKind.wrap .u64 ((IntKind.wrap .u64 (256 * x5.1)) + (IntKind.wrap .u64 (rd (.int .u8) ((b.take r2.toNat).drop ((1 : Int).toNat)) x5.2)))), (IntKind.wrap .i64 (x5.2 + 1)))
  else none)
  else (
  bif inb r2 (b.length + 1) then
  (both (
  (F39 x5.1).bind fun r6 =>
  (fun o => both o o) (
  bif (!decide (r6 = (b.take r2.toNat))) then (
  some (0, 0, 2))
  else (
  some (x5.1, r2, 0)))) (
  (F39 x5.1).bind fun r6 =>
  bif (!decide (r6 = (b.take r2.toNat))) then (
  some (0, 0, 2))
  else (
  some (x5.1, r2, 0))))
  else none)) (0, 0)
 else none)
 else none)
 else none)
 else (
 some (0, 0, 3))
theorem ev17 (b : List Int) : evF C39 H17 Try.f17 (encs [.one (.slice 5 (.int .u8))] b) (RT.dec (.tup [.leaf (.int .u64), .leaf (.int .i64), .leaf (.int .i64)])) = F17 b := by kernel_rfl
noncomputable def C17 : Ctx := Ctx.add C39 17 [.one (.slice 5 (.int .u8))] (.tup [.leaf (.int .u64), .leaf (.int .i64), .leaf (.int .i64)]) F17
theorem s17 : C17.Sound := Ctx.Sound.add (C := C39) mixed s39 Try.func17 ev17
/-! damson/bigsize.All -/
def H18 : Nat → Head
  | 3 => ⟨[.data 0 (.slice 5 (.int .u8)), .row 2 10243 22 (.int .u64), .data 3 (.int .i64)], []⟩
  | _ => ⟨[], []⟩
noncomputable def F18 (b : List Int) : Option (List Int × Int) :=
 bif decide (65535 < (b.length : Int)) then (
 some (([] : List Int), 4))
 else (
 lfp (fun (rec1 : (List Int × List Int × Int) → Option (List Int × Int)) (x1 : List Int × List Int × Int) =>
  bif decide (0 < (x1.1.length : Int)) then (
  (F16 x1.1).bind fun r2 =>
  bif (!decide (r2.2.2 = 0)) then (
  some (([] : List Int), r2.2.2))
  else (
  bif inb r2.2.1 (x1.1.length + 1) then
  bif decide ((x1.2.1.length + 1) * 8 ≤ LIM) then
  rec1 (x1.1.drop r2.2.1.toNat, (x1.2.1 ++ ([r2.1])), x1.2.2)
  else none
  else none))
  else (
  some (x1.2.1, 0))) (b, ([] : List Int), 0))
theorem ev18 (b : List Int) : evF C17 H18 Try.f18 (encs [.one (.slice 5 (.int .u8))] b) (RT.dec (.tup [.leaf (.fresh 22 (.int .u64)), .leaf (.int .i64)])) = F18 b := by kernel_rfl
noncomputable def C18 : Ctx := Ctx.add C17 18 [.one (.slice 5 (.int .u8))] (.tup [.leaf (.fresh 22 (.int .u64)), .leaf (.int .i64)]) F18
theorem s18 : C18.Sound := Ctx.Sound.add (C := C17) mixed s17 Try.func18 ev18
/-! damson/damsonref01.All -/
def H19 : Nat → Head
  | 4 => ⟨[.data 0 (.slice 5 (.int .u8)), .row 2 10244 22 (.int .u64), .data 3 (.int .i64), .row 4 18436 22 (.int .u64)], []⟩
  | _ => ⟨[], []⟩
noncomputable def F19 (b : List Int) : Option (List Int × Int) :=
 bif decide (65535 < (b.length : Int)) then (
 some (([] : List Int), 4))
 else (
 lfp (fun (rec1 : (List Int × List Int × Int × List Int) → Option (List Int × Int)) (x1 : List Int × List Int × Int × List Int) =>
  bif decide (0 < (x1.1.length : Int)) then (
  (F17 x1.1).bind fun r2 =>
  bif (!decide (r2.2.2 = 0)) then (
  some (([] : List Int), r2.2.2))
  else (
  bif decide ((x1.2.2.2.length + 1) * 8 ≤ LIM) then
  bif inb r2.2.1 (x1.1.length + 1) then
  rec1 (x1.1.drop r2.2.1.toNat, x1.2.1, x1.2.2.1, (x1.2.2.2 ++ ([r2.1])))
  else none
  else none))
  else (
  some (x1.2.2.2, 0))) (b, ([] : List Int), 0, ([] : List Int)))
theorem ev19 (b : List Int) : evF C18 H19 Try.f19 (encs [.one (.slice 5 (.int .u8))] b) (RT.dec (.tup [.leaf (.fresh 22 (.int .u64)), .leaf (.int .i64)])) = F19 b := by kernel_rfl
noncomputable def C19 : Ctx := Ctx.add C18 19 [.one (.slice 5 (.int .u8))] (.tup [.leaf (.fresh 22 (.int .u64)), .leaf (.int .i64)]) F19
theorem s19 : C19.Sound := Ctx.Sound.add (C := C18) mixed s18 Try.func19 ev19
/-! damson/damsonref01.Put -/
def H20 : Nat → Head
  | 3 => ⟨[.row 3 14339 5 (.int .u8), .data 8 (.int .i64)], []⟩
  | _ => ⟨[], []⟩
noncomputable def F20 (b : List Int) : Option (List Int) :=
 lfp (fun (rec1 : (List Int × Int) → Option (List Int)) (x1 : List Int × Int) =>
  bif decide (x1.2 < (b.length : Int)) then (
  bif inb x1.2 b.length then
  (F39 (rd (.int .u64) b x1.2)).bind fun r2 =>
  bif decide ((x1.1.length + r2.length) * 1 ≤ LIM) then
  rec1 ((x1.1 ++ r2), (IntKind.wrap .i64 (x1.2 + 1)))
  else none
  else none)
  else (
  some x1.1)) (([] : List Int), 0)
theorem ev20 (b : List Int) : evF C19 H20 Try.f20 (encs [.one (.slice 22 (.int .u64))] b) (RT.dec (.one (.leaf (.fresh 5 (.int .u8))))) = F20 b := by kernel_rfl
noncomputable def C20 : Ctx := Ctx.add C19 20 [.one (.slice 22 (.int .u64))] (.one (.leaf (.fresh 5 (.int .u8)))) F20
theorem s20 : C20.Sound := Ctx.Sound.add (C := C19) mixed s19 Try.func20 ev20
/-! damson/damsonref01.Size -/
def H21 : Nat → Head := fun _ => ⟨[], []⟩
noncomputable def F21 (b : Int) : Option Int :=
 (F39 b).bind fun r1 =>
 some (r1.length : Int)
theorem ev21 (b : Int) : evF C20 H21 Try.f21 (encs [.one (.int .u64)] b) (RT.dec (.one (.leaf (.int .i64)))) = F21 b := by kernel_rfl
noncomputable def C21 : Ctx := Ctx.add C20 21 [.one (.int .u64)] (.one (.leaf (.int .i64))) F21
theorem s21 : C21.Sound := Ctx.Sound.add (C := C20) mixed s20 Try.func21 ev21
/-! damson/damsonref01.SameNumbers -/
def H22 : Nat → Head
  | 4 => ⟨[.data 4 .bool, .data 13 (.int .i64)], []⟩
  | _ => ⟨[], []⟩
noncomputable def F22 (b : List Int × List Int) : Option Bool :=
 bif (!decide ((b.1.length : Int) = (b.2.length : Int))) then (
 some false)
 else (
 lfp (fun (rec1 : (Bool × Int) → Option Bool) (x1 : Bool × Int) =>
  bif decide (x1.2 < (b.1.length : Int)) then (
  bif inb x1.2 b.1.length then
  bif inb x1.2 b.2.length then
  bif (!decide ((rd (.int .u64) b.1 x1.2) = (rd (.int .u64) b.2 x1.2))) then (
  some false)
  else (
  rec1 (x1.1, (IntKind.wrap .i64 (x1.2 + 1))))
  else none
  else none)
  else (
  some true)) (false, 0))
theorem ev22 (b : List Int × List Int) : evF C21 H22 Try.f22 (encs [.one (.slice 22 (.int .u64)), .one (.slice 22 (.int .u64))] b) (RT.dec (.one (.leaf (.bool)))) = F22 b := by kernel_rfl
noncomputable def C22 : Ctx := Ctx.add C21 22 [.one (.slice 22 (.int .u64)), .one (.slice 22 (.int .u64))] (.one (.leaf (.bool))) F22
theorem s22 : C22.Sound := Ctx.Sound.add (C := C21) mixed s21 Try.func22 ev22
/-! damson/damsonlaw01.BigsizeDoes -/
def H5 : Nat → Head := fun _ => ⟨[], []⟩
noncomputable def F5 (b : List Int × Int × List Int) : Option Bool :=
 (F12 ()).bind fun r1 =>
 bif (!r1) then (
 some false)
 else (
 bif (decide (200 < (b.1.length : Int)) == false) then (
 bif (bif (bif decide (2000 < (b.2.2.length : Int)) then decide ((b.2.2.length : Int) ≤ 65535) else false) then true else decide (65540 < (b.2.2.length : Int))) then (
 some true)
 else (
 (F16 b.2.2).bind fun r2 =>
 (F17 b.2.2).bind fun r3 =>
 (F18 b.2.2).bind fun r4 =>
 (F19 b.2.2).bind fun r5 =>
 (F13 b.1).bind fun r6 =>
 (F20 b.1).bind fun r7 =>
 (F14 (r6, r7)).bind fun r8 =>
 bif (r8 == true) then (
 (F15 b.2.1).bind fun r9 =>
 (F21 b.2.1).bind fun r10 =>
 bif ((bif (bif (bif decide (r9 = r10) then decide (r2.1 = r3.1) else false) then decide (r2.2.1 = r3.2.1) else false) then decide (r2.2.2 = r3.2.2) else false) == true) then (
 (F22 (r4.1, r5.1)).bind fun r11 =>
 bif ((bif r11 then decide (r4.2 = r5.2) else false) == true) then (
 some (decide (b.2.2 = b.2.2)))
 else (
 some false))
 else (
 some false))
 else (
 some false)))
 else (
 some true))
theorem ev5 (b : List Int × Int × List Int) : evF C22 H5 Try.f5 (encs [.one (.slice 22 (.int .u64)), .one (.int .u64), .one (.slice 5 (.int .u8))] b) (RT.dec (.one (.leaf (.bool)))) = F5 b := by kernel_rfl
noncomputable def C5 : Ctx := Ctx.add C22 5 [.one (.slice 22 (.int .u64)), .one (.int .u64), .one (.slice 5 (.int .u8))] (.one (.leaf (.bool))) F5
theorem s5 : C5.Sound := Ctx.Sound.add (C := C22) mixed s22 Try.func5 ev5
/-! damson/damsonlaw01.BigsizeBack -/
def H6 : Nat → Head := fun _ => ⟨[], []⟩
noncomputable def F6 (b : Int × List Int × List Int) : Option Bool :=
 (F12 ()).bind fun r1 =>
 bif (!r1) then (
 some false)
 else (
 bif (bif decide (200 < (b.2.1.length : Int)) then true else decide (200 < (b.2.2.length : Int))) then (
 some true)
 else (
 (F13 ([b.1])).bind fun r2 =>
 bif (!r2.isEmpty || true) then
 bif decide ((([] : List Int).length + r2.length) * 1 ≤ LIM) then
 bif decide (((([] : List Int) ++ r2).length + b.2.2.length) * 1 ≤ LIM) then
 (F16 ((([] : List Int) ++ r2) ++ b.2.2)).bind fun r3 =>
 (F13 b.2.1).bind fun r4 =>
 (F18 r4).bind fun r5 =>
 bif ((bif (bif (bif (!decide (r3.2.2 = 0)) then true else (!decide (r5.2 = 0))) then true else (!decide (r3.1 = b.1))) then true else (!decide (r3.2.1 = (r2.length : Int)))) == false) then (
 (F15 b.1).bind fun r6 =>
 bif ((!decide (r3.2.1 = r6)) == false) then (
 (F22 (r5.1, b.2.1)).bind fun r7 =>
 bif (!r7) then (
 some false)
 else (
 (F16 b.2.2).bind fun r8 =>
 bif (!decide (r8.2.2 = 0)) then (
 some (bif decide (r8.1 = 0) then decide (r8.2.1 = 0) else false))
 else (
 bif ((bif decide (1 ≤ r8.2.1) then decide (r8.2.1 ≤ (b.2.2.length : Int)) else false) == true) then (
 bif inb r8.2.1 (b.2.2.length + 1) then
 (F13 ([r8.1])).bind fun r9 =>
 (F14 (r9, b.2.2.take r8.2.1.toNat)).bind fun r10 =>
 some r10
 else none)
 else (
 some false))))
 else (
 some false))
 else (
 some false)
 else none
 else none
 else none))
theorem ev6 (b : Int × List Int × List Int) : evF C5 H6 Try.f6 (encs [.one (.int .u64), .one (.slice 22 (.int .u64)), .one (.slice 5 (.int .u8))] b) (RT.dec (.one (.leaf (.bool)))) = F6 b := by kernel_rfl
noncomputable def C6 : Ctx := Ctx.add C5 6 [.one (.int .u64), .one (.slice 22 (.int .u64)), .one (.slice 5 (.int .u8))] (.one (.leaf (.bool))) F6
theorem s6 : C6.Sound := Ctx.Sound.add (C := C5) mixed s5 Try.func6 ev6
/-! slices.Max[[]uint64,uint64] -/
def H45 : Nat → Head
  | 5 => ⟨[.data 3 (.int .u64), .data 4 (.int .i64)], []⟩
  | _ => ⟨[], []⟩
noncomputable def F45 (b : List Int) : Option Int :=
 bif decide ((b.length : Int) < 1) then (
 none)
 else (
 bif inb 0 b.length then
 lfp (fun (rec1 : (Int × Int) → Option Int) (x1 : Int × Int) =>
  bif decide (x1.2 < (b.length : Int)) then (
  bif inb x1.2 b.length then
  rec1 ((if x1.1 < (rd (.int .u64) b x1.2) then (rd (.int .u64) b x1.2) else x1.1), (IntKind.wrap .i64 (x1.2 + 1)))
  else none)
  else (
  some x1.1)) ((rd (.int .u64) b 0), 1)
 else none)
theorem ev45 (b : List Int) : evF C6 H45 Try.f45 (encs [.one (.slice 22 (.int .u64))] b) (RT.dec (.one (.leaf (.int .u64)))) = F45 b := by kernel_rfl
noncomputable def C45 : Ctx := Ctx.add C6 45 [.one (.slice 22 (.int .u64))] (.one (.leaf (.int .u64))) F45
theorem s45 : C45.Sound := Ctx.Sound.add (C := C6) mixed s6 Try.func45 ev45
/-! damson/money.Check -/
def H41 : Nat → Head := fun _ => ⟨[], []⟩
noncomputable def F41 (b : List Int) : Option Int :=
 bif (decide (0 < (b.length : Int)) == true) then (
 (F45 b).bind fun r1 =>
 bif decide (4611686018427387904 < r1) then (
 some 1)
 else (
 some 0))
 else (
 some 0)
theorem ev41 (b : List Int) : evF C45 H41 Try.f41 (encs [.one (.slice 22 (.int .u64))] b) (RT.dec (.one (.leaf (.int .i64)))) = F41 b := by kernel_rfl
noncomputable def C41 : Ctx := Ctx.add C45 41 [.one (.slice 22 (.int .u64))] (.one (.leaf (.int .i64))) F41
theorem s41 : C41.Sound := Ctx.Sound.add (C := C45) mixed s45 Try.func41 ev41
/-! damson/caveat.Check -/
def H30 : Nat → Head := fun _ => ⟨[], []⟩
noncomputable def F30 (b : (Int × (Int × Int))) : Option Int :=
 bif decide (b.1 = 4) then (
 (F41 ([b.2.1])).bind fun r1 =>
 some r1)
 else (
 bif decide (b.1 = 3) then (
 (F41 ([b.2.1])).bind fun r2 =>
 bif (!decide (r2 = 0)) then (
 some 1)
 else (
 bif (!decide (b.2.2 = 0)) then (
 some 1)
 else (
 some 0)))
 else (
 bif decide (b.1 = 2) then (
 bif decide (0 < (b.2.1 / 2 ^ (min (16 : Int).toNat 64))) then (
 some 1)
 else (
 bif (!decide (b.2.2 = 0)) then (
 some 1)
 else (
 some 0)))
 else (
 bif decide (b.1 = 1) then (
 bif decide (b.1 = 1) then (
 bif (!decide (b.2.2 = 0)) then (
 some 1)
 else (
 some 0))
 else (
 some 1))
 else (
 bif decide (b.1 = 5) then (
 bif (!decide (b.2.2 = 0)) then (
 some 1)
 else (
 some 0))
 else (
 some 1)))))
theorem ev30 (b : (Int × (Int × Int))) : evF C41 H30 Try.f30 (encs [.agg (.pair (.int .i64) (.pair (.int .u64) (.int .u64)))] b) (RT.dec (.one (.leaf (.int .i64)))) = F30 b := by kernel_rfl
noncomputable def C30 : Ctx := Ctx.add C41 30 [.agg (.pair (.int .i64) (.pair (.int .u64) (.int .u64)))] (.one (.leaf (.int .i64))) F30
theorem s30 : C30.Sound := Ctx.Sound.add (C := C41) mixed s41 Try.func30 ev30
/-! damson/caveat.may -/
def H40 : Nat → Head := fun _ => ⟨[], []⟩
noncomputable def F40 (b : (Int × (Int × (Int × Int)))) : Option Bool :=
 bif ((bif decide (0 ≤ b.2.1) then decide (b.2.1 < 16) else false) == true) then (
 (F41 ([b.2.2.1])).bind fun r1 =>
 some (decide (r1 = 0)))
 else (
 some false)
theorem ev40 (b : (Int × (Int × (Int × Int)))) : evF C30 H40 Try.f40 (encs [.agg (.pair (.int .u64) (.pair (.int .i64) (.pair (.int .u64) (.int .u64))))] b) (RT.dec (.one (.leaf (.bool)))) = F40 b := by kernel_rfl
noncomputable def C40 : Ctx := Ctx.add C30 40 [.agg (.pair (.int .u64) (.pair (.int .i64) (.pair (.int .u64) (.int .u64))))] (.one (.leaf (.bool))) F40
theorem s40 : C40.Sound := Ctx.Sound.add (C := C30) mixed s30 Try.func40 ev40
/-! damson/caveat.Holds -/
def H25 : Nat → Head := fun _ => ⟨[], []⟩
noncomputable def F25 (b : (Int × (Int × Int)) × (Int × (Int × (Int × Int)))) : Option (Bool × Int) :=
 (F30 (b.1.1, (b.1.2.1, b.1.2.2))).bind fun r1 =>
 bif ((!decide (r1 = 0)) == false) then (
 (F40 (b.2.1, (b.2.2.1, (b.2.2.2.1, b.2.2.2.2)))).bind fun r2 =>
 bif (!r2) then (
 some (false, 1))
 else (
 bif decide (b.1.1 = 1) then (
 some (decide (b.2.1 ≤ b.1.2.1), 0))
 else (
 bif decide (b.1.1 = 2) then (
 bif decide (0 ≤ b.2.2.1) then
 some (decide ((bitOp .and .u64 (b.1.2.1 / 2 ^ (min b.2.2.1.toNat 64)) 1) = 1), 0)
 else none)
 else (
 bif decide (b.1.1 = 3) then (
 some (decide (b.2.2.2.1 ≤ b.1.2.1), 0))
 else (
 bif decide (b.1.1 = 4) then (
 some (decide (b.2.2.2.1 ≤ b.1.2.1), 0))
 else (
 bif decide (b.1.1 = 5) then (
 some (decide (b.2.2.2.2 = b.1.2.1), 0))
 else (
 some (false, 0))))))))
 else (
 some (false, 1))
theorem ev25 (b : (Int × (Int × Int)) × (Int × (Int × (Int × Int)))) : evF C40 H25 Try.f25 (encs [.agg (.pair (.int .i64) (.pair (.int .u64) (.int .u64))), .agg (.pair (.int .u64) (.pair (.int .i64) (.pair (.int .u64) (.int .u64))))] b) (RT.dec (.tup [.leaf (.bool), .leaf (.int .i64)])) = F25 b := by kernel_rfl
noncomputable def C25 : Ctx := Ctx.add C40 25 [.agg (.pair (.int .i64) (.pair (.int .u64) (.int .u64))), .agg (.pair (.int .u64) (.pair (.int .i64) (.pair (.int .u64) (.int .u64))))] (.tup [.leaf (.bool), .leaf (.int .i64)]) F25
theorem s25 : C25.Sound := Ctx.Sound.add (C := C40) mixed s40 Try.func25 ev25
/-! damson/damsonlaw06.live -/
def H23 : Nat → Head := fun _ => ⟨[], []⟩
noncomputable def F23 (b : Unit) : Option Bool :=
 (F25 ((1, (9, 0)), (9, (0, (0, 0))))).bind fun r1 =>
 (F25 ((1, (9, 0)), (10, (0, (0, 0))))).bind fun r2 =>
 some (bif (bif (bif decide (r1.2 = 0) then decide (r2.2 = 0) else false) then r1.1 else false) then (!r2.1) else false)
theorem ev23 (b : Unit) : evF C25 H23 Try.f23 (encs [] b) (RT.dec (.one (.leaf (.bool)))) = F23 b := by kernel_rfl
noncomputable def C23 : Ctx := Ctx.add C25 23 [] (.one (.leaf (.bool))) F23
theorem s23 : C23.Sound := Ctx.Sound.add (C := C25) mixed s25 Try.func23 ev23
/-! damson/caveat.All -/
def H24 : Nat → Head
  | 5 => ⟨[.data 4 .bool, .data 5 (.int .i64), .data 6 .bool, .data 21 (.int .i64)], [12288]⟩
  | _ => ⟨[], []⟩
noncomputable def F24 (b : List (Int × (Int × Int)) × (Int × (Int × (Int × Int)))) : Option (Bool × Int) :=
 bif (decide (16 < (b.1.length : Int)) == false) then (
 (F40 (b.2.1, (b.2.2.1, (b.2.2.2.1, b.2.2.2.2)))).bind fun r1 =>
 bif (!r1) then (
 some (false, 1))
 else (
 lfp (fun (rec2 : (Bool × Int × Bool × Int) → Option (Bool × Int)) (x2 : Bool × Int × Bool × Int) =>
  bif decide (x2.2.2.2 < (b.1.length : Int)) then (
  bif inb x2.2.2.2 b.1.length then
  (F25 (((rd (.pair (.int .i64) (.pair (.int .u64) (.int .u64))) b.1 x2.2.2.2).1, (((rd (.pair (.int .i64) (.pair (.int .u64) (.int .u64))) b.1 x2.2.2.2).2).1, ((rd (.pair (.int .i64) (.pair (.int .u64) (.int .u64))) b.1 x2.2.2.2).2).2)), (b.2.1, (b.2.2.1, (b.2.2.2.1, b.2.2.2.2))))).bind fun r3 =>
  bif (!decide (r3.2 = 0)) then (
  some (false, r3.2))
  else (
  rec2 (x2.1, x2.2.1, (bif x2.2.2.1 then r3.1 else false), (IntKind.wrap .i64 (x2.2.2.2 + 1))))
  else none)
  else (
  some (x2.2.2.1, 0))) (false, 0, true, 0)))
 else (
 some (false, 1))
theorem ev24 (b : List (Int × (Int × Int)) × (Int × (Int × (Int × Int)))) : evF C23 H24 Try.f24 (encs [.one (.slice 40 (.pair (.int .i64) (.pair (.int .u64) (.int .u64)))), .agg (.pair (.int .u64) (.pair (.int .i64) (.pair (.int .u64) (.int .u64))))] b) (RT.dec (.tup [.leaf (.bool), .leaf (.int .i64)])) = F24 b := by kernel_rfl
noncomputable def C24 : Ctx := Ctx.add C23 24 [.one (.slice 40 (.pair (.int .i64) (.pair (.int .u64) (.int .u64)))), .agg (.pair (.int .u64) (.pair (.int .i64) (.pair (.int .u64) (.int .u64))))] (.tup [.leaf (.bool), .leaf (.int .i64)]) F24
theorem s24 : C24.Sound := Ctx.Sound.add (C := C23) mixed s23 Try.func24 ev24
/-! damson/damsonlaw06.CaveatMore -/
def H7 : Nat → Head := fun _ => ⟨[], []⟩
noncomputable def F7 (b : List (Int × (Int × Int)) × (Int × (Int × Int)) × (Int × (Int × (Int × Int)))) : Option Bool :=
 (F23 ()).bind fun r1 =>
 bif (!r1) then (
 some false)
 else (
 bif decide (15 < (b.1.length : Int)) then (
 some true)
 else (
 (F24 (b.1, (b.2.2.1, (b.2.2.2.1, (b.2.2.2.2.1, b.2.2.2.2.2))))).bind fun r2 =>
 (both (
 bif (!b.1.isEmpty || true) then
 bif decide ((([] : List (Int × (Int × Int))).length + b.1.length) * 24 ≤ LIM) then
 (both (
 (both (
 (fun o => both o o) (
 bif decide (((([] : List (Int × (Int × Int))) ++ b.1).length + 1) * 24 ≤ LIM) then
 (F24 ((([] : List (Int × (Int × Int))) ++ b.1) ++ ([(b.2.1.1, (b.2.1.2.1, b.2.1.2.2))]), (b.2.2.1, (b.2.2.2.1, (b.2.2.2.2.1, b.2.2.2.2.2))))).bind fun r3 =>
 (both (
 (both (
 (fun o => both o o) (
 bif decide ((([(b.2.1.1, (b.2.1.2.1, b.2.1.2.2))]).length + b.1.length) * 24 ≤ LIM) then
 (F24 (([(b.2.1.1, (b.2.1.2.1, b.2.1.2.2))]) ++ b.1, (b.2.2.1, (b.2.2.2.1, (b.2.2.2.2.1, b.2.2.2.2.2))))).bind fun r4 =>
 bif (bif (!(r3.1 == r4.1)) then true else (!(decide (r3.2 = 0) == decide (r4.2 = 0)))) then (
 some false)
 else (
 bif (!decide (r3.2 = 0)) then (
 some (!r3.1))
 else (
 (F25 ((b.2.1.1, (b.2.1.2.1, b.2.1.2.2)), (b.2.2.1, (b.2.2.2.1, (b.2.2.2.2.1, b.2.2.2.2.2))))).bind fun r5 =>
 bif ((bif decide (r2.2 = 0) then decide (r5.2 = 0) else false) == true) then (
 some (r3.1 == (bif r2.1 then r5.1 else false)))
 else (
 some false)))
 else none)) (
 bif decide ((([(b.2.1.1, (b.2.1.2.1, b.2.1.2.2))]).length + b.1.length) * 24 ≤ LIM) then
 (F24 (([(b.2.1.1, (b.2.1.2.1, b.2.1.2.2))]) ++ b.1, (b.2.2.1, (b.2.2.2.1, (b.2.2.2.2.1, b.2.2.2.2.2))))).bind fun r4 =>
 bif (bif (!(r3.1 == r4.1)) then true else (!(decide (r3.2 = 0) == decide (r4.2 = 0)))) then (
 some false)
 else (
 bif (!decide (r3.2 = 0)) then (
 some (!r3.1))
 else (
 (F25 ((b.2.1.1, (b.2.1.2.1, b.2.1.2.2)), (b.2.2.1, (b.2.2.2.1, (b.2.2.2.2.1, b.2.2.2.2.2))))).bind fun r5 =>
 bif ((bif decide (r2.2 = 0) then decide (r5.2 = 0) else false) == true) then (
 some (r3.1 == (bif r2.1 then r5.1 else false)))
 else (
 some false)))
 else none))) (
 bif decide ((([(b.2.1.1, (b.2.1.2.1, b.2.1.2.2))]).length + b.1.length) * 24 ≤ LIM) then
 (F24 (([(b.2.1.1, (b.2.1.2.1, b.2.1.2.2))]) ++ b.1, (b.2.2.1, (b.2.2.2.1, (b.2.2.2.2.1, b.2.2.2.2.2))))).bind fun r4 =>
 bif (bif (!(r3.1 == r4.1)) then true else (!(decide (r3.2 = 0) == decide (r4.2 = 0)))) then (
 some false)
 else (
 bif (!decide (r3.2 = 0)) then (
 some (!r3.1))
 else (
 (F25 ((b.2.1.1, (b.2.1.2.1, b.2.1.2.2)), (b.2.2.1, (b.2.2.2.1, (b.2.2.2.2.1, b.2.2.2.2.2))))).bind fun r5 =>
 bif ((bif decide (r2.2 = 0) then decide (r5.2 = 0) else false) == true) then (
 some (r3.1 == (bif r2.1 then r5.1 else false)))
 else (
 some false)))
 else none))
 else none)) (
 bif decide (((([] : List (Int × (Int × Int))) ++ b.1).length + 1) * 24 ≤ LIM) then
 (F24 ((([] : List (Int × (Int × Int))) ++ b.1) ++ ([(b.2.1.1, (b.2.1.2.1, b.2.1.2.2))]), (b.2.2.1, (b.2.2.2.1, (b.2.2.2.2.1, b.2.2.2.2.2))))).bind fun r3 =>
 (both (
 (both (
 (fun o => both o o) (
 bif decide ((([(b.2.1.1, (b.2.1.2.1, b.2.1.2.2))]).length + b.1.length) * 24 ≤ LIM) then
 (F24 (([(b.2.1.1, (b.2.1.2.1, b.2.1.2.2))]) ++ b.1, (b.2.2.1, (b.2.2.2.1, (b.2.2.2.2.1, b.2.2.2.2.2))))).bind fun r4 =>
 bif (bif (!(r3.1 == r4.1)) then true else (!(decide (r3.2 = 0) == decide (r4.2 = 0)))) then (
 some false)
 else (
 bif (!decide (r3.2 = 0)) then (
 some (!r3.1))
 else (
 (F25 ((b.2.1.1, (b.2.1.2.1, b.2.1.2.2)), (b.2.2.1, (b.2.2.2.1, (b.2.2.2.2.1, b.2.2.2.2.2))))).bind fun r5 =>
 bif ((bif decide (r2.2 = 0) then decide (r5.2 = 0) else false) == true) then (
 some (r3.1 == (bif r2.1 then r5.1 else false)))
 else (
 some false)))
 else none)) (
 bif decide ((([(b.2.1.1, (b.2.1.2.1, b.2.1.2.2))]).length + b.1.length) * 24 ≤ LIM) then
 (F24 (([(b.2.1.1, (b.2.1.2.1, b.2.1.2.2))]) ++ b.1, (b.2.2.1, (b.2.2.2.1, (b.2.2.2.2.1, b.2.2.2.2.2))))).bind fun r4 =>
 bif (bif (!(r3.1 == r4.1)) then true else (!(decide (r3.2 = 0) == decide (r4.2 = 0)))) then (
 some false)
 else (
 bif (!decide (r3.2 = 0)) then (
 some (!r3.1))
 else (
 (F25 ((b.2.1.1, (b.2.1.2.1, b.2.1.2.2)), (b.2.2.1, (b.2.2.2.1, (b.2.2.2.2.1, b.2.2.2.2.2))))).bind fun r5 =>
 bif ((bif decide (r2.2 = 0) then decide (r5.2 = 0) else false) == true) then (
 some (r3.1 == (bif r2.1 then r5.1 else false)))
 else (
 some false)))
 else none))) (
 bif decide ((([(b.2.1.1, (b.2.1.2.1, b.2.1.2.2))]).length + b.1.length) * 24 ≤ LIM) then
 (F24 (([(b.2.1.1, (b.2.1.2.1, b.2.1.2.2))]) ++ b.1, (b.2.2.1, (b.2.2.2.1, (b.2.2.2.2.1, b.2.2.2.2.2))))).bind fun r4 =>
 bif (bif (!(r3.1 == r4.1)) then true else (!(decide (r3.2 = 0) == decide (r4.2 = 0)))) then (
 some false)
 else (
 bif (!decide (r3.2 = 0)) then (
 some (!r3.1))
 else (
 (F25 ((b.2.1.1, (b.2.1.2.1, b.2.1.2.2)), (b.2.2.1, (b.2.2.2.1, (b.2.2.2.2.1, b.2.2.2.2.2))))).bind fun r5 =>
 bif ((bif decide (r2.2 = 0) then decide (r5.2 = 0) else false) == true) then (
 some (r3.1 == (bif r2.1 then r5.1 else false)))
 else (
 some false)))
 else none))
 else none))) (
 bif decide (((([] : List (Int × (Int × Int))) ++ b.1).length + 1) * 24 ≤ LIM) then
 (F24 ((([] : List (Int × (Int × Int))) ++ b.1) ++ ([(b.2.1.1, (b.2.1.2.1, b.2.1.2.2))]), (b.2.2.1, (b.2.2.2.1, (b.2.2.2.2.1, b.2.2.2.2.2))))).bind fun r3 =>
 (both (
 (both (
 (fun o => both o o) (
 bif decide ((([(b.2.1.1, (b.2.1.2.1, b.2.1.2.2))]).length + b.1.length) * 24 ≤ LIM) then
 (F24 (([(b.2.1.1, (b.2.1.2.1, b.2.1.2.2))]) ++ b.1, (b.2.2.1, (b.2.2.2.1, (b.2.2.2.2.1, b.2.2.2.2.2))))).bind fun r4 =>
 bif (bif (!(r3.1 == r4.1)) then true else (!(decide (r3.2 = 0) == decide (r4.2 = 0)))) then (
 some false)
 else (
 bif (!decide (r3.2 = 0)) then (
 some (!r3.1))
 else (
 (F25 ((b.2.1.1, (b.2.1.2.1, b.2.1.2.2)), (b.2.2.1, (b.2.2.2.1, (b.2.2.2.2.1, b.2.2.2.2.2))))).bind fun r5 =>
 bif ((bif decide (r2.2 = 0) then decide (r5.2 = 0) else false) == true) then (
 some (r3.1 == (bif r2.1 then r5.1 else false)))
 else (
 some false)))
 else none)) (
 bif decide ((([(b.2.1.1, (b.2.1.2.1, b.2.1.2.2))]).length + b.1.length) * 24 ≤ LIM) then
 (F24 (([(b.2.1.1, (b.2.1.2.1, b.2.1.2.2))]) ++ b.1, (b.2.2.1, (b.2.2.2.1, (b.2.2.2.2.1, b.2.2.2.2.2))))).bind fun r4 =>
 bif (bif (!(r3.1 == r4.1)) then true else (!(decide (r3.2 = 0) == decide (r4.2 = 0)))) then (
 some false)
 else (
 bif (!decide (r3.2 = 0)) then (
 some (!r3.1))
 else (
 (F25 ((b.2.1.1, (b.2.1.2.1, b.2.1.2.2)), (b.2.2.1, (b.2.2.2.1, (b.2.2.2.2.1, b.2.2.2.2.2))))).bind fun r5 =>
 bif ((bif decide (r2.2 = 0) then decide (r5.2 = 0) else false) == true) then (
 some (r3.1 == (bif r2.1 then r5.1 else false)))
 else (
 some false)))
 else none))) (
 bif decide ((([(b.2.1.1, (b.2.1.2.1, b.2.1.2.2))]).length + b.1.length) * 24 ≤ LIM) then
 (F24 (([(b.2.1.1, (b.2.1.2.1, b.2.1.2.2))]) ++ b.1, (b.2.2.1, (b.2.2.2.1, (b.2.2.2.2.1, b.2.2.2.2.2))))).bind fun r4 =>
 bif (bif (!(r3.1 == r4.1)) then true else (!(decide (r3.2 = 0) == decide (r4.2 = 0)))) then (
 some false)
 else (
 bif (!decide (r3.2 = 0)) then (
 some (!r3.1))
 else (
 (F25 ((b.2.1.1, (b.2.1.2.1, b.2.1.2.2)), (b.2.2.1, (b.2.2.2.1, (b.2.2.2.2.1, b.2.2.2.2.2))))).bind fun r5 =>
 bif ((bif decide (r2.2 = 0) then decide (r5.2 = 0) else false) == true) then (
 some (r3.1 == (bif r2.1 then r5.1 else false)))
 else (
 some false)))
 else none))
 else none))
 else none
 else none) (both (
 (both (
 bif (!b.1.isEmpty || true) then
 bif decide ((([] : List (Int × (Int × Int))).length + b.1.length) * 24 ≤ LIM) then
 (both (
 (fun o => both o o) (
 bif decide (((([] : List (Int × (Int × Int))) ++ b.1).length + 1) * 24 ≤ LIM) then
 (F24 ((([] : List (Int × (Int × Int))) ++ b.1) ++ ([(b.2.1.1, (b.2.1.2.1, b.2.1.2.2))]), (b.2.2.1, (b.2.2.2.1, (b.2.2.2.2.1, b.2.2.2.2.2))))).bind fun r3 =>
 (both (
 (both (
 (fun o => both o o) (
 bif decide ((([(b.2.1.1, (b.2.1.2.1, b.2.1.2.2))]).length + b.1.length) * 24 ≤ LIM) then
 (F24 (([(b.2.1.1, (b.2.1.2.1, b.2.1.2.2))]) ++ b.1, (b.2.2.1, (b.2.2.2.1, (b.2.2.2.2.1, b.2.2.2.2.2))))).bind fun r4 =>
 bif (bif (!(r3.1 == r4.1)) then true else (!(decide (r3.2 = 0) == decide (r4.2 = 0)))) then (
 some false)
 else (
 bif (!decide (r3.2 = 0)) then (
 some (!r3.1))
 else (
 (F25 ((b.2.1.1, (b.2.1.2.1, b.2.1.2.2)), (b.2.2.1, (b.2.2.2.1, (b.2.2.2.2.1, b.2.2.2.2.2))))).bind fun r5 =>
 bif ((bif decide (r2.2 = 0) then decide (r5.2 = 0) else false) == true) then (
 some (r3.1 == (bif r2.1 then r5.1 else false)))
 else (
 some false)))
 else none)) (
 bif decide ((([(b.2.1.1, (b.2.1.2.1, b.2.1.2.2))]).length + b.1.length) * 24 ≤ LIM) then
 (F24 (([(b.2.1.1, (b.2.1.2.1, b.2.1.2.2))]) ++ b.1, (b.2.2.1, (b.2.2.2.1, (b.2.2.2.2.1, b.2.2.2.2.2))))).bind fun r4 =>
 bif (bif (!(r3.1 == r4.1)) then true else (!(decide (r3.2 = 0) == decide (r4.2 = 0)))) then (
 some false)
 else (
 bif (!decide (r3.2 = 0)) then (
 some (!r3.1))
 else (
 (F25 ((b.2.1.1, (b.2.1.2.1, b.2.1.2.2)), (b.2.2.1, (b.2.2.2.1, (b.2.2.2.2.1, b.2.2.2.2.2))))).bind fun r5 =>
 bif ((bif decide (r2.2 = 0) then decide (r5.2 = 0) else false) == true) then (
 some (r3.1 == (bif r2.1 then r5.1 else false)))
 else (
 some false)))
 else none))) (
 bif decide ((([(b.2.1.1, (b.2.1.2.1, b.2.1.2.2))]).length + b.1.length) * 24 ≤ LIM) then
 (F24 (([(b.2.1.1, (b.2.1.2.1, b.2.1.2.2))]) ++ b.1, (b.2.2.1, (b.2.2.2.1, (b.2.2.2.2.1, b.2.2.2.2.2))))).bind fun r4 =>
 bif (bif (!(r3.1 == r4.1)) then true else (!(decide (r3.2 = 0) == decide (r4.2 = 0)))) then (
 some false)
 else (
 bif (!decide (r3.2 = 0)) then (
 some (!r3.1))
 else (
 (F25 ((b.2.1.1, (b.2.1.2.1, b.2.1.2.2)), (b.2.2.1, (b.2.2.2.1, (b.2.2.2.2.1, b.2.2.2.2.2))))).bind fun r5 =>
 bif ((bif decide (r2.2 = 0) then decide (r5.2 = 0) else false) == true) then (
 some (r3.1 == (bif r2.1 then r5.1 else false)))
 else (
 some false)))
 else none))
 else none)) (
 bif decide (((([] : List (Int × (Int × Int))) ++ b.1).length + 1) * 24 ≤ LIM) then
 (F24 ((([] : List (Int × (Int × Int))) ++ b.1) ++ ([(b.2.1.1, (b.2.1.2.1, b.2.1.2.2))]), (b.2.2.1, (b.2.2.2.1, (b.2.2.2.2.1, b.2.2.2.2.2))))).bind fun r3 =>
 (both (
 (both (
 (fun o => both o o) (
 bif decide ((([(b.2.1.1, (b.2.1.2.1, b.2.1.2.2))]).length + b.1.length) * 24 ≤ LIM) then
 (F24 (([(b.2.1.1, (b.2.1.2.1, b.2.1.2.2))]) ++ b.1, (b.2.2.1, (b.2.2.2.1, (b.2.2.2.2.1, b.2.2.2.2.2))))).bind fun r4 =>
 bif (bif (!(r3.1 == r4.1)) then true else (!(decide (r3.2 = 0) == decide (r4.2 = 0)))) then (
 some false)
 else (
 bif (!decide (r3.2 = 0)) then (
 some (!r3.1))
 else (
 (F25 ((b.2.1.1, (b.2.1.2.1, b.2.1.2.2)), (b.2.2.1, (b.2.2.2.1, (b.2.2.2.2.1, b.2.2.2.2.2))))).bind fun r5 =>
 bif ((bif decide (r2.2 = 0) then decide (r5.2 = 0) else false) == true) then (
 some (r3.1 == (bif r2.1 then r5.1 else false)))
 else (
 some false)))
 else none)) (
 bif decide ((([(b.2.1.1, (b.2.1.2.1, b.2.1.2.2))]).length + b.1.length) * 24 ≤ LIM) then
 (F24 (([(b.2.1.1, (b.2.1.2.1, b.2.1.2.2))]) ++ b.1, (b.2.2.1, (b.2.2.2.1, (b.2.2.2.2.1, b.2.2.2.2.2))))).bind fun r4 =>
 bif (bif (!(r3.1 == r4.1)) then true else (!(decide (r3.2 = 0) == decide (r4.2 = 0)))) then (
 some false)
 else (
 bif (!decide (r3.2 = 0)) then (
 some (!r3.1))
 else (
 (F25 ((b.2.1.1, (b.2.1.2.1, b.2.1.2.2)), (b.2.2.1, (b.2.2.2.1, (b.2.2.2.2.1, b.2.2.2.2.2))))).bind fun r5 =>
 bif ((bif decide (r2.2 = 0) then decide (r5.2 = 0) else false) == true) then (
 some (r3.1 == (bif r2.1 then r5.1 else false)))
 else (
 some false)))
 else none))) (
 bif decide ((([(b.2.1.1, (b.2.1.2.1, b.2.1.2.2))]).length + b.1.length) * 24 ≤ LIM) then
 (F24 (([(b.2.1.1, (b.2.1.2.1, b.2.1.2.2))]) ++ b.1, (b.2.2.1, (b.2.2.2.1, (b.2.2.2.2.1, b.2.2.2.2.2))))).bind fun r4 =>
 bif (bif (!(r3.1 == r4.1)) then true else (!(decide (r3.2 = 0) == decide (r4.2 = 0)))) then (
 some false)
 else (
 bif (!decide (r3.2 = 0)) then (
 some (!r3.1))
 else (
 (F25 ((b.2.1.1, (b.2.1.2.1, b.2.1.2.2)), (b.2.2.1, (b.2.2.2.1, (b.2.2.2.2.1, b.2.2.2.2.2))))).bind fun r5 =>
 bif ((bif decide (r2.2 = 0) then decide (r5.2 = 0) else false) == true) then (
 some (r3.1 == (bif r2.1 then r5.1 else false)))
 else (
 some false)))
 else none))
 else none))
 else none
 else none) (both (
 (both (
 bif (!b.1.isEmpty || true) then
 bif decide ((([] : List (Int × (Int × Int))).length + b.1.length) * 24 ≤ LIM) then
 (fun o => both o o) (
 bif decide (((([] : List (Int × (Int × Int))) ++ b.1).length + 1) * 24 ≤ LIM) then
 (F24 ((([] : List (Int × (Int × Int))) ++ b.1) ++ ([(b.2.1.1, (b.2.1.2.1, b.2.1.2.2))]), (b.2.2.1, (b.2.2.2.1, (b.2.2.2.2.1, b.2.2.2.2.2))))).bind fun r3 =>
 (both (
 (both (
 (fun o => both o o) (
 bif decide ((([(b.2.1.1, (b.2.1.2.1, b.2.1.2.2))]).length + b.1.length) * 24 ≤ LIM) then
 (F24 (([(b.2.1.1, (b.2.1.2.1, b.2.1.2.2))]) ++ b.1, (b.2.2.1, (b.2.2.2.1, (b.2.2.2.2.1, b.2.2.2.2.2))))).bind fun r4 =>
 bif (bif (!(r3.1 == r4.1)) then true else (!(decide (r3.2 = 0) == decide (r4.2 = 0)))) then (
 some false)
 else (
 bif (!decide (r3.2 = 0)) then (
 some (!r3.1))
 else (
 (F25 ((b.2.1.1, (b.2.1.2.1, b.2.1.2.2)), (b.2.2.1, (b.2.2.2.1, (b.2.2.2.2.1, b.2.2.2.2.2))))).bind fun r5 =>
 bif ((bif decide (r2.2 = 0) then decide (r5.2 = 0) else false) == true) then (
 some (r3.1 == (bif r2.1 then r5.1 else false)))
 else (
 some false)))
 else none)) (
 bif decide ((([(b.2.1.1, (b.2.1.2.1, b.2.1.2.2))]).length + b.1.length) * 24 ≤ LIM) then
 (F24 (([(b.2.1.1, (b.2.1.2.1, b.2.1.2.2))]) ++ b.1, (b.2.2.1, (b.2.2.2.1, (b.2.2.2.2.1, b.2.2.2.2.2))))).bind fun r4 =>
 bif (bif (!(r3.1 == r4.1)) then true else (!(decide (r3.2 = 0) == decide (r4.2 = 0)))) then (
 some false)
 else (
 bif (!decide (r3.2 = 0)) then (
 some (!r3.1))
 else (
 (F25 ((b.2.1.1, (b.2.1.2.1, b.2.1.2.2)), (b.2.2.1, (b.2.2.2.1, (b.2.2.2.2.1, b.2.2.2.2.2))))).bind fun r5 =>
 bif ((bif decide (r2.2 = 0) then decide (r5.2 = 0) else false) == true) then (
 some (r3.1 == (bif r2.1 then r5.1 else false)))
 else (
 some false)))
 else none))) (
 bif decide ((([(b.2.1.1, (b.2.1.2.1, b.2.1.2.2))]).length + b.1.length) * 24 ≤ LIM) then
 (F24 (([(b.2.1.1, (b.2.1.2.1, b.2.1.2.2))]) ++ b.1, (b.2.2.1, (b.2.2.2.1, (b.2.2.2.2.1, b.2.2.2.2.2))))).bind fun r4 =>
 bif (bif (!(r3.1 == r4.1)) then true else (!(decide (r3.2 = 0) == decide (r4.2 = 0)))) then (
 some false)
 else (
 bif (!decide (r3.2 = 0)) then (
 some (!r3.1))
 else (
 (F25 ((b.2.1.1, (b.2.1.2.1, b.2.1.2.2)), (b.2.2.1, (b.2.2.2.1, (b.2.2.2.2.1, b.2.2.2.2.2))))).bind fun r5 =>
 bif ((bif decide (r2.2 = 0) then decide (r5.2 = 0) else false) == true) then (
 some (r3.1 == (bif r2.1 then r5.1 else false)))
 else (
 some false)))
 else none))
 else none)
 else none
 else none) (
 bif (!b.1.isEmpty || true) then
 bif decide ((([] : List (Int × (Int × Int))).length + b.1.length) * 24 ≤ LIM) then
 bif decide (((([] : List (Int × (Int × Int))) ++ b.1).length + 1) * 24 ≤ LIM) then
 (F24 ((([] : List (Int × (Int × Int))) ++ b.1) ++ ([(b.2.1.1, (b.2.1.2.1, b.2.1.2.2))]), (b.2.2.1, (b.2.2.2.1, (b.2.2.2.2.1, b.2.2.2.2.2))))).bind fun r3 =>
 (both (
 (both (
 (fun o => both o o) (
 bif decide ((([(b.2.1.1, (b.2.1.2.1, b.2.1.2.2))]).length + b.1.length) * 24 ≤ LIM) then
 (F24 (([(b.2.1.1, (b.2.1.2.1, b.2.1.2.2))]) ++ b.1, (b.2.2.1, (b.2.2.2.1, (b.2.2.2.2.1, b.2.2.2.2.2))))).bind fun r4 =>
 bif (bif (!(r3.1 == r4.1)) then true else (!(decide (r3.2 = 0) == decide (r4.2 = 0)))) then (
 some false)
 else (
 bif (!decide (r3.2 = 0)) then (
 some (!r3.1))
 else (
 (F25 ((b.2.1.1, (b.2.1.2.1, b.2.1.2.2)), (b.2.2.1, (b.2.2.2.1, (b.2.2.2.2.1, b.2.2.2.2.2))))).bind fun r5 =>
 bif ((bif decide (r2.2 = 0) then decide (r5.2 = 0) else false) == true) then (
 some (r3.1 == (bif r2.1 then r5.1 else false)))
 else (
 some false)))
 else none)) (
 bif decide ((([(b.2.1.1, (b.2.1.2.1, b.2.1.2.2))]).length + b.1.length) * 24 ≤ LIM) then
 (F24 (([(b.2.1.1, (b.2.1.2.1, b.2.1.2.2))]) ++ b.1, (b.2.2.1, (b.2.2.2.1, (b.2.2.2.2.1, b.2.2.2.2.2))))).bind fun r4 =>
 bif (bif (!(r3.1 == r4.1)) then true else (!(decide (r3.2 = 0) == decide (r4.2 = 0)))) then (
 some false)
 else (
 bif (!decide (r3.2 = 0)) then (
 some (!r3.1))
 else (
 (F25 ((b.2.1.1, (b.2.1.2.1, b.2.1.2.2)), (b.2.2.1, (b.2.2.2.1, (b.2.2.2.2.1, b.2.2.2.2.2))))).bind fun r5 =>
 bif ((bif decide (r2.2 = 0) then decide (r5.2 = 0) else false) == true) then (
 some (r3.1 == (bif r2.1 then r5.1 else false)))
 else (
 some false)))
 else none))) (
 bif decide ((([(b.2.1.1, (b.2.1.2.1, b.2.1.2.2))]).length + b.1.length) * 24 ≤ LIM) then
 (F24 (([(b.2.1.1, (b.2.1.2.1, b.2.1.2.2))]) ++ b.1, (b.2.2.1, (b.2.2.2.1, (b.2.2.2.2.1, b.2.2.2.2.2))))).bind fun r4 =>
 bif (bif (!(r3.1 == r4.1)) then true else (!(decide (r3.2 = 0) == decide (r4.2 = 0)))) then (
 some false)
 else (
 bif (!decide (r3.2 = 0)) then (
 some (!r3.1))
 else (
 (F25 ((b.2.1.1, (b.2.1.2.1, b.2.1.2.2)), (b.2.2.1, (b.2.2.2.1, (b.2.2.2.2.1, b.2.2.2.2.2))))).bind fun r5 =>
 bif ((bif decide (r2.2 = 0) then decide (r5.2 = 0) else false) == true) then (
 some (r3.1 == (bif r2.1 then r5.1 else false)))
 else (
 some false)))
 else none))
 else none
 else none
 else none))) (
 (fun o => both o o) (
 bif (!b.1.isEmpty || true) then
 bif decide ((([] : List (Int × (Int × Int))).length + b.1.length) * 24 ≤ LIM) then
 bif decide (((([] : List (Int × (Int × Int))) ++ b.1).length + 1) * 24 ≤ LIM) then
 (F24 ((([] : List (Int × (Int × Int))) ++ b.1) ++ ([(b.2.1.1, (b.2.1.2.1, b.2.1.2.2))]), (b.2.2.1, (b.2.2.2.1, (b.2.2.2.2.1, b.2.2.2.2.2))))).bind fun r3 =>
 (both (
 (both (
 (fun o => both o o) (
 bif decide ((([(b.2.1.1, (b.2.1.2.1, b.2.1.2.2))]).length + b.1.length) * 24 ≤ LIM) then
 (F24 (([(b.2.1.1, (b.2.1.2.1, b.2.1.2.2))]) ++ b.1, (b.2.2.1, (b.2.2.2.1, (b.2.2.2.2.1, b.2.2.2.2.2))))).bind fun r4 =>
 bif (bif (!(r3.1 == r4.1)) then true else (!(decide (r3.2 = 0) == decide (r4.2 = 0)))) then (
 some false)
 else (
 bif (!decide (r3.2 = 0)) then (
 some (!r3.1))
 else (
 (F25 ((b.2.1.1, (b.2.1.2.1, b.2.1.2.2)), (b.2.2.1, (b.2.2.2.1, (b.2.2.2.2.1, b.2.2.2.2.2))))).bind fun r5 =>
 bif ((bif decide (r2.2 = 0) then decide (r5.2 = 0) else false) == true) then (
 some (r3.1 == (bif r2.1 then r5.1 else false)))
 else (
 some false)))
 else none)) (
 bif decide ((([(b.2.1.1, (b.2.1.2.1, b.2.1.2.2))]).length + b.1.length) * 24 ≤ LIM) then
 (F24 (([(b.2.1.1, (b.2.1.2.1, b.2.1.2.2))]) ++ b.1, (b.2.2.1, (b.2.2.2.1, (b.2.2.2.2.1, b.2.2.2.2.2))))).bind fun r4 =>
 bif (bif (!(r3.1 == r4.1)) then true else (!(decide (r3.2 = 0) == decide (r4.2 = 0)))) then (
 some false)
 else (
 bif (!decide (r3.2 = 0)) then (
 some (!r3.1))
 else (
 (F25 ((b.2.1.1, (b.2.1.2.1, b.2.1.2.2)), (b.2.2.1, (b.2.2.2.1, (b.2.2.2.2.1, b.2.2.2.2.2))))).bind fun r5 =>
 bif ((bif decide (r2.2 = 0) then decide (r5.2 = 0) else false) == true) then (
 some (r3.1 == (bif r2.1 then r5.1 else false)))
 else (
 some false)))
 else none))) (
 bif decide ((([(b.2.1.1, (b.2.1.2.1, b.2.1.2.2))]).length + b.1.length) * 24 ≤ LIM) then
 (F24 (([(b.2.1.1, (b.2.1.2.1, b.2.1.2.2))]) ++ b.1, (b.2.2.1, (b.2.2.2.1, (b.2.2.2.2.1, b.2.2.2.2.2))))).bind fun r4 =>
 bif (bif (!(r3.1 == r4.1)) then true else (!(decide (r3.2 = 0) == decide (r4.2 = 0)))) then (
 some false)
 else (
 bif (!decide (r3.2 = 0)) then (
 some (!r3.1))
 else (
 (F25 ((b.2.1.1, (b.2.1.2.1, b.2.1.2.2)), (b.2.2.1, (b.2.2.2.1, (b.2.2.2.2.1, b.2.2.2.2.2))))).bind fun r5 =>
 bif ((bif decide (r2.2 = 0) then decide (r5.2 = 0) else false) == true) then (
 some (r3.1 == (bif r2.1 then r5.1 else false)))
 else (
 some false)))
 else none))
 else none
 else none
 else none))))) (
 (both (
 bif (!b.1.isEmpty || true) then
 bif decide ((([] : List (Int × (Int × Int))).length + b.1.length) * 24 ≤ LIM) then
 bif decide (((([] : List (Int × (Int × Int))) ++ b.1).length + 1) * 24 ≤ LIM) then
 (F24 ((([] : List (Int × (Int × Int))) ++ b.1) ++ ([(b.2.1.1, (b.2.1.2.1, b.2.1.2.2))]), (b.2.2.1, (b.2.2.2.1, (b.2.2.2.2.1, b.2.2.2.2.2))))).bind fun r3 =>
 (both (
 (both (
 (fun o => both o o) (
 bif decide ((([(b.2.1.1, (b.2.1.2.1, b.2.1.2.2))]).length + b.1.length) * 24 ≤ LIM) then
 (F24 (([(b.2.1.1, (b.2.1.2.1, b.2.1.2.2))]) ++ b.1, (b.2.2.1, (b.2.2.2.1, (b.2.2.2.2.1, b.2.2.2.2.2))))).bind fun r4 =>
 bif (bif (!(r3.1 == r4.1)) then true else (!(decide (r3.2 = 0) == decide (r4.2 = 0)))) then (
 some false)
 else (
 bif (!decide (r3.2 = 0)) then (
 some (!r3.1))
 else (
 (F25 ((b.2.1.1, (b.2.1.2.1, b.2.1.2.2)), (b.2.2.1, (b.2.2.2.1, (b.2.2.2.2.1, b.2.2.2.2.2))))).bind fun r5 =>
 bif ((bif decide (r2.2 = 0) then decide (r5.2 = 0) else false) == true) then (
 some (r3.1 == (bif r2.1 then r5.1 else false)))
 else (
 some false)))
 else none)) (
 bif decide ((([(b.2.1.1, (b.2.1.2.1, b.2.1.2.2))]).length + b.1.length) * 24 ≤ LIM) then
 (F24 (([(b.2.1.1, (b.2.1.2.1, b.2.1.2.2))]) ++ b.1, (b.2.2.1, (b.2.2.2.1, (b.2.2.2.2.1, b.2.2.2.2.2))))).bind fun r4 =>
 bif (bif (!(r3.1 == r4.1)) then true else (!(decide (r3.2 = 0) == decide (r4.2 = 0)))) then (
 some false)
 else (
 bif (!decide (r3.2 = 0)) then (
 some (!r3.1))
 else (
 (F25 ((b.2.1.1, (b.2.1.2.1, b.2.1.2.2)), (b.2.2.1, (b.2.2.2.1, (b.2.2.2.2.1, b.2.2.2.2.2))))).bind fun r5 =>
 bif ((bif decide (r2.2 = 0) then decide (r5.2 = 0) else false) == true) then (
 some (r3.1 == (bif r2.1 then r5.1 else false)))
 else (
 some false)))
 else none))) (
 bif decide ((([(b.2.1.1, (b.2.1.2.1, b.2.1.2.2))]).length + b.1.length) * 24 ≤ LIM) then
 (F24 (([(b.2.1.1, (b.2.1.2.1, b.2.1.2.2))]) ++ b.1, (b.2.2.1, (b.2.2.2.1, (b.2.2.2.2.1, b.2.2.2.2.2))))).bind fun r4 =>
 bif (bif (!(r3.1 == r4.1)) then true else (!(decide (r3.2 = 0) == decide (r4.2 = 0)))) then (
 some false)
 else (
 bif (!decide (r3.2 = 0)) then (
 some (!r3.1))
 else (
 (F25 ((b.2.1.1, (b.2.1.2.1, b.2.1.2.2)), (b.2.2.1, (b.2.2.2.1, (b.2.2.2.2.1, b.2.2.2.2.2))))).bind fun r5 =>
 bif ((bif decide (r2.2 = 0) then decide (r5.2 = 0) else false) == true) then (
 some (r3.1 == (bif r2.1 then r5.1 else false)))
 else (
 some false)))
 else none))
 else none
 else none
 else none) (
 (fun o => both o o) (
 bif (!b.1.isEmpty || true) then
 bif decide ((([] : List (Int × (Int × Int))).length + b.1.length) * 24 ≤ LIM) then
 bif decide (((([] : List (Int × (Int × Int))) ++ b.1).length + 1) * 24 ≤ LIM) then
 (F24 ((([] : List (Int × (Int × Int))) ++ b.1) ++ ([(b.2.1.1, (b.2.1.2.1, b.2.1.2.2))]), (b.2.2.1, (b.2.2.2.1, (b.2.2.2.2.1, b.2.2.2.2.2))))).bind fun r3 =>
 (both (
 (both (
 (fun o => both o o) (
 bif decide ((([(b.2.1.1, (b.2.1.2.1, b.2.1.2.2))]).length + b.1.length) * 24 ≤ LIM) then
 (F24 (([(b.2.1.1, (b.2.1.2.1, b.2.1.2.2))]) ++ b.1, (b.2.2.1, (b.2.2.2.1, (b.2.2.2.2.1, b.2.2.2.2.2))))).bind fun r4 =>
 bif (bif (!(r3.1 == r4.1)) then true else (!(decide (r3.2 = 0) == decide (r4.2 = 0)))) then (
 some false)
 else (
 bif (!decide (r3.2 = 0)) then (
 some (!r3.1))
 else (
 (F25 ((b.2.1.1, (b.2.1.2.1, b.2.1.2.2)), (b.2.2.1, (b.2.2.2.1, (b.2.2.2.2.1, b.2.2.2.2.2))))).bind fun r5 =>
 bif ((bif decide (r2.2 = 0) then decide (r5.2 = 0) else false) == true) then (
 some (r3.1 == (bif r2.1 then r5.1 else false)))
 else (
 some false)))
 else none)) (
 bif decide ((([(b.2.1.1, (b.2.1.2.1, b.2.1.2.2))]).length + b.1.length) * 24 ≤ LIM) then
 (F24 (([(b.2.1.1, (b.2.1.2.1, b.2.1.2.2))]) ++ b.1, (b.2.2.1, (b.2.2.2.1, (b.2.2.2.2.1, b.2.2.2.2.2))))).bind fun r4 =>
 bif (bif (!(r3.1 == r4.1)) then true else (!(decide (r3.2 = 0) == decide (r4.2 = 0)))) then (
 some false)
 else (
 bif (!decide (r3.2 = 0)) then (
 some (!r3.1))
 else (
 (F25 ((b.2.1.1, (b.2.1.2.1, b.2.1.2.2)), (b.2.2.1, (b.2.2.2.1, (b.2.2.2.2.1, b.2.2.2.2.2))))).bind fun r5 =>
 bif ((bif decide (r2.2 = 0) then decide (r5.2 = 0) else false) == true) then (
 some (r3.1 == (bif r2.1 then r5.1 else false)))
 else (
 some false)))
 else none))) (
 bif decide ((([(b.2.1.1, (b.2.1.2.1, b.2.1.2.2))]).length + b.1.length) * 24 ≤ LIM) then
 (F24 (([(b.2.1.1, (b.2.1.2.1, b.2.1.2.2))]) ++ b.1, (b.2.2.1, (b.2.2.2.1, (b.2.2.2.2.1, b.2.2.2.2.2))))).bind fun r4 =>
 bif (bif (!(r3.1 == r4.1)) then true else (!(decide (r3.2 = 0) == decide (r4.2 = 0)))) then (
 some false)
 else (
 bif (!decide (r3.2 = 0)) then (
 some (!r3.1))
 else (
 (F25 ((b.2.1.1, (b.2.1.2.1, b.2.1.2.2)), (b.2.2.1, (b.2.2.2.1, (b.2.2.2.2.1, b.2.2.2.2.2))))).bind fun r5 =>
 bif ((bif decide (r2.2 = 0) then decide (r5.2 = 0) else false) == true) then (
 some (r3.1 == (bif r2.1 then r5.1 else false)))
 else (
 some false)))
 else none))
 else none
 else none
 else none))))))))
theorem ev7 (b : List (Int × (Int × Int)) × (Int × (Int × Int)) × (Int × (Int × (Int × Int)))) : evF C24 H7 Try.f7 (encs [.one (.slice 40 (.pair (.int .i64) (.pair (.int .u64) (.int .u64)))), .agg (.pair (.int .i64) (.pair (.int .u64) (.int .u64))), .agg (.pair (.int .u64) (.pair (.int .i64) (.pair (.int .u64) (.int .u64))))] b) (RT.dec (.one (.leaf (.bool)))) = F7 b := by kernel_rfl
noncomputable def C7 : Ctx := Ctx.add C24 7 [.one (.slice 40 (.pair (.int .i64) (.pair (.int .u64) (.int .u64)))), .agg (.pair (.int .i64) (.pair (.int .u64) (.int .u64))), .agg (.pair (.int .u64) (.pair (.int .i64) (.pair (.int .u64) (.int .u64))))] (.one (.leaf (.bool))) F7
theorem s7 : C7.Sound := Ctx.Sound.add (C := C24) mixed s24 Try.func7 ev7
/-! damson/caveat.Tighter -/
def H26 : Nat → Head := fun _ => ⟨[], []⟩
noncomputable def F26 (b : (Int × (Int × Int)) × (Int × (Int × Int))) : Option (Bool × Int) :=
 (F30 (b.1.1, (b.1.2.1, b.1.2.2))).bind fun r1 =>
 bif ((!decide (r1 = 0)) == false) then (
 (F30 (b.2.1, (b.2.2.1, b.2.2.2))).bind fun r2 =>
 bif (bif (bif (!decide (r2 = 0)) then true else (!decide (b.1.1 = b.2.1))) then true else (!decide (b.1.2.2 = b.2.2.2))) then (
 some (false, 1))
 else (
 bif decide (b.1.1 = 2) then (
 some (decide ((bitOp .andNot .u64 b.1.2.1 b.2.2.1) = 0), 0))
 else (
 bif decide (b.1.1 = 5) then (
 some (decide (b.1.2.1 = b.2.2.1), 0))
 else (
 some (decide (b.1.2.1 ≤ b.2.2.1), 0)))))
 else (
 some (false, 1))
theorem ev26 (b : (Int × (Int × Int)) × (Int × (Int × Int))) : evF C7 H26 Try.f26 (encs [.agg (.pair (.int .i64) (.pair (.int .u64) (.int .u64))), .agg (.pair (.int .i64) (.pair (.int .u64) (.int .u64)))] b) (RT.dec (.tup [.leaf (.bool), .leaf (.int .i64)])) = F26 b := by kernel_rfl
noncomputable def C26 : Ctx := Ctx.add C7 26 [.agg (.pair (.int .i64) (.pair (.int .u64) (.int .u64))), .agg (.pair (.int .i64) (.pair (.int .u64) (.int .u64)))] (.tup [.leaf (.bool), .leaf (.int .i64)]) F26
theorem s26 : C26.Sound := Ctx.Sound.add (C := C7) mixed s7 Try.func26 ev26
/-! damson/damsonlaw06.CaveatTighter -/
def H8 : Nat → Head := fun _ => ⟨[], []⟩
noncomputable def F8 (b : (Int × (Int × Int)) × (Int × (Int × Int)) × (Int × (Int × (Int × Int)))) : Option Bool :=
 (F23 ()).bind fun r1 =>
 bif (!r1) then (
 some false)
 else (
 (F26 ((b.1.1, (b.1.2.1, b.1.2.2)), (b.2.1.1, (b.2.1.2.1, b.2.1.2.2)))).bind fun r2 =>
 (F26 ((b.2.1.1, (b.2.1.2.1, b.2.1.2.2)), (b.1.1, (b.1.2.1, b.1.2.2)))).bind fun r3 =>
 bif (!decide (r2.2 = r3.2)) then (
 some false)
 else (
 bif (!decide (r2.2 = 0)) then (
 some (bif (!r2.1) then (!r3.1) else false))
 else (
 (F25 ((b.1.1, (b.1.2.1, b.1.2.2)), (b.2.2.1, (b.2.2.2.1, (b.2.2.2.2.1, b.2.2.2.2.2))))).bind fun r4 =>
 (F25 ((b.2.1.1, (b.2.1.2.1, b.2.1.2.2)), (b.2.2.1, (b.2.2.2.1, (b.2.2.2.2.1, b.2.2.2.2.2))))).bind fun r5 =>
 bif ((!decide (r4.2 = r5.2)) == false) then (
 bif (!((bif r2.1 then r3.1 else false) == (decide (b.1.1 = b.2.1.1) && (decide (b.1.2.1 = b.2.1.2.1) && decide (b.1.2.2 = b.2.1.2.2))))) then (
 some false)
 else (
 bif ((!(bif (bif r2.1 then r4.1 else false) then (!r5.1) else false)) == true) then (
 some (!(bif (bif r3.1 then r5.1 else false) then (!r4.1) else false)))
 else (
 some false)))
 else (
 some false))))
theorem ev8 (b : (Int × (Int × Int)) × (Int × (Int × Int)) × (Int × (Int × (Int × Int)))) : evF C26 H8 Try.f8 (encs [.agg (.pair (.int .i64) (.pair (.int .u64) (.int .u64))), .agg (.pair (.int .i64) (.pair (.int .u64) (.int .u64))), .agg (.pair (.int .u64) (.pair (.int .i64) (.pair (.int .u64) (.int .u64))))] b) (RT.dec (.one (.leaf (.bool)))) = F8 b := by kernel_rfl
noncomputable def C8 : Ctx := Ctx.add C26 8 [.agg (.pair (.int .i64) (.pair (.int .u64) (.int .u64))), .agg (.pair (.int .i64) (.pair (.int .u64) (.int .u64))), .agg (.pair (.int .u64) (.pair (.int .i64) (.pair (.int .u64) (.int .u64))))] (.one (.leaf (.bool))) F8
theorem s8 : C8.Sound := Ctx.Sound.add (C := C26) mixed s26 Try.func8 ev8
/-! damson/caveat.Get -/
def H28 : Nat → Head
  | 4 => ⟨[.data 0 (.slice 5 (.int .u8)), .data 3 (.int .i64), .data 5 (.int .i64), .data 6 (.int .i64), .arr 16384 22 (.int .u64) 3], [8192]⟩
  | _ => ⟨[], []⟩
noncomputable def F28 (b : List Int) : Option ((Int × Int × Int) × Int) :=
 lfp (fun (rec1 : (List Int × Int × Int × Int × List Int) → Option ((Int × Int × Int) × Int)) (x1 : List Int × Int × Int × Int × List Int) =>
  bif decide (x1.2.2.2.1 < x1.2.2.1) then (
  (F16 x1.1).bind fun r2 =>
  bif (!decide (r2.2.2 = 0)) then (
  some ((0, 0, 0), r2.2.2))
  else (
  bif (decide (x1.2.2.2.1 = 0) == true) then (
  bif (bif decide (r2.1 < 1) then true else decide (5 < r2.1)) then (
  some ((0, 0, 0), 2))
  else (
  bif (bif decide (x1.2.2.2.1 = 0) then decide (r2.1 = 4) else false) then (
  bif inb r2.2.1 (x1.1.length + 1) then
  bif inb x1.2.2.2.1 3 then
  rec1 (x1.1.drop r2.2.1.toNat, x1.2.1, (IntKind.wrap .i64 (x1.2.2.1 + 1)), (IntKind.wrap .i64 (x1.2.2.2.1 + 1)), x1.2.2.2.2.set x1.2.2.2.1.toNat r2.1)
  else none
  else none)
  else (
  bif inb r2.2.1 (x1.1.length + 1) then
  bif inb x1.2.2.2.1 3 then
  rec1 (x1.1.drop r2.2.1.toNat, x1.2.1, x1.2.2.1, (IntKind.wrap .i64 (x1.2.2.2.1 + 1)), x1.2.2.2.2.set x1.2.2.2.1.toNat r2.1)
  else none
  else none)))
  else (
  bif (bif decide (x1.2.2.2.1 = 0) then decide (r2.1 = 4) else false) then (
  bif inb r2.2.1 (x1.1.length + 1) then
  bif inb x1.2.2.2.1 3 then
  rec1 (x1.1.drop r2.2.1.toNat, x1.2.1, (IntKind.wrap .i64 (x1.2.2.1 + 1)), (IntKind.wrap .i64 (x1.2.2.2.1 + 1)), x1.2.2.2.2.set x1.2.2.2.1.toNat r2.1)
  else none
  else none)
  else (
  bif inb r2.2.1 (x1.1.length + 1) then
  bif inb x1.2.2.2.1 3 then
  rec1 (x1.1.drop r2.2.1.toNat, x1.2.1, x1.2.2.1, (IntKind.wrap .i64 (x1.2.2.2.1 + 1)), x1.2.2.2.2.set x1.2.2.2.1.toNat r2.1)
  else none
  else none))))
  else (
  bif inb 0 3 then
  bif inb 1 3 then
  bif inb 2 3 then
  bif (decide (0 < (x1.1.length : Int)) == false) then (
  (F30 ((IntKind.wrap .i64 (rd (.int .u64) x1.2.2.2.2 0)), ((rd (.int .u64) x1.2.2.2.2 1), (rd (.int .u64) x1.2.2.2.2 2)))).bind fun r3 =>
  bif (!decide (r3 = 0)) then (
  some ((0, 0, 0), 2))
  else (
  some (((IntKind.wrap .i64 (rd (.int .u64) x1.2.2.2.2 0)), (rd (.int .u64) x1.2.2.2.2 1), (rd (.int .u64) x1.2.2.2.2 2)), 0)))
  else (
  some ((0, 0, 0), 2))
  else none
  else none
  else none)) (b, 0, 2, 0, [0, 0, 0])
theorem ev28 (b : List Int) : evF C8 H28 Try.f28 (encs [.one (.slice 5 (.int .u8))] b) (RT.dec (.tup [.agg [.int .i64, .int .u64, .int .u64], .leaf (.int .i64)])) = F28 b := by kernel_rfl
noncomputable def C28 : Ctx := Ctx.add C8 28 [.one (.slice 5 (.int .u8))] (.tup [.agg [.int .i64, .int .u64, .int .u64], .leaf (.int .i64)]) F28
theorem s28 : C28.Sound := Ctx.Sound.add (C := C8) mixed s8 Try.func28 ev28
/-! damson/caveat.Put -/
def H29 : Nat → Head := fun _ => ⟨[], []⟩
noncomputable def F29 (b : (Int × (Int × Int))) : Option (List Int × Int) :=
 (F30 (b.1, (b.2.1, b.2.2))).bind fun r1 =>
 bif (!decide (r1 = 0)) then (
 some (([] : List Int), r1))
 else (
 bif (!decide (b.1 = 4)) then (
 bif inb 2 (([(IntKind.wrap .u64 b.1), b.2.1, b.2.2]).length + 1) then
 (F13 (([(IntKind.wrap .u64 b.1), b.2.1, b.2.2]).take ((2 : Int).toNat))).bind fun r2 =>
 some (r2, 0)
 else none)
 else (
 (F13 ([(IntKind.wrap .u64 b.1), b.2.1, b.2.2])).bind fun r3 =>
 some (r3, 0)))
theorem ev29 (b : (Int × (Int × Int))) : evF C28 H29 Try.f29 (encs [.agg (.pair (.int .i64) (.pair (.int .u64) (.int .u64)))] b) (RT.dec (.tup [.leaf (.fresh 5 (.int .u8)), .leaf (.int .i64)])) = F29 b := by kernel_rfl
noncomputable def C29 : Ctx := Ctx.add C28 29 [.agg (.pair (.int .i64) (.pair (.int .u64) (.int .u64)))] (.tup [.leaf (.fresh 5 (.int .u8)), .leaf (.int .i64)]) F29
theorem s29 : C29.Sound := Ctx.Sound.add (C := C28) mixed s28 Try.func29 ev29
/-! damson/damsonlaw06.CaveatBack -/
def H10 : Nat → Head := fun _ => ⟨[], []⟩
noncomputable def F10 (b : (Int × (Int × Int)) × List Int) : Option Bool :=
 (F23 ()).bind fun r1 =>
 bif (!r1) then (
 some false)
 else (
 bif decide (200 < (b.2.length : Int)) then (
 some true)
 else (
 (F28 b.2).bind fun r2 =>
 bif decide (r2.2 = 0) then (
 (F29 (r2.1.1, (r2.1.2.1, r2.1.2.2))).bind fun r3 =>
 bif ((!decide (r3.2 = 0)) == false) then (
 (F14 (r3.1, b.2)).bind fun r4 =>
 bif ((!r4) == false) then (
 (F30 (r2.1.1, (r2.1.2.1, r2.1.2.2))).bind fun r5 =>
 bif (!decide (r5 = 0)) then (
 some false)
 else (
 (F29 (b.1.1, (b.1.2.1, b.1.2.2))).bind fun r6 =>
 bif (!decide (r6.2 = 0)) then (
 some (decide ((r6.1.length : Int) = 0)))
 else (
 (F28 r6.1).bind fun r7 =>
 bif decide ((r6.1.length + 1) * 1 ≤ LIM) then
 (F28 (r6.1 ++ ([0]))).bind fun r8 =>
 some (bif (bif decide (r7.2 = 0) then (decide (r7.1.1 = b.1.1) && (decide (r7.1.2.1 = b.1.2.1) && decide (r7.1.2.2 = b.1.2.2))) else false) then decide (r8.2 = 2) else false)
 else none)))
 else (
 some false))
 else (
 some false))
 else (
 (F29 (b.1.1, (b.1.2.1, b.1.2.2))).bind fun r9 =>
 bif (!decide (r9.2 = 0)) then (
 some (decide ((r9.1.length : Int) = 0)))
 else (
 (F28 r9.1).bind fun r10 =>
 bif decide ((r9.1.length + 1) * 1 ≤ LIM) then
 (F28 (r9.1 ++ ([0]))).bind fun r11 =>
 some (bif (bif decide (r10.2 = 0) then (decide (r10.1.1 = b.1.1) && (decide (r10.1.2.1 = b.1.2.1) && decide (r10.1.2.2 = b.1.2.2))) else false) then decide (r11.2 = 2) else false)
 else none))))
theorem ev10 (b : (Int × (Int × Int)) × List Int) : evF C29 H10 Try.f10 (encs [.agg (.pair (.int .i64) (.pair (.int .u64) (.int .u64))), .one (.slice 5 (.int .u8))] b) (RT.dec (.one (.leaf (.bool)))) = F10 b := by kernel_rfl
noncomputable def C10 : Ctx := Ctx.add C29 10 [.agg (.pair (.int .i64) (.pair (.int .u64) (.int .u64))), .one (.slice 5 (.int .u8))] (.one (.leaf (.bool))) F10
theorem s10 : C10.Sound := Ctx.Sound.add (C := C29) mixed s29 Try.func10 ev10
/-! damson/damsonref06.Check -/
def H35 : Nat → Head := fun _ => ⟨[], []⟩
noncomputable def F35 (b : (Int × (Int × Int))) : Option Int :=
 bif ((bif decide (b.1 < 1) then true else decide (5 < b.1)) == false) then (
 bif ((bif decide (b.1 = 2) then decide (65535 < b.2.1) else false) == false) then (
 bif ((bif (bif decide (b.1 = 3) then true else decide (b.1 = 4)) then decide (4611686018427387904 < b.2.1) else false) == false) then (
 bif (bif (!decide (b.1 = 4)) then (!decide (b.2.2 = 0)) else false) then (
 some 1)
 else (
 some 0))
 else (
 some 1))
 else (
 some 1))
 else (
 some 1)
theorem ev35 (b : (Int × (Int × Int))) : evF C10 H35 Try.f35 (encs [.agg (.pair (.int .i64) (.pair (.int .u64) (.int .u64)))] b) (RT.dec (.one (.leaf (.int .i64)))) = F35 b := by kernel_rfl
noncomputable def C35 : Ctx := Ctx.add C10 35 [.agg (.pair (.int .i64) (.pair (.int .u64) (.int .u64)))] (.one (.leaf (.int .i64))) F35
theorem s35 : C35.Sound := Ctx.Sound.add (C := C10) mixed s10 Try.func35 ev35
/-! damson/damsonref06.Put -/
def H31 : Nat → Head := fun _ => ⟨[], []⟩
noncomputable def F31 (b : (Int × (Int × Int))) : Option (List Int × Int) :=
 (F35 (b.1, (b.2.1, b.2.2))).bind fun r1 =>
 bif (!decide (r1 = 0)) then (
 some (([] : List Int), 1))
 else (
 bif decide (b.1 = 4) then (
 (F20 ([4, b.2.1, b.2.2])).bind fun r2 =>
 some (r2, 0))
 else (
 (F20 ([(IntKind.wrap .u64 b.1), b.2.1])).bind fun r3 =>
 some (r3, 0)))
theorem ev31 (b : (Int × (Int × Int))) : evF C35 H31 Try.f31 (encs [.agg (.pair (.int .i64) (.pair (.int .u64) (.int .u64)))] b) (RT.dec (.tup [.leaf (.fresh 5 (.int .u8)), .leaf (.int .i64)])) = F31 b := by kernel_rfl
noncomputable def C31 : Ctx := Ctx.add C35 31 [.agg (.pair (.int .i64) (.pair (.int .u64) (.int .u64)))] (.tup [.leaf (.fresh 5 (.int .u8)), .leaf (.int .i64)]) F31
theorem s31 : C31.Sound := Ctx.Sound.add (C := C35) mixed s35 Try.func31 ev31
/-! damson/damsonref06.Get -/
def H32 : Nat → Head := fun _ => ⟨[], []⟩
noncomputable def F32 (b : List Int) : Option ((Int × Int × Int) × Int) :=
 (F17 b).bind fun r1 =>
 bif (!decide (r1.2.2 = 0)) then (
 some ((0, 0, 0), r1.2.2))
 else (
 bif (bif decide (r1.1 < 1) then true else decide (5 < r1.1)) then (
 some ((0, 0, 0), 2))
 else (
 bif inb r1.2.1 (b.length + 1) then
 (F17 (b.drop r1.2.1.toNat)).bind fun r2 =>
 bif (!decide (r2.2.2 = 0)) then (
 some ((0, 0, 0), r2.2.2))
 else (
 bif inb r2.2.1 ((b.drop r1.2.1.toNat).length + 1) then
 bif decide (r1.1 = 4) then (
 (F17 ((b.drop r1.2.1.toNat).drop r2.2.1.toNat)).bind fun r3 =>
 bif (!decide (r3.2.2 = 0)) then (
 some ((0, 0, 0), r3.2.2))
 else (
 bif inb r3.2.1 (((b.drop r1.2.1.toNat).drop r2.2.1.toNat).length + 1) then
 bif (decide (0 < ((((b.drop r1.2.1.toNat).drop r2.2.1.toNat).drop r3.2.1.toNat).length : Int)) == false) then (
 (F35 ((IntKind.wrap .i64 r1.1), (r2.1, r3.1))).bind fun r4 =>
 bif (!decide (r4 = 0)) then (
 some ((0, 0, 0), 2))
 else (
 some (((IntKind.wrap .i64 r1.1), r2.1, r3.1), 0)))
 else (
 some ((0, 0, 0), 2))
 else none))
 else (
 bif (decide (0 < (((b.drop r1.2.1.toNat).drop r2.2.1.toNat).length : Int)) == false) then (
 (F35 ((IntKind.wrap .i64 r1.1), (r2.1, 0))).bind fun r5 =>
 bif (!decide (r5 = 0)) then (
 some ((0, 0, 0), 2))
 else (
 some (((IntKind.wrap .i64 r1.1), r2.1, 0), 0)))
 else (
 some ((0, 0, 0), 2)))
 else none)
 else none))
theorem ev32 (b : List Int) : evF C31 H32 Try.f32 (encs [.one (.slice 5 (.int .u8))] b) (RT.dec (.tup [.agg [.int .i64, .int .u64, .int .u64], .leaf (.int .i64)])) = F32 b := by kernel_rfl
noncomputable def C32 : Ctx := Ctx.add C31 32 [.one (.slice 5 (.int .u8))] (.tup [.agg [.int .i64, .int .u64, .int .u64], .leaf (.int .i64)]) F32
theorem s32 : C32.Sound := Ctx.Sound.add (C := C31) mixed s31 Try.func32 ev32
/-! damson/damsonref06.May -/
def H42 : Nat → Head := fun _ => ⟨[], []⟩
noncomputable def F42 (b : (Int × (Int × (Int × Int)))) : Option Bool :=
 some (bif (bif decide (0 ≤ b.2.1) then decide (b.2.1 ≤ 15) else false) then decide (b.2.2.1 ≤ 4611686018427387904) else false)
theorem ev42 (b : (Int × (Int × (Int × Int)))) : evF C32 H42 Try.f42 (encs [.agg (.pair (.int .u64) (.pair (.int .i64) (.pair (.int .u64) (.int .u64))))] b) (RT.dec (.one (.leaf (.bool)))) = F42 b := by kernel_rfl
noncomputable def C42 : Ctx := Ctx.add C32 42 [.agg (.pair (.int .u64) (.pair (.int .i64) (.pair (.int .u64) (.int .u64))))] (.one (.leaf (.bool))) F42
theorem s42 : C42.Sound := Ctx.Sound.add (C := C32) mixed s32 Try.func42 ev42
/-! damson/damsonref06.bit -/
def H43 : Nat → Head
  | 2 => ⟨[.data 0 (.int .u64), .data 6 (.int .i64)], []⟩
  | _ => ⟨[], []⟩
noncomputable def F43 (b : Int × Int) : Option Bool :=
 lfp (fun (rec1 : (Int × Int) → Option Bool) (x1 : Int × Int) =>
  bif decide (x1.2 < b.2) then (
  rec1 ((IntKind.wrap .u64 (Int.tdiv x1.1 2)), (IntKind.wrap .i64 (x1.2 + 1))))
  else (
  some (decide ((Int.tmod x1.1 2) = 1)))) (b.1, 0)
theorem ev43 (b : Int × Int) : evF C42 H43 Try.f43 (encs [.one (.int .u64), .one (.int .i64)] b) (RT.dec (.one (.leaf (.bool)))) = F43 b := by kernel_rfl
noncomputable def C43 : Ctx := Ctx.add C42 43 [.one (.int .u64), .one (.int .i64)] (.one (.leaf (.bool))) F43
theorem s43 : C43.Sound := Ctx.Sound.add (C := C42) mixed s42 Try.func43 ev43
/-! damson/damsonref06.Holds -/
def H33 : Nat → Head := fun _ => ⟨[], []⟩
noncomputable def F33 (b : (Int × (Int × Int)) × (Int × (Int × (Int × Int)))) : Option (Bool × Int) :=
 (F35 (b.1.1, (b.1.2.1, b.1.2.2))).bind fun r1 =>
 bif ((!decide (r1 = 0)) == false) then (
 (F42 (b.2.1, (b.2.2.1, (b.2.2.2.1, b.2.2.2.2)))).bind fun r2 =>
 bif (!r2) then (
 some (false, 1))
 else (
 bif decide (b.1.1 = 1) then (
 some (decide (b.2.1 ≤ b.1.2.1), 0))
 else (
 bif decide (b.1.1 = 2) then (
 (F43 (b.1.2.1, b.2.2.1)).bind fun r3 =>
 some (r3, 0))
 else (
 bif decide (b.1.1 = 5) then (
 some (decide (b.2.2.2.2 = b.1.2.1), 0))
 else (
 some (decide (b.2.2.2.1 ≤ b.1.2.1), 0))))))
 else (
 some (false, 1))
theorem ev33 (b : (Int × (Int × Int)) × (Int × (Int × (Int × Int)))) : evF C43 H33 Try.f33 (encs [.agg (.pair (.int .i64) (.pair (.int .u64) (.int .u64))), .agg (.pair (.int .u64) (.pair (.int .i64) (.pair (.int .u64) (.int .u64))))] b) (RT.dec (.tup [.leaf (.bool), .leaf (.int .i64)])) = F33 b := by kernel_rfl
noncomputable def C33 : Ctx := Ctx.add C43 33 [.agg (.pair (.int .i64) (.pair (.int .u64) (.int .u64))), .agg (.pair (.int .u64) (.pair (.int .i64) (.pair (.int .u64) (.int .u64))))] (.tup [.leaf (.bool), .leaf (.int .i64)]) F33
theorem s33 : C33.Sound := Ctx.Sound.add (C := C43) mixed s43 Try.func33 ev33
/-! damson/damsonref06.Tighter -/
def H34 : Nat → Head
  | 6 => ⟨[.data 4 .bool, .data 5 (.int .i64), .data 33 (.int .i64)], [12288, 8192]⟩
  | _ => ⟨[], []⟩
noncomputable def F34 (b : (Int × (Int × Int)) × (Int × (Int × Int))) : Option (Bool × Int) :=
 (F35 (b.1.1, (b.1.2.1, b.1.2.2))).bind fun r1 =>
 bif ((!decide (r1 = 0)) == false) then (
 (F35 (b.2.1, (b.2.2.1, b.2.2.2))).bind fun r2 =>
 bif (bif (bif (!decide (r2 = 0)) then true else (!decide (b.1.1 = b.2.1))) then true else (!decide (b.1.2.2 = b.2.2.2))) then (
 some (false, 1))
 else (
 bif decide (b.1.1 = 2) then (
 lfp (fun (rec3 : (Bool × Int × Int) → Option (Bool × Int)) (x3 : Bool × Int × Int) =>
  bif decide (x3.2.2 < 16) then (
  (F43 (b.1.2.1, x3.2.2)).bind fun r4 =>
  bif (r4 == true) then (
  (F43 (b.2.2.1, x3.2.2)).bind fun r5 =>
  bif (!r5) then (
  some (false, 0))
  else (
  rec3 (x3.1, x3.2.1, (IntKind.wrap .i64 (x3.2.2 + 1)))))
  else (
  rec3 (x3.1, x3.2.1, (IntKind.wrap .i64 (x3.2.2 + 1)))))
  else (
  some (true, 0))) (false, 0, 0))
 else (
 bif decide (b.1.1 = 5) then (
 some (decide (b.1.2.1 = b.2.2.1), 0))
 else (
 some (decide (b.1.2.1 ≤ b.2.2.1), 0)))))
 else (
 some (false, 1))
theorem ev34 (b : (Int × (Int × Int)) × (Int × (Int × Int))) : evF C33 H34 Try.f34 (encs [.agg (.pair (.int .i64) (.pair (.int .u64) (.int .u64))), .agg (.pair (.int .i64) (.pair (.int .u64) (.int .u64)))] b) (RT.dec (.tup [.leaf (.bool), .leaf (.int .i64)])) = F34 b := by kernel_rfl
noncomputable def C34 : Ctx := Ctx.add C33 34 [.agg (.pair (.int .i64) (.pair (.int .u64) (.int .u64))), .agg (.pair (.int .i64) (.pair (.int .u64) (.int .u64)))] (.tup [.leaf (.bool), .leaf (.int .i64)]) F34
theorem s34 : C34.Sound := Ctx.Sound.add (C := C33) mixed s33 Try.func34 ev34
/-! damson/damsonlaw06.CaveatDoes -/
def H11 : Nat → Head := fun _ => ⟨[], []⟩
noncomputable def F11 (b : (Int × (Int × Int)) × (Int × (Int × Int)) × List Int × (Int × (Int × (Int × Int)))) : Option Bool :=
 (F23 ()).bind fun r1 =>
 bif (!r1) then (
 some false)
 else (
 bif decide (200 < (b.2.2.1.length : Int)) then (
 some true)
 else (
 (F29 (b.1.1, (b.1.2.1, b.1.2.2))).bind fun r2 =>
 (F31 (b.1.1, (b.1.2.1, b.1.2.2))).bind fun r3 =>
 (F28 b.2.2.1).bind fun r4 =>
 (F32 b.2.2.1).bind fun r5 =>
 (F25 ((b.1.1, (b.1.2.1, b.1.2.2)), (b.2.2.2.1, (b.2.2.2.2.1, (b.2.2.2.2.2.1, b.2.2.2.2.2.2))))).bind fun r6 =>
 (F33 ((b.1.1, (b.1.2.1, b.1.2.2)), (b.2.2.2.1, (b.2.2.2.2.1, (b.2.2.2.2.2.1, b.2.2.2.2.2.2))))).bind fun r7 =>
 (F26 ((b.1.1, (b.1.2.1, b.1.2.2)), (b.2.1.1, (b.2.1.2.1, b.2.1.2.2)))).bind fun r8 =>
 (F34 ((b.1.1, (b.1.2.1, b.1.2.2)), (b.2.1.1, (b.2.1.2.1, b.2.1.2.2)))).bind fun r9 =>
 (F14 (r2.1, r3.1)).bind fun r10 =>
 (fun o => both o o) (
 (both (
 (fun o => both o o) (
 bif ((bif (bif (bif (bif (bif (bif (bif r10 then decide (r2.2 = r3.2) else false) then (decide (r4.1.1 = r5.1.1) && (decide (r4.1.2.1 = r5.1.2.1) && decide (r4.1.2.2 = r5.1.2.2))) else false) then decide (r4.2 = r5.2) else false) then (r6.1 == r7.1) else false) then decide (r6.2 = r7.2) else false) then (r8.1 == r9.1) else false) then decide (r8.2 = r9.2) else false) == true) then (
 (F30 (b.1.1, (b.1.2.1, b.1.2.2))).bind fun r11 =>
 (F35 (b.1.1, (b.1.2.1, b.1.2.2))).bind fun r12 =>
 some (decide (r11 = r12)))
 else (
 some false))) (
 bif ((bif (bif (bif (bif (bif (bif (bif r10 then decide (r2.2 = r3.2) else false) then (decide (r4.1.1 = r5.1.1) && (decide (r4.1.2.1 = r5.1.2.1) && decide (r4.1.2.2 = r5.1.2.2))) else false) then decide (r4.2 = r5.2) else false) then (r6.1 == r7.1) else false) then decide (r6.2 = r7.2) else false) then (r8.1 == r9.1) else false) then decide (r8.2 = r9.2) else false) == true) then (
 (F30 (b.1.1, (b.1.2.1, b.1.2.2))).bind fun r11 =>
 (F35 (b.1.1, (b.1.2.1, b.1.2.2))).bind fun r12 =>
 some (decide (r11 = r12)))
 else (
 some false))))))
theorem ev11 (b : (Int × (Int × Int)) × (Int × (Int × Int)) × List Int × (Int × (Int × (Int × Int)))) : evF C34 H11 Try.f11 (encs [.agg (.pair (.int .i64) (.pair (.int .u64) (.int .u64))), .agg (.pair (.int .i64) (.pair (.int .u64) (.int .u64))), .one (.slice 5 (.int .u8)), .agg (.pair (.int .u64) (.pair (.int .i64) (.pair (.int .u64) (.int .u64))))] b) (RT.dec (.one (.leaf (.bool)))) = F11 b := by kernel_rfl
noncomputable def C11 : Ctx := Ctx.add C34 11 [.agg (.pair (.int .i64) (.pair (.int .u64) (.int .u64))), .agg (.pair (.int .i64) (.pair (.int .u64) (.int .u64))), .one (.slice 5 (.int .u8)), .agg (.pair (.int .u64) (.pair (.int .i64) (.pair (.int .u64) (.int .u64))))] (.one (.leaf (.bool))) F11
theorem s11 : C11.Sound := Ctx.Sound.add (C := C34) mixed s34 Try.func11 ev11
end Go.Proofs.Ytpgfkfmmnciblaa.R1
