/- Part of a proof: what the program's functions come to. -/
import Derived.Test.YtacebemdonoliaaFwCtx
import Derived.Test.YtacebemdonoliaaProg
import Derived.KernelRfl
set_option linter.unusedVariables false
set_option linter.unusedSimpArgs false
set_option maxRecDepth 100000
namespace Go.Proofs.Ytacebemdonoliaa.R4
open Go Go.Fw Go.Proofs
noncomputable def C_ : Ctx := Ctx.nil Try.prog
theorem s_ : C_.Sound := Ctx.nil_sound _
theorem mixed : Try.prog.follows .mixedOrders = true := by kernel_rfl
/-! cmp.isNaN[uint64] -/
def H86 : Nat → Head := fun _ => ⟨[], []⟩
noncomputable def F86 (b : Int) : Option Bool :=
 some (!decide (b = b))
theorem ev86 (b : Int) : evF C_ H86 Try.f86 (encs [.one (.int .u64)] b) (RT.dec (.one (.leaf (.bool)))) = F86 b := by kernel_rfl
noncomputable def C86 : Ctx := Ctx.add C_ 86 [.one (.int .u64)] (.one (.leaf (.bool))) F86
theorem s86 : C86.Sound := Ctx.Sound.add (C := C_) mixed s_ Try.func86 ev86
/-! cmp.Compare[uint64] -/
def H69 : Nat → Head := fun _ => ⟨[], []⟩
noncomputable def F69 (b : Int × Int) : Option Int :=
 (F86 b.1).bind fun r1 =>
 (F86 b.2).bind fun r2 =>
 bif r1 then (
 bif r2 then (
 some 0)
 else (
 some (-1)))
 else (
 bif r2 then (
 some 1)
 else (
 bif decide (b.1 < b.2) then (
 some (-1))
 else (
 bif decide (b.2 < b.1) then (
 some 1)
 else (
 some 0))))
theorem ev69 (b : Int × Int) : evF C86 H69 Try.f69 (encs [.one (.int .u64), .one (.int .u64)] b) (RT.dec (.one (.leaf (.int .i64)))) = F69 b := by kernel_rfl
noncomputable def C69 : Ctx := Ctx.add C86 69 [.one (.int .u64), .one (.int .u64)] (.one (.leaf (.int .i64))) F69
theorem s69 : C69.Sound := Ctx.Sound.add (C := C86) mixed s86 Try.func69 ev69
/-! damson/tlv.order -/
def H42 : Nat → Head := fun _ => ⟨[], []⟩
noncomputable def F42 (b : (Int × List Int) × Int) : Option Int :=
 (F69 (b.1.1, b.2)).bind fun r1 =>
 some r1
theorem ev42 (b : (Int × List Int) × Int) : evF C69 H42 Try.f42 (encs [.agg (.pair (.int .u64) (.slice 5 (.int .u8))), .one (.int .u64)] b) (RT.dec (.one (.leaf (.int .i64)))) = F42 b := by kernel_rfl
noncomputable def C42 : Ctx := Ctx.add C69 42 [.agg (.pair (.int .u64) (.slice 5 (.int .u8))), .one (.int .u64)] (.one (.leaf (.int .i64))) F42
theorem s42 : C42.Sound := Ctx.Sound.add (C := C69) mixed s69 Try.func42 ev42
/-! damson/tlv.Check -/
def H19 : Nat → Head
  | 4 => ⟨[.data 2 (.int .i64), .data 10 (.int .i64)], []⟩
  | 5000006 => ⟨[], [0, 0, 1, 1, 2, 2, 4, 4, 8, 8, 16, 16, 48, 48, 80, 80, 128, 128, 128, 128, 640, 640, 1408, 1408, 2176, 2176, 128, 128, 8320, 8320, 20608, 20608, 32896, 32896, 65680, 65680, 131088, 131088]⟩
  | _ => ⟨[], []⟩
noncomputable def F19 (b : List (Int × List Int)) : Option Int :=
 bif decide (64 < (b.length : Int)) then (
 some 1)
 else (
 lfp (fun (rec1 : (Int × Int) → Option Int) (x1 : Int × Int) =>
  bif decide (x1.2 < (b.length : Int)) then (
  bif inb x1.2 b.length then
  bif (decide (4096 < (((rd (.pair (.int .u64) (.slice 5 (.int .u8))) b x1.2).2).length : Int)) == false) then (
  bif (decide (0 < x1.2) == true) then (
  bif inb (IntKind.wrap .i64 (x1.2 - 1)) b.length then
  (F42 (((rd (.pair (.int .u64) (.slice 5 (.int .u8))) b (IntKind.wrap .i64 (x1.2 - 1))).1, (rd (.pair (.int .u64) (.slice 5 (.int .u8))) b (IntKind.wrap .i64 (x1.2 - 1))).2), (rd (.pair (.int .u64) (.slice 5 (.int .u8))) b x1.2).1)).bind fun r2 =>
  bif decide (0 ≤ r2) then (
  some 1)
  else (
  rec1 (x1.1, (IntKind.wrap .i64 (x1.2 + 1))))
  else none)
  else (
  (fun o => both o o) (
  rec1 (x1.1, (IntKind.wrap .i64 (x1.2 + 1))))))
  else (
  (fun o => both o o) (
  some 1))
  else none)
  else (
  some 0)) (0, 0))
theorem ev19 (b : List (Int × List Int)) : evF C42 H19 Try.f19 (encs [.one (.slice 26 (.pair (.int .u64) (.slice 5 (.int .u8))))] b) (RT.dec (.one (.leaf (.int .i64)))) = F19 b := by kernel_rfl
noncomputable def C19 : Ctx := Ctx.add C42 19 [.one (.slice 26 (.pair (.int .u64) (.slice 5 (.int .u8))))] (.one (.leaf (.int .i64))) F19
theorem s19 : C19.Sound := Ctx.Sound.add (C := C42) mixed s42 Try.func19 ev19
/-! damson/bigsize.first -/
def H50 : Nat → Head := fun _ => ⟨[], []⟩
noncomputable def F50 (b : Int) : Option Int :=
 bif decide (b < 253) then (
 some (IntKind.wrap .u8 b))
 else (
 bif decide (b < 65536) then (
 some 253)
 else (
 bif decide (b < 4294967296) then (
 some 254)
 else (
 some 255)))
theorem ev50 (b : Int) : evF C19 H50 Try.f50 (encs [.one (.int .u64)] b) (RT.dec (.one (.leaf (.int .u8)))) = F50 b := by kernel_rfl
noncomputable def C50 : Ctx := Ctx.add C19 50 [.one (.int .u64)] (.one (.leaf (.int .u8))) F50
theorem s50 : C50.Sound := Ctx.Sound.add (C := C19) mixed s19 Try.func50 ev50
/-! damson/bigsize.wide -/
def H51 : Nat → Head := fun _ => ⟨[], []⟩
noncomputable def F51 (b : Int) : Option Int :=
 bif decide (b < 253) then (
 some 0)
 else (
 some (IntKind.wrap .i64 (2 * 2 ^ (min (IntKind.wrap .u8 (b - 253)).toNat 64))))
theorem ev51 (b : Int) : evF C50 H51 Try.f51 (encs [.one (.int .u8)] b) (RT.dec (.one (.leaf (.int .i64)))) = F51 b := by kernel_rfl
noncomputable def C51 : Ctx := Ctx.add C50 51 [.one (.int .u8)] (.one (.leaf (.int .i64))) F51
theorem s51 : C51.Sound := Ctx.Sound.add (C := C50) mixed s50 Try.func51 ev51
/-! damson/bigsize.Put -/
def H26 : Nat → Head
  | 3 => ⟨[.row 3 14339 5 (.int .u8), .data 10 (.int .i64)], []⟩
  | 8 => ⟨[.row 3 14344 5 (.int .u8), .data 22 (.int .i64)], [73728]⟩
  | _ => ⟨[], []⟩
noncomputable def F26 (b : List Int) : Option (List Int) :=
 lfp (fun (rec1 : (List Int × Int) → Option (List Int)) (x1 : List Int × Int) =>
  bif decide (x1.2 < (b.length : Int)) then (
  bif inb x1.2 b.length then
  (F50 (rd (.int .u64) b x1.2)).bind fun r2 =>
  bif decide ((x1.1.length + 1) * 1 ≤ LIM) then
  (F51 r2).bind fun r3 =>
  lfp (fun (rec4 : (List Int × Int) → Option (List Int)) (x4 : List Int × Int) =>
   bif decide (x4.2 < r3) then (
   (F51 r2).bind fun r5 =>
   bif decide (0 ≤ (IntKind.wrap .i64 (8 * (IntKind.wrap .i64 ((IntKind.wrap .i64 (r5 - 1)) - x4.2))))) then
   bif decide ((x4.1.length + 1) * 1 ≤ LIM) then
   rec4 ((x4.1 ++ ([(IntKind.wrap .u8 ((rd (.int .u64) b x1.2) / 2 ^ (min (IntKind.wrap .i64 (8 * (IntKind.wrap .i64 ((IntKind.wrap .i64 (r5 - 1)) - x4.2)))).toNat 64)))])), (IntKind.wrap .i64 (x4.2 + 1)))
   else none
   else none)
   else (
   rec1 (x4.1, (IntKind.wrap .i64 (x1.2 + 1))))) ((x1.1 ++ ([r2])), 0)
  else none
  else none)
  else (
  some x1.1)) (([] : List Int), 0)
theorem ev26 (b : List Int) : evF C51 H26 Try.f26 (encs [.oneA (.slice 23 (.int .u64))] b) (RT.dec (.one (.leaf (.fresh 5 (.int .u8))))) = F26 b := by kernel_rfl
noncomputable def C26 : Ctx := Ctx.addA C51 26 [.oneA (.slice 23 (.int .u64))] (.one (.leaf (.fresh 5 (.int .u8)))) F26
theorem s26 : C26.Sound := Ctx.Sound.addA (C := C51) mixed s51 Try.func26 ev26
/-! damson/tlv.Put -/
def H20 : Nat → Head
  | 5 => ⟨[.row 2 10245 5 (.int .u8), .data 13 (.int .i64)], []⟩
  | 5000007 => ⟨[], [0, 0, 0, 0, 2, 2, 0, 0, 8, 8, 16, 16, 32, 32, 68, 68, 128, 128, 257, 257, 0, 0, 1024, 1024, 2560, 2560, 8191, 4097]⟩
  | _ => ⟨[], []⟩
noncomputable def F20 (b : List (Int × List Int)) : Option (List Int × Int) :=
 (F19 b).bind fun r1 =>
 bif (!decide (r1 = 0)) then (
 some (([] : List Int), r1))
 else (
 lfp (fun (rec2 : (List Int × Int) → Option (List Int × Int)) (x2 : List Int × Int) =>
  bif decide (x2.2 < (b.length : Int)) then (
  bif inb x2.2 b.length then
  (both (
  (both (
  (both (
  (both (
  (F26 ([(rd (.pair (.int .u64) (.slice 5 (.int .u8))) b x2.2).1, (IntKind.wrap .u64 (((rd (.pair (.int .u64) (.slice 5 (.int .u8))) b x2.2).2).length : Int))])).bind fun r3 =>
  (fun o => both o o) (
  bif decide ((x2.1.length + r3.length) * 1 ≤ LIM) then
  bif decide (((x2.1 ++ r3).length + ((rd (.pair (.int .u64) (.slice 5 (.int .u8))) b x2.2).2).length) * 1 ≤ LIM) then
  rec2 (((x2.1 ++ r3) ++ ((rd (.pair (.int .u64) (.slice 5 (.int .u8))) b x2.2).2)), (IntKind.wrap .i64 (x2.2 + 1)))
  else none
  else none)) (
  (F26 ([(rd (.pair (.int .u64) (.slice 5 (.int .u8))) b x2.2).1, (IntKind.wrap .u64 (((rd (.pair (.int .u64) (.slice 5 (.int .u8))) b x2.2).2).length : Int))])).bind fun r3 =>
  bif decide ((x2.1.length + r3.length) * 1 ≤ LIM) then
  bif decide (((x2.1 ++ r3).length + ((rd (.pair (.int .u64) (.slice 5 (.int .u8))) b x2.2).2).length) * 1 ≤ LIM) then
  rec2 (((x2.1 ++ r3) ++ ((rd (.pair (.int .u64) (.slice 5 (.int .u8))) b x2.2).2)), (IntKind.wrap .i64 (x2.2 + 1)))
  else none
  else none))) (
  (F26 ([(rd (.pair (.int .u64) (.slice 5 (.int .u8))) b x2.2).1, (IntKind.wrap .u64 (((rd (.pair (.int .u64) (.slice 5 (.int .u8))) b x2.2).2).length : Int))])).bind fun r3 =>
  bif decide ((x2.1.length + r3.length) * 1 ≤ LIM) then
  bif decide (((x2.1 ++ r3).length + ((rd (.pair (.int .u64) (.slice 5 (.int .u8))) b x2.2).2).length) * 1 ≤ LIM) then
  rec2 (((x2.1 ++ r3) ++ ((rd (.pair (.int .u64) (.slice 5 (.int .u8))) b x2.2).2)), (IntKind.wrap .i64 (x2.2 + 1)))
  else none
  else none))) (
  (F26 ([(rd (.pair (.int .u64) (.slice 5 (.int .u8))) b x2.2).1, (IntKind.wrap .u64 (((rd (.pair (.int .u64) (.slice 5 (.int .u8))) b x2.2).2).length : Int))])).bind fun r3 =>
  bif decide ((x2.1.length + r3.length) * 1 ≤ LIM) then
  bif decide (((x2.1 ++ r3).length + ((rd (.pair (.int .u64) (.slice 5 (.int .u8))) b x2.2).2).length) * 1 ≤ LIM) then
  rec2 (((x2.1 ++ r3) ++ ((rd (.pair (.int .u64) (.slice 5 (.int .u8))) b x2.2).2)), (IntKind.wrap .i64 (x2.2 + 1)))
  else none
  else none))) (both (
  (both (
  (both (
  (both (
  (F26 ([(rd (.pair (.int .u64) (.slice 5 (.int .u8))) b x2.2).1, (IntKind.wrap .u64 (((rd (.pair (.int .u64) (.slice 5 (.int .u8))) b x2.2).2).length : Int))])).bind fun r3 =>
  (fun o => both o o) (
  bif decide ((x2.1.length + r3.length) * 1 ≤ LIM) then
  bif decide (((x2.1 ++ r3).length + ((rd (.pair (.int .u64) (.slice 5 (.int .u8))) b x2.2).2).length) * 1 ≤ LIM) then
  rec2 (((x2.1 ++ r3) ++ ((rd (.pair (.int .u64) (.slice 5 (.int .u8))) b x2.2).2)), (IntKind.wrap .i64 (x2.2 + 1)))
  else none
  else none)) (
  (F26 ([(rd (.pair (.int .u64) (.slice 5 (.int .u8))) b x2.2).1, (IntKind.wrap .u64 (((rd (.pair (.int .u64) (.slice 5 (.int .u8))) b x2.2).2).length : Int))])).bind fun r3 =>
  bif decide ((x2.1.length + r3.length) * 1 ≤ LIM) then
  bif decide (((x2.1 ++ r3).length + ((rd (.pair (.int .u64) (.slice 5 (.int .u8))) b x2.2).2).length) * 1 ≤ LIM) then
  rec2 (((x2.1 ++ r3) ++ ((rd (.pair (.int .u64) (.slice 5 (.int .u8))) b x2.2).2)), (IntKind.wrap .i64 (x2.2 + 1)))
  else none
  else none))) (
  (F26 ([(rd (.pair (.int .u64) (.slice 5 (.int .u8))) b x2.2).1, (IntKind.wrap .u64 (((rd (.pair (.int .u64) (.slice 5 (.int .u8))) b x2.2).2).length : Int))])).bind fun r3 =>
  bif decide ((x2.1.length + r3.length) * 1 ≤ LIM) then
  bif decide (((x2.1 ++ r3).length + ((rd (.pair (.int .u64) (.slice 5 (.int .u8))) b x2.2).2).length) * 1 ≤ LIM) then
  rec2 (((x2.1 ++ r3) ++ ((rd (.pair (.int .u64) (.slice 5 (.int .u8))) b x2.2).2)), (IntKind.wrap .i64 (x2.2 + 1)))
  else none
  else none))) (
  (F26 ([(rd (.pair (.int .u64) (.slice 5 (.int .u8))) b x2.2).1, (IntKind.wrap .u64 (((rd (.pair (.int .u64) (.slice 5 (.int .u8))) b x2.2).2).length : Int))])).bind fun r3 =>
  bif decide ((x2.1.length + r3.length) * 1 ≤ LIM) then
  bif decide (((x2.1 ++ r3).length + ((rd (.pair (.int .u64) (.slice 5 (.int .u8))) b x2.2).2).length) * 1 ≤ LIM) then
  rec2 (((x2.1 ++ r3) ++ ((rd (.pair (.int .u64) (.slice 5 (.int .u8))) b x2.2).2)), (IntKind.wrap .i64 (x2.2 + 1)))
  else none
  else none))) (
  (fun o => both o o) (
  (F26 ([(rd (.pair (.int .u64) (.slice 5 (.int .u8))) b x2.2).1, (IntKind.wrap .u64 (((rd (.pair (.int .u64) (.slice 5 (.int .u8))) b x2.2).2).length : Int))])).bind fun r3 =>
  bif decide ((x2.1.length + r3.length) * 1 ≤ LIM) then
  bif decide (((x2.1 ++ r3).length + ((rd (.pair (.int .u64) (.slice 5 (.int .u8))) b x2.2).2).length) * 1 ≤ LIM) then
  rec2 (((x2.1 ++ r3) ++ ((rd (.pair (.int .u64) (.slice 5 (.int .u8))) b x2.2).2)), (IntKind.wrap .i64 (x2.2 + 1)))
  else none
  else none))))
  else none)
  else (
  bif decide (65535 < (x2.1.length : Int)) then (
  some (([] : List Int), 4))
  else (
  some (x2.1, 0)))) (([] : List Int), 0))
theorem ev20 (b : List (Int × List Int)) : evF C26 H20 Try.f20 (encs [.oneA (.slice 26 (.pair (.int .u64) (.slice 5 (.int .u8))))] b) (RT.dec (.tup [.leaf (.fresh 5 (.int .u8)), .leaf (.int .i64)])) = F20 b := by kernel_rfl
noncomputable def C20 : Ctx := Ctx.addA C26 20 [.oneA (.slice 26 (.pair (.int .u64) (.slice 5 (.int .u8))))] (.tup [.leaf (.fresh 5 (.int .u8)), .leaf (.int .i64)]) F20
theorem s20 : C20.Sound := Ctx.Sound.addA (C := C26) mixed s26 Try.func20 ev20
/-! damson/damsonlaw02.live -/
def H13 : Nat → Head := fun _ => ⟨[], []⟩
noncomputable def F13 (b : Unit) : Option Bool :=
 (F20 ([(3, [7, 8])])).bind fun r1 =>
 bif (decide (r1.2 = 0) == true) then (
 some (decide (r1.1 = ([3, 2, 7, 8]))))
 else (
 some false)
theorem ev13 (b : Unit) : evF C20 H13 Try.f13 (encs [] b) (RT.dec (.one (.leaf (.bool)))) = F13 b := by kernel_rfl
noncomputable def C13 : Ctx := Ctx.add C20 13 [] (.one (.leaf (.bool))) F13
theorem s13 : C13.Sound := Ctx.Sound.add (C := C20) mixed s20 Try.func13 ev13
/-! damson/damsonref02.Few -/
def H14 : Nat → Head
  | 2 => ⟨[.data 2 .bool, .data 7 (.int .i64)], []⟩
  | _ => ⟨[], []⟩
noncomputable def F14 (b : List (Int × List Int)) : Option Bool :=
 lfp (fun (rec1 : (Bool × Int) → Option Bool) (x1 : Bool × Int) =>
  bif decide (x1.2 < (b.length : Int)) then (
  bif inb x1.2 b.length then
  bif (bif (bif decide (100 < (((rd (.pair (.int .u64) (.slice 5 (.int .u8))) b x1.2).2).length : Int)) then decide ((((rd (.pair (.int .u64) (.slice 5 (.int .u8))) b x1.2).2).length : Int) < 4096) else false) then true else decide (4100 < (((rd (.pair (.int .u64) (.slice 5 (.int .u8))) b x1.2).2).length : Int))) then (
  some false)
  else (
  rec1 (x1.1, (IntKind.wrap .i64 (x1.2 + 1))))
  else none)
  else (
  some (decide ((b.length : Int) ≤ 70)))) (false, 0)
theorem ev14 (b : List (Int × List Int)) : evF C13 H14 Try.f14 (encs [.one (.slice 26 (.pair (.int .u64) (.slice 5 (.int .u8))))] b) (RT.dec (.one (.leaf (.bool)))) = F14 b := by kernel_rfl
noncomputable def C14 : Ctx := Ctx.add C13 14 [.one (.slice 26 (.pair (.int .u64) (.slice 5 (.int .u8))))] (.one (.leaf (.bool))) F14
theorem s14 : C14.Sound := Ctx.Sound.add (C := C13) mixed s13 Try.func14 ev14
/-! slices.Clone[[]byte,byte] -/
def H43 : Nat → Head := fun _ => ⟨[], []⟩
noncomputable def F43 (b : List Int) : Option (List Int) :=
 bif b.isEmpty then (
 (both (
 some ([] : List Int)) (
 bif decide ((([] : List Int).length + b.length) * 1 ≤ LIM) then
 some (([] : List Int) ++ b)
 else none)))
 else (
 bif decide ((([] : List Int).length + b.length) * 1 ≤ LIM) then
 some (([] : List Int) ++ b)
 else none)
theorem ev43 (b : List Int) : evF C14 H43 Try.f43 (encs [.oneA (.slice 5 (.int .u8))] b) (RT.dec (.one (.leaf (.fresh 5 (.int .u8))))) = F43 b := by kernel_rfl
noncomputable def C43 : Ctx := Ctx.addA C14 43 [.oneA (.slice 5 (.int .u8))] (.one (.leaf (.fresh 5 (.int .u8)))) F43
theorem s43 : C43.Sound := Ctx.Sound.addA (C := C14) mixed s14 Try.func43 ev43
/-! slices.BinarySearchFunc[[]damson/api.Record,damson/api.Record,uint64] -/
def H41042 : Nat → Head
  | 3 => ⟨[.data 9 (.int .i64), .data 10 (.int .i64)], []⟩
  | _ => ⟨[], []⟩
noncomputable def F41042 (b : List (Int × List Int) × Int × Unit) : Option (Int × Bool) :=
 lfp (fun (rec1 : (Int × Int) → Option (Int × Bool)) (x1 : Int × Int) =>
  bif decide (x1.1 < x1.2) then (
  bif inb (IntKind.wrap .i64 ((IntKind.wrap .u64 (IntKind.wrap .i64 (x1.1 + x1.2))) / 2 ^ (min (1 : Int).toNat 64))) b.1.length then
  (F42 (((rd (.pair (.int .u64) (.slice 5 (.int .u8))) b.1 (IntKind.wrap .i64 ((IntKind.wrap .u64 (IntKind.wrap .i64 (x1.1 + x1.2))) / 2 ^ (min (1 : Int).toNat 64)))).1, (rd (.pair (.int .u64) (.slice 5 (.int .u8))) b.1 (IntKind.wrap .i64 ((IntKind.wrap .u64 (IntKind.wrap .i64 (x1.1 + x1.2))) / 2 ^ (min (1 : Int).toNat 64)))).2), b.2.1)).bind fun r2 =>
  bif decide (r2 < 0) then (
  rec1 ((IntKind.wrap .i64 ((IntKind.wrap .i64 ((IntKind.wrap .u64 (IntKind.wrap .i64 (x1.1 + x1.2))) / 2 ^ (min (1 : Int).toNat 64))) + 1)), x1.2))
  else (
  rec1 (x1.1, (IntKind.wrap .i64 ((IntKind.wrap .u64 (IntKind.wrap .i64 (x1.1 + x1.2))) / 2 ^ (min (1 : Int).toNat 64)))))
  else none)
  else (
  bif (decide (x1.1 < (b.1.length : Int)) == true) then (
  bif inb x1.1 b.1.length then
  (F42 (((rd (.pair (.int .u64) (.slice 5 (.int .u8))) b.1 x1.1).1, (rd (.pair (.int .u64) (.slice 5 (.int .u8))) b.1 x1.1).2), b.2.1)).bind fun r3 =>
  some (x1.1, decide (r3 = 0))
  else none)
  else (
  some (x1.1, false)))) (0, (b.1.length : Int))
theorem ev41042 (b : List (Int × List Int) × Int × Unit) : evF C43 H41042 Try.f41 (encs [.one (.slice 26 (.pair (.int .u64) (.slice 5 (.int .u8)))), .one (.int .u64), .fn 42] b) (RT.dec (.tup [.leaf (.int .i64), .leaf (.bool)])) = F41042 b := by kernel_rfl
noncomputable def C41042 : Ctx := Ctx.add C43 41 [.one (.slice 26 (.pair (.int .u64) (.slice 5 (.int .u8)))), .one (.int .u64), .fn 42] (.tup [.leaf (.int .i64), .leaf (.bool)]) F41042
theorem s41042 : C41042.Sound := Ctx.Sound.add (C := C43) mixed s43 Try.func41 ev41042
/-! damson/tlv.With -/
def H15 : Nat → Head
  | 11 => ⟨[.data 51 (.int .i64), .mrowk 196608 26 (.pair (.int .u64) (.slice 5 (.int .u8)))], [159744, 12288]⟩
  | 5000006 => ⟨[], [0, 0, 0, 0, 0, 0, 7, 7, 0, 0, 16, 16, 40, 40, 127, 64]⟩
  | 6000011 => ⟨[], [196608]⟩
  | 4000000 => ⟨[], [2199023255589]⟩
  | _ => ⟨[], []⟩
noncomputable def F15 (b : List (Int × List Int) × (Int × List Int)) : Option ((List (Int × List Int)) × Int) :=
 (F19 b.1).bind fun r1 =>
 bif (bif (!decide (r1 = 0)) then true else decide (4096 < (b.2.2.length : Int))) then (
 some (([] : List (Int × List Int)), 1))
 else (
 (F41042 (b.1, b.2.1, ())).bind fun r2 =>
 bif (bif (!r2.2) then decide ((b.1.length : Int) = 64) else false) then (
 some (([] : List (Int × List Int)), 7))
 else (
 bif (inb r2.1 (b.1.length + 1) && decide (r2.1 = r2.1)) then
 bif decide (((b.1.take r2.1.toNat).length + 1) * 32 ≤ LIM) then
 bif r2.2 then (
 bif inb (IntKind.wrap .i64 (r2.1 + 1)) (b.1.length + 1) then
 bif decide ((((b.1.take r2.1.toNat) ++ ([(b.2.1, b.2.2)])).length + (b.1.drop ((IntKind.wrap .i64 (r2.1 + 1)).toNat)).length) * 32 ≤ LIM) then
 lfp (fun (rec3 : (Int × (List (Int × List Int) × Nat)) → Option ((List (Int × List Int)) × Int)) (x3 : Int × (List (Int × List Int) × Nat)) =>
  bif decide (x3.1 < ((((b.1.take r2.1.toNat) ++ ([(b.2.1, b.2.2)])) ++ (b.1.drop ((IntKind.wrap .i64 (r2.1 + 1)).toNat))).length : Int)) then (
  bif inb x3.1 x3.2.1.length then
  (F43 ((rd (.pair (.int .u64) (.slice 5 (.int .u8))) x3.2.1 x3.1).2)).bind fun r4 =>
  bif inb x3.1 x3.2.1.length then
  bif decide (x3.1.toNat = x3.2.2) then
  rec3 ((IntKind.wrap .i64 (x3.1 + 1)), ((x3.2.1.set x3.1.toNat ((rd (.pair (.int .u64) (.slice 5 (.int .u8))) x3.2.1 x3.1).1, r4)), x3.2.2 + 1))
  else none
  else none
  else none)
  else (
  bif decide (x3.2.1.length ≤ x3.2.2) then
  some (x3.2.1, 0)
  else none)) (0, ((((b.1.take r2.1.toNat) ++ ([(b.2.1, b.2.2)])) ++ (b.1.drop ((IntKind.wrap .i64 (r2.1 + 1)).toNat))), 0))
 else none
 else none)
 else (
 bif inb r2.1 (b.1.length + 1) then
 bif decide ((((b.1.take r2.1.toNat) ++ ([(b.2.1, b.2.2)])).length + (b.1.drop r2.1.toNat).length) * 32 ≤ LIM) then
 lfp (fun (rec5 : (Int × (List (Int × List Int) × Nat)) → Option ((List (Int × List Int)) × Int)) (x5 : Int × (List (Int × List Int) × Nat)) =>
  bif decide (x5.1 < ((((b.1.take r2.1.toNat) ++ ([(b.2.1, b.2.2)])) ++ (b.1.drop r2.1.toNat)).length : Int)) then (
  bif inb x5.1 x5.2.1.length then
  (F43 ((rd (.pair (.int .u64) (.slice 5 (.int .u8))) x5.2.1 x5.1).2)).bind fun r6 =>
  bif inb x5.1 x5.2.1.length then
  bif decide (x5.1.toNat = x5.2.2) then
  rec5 ((IntKind.wrap .i64 (x5.1 + 1)), ((x5.2.1.set x5.1.toNat ((rd (.pair (.int .u64) (.slice 5 (.int .u8))) x5.2.1 x5.1).1, r6)), x5.2.2 + 1))
  else none
  else none
  else none)
  else (
  bif decide (x5.2.1.length ≤ x5.2.2) then
  some (x5.2.1, 0)
  else none)) (0, ((((b.1.take r2.1.toNat) ++ ([(b.2.1, b.2.2)])) ++ (b.1.drop r2.1.toNat)), 0))
 else none
 else none)
 else none
 else none))
theorem ev15 (b : List (Int × List Int) × (Int × List Int)) : evF C41042 H15 Try.f15 (encs [.oneA (.slice 26 (.pair (.int .u64) (.slice 5 (.int .u8)))), .aggA (.pair (.int .u64) (.slice 5 (.int .u8)))] b) (RT.dec (.tup [.leaf (.fresh 26 (.pair (.int .u64) (.slice 5 (.int .u8)))), .leaf (.int .i64)])) = F15 b := by kernel_rfl
noncomputable def C15 : Ctx := Ctx.addA C41042 15 [.oneA (.slice 26 (.pair (.int .u64) (.slice 5 (.int .u8)))), .aggA (.pair (.int .u64) (.slice 5 (.int .u8)))] (.tup [.leaf (.fresh 26 (.pair (.int .u64) (.slice 5 (.int .u8)))), .leaf (.int .i64)]) F15
theorem s15 : C15.Sound := Ctx.Sound.addA (C := C41042) mixed s41042 Try.func15 ev15
/-! bytes.Equal -/
def H64 : Nat → Head := fun _ => ⟨[], []⟩
noncomputable def F64 (b : List Int × List Int) : Option Bool :=
 some (decide (b.1 = b.2))
theorem ev64 (b : List Int × List Int) : evF C15 H64 Try.f64 (encs [.one (.slice 5 (.int .u8)), .one (.slice 5 (.int .u8))] b) (RT.dec (.one (.leaf (.bool)))) = F64 b := by kernel_rfl
noncomputable def C64 : Ctx := Ctx.add C15 64 [.one (.slice 5 (.int .u8)), .one (.slice 5 (.int .u8))] (.one (.leaf (.bool))) F64
theorem s64 : C64.Sound := Ctx.Sound.add (C := C15) mixed s15 Try.func64 ev64
/-! damson/tlv.one -/
def H45 : Nat → Head := fun _ => ⟨[], []⟩
noncomputable def F45 (b : (Int × List Int) × (Int × List Int)) : Option Bool :=
 bif (decide (b.1.1 = b.2.1) == true) then (
 (F64 (b.1.2, b.2.2)).bind fun r1 =>
 some r1)
 else (
 some false)
theorem ev45 (b : (Int × List Int) × (Int × List Int)) : evF C64 H45 Try.f45 (encs [.agg (.pair (.int .u64) (.slice 5 (.int .u8))), .agg (.pair (.int .u64) (.slice 5 (.int .u8)))] b) (RT.dec (.one (.leaf (.bool)))) = F45 b := by kernel_rfl
noncomputable def C45 : Ctx := Ctx.add C64 45 [.agg (.pair (.int .u64) (.slice 5 (.int .u8))), .agg (.pair (.int .u64) (.slice 5 (.int .u8)))] (.one (.leaf (.bool))) F45
theorem s45 : C45.Sound := Ctx.Sound.add (C := C64) mixed s64 Try.func45 ev45
/-! slices.EqualFunc[[]damson/api.Record,[]damson/api.Record,damson/api.Record,damson/api.Record] -/
def H44045 : Nat → Head
  | 4 => ⟨[.data 6 .bool, .data 17 (.int .i64)], []⟩
  | _ => ⟨[], []⟩
noncomputable def F44045 (b : List (Int × List Int) × List (Int × List Int) × Unit) : Option Bool :=
 bif (!decide ((b.1.length : Int) = (b.2.1.length : Int))) then (
 some false)
 else (
 lfp (fun (rec1 : (Bool × Int) → Option Bool) (x1 : Bool × Int) =>
  bif decide (x1.2 < (b.1.length : Int)) then (
  bif inb x1.2 b.1.length then
  bif inb x1.2 b.2.1.length then
  (F45 (((rd (.pair (.int .u64) (.slice 5 (.int .u8))) b.1 x1.2).1, (rd (.pair (.int .u64) (.slice 5 (.int .u8))) b.1 x1.2).2), ((rd (.pair (.int .u64) (.slice 5 (.int .u8))) b.2.1 x1.2).1, (rd (.pair (.int .u64) (.slice 5 (.int .u8))) b.2.1 x1.2).2))).bind fun r2 =>
  bif (!r2) then (
  some false)
  else (
  rec1 (x1.1, (IntKind.wrap .i64 (x1.2 + 1))))
  else none
  else none)
  else (
  some true)) (false, 0))
theorem ev44045 (b : List (Int × List Int) × List (Int × List Int) × Unit) : evF C45 H44045 Try.f44 (encs [.one (.slice 26 (.pair (.int .u64) (.slice 5 (.int .u8)))), .one (.slice 26 (.pair (.int .u64) (.slice 5 (.int .u8)))), .fn 45] b) (RT.dec (.one (.leaf (.bool)))) = F44045 b := by kernel_rfl
noncomputable def C44045 : Ctx := Ctx.add C45 44 [.one (.slice 26 (.pair (.int .u64) (.slice 5 (.int .u8)))), .one (.slice 26 (.pair (.int .u64) (.slice 5 (.int .u8)))), .fn 45] (.one (.leaf (.bool))) F44045
theorem s44045 : C44045.Sound := Ctx.Sound.add (C := C45) mixed s45 Try.func44 ev44045
/-! damson/tlv.Same -/
def H16 : Nat → Head := fun _ => ⟨[], []⟩
noncomputable def F16 (b : List (Int × List Int) × List (Int × List Int)) : Option Bool :=
 (F44045 (b.1, b.2, ())).bind fun r1 =>
 some r1
theorem ev16 (b : List (Int × List Int) × List (Int × List Int)) : evF C44045 H16 Try.f16 (encs [.one (.slice 26 (.pair (.int .u64) (.slice 5 (.int .u8)))), .one (.slice 26 (.pair (.int .u64) (.slice 5 (.int .u8))))] b) (RT.dec (.one (.leaf (.bool)))) = F16 b := by kernel_rfl
noncomputable def C16 : Ctx := Ctx.add C44045 16 [.one (.slice 26 (.pair (.int .u64) (.slice 5 (.int .u8)))), .one (.slice 26 (.pair (.int .u64) (.slice 5 (.int .u8))))] (.one (.leaf (.bool))) F16
theorem s16 : C16.Sound := Ctx.Sound.add (C := C44045) mixed s44045 Try.func16 ev16
/-! damson/tlv.Find -/
def H17 : Nat → Head := fun _ => ⟨[], []⟩
noncomputable def F17 (b : List (Int × List Int) × Int) : Option (List Int × Int) :=
 (F19 b.1).bind fun r1 =>
 bif (!decide (r1 = 0)) then (
 some (([] : List Int), r1))
 else (
 (F41042 (b.1, b.2, ())).bind fun r2 =>
 bif (!r2.2) then (
 some (([] : List Int), 5))
 else (
 bif inb r2.1 b.1.length then
 (F43 ((rd (.pair (.int .u64) (.slice 5 (.int .u8))) b.1 r2.1).2)).bind fun r3 =>
 some (r3, 0)
 else none))
theorem ev17 (b : List (Int × List Int) × Int) : evF C16 H17 Try.f17 (encs [.oneA (.slice 26 (.pair (.int .u64) (.slice 5 (.int .u8)))), .one (.int .u64)] b) (RT.dec (.tup [.leaf (.fresh 5 (.int .u8)), .leaf (.int .i64)])) = F17 b := by kernel_rfl
noncomputable def C17 : Ctx := Ctx.addA C16 17 [.oneA (.slice 26 (.pair (.int .u64) (.slice 5 (.int .u8)))), .one (.int .u64)] (.tup [.leaf (.fresh 5 (.int .u8)), .leaf (.int .i64)]) F17
theorem s17 : C17.Sound := Ctx.Sound.addA (C := C16) mixed s16 Try.func17 ev17
/-! damson/damsonref01.SameBytes -/
def H18 : Nat → Head := fun _ => ⟨[], []⟩
noncomputable def F18 (b : List Int × List Int) : Option Bool :=
 some (decide (b.1 = b.2))
theorem ev18 (b : List Int × List Int) : evF C17 H18 Try.f18 (encs [.one (.slice 5 (.int .u8)), .one (.slice 5 (.int .u8))] b) (RT.dec (.one (.leaf (.bool)))) = F18 b := by kernel_rfl
noncomputable def C18 : Ctx := Ctx.add C17 18 [.one (.slice 5 (.int .u8)), .one (.slice 5 (.int .u8))] (.one (.leaf (.bool))) F18
theorem s18 : C18.Sound := Ctx.Sound.add (C := C17) mixed s17 Try.func18 ev18
/-! damson/damsonref02.Check -/
def H25 : Nat → Head
  | 4 => ⟨[.data 2 (.int .i64), .data 10 (.int .i64)], []⟩
  | 5000006 => ⟨[], [0, 0, 1, 1, 2, 2, 4, 4, 8, 8, 16, 16, 48, 48, 80, 80, 128, 128, 128, 128, 640, 640, 1408, 1408, 2176, 2176, 4224, 4224, 128, 128, 16512, 16512, 41088, 41088, 65680, 65680, 131088, 131088]⟩
  | _ => ⟨[], []⟩
noncomputable def F25 (b : List (Int × List Int)) : Option Int :=
 bif decide (64 < (b.length : Int)) then (
 some 1)
 else (
 lfp (fun (rec1 : (Int × Int) → Option Int) (x1 : Int × Int) =>
  bif decide (x1.2 < (b.length : Int)) then (
  bif inb x1.2 b.length then
  bif (decide (4096 < (((rd (.pair (.int .u64) (.slice 5 (.int .u8))) b x1.2).2).length : Int)) == false) then (
  bif (decide (0 < x1.2) == true) then (
  bif inb (IntKind.wrap .i64 (x1.2 - 1)) b.length then
  bif decide ((rd (.pair (.int .u64) (.slice 5 (.int .u8))) b x1.2).1 ≤ (rd (.pair (.int .u64) (.slice 5 (.int .u8))) b (IntKind.wrap .i64 (x1.2 - 1))).1) then (
  some 1)
  else (
  rec1 (x1.1, (IntKind.wrap .i64 (x1.2 + 1))))
  else none)
  else (
  (both (
  (fun o => both o o) (
  rec1 (x1.1, (IntKind.wrap .i64 (x1.2 + 1))))) (
  rec1 (x1.1, (IntKind.wrap .i64 (x1.2 + 1)))))))
  else (
  (both (
  (fun o => both o o) (
  some 1)) (
  some 1)))
  else none)
  else (
  some 0)) (0, 0))
theorem ev25 (b : List (Int × List Int)) : evF C18 H25 Try.f25 (encs [.one (.slice 26 (.pair (.int .u64) (.slice 5 (.int .u8))))] b) (RT.dec (.one (.leaf (.int .i64)))) = F25 b := by kernel_rfl
noncomputable def C25 : Ctx := Ctx.add C18 25 [.one (.slice 26 (.pair (.int .u64) (.slice 5 (.int .u8))))] (.one (.leaf (.int .i64))) F25
theorem s25 : C25.Sound := Ctx.Sound.add (C := C18) mixed s18 Try.func25 ev25
/-! damson/damsonref01.high -/
def H87 : Nat → Head := fun _ => ⟨[], []⟩
noncomputable def B87 (recF : (Int × Int) → Option (List Int)) (b : Int × Int) : Option (List Int) :=
 bif decide (b.2 = 0) then (
 some ([] : List Int))
 else (
 (recF ((IntKind.wrap .u64 (Int.tdiv b.1 256)), (IntKind.wrap .i64 (b.2 - 1)))).bind fun r1 =>
 bif decide ((r1.length + 1) * 1 ≤ LIM) then
 some (r1 ++ ([(IntKind.wrap .u8 (Int.tmod b.1 256))]))
 else none)
noncomputable def F87 : (Int × Int) → Option (List Int) := lfp B87
theorem ev87 (F : (Int × Int) → Option (List Int)) (b : Int × Int) : evF (Ctx.add C25 87 [.one (.int .u64), .one (.int .i64)] (.one (.leaf (.fresh 5 (.int .u8)))) F) H87 Try.f87 (encs [.one (.int .u64), .one (.int .i64)] b) (RT.dec (.one (.leaf (.fresh 5 (.int .u8))))) = B87 F b := by kernel_rfl
noncomputable def C87 : Ctx := Ctx.add C25 87 [.one (.int .u64), .one (.int .i64)] (.one (.leaf (.fresh 5 (.int .u8)))) F87
theorem s87 : C87.Sound := Ctx.Sound.fix (C := C25) mixed s25 Try.func87 ev87
/-! damson/damsonref01.one -/
def H70 : Nat → Head := fun _ => ⟨[], []⟩
noncomputable def F70 (b : Int) : Option (List Int) :=
 bif decide (b < 253) then (
 some ([(IntKind.wrap .u8 b)]))
 else (
 bif decide (b < 65536) then (
 (F87 (b, 2)).bind fun r1 =>
 bif decide ((([253]).length + r1.length) * 1 ≤ LIM) then
 some (([253]) ++ r1)
 else none)
 else (
 bif decide (b < 4294967296) then (
 (F87 (b, 4)).bind fun r2 =>
 bif decide ((([254]).length + r2.length) * 1 ≤ LIM) then
 some (([254]) ++ r2)
 else none)
 else (
 (F87 (b, 8)).bind fun r3 =>
 bif decide ((([255]).length + r3.length) * 1 ≤ LIM) then
 some (([255]) ++ r3)
 else none)))
theorem ev70 (b : Int) : evF C87 H70 Try.f70 (encs [.one (.int .u64)] b) (RT.dec (.one (.leaf (.fresh 5 (.int .u8))))) = F70 b := by kernel_rfl
noncomputable def C70 : Ctx := Ctx.add C87 70 [.one (.int .u64)] (.one (.leaf (.fresh 5 (.int .u8)))) F70
theorem s70 : C70.Sound := Ctx.Sound.add (C := C87) mixed s87 Try.func70 ev70
/-! damson/damsonref01.Put -/
def H46 : Nat → Head
  | 3 => ⟨[.row 3 14339 5 (.int .u8), .data 8 (.int .i64)], []⟩
  | _ => ⟨[], []⟩
noncomputable def F46 (b : List Int) : Option (List Int) :=
 lfp (fun (rec1 : (List Int × Int) → Option (List Int)) (x1 : List Int × Int) =>
  bif decide (x1.2 < (b.length : Int)) then (
  bif inb x1.2 b.length then
  (F70 (rd (.int .u64) b x1.2)).bind fun r2 =>
  bif decide ((x1.1.length + r2.length) * 1 ≤ LIM) then
  rec1 ((x1.1 ++ r2), (IntKind.wrap .i64 (x1.2 + 1)))
  else none
  else none)
  else (
  some x1.1)) (([] : List Int), 0)
theorem ev46 (b : List Int) : evF C70 H46 Try.f46 (encs [.oneA (.slice 23 (.int .u64))] b) (RT.dec (.one (.leaf (.fresh 5 (.int .u8))))) = F46 b := by kernel_rfl
noncomputable def C46 : Ctx := Ctx.addA C70 46 [.oneA (.slice 23 (.int .u64))] (.one (.leaf (.fresh 5 (.int .u8)))) F46
theorem s46 : C46.Sound := Ctx.Sound.addA (C := C70) mixed s70 Try.func46 ev46
/-! damson/damsonref02.Put -/
def H21 : Nat → Head
  | 5 => ⟨[.row 4 18437 5 (.int .u8), .data 12 (.int .i64)], []⟩
  | _ => ⟨[], []⟩
noncomputable def F21 (b : List (Int × List Int)) : Option (List Int × Int) :=
 (F25 b).bind fun r1 =>
 bif (!decide (r1 = 0)) then (
 some (([] : List Int), 1))
 else (
 lfp (fun (rec2 : (List Int × Int) → Option (List Int × Int)) (x2 : List Int × Int) =>
  bif decide (x2.2 < (b.length : Int)) then (
  bif inb x2.2 b.length then
  (F46 ([(rd (.pair (.int .u64) (.slice 5 (.int .u8))) b x2.2).1, (IntKind.wrap .u64 (((rd (.pair (.int .u64) (.slice 5 (.int .u8))) b x2.2).2).length : Int))])).bind fun r3 =>
  bif decide ((x2.1.length + r3.length) * 1 ≤ LIM) then
  bif decide (((x2.1 ++ r3).length + ((rd (.pair (.int .u64) (.slice 5 (.int .u8))) b x2.2).2).length) * 1 ≤ LIM) then
  rec2 (((x2.1 ++ r3) ++ ((rd (.pair (.int .u64) (.slice 5 (.int .u8))) b x2.2).2)), (IntKind.wrap .i64 (x2.2 + 1)))
  else none
  else none
  else none)
  else (
  bif decide (65535 < (x2.1.length : Int)) then (
  some (([] : List Int), 4))
  else (
  some (x2.1, 0)))) (([] : List Int), 0))
theorem ev21 (b : List (Int × List Int)) : evF C46 H21 Try.f21 (encs [.oneA (.slice 26 (.pair (.int .u64) (.slice 5 (.int .u8))))] b) (RT.dec (.tup [.leaf (.fresh 5 (.int .u8)), .leaf (.int .i64)])) = F21 b := by kernel_rfl
noncomputable def C21 : Ctx := Ctx.addA C46 21 [.oneA (.slice 26 (.pair (.int .u64) (.slice 5 (.int .u8))))] (.tup [.leaf (.fresh 5 (.int .u8)), .leaf (.int .i64)]) F21
theorem s21 : C21.Sound := Ctx.Sound.addA (C := C46) mixed s46 Try.func21 ev21
/-! damson/bigsize.Get -/
def H52 : Nat → Head
  | 7 => ⟨[.data 2 (.int .u64), .data 35 (.int .i64)], []⟩
  | 5000011 => ⟨[], [0, 0, 1, 1, 0, 0, 4, 4, 8, 8, 18, 18]⟩
  | _ => ⟨[], []⟩
noncomputable def F52 (b : List Int) : Option (Int × Int × Int) :=
 bif (decide ((b.length : Int) = 0) == false) then (
 bif inb 0 b.length then
 (F51 (rd (.int .u8) b 0)).bind fun r1 =>
 bif decide ((b.length : Int) ≤ r1) then (
 some (0, 0, 3))
 else (
 bif inb 0 b.length then
 (F51 (rd (.int .u8) b 0)).bind fun r2 =>
 bif decide (r2 = 0) then (
 bif inb 0 b.length then
 some ((IntKind.wrap .u64 (rd (.int .u8) b 0)), 1, 0)
 else none)
 else (
 bif (inb (IntKind.wrap .i64 (r2 + 1)) (b.length + 1) && (decide (0 ≤ 1) && decide (1 ≤ (IntKind.wrap .i64 (r2 + 1))))) then
 lfp (fun (rec3 : (Int × Int) → Option (Int × Int × Int)) (x3 : Int × Int) =>
  bif decide (x3.2 < (((b.take ((IntKind.wrap .i64 (r2 + 1)).toNat)).drop ((1 : Int).toNat)).length : Int)) then (
  bif inb x3.2 ((b.take ((IntKind.wrap .i64 (r2 + 1)).toNat)).drop ((1 : Int).toNat)).length then
  rec3 ((bitOp .or .u64 (IntKind.wrap .u64 (x3.1 * 2 ^ (min (8 : Int).toNat 64))) (IntKind.wrap .u64 (rd (.int .u8) ((b.take ((IntKind.wrap .i64 (r2 + 1)).toNat)).drop ((1 : Int).toNat)) x3.2))), (IntKind.wrap .i64 (x3.2 + 1)))
  else none)
  else (
  bif inb 0 b.length then
  (F50 x3.1).bind fun r4 =>
  bif (!decide (r4 = (rd (.int .u8) b 0))) then (
  some (0, 0, 2))
  else (
  some (x3.1, (IntKind.wrap .i64 (r2 + 1)), 0))
  else none)) (0, 0)
 else none)
 else none)
 else none)
 else (
 some (0, 0, 3))
theorem ev52 (b : List Int) : evF C21 H52 Try.f52 (encs [.one (.slice 5 (.int .u8))] b) (RT.dec (.tup [.leaf (.int .u64), .leaf (.int .i64), .leaf (.int .i64)])) = F52 b := by kernel_rfl
noncomputable def C52 : Ctx := Ctx.add C21 52 [.one (.slice 5 (.int .u8))] (.tup [.leaf (.int .u64), .leaf (.int .i64), .leaf (.int .i64)]) F52
theorem s52 : C52.Sound := Ctx.Sound.add (C := C21) mixed s21 Try.func52 ev52
/-! (*damson/tlv.reader).wrong: carried out where it is called -/
def H47 : Nat → Head := fun _ => ⟨[], []⟩
noncomputable def C47 : Ctx := Ctx.addI C52 47 H47 9000047 Try.f47
theorem s47 : C47.Sound := Ctx.Sound.addI (C := C52) mixed s52 Try.func47
/-! (*damson/tlv.reader).number: carried out where it is called -/
def H48 : Nat → Head := fun _ => ⟨[], []⟩
noncomputable def C48 : Ctx := Ctx.addI C47 48 H48 9000048 Try.f48
theorem s48 : C48.Sound := Ctx.Sound.addI (C := C47) mixed s47 Try.func48
/-! damson/tlv.Get -/
def H22 : Nat → Head
  | 3 => ⟨[.row 2 10243 26 (.pair (.int .u64) (.slice 5 (.int .u8))), .boxA 36864 (.pair (.slice 5 (.int .u8)) (.int .i64))], []⟩
  | 5000014 => ⟨[], [0, 0, 1, 1, 2, 2, 4, 4, 0, 0, 31, 8]⟩
  | _ => ⟨[], []⟩
noncomputable def F22 (b : List Int) : Option ((List (Int × List Int)) × Int) :=
 bif (bif decide (65535 < (b.length : Int)) then true else false) then (
 lfp (fun (rec1 : (List (Int × List Int) × (List Int × Int)) → Option ((List (Int × List Int)) × Int)) (x1 : List (Int × List Int) × (List Int × Int)) =>
  bif (bif decide (x1.2.2 = 0) then decide (0 < (x1.2.1.length : Int)) else false) then (
  bif (bif decide ((x1.1.length : Int) = 64) then decide (x1.2.2 = 0) else false) then (
  bif (decide (0 < (x1.1.length : Int)) == true) then (
  bif inb (if (IntKind.wrap .i64 ((x1.1.length : Int) - 1)) < 0 then 0 else (IntKind.wrap .i64 ((x1.1.length : Int) - 1))) x1.1.length then
  (F42 (((rd (.pair (.int .u64) (.slice 5 (.int .u8))) x1.1 (if (IntKind.wrap .i64 ((x1.1.length : Int) - 1)) < 0 then 0 else (IntKind.wrap .i64 ((x1.1.length : Int) - 1)))).1, (rd (.pair (.int .u64) (.slice 5 (.int .u8))) x1.1 (if (IntKind.wrap .i64 ((x1.1.length : Int) - 1)) < 0 then 0 else (IntKind.wrap .i64 ((x1.1.length : Int) - 1)))).2), 0)).bind fun r2 =>
  bif (bif decide (0 ≤ r2) then false else false) then (
  bif (bif decide ((IntKind.wrap .u64 (x1.2.1.length : Int)) < 0) then false else false) then (
  rec1 (x1.1, (x1.2.1, 3)))
  else (
  rec1 (x1.1, (x1.2.1, 2))))
  else (
  bif (bif decide ((IntKind.wrap .u64 (x1.2.1.length : Int)) < 0) then false else false) then (
  rec1 (x1.1, (x1.2.1, 3)))
  else (
  rec1 (x1.1, (x1.2.1, 4))))
  else none)
  else (
  bif (bif decide ((IntKind.wrap .u64 (x1.2.1.length : Int)) < 0) then false else false) then (
  rec1 (x1.1, (x1.2.1, 3)))
  else (
  rec1 (x1.1, (x1.2.1, 4)))))
  else (
  bif (!decide (x1.2.2 = 0)) then (
  bif (decide (0 < (x1.1.length : Int)) == true) then (
  bif inb (if (IntKind.wrap .i64 ((x1.1.length : Int) - 1)) < 0 then 0 else (IntKind.wrap .i64 ((x1.1.length : Int) - 1))) x1.1.length then
  (F42 (((rd (.pair (.int .u64) (.slice 5 (.int .u8))) x1.1 (if (IntKind.wrap .i64 ((x1.1.length : Int) - 1)) < 0 then 0 else (IntKind.wrap .i64 ((x1.1.length : Int) - 1)))).1, (rd (.pair (.int .u64) (.slice 5 (.int .u8))) x1.1 (if (IntKind.wrap .i64 ((x1.1.length : Int) - 1)) < 0 then 0 else (IntKind.wrap .i64 ((x1.1.length : Int) - 1)))).2), 0)).bind fun r3 =>
  bif (bif decide (0 ≤ r3) then decide (x1.2.2 = 0) else false) then (
  bif (bif decide ((IntKind.wrap .u64 (x1.2.1.length : Int)) < 0) then false else false) then (
  rec1 (x1.1, (x1.2.1, 3)))
  else (
  rec1 (x1.1, (x1.2.1, 2))))
  else (
  bif (!decide (x1.2.2 = 0)) then (
  bif (bif decide ((IntKind.wrap .u64 (x1.2.1.length : Int)) < 0) then decide (x1.2.2 = 0) else false) then (
  rec1 (x1.1, (x1.2.1, 3)))
  else (
  bif decide (x1.2.2 = 0) then (
  bif inb 0 (x1.2.1.length + 1) then
  (F43 (x1.2.1.take ((0 : Int).toNat))).bind fun r4 =>
  bif decide ((x1.1.length + 1) * 32 ≤ LIM) then
  bif inb 0 (x1.2.1.length + 1) then
  rec1 ((x1.1 ++ ([(0, r4)])), (x1.2.1.drop ((0 : Int).toNat), x1.2.2))
  else none
  else none
  else none)
  else (
  rec1 (x1.1, (x1.2.1, x1.2.2)))))
  else (
  (F52 x1.2.1).bind fun r5 =>
  bif inb r5.2.1 (x1.2.1.length + 1) then
  bif (bif decide (4096 < r5.1) then decide (r5.2.2 = 0) else false) then (
  bif (bif decide ((IntKind.wrap .u64 ((x1.2.1.drop r5.2.1.toNat).length : Int)) < r5.1) then false else false) then (
  rec1 (x1.1, (x1.2.1.drop r5.2.1.toNat, 3)))
  else (
  rec1 (x1.1, (x1.2.1.drop r5.2.1.toNat, 4))))
  else (
  bif (bif decide ((IntKind.wrap .u64 ((x1.2.1.drop r5.2.1.toNat).length : Int)) < r5.1) then decide (r5.2.2 = 0) else false) then (
  rec1 (x1.1, (x1.2.1.drop r5.2.1.toNat, 3)))
  else (
  bif decide (r5.2.2 = 0) then (
  bif inb r5.1 ((x1.2.1.drop r5.2.1.toNat).length + 1) then
  (F43 ((x1.2.1.drop r5.2.1.toNat).take r5.1.toNat)).bind fun r6 =>
  bif decide ((x1.1.length + 1) * 32 ≤ LIM) then
  bif inb r5.1 ((x1.2.1.drop r5.2.1.toNat).length + 1) then
  rec1 ((x1.1 ++ ([(0, r6)])), ((x1.2.1.drop r5.2.1.toNat).drop r5.1.toNat, r5.2.2))
  else none
  else none
  else none)
  else (
  rec1 (x1.1, (x1.2.1.drop r5.2.1.toNat, r5.2.2)))))
  else none))
  else none)
  else (
  bif (!decide (x1.2.2 = 0)) then (
  bif (bif decide ((IntKind.wrap .u64 (x1.2.1.length : Int)) < 0) then decide (x1.2.2 = 0) else false) then (
  rec1 (x1.1, (x1.2.1, 3)))
  else (
  bif decide (x1.2.2 = 0) then (
  bif inb 0 (x1.2.1.length + 1) then
  (F43 (x1.2.1.take ((0 : Int).toNat))).bind fun r7 =>
  bif decide ((x1.1.length + 1) * 32 ≤ LIM) then
  bif inb 0 (x1.2.1.length + 1) then
  rec1 ((x1.1 ++ ([(0, r7)])), (x1.2.1.drop ((0 : Int).toNat), x1.2.2))
  else none
  else none
  else none)
  else (
  rec1 (x1.1, (x1.2.1, x1.2.2)))))
  else (
  (F52 x1.2.1).bind fun r8 =>
  bif inb r8.2.1 (x1.2.1.length + 1) then
  bif (bif decide (4096 < r8.1) then decide (r8.2.2 = 0) else false) then (
  bif (bif decide ((IntKind.wrap .u64 ((x1.2.1.drop r8.2.1.toNat).length : Int)) < r8.1) then false else false) then (
  rec1 (x1.1, (x1.2.1.drop r8.2.1.toNat, 3)))
  else (
  rec1 (x1.1, (x1.2.1.drop r8.2.1.toNat, 4))))
  else (
  bif (bif decide ((IntKind.wrap .u64 ((x1.2.1.drop r8.2.1.toNat).length : Int)) < r8.1) then decide (r8.2.2 = 0) else false) then (
  rec1 (x1.1, (x1.2.1.drop r8.2.1.toNat, 3)))
  else (
  bif decide (r8.2.2 = 0) then (
  bif inb r8.1 ((x1.2.1.drop r8.2.1.toNat).length + 1) then
  (F43 ((x1.2.1.drop r8.2.1.toNat).take r8.1.toNat)).bind fun r9 =>
  bif decide ((x1.1.length + 1) * 32 ≤ LIM) then
  bif inb r8.1 ((x1.2.1.drop r8.2.1.toNat).length + 1) then
  rec1 ((x1.1 ++ ([(0, r9)])), ((x1.2.1.drop r8.2.1.toNat).drop r8.1.toNat, r8.2.2))
  else none
  else none
  else none)
  else (
  rec1 (x1.1, (x1.2.1.drop r8.2.1.toNat, r8.2.2)))))
  else none)))
  else (
  (F52 x1.2.1).bind fun r10 =>
  bif inb r10.2.1 (x1.2.1.length + 1) then
  bif (decide (0 < (x1.1.length : Int)) == true) then (
  bif inb (if (IntKind.wrap .i64 ((x1.1.length : Int) - 1)) < 0 then 0 else (IntKind.wrap .i64 ((x1.1.length : Int) - 1))) x1.1.length then
  (F42 (((rd (.pair (.int .u64) (.slice 5 (.int .u8))) x1.1 (if (IntKind.wrap .i64 ((x1.1.length : Int) - 1)) < 0 then 0 else (IntKind.wrap .i64 ((x1.1.length : Int) - 1)))).1, (rd (.pair (.int .u64) (.slice 5 (.int .u8))) x1.1 (if (IntKind.wrap .i64 ((x1.1.length : Int) - 1)) < 0 then 0 else (IntKind.wrap .i64 ((x1.1.length : Int) - 1)))).2), r10.1)).bind fun r11 =>
  bif (bif decide (0 ≤ r11) then decide (r10.2.2 = 0) else false) then (
  bif (bif decide ((IntKind.wrap .u64 ((x1.2.1.drop r10.2.1.toNat).length : Int)) < 0) then false else false) then (
  rec1 (x1.1, (x1.2.1.drop r10.2.1.toNat, 3)))
  else (
  rec1 (x1.1, (x1.2.1.drop r10.2.1.toNat, 2))))
  else (
  bif (!decide (r10.2.2 = 0)) then (
  bif (bif decide ((IntKind.wrap .u64 ((x1.2.1.drop r10.2.1.toNat).length : Int)) < 0) then decide (r10.2.2 = 0) else false) then (
  rec1 (x1.1, (x1.2.1.drop r10.2.1.toNat, 3)))
  else (
  bif decide (r10.2.2 = 0) then (
  bif inb 0 ((x1.2.1.drop r10.2.1.toNat).length + 1) then
  (F43 ((x1.2.1.drop r10.2.1.toNat).take ((0 : Int).toNat))).bind fun r12 =>
  bif decide ((x1.1.length + 1) * 32 ≤ LIM) then
  bif inb 0 ((x1.2.1.drop r10.2.1.toNat).length + 1) then
  rec1 ((x1.1 ++ ([(r10.1, r12)])), ((x1.2.1.drop r10.2.1.toNat).drop ((0 : Int).toNat), r10.2.2))
  else none
  else none
  else none)
  else (
  rec1 (x1.1, (x1.2.1.drop r10.2.1.toNat, r10.2.2)))))
  else (
  (F52 (x1.2.1.drop r10.2.1.toNat)).bind fun r13 =>
  bif inb r13.2.1 ((x1.2.1.drop r10.2.1.toNat).length + 1) then
  bif (bif decide (4096 < r13.1) then decide (r13.2.2 = 0) else false) then (
  bif (bif decide ((IntKind.wrap .u64 (((x1.2.1.drop r10.2.1.toNat).drop r13.2.1.toNat).length : Int)) < r13.1) then false else false) then (
  rec1 (x1.1, ((x1.2.1.drop r10.2.1.toNat).drop r13.2.1.toNat, 3)))
  else (
  rec1 (x1.1, ((x1.2.1.drop r10.2.1.toNat).drop r13.2.1.toNat, 4))))
  else (
  bif (bif decide ((IntKind.wrap .u64 (((x1.2.1.drop r10.2.1.toNat).drop r13.2.1.toNat).length : Int)) < r13.1) then decide (r13.2.2 = 0) else false) then (
  rec1 (x1.1, ((x1.2.1.drop r10.2.1.toNat).drop r13.2.1.toNat, 3)))
  else (
  bif decide (r13.2.2 = 0) then (
  bif inb r13.1 (((x1.2.1.drop r10.2.1.toNat).drop r13.2.1.toNat).length + 1) then
  (F43 (((x1.2.1.drop r10.2.1.toNat).drop r13.2.1.toNat).take r13.1.toNat)).bind fun r14 =>
  bif decide ((x1.1.length + 1) * 32 ≤ LIM) then
  bif inb r13.1 (((x1.2.1.drop r10.2.1.toNat).drop r13.2.1.toNat).length + 1) then
  rec1 ((x1.1 ++ ([(r10.1, r14)])), (((x1.2.1.drop r10.2.1.toNat).drop r13.2.1.toNat).drop r13.1.toNat, r13.2.2))
  else none
  else none
  else none)
  else (
  rec1 (x1.1, ((x1.2.1.drop r10.2.1.toNat).drop r13.2.1.toNat, r13.2.2)))))
  else none))
  else none)
  else (
  bif (!decide (r10.2.2 = 0)) then (
  bif (bif decide ((IntKind.wrap .u64 ((x1.2.1.drop r10.2.1.toNat).length : Int)) < 0) then decide (r10.2.2 = 0) else false) then (
  rec1 (x1.1, (x1.2.1.drop r10.2.1.toNat, 3)))
  else (
  bif decide (r10.2.2 = 0) then (
  bif inb 0 ((x1.2.1.drop r10.2.1.toNat).length + 1) then
  (F43 ((x1.2.1.drop r10.2.1.toNat).take ((0 : Int).toNat))).bind fun r15 =>
  bif decide ((x1.1.length + 1) * 32 ≤ LIM) then
  bif inb 0 ((x1.2.1.drop r10.2.1.toNat).length + 1) then
  rec1 ((x1.1 ++ ([(r10.1, r15)])), ((x1.2.1.drop r10.2.1.toNat).drop ((0 : Int).toNat), r10.2.2))
  else none
  else none
  else none)
  else (
  rec1 (x1.1, (x1.2.1.drop r10.2.1.toNat, r10.2.2)))))
  else (
  (F52 (x1.2.1.drop r10.2.1.toNat)).bind fun r16 =>
  bif inb r16.2.1 ((x1.2.1.drop r10.2.1.toNat).length + 1) then
  bif (bif decide (4096 < r16.1) then decide (r16.2.2 = 0) else false) then (
  bif (bif decide ((IntKind.wrap .u64 (((x1.2.1.drop r10.2.1.toNat).drop r16.2.1.toNat).length : Int)) < r16.1) then false else false) then (
  rec1 (x1.1, ((x1.2.1.drop r10.2.1.toNat).drop r16.2.1.toNat, 3)))
  else (
  rec1 (x1.1, ((x1.2.1.drop r10.2.1.toNat).drop r16.2.1.toNat, 4))))
  else (
  bif (bif decide ((IntKind.wrap .u64 (((x1.2.1.drop r10.2.1.toNat).drop r16.2.1.toNat).length : Int)) < r16.1) then decide (r16.2.2 = 0) else false) then (
  rec1 (x1.1, ((x1.2.1.drop r10.2.1.toNat).drop r16.2.1.toNat, 3)))
  else (
  bif decide (r16.2.2 = 0) then (
  bif inb r16.1 (((x1.2.1.drop r10.2.1.toNat).drop r16.2.1.toNat).length + 1) then
  (F43 (((x1.2.1.drop r10.2.1.toNat).drop r16.2.1.toNat).take r16.1.toNat)).bind fun r17 =>
  bif decide ((x1.1.length + 1) * 32 ≤ LIM) then
  bif inb r16.1 (((x1.2.1.drop r10.2.1.toNat).drop r16.2.1.toNat).length + 1) then
  rec1 ((x1.1 ++ ([(r10.1, r17)])), (((x1.2.1.drop r10.2.1.toNat).drop r16.2.1.toNat).drop r16.1.toNat, r16.2.2))
  else none
  else none
  else none)
  else (
  rec1 (x1.1, ((x1.2.1.drop r10.2.1.toNat).drop r16.2.1.toNat, r16.2.2)))))
  else none))
  else none)))
  else (
  bif (!decide (x1.2.2 = 0)) then (
  some (([] : List (Int × List Int)), x1.2.2))
  else (
  some (x1.1, 0)))) (([] : List (Int × List Int)), (b, 4)))
 else (
 lfp (fun (rec18 : (List (Int × List Int) × (List Int × Int)) → Option ((List (Int × List Int)) × Int)) (x18 : List (Int × List Int) × (List Int × Int)) =>
  bif (bif decide (x18.2.2 = 0) then decide (0 < (x18.2.1.length : Int)) else false) then (
  bif (bif decide ((x18.1.length : Int) = 64) then decide (x18.2.2 = 0) else false) then (
  bif (decide (0 < (x18.1.length : Int)) == true) then (
  bif inb (if (IntKind.wrap .i64 ((x18.1.length : Int) - 1)) < 0 then 0 else (IntKind.wrap .i64 ((x18.1.length : Int) - 1))) x18.1.length then
  (F42 (((rd (.pair (.int .u64) (.slice 5 (.int .u8))) x18.1 (if (IntKind.wrap .i64 ((x18.1.length : Int) - 1)) < 0 then 0 else (IntKind.wrap .i64 ((x18.1.length : Int) - 1)))).1, (rd (.pair (.int .u64) (.slice 5 (.int .u8))) x18.1 (if (IntKind.wrap .i64 ((x18.1.length : Int) - 1)) < 0 then 0 else (IntKind.wrap .i64 ((x18.1.length : Int) - 1)))).2), 0)).bind fun r19 =>
  bif (bif decide (0 ≤ r19) then false else false) then (
  bif (bif decide ((IntKind.wrap .u64 (x18.2.1.length : Int)) < 0) then false else false) then (
  rec18 (x18.1, (x18.2.1, 3)))
  else (
  rec18 (x18.1, (x18.2.1, 2))))
  else (
  bif (bif decide ((IntKind.wrap .u64 (x18.2.1.length : Int)) < 0) then false else false) then (
  rec18 (x18.1, (x18.2.1, 3)))
  else (
  rec18 (x18.1, (x18.2.1, 4))))
  else none)
  else (
  bif (bif decide ((IntKind.wrap .u64 (x18.2.1.length : Int)) < 0) then false else false) then (
  rec18 (x18.1, (x18.2.1, 3)))
  else (
  rec18 (x18.1, (x18.2.1, 4)))))
  else (
  bif (!decide (x18.2.2 = 0)) then (
  bif (decide (0 < (x18.1.length : Int)) == true) then (
  bif inb (if (IntKind.wrap .i64 ((x18.1.length : Int) - 1)) < 0 then 0 else (IntKind.wrap .i64 ((x18.1.length : Int) - 1))) x18.1.length then
  (F42 (((rd (.pair (.int .u64) (.slice 5 (.int .u8))) x18.1 (if (IntKind.wrap .i64 ((x18.1.length : Int) - 1)) < 0 then 0 else (IntKind.wrap .i64 ((x18.1.length : Int) - 1)))).1, (rd (.pair (.int .u64) (.slice 5 (.int .u8))) x18.1 (if (IntKind.wrap .i64 ((x18.1.length : Int) - 1)) < 0 then 0 else (IntKind.wrap .i64 ((x18.1.length : Int) - 1)))).2), 0)).bind fun r20 =>
  bif (bif decide (0 ≤ r20) then decide (x18.2.2 = 0) else false) then (
  bif (bif decide ((IntKind.wrap .u64 (x18.2.1.length : Int)) < 0) then false else false) then (
  rec18 (x18.1, (x18.2.1, 3)))
  else (
  rec18 (x18.1, (x18.2.1, 2))))
  else (
  bif (!decide (x18.2.2 = 0)) then (
  bif (bif decide ((IntKind.wrap .u64 (x18.2.1.length : Int)) < 0) then decide (x18.2.2 = 0) else false) then (
  rec18 (x18.1, (x18.2.1, 3)))
  else (
  bif decide (x18.2.2 = 0) then (
  bif inb 0 (x18.2.1.length + 1) then
  (F43 (x18.2.1.take ((0 : Int).toNat))).bind fun r21 =>
  bif decide ((x18.1.length + 1) * 32 ≤ LIM) then
  bif inb 0 (x18.2.1.length + 1) then
  rec18 ((x18.1 ++ ([(0, r21)])), (x18.2.1.drop ((0 : Int).toNat), x18.2.2))
  else none
  else none
  else none)
  else (
  rec18 (x18.1, (x18.2.1, x18.2.2)))))
  else (
  (F52 x18.2.1).bind fun r22 =>
  bif inb r22.2.1 (x18.2.1.length + 1) then
  bif (bif decide (4096 < r22.1) then decide (r22.2.2 = 0) else false) then (
  bif (bif decide ((IntKind.wrap .u64 ((x18.2.1.drop r22.2.1.toNat).length : Int)) < r22.1) then false else false) then (
  rec18 (x18.1, (x18.2.1.drop r22.2.1.toNat, 3)))
  else (
  rec18 (x18.1, (x18.2.1.drop r22.2.1.toNat, 4))))
  else (
  bif (bif decide ((IntKind.wrap .u64 ((x18.2.1.drop r22.2.1.toNat).length : Int)) < r22.1) then decide (r22.2.2 = 0) else false) then (
  rec18 (x18.1, (x18.2.1.drop r22.2.1.toNat, 3)))
  else (
  bif decide (r22.2.2 = 0) then (
  bif inb r22.1 ((x18.2.1.drop r22.2.1.toNat).length + 1) then
  (F43 ((x18.2.1.drop r22.2.1.toNat).take r22.1.toNat)).bind fun r23 =>
  bif decide ((x18.1.length + 1) * 32 ≤ LIM) then
  bif inb r22.1 ((x18.2.1.drop r22.2.1.toNat).length + 1) then
  rec18 ((x18.1 ++ ([(0, r23)])), ((x18.2.1.drop r22.2.1.toNat).drop r22.1.toNat, r22.2.2))
  else none
  else none
  else none)
  else (
  rec18 (x18.1, (x18.2.1.drop r22.2.1.toNat, r22.2.2)))))
  else none))
  else none)
  else (
  bif (!decide (x18.2.2 = 0)) then (
  bif (bif decide ((IntKind.wrap .u64 (x18.2.1.length : Int)) < 0) then decide (x18.2.2 = 0) else false) then (
  rec18 (x18.1, (x18.2.1, 3)))
  else (
  bif decide (x18.2.2 = 0) then (
  bif inb 0 (x18.2.1.length + 1) then
  (F43 (x18.2.1.take ((0 : Int).toNat))).bind fun r24 =>
  bif decide ((x18.1.length + 1) * 32 ≤ LIM) then
  bif inb 0 (x18.2.1.length + 1) then
  rec18 ((x18.1 ++ ([(0, r24)])), (x18.2.1.drop ((0 : Int).toNat), x18.2.2))
  else none
  else none
  else none)
  else (
  rec18 (x18.1, (x18.2.1, x18.2.2)))))
  else (
  (F52 x18.2.1).bind fun r25 =>
  bif inb r25.2.1 (x18.2.1.length + 1) then
  bif (bif decide (4096 < r25.1) then decide (r25.2.2 = 0) else false) then (
  bif (bif decide ((IntKind.wrap .u64 ((x18.2.1.drop r25.2.1.toNat).length : Int)) < r25.1) then false else false) then (
  rec18 (x18.1, (x18.2.1.drop r25.2.1.toNat, 3)))
  else (
  rec18 (x18.1, (x18.2.1.drop r25.2.1.toNat, 4))))
  else (
  bif (bif decide ((IntKind.wrap .u64 ((x18.2.1.drop r25.2.1.toNat).length : Int)) < r25.1) then decide (r25.2.2 = 0) else false) then (
  rec18 (x18.1, (x18.2.1.drop r25.2.1.toNat, 3)))
  else (
  bif decide (r25.2.2 = 0) then (
  bif inb r25.1 ((x18.2.1.drop r25.2.1.toNat).length + 1) then
  (F43 ((x18.2.1.drop r25.2.1.toNat).take r25.1.toNat)).bind fun r26 =>
  bif decide ((x18.1.length + 1) * 32 ≤ LIM) then
  bif inb r25.1 ((x18.2.1.drop r25.2.1.toNat).length + 1) then
  rec18 ((x18.1 ++ ([(0, r26)])), ((x18.2.1.drop r25.2.1.toNat).drop r25.1.toNat, r25.2.2))
  else none
  else none
  else none)
  else (
  rec18 (x18.1, (x18.2.1.drop r25.2.1.toNat, r25.2.2)))))
  else none)))
  else (
  (F52 x18.2.1).bind fun r27 =>
  bif inb r27.2.1 (x18.2.1.length + 1) then
  bif (decide (0 < (x18.1.length : Int)) == true) then (
  bif inb (if (IntKind.wrap .i64 ((x18.1.length : Int) - 1)) < 0 then 0 else (IntKind.wrap .i64 ((x18.1.length : Int) - 1))) x18.1.length then
  (F42 (((rd (.pair (.int .u64) (.slice 5 (.int .u8))) x18.1 (if (IntKind.wrap .i64 ((x18.1.length : Int) - 1)) < 0 then 0 else (IntKind.wrap .i64 ((x18.1.length : Int) - 1)))).1, (rd (.pair (.int .u64) (.slice 5 (.int .u8))) x18.1 (if (IntKind.wrap .i64 ((x18.1.length : Int) - 1)) < 0 then 0 else (IntKind.wrap .i64 ((x18.1.length : Int) - 1)))).2), r27.1)).bind fun r28 =>
  bif (bif decide (0 ≤ r28) then decide (r27.2.2 = 0) else false) then (
  bif (bif decide ((IntKind.wrap .u64 ((x18.2.1.drop r27.2.1.toNat).length : Int)) < 0) then false else false) then (
  rec18 (x18.1, (x18.2.1.drop r27.2.1.toNat, 3)))
  else (
  rec18 (x18.1, (x18.2.1.drop r27.2.1.toNat, 2))))
  else (
  bif (!decide (r27.2.2 = 0)) then (
  bif (bif decide ((IntKind.wrap .u64 ((x18.2.1.drop r27.2.1.toNat).length : Int)) < 0) then decide (r27.2.2 = 0) else false) then (
  rec18 (x18.1, (x18.2.1.drop r27.2.1.toNat, 3)))
  else (
  bif decide (r27.2.2 = 0) then (
  bif inb 0 ((x18.2.1.drop r27.2.1.toNat).length + 1) then
  (F43 ((x18.2.1.drop r27.2.1.toNat).take ((0 : Int).toNat))).bind fun r29 =>
  bif decide ((x18.1.length + 1) * 32 ≤ LIM) then
  bif inb 0 ((x18.2.1.drop r27.2.1.toNat).length + 1) then
  rec18 ((x18.1 ++ ([(r27.1, r29)])), ((x18.2.1.drop r27.2.1.toNat).drop ((0 : Int).toNat), r27.2.2))
  else none
  else none
  else none)
  else (
  rec18 (x18.1, (x18.2.1.drop r27.2.1.toNat, r27.2.2)))))
  else (
  (F52 (x18.2.1.drop r27.2.1.toNat)).bind fun r30 =>
  bif inb r30.2.1 ((x18.2.1.drop r27.2.1.toNat).length + 1) then
  bif (bif decide (4096 < r30.1) then decide (r30.2.2 = 0) else false) then (
  bif (bif decide ((IntKind.wrap .u64 (((x18.2.1.drop r27.2.1.toNat).drop r30.2.1.toNat).length : Int)) < r30.1) then false else false) then (
  rec18 (x18.1, ((x18.2.1.drop r27.2.1.toNat).drop r30.2.1.toNat, 3)))
  else (
  rec18 (x18.1, ((x18.2.1.drop r27.2.1.toNat).drop r30.2.1.toNat, 4))))
  else (
  bif (bif decide ((IntKind.wrap .u64 (((x18.2.1.drop r27.2.1.toNat).drop r30.2.1.toNat).length : Int)) < r30.1) then decide (r30.2.2 = 0) else false) then (
  rec18 (x18.1, ((x18.2.1.drop r27.2.1.toNat).drop r30.2.1.toNat, 3)))
  else (
  bif decide (r30.2.2 = 0) then (
  bif inb r30.1 (((x18.2.1.drop r27.2.1.toNat).drop r30.2.1.toNat).length + 1) then
  (F43 (((x18.2.1.drop r27.2.1.toNat).drop r30.2.1.toNat).take r30.1.toNat)).bind fun r31 =>
  bif decide ((x18.1.length + 1) * 32 ≤ LIM) then
  bif inb r30.1 (((x18.2.1.drop r27.2.1.toNat).drop r30.2.1.toNat).length + 1) then
  rec18 ((x18.1 ++ ([(r27.1, r31)])), (((x18.2.1.drop r27.2.1.toNat).drop r30.2.1.toNat).drop r30.1.toNat, r30.2.2))
  else none
  else none
  else none)
  else (
  rec18 (x18.1, ((x18.2.1.drop r27.2.1.toNat).drop r30.2.1.toNat, r30.2.2)))))
  else none))
  else none)
  else (
  bif (!decide (r27.2.2 = 0)) then (
  bif (bif decide ((IntKind.wrap .u64 ((x18.2.1.drop r27.2.1.toNat).length : Int)) < 0) then decide (r27.2.2 = 0) else false) then (
  rec18 (x18.1, (x18.2.1.drop r27.2.1.toNat, 3)))
  else (
  bif decide (r27.2.2 = 0) then (
  bif inb 0 ((x18.2.1.drop r27.2.1.toNat).length + 1) then
  (F43 ((x18.2.1.drop r27.2.1.toNat).take ((0 : Int).toNat))).bind fun r32 =>
  bif decide ((x18.1.length + 1) * 32 ≤ LIM) then
  bif inb 0 ((x18.2.1.drop r27.2.1.toNat).length + 1) then
  rec18 ((x18.1 ++ ([(r27.1, r32)])), ((x18.2.1.drop r27.2.1.toNat).drop ((0 : Int).toNat), r27.2.2))
  else none
  else none
  else none)
  else (
  rec18 (x18.1, (x18.2.1.drop r27.2.1.toNat, r27.2.2)))))
  else (
  (F52 (x18.2.1.drop r27.2.1.toNat)).bind fun r33 =>
  bif inb r33.2.1 ((x18.2.1.drop r27.2.1.toNat).length + 1) then
  bif (bif decide (4096 < r33.1) then decide (r33.2.2 = 0) else false) then (
  bif (bif decide ((IntKind.wrap .u64 (((x18.2.1.drop r27.2.1.toNat).drop r33.2.1.toNat).length : Int)) < r33.1) then false else false) then (
  rec18 (x18.1, ((x18.2.1.drop r27.2.1.toNat).drop r33.2.1.toNat, 3)))
  else (
  rec18 (x18.1, ((x18.2.1.drop r27.2.1.toNat).drop r33.2.1.toNat, 4))))
  else (
  bif (bif decide ((IntKind.wrap .u64 (((x18.2.1.drop r27.2.1.toNat).drop r33.2.1.toNat).length : Int)) < r33.1) then decide (r33.2.2 = 0) else false) then (
  rec18 (x18.1, ((x18.2.1.drop r27.2.1.toNat).drop r33.2.1.toNat, 3)))
  else (
  bif decide (r33.2.2 = 0) then (
  bif inb r33.1 (((x18.2.1.drop r27.2.1.toNat).drop r33.2.1.toNat).length + 1) then
  (F43 (((x18.2.1.drop r27.2.1.toNat).drop r33.2.1.toNat).take r33.1.toNat)).bind fun r34 =>
  bif decide ((x18.1.length + 1) * 32 ≤ LIM) then
  bif inb r33.1 (((x18.2.1.drop r27.2.1.toNat).drop r33.2.1.toNat).length + 1) then
  rec18 ((x18.1 ++ ([(r27.1, r34)])), (((x18.2.1.drop r27.2.1.toNat).drop r33.2.1.toNat).drop r33.1.toNat, r33.2.2))
  else none
  else none
  else none)
  else (
  rec18 (x18.1, ((x18.2.1.drop r27.2.1.toNat).drop r33.2.1.toNat, r33.2.2)))))
  else none))
  else none)))
  else (
  bif (!decide (x18.2.2 = 0)) then (
  some (([] : List (Int × List Int)), x18.2.2))
  else (
  some (x18.1, 0)))) (([] : List (Int × List Int)), (b, 0)))
theorem ev22 (b : List Int) : evF C48 H22 Try.f22 (encs [.oneA (.slice 5 (.int .u8))] b) (RT.dec (.tup [.leaf (.fresh 26 (.pair (.int .u64) (.slice 5 (.int .u8)))), .leaf (.int .i64)])) = F22 b := by kernel_rfl
noncomputable def C22 : Ctx := Ctx.addA C48 22 [.oneA (.slice 5 (.int .u8))] (.tup [.leaf (.fresh 26 (.pair (.int .u64) (.slice 5 (.int .u8)))), .leaf (.int .i64)]) F22
theorem s22 : C22.Sound := Ctx.Sound.addA (C := C48) mixed s48 Try.func22 ev22
/-! damson/damsonref01.long -/
def H71 : Nat → Head := fun _ => ⟨[], []⟩
noncomputable def F71 (b : Int) : Option Int :=
 bif decide (b < 253) then (
 some 1)
 else (
 bif decide (b = 253) then (
 some 3)
 else (
 bif decide (b = 254) then (
 some 5)
 else (
 some 9)))
theorem ev71 (b : Int) : evF C22 H71 Try.f71 (encs [.one (.int .u8)] b) (RT.dec (.one (.leaf (.int .i64)))) = F71 b := by kernel_rfl
noncomputable def C71 : Ctx := Ctx.add C22 71 [.one (.int .u8)] (.one (.leaf (.int .i64))) F71
theorem s71 : C71.Sound := Ctx.Sound.add (C := C22) mixed s22 Try.func71 ev71
/-! damson/damsonref01.Get -/
def H49 : Nat → Head
  | 8 => ⟨[.data 6 (.int .u64), .data 35 (.int .i64)], []⟩
  | 5000012 => ⟨[], [0, 0, 1, 1, 2, 2, 0, 0, 0, 0, 24, 24, 32, 32, 68, 68]⟩
  | _ => ⟨[], []⟩
noncomputable def F49 (b : List Int) : Option (Int × Int × Int) :=
 bif (decide ((b.length : Int) = 0) == false) then (
 bif inb 0 b.length then
 (F71 (rd (.int .u8) b 0)).bind fun r1 =>
 bif decide ((b.length : Int) < r1) then (
 some (0, 0, 3))
 else (
 bif inb 0 b.length then
 (F71 (rd (.int .u8) b 0)).bind fun r2 =>
 bif decide (r2 = 1) then (
 bif inb 0 b.length then
 bif (inb r2 (b.length + 1) && (decide (0 ≤ 1) && decide (1 ≤ r2))) then
 lfp (fun (rec3 : (Int × Int) → Option (Int × Int × Int)) (x3 : Int × Int) =>
  bif decide (x3.2 < (((b.take r2.toNat).drop ((1 : Int).toNat)).length : Int)) then (
  bif inb x3.2 ((b.take r2.toNat).drop ((1 : Int).toNat)).length then
  rec3 ((IntKind.wrap .u64 ((IntKind.wrap .u64 (256 * x3.1)) + (IntKind.wrap .u64 (rd (.int .u8) ((b.take r2.toNat).drop ((1 : Int).toNat)) x3.2)))), (IntKind.wrap .i64 (x3.2 + 1)))
  else none)
  else (
  bif inb r2 (b.length + 1) then
  (both (
  (F70 x3.1).bind fun r4 =>
  (fun o => both o o) (
  bif (!decide (r4 = (b.take r2.toNat))) then (
  some (0, 0, 2))
  else (
  some (x3.1, r2, 0)))) (
  (F70 x3.1).bind fun r4 =>
  bif (!decide (r4 = (b.take r2.toNat))) then (
  some (0, 0, 2))
  else (
  some (x3.1, r2, 0))))
  else none)) ((IntKind.wrap .u64 (rd (.int .u8) b 0)), 0)
 else none
 else none)
 else (
 bif (inb r2 (b.length + 1) && (decide (0 ≤ 1) && decide (1 ≤ r2))) then
 lfp (fun (rec5 : (Int × Int) → Option (Int × Int × Int)) (x5 : Int × Int) =>
  bif decide (x5.2 < (((b.take r2.toNat).drop ((1 : Int).toNat)).length : Int)) then (
  bif inb x5.2 ((b.take r2.toNat).drop ((1 : Int).toNat)).length then
  rec5 ((IntKind.wrap .u64 ((IntKind.wrap .u64 (256 * x5.1)) + (IntKind.wrap .u64 (rd (.int .u8) ((b.take r2.toNat).drop ((1 : Int).toNat)) x5.2)))), (IntKind.wrap .i64 (x5.2 + 1)))
  else none)
  else (
  bif inb r2 (b.length + 1) then
  (both (
  (F70 x5.1).bind fun r6 =>
  (fun o => both o o) (
  bif (!decide (r6 = (b.take r2.toNat))) then (
  some (0, 0, 2))
  else (
  some (x5.1, r2, 0)))) (
  (F70 x5.1).bind fun r6 =>
  bif (!decide (r6 = (b.take r2.toNat))) then (
  some (0, 0, 2))
  else (
  some (x5.1, r2, 0))))
  else none)) (0, 0)
 else none)
 else none)
 else none)
 else (
 some (0, 0, 3))
theorem ev49 (b : List Int) : evF C71 H49 Try.f49 (encs [.one (.slice 5 (.int .u8))] b) (RT.dec (.tup [.leaf (.int .u64), .leaf (.int .i64), .leaf (.int .i64)])) = F49 b := by kernel_rfl
noncomputable def C49 : Ctx := Ctx.add C71 49 [.one (.slice 5 (.int .u8))] (.tup [.leaf (.int .u64), .leaf (.int .i64), .leaf (.int .i64)]) F49
theorem s49 : C49.Sound := Ctx.Sound.add (C := C71) mixed s71 Try.func49 ev49
/-! damson/damsonref02.Get -/
def H23 : Nat → Head
  | 4 => ⟨[.dataA 0 (.slice 5 (.int .u8)), .row 2 10244 26 (.pair (.int .u64) (.slice 5 (.int .u8))), .data 3 (.int .i64), .row 4 18436 26 (.pair (.int .u64) (.slice 5 (.int .u8)))], []⟩
  | _ => ⟨[], []⟩
noncomputable def F23 (b : List Int) : Option ((List (Int × List Int)) × Int) :=
 bif decide (65535 < (b.length : Int)) then (
 some (([] : List (Int × List Int)), 4))
 else (
 lfp (fun (rec1 : (List Int × List (Int × List Int) × Int × List (Int × List Int)) → Option ((List (Int × List Int)) × Int)) (x1 : List Int × List (Int × List Int) × Int × List (Int × List Int)) =>
  bif decide (0 < (x1.1.length : Int)) then (
  bif decide ((x1.2.2.2.length : Int) = 64) then (
  some (([] : List (Int × List Int)), 4))
  else (
  (F49 x1.1).bind fun r2 =>
  bif (!decide (r2.2.2 = 0)) then (
  some (([] : List (Int × List Int)), r2.2.2))
  else (
  bif (decide (0 < (x1.2.2.2.length : Int)) == true) then (
  bif inb (IntKind.wrap .i64 ((x1.2.2.2.length : Int) - 1)) x1.2.2.2.length then
  bif decide (r2.1 ≤ (rd (.pair (.int .u64) (.slice 5 (.int .u8))) x1.2.2.2 (IntKind.wrap .i64 ((x1.2.2.2.length : Int) - 1))).1) then (
  some (([] : List (Int × List Int)), 2))
  else (
  bif inb r2.2.1 (x1.1.length + 1) then
  (F49 (x1.1.drop r2.2.1.toNat)).bind fun r3 =>
  bif (!decide (r3.2.2 = 0)) then (
  some (([] : List (Int × List Int)), r3.2.2))
  else (
  bif decide (4096 < r3.1) then (
  some (([] : List (Int × List Int)), 4))
  else (
  bif inb r3.2.1 ((x1.1.drop r2.2.1.toNat).length + 1) then
  bif decide ((((x1.1.drop r2.2.1.toNat).drop r3.2.1.toNat).length : Int) < (IntKind.wrap .i64 r3.1)) then (
  some (([] : List (Int × List Int)), 3))
  else (
  bif inb r3.1 (((x1.1.drop r2.2.1.toNat).drop r3.2.1.toNat).length + 1) then
  bif (!(((x1.1.drop r2.2.1.toNat).drop r3.2.1.toNat).take r3.1.toNat).isEmpty || true) then
  bif decide ((([] : List Int).length + (((x1.1.drop r2.2.1.toNat).drop r3.2.1.toNat).take r3.1.toNat).length) * 1 ≤ LIM) then
  bif decide ((x1.2.2.2.length + 1) * 32 ≤ LIM) then
  bif inb r3.1 (((x1.1.drop r2.2.1.toNat).drop r3.2.1.toNat).length + 1) then
  rec1 (((x1.1.drop r2.2.1.toNat).drop r3.2.1.toNat).drop r3.1.toNat, x1.2.1, x1.2.2.1, (x1.2.2.2 ++ ([(r2.1, ([] : List Int) ++ (((x1.1.drop r2.2.1.toNat).drop r3.2.1.toNat).take r3.1.toNat))])))
  else none
  else none
  else none
  else none
  else none)
  else none))
  else none)
  else none)
  else (
  bif inb r2.2.1 (x1.1.length + 1) then
  (F49 (x1.1.drop r2.2.1.toNat)).bind fun r4 =>
  bif (!decide (r4.2.2 = 0)) then (
  some (([] : List (Int × List Int)), r4.2.2))
  else (
  bif decide (4096 < r4.1) then (
  some (([] : List (Int × List Int)), 4))
  else (
  bif inb r4.2.1 ((x1.1.drop r2.2.1.toNat).length + 1) then
  bif decide ((((x1.1.drop r2.2.1.toNat).drop r4.2.1.toNat).length : Int) < (IntKind.wrap .i64 r4.1)) then (
  some (([] : List (Int × List Int)), 3))
  else (
  bif inb r4.1 (((x1.1.drop r2.2.1.toNat).drop r4.2.1.toNat).length + 1) then
  bif (!(((x1.1.drop r2.2.1.toNat).drop r4.2.1.toNat).take r4.1.toNat).isEmpty || true) then
  bif decide ((([] : List Int).length + (((x1.1.drop r2.2.1.toNat).drop r4.2.1.toNat).take r4.1.toNat).length) * 1 ≤ LIM) then
  bif decide ((x1.2.2.2.length + 1) * 32 ≤ LIM) then
  bif inb r4.1 (((x1.1.drop r2.2.1.toNat).drop r4.2.1.toNat).length + 1) then
  rec1 (((x1.1.drop r2.2.1.toNat).drop r4.2.1.toNat).drop r4.1.toNat, x1.2.1, x1.2.2.1, (x1.2.2.2 ++ ([(r2.1, ([] : List Int) ++ (((x1.1.drop r2.2.1.toNat).drop r4.2.1.toNat).take r4.1.toNat))])))
  else none
  else none
  else none
  else none
  else none)
  else none))
  else none))))
  else (
  some (x1.2.2.2, 0))) (b, ([] : List (Int × List Int)), 0, ([] : List (Int × List Int))))
theorem ev23 (b : List Int) : evF C49 H23 Try.f23 (encs [.oneA (.slice 5 (.int .u8))] b) (RT.dec (.tup [.leaf (.fresh 26 (.pair (.int .u64) (.slice 5 (.int .u8)))), .leaf (.int .i64)])) = F23 b := by kernel_rfl
noncomputable def C23 : Ctx := Ctx.addA C49 23 [.oneA (.slice 5 (.int .u8))] (.tup [.leaf (.fresh 26 (.pair (.int .u64) (.slice 5 (.int .u8)))), .leaf (.int .i64)]) F23
theorem s23 : C23.Sound := Ctx.Sound.addA (C := C49) mixed s49 Try.func23 ev23
/-! damson/damsonref02.Same -/
def H24 : Nat → Head
  | 4 => ⟨[.data 4 .bool, .data 13 (.int .i64)], []⟩
  | 5000006 => ⟨[], [0, 0, 0, 0, 3, 3, 4, 4, 8, 8, 0, 0, 0, 0, 96, 96, 128, 128, 256, 256, 528, 528, 1024, 1024, 2048, 2048, 2048, 2048, 14336, 14336, 18432, 18432, 34816, 34816, 2048, 2048, 2048, 2048, 395264, 395264, 526336, 526336, 1050624, 1050624, 2164736, 2164736, 4196352, 4196352, 8390656, 8390656]⟩
  | _ => ⟨[], []⟩
noncomputable def F24 (b : List (Int × List Int) × List (Int × List Int)) : Option Bool :=
 bif (!decide ((b.1.length : Int) = (b.2.length : Int))) then (
 some false)
 else (
 lfp (fun (rec1 : (Bool × Int) → Option Bool) (x1 : Bool × Int) =>
  bif decide (x1.2 < (b.1.length : Int)) then (
  bif inb x1.2 b.1.length then
  bif inb x1.2 b.2.length then
  bif ((!decide ((rd (.pair (.int .u64) (.slice 5 (.int .u8))) b.1 x1.2).1 = (rd (.pair (.int .u64) (.slice 5 (.int .u8))) b.2 x1.2).1)) == false) then (
  bif inb x1.2 b.1.length then
  bif inb x1.2 b.2.length then
  (F18 ((rd (.pair (.int .u64) (.slice 5 (.int .u8))) b.1 x1.2).2, (rd (.pair (.int .u64) (.slice 5 (.int .u8))) b.2 x1.2).2)).bind fun r2 =>
  bif (!r2) then (
  some false)
  else (
  rec1 (x1.1, (IntKind.wrap .i64 (x1.2 + 1))))
  else none
  else none)
  else (
  (both (
  (both (
  some false) (
  (fun o => both o o) (
  some false)))) (
  (both (
  (fun o => both o o) (
  some false)) (
  some false)))))
  else none
  else none)
  else (
  some true)) (false, 0))
theorem ev24 (b : List (Int × List Int) × List (Int × List Int)) : evF C23 H24 Try.f24 (encs [.one (.slice 26 (.pair (.int .u64) (.slice 5 (.int .u8)))), .one (.slice 26 (.pair (.int .u64) (.slice 5 (.int .u8))))] b) (RT.dec (.one (.leaf (.bool)))) = F24 b := by kernel_rfl
noncomputable def C24 : Ctx := Ctx.add C23 24 [.one (.slice 26 (.pair (.int .u64) (.slice 5 (.int .u8)))), .one (.slice 26 (.pair (.int .u64) (.slice 5 (.int .u8))))] (.one (.leaf (.bool))) F24
theorem s24 : C24.Sound := Ctx.Sound.add (C := C23) mixed s23 Try.func24 ev24
/-! damson/damsonlaw02.TlvDoes -/
def H5 : Nat → Head
  | 12 => ⟨[.data 102 (.int .i64)], [258048, 217088, 196608]⟩
  | 15 => ⟨[.data 111 (.int .i64)], [258048, 217088, 196608]⟩
  | 7000012 => ⟨[], [1]⟩
  | 9000000 => ⟨[], [1]⟩
  | 4000000 => ⟨[], [1099511627834]⟩
  | _ => ⟨[], []⟩
noncomputable def F5 (b : List (Int × List Int) × List (Int × List Int) × List Int) : Option Bool :=
 (F13 ()).bind fun r1 =>
 bif (!r1) then (
 some false)
 else (
 (F14 b.1).bind fun r2 =>
 bif ((!r2) == false) then (
 (F14 b.2.1).bind fun r3 =>
 bif ((!r3) == false) then (
 bif (bif (bif decide (5000 < (b.2.2.length : Int)) then decide ((b.2.2.length : Int) ≤ 65535) else false) then true else decide (65540 < (b.2.2.length : Int))) then (
 some true)
 else (
 (F20 b.1).bind fun r4 =>
 (F21 b.1).bind fun r5 =>
 (F22 b.2.2).bind fun r6 =>
 (F23 b.2.2).bind fun r7 =>
 (F18 (r4.1, r5.1)).bind fun r8 =>
 bif ((bif r8 then decide (r4.2 = r5.2) else false) == true) then (
 (F24 (r6.1, r7.1)).bind fun r9 =>
 bif ((bif r9 then decide (r6.2 = r7.2) else false) == true) then (
 (F19 b.1).bind fun r10 =>
 (F25 b.1).bind fun r11 =>
 bif (decide (r10 = r11) == true) then (
 (F16 (b.1, b.2.1)).bind fun r12 =>
 (F24 (b.1, b.2.1)).bind fun r13 =>
 lfp (fun (rec14 : Int → Option Bool) (x14 : Int) =>
  bif decide (x14 < (r6.1.length : Int)) then (
  bif inb x14 r6.1.length then
  lfp (fun (rec15 : Int → Option Bool) (x15 : Int) =>
   bif decide (x15 < (((rd (.pair (.int .u64) (.slice 5 (.int .u8))) r6.1 x14).2).length : Int)) then (
   bif inb x14 r6.1.length then
   bif inb x15 ((rd (.pair (.int .u64) (.slice 5 (.int .u8))) r6.1 x14).2).length then
   bif inb x15 ((rd (.pair (.int .u64) (.slice 5 (.int .u8))) r6.1 x14).2).length then
   rec15 (IntKind.wrap .i64 (x15 + 1))
   else none
   else none
   else none)
   else (
   rec14 (IntKind.wrap .i64 (x14 + 1)))) 0
  else none)
  else (
  bif ((r12 == r13) == true) then (
  some (decide (b.2.2 = b.2.2)))
  else (
  some false))) 0)
 else (
 lfp (fun (rec16 : Int → Option Bool) (x16 : Int) =>
  bif decide (x16 < (r6.1.length : Int)) then (
  bif inb x16 r6.1.length then
  lfp (fun (rec17 : Int → Option Bool) (x17 : Int) =>
   bif decide (x17 < (((rd (.pair (.int .u64) (.slice 5 (.int .u8))) r6.1 x16).2).length : Int)) then (
   bif inb x16 r6.1.length then
   bif inb x17 ((rd (.pair (.int .u64) (.slice 5 (.int .u8))) r6.1 x16).2).length then
   bif inb x17 ((rd (.pair (.int .u64) (.slice 5 (.int .u8))) r6.1 x16).2).length then
   rec17 (IntKind.wrap .i64 (x17 + 1))
   else none
   else none
   else none)
   else (
   rec16 (IntKind.wrap .i64 (x16 + 1)))) 0
  else none)
  else (
  some false)) 0))
 else (
 lfp (fun (rec18 : Int → Option Bool) (x18 : Int) =>
  bif decide (x18 < (r6.1.length : Int)) then (
  bif inb x18 r6.1.length then
  lfp (fun (rec19 : Int → Option Bool) (x19 : Int) =>
   bif decide (x19 < (((rd (.pair (.int .u64) (.slice 5 (.int .u8))) r6.1 x18).2).length : Int)) then (
   bif inb x18 r6.1.length then
   bif inb x19 ((rd (.pair (.int .u64) (.slice 5 (.int .u8))) r6.1 x18).2).length then
   bif inb x19 ((rd (.pair (.int .u64) (.slice 5 (.int .u8))) r6.1 x18).2).length then
   rec19 (IntKind.wrap .i64 (x19 + 1))
   else none
   else none
   else none)
   else (
   rec18 (IntKind.wrap .i64 (x18 + 1)))) 0
  else none)
  else (
  some false)) 0))
 else (
 lfp (fun (rec20 : Int → Option Bool) (x20 : Int) =>
  bif decide (x20 < (r6.1.length : Int)) then (
  bif inb x20 r6.1.length then
  lfp (fun (rec21 : Int → Option Bool) (x21 : Int) =>
   bif decide (x21 < (((rd (.pair (.int .u64) (.slice 5 (.int .u8))) r6.1 x20).2).length : Int)) then (
   bif inb x20 r6.1.length then
   bif inb x21 ((rd (.pair (.int .u64) (.slice 5 (.int .u8))) r6.1 x20).2).length then
   bif inb x21 ((rd (.pair (.int .u64) (.slice 5 (.int .u8))) r6.1 x20).2).length then
   rec21 (IntKind.wrap .i64 (x21 + 1))
   else none
   else none
   else none)
   else (
   rec20 (IntKind.wrap .i64 (x20 + 1)))) 0
  else none)
  else (
  some false)) 0)))
 else (
 some true))
 else (
 some true))
theorem ev5 (b : List (Int × List Int) × List (Int × List Int) × List Int) : evF C24 H5 Try.f5 (encs [.one (.slice 26 (.pair (.int .u64) (.slice 5 (.int .u8)))), .one (.slice 26 (.pair (.int .u64) (.slice 5 (.int .u8)))), .one (.slice 5 (.int .u8))] b) (RT.dec (.one (.leaf (.bool)))) = F5 b := by kernel_rfl
noncomputable def C5 : Ctx := Ctx.add C24 5 [.one (.slice 26 (.pair (.int .u64) (.slice 5 (.int .u8)))), .one (.slice 26 (.pair (.int .u64) (.slice 5 (.int .u8)))), .one (.slice 5 (.int .u8))] (.one (.leaf (.bool))) F5
theorem s5 : C5.Sound := Ctx.Sound.add (C := C24) mixed s24 Try.func5 ev5
/-! damson/damsonref02.Find -/
def H27 : Nat → Head
  | 4 => ⟨[.row 4 18436 5 (.int .u8), .data 5 (.int .i64), .data 13 (.int .i64)], []⟩
  | _ => ⟨[], []⟩
noncomputable def F27 (b : List (Int × List Int) × Int) : Option (List Int × Int) :=
 (F25 b.1).bind fun r1 =>
 bif (!decide (r1 = 0)) then (
 some (([] : List Int), 1))
 else (
 lfp (fun (rec2 : (List Int × Int × Int) → Option (List Int × Int)) (x2 : List Int × Int × Int) =>
  bif decide (x2.2.2 < (b.1.length : Int)) then (
  bif inb x2.2.2 b.1.length then
  bif decide ((rd (.pair (.int .u64) (.slice 5 (.int .u8))) b.1 x2.2.2).1 = b.2) then (
  bif (!((rd (.pair (.int .u64) (.slice 5 (.int .u8))) b.1 x2.2.2).2).isEmpty || true) then
  bif decide ((([] : List Int).length + ((rd (.pair (.int .u64) (.slice 5 (.int .u8))) b.1 x2.2.2).2).length) * 1 ≤ LIM) then
  some (([] : List Int) ++ ((rd (.pair (.int .u64) (.slice 5 (.int .u8))) b.1 x2.2.2).2), 0)
  else none
  else none)
  else (
  rec2 (x2.1, x2.2.1, (IntKind.wrap .i64 (x2.2.2 + 1))))
  else none)
  else (
  some (([] : List Int), 5))) (([] : List Int), 0, 0))
theorem ev27 (b : List (Int × List Int) × Int) : evF C5 H27 Try.f27 (encs [.oneA (.slice 26 (.pair (.int .u64) (.slice 5 (.int .u8)))), .one (.int .u64)] b) (RT.dec (.tup [.leaf (.fresh 5 (.int .u8)), .leaf (.int .i64)])) = F27 b := by kernel_rfl
noncomputable def C27 : Ctx := Ctx.addA C5 27 [.oneA (.slice 26 (.pair (.int .u64) (.slice 5 (.int .u8)))), .one (.int .u64)] (.tup [.leaf (.fresh 5 (.int .u8)), .leaf (.int .i64)]) F27
theorem s27 : C27.Sound := Ctx.Sound.addA (C := C5) mixed s5 Try.func27 ev27
/-! damson/tlv.Number -/
def H28 : Nat → Head := fun _ => ⟨[], []⟩
noncomputable def F28 (b : List (Int × List Int) × Int) : Option (Int × Int) :=
 (F17 (b.1, b.2)).bind fun r1 =>
 bif (!decide (r1.2 = 0)) then (
 some (0, r1.2))
 else (
 (F52 r1.1).bind fun r2 =>
 bif (!decide (r2.2.2 = 0)) then (
 some (0, r2.2.2))
 else (
 bif decide (r2.2.1 < (r1.1.length : Int)) then (
 some (0, 2))
 else (
 some (r2.1, 0))))
theorem ev28 (b : List (Int × List Int) × Int) : evF C27 H28 Try.f28 (encs [.one (.slice 26 (.pair (.int .u64) (.slice 5 (.int .u8)))), .one (.int .u64)] b) (RT.dec (.tup [.leaf (.int .u64), .leaf (.int .i64)])) = F28 b := by kernel_rfl
noncomputable def C28 : Ctx := Ctx.add C27 28 [.one (.slice 26 (.pair (.int .u64) (.slice 5 (.int .u8)))), .one (.int .u64)] (.tup [.leaf (.int .u64), .leaf (.int .i64)]) F28
theorem s28 : C28.Sound := Ctx.Sound.add (C := C27) mixed s27 Try.func28 ev28
/-! damson/damsonref02.Number -/
def H29 : Nat → Head := fun _ => ⟨[], []⟩
noncomputable def F29 (b : List (Int × List Int) × Int) : Option (Int × Int) :=
 (F27 (b.1, b.2)).bind fun r1 =>
 bif (!decide (r1.2 = 0)) then (
 some (0, r1.2))
 else (
 (F49 r1.1).bind fun r2 =>
 bif (!decide (r2.2.2 = 0)) then (
 some (0, r2.2.2))
 else (
 bif (!decide (r2.2.1 = (r1.1.length : Int))) then (
 some (0, 2))
 else (
 some (r2.1, 0))))
theorem ev29 (b : List (Int × List Int) × Int) : evF C28 H29 Try.f29 (encs [.one (.slice 26 (.pair (.int .u64) (.slice 5 (.int .u8)))), .one (.int .u64)] b) (RT.dec (.tup [.leaf (.int .u64), .leaf (.int .i64)])) = F29 b := by kernel_rfl
noncomputable def C29 : Ctx := Ctx.add C28 29 [.one (.slice 26 (.pair (.int .u64) (.slice 5 (.int .u8)))), .one (.int .u64)] (.tup [.leaf (.int .u64), .leaf (.int .i64)]) F29
theorem s29 : C29.Sound := Ctx.Sound.add (C := C28) mixed s28 Try.func29 ev29
/-! damson/damsonref02.With -/
def H30 : Nat → Head
  | 5 => ⟨[.row 6 26629 26 (.pair (.int .u64) (.slice 5 (.int .u8))), .data 22 (.int .i64)], [12288]⟩
  | 12 => ⟨[.row 6 26636 26 (.pair (.int .u64) (.slice 5 (.int .u8))), .data 47 (.int .i64)], [176128, 167936, 12288]⟩
  | 5000010 => ⟨[], [0, 0, 0, 0, 2, 2, 0, 0, 8, 8, 16, 16, 36, 36, 64, 64, 161, 129, 511, 257]⟩
  | _ => ⟨[], []⟩
noncomputable def F30 (b : List (Int × List Int) × (Int × List Int)) : Option ((List (Int × List Int)) × Int) :=
 (F25 b.1).bind fun r1 =>
 bif (bif (!decide (r1 = 0)) then true else decide (4096 < (b.2.2.length : Int))) then (
 some (([] : List (Int × List Int)), 1))
 else (
 lfp (fun (rec2 : (List (Int × List Int) × Int) → Option ((List (Int × List Int)) × Int)) (x2 : List (Int × List Int) × Int) =>
  bif decide (x2.2 < (b.1.length : Int)) then (
  bif inb x2.2 b.1.length then
  bif decide ((rd (.pair (.int .u64) (.slice 5 (.int .u8))) b.1 x2.2).1 < b.2.1) then (
  bif decide ((x2.1.length + 1) * 32 ≤ LIM) then
  rec2 ((x2.1 ++ ([((rd (.pair (.int .u64) (.slice 5 (.int .u8))) b.1 x2.2).1, (rd (.pair (.int .u64) (.slice 5 (.int .u8))) b.1 x2.2).2)])), (IntKind.wrap .i64 (x2.2 + 1)))
  else none)
  else (
  rec2 (x2.1, (IntKind.wrap .i64 (x2.2 + 1))))
  else none)
  else (
  (both (
  bif (!b.2.2.isEmpty || true) then
  bif decide ((([] : List Int).length + b.2.2.length) * 1 ≤ LIM) then
  bif decide ((x2.1.length + 1) * 32 ≤ LIM) then
  lfp (fun (rec3 : (List (Int × List Int) × Int) → Option ((List (Int × List Int)) × Int)) (x3 : List (Int × List Int) × Int) =>
   bif decide (x3.2 < (b.1.length : Int)) then (
   bif inb x3.2 b.1.length then
   bif decide (b.2.1 < (rd (.pair (.int .u64) (.slice 5 (.int .u8))) b.1 x3.2).1) then (
   bif decide ((x3.1.length + 1) * 32 ≤ LIM) then
   rec3 ((x3.1 ++ ([((rd (.pair (.int .u64) (.slice 5 (.int .u8))) b.1 x3.2).1, (rd (.pair (.int .u64) (.slice 5 (.int .u8))) b.1 x3.2).2)])), (IntKind.wrap .i64 (x3.2 + 1)))
   else none)
   else (
   rec3 (x3.1, (IntKind.wrap .i64 (x3.2 + 1))))
   else none)
   else (
   bif decide (64 < (x3.1.length : Int)) then (
   some (([] : List (Int × List Int)), 7))
   else (
   some (x3.1, 0)))) ((x2.1 ++ ([(b.2.1, ([] : List Int) ++ b.2.2)])), 0)
  else none
  else none
  else none) (
  (fun o => both o o) (
  bif (!b.2.2.isEmpty || true) then
  bif decide ((([] : List Int).length + b.2.2.length) * 1 ≤ LIM) then
  bif decide ((x2.1.length + 1) * 32 ≤ LIM) then
  lfp (fun (rec3 : (List (Int × List Int) × Int) → Option ((List (Int × List Int)) × Int)) (x3 : List (Int × List Int) × Int) =>
   bif decide (x3.2 < (b.1.length : Int)) then (
   bif inb x3.2 b.1.length then
   bif decide (b.2.1 < (rd (.pair (.int .u64) (.slice 5 (.int .u8))) b.1 x3.2).1) then (
   bif decide ((x3.1.length + 1) * 32 ≤ LIM) then
   rec3 ((x3.1 ++ ([((rd (.pair (.int .u64) (.slice 5 (.int .u8))) b.1 x3.2).1, (rd (.pair (.int .u64) (.slice 5 (.int .u8))) b.1 x3.2).2)])), (IntKind.wrap .i64 (x3.2 + 1)))
   else none)
   else (
   rec3 (x3.1, (IntKind.wrap .i64 (x3.2 + 1))))
   else none)
   else (
   bif decide (64 < (x3.1.length : Int)) then (
   some (([] : List (Int × List Int)), 7))
   else (
   some (x3.1, 0)))) ((x2.1 ++ ([(b.2.1, ([] : List Int) ++ b.2.2)])), 0)
  else none
  else none
  else none))))) (([] : List (Int × List Int)), 0))
theorem ev30 (b : List (Int × List Int) × (Int × List Int)) : evF C29 H30 Try.f30 (encs [.one (.slice 26 (.pair (.int .u64) (.slice 5 (.int .u8)))), .agg (.pair (.int .u64) (.slice 5 (.int .u8)))] b) (RT.dec (.tup [.leaf (.fresh 26 (.pair (.int .u64) (.slice 5 (.int .u8)))), .leaf (.int .i64)])) = F30 b := by kernel_rfl
noncomputable def C30 : Ctx := Ctx.add C29 30 [.one (.slice 26 (.pair (.int .u64) (.slice 5 (.int .u8)))), .agg (.pair (.int .u64) (.slice 5 (.int .u8)))] (.tup [.leaf (.fresh 26 (.pair (.int .u64) (.slice 5 (.int .u8)))), .leaf (.int .i64)]) F30
theorem s30 : C30.Sound := Ctx.Sound.add (C := C29) mixed s29 Try.func30 ev30
/-! damson/damsonlaw02.TlvFinds -/
def H8 : Nat → Head
  | 14 => ⟨[.data 117 (.int .i64)], [331776, 233472, 208896, 16384]⟩
  | 17 => ⟨[.data 126 (.int .i64)], [331776, 233472, 208896, 16384]⟩
  | 7000014 => ⟨[], [1]⟩
  | 9000000 => ⟨[], [1]⟩
  | 4000000 => ⟨[], [1099511627851]⟩
  | _ => ⟨[], []⟩
noncomputable def F8 (b : List (Int × List Int) × (Int × List Int) × Int) : Option Bool :=
 (F13 ()).bind fun r1 =>
 bif (!r1) then (
 some false)
 else (
 (F14 b.1).bind fun r2 =>
 bif ((!r2) == false) then (
 bif (bif (bif decide (100 < (b.2.1.2.length : Int)) then decide ((b.2.1.2.length : Int) ≤ 4096) else false) then true else decide (4100 < (b.2.1.2.length : Int))) then (
 some true)
 else (
 (F17 (b.1, b.2.2)).bind fun r3 =>
 (F27 (b.1, b.2.2)).bind fun r4 =>
 (F28 (b.1, b.2.2)).bind fun r5 =>
 (F29 (b.1, b.2.2)).bind fun r6 =>
 (F15 (b.1, (b.2.1.1, b.2.1.2))).bind fun r7 =>
 (F30 (b.1, (b.2.1.1, b.2.1.2))).bind fun r8 =>
 (F18 (r3.1, r4.1)).bind fun r9 =>
 bif ((bif (bif (bif r9 then decide (r3.2 = r4.2) else false) then decide (r5.1 = r6.1) else false) then decide (r5.2 = r6.2) else false) == true) then (
 (F24 (r7.1, r8.1)).bind fun r10 =>
 lfp (fun (rec11 : Int → Option Bool) (x11 : Int) =>
  bif decide (x11 < (r7.1.length : Int)) then (
  bif inb x11 r7.1.length then
  lfp (fun (rec12 : Int → Option Bool) (x12 : Int) =>
   bif decide (x12 < (((rd (.pair (.int .u64) (.slice 5 (.int .u8))) r7.1 x11).2).length : Int)) then (
   bif inb x11 r7.1.length then
   bif inb x12 ((rd (.pair (.int .u64) (.slice 5 (.int .u8))) r7.1 x11).2).length then
   bif inb x12 ((rd (.pair (.int .u64) (.slice 5 (.int .u8))) r7.1 x11).2).length then
   rec12 (IntKind.wrap .i64 (x12 + 1))
   else none
   else none
   else none)
   else (
   rec11 (IntKind.wrap .i64 (x11 + 1)))) 0
  else none)
  else (
  (F17 (b.1, b.2.2)).bind fun r13 =>
  bif ((bif r10 then decide (r7.2 = r8.2) else false) == true) then (
  bif (decide (b.2.1.2 = b.2.1.2) == true) then (
  (F18 (r13.1, r4.1)).bind fun r14 =>
  some (bif r14 then decide (r13.2 = r4.2) else false))
  else (
  some false))
  else (
  some false))) 0)
 else (
 lfp (fun (rec15 : Int → Option Bool) (x15 : Int) =>
  bif decide (x15 < (r7.1.length : Int)) then (
  bif inb x15 r7.1.length then
  lfp (fun (rec16 : Int → Option Bool) (x16 : Int) =>
   bif decide (x16 < (((rd (.pair (.int .u64) (.slice 5 (.int .u8))) r7.1 x15).2).length : Int)) then (
   bif inb x15 r7.1.length then
   bif inb x16 ((rd (.pair (.int .u64) (.slice 5 (.int .u8))) r7.1 x15).2).length then
   bif inb x16 ((rd (.pair (.int .u64) (.slice 5 (.int .u8))) r7.1 x15).2).length then
   rec16 (IntKind.wrap .i64 (x16 + 1))
   else none
   else none
   else none)
   else (
   rec15 (IntKind.wrap .i64 (x15 + 1)))) 0
  else none)
  else (
  (F17 (b.1, b.2.2)).bind fun r17 =>
  some false)) 0)))
 else (
 some true))
theorem ev8 (b : List (Int × List Int) × (Int × List Int) × Int) : evF C30 H8 Try.f8 (encs [.one (.slice 26 (.pair (.int .u64) (.slice 5 (.int .u8)))), .agg (.pair (.int .u64) (.slice 5 (.int .u8))), .one (.int .u64)] b) (RT.dec (.one (.leaf (.bool)))) = F8 b := by kernel_rfl
noncomputable def C8 : Ctx := Ctx.add C30 8 [.one (.slice 26 (.pair (.int .u64) (.slice 5 (.int .u8)))), .agg (.pair (.int .u64) (.slice 5 (.int .u8))), .one (.int .u64)] (.one (.leaf (.bool))) F8
theorem s8 : C8.Sound := Ctx.Sound.add (C := C30) mixed s30 Try.func8 ev8
end Go.Proofs.Ytacebemdonoliaa.R4
