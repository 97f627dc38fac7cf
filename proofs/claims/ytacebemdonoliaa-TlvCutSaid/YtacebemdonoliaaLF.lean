/- Part of a proof: what the program's functions come to. -/
import Derived.Test.YtacebemdonoliaaFwCtx
import Derived.Test.YtacebemdonoliaaProg
import Derived.KernelRfl
set_option linter.unusedVariables false
set_option linter.unusedSimpArgs false
set_option maxRecDepth 100000
namespace Go.Proofs.Ytacebemdonoliaa.R4
open Go Go.Fw Go.Proofs
noncomputable def C_ : Ctx := Ctx.nil Try.prog
theorem s_ : C_.Sound := Ctx.nil_sound _
theorem mixed : Try.prog.follows .mixedOrders = true := by kernel_rfl
/-! cmp.isNaN[uint64] -/
def H86 : Nat → Head := fun _ => ⟨[], []⟩
noncomputable def F86 (b : Int) : Option Bool :=
 some (!decide (b = b))
theorem ev86 (b : Int) : evF C_ H86 Try.f86 (encs [.one (.int .u64)] b) (RT.dec (.one (.leaf (.bool)))) = F86 b := by kernel_rfl
noncomputable def C86 : Ctx := Ctx.add C_ 86 [.one (.int .u64)] (.one (.leaf (.bool))) F86
theorem s86 : C86.Sound := Ctx.Sound.add (C := C_) mixed s_ Try.func86 ev86
/-! cmp.Compare[uint64] -/
def H69 : Nat → Head := fun _ => ⟨[], []⟩
noncomputable def F69 (b : Int × Int) : Option Int :=
 (F86 b.1).bind fun r1 =>
 (F86 b.2).bind fun r2 =>
 bif r1 then (
 bif r2 then (
 some 0)
 else (
 some (-1)))
 else (
 bif r2 then (
 some 1)
 else (
 bif decide (b.1 < b.2) then (
 some (-1))
 else (
 bif decide (b.2 < b.1) then (
 some 1)
 else (
 some 0))))
theorem ev69 (b : Int × Int) : evF C86 H69 Try.f69 (encs [.one (.int .u64), .one (.int .u64)] b) (RT.dec (.one (.leaf (.int .i64)))) = F69 b := by kernel_rfl
noncomputable def C69 : Ctx := Ctx.add C86 69 [.one (.int .u64), .one (.int .u64)] (.one (.leaf (.int .i64))) F69
theorem s69 : C69.Sound := Ctx.Sound.add (C := C86) mixed s86 Try.func69 ev69
/-! damson/tlv.order -/
def H42 : Nat → Head := fun _ => ⟨[], []⟩
noncomputable def F42 (b : (Int × List Int) × Int) : Option Int :=
 (F69 (b.1.1, b.2)).bind fun r1 =>
 some r1
theorem ev42 (b : (Int × List Int) × Int) : evF C69 H42 Try.f42 (encs [.agg (.pair (.int .u64) (.slice 5 (.int .u8))), .one (.int .u64)] b) (RT.dec (.one (.leaf (.int .i64)))) = F42 b := by kernel_rfl
noncomputable def C42 : Ctx := Ctx.add C69 42 [.agg (.pair (.int .u64) (.slice 5 (.int .u8))), .one (.int .u64)] (.one (.leaf (.int .i64))) F42
theorem s42 : C42.Sound := Ctx.Sound.add (C := C69) mixed s69 Try.func42 ev42
/-! damson/tlv.Check -/
def H19 : Nat → Head
  | 4 => ⟨[.data 2 (.int .i64), .data 10 (.int .i64)], []⟩
  | 5000006 => ⟨[], [0, 0, 1, 1, 2, 2, 4, 4, 8, 8, 16, 16, 48, 48, 80, 80, 128, 128, 128, 128, 640, 640, 1408, 1408, 2176, 2176, 128, 128, 8320, 8320, 20608, 20608, 32896, 32896, 65680, 65680, 131088, 131088]⟩
  | _ => ⟨[], []⟩
noncomputable def F19 (b : List (Int × List Int)) : Option Int :=
 bif decide (64 < (b.length : Int)) then (
 some 1)
 else (
 lfp (fun (rec1 : (Int × Int) → Option Int) (x1 : Int × Int) =>
  bif decide (x1.2 < (b.length : Int)) then (
  bif inb x1.2 b.length then
  bif (decide (4096 < (((rd (.pair (.int .u64) (.slice 5 (.int .u8))) b x1.2).2).length : Int)) == false) then (
  bif (decide (0 < x1.2) == true) then (
  bif inb (IntKind.wrap .i64 (x1.2 - 1)) b.length then
  (F42 (((rd (.pair (.int .u64) (.slice 5 (.int .u8))) b (IntKind.wrap .i64 (x1.2 - 1))).1, (rd (.pair (.int .u64) (.slice 5 (.int .u8))) b (IntKind.wrap .i64 (x1.2 - 1))).2), (rd (.pair (.int .u64) (.slice 5 (.int .u8))) b x1.2).1)).bind fun r2 =>
  bif decide (0 ≤ r2) then (
  some 1)
  else (
  rec1 (x1.1, (IntKind.wrap .i64 (x1.2 + 1))))
  else none)
  else (
  (fun o => both o o) (
  rec1 (x1.1, (IntKind.wrap .i64 (x1.2 + 1))))))
  else (
  (fun o => both o o) (
  some 1))
  else none)
  else (
  some 0)) (0, 0))
theorem ev19 (b : List (Int × List Int)) : evF C42 H19 Try.f19 (encs [.one (.slice 26 (.pair (.int .u64) (.slice 5 (.int .u8))))] b) (RT.dec (.one (.leaf (.int .i64)))) = F19 b := by kernel_rfl
noncomputable def C19 : Ctx := Ctx.add C42 19 [.one (.slice 26 (.pair (.int .u64) (.slice 5 (.int .u8))))] (.one (.leaf (.int .i64))) F19
theorem s19 : C19.Sound := Ctx.Sound.add (C := C42) mixed s42 Try.func19 ev19
/-! damson/bigsize.first -/
def H50 : Nat → Head := fun _ => ⟨[], []⟩
noncomputable def F50 (b : Int) : Option Int :=
 bif decide (b < 253) then (
 some (IntKind.wrap .u8 b))
 else (
 bif decide (b < 65536) then (
 some 253)
 else (
 bif decide (b < 4294967296) then (
 some 254)
 else (
 some 255)))
theorem ev50 (b : Int) : evF C19 H50 Try.f50 (encs [.one (.int .u64)] b) (RT.dec (.one (.leaf (.int .u8)))) = F50 b := by kernel_rfl
noncomputable def C50 : Ctx := Ctx.add C19 50 [.one (.int .u64)] (.one (.leaf (.int .u8))) F50
theorem s50 : C50.Sound := Ctx.Sound.add (C := C19) mixed s19 Try.func50 ev50
/-! damson/bigsize.wide -/
def H51 : Nat → Head := fun _ => ⟨[], []⟩
noncomputable def F51 (b : Int) : Option Int :=
 bif decide (b < 253) then (
 some 0)
 else (
 some (IntKind.wrap .i64 (2 * 2 ^ (min (IntKind.wrap .u8 (b - 253)).toNat 64))))
theorem ev51 (b : Int) : evF C50 H51 Try.f51 (encs [.one (.int .u8)] b) (RT.dec (.one (.leaf (.int .i64)))) = F51 b := by kernel_rfl
noncomputable def C51 : Ctx := Ctx.add C50 51 [.one (.int .u8)] (.one (.leaf (.int .i64))) F51
theorem s51 : C51.Sound := Ctx.Sound.add (C := C50) mixed s50 Try.func51 ev51
/-! damson/bigsize.Put -/
def H26 : Nat → Head
  | 3 => ⟨[.row 3 14339 5 (.int .u8), .data 10 (.int .i64)], []⟩
  | 8 => ⟨[.row 3 14344 5 (.int .u8), .data 22 (.int .i64)], [73728]⟩
  | _ => ⟨[], []⟩
noncomputable def F26 (b : List Int) : Option (List Int) :=
 lfp (fun (rec1 : (List Int × Int) → Option (List Int)) (x1 : List Int × Int) =>
  bif decide (x1.2 < (b.length : Int)) then (
  bif inb x1.2 b.length then
  (F50 (rd (.int .u64) b x1.2)).bind fun r2 =>
  bif decide ((x1.1.length + 1) * 1 ≤ LIM) then
  (F51 r2).bind fun r3 =>
  lfp (fun (rec4 : (List Int × Int) → Option (List Int)) (x4 : List Int × Int) =>
   bif decide (x4.2 < r3) then (
   (F51 r2).bind fun r5 =>
   bif decide (0 ≤ (IntKind.wrap .i64 (8 * (IntKind.wrap .i64 ((IntKind.wrap .i64 (r5 - 1)) - x4.2))))) then
   bif decide ((x4.1.length + 1) * 1 ≤ LIM) then
   rec4 ((x4.1 ++ ([(IntKind.wrap .u8 ((rd (.int .u64) b x1.2) / 2 ^ (min (IntKind.wrap .i64 (8 * (IntKind.wrap .i64 ((IntKind.wrap .i64 (r5 - 1)) - x4.2)))).toNat 64)))])), (IntKind.wrap .i64 (x4.2 + 1)))
   else none
   else none)
   else (
   rec1 (x4.1, (IntKind.wrap .i64 (x1.2 + 1))))) ((x1.1 ++ ([r2])), 0)
  else none
  else none)
  else (
  some x1.1)) (([] : List Int), 0)
theorem ev26 (b : List Int) : evF C51 H26 Try.f26 (encs [.one (.slice 23 (.int .u64))] b) (RT.dec (.one (.leaf (.fresh 5 (.int .u8))))) = F26 b := by kernel_rfl
noncomputable def C26 : Ctx := Ctx.add C51 26 [.one (.slice 23 (.int .u64))] (.one (.leaf (.fresh 5 (.int .u8)))) F26
theorem s26 : C26.Sound := Ctx.Sound.add (C := C51) mixed s51 Try.func26 ev26
/-! damson/tlv.Put -/
def H20 : Nat → Head
  | 5 => ⟨[.row 2 10245 5 (.int .u8), .data 13 (.int .i64)], []⟩
  | 5000007 => ⟨[], [0, 0, 0, 0, 2, 2, 0, 0, 8, 8, 16, 16, 32, 32, 68, 68, 128, 128, 257, 257, 0, 0, 1024, 1024, 2560, 2560, 8191, 4097]⟩
  | _ => ⟨[], []⟩
noncomputable def F20 (b : List (Int × List Int)) : Option (List Int × Int) :=
 (F19 b).bind fun r1 =>
 bif (!decide (r1 = 0)) then (
 some (([] : List Int), r1))
 else (
 lfp (fun (rec2 : (List Int × Int) → Option (List Int × Int)) (x2 : List Int × Int) =>
  bif decide (x2.2 < (b.length : Int)) then (
  bif inb x2.2 b.length then
  (both (
  (both (
  (both (
  (both (
  (F26 ([(rd (.pair (.int .u64) (.slice 5 (.int .u8))) b x2.2).1, (IntKind.wrap .u64 (((rd (.pair (.int .u64) (.slice 5 (.int .u8))) b x2.2).2).length : Int))])).bind fun r3 =>
  (fun o => both o o) (
  bif decide ((x2.1.length + r3.length) * 1 ≤ LIM) then
  bif decide (((x2.1 ++ r3).length + ((rd (.pair (.int .u64) (.slice 5 (.int .u8))) b x2.2).2).length) * 1 ≤ LIM) then
  rec2 (((x2.1 ++ r3) ++ ((rd (.pair (.int .u64) (.slice 5 (.int .u8))) b x2.2).2)), (IntKind.wrap .i64 (x2.2 + 1)))
  else none
  else none)) (
  (F26 ([(rd (.pair (.int .u64) (.slice 5 (.int .u8))) b x2.2).1, (IntKind.wrap .u64 (((rd (.pair (.int .u64) (.slice 5 (.int .u8))) b x2.2).2).length : Int))])).bind fun r3 =>
  bif decide ((x2.1.length + r3.length) * 1 ≤ LIM) then
  bif decide (((x2.1 ++ r3).length + ((rd (.pair (.int .u64) (.slice 5 (.int .u8))) b x2.2).2).length) * 1 ≤ LIM) then
  rec2 (((x2.1 ++ r3) ++ ((rd (.pair (.int .u64) (.slice 5 (.int .u8))) b x2.2).2)), (IntKind.wrap .i64 (x2.2 + 1)))
  else none
  else none))) (
  (F26 ([(rd (.pair (.int .u64) (.slice 5 (.int .u8))) b x2.2).1, (IntKind.wrap .u64 (((rd (.pair (.int .u64) (.slice 5 (.int .u8))) b x2.2).2).length : Int))])).bind fun r3 =>
  bif decide ((x2.1.length + r3.length) * 1 ≤ LIM) then
  bif decide (((x2.1 ++ r3).length + ((rd (.pair (.int .u64) (.slice 5 (.int .u8))) b x2.2).2).length) * 1 ≤ LIM) then
  rec2 (((x2.1 ++ r3) ++ ((rd (.pair (.int .u64) (.slice 5 (.int .u8))) b x2.2).2)), (IntKind.wrap .i64 (x2.2 + 1)))
  else none
  else none))) (
  (F26 ([(rd (.pair (.int .u64) (.slice 5 (.int .u8))) b x2.2).1, (IntKind.wrap .u64 (((rd (.pair (.int .u64) (.slice 5 (.int .u8))) b x2.2).2).length : Int))])).bind fun r3 =>
  bif decide ((x2.1.length + r3.length) * 1 ≤ LIM) then
  bif decide (((x2.1 ++ r3).length + ((rd (.pair (.int .u64) (.slice 5 (.int .u8))) b x2.2).2).length) * 1 ≤ LIM) then
  rec2 (((x2.1 ++ r3) ++ ((rd (.pair (.int .u64) (.slice 5 (.int .u8))) b x2.2).2)), (IntKind.wrap .i64 (x2.2 + 1)))
  else none
  else none))) (both (
  (both (
  (both (
  (both (
  (F26 ([(rd (.pair (.int .u64) (.slice 5 (.int .u8))) b x2.2).1, (IntKind.wrap .u64 (((rd (.pair (.int .u64) (.slice 5 (.int .u8))) b x2.2).2).length : Int))])).bind fun r3 =>
  (fun o => both o o) (
  bif decide ((x2.1.length + r3.length) * 1 ≤ LIM) then
  bif decide (((x2.1 ++ r3).length + ((rd (.pair (.int .u64) (.slice 5 (.int .u8))) b x2.2).2).length) * 1 ≤ LIM) then
  rec2 (((x2.1 ++ r3) ++ ((rd (.pair (.int .u64) (.slice 5 (.int .u8))) b x2.2).2)), (IntKind.wrap .i64 (x2.2 + 1)))
  else none
  else none)) (
  (F26 ([(rd (.pair (.int .u64) (.slice 5 (.int .u8))) b x2.2).1, (IntKind.wrap .u64 (((rd (.pair (.int .u64) (.slice 5 (.int .u8))) b x2.2).2).length : Int))])).bind fun r3 =>
  bif decide ((x2.1.length + r3.length) * 1 ≤ LIM) then
  bif decide (((x2.1 ++ r3).length + ((rd (.pair (.int .u64) (.slice 5 (.int .u8))) b x2.2).2).length) * 1 ≤ LIM) then
  rec2 (((x2.1 ++ r3) ++ ((rd (.pair (.int .u64) (.slice 5 (.int .u8))) b x2.2).2)), (IntKind.wrap .i64 (x2.2 + 1)))
  else none
  else none))) (
  (F26 ([(rd (.pair (.int .u64) (.slice 5 (.int .u8))) b x2.2).1, (IntKind.wrap .u64 (((rd (.pair (.int .u64) (.slice 5 (.int .u8))) b x2.2).2).length : Int))])).bind fun r3 =>
  bif decide ((x2.1.length + r3.length) * 1 ≤ LIM) then
  bif decide (((x2.1 ++ r3).length + ((rd (.pair (.int .u64) (.slice 5 (.int .u8))) b x2.2).2).length) * 1 ≤ LIM) then
  rec2 (((x2.1 ++ r3) ++ ((rd (.pair (.int .u64) (.slice 5 (.int .u8))) b x2.2).2)), (IntKind.wrap .i64 (x2.2 + 1)))
  else none
  else none))) (
  (F26 ([(rd (.pair (.int .u64) (.slice 5 (.int .u8))) b x2.2).1, (IntKind.wrap .u64 (((rd (.pair (.int .u64) (.slice 5 (.int .u8))) b x2.2).2).length : Int))])).bind fun r3 =>
  bif decide ((x2.1.length + r3.length) * 1 ≤ LIM) then
  bif decide (((x2.1 ++ r3).length + ((rd (.pair (.int .u64) (.slice 5 (.int .u8))) b x2.2).2).length) * 1 ≤ LIM) then
  rec2 (((x2.1 ++ r3) ++ ((rd (.pair (.int .u64) (.slice 5 (.int .u8))) b x2.2).2)), (IntKind.wrap .i64 (x2.2 + 1)))
  else none
  else none))) (
  (fun o => both o o) (
  (F26 ([(rd (.pair (.int .u64) (.slice 5 (.int .u8))) b x2.2).1, (IntKind.wrap .u64 (((rd (.pair (.int .u64) (.slice 5 (.int .u8))) b x2.2).2).length : Int))])).bind fun r3 =>
  bif decide ((x2.1.length + r3.length) * 1 ≤ LIM) then
  bif decide (((x2.1 ++ r3).length + ((rd (.pair (.int .u64) (.slice 5 (.int .u8))) b x2.2).2).length) * 1 ≤ LIM) then
  rec2 (((x2.1 ++ r3) ++ ((rd (.pair (.int .u64) (.slice 5 (.int .u8))) b x2.2).2)), (IntKind.wrap .i64 (x2.2 + 1)))
  else none
  else none))))
  else none)
  else (
  bif decide (65535 < (x2.1.length : Int)) then (
  some (([] : List Int), 4))
  else (
  some (x2.1, 0)))) (([] : List Int), 0))
theorem ev20 (b : List (Int × List Int)) : evF C26 H20 Try.f20 (encs [.one (.slice 26 (.pair (.int .u64) (.slice 5 (.int .u8))))] b) (RT.dec (.tup [.leaf (.fresh 5 (.int .u8)), .leaf (.int .i64)])) = F20 b := by kernel_rfl
noncomputable def C20 : Ctx := Ctx.add C26 20 [.one (.slice 26 (.pair (.int .u64) (.slice 5 (.int .u8))))] (.tup [.leaf (.fresh 5 (.int .u8)), .leaf (.int .i64)]) F20
theorem s20 : C20.Sound := Ctx.Sound.add (C := C26) mixed s26 Try.func20 ev20
/-! damson/damsonlaw02.live -/
def H13 : Nat → Head := fun _ => ⟨[], []⟩
noncomputable def F13 (b : Unit) : Option Bool :=
 (F20 ([(3, [7, 8])])).bind fun r1 =>
 bif (decide (r1.2 = 0) == true) then (
 some (decide (r1.1 = ([3, 2, 7, 8]))))
 else (
 some false)
theorem ev13 (b : Unit) : evF C20 H13 Try.f13 (encs [] b) (RT.dec (.one (.leaf (.bool)))) = F13 b := by kernel_rfl
noncomputable def C13 : Ctx := Ctx.add C20 13 [] (.one (.leaf (.bool))) F13
theorem s13 : C13.Sound := Ctx.Sound.add (C := C20) mixed s20 Try.func13 ev13
/-! damson/damsonref02.Few -/
def H14 : Nat → Head
  | 2 => ⟨[.data 2 .bool, .data 7 (.int .i64)], []⟩
  | _ => ⟨[], []⟩
noncomputable def F14 (b : List (Int × List Int)) : Option Bool :=
 lfp (fun (rec1 : (Bool × Int) → Option Bool) (x1 : Bool × Int) =>
  bif decide (x1.2 < (b.length : Int)) then (
  bif inb x1.2 b.length then
  bif (bif (bif decide (100 < (((rd (.pair (.int .u64) (.slice 5 (.int .u8))) b x1.2).2).length : Int)) then decide ((((rd (.pair (.int .u64) (.slice 5 (.int .u8))) b x1.2).2).length : Int) < 4096) else false) then true else decide (4100 < (((rd (.pair (.int .u64) (.slice 5 (.int .u8))) b x1.2).2).length : Int))) then (
  some false)
  else (
  rec1 (x1.1, (IntKind.wrap .i64 (x1.2 + 1))))
  else none)
  else (
  some (decide ((b.length : Int) ≤ 70)))) (false, 0)
theorem ev14 (b : List (Int × List Int)) : evF C13 H14 Try.f14 (encs [.one (.slice 26 (.pair (.int .u64) (.slice 5 (.int .u8))))] b) (RT.dec (.one (.leaf (.bool)))) = F14 b := by kernel_rfl
noncomputable def C14 : Ctx := Ctx.add C13 14 [.one (.slice 26 (.pair (.int .u64) (.slice 5 (.int .u8))))] (.one (.leaf (.bool))) F14
theorem s14 : C14.Sound := Ctx.Sound.add (C := C13) mixed s13 Try.func14 ev14
/-! slices.Clone[[]byte,byte] -/
def H43 : Nat → Head := fun _ => ⟨[], []⟩
noncomputable def F43 (b : List Int) : Option (List Int) :=
 bif b.isEmpty then (
 (both (
 some ([] : List Int)) (
 bif decide ((([] : List Int).length + b.length) * 1 ≤ LIM) then
 some (([] : List Int) ++ b)
 else none)))
 else (
 bif decide ((([] : List Int).length + b.length) * 1 ≤ LIM) then
 some (([] : List Int) ++ b)
 else none)
theorem ev43 (b : List Int) : evF C14 H43 Try.f43 (encs [.one (.slice 5 (.int .u8))] b) (RT.dec (.one (.leaf (.fresh 5 (.int .u8))))) = F43 b := by kernel_rfl
noncomputable def C43 : Ctx := Ctx.add C14 43 [.one (.slice 5 (.int .u8))] (.one (.leaf (.fresh 5 (.int .u8)))) F43
theorem s43 : C43.Sound := Ctx.Sound.add (C := C14) mixed s14 Try.func43 ev43
/-! slices.BinarySearchFunc[[]damson/api.Record,damson/api.Record,uint64] -/
def H41042 : Nat → Head
  | 3 => ⟨[.data 9 (.int .i64), .data 10 (.int .i64)], []⟩
  | _ => ⟨[], []⟩
noncomputable def F41042 (b : List (Int × List Int) × Int × Unit) : Option (Int × Bool) :=
 lfp (fun (rec1 : (Int × Int) → Option (Int × Bool)) (x1 : Int × Int) =>
  bif decide (x1.1 < x1.2) then (
  bif inb (IntKind.wrap .i64 ((IntKind.wrap .u64 (IntKind.wrap .i64 (x1.1 + x1.2))) / 2 ^ (min (1 : Int).toNat 64))) b.1.length then
  (F42 (((rd (.pair (.int .u64) (.slice 5 (.int .u8))) b.1 (IntKind.wrap .i64 ((IntKind.wrap .u64 (IntKind.wrap .i64 (x1.1 + x1.2))) / 2 ^ (min (1 : Int).toNat 64)))).1, (rd (.pair (.int .u64) (.slice 5 (.int .u8))) b.1 (IntKind.wrap .i64 ((IntKind.wrap .u64 (IntKind.wrap .i64 (x1.1 + x1.2))) / 2 ^ (min (1 : Int).toNat 64)))).2), b.2.1)).bind fun r2 =>
  bif decide (r2 < 0) then (
  rec1 ((IntKind.wrap .i64 ((IntKind.wrap .i64 ((IntKind.wrap .u64 (IntKind.wrap .i64 (x1.1 + x1.2))) / 2 ^ (min (1 : Int).toNat 64))) + 1)), x1.2))
  else (
  rec1 (x1.1, (IntKind.wrap .i64 ((IntKind.wrap .u64 (IntKind.wrap .i64 (x1.1 + x1.2))) / 2 ^ (min (1 : Int).toNat 64)))))
  else none)
  else (
  bif (decide (x1.1 < (b.1.length : Int)) == true) then (
  bif inb x1.1 b.1.length then
  (F42 (((rd (.pair (.int .u64) (.slice 5 (.int .u8))) b.1 x1.1).1, (rd (.pair (.int .u64) (.slice 5 (.int .u8))) b.1 x1.1).2), b.2.1)).bind fun r3 =>
  some (x1.1, decide (r3 = 0))
  else none)
  else (
  some (x1.1, false)))) (0, (b.1.length : Int))
theorem ev41042 (b : List (Int × List Int) × Int × Unit) : evF C43 H41042 Try.f41 (encs [.one (.slice 26 (.pair (.int .u64) (.slice 5 (.int .u8)))), .one (.int .u64), .fn 42] b) (RT.dec (.tup [.leaf (.int .i64), .leaf (.bool)])) = F41042 b := by kernel_rfl
noncomputable def C41042 : Ctx := Ctx.add C43 41 [.one (.slice 26 (.pair (.int .u64) (.slice 5 (.int .u8)))), .one (.int .u64), .fn 42] (.tup [.leaf (.int .i64), .leaf (.bool)]) F41042
theorem s41042 : C41042.Sound := Ctx.Sound.add (C := C43) mixed s43 Try.func41 ev41042
/-! damson/tlv.With -/
def H15 : Nat → Head
  | 11 => ⟨[.data 51 (.int .i64), .rowk 196608 26 (.pair (.int .u64) (.slice 5 (.int .u8)))], [159744, 12288]⟩
  | 5000006 => ⟨[], [0, 0, 0, 0, 0, 0, 7, 7, 0, 0, 16, 16, 40, 40, 127, 64]⟩
  | _ => ⟨[], []⟩
noncomputable def F15 (b : List (Int × List Int) × (Int × List Int)) : Option ((List (Int × List Int)) × Int) :=
 (F19 b.1).bind fun r1 =>
 bif (bif (!decide (r1 = 0)) then true else decide (4096 < (b.2.2.length : Int))) then (
 some (([] : List (Int × List Int)), 1))
 else (
 (F41042 (b.1, b.2.1, ())).bind fun r2 =>
 bif (bif (!r2.2) then decide ((b.1.length : Int) = 64) else false) then (
 some (([] : List (Int × List Int)), 7))
 else (
 bif (inb r2.1 (b.1.length + 1) && decide (r2.1 = r2.1)) then
 bif decide (((b.1.take r2.1.toNat).length + 1) * 32 ≤ LIM) then
 bif r2.2 then (
 bif inb (IntKind.wrap .i64 (r2.1 + 1)) (b.1.length + 1) then
 bif decide ((((b.1.take r2.1.toNat) ++ ([(b.2.1, b.2.2)])).length + (b.1.drop ((IntKind.wrap .i64 (r2.1 + 1)).toNat)).length) * 32 ≤ LIM) then
 lfp (fun (rec3 : (Int × List (Int × List Int)) → Option ((List (Int × List Int)) × Int)) (x3 : Int × List (Int × List Int)) =>
  bif decide (x3.1 < ((((b.1.take r2.1.toNat) ++ ([(b.2.1, b.2.2)])) ++ (b.1.drop ((IntKind.wrap .i64 (r2.1 + 1)).toNat))).length : Int)) then (
  bif inb x3.1 x3.2.length then
  (F43 ((rd (.pair (.int .u64) (.slice 5 (.int .u8))) x3.2 x3.1).2)).bind fun r4 =>
  bif inb x3.1 x3.2.length then
  rec3 ((IntKind.wrap .i64 (x3.1 + 1)), (x3.2.set x3.1.toNat ((rd (.pair (.int .u64) (.slice 5 (.int .u8))) x3.2 x3.1).1, r4)))
  else none
  else none)
  else (
  some (x3.2, 0))) (0, (((b.1.take r2.1.toNat) ++ ([(b.2.1, b.2.2)])) ++ (b.1.drop ((IntKind.wrap .i64 (r2.1 + 1)).toNat))))
 else none
 else none)
 else (
 bif inb r2.1 (b.1.length + 1) then
 bif decide ((((b.1.take r2.1.toNat) ++ ([(b.2.1, b.2.2)])).length + (b.1.drop r2.1.toNat).length) * 32 ≤ LIM) then
 lfp (fun (rec5 : (Int × List (Int × List Int)) → Option ((List (Int × List Int)) × Int)) (x5 : Int × List (Int × List Int)) =>
  bif decide (x5.1 < ((((b.1.take r2.1.toNat) ++ ([(b.2.1, b.2.2)])) ++ (b.1.drop r2.1.toNat)).length : Int)) then (
  bif inb x5.1 x5.2.length then
  (F43 ((rd (.pair (.int .u64) (.slice 5 (.int .u8))) x5.2 x5.1).2)).bind fun r6 =>
  bif inb x5.1 x5.2.length then
  rec5 ((IntKind.wrap .i64 (x5.1 + 1)), (x5.2.set x5.1.toNat ((rd (.pair (.int .u64) (.slice 5 (.int .u8))) x5.2 x5.1).1, r6)))
  else none
  else none)
  else (
  some (x5.2, 0))) (0, (((b.1.take r2.1.toNat) ++ ([(b.2.1, b.2.2)])) ++ (b.1.drop r2.1.toNat)))
 else none
 else none)
 else none
 else none))
theorem ev15 (b : List (Int × List Int) × (Int × List Int)) : evF C41042 H15 Try.f15 (encs [.one (.slice 26 (.pair (.int .u64) (.slice 5 (.int .u8)))), .agg (.pair (.int .u64) (.slice 5 (.int .u8)))] b) (RT.dec (.tup [.leaf (.fresh 26 (.pair (.int .u64) (.slice 5 (.int .u8)))), .leaf (.int .i64)])) = F15 b := by kernel_rfl
noncomputable def C15 : Ctx := Ctx.add C41042 15 [.one (.slice 26 (.pair (.int .u64) (.slice 5 (.int .u8)))), .agg (.pair (.int .u64) (.slice 5 (.int .u8)))] (.tup [.leaf (.fresh 26 (.pair (.int .u64) (.slice 5 (.int .u8)))), .leaf (.int .i64)]) F15
theorem s15 : C15.Sound := Ctx.Sound.add (C := C41042) mixed s41042 Try.func15 ev15
/-! bytes.Equal -/
def H64 : Nat → Head := fun _ => ⟨[], []⟩
noncomputable def F64 (b : List Int × List Int) : Option Bool :=
 some (decide (b.1 = b.2))
theorem ev64 (b : List Int × List Int) : evF C15 H64 Try.f64 (encs [.one (.slice 5 (.int .u8)), .one (.slice 5 (.int .u8))] b) (RT.dec (.one (.leaf (.bool)))) = F64 b := by kernel_rfl
noncomputable def C64 : Ctx := Ctx.add C15 64 [.one (.slice 5 (.int .u8)), .one (.slice 5 (.int .u8))] (.one (.leaf (.bool))) F64
theorem s64 : C64.Sound := Ctx.Sound.add (C := C15) mixed s15 Try.func64 ev64
/-! damson/tlv.one -/
def H45 : Nat → Head := fun _ => ⟨[], []⟩
noncomputable def F45 (b : (Int × List Int) × (Int × List Int)) : Option Bool :=
 bif (decide (b.1.1 = b.2.1) == true) then (
 (F64 (b.1.2, b.2.2)).bind fun r1 =>
 some r1)
 else (
 some false)
theorem ev45 (b : (Int × List Int) × (Int × List Int)) : evF C64 H45 Try.f45 (encs [.agg (.pair (.int .u64) (.slice 5 (.int .u8))), .agg (.pair (.int .u64) (.slice 5 (.int .u8)))] b) (RT.dec (.one (.leaf (.bool)))) = F45 b := by kernel_rfl
noncomputable def C45 : Ctx := Ctx.add C64 45 [.agg (.pair (.int .u64) (.slice 5 (.int .u8))), .agg (.pair (.int .u64) (.slice 5 (.int .u8)))] (.one (.leaf (.bool))) F45
theorem s45 : C45.Sound := Ctx.Sound.add (C := C64) mixed s64 Try.func45 ev45
/-! slices.EqualFunc[[]damson/api.Record,[]damson/api.Record,damson/api.Record,damson/api.Record] -/
def H44045 : Nat → Head
  | 4 => ⟨[.data 6 .bool, .data 17 (.int .i64)], []⟩
  | _ => ⟨[], []⟩
noncomputable def F44045 (b : List (Int × List Int) × List (Int × List Int) × Unit) : Option Bool :=
 bif (!decide ((b.1.length : Int) = (b.2.1.length : Int))) then (
 some false)
 else (
 lfp (fun (rec1 : (Bool × Int) → Option Bool) (x1 : Bool × Int) =>
  bif decide (x1.2 < (b.1.length : Int)) then (
  bif inb x1.2 b.1.length then
  bif inb x1.2 b.2.1.length then
  (F45 (((rd (.pair (.int .u64) (.slice 5 (.int .u8))) b.1 x1.2).1, (rd (.pair (.int .u64) (.slice 5 (.int .u8))) b.1 x1.2).2), ((rd (.pair (.int .u64) (.slice 5 (.int .u8))) b.2.1 x1.2).1, (rd (.pair (.int .u64) (.slice 5 (.int .u8))) b.2.1 x1.2).2))).bind fun r2 =>
  bif (!r2) then (
  some false)
  else (
  rec1 (x1.1, (IntKind.wrap .i64 (x1.2 + 1))))
  else none
  else none)
  else (
  some true)) (false, 0))
theorem ev44045 (b : List (Int × List Int) × List (Int × List Int) × Unit) : evF C45 H44045 Try.f44 (encs [.one (.slice 26 (.pair (.int .u64) (.slice 5 (.int .u8)))), .one (.slice 26 (.pair (.int .u64) (.slice 5 (.int .u8)))), .fn 45] b) (RT.dec (.one (.leaf (.bool)))) = F44045 b := by kernel_rfl
noncomputable def C44045 : Ctx := Ctx.add C45 44 [.one (.slice 26 (.pair (.int .u64) (.slice 5 (.int .u8)))), .one (.slice 26 (.pair (.int .u64) (.slice 5 (.int .u8)))), .fn 45] (.one (.leaf (.bool))) F44045
theorem s44045 : C44045.Sound := Ctx.Sound.add (C := C45) mixed s45 Try.func44 ev44045
/-! damson/tlv.Same -/
def H16 : Nat → Head := fun _ => ⟨[], []⟩
noncomputable def F16 (b : List (Int × List Int) × List (Int × List Int)) : Option Bool :=
 (F44045 (b.1, b.2, ())).bind fun r1 =>
 some r1
theorem ev16 (b : List (Int × List Int) × List (Int × List Int)) : evF C44045 H16 Try.f16 (encs [.one (.slice 26 (.pair (.int .u64) (.slice 5 (.int .u8)))), .one (.slice 26 (.pair (.int .u64) (.slice 5 (.int .u8))))] b) (RT.dec (.one (.leaf (.bool)))) = F16 b := by kernel_rfl
noncomputable def C16 : Ctx := Ctx.add C44045 16 [.one (.slice 26 (.pair (.int .u64) (.slice 5 (.int .u8)))), .one (.slice 26 (.pair (.int .u64) (.slice 5 (.int .u8))))] (.one (.leaf (.bool))) F16
theorem s16 : C16.Sound := Ctx.Sound.add (C := C44045) mixed s44045 Try.func16 ev16
/-! damson/damsonlaw02.TlvOrder -/
def H3 : Nat → Head := fun _ => ⟨[], []⟩
noncomputable def F3 (b : List (Int × List Int) × (Int × List Int) × (Int × List Int)) : Option Bool :=
 (F13 ()).bind fun r1 =>
 bif (!r1) then (
 some false)
 else (
 (F14 b.1).bind fun r2 =>
 bif (bif (bif (bif (!r2) then true else decide (100 < (b.2.1.2.length : Int))) then true else decide (100 < (b.2.2.2.length : Int))) then true else decide (b.2.1.1 = b.2.2.1)) then (
 some true)
 else (
 (F15 (b.1, (b.2.1.1, b.2.1.2))).bind fun r3 =>
 (F15 (b.1, (b.2.2.1, b.2.2.2))).bind fun r4 =>
 bif (bif (!decide (r3.2 = 0)) then true else (!decide (r4.2 = 0))) then (
 some true)
 else (
 (F15 (r3.1, (b.2.2.1, b.2.2.2))).bind fun r5 =>
 (F15 (r4.1, (b.2.1.1, b.2.1.2))).bind fun r6 =>
 bif (decide (r5.2 = r6.2) == true) then (
 (F16 (r5.1, r6.1)).bind fun r7 =>
 bif (r7 == true) then (
 some (bif decide (r5.2 = 0) then true else decide (r5.2 = 7)))
 else (
 some false))
 else (
 some false))))
theorem ev3 (b : List (Int × List Int) × (Int × List Int) × (Int × List Int)) : evF C16 H3 Try.f3 (encs [.one (.slice 26 (.pair (.int .u64) (.slice 5 (.int .u8)))), .agg (.pair (.int .u64) (.slice 5 (.int .u8))), .agg (.pair (.int .u64) (.slice 5 (.int .u8)))] b) (RT.dec (.one (.leaf (.bool)))) = F3 b := by kernel_rfl
noncomputable def C3 : Ctx := Ctx.add C16 3 [.one (.slice 26 (.pair (.int .u64) (.slice 5 (.int .u8)))), .agg (.pair (.int .u64) (.slice 5 (.int .u8))), .agg (.pair (.int .u64) (.slice 5 (.int .u8)))] (.one (.leaf (.bool))) F3
theorem s3 : C3.Sound := Ctx.Sound.add (C := C16) mixed s16 Try.func3 ev3
/-! damson/tlv.Find -/
def H17 : Nat → Head := fun _ => ⟨[], []⟩
noncomputable def F17 (b : List (Int × List Int) × Int) : Option (List Int × Int) :=
 (F19 b.1).bind fun r1 =>
 bif (!decide (r1 = 0)) then (
 some (([] : List Int), r1))
 else (
 (F41042 (b.1, b.2, ())).bind fun r2 =>
 bif (!r2.2) then (
 some (([] : List Int), 5))
 else (
 bif inb r2.1 b.1.length then
 (F43 ((rd (.pair (.int .u64) (.slice 5 (.int .u8))) b.1 r2.1).2)).bind fun r3 =>
 some (r3, 0)
 else none))
theorem ev17 (b : List (Int × List Int) × Int) : evF C3 H17 Try.f17 (encs [.one (.slice 26 (.pair (.int .u64) (.slice 5 (.int .u8)))), .one (.int .u64)] b) (RT.dec (.tup [.leaf (.fresh 5 (.int .u8)), .leaf (.int .i64)])) = F17 b := by kernel_rfl
noncomputable def C17 : Ctx := Ctx.add C3 17 [.one (.slice 26 (.pair (.int .u64) (.slice 5 (.int .u8)))), .one (.int .u64)] (.tup [.leaf (.fresh 5 (.int .u8)), .leaf (.int .i64)]) F17
theorem s17 : C17.Sound := Ctx.Sound.add (C := C3) mixed s3 Try.func17 ev17
/-! damson/damsonref01.SameBytes -/
def H18 : Nat → Head := fun _ => ⟨[], []⟩
noncomputable def F18 (b : List Int × List Int) : Option Bool :=
 some (decide (b.1 = b.2))
theorem ev18 (b : List Int × List Int) : evF C17 H18 Try.f18 (encs [.one (.slice 5 (.int .u8)), .one (.slice 5 (.int .u8))] b) (RT.dec (.one (.leaf (.bool)))) = F18 b := by kernel_rfl
noncomputable def C18 : Ctx := Ctx.add C17 18 [.one (.slice 5 (.int .u8)), .one (.slice 5 (.int .u8))] (.one (.leaf (.bool))) F18
theorem s18 : C18.Sound := Ctx.Sound.add (C := C17) mixed s17 Try.func18 ev18
/-! damson/damsonlaw02.TlvWith -/
def H4 : Nat → Head := fun _ => ⟨[], []⟩
noncomputable def F4 (b : List (Int × List Int) × (Int × List Int) × Int) : Option Bool :=
 (F13 ()).bind fun r1 =>
 bif (!r1) then (
 some false)
 else (
 (F14 b.1).bind fun r2 =>
 bif (bif (!r2) then true else decide (100 < (b.2.1.2.length : Int))) then (
 some true)
 else (
 (F15 (b.1, (b.2.1.1, b.2.1.2))).bind fun r3 =>
 bif (!decide (r3.2 = 0)) then (
 some (decide ((r3.1.length : Int) = 0)))
 else (
 (F17 (r3.1, b.2.1.1)).bind fun r4 =>
 (F15 (r3.1, (b.2.1.1, b.2.1.2))).bind fun r5 =>
 (F17 (b.1, b.2.2)).bind fun r6 =>
 (F17 (r3.1, b.2.2)).bind fun r7 =>
 bif (decide (r4.2 = 0) == true) then (
 (F18 (r4.1, b.2.1.2)).bind fun r8 =>
 bif ((bif r8 then decide (r5.2 = 0) else false) == true) then (
 (F16 (r5.1, r3.1)).bind fun r9 =>
 bif (r9 == true) then (
 (F19 r3.1).bind fun r10 =>
 bif (decide (r10 = 0) == true) then (
 bif (decide (b.2.2 = b.2.1.1) == false) then (
 bif (decide (r6.2 = r7.2) == true) then (
 (F18 (r6.1, r7.1)).bind fun r11 =>
 some r11)
 else (
 some false))
 else (
 some true))
 else (
 some false))
 else (
 some false))
 else (
 some false))
 else (
 some false))))
theorem ev4 (b : List (Int × List Int) × (Int × List Int) × Int) : evF C18 H4 Try.f4 (encs [.one (.slice 26 (.pair (.int .u64) (.slice 5 (.int .u8)))), .agg (.pair (.int .u64) (.slice 5 (.int .u8))), .one (.int .u64)] b) (RT.dec (.one (.leaf (.bool)))) = F4 b := by kernel_rfl
noncomputable def C4 : Ctx := Ctx.add C18 4 [.one (.slice 26 (.pair (.int .u64) (.slice 5 (.int .u8)))), .agg (.pair (.int .u64) (.slice 5 (.int .u8))), .one (.int .u64)] (.one (.leaf (.bool))) F4
theorem s4 : C4.Sound := Ctx.Sound.add (C := C18) mixed s18 Try.func4 ev4
/-! damson/bigsize.Get -/
def H52 : Nat → Head
  | 7 => ⟨[.data 2 (.int .u64), .data 35 (.int .i64)], []⟩
  | 5000011 => ⟨[], [0, 0, 1, 1, 0, 0, 4, 4, 8, 8, 18, 18]⟩
  | _ => ⟨[], []⟩
noncomputable def F52 (b : List Int) : Option (Int × Int × Int) :=
 bif (decide ((b.length : Int) = 0) == false) then (
 bif inb 0 b.length then
 (F51 (rd (.int .u8) b 0)).bind fun r1 =>
 bif decide ((b.length : Int) ≤ r1) then (
 some (0, 0, 3))
 else (
 bif inb 0 b.length then
 (F51 (rd (.int .u8) b 0)).bind fun r2 =>
 bif decide (r2 = 0) then (
 bif inb 0 b.length then
 some ((IntKind.wrap .u64 (rd (.int .u8) b 0)), 1, 0)
 else none)
 else (
 bif (inb (IntKind.wrap .i64 (r2 + 1)) (b.length + 1) && (decide (0 ≤ 1) && decide (1 ≤ (IntKind.wrap .i64 (r2 + 1))))) then
 lfp (fun (rec3 : (Int × Int) → Option (Int × Int × Int)) (x3 : Int × Int) =>
  bif decide (x3.2 < (((b.take ((IntKind.wrap .i64 (r2 + 1)).toNat)).drop ((1 : Int).toNat)).length : Int)) then (
  bif inb x3.2 ((b.take ((IntKind.wrap .i64 (r2 + 1)).toNat)).drop ((1 : Int).toNat)).length then
  rec3 ((bitOp .or .u64 (IntKind.wrap .u64 (x3.1 * 2 ^ (min (8 : Int).toNat 64))) (IntKind.wrap .u64 (rd (.int .u8) ((b.take ((IntKind.wrap .i64 (r2 + 1)).toNat)).drop ((1 : Int).toNat)) x3.2))), (IntKind.wrap .i64 (x3.2 + 1)))
  else none)
  else (
  bif inb 0 b.length then
  (F50 x3.1).bind fun r4 =>
  bif (!decide (r4 = (rd (.int .u8) b 0))) then (
  some (0, 0, 2))
  else (
  some (x3.1, (IntKind.wrap .i64 (r2 + 1)), 0))
  else none)) (0, 0)
 else none)
 else none)
 else none)
 else (
 some (0, 0, 3))
theorem ev52 (b : List Int) : evF C4 H52 Try.f52 (encs [.one (.slice 5 (.int .u8))] b) (RT.dec (.tup [.leaf (.int .u64), .leaf (.int .i64), .leaf (.int .i64)])) = F52 b := by kernel_rfl
noncomputable def C52 : Ctx := Ctx.add C4 52 [.one (.slice 5 (.int .u8))] (.tup [.leaf (.int .u64), .leaf (.int .i64), .leaf (.int .i64)]) F52
theorem s52 : C52.Sound := Ctx.Sound.add (C := C4) mixed s4 Try.func52 ev52
/-! (*damson/tlv.reader).wrong: carried out where it is called -/
def H47 : Nat → Head := fun _ => ⟨[], []⟩
noncomputable def C47 : Ctx := Ctx.addI C52 47 H47 9000047 Try.f47
theorem s47 : C47.Sound := Ctx.Sound.addI (C := C52) mixed s52 Try.func47
/-! (*damson/tlv.reader).number: carried out where it is called -/
def H48 : Nat → Head := fun _ => ⟨[], []⟩
noncomputable def C48 : Ctx := Ctx.addI C47 48 H48 9000048 Try.f48
theorem s48 : C48.Sound := Ctx.Sound.addI (C := C47) mixed s47 Try.func48
/-! damson/tlv.Get -/
def H22 : Nat → Head
  | 3 => ⟨[.row 2 10243 26 (.pair (.int .u64) (.slice 5 (.int .u8))), .box 36864 (.pair (.slice 5 (.int .u8)) (.int .i64))], []⟩
  | 5000014 => ⟨[], [0, 0, 1, 1, 2, 2, 4, 4, 0, 0, 31, 8]⟩
  | _ => ⟨[], []⟩
noncomputable def F22 (b : List Int) : Option ((List (Int × List Int)) × Int) :=
 bif (bif decide (65535 < (b.length : Int)) then true else false) then (
 lfp (fun (rec1 : (List (Int × List Int) × (List Int × Int)) → Option ((List (Int × List Int)) × Int)) (x1 : List (Int × List Int) × (List Int × Int)) =>
  bif (bif decide (x1.2.2 = 0) then decide (0 < (x1.2.1.length : Int)) else false) then (
  bif (bif decide ((x1.1.length : Int) = 64) then decide (x1.2.2 = 0) else false) then (
  bif (decide (0 < (x1.1.length : Int)) == true) then (
  bif inb (if (IntKind.wrap .i64 ((x1.1.length : Int) - 1)) < 0 then 0 else (IntKind.wrap .i64 ((x1.1.length : Int) - 1))) x1.1.length then
  (F42 (((rd (.pair (.int .u64) (.slice 5 (.int .u8))) x1.1 (if (IntKind.wrap .i64 ((x1.1.length : Int) - 1)) < 0 then 0 else (IntKind.wrap .i64 ((x1.1.length : Int) - 1)))).1, (rd (.pair (.int .u64) (.slice 5 (.int .u8))) x1.1 (if (IntKind.wrap .i64 ((x1.1.length : Int) - 1)) < 0 then 0 else (IntKind.wrap .i64 ((x1.1.length : Int) - 1)))).2), 0)).bind fun r2 =>
  bif (bif decide (0 ≤ r2) then false else false) then (
  bif (bif decide ((IntKind.wrap .u64 (x1.2.1.length : Int)) < 0) then false else false) then (
  rec1 (x1.1, (x1.2.1, 3)))
  else (
  rec1 (x1.1, (x1.2.1, 2))))
  else (
  bif (bif decide ((IntKind.wrap .u64 (x1.2.1.length : Int)) < 0) then false else false) then (
  rec1 (x1.1, (x1.2.1, 3)))
  else (
  rec1 (x1.1, (x1.2.1, 4))))
  else none)
  else (
  bif (bif decide ((IntKind.wrap .u64 (x1.2.1.length : Int)) < 0) then false else false) then (
  rec1 (x1.1, (x1.2.1, 3)))
  else (
  rec1 (x1.1, (x1.2.1, 4)))))
  else (
  bif (!decide (x1.2.2 = 0)) then (
  bif (decide (0 < (x1.1.length : Int)) == true) then (
  bif inb (if (IntKind.wrap .i64 ((x1.1.length : Int) - 1)) < 0 then 0 else (IntKind.wrap .i64 ((x1.1.length : Int) - 1))) x1.1.length then
  (F42 (((rd (.pair (.int .u64) (.slice 5 (.int .u8))) x1.1 (if (IntKind.wrap .i64 ((x1.1.length : Int) - 1)) < 0 then 0 else (IntKind.wrap .i64 ((x1.1.length : Int) - 1)))).1, (rd (.pair (.int .u64) (.slice 5 (.int .u8))) x1.1 (if (IntKind.wrap .i64 ((x1.1.length : Int) - 1)) < 0 then 0 else (IntKind.wrap .i64 ((x1.1.length : Int) - 1)))).2), 0)).bind fun r3 =>
  bif (bif decide (0 ≤ r3) then decide (x1.2.2 = 0) else false) then (
  bif (bif decide ((IntKind.wrap .u64 (x1.2.1.length : Int)) < 0) then false else false) then (
  rec1 (x1.1, (x1.2.1, 3)))
  else (
  rec1 (x1.1, (x1.2.1, 2))))
  else (
  bif (!decide (x1.2.2 = 0)) then (
  bif (bif decide ((IntKind.wrap .u64 (x1.2.1.length : Int)) < 0) then decide (x1.2.2 = 0) else false) then (
  rec1 (x1.1, (x1.2.1, 3)))
  else (
  bif decide (x1.2.2 = 0) then (
  bif inb 0 (x1.2.1.length + 1) then
  (F43 (x1.2.1.take ((0 : Int).toNat))).bind fun r4 =>
  bif decide ((x1.1.length + 1) * 32 ≤ LIM) then
  bif inb 0 (x1.2.1.length + 1) then
  rec1 ((x1.1 ++ ([(0, r4)])), (x1.2.1.drop ((0 : Int).toNat), x1.2.2))
  else none
  else none
  else none)
  else (
  rec1 (x1.1, (x1.2.1, x1.2.2)))))
  else (
  (F52 x1.2.1).bind fun r5 =>
  bif inb r5.2.1 (x1.2.1.length + 1) then
  bif (bif decide (4096 < r5.1) then decide (r5.2.2 = 0) else false) then (
  bif (bif decide ((IntKind.wrap .u64 ((x1.2.1.drop r5.2.1.toNat).length : Int)) < r5.1) then false else false) then (
  rec1 (x1.1, (x1.2.1.drop r5.2.1.toNat, 3)))
  else (
  rec1 (x1.1, (x1.2.1.drop r5.2.1.toNat, 4))))
  else (
  bif (bif decide ((IntKind.wrap .u64 ((x1.2.1.drop r5.2.1.toNat).length : Int)) < r5.1) then decide (r5.2.2 = 0) else false) then (
  rec1 (x1.1, (x1.2.1.drop r5.2.1.toNat, 3)))
  else (
  bif decide (r5.2.2 = 0) then (
  bif inb r5.1 ((x1.2.1.drop r5.2.1.toNat).length + 1) then
  (F43 ((x1.2.1.drop r5.2.1.toNat).take r5.1.toNat)).bind fun r6 =>
  bif decide ((x1.1.length + 1) * 32 ≤ LIM) then
  bif inb r5.1 ((x1.2.1.drop r5.2.1.toNat).length + 1) then
  rec1 ((x1.1 ++ ([(0, r6)])), ((x1.2.1.drop r5.2.1.toNat).drop r5.1.toNat, r5.2.2))
  else none
  else none
  else none)
  else (
  rec1 (x1.1, (x1.2.1.drop r5.2.1.toNat, r5.2.2)))))
  else none))
  else none)
  else (
  bif (!decide (x1.2.2 = 0)) then (
  bif (bif decide ((IntKind.wrap .u64 (x1.2.1.length : Int)) < 0) then decide (x1.2.2 = 0) else false) then (
  rec1 (x1.1, (x1.2.1, 3)))
  else (
  bif decide (x1.2.2 = 0) then (
  bif inb 0 (x1.2.1.length + 1) then
  (F43 (x1.2.1.take ((0 : Int).toNat))).bind fun r7 =>
  bif decide ((x1.1.length + 1) * 32 ≤ LIM) then
  bif inb 0 (x1.2.1.length + 1) then
  rec1 ((x1.1 ++ ([(0, r7)])), (x1.2.1.drop ((0 : Int).toNat), x1.2.2))
  else none
  else none
  else none)
  else (
  rec1 (x1.1, (x1.2.1, x1.2.2)))))
  else (
  (F52 x1.2.1).bind fun r8 =>
  bif inb r8.2.1 (x1.2.1.length + 1) then
  bif (bif decide (4096 < r8.1) then decide (r8.2.2 = 0) else false) then (
  bif (bif decide ((IntKind.wrap .u64 ((x1.2.1.drop r8.2.1.toNat).length : Int)) < r8.1) then false else false) then (
  rec1 (x1.1, (x1.2.1.drop r8.2.1.toNat, 3)))
  else (
  rec1 (x1.1, (x1.2.1.drop r8.2.1.toNat, 4))))
  else (
  bif (bif decide ((IntKind.wrap .u64 ((x1.2.1.drop r8.2.1.toNat).length : Int)) < r8.1) then decide (r8.2.2 = 0) else false) then (
  rec1 (x1.1, (x1.2.1.drop r8.2.1.toNat, 3)))
  else (
  bif decide (r8.2.2 = 0) then (
  bif inb r8.1 ((x1.2.1.drop r8.2.1.toNat).length + 1) then
  (F43 ((x1.2.1.drop r8.2.1.toNat).take r8.1.toNat)).bind fun r9 =>
  bif decide ((x1.1.length + 1) * 32 ≤ LIM) then
  bif inb r8.1 ((x1.2.1.drop r8.2.1.toNat).length + 1) then
  rec1 ((x1.1 ++ ([(0, r9)])), ((x1.2.1.drop r8.2.1.toNat).drop r8.1.toNat, r8.2.2))
  else none
  else none
  else none)
  else (
  rec1 (x1.1, (x1.2.1.drop r8.2.1.toNat, r8.2.2)))))
  else none)))
  else (
  (F52 x1.2.1).bind fun r10 =>
  bif inb r10.2.1 (x1.2.1.length + 1) then
  bif (decide (0 < (x1.1.length : Int)) == true) then (
  bif inb (if (IntKind.wrap .i64 ((x1.1.length : Int) - 1)) < 0 then 0 else (IntKind.wrap .i64 ((x1.1.length : Int) - 1))) x1.1.length then
  (F42 (((rd (.pair (.int .u64) (.slice 5 (.int .u8))) x1.1 (if (IntKind.wrap .i64 ((x1.1.length : Int) - 1)) < 0 then 0 else (IntKind.wrap .i64 ((x1.1.length : Int) - 1)))).1, (rd (.pair (.int .u64) (.slice 5 (.int .u8))) x1.1 (if (IntKind.wrap .i64 ((x1.1.length : Int) - 1)) < 0 then 0 else (IntKind.wrap .i64 ((x1.1.length : Int) - 1)))).2), r10.1)).bind fun r11 =>
  bif (bif decide (0 ≤ r11) then decide (r10.2.2 = 0) else false) then (
  bif (bif decide ((IntKind.wrap .u64 ((x1.2.1.drop r10.2.1.toNat).length : Int)) < 0) then false else false) then (
  rec1 (x1.1, (x1.2.1.drop r10.2.1.toNat, 3)))
  else (
  rec1 (x1.1, (x1.2.1.drop r10.2.1.toNat, 2))))
  else (
  bif (!decide (r10.2.2 = 0)) then (
  bif (bif decide ((IntKind.wrap .u64 ((x1.2.1.drop r10.2.1.toNat).length : Int)) < 0) then decide (r10.2.2 = 0) else false) then (
  rec1 (x1.1, (x1.2.1.drop r10.2.1.toNat, 3)))
  else (
  bif decide (r10.2.2 = 0) then (
  bif inb 0 ((x1.2.1.drop r10.2.1.toNat).length + 1) then
  (F43 ((x1.2.1.drop r10.2.1.toNat).take ((0 : Int).toNat))).bind fun r12 =>
  bif decide ((x1.1.length + 1) * 32 ≤ LIM) then
  bif inb 0 ((x1.2.1.drop r10.2.1.toNat).length + 1) then
  rec1 ((x1.1 ++ ([(r10.1, r12)])), ((x1.2.1.drop r10.2.1.toNat).drop ((0 : Int).toNat), r10.2.2))
  else none
  else none
  else none)
  else (
  rec1 (x1.1, (x1.2.1.drop r10.2.1.toNat, r10.2.2)))))
  else (
  (F52 (x1.2.1.drop r10.2.1.toNat)).bind fun r13 =>
  bif inb r13.2.1 ((x1.2.1.drop r10.2.1.toNat).length + 1) then
  bif (bif decide (4096 < r13.1) then decide (r13.2.2 = 0) else false) then (
  bif (bif decide ((IntKind.wrap .u64 (((x1.2.1.drop r10.2.1.toNat).drop r13.2.1.toNat).length : Int)) < r13.1) then false else false) then (
  rec1 (x1.1, ((x1.2.1.drop r10.2.1.toNat).drop r13.2.1.toNat, 3)))
  else (
  rec1 (x1.1, ((x1.2.1.drop r10.2.1.toNat).drop r13.2.1.toNat, 4))))
  else (
  bif (bif decide ((IntKind.wrap .u64 (((x1.2.1.drop r10.2.1.toNat).drop r13.2.1.toNat).length : Int)) < r13.1) then decide (r13.2.2 = 0) else false) then (
  rec1 (x1.1, ((x1.2.1.drop r10.2.1.toNat).drop r13.2.1.toNat, 3)))
  else (
  bif decide (r13.2.2 = 0) then (
  bif inb r13.1 (((x1.2.1.drop r10.2.1.toNat).drop r13.2.1.toNat).length + 1) then
  (F43 (((x1.2.1.drop r10.2.1.toNat).drop r13.2.1.toNat).take r13.1.toNat)).bind fun r14 =>
  bif decide ((x1.1.length + 1) * 32 ≤ LIM) then
  bif inb r13.1 (((x1.2.1.drop r10.2.1.toNat).drop r13.2.1.toNat).length + 1) then
  rec1 ((x1.1 ++ ([(r10.1, r14)])), (((x1.2.1.drop r10.2.1.toNat).drop r13.2.1.toNat).drop r13.1.toNat, r13.2.2))
  else none
  else none
  else none)
  else (
  rec1 (x1.1, ((x1.2.1.drop r10.2.1.toNat).drop r13.2.1.toNat, r13.2.2)))))
  else none))
  else none)
  else (
  bif (!decide (r10.2.2 = 0)) then (
  bif (bif decide ((IntKind.wrap .u64 ((x1.2.1.drop r10.2.1.toNat).length : Int)) < 0) then decide (r10.2.2 = 0) else false) then (
  rec1 (x1.1, (x1.2.1.drop r10.2.1.toNat, 3)))
  else (
  bif decide (r10.2.2 = 0) then (
  bif inb 0 ((x1.2.1.drop r10.2.1.toNat).length + 1) then
  (F43 ((x1.2.1.drop r10.2.1.toNat).take ((0 : Int).toNat))).bind fun r15 =>
  bif decide ((x1.1.length + 1) * 32 ≤ LIM) then
  bif inb 0 ((x1.2.1.drop r10.2.1.toNat).length + 1) then
  rec1 ((x1.1 ++ ([(r10.1, r15)])), ((x1.2.1.drop r10.2.1.toNat).drop ((0 : Int).toNat), r10.2.2))
  else none
  else none
  else none)
  else (
  rec1 (x1.1, (x1.2.1.drop r10.2.1.toNat, r10.2.2)))))
  else (
  (F52 (x1.2.1.drop r10.2.1.toNat)).bind fun r16 =>
  bif inb r16.2.1 ((x1.2.1.drop r10.2.1.toNat).length + 1) then
  bif (bif decide (4096 < r16.1) then decide (r16.2.2 = 0) else false) then (
  bif (bif decide ((IntKind.wrap .u64 (((x1.2.1.drop r10.2.1.toNat).drop r16.2.1.toNat).length : Int)) < r16.1) then false else false) then (
  rec1 (x1.1, ((x1.2.1.drop r10.2.1.toNat).drop r16.2.1.toNat, 3)))
  else (
  rec1 (x1.1, ((x1.2.1.drop r10.2.1.toNat).drop r16.2.1.toNat, 4))))
  else (
  bif (bif decide ((IntKind.wrap .u64 (((x1.2.1.drop r10.2.1.toNat).drop r16.2.1.toNat).length : Int)) < r16.1) then decide (r16.2.2 = 0) else false) then (
  rec1 (x1.1, ((x1.2.1.drop r10.2.1.toNat).drop r16.2.1.toNat, 3)))
  else (
  bif decide (r16.2.2 = 0) then (
  bif inb r16.1 (((x1.2.1.drop r10.2.1.toNat).drop r16.2.1.toNat).length + 1) then
  (F43 (((x1.2.1.drop r10.2.1.toNat).drop r16.2.1.toNat).take r16.1.toNat)).bind fun r17 =>
  bif decide ((x1.1.length + 1) * 32 ≤ LIM) then
  bif inb r16.1 (((x1.2.1.drop r10.2.1.toNat).drop r16.2.1.toNat).length + 1) then
  rec1 ((x1.1 ++ ([(r10.1, r17)])), (((x1.2.1.drop r10.2.1.toNat).drop r16.2.1.toNat).drop r16.1.toNat, r16.2.2))
  else none
  else none
  else none)
  else (
  rec1 (x1.1, ((x1.2.1.drop r10.2.1.toNat).drop r16.2.1.toNat, r16.2.2)))))
  else none))
  else none)))
  else (
  bif (!decide (x1.2.2 = 0)) then (
  some (([] : List (Int × List Int)), x1.2.2))
  else (
  some (x1.1, 0)))) (([] : List (Int × List Int)), (b, 4)))
 else (
 lfp (fun (rec18 : (List (Int × List Int) × (List Int × Int)) → Option ((List (Int × List Int)) × Int)) (x18 : List (Int × List Int) × (List Int × Int)) =>
  bif (bif decide (x18.2.2 = 0) then decide (0 < (x18.2.1.length : Int)) else false) then (
  bif (bif decide ((x18.1.length : Int) = 64) then decide (x18.2.2 = 0) else false) then (
  bif (decide (0 < (x18.1.length : Int)) == true) then (
  bif inb (if (IntKind.wrap .i64 ((x18.1.length : Int) - 1)) < 0 then 0 else (IntKind.wrap .i64 ((x18.1.length : Int) - 1))) x18.1.length then
  (F42 (((rd (.pair (.int .u64) (.slice 5 (.int .u8))) x18.1 (if (IntKind.wrap .i64 ((x18.1.length : Int) - 1)) < 0 then 0 else (IntKind.wrap .i64 ((x18.1.length : Int) - 1)))).1, (rd (.pair (.int .u64) (.slice 5 (.int .u8))) x18.1 (if (IntKind.wrap .i64 ((x18.1.length : Int) - 1)) < 0 then 0 else (IntKind.wrap .i64 ((x18.1.length : Int) - 1)))).2), 0)).bind fun r19 =>
  bif (bif decide (0 ≤ r19) then false else false) then (
  bif (bif decide ((IntKind.wrap .u64 (x18.2.1.length : Int)) < 0) then false else false) then (
  rec18 (x18.1, (x18.2.1, 3)))
  else (
  rec18 (x18.1, (x18.2.1, 2))))
  else (
  bif (bif decide ((IntKind.wrap .u64 (x18.2.1.length : Int)) < 0) then false else false) then (
  rec18 (x18.1, (x18.2.1, 3)))
  else (
  rec18 (x18.1, (x18.2.1, 4))))
  else none)
  else (
  bif (bif decide ((IntKind.wrap .u64 (x18.2.1.length : Int)) < 0) then false else false) then (
  rec18 (x18.1, (x18.2.1, 3)))
  else (
  rec18 (x18.1, (x18.2.1, 4)))))
  else (
  bif (!decide (x18.2.2 = 0)) then (
  bif (decide (0 < (x18.1.length : Int)) == true) then (
  bif inb (if (IntKind.wrap .i64 ((x18.1.length : Int) - 1)) < 0 then 0 else (IntKind.wrap .i64 ((x18.1.length : Int) - 1))) x18.1.length then
  (F42 (((rd (.pair (.int .u64) (.slice 5 (.int .u8))) x18.1 (if (IntKind.wrap .i64 ((x18.1.length : Int) - 1)) < 0 then 0 else (IntKind.wrap .i64 ((x18.1.length : Int) - 1)))).1, (rd (.pair (.int .u64) (.slice 5 (.int .u8))) x18.1 (if (IntKind.wrap .i64 ((x18.1.length : Int) - 1)) < 0 then 0 else (IntKind.wrap .i64 ((x18.1.length : Int) - 1)))).2), 0)).bind fun r20 =>
  bif (bif decide (0 ≤ r20) then decide (x18.2.2 = 0) else false) then (
  bif (bif decide ((IntKind.wrap .u64 (x18.2.1.length : Int)) < 0) then false else false) then (
  rec18 (x18.1, (x18.2.1, 3)))
  else (
  rec18 (x18.1, (x18.2.1, 2))))
  else (
  bif (!decide (x18.2.2 = 0)) then (
  bif (bif decide ((IntKind.wrap .u64 (x18.2.1.length : Int)) < 0) then decide (x18.2.2 = 0) else false) then (
  rec18 (x18.1, (x18.2.1, 3)))
  else (
  bif decide (x18.2.2 = 0) then (
  bif inb 0 (x18.2.1.length + 1) then
  (F43 (x18.2.1.take ((0 : Int).toNat))).bind fun r21 =>
  bif decide ((x18.1.length + 1) * 32 ≤ LIM) then
  bif inb 0 (x18.2.1.length + 1) then
  rec18 ((x18.1 ++ ([(0, r21)])), (x18.2.1.drop ((0 : Int).toNat), x18.2.2))
  else none
  else none
  else none)
  else (
  rec18 (x18.1, (x18.2.1, x18.2.2)))))
  else (
  (F52 x18.2.1).bind fun r22 =>
  bif inb r22.2.1 (x18.2.1.length + 1) then
  bif (bif decide (4096 < r22.1) then decide (r22.2.2 = 0) else false) then (
  bif (bif decide ((IntKind.wrap .u64 ((x18.2.1.drop r22.2.1.toNat).length : Int)) < r22.1) then false else false) then (
  rec18 (x18.1, (x18.2.1.drop r22.2.1.toNat, 3)))
  else (
  rec18 (x18.1, (x18.2.1.drop r22.2.1.toNat, 4))))
  else (
  bif (bif decide ((IntKind.wrap .u64 ((x18.2.1.drop r22.2.1.toNat).length : Int)) < r22.1) then decide (r22.2.2 = 0) else false) then (
  rec18 (x18.1, (x18.2.1.drop r22.2.1.toNat, 3)))
  else (
  bif decide (r22.2.2 = 0) then (
  bif inb r22.1 ((x18.2.1.drop r22.2.1.toNat).length + 1) then
  (F43 ((x18.2.1.drop r22.2.1.toNat).take r22.1.toNat)).bind fun r23 =>
  bif decide ((x18.1.length + 1) * 32 ≤ LIM) then
  bif inb r22.1 ((x18.2.1.drop r22.2.1.toNat).length + 1) then
  rec18 ((x18.1 ++ ([(0, r23)])), ((x18.2.1.drop r22.2.1.toNat).drop r22.1.toNat, r22.2.2))
  else none
  else none
  else none)
  else (
  rec18 (x18.1, (x18.2.1.drop r22.2.1.toNat, r22.2.2)))))
  else none))
  else none)
  else (
  bif (!decide (x18.2.2 = 0)) then (
  bif (bif decide ((IntKind.wrap .u64 (x18.2.1.length : Int)) < 0) then decide (x18.2.2 = 0) else false) then (
  rec18 (x18.1, (x18.2.1, 3)))
  else (
  bif decide (x18.2.2 = 0) then (
  bif inb 0 (x18.2.1.length + 1) then
  (F43 (x18.2.1.take ((0 : Int).toNat))).bind fun r24 =>
  bif decide ((x18.1.length + 1) * 32 ≤ LIM) then
  bif inb 0 (x18.2.1.length + 1) then
  rec18 ((x18.1 ++ ([(0, r24)])), (x18.2.1.drop ((0 : Int).toNat), x18.2.2))
  else none
  else none
  else none)
  else (
  rec18 (x18.1, (x18.2.1, x18.2.2)))))
  else (
  (F52 x18.2.1).bind fun r25 =>
  bif inb r25.2.1 (x18.2.1.length + 1) then
  bif (bif decide (4096 < r25.1) then decide (r25.2.2 = 0) else false) then (
  bif (bif decide ((IntKind.wrap .u64 ((x18.2.1.drop r25.2.1.toNat).length : Int)) < r25.1) then false else false) then (
  rec18 (x18.1, (x18.2.1.drop r25.2.1.toNat, 3)))
  else (
  rec18 (x18.1, (x18.2.1.drop r25.2.1.toNat, 4))))
  else (
  bif (bif decide ((IntKind.wrap .u64 ((x18.2.1.drop r25.2.1.toNat).length : Int)) < r25.1) then decide (r25.2.2 = 0) else false) then (
  rec18 (x18.1, (x18.2.1.drop r25.2.1.toNat, 3)))
  else (
  bif decide (r25.2.2 = 0) then (
  bif inb r25.1 ((x18.2.1.drop r25.2.1.toNat).length + 1) then
  (F43 ((x18.2.1.drop r25.2.1.toNat).take r25.1.toNat)).bind fun r26 =>
  bif decide ((x18.1.length + 1) * 32 ≤ LIM) then
  bif inb r25.1 ((x18.2.1.drop r25.2.1.toNat).length + 1) then
  rec18 ((x18.1 ++ ([(0, r26)])), ((x18.2.1.drop r25.2.1.toNat).drop r25.1.toNat, r25.2.2))
  else none
  else none
  else none)
  else (
  rec18 (x18.1, (x18.2.1.drop r25.2.1.toNat, r25.2.2)))))
  else none)))
  else (
  (F52 x18.2.1).bind fun r27 =>
  bif inb r27.2.1 (x18.2.1.length + 1) then
  bif (decide (0 < (x18.1.length : Int)) == true) then (
  bif inb (if (IntKind.wrap .i64 ((x18.1.length : Int) - 1)) < 0 then 0 else (IntKind.wrap .i64 ((x18.1.length : Int) - 1))) x18.1.length then
  (F42 (((rd (.pair (.int .u64) (.slice 5 (.int .u8))) x18.1 (if (IntKind.wrap .i64 ((x18.1.length : Int) - 1)) < 0 then 0 else (IntKind.wrap .i64 ((x18.1.length : Int) - 1)))).1, (rd (.pair (.int .u64) (.slice 5 (.int .u8))) x18.1 (if (IntKind.wrap .i64 ((x18.1.length : Int) - 1)) < 0 then 0 else (IntKind.wrap .i64 ((x18.1.length : Int) - 1)))).2), r27.1)).bind fun r28 =>
  bif (bif decide (0 ≤ r28) then decide (r27.2.2 = 0) else false) then (
  bif (bif decide ((IntKind.wrap .u64 ((x18.2.1.drop r27.2.1.toNat).length : Int)) < 0) then false else false) then (
  rec18 (x18.1, (x18.2.1.drop r27.2.1.toNat, 3)))
  else (
  rec18 (x18.1, (x18.2.1.drop r27.2.1.toNat, 2))))
  else (
  bif (!decide (r27.2.2 = 0)) then (
  bif (bif decide ((IntKind.wrap .u64 ((x18.2.1.drop r27.2.1.toNat).length : Int)) < 0) then decide (r27.2.2 = 0) else false) then (
  rec18 (x18.1, (x18.2.1.drop r27.2.1.toNat, 3)))
  else (
  bif decide (r27.2.2 = 0) then (
  bif inb 0 ((x18.2.1.drop r27.2.1.toNat).length + 1) then
  (F43 ((x18.2.1.drop r27.2.1.toNat).take ((0 : Int).toNat))).bind fun r29 =>
  bif decide ((x18.1.length + 1) * 32 ≤ LIM) then
  bif inb 0 ((x18.2.1.drop r27.2.1.toNat).length + 1) then
  rec18 ((x18.1 ++ ([(r27.1, r29)])), ((x18.2.1.drop r27.2.1.toNat).drop ((0 : Int).toNat), r27.2.2))
  else none
  else none
  else none)
  else (
  rec18 (x18.1, (x18.2.1.drop r27.2.1.toNat, r27.2.2)))))
  else (
  (F52 (x18.2.1.drop r27.2.1.toNat)).bind fun r30 =>
  bif inb r30.2.1 ((x18.2.1.drop r27.2.1.toNat).length + 1) then
  bif (bif decide (4096 < r30.1) then decide (r30.2.2 = 0) else false) then (
  bif (bif decide ((IntKind.wrap .u64 (((x18.2.1.drop r27.2.1.toNat).drop r30.2.1.toNat).length : Int)) < r30.1) then false else false) then (
  rec18 (x18.1, ((x18.2.1.drop r27.2.1.toNat).drop r30.2.1.toNat, 3)))
  else (
  rec18 (x18.1, ((x18.2.1.drop r27.2.1.toNat).drop r30.2.1.toNat, 4))))
  else (
  bif (bif decide ((IntKind.wrap .u64 (((x18.2.1.drop r27.2.1.toNat).drop r30.2.1.toNat).length : Int)) < r30.1) then decide (r30.2.2 = 0) else false) then (
  rec18 (x18.1, ((x18.2.1.drop r27.2.1.toNat).drop r30.2.1.toNat, 3)))
  else (
  bif decide (r30.2.2 = 0) then (
  bif inb r30.1 (((x18.2.1.drop r27.2.1.toNat).drop r30.2.1.toNat).length + 1) then
  (F43 (((x18.2.1.drop r27.2.1.toNat).drop r30.2.1.toNat).take r30.1.toNat)).bind fun r31 =>
  bif decide ((x18.1.length + 1) * 32 ≤ LIM) then
  bif inb r30.1 (((x18.2.1.drop r27.2.1.toNat).drop r30.2.1.toNat).length + 1) then
  rec18 ((x18.1 ++ ([(r27.1, r31)])), (((x18.2.1.drop r27.2.1.toNat).drop r30.2.1.toNat).drop r30.1.toNat, r30.2.2))
  else none
  else none
  else none)
  else (
  rec18 (x18.1, ((x18.2.1.drop r27.2.1.toNat).drop r30.2.1.toNat, r30.2.2)))))
  else none))
  else none)
  else (
  bif (!decide (r27.2.2 = 0)) then (
  bif (bif decide ((IntKind.wrap .u64 ((x18.2.1.drop r27.2.1.toNat).length : Int)) < 0) then decide (r27.2.2 = 0) else false) then (
  rec18 (x18.1, (x18.2.1.drop r27.2.1.toNat, 3)))
  else (
  bif decide (r27.2.2 = 0) then (
  bif inb 0 ((x18.2.1.drop r27.2.1.toNat).length + 1) then
  (F43 ((x18.2.1.drop r27.2.1.toNat).take ((0 : Int).toNat))).bind fun r32 =>
  bif decide ((x18.1.length + 1) * 32 ≤ LIM) then
  bif inb 0 ((x18.2.1.drop r27.2.1.toNat).length + 1) then
  rec18 ((x18.1 ++ ([(r27.1, r32)])), ((x18.2.1.drop r27.2.1.toNat).drop ((0 : Int).toNat), r27.2.2))
  else none
  else none
  else none)
  else (
  rec18 (x18.1, (x18.2.1.drop r27.2.1.toNat, r27.2.2)))))
  else (
  (F52 (x18.2.1.drop r27.2.1.toNat)).bind fun r33 =>
  bif inb r33.2.1 ((x18.2.1.drop r27.2.1.toNat).length + 1) then
  bif (bif decide (4096 < r33.1) then decide (r33.2.2 = 0) else false) then (
  bif (bif decide ((IntKind.wrap .u64 (((x18.2.1.drop r27.2.1.toNat).drop r33.2.1.toNat).length : Int)) < r33.1) then false else false) then (
  rec18 (x18.1, ((x18.2.1.drop r27.2.1.toNat).drop r33.2.1.toNat, 3)))
  else (
  rec18 (x18.1, ((x18.2.1.drop r27.2.1.toNat).drop r33.2.1.toNat, 4))))
  else (
  bif (bif decide ((IntKind.wrap .u64 (((x18.2.1.drop r27.2.1.toNat).drop r33.2.1.toNat).length : Int)) < r33.1) then decide (r33.2.2 = 0) else false) then (
  rec18 (x18.1, ((x18.2.1.drop r27.2.1.toNat).drop r33.2.1.toNat, 3)))
  else (
  bif decide (r33.2.2 = 0) then (
  bif inb r33.1 (((x18.2.1.drop r27.2.1.toNat).drop r33.2.1.toNat).length + 1) then
  (F43 (((x18.2.1.drop r27.2.1.toNat).drop r33.2.1.toNat).take r33.1.toNat)).bind fun r34 =>
  bif decide ((x18.1.length + 1) * 32 ≤ LIM) then
  bif inb r33.1 (((x18.2.1.drop r27.2.1.toNat).drop r33.2.1.toNat).length + 1) then
  rec18 ((x18.1 ++ ([(r27.1, r34)])), (((x18.2.1.drop r27.2.1.toNat).drop r33.2.1.toNat).drop r33.1.toNat, r33.2.2))
  else none
  else none
  else none)
  else (
  rec18 (x18.1, ((x18.2.1.drop r27.2.1.toNat).drop r33.2.1.toNat, r33.2.2)))))
  else none))
  else none)))
  else (
  bif (!decide (x18.2.2 = 0)) then (
  some (([] : List (Int × List Int)), x18.2.2))
  else (
  some (x18.1, 0)))) (([] : List (Int × List Int)), (b, 0)))
theorem ev22 (b : List Int) : evF C48 H22 Try.f22 (encs [.one (.slice 5 (.int .u8))] b) (RT.dec (.tup [.leaf (.fresh 26 (.pair (.int .u64) (.slice 5 (.int .u8)))), .leaf (.int .i64)])) = F22 b := by kernel_rfl
noncomputable def C22 : Ctx := Ctx.add C48 22 [.one (.slice 5 (.int .u8))] (.tup [.leaf (.fresh 26 (.pair (.int .u64) (.slice 5 (.int .u8)))), .leaf (.int .i64)]) F22
theorem s22 : C22.Sound := Ctx.Sound.add (C := C48) mixed s48 Try.func22 ev22
/-! damson/damsonlaw02.TlvBack -/
def H6 : Nat → Head := fun _ => ⟨[], []⟩
noncomputable def F6 (b : List (Int × List Int) × List Int) : Option Bool :=
 (F13 ()).bind fun r1 =>
 bif (!r1) then (
 some false)
 else (
 (F14 b.1).bind fun r2 =>
 bif (bif (!r2) then true else decide (5000 < (b.2.length : Int))) then (
 some true)
 else (
 (F22 b.2).bind fun r3 =>
 bif decide (r3.2 = 0) then (
 (F20 r3.1).bind fun r4 =>
 bif ((!decide (r4.2 = 0)) == false) then (
 (F18 (r4.1, b.2)).bind fun r5 =>
 bif ((!r5) == false) then (
 (F19 r3.1).bind fun r6 =>
 bif (!decide (r6 = 0)) then (
 some false)
 else (
 (F20 b.1).bind fun r7 =>
 bif (!decide (r7.2 = 0)) then (
 some (decide ((r7.1.length : Int) = 0)))
 else (
 (F22 r7.1).bind fun r8 =>
 bif (decide (r8.2 = 0) == true) then (
 (F16 (r8.1, b.1)).bind fun r9 =>
 some r9)
 else (
 some false))))
 else (
 some false))
 else (
 some false))
 else (
 (F20 b.1).bind fun r10 =>
 bif (!decide (r10.2 = 0)) then (
 some (decide ((r10.1.length : Int) = 0)))
 else (
 (F22 r10.1).bind fun r11 =>
 bif (decide (r11.2 = 0) == true) then (
 (F16 (r11.1, b.1)).bind fun r12 =>
 some r12)
 else (
 some false)))))
theorem ev6 (b : List (Int × List Int) × List Int) : evF C22 H6 Try.f6 (encs [.one (.slice 26 (.pair (.int .u64) (.slice 5 (.int .u8)))), .one (.slice 5 (.int .u8))] b) (RT.dec (.one (.leaf (.bool)))) = F6 b := by kernel_rfl
noncomputable def C6 : Ctx := Ctx.add C22 6 [.one (.slice 26 (.pair (.int .u64) (.slice 5 (.int .u8)))), .one (.slice 5 (.int .u8))] (.one (.leaf (.bool))) F6
theorem s6 : C6.Sound := Ctx.Sound.add (C := C22) mixed s22 Try.func6 ev6
/-! damson/damsonlaw02.TlvCut -/
def H7 : Nat → Head
  | 5000012 => ⟨[], [0, 0, 1, 1, 0, 0, 4, 4, 0, 0, 16, 16, 32, 32, 64, 64, 136, 136, 258, 256, 514, 514, 2047, 1024]⟩
  | 5000015 => ⟨[], [0, 0, 1, 1, 0, 0, 0, 0, 8, 8, 16, 16, 36, 36, 64, 64, 128, 128, 258, 258]⟩
  | _ => ⟨[], []⟩
noncomputable def F7 (b : List (Int × List Int) × Int × (Int × List Int)) : Option Bool :=
 (F13 ()).bind fun r1 =>
 bif (!r1) then (
 some false)
 else (
 (F20 b.1).bind fun r2 =>
 (F14 b.1).bind fun r3 =>
 bif (bif (bif (bif (!r3) then true else (!decide (r2.2 = 0))) then true else decide (20 < (b.1.length : Int))) then true else decide (100 < (b.2.2.2.length : Int))) then (
 some true)
 else (
 bif (bif decide (0 ≤ b.2.1) then decide (b.2.1 < (r2.1.length : Int)) else false) then (
 bif inb b.2.1 (r2.1.length + 1) then
 (F22 (r2.1.take b.2.1.toNat)).bind fun r4 =>
 bif ((!decide (r4.2 = 0)) == true) then (
 bif ((bif (!decide (r4.2 = 3)) then true else (!decide ((r4.1.length : Int) = 0))) == false) then (
 bif (decide (r4.2 = 0) == true) then (
 bif (decide ((b.1.length : Int) ≤ (r4.1.length : Int)) == false) then (
 bif inb (r4.1.length : Int) (b.1.length + 1) then
 (F16 (r4.1, b.1.take ((r4.1.length : Int).toNat))).bind fun r5 =>
 bif (!r5) then (
 some false)
 else (
 bif decide ((b.1.length : Int) = 0) then (
 some true)
 else (
 (both (
 bif (!r2.1.isEmpty || true) then
 bif decide ((([] : List Int).length + r2.1.length) * 1 ≤ LIM) then
 (fun o => both o o) (
 (F26 ([b.2.2.1, (IntKind.wrap .u64 (b.2.2.2.length : Int))])).bind fun r6 =>
 bif decide (((([] : List Int) ++ r2.1).length + r6.length) * 1 ≤ LIM) then
 bif decide ((((([] : List Int) ++ r2.1) ++ r6).length + b.2.2.2.length) * 1 ≤ LIM) then
 (F22 (((([] : List Int) ++ r2.1) ++ r6) ++ b.2.2.2)).bind fun r7 =>
 bif inb (IntKind.wrap .i64 ((b.1.length : Int) - 1)) b.1.length then
 bif decide (b.2.2.1 ≤ (rd (.pair (.int .u64) (.slice 5 (.int .u8))) b.1 (IntKind.wrap .i64 ((b.1.length : Int) - 1))).1) then (
 some (bif decide (r7.2 = 2) then decide ((r7.1.length : Int) = 0) else false))
 else (
 some (bif decide (r7.2 = 0) then decide ((r7.1.length : Int) = (IntKind.wrap .i64 ((b.1.length : Int) + 1))) else false))
 else none
 else none
 else none)
 else none
 else none) (both (
 (both (
 bif (!r2.1.isEmpty || true) then
 bif decide ((([] : List Int).length + r2.1.length) * 1 ≤ LIM) then
 (F26 ([b.2.2.1, (IntKind.wrap .u64 (b.2.2.2.length : Int))])).bind fun r6 =>
 bif decide (((([] : List Int) ++ r2.1).length + r6.length) * 1 ≤ LIM) then
 bif decide ((((([] : List Int) ++ r2.1) ++ r6).length + b.2.2.2.length) * 1 ≤ LIM) then
 (F22 (((([] : List Int) ++ r2.1) ++ r6) ++ b.2.2.2)).bind fun r7 =>
 bif inb (IntKind.wrap .i64 ((b.1.length : Int) - 1)) b.1.length then
 bif decide (b.2.2.1 ≤ (rd (.pair (.int .u64) (.slice 5 (.int .u8))) b.1 (IntKind.wrap .i64 ((b.1.length : Int) - 1))).1) then (
 some (bif decide (r7.2 = 2) then decide ((r7.1.length : Int) = 0) else false))
 else (
 some (bif decide (r7.2 = 0) then decide ((r7.1.length : Int) = (IntKind.wrap .i64 ((b.1.length : Int) + 1))) else false))
 else none
 else none
 else none
 else none
 else none) (
 (fun o => both o o) (
 bif (!r2.1.isEmpty || true) then
 bif decide ((([] : List Int).length + r2.1.length) * 1 ≤ LIM) then
 (F26 ([b.2.2.1, (IntKind.wrap .u64 (b.2.2.2.length : Int))])).bind fun r6 =>
 bif decide (((([] : List Int) ++ r2.1).length + r6.length) * 1 ≤ LIM) then
 bif decide ((((([] : List Int) ++ r2.1) ++ r6).length + b.2.2.2.length) * 1 ≤ LIM) then
 (F22 (((([] : List Int) ++ r2.1) ++ r6) ++ b.2.2.2)).bind fun r7 =>
 bif inb (IntKind.wrap .i64 ((b.1.length : Int) - 1)) b.1.length then
 bif decide (b.2.2.1 ≤ (rd (.pair (.int .u64) (.slice 5 (.int .u8))) b.1 (IntKind.wrap .i64 ((b.1.length : Int) - 1))).1) then (
 some (bif decide (r7.2 = 2) then decide ((r7.1.length : Int) = 0) else false))
 else (
 some (bif decide (r7.2 = 0) then decide ((r7.1.length : Int) = (IntKind.wrap .i64 ((b.1.length : Int) + 1))) else false))
 else none
 else none
 else none
 else none
 else none)))) (
 (both (
 bif (!r2.1.isEmpty || true) then
 bif decide ((([] : List Int).length + r2.1.length) * 1 ≤ LIM) then
 (F26 ([b.2.2.1, (IntKind.wrap .u64 (b.2.2.2.length : Int))])).bind fun r6 =>
 bif decide (((([] : List Int) ++ r2.1).length + r6.length) * 1 ≤ LIM) then
 bif decide ((((([] : List Int) ++ r2.1) ++ r6).length + b.2.2.2.length) * 1 ≤ LIM) then
 (F22 (((([] : List Int) ++ r2.1) ++ r6) ++ b.2.2.2)).bind fun r7 =>
 bif inb (IntKind.wrap .i64 ((b.1.length : Int) - 1)) b.1.length then
 bif decide (b.2.2.1 ≤ (rd (.pair (.int .u64) (.slice 5 (.int .u8))) b.1 (IntKind.wrap .i64 ((b.1.length : Int) - 1))).1) then (
 some (bif decide (r7.2 = 2) then decide ((r7.1.length : Int) = 0) else false))
 else (
 some (bif decide (r7.2 = 0) then decide ((r7.1.length : Int) = (IntKind.wrap .i64 ((b.1.length : Int) + 1))) else false))
 else none
 else none
 else none
 else none
 else none) (
 (fun o => both o o) (
 bif (!r2.1.isEmpty || true) then
 bif decide ((([] : List Int).length + r2.1.length) * 1 ≤ LIM) then
 (F26 ([b.2.2.1, (IntKind.wrap .u64 (b.2.2.2.length : Int))])).bind fun r6 =>
 bif decide (((([] : List Int) ++ r2.1).length + r6.length) * 1 ≤ LIM) then
 bif decide ((((([] : List Int) ++ r2.1) ++ r6).length + b.2.2.2.length) * 1 ≤ LIM) then
 (F22 (((([] : List Int) ++ r2.1) ++ r6) ++ b.2.2.2)).bind fun r7 =>
 bif inb (IntKind.wrap .i64 ((b.1.length : Int) - 1)) b.1.length then
 bif decide (b.2.2.1 ≤ (rd (.pair (.int .u64) (.slice 5 (.int .u8))) b.1 (IntKind.wrap .i64 ((b.1.length : Int) - 1))).1) then (
 some (bif decide (r7.2 = 2) then decide ((r7.1.length : Int) = 0) else false))
 else (
 some (bif decide (r7.2 = 0) then decide ((r7.1.length : Int) = (IntKind.wrap .i64 ((b.1.length : Int) + 1))) else false))
 else none
 else none
 else none
 else none
 else none))))))))
 else none)
 else (
 some false))
 else (
 bif decide ((b.1.length : Int) = 0) then (
 some true)
 else (
 (both (
 bif (!r2.1.isEmpty || true) then
 bif decide ((([] : List Int).length + r2.1.length) * 1 ≤ LIM) then
 (fun o => both o o) (
 (F26 ([b.2.2.1, (IntKind.wrap .u64 (b.2.2.2.length : Int))])).bind fun r8 =>
 bif decide (((([] : List Int) ++ r2.1).length + r8.length) * 1 ≤ LIM) then
 bif decide ((((([] : List Int) ++ r2.1) ++ r8).length + b.2.2.2.length) * 1 ≤ LIM) then
 (F22 (((([] : List Int) ++ r2.1) ++ r8) ++ b.2.2.2)).bind fun r9 =>
 bif inb (IntKind.wrap .i64 ((b.1.length : Int) - 1)) b.1.length then
 bif decide (b.2.2.1 ≤ (rd (.pair (.int .u64) (.slice 5 (.int .u8))) b.1 (IntKind.wrap .i64 ((b.1.length : Int) - 1))).1) then (
 some (bif decide (r9.2 = 2) then decide ((r9.1.length : Int) = 0) else false))
 else (
 some (bif decide (r9.2 = 0) then decide ((r9.1.length : Int) = (IntKind.wrap .i64 ((b.1.length : Int) + 1))) else false))
 else none
 else none
 else none)
 else none
 else none) (both (
 (both (
 bif (!r2.1.isEmpty || true) then
 bif decide ((([] : List Int).length + r2.1.length) * 1 ≤ LIM) then
 (F26 ([b.2.2.1, (IntKind.wrap .u64 (b.2.2.2.length : Int))])).bind fun r8 =>
 bif decide (((([] : List Int) ++ r2.1).length + r8.length) * 1 ≤ LIM) then
 bif decide ((((([] : List Int) ++ r2.1) ++ r8).length + b.2.2.2.length) * 1 ≤ LIM) then
 (F22 (((([] : List Int) ++ r2.1) ++ r8) ++ b.2.2.2)).bind fun r9 =>
 bif inb (IntKind.wrap .i64 ((b.1.length : Int) - 1)) b.1.length then
 bif decide (b.2.2.1 ≤ (rd (.pair (.int .u64) (.slice 5 (.int .u8))) b.1 (IntKind.wrap .i64 ((b.1.length : Int) - 1))).1) then (
 some (bif decide (r9.2 = 2) then decide ((r9.1.length : Int) = 0) else false))
 else (
 some (bif decide (r9.2 = 0) then decide ((r9.1.length : Int) = (IntKind.wrap .i64 ((b.1.length : Int) + 1))) else false))
 else none
 else none
 else none
 else none
 else none) (
 (fun o => both o o) (
 bif (!r2.1.isEmpty || true) then
 bif decide ((([] : List Int).length + r2.1.length) * 1 ≤ LIM) then
 (F26 ([b.2.2.1, (IntKind.wrap .u64 (b.2.2.2.length : Int))])).bind fun r8 =>
 bif decide (((([] : List Int) ++ r2.1).length + r8.length) * 1 ≤ LIM) then
 bif decide ((((([] : List Int) ++ r2.1) ++ r8).length + b.2.2.2.length) * 1 ≤ LIM) then
 (F22 (((([] : List Int) ++ r2.1) ++ r8) ++ b.2.2.2)).bind fun r9 =>
 bif inb (IntKind.wrap .i64 ((b.1.length : Int) - 1)) b.1.length then
 bif decide (b.2.2.1 ≤ (rd (.pair (.int .u64) (.slice 5 (.int .u8))) b.1 (IntKind.wrap .i64 ((b.1.length : Int) - 1))).1) then (
 some (bif decide (r9.2 = 2) then decide ((r9.1.length : Int) = 0) else false))
 else (
 some (bif decide (r9.2 = 0) then decide ((r9.1.length : Int) = (IntKind.wrap .i64 ((b.1.length : Int) + 1))) else false))
 else none
 else none
 else none
 else none
 else none)))) (
 (both (
 bif (!r2.1.isEmpty || true) then
 bif decide ((([] : List Int).length + r2.1.length) * 1 ≤ LIM) then
 (F26 ([b.2.2.1, (IntKind.wrap .u64 (b.2.2.2.length : Int))])).bind fun r8 =>
 bif decide (((([] : List Int) ++ r2.1).length + r8.length) * 1 ≤ LIM) then
 bif decide ((((([] : List Int) ++ r2.1) ++ r8).length + b.2.2.2.length) * 1 ≤ LIM) then
 (F22 (((([] : List Int) ++ r2.1) ++ r8) ++ b.2.2.2)).bind fun r9 =>
 bif inb (IntKind.wrap .i64 ((b.1.length : Int) - 1)) b.1.length then
 bif decide (b.2.2.1 ≤ (rd (.pair (.int .u64) (.slice 5 (.int .u8))) b.1 (IntKind.wrap .i64 ((b.1.length : Int) - 1))).1) then (
 some (bif decide (r9.2 = 2) then decide ((r9.1.length : Int) = 0) else false))
 else (
 some (bif decide (r9.2 = 0) then decide ((r9.1.length : Int) = (IntKind.wrap .i64 ((b.1.length : Int) + 1))) else false))
 else none
 else none
 else none
 else none
 else none) (
 (fun o => both o o) (
 bif (!r2.1.isEmpty || true) then
 bif decide ((([] : List Int).length + r2.1.length) * 1 ≤ LIM) then
 (F26 ([b.2.2.1, (IntKind.wrap .u64 (b.2.2.2.length : Int))])).bind fun r8 =>
 bif decide (((([] : List Int) ++ r2.1).length + r8.length) * 1 ≤ LIM) then
 bif decide ((((([] : List Int) ++ r2.1) ++ r8).length + b.2.2.2.length) * 1 ≤ LIM) then
 (F22 (((([] : List Int) ++ r2.1) ++ r8) ++ b.2.2.2)).bind fun r9 =>
 bif inb (IntKind.wrap .i64 ((b.1.length : Int) - 1)) b.1.length then
 bif decide (b.2.2.1 ≤ (rd (.pair (.int .u64) (.slice 5 (.int .u8))) b.1 (IntKind.wrap .i64 ((b.1.length : Int) - 1))).1) then (
 some (bif decide (r9.2 = 2) then decide ((r9.1.length : Int) = 0) else false))
 else (
 some (bif decide (r9.2 = 0) then decide ((r9.1.length : Int) = (IntKind.wrap .i64 ((b.1.length : Int) + 1))) else false))
 else none
 else none
 else none
 else none
 else none)))))))))
 else (
 some false))
 else (
 bif (decide (r4.2 = 0) == true) then (
 bif (decide ((b.1.length : Int) ≤ (r4.1.length : Int)) == false) then (
 bif inb (r4.1.length : Int) (b.1.length + 1) then
 (F16 (r4.1, b.1.take ((r4.1.length : Int).toNat))).bind fun r10 =>
 bif (!r10) then (
 some false)
 else (
 bif decide ((b.1.length : Int) = 0) then (
 some true)
 else (
 (both (
 bif (!r2.1.isEmpty || true) then
 bif decide ((([] : List Int).length + r2.1.length) * 1 ≤ LIM) then
 (fun o => both o o) (
 (F26 ([b.2.2.1, (IntKind.wrap .u64 (b.2.2.2.length : Int))])).bind fun r11 =>
 bif decide (((([] : List Int) ++ r2.1).length + r11.length) * 1 ≤ LIM) then
 bif decide ((((([] : List Int) ++ r2.1) ++ r11).length + b.2.2.2.length) * 1 ≤ LIM) then
 (F22 (((([] : List Int) ++ r2.1) ++ r11) ++ b.2.2.2)).bind fun r12 =>
 bif inb (IntKind.wrap .i64 ((b.1.length : Int) - 1)) b.1.length then
 bif decide (b.2.2.1 ≤ (rd (.pair (.int .u64) (.slice 5 (.int .u8))) b.1 (IntKind.wrap .i64 ((b.1.length : Int) - 1))).1) then (
 some (bif decide (r12.2 = 2) then decide ((r12.1.length : Int) = 0) else false))
 else (
 some (bif decide (r12.2 = 0) then decide ((r12.1.length : Int) = (IntKind.wrap .i64 ((b.1.length : Int) + 1))) else false))
 else none
 else none
 else none)
 else none
 else none) (both (
 (both (
 bif (!r2.1.isEmpty || true) then
 bif decide ((([] : List Int).length + r2.1.length) * 1 ≤ LIM) then
 (F26 ([b.2.2.1, (IntKind.wrap .u64 (b.2.2.2.length : Int))])).bind fun r11 =>
 bif decide (((([] : List Int) ++ r2.1).length + r11.length) * 1 ≤ LIM) then
 bif decide ((((([] : List Int) ++ r2.1) ++ r11).length + b.2.2.2.length) * 1 ≤ LIM) then
 (F22 (((([] : List Int) ++ r2.1) ++ r11) ++ b.2.2.2)).bind fun r12 =>
 bif inb (IntKind.wrap .i64 ((b.1.length : Int) - 1)) b.1.length then
 bif decide (b.2.2.1 ≤ (rd (.pair (.int .u64) (.slice 5 (.int .u8))) b.1 (IntKind.wrap .i64 ((b.1.length : Int) - 1))).1) then (
 some (bif decide (r12.2 = 2) then decide ((r12.1.length : Int) = 0) else false))
 else (
 some (bif decide (r12.2 = 0) then decide ((r12.1.length : Int) = (IntKind.wrap .i64 ((b.1.length : Int) + 1))) else false))
 else none
 else none
 else none
 else none
 else none) (
 (fun o => both o o) (
 bif (!r2.1.isEmpty || true) then
 bif decide ((([] : List Int).length + r2.1.length) * 1 ≤ LIM) then
 (F26 ([b.2.2.1, (IntKind.wrap .u64 (b.2.2.2.length : Int))])).bind fun r11 =>
 bif decide (((([] : List Int) ++ r2.1).length + r11.length) * 1 ≤ LIM) then
 bif decide ((((([] : List Int) ++ r2.1) ++ r11).length + b.2.2.2.length) * 1 ≤ LIM) then
 (F22 (((([] : List Int) ++ r2.1) ++ r11) ++ b.2.2.2)).bind fun r12 =>
 bif inb (IntKind.wrap .i64 ((b.1.length : Int) - 1)) b.1.length then
 bif decide (b.2.2.1 ≤ (rd (.pair (.int .u64) (.slice 5 (.int .u8))) b.1 (IntKind.wrap .i64 ((b.1.length : Int) - 1))).1) then (
 some (bif decide (r12.2 = 2) then decide ((r12.1.length : Int) = 0) else false))
 else (
 some (bif decide (r12.2 = 0) then decide ((r12.1.length : Int) = (IntKind.wrap .i64 ((b.1.length : Int) + 1))) else false))
 else none
 else none
 else none
 else none
 else none)))) (
 (both (
 bif (!r2.1.isEmpty || true) then
 bif decide ((([] : List Int).length + r2.1.length) * 1 ≤ LIM) then
 (F26 ([b.2.2.1, (IntKind.wrap .u64 (b.2.2.2.length : Int))])).bind fun r11 =>
 bif decide (((([] : List Int) ++ r2.1).length + r11.length) * 1 ≤ LIM) then
 bif decide ((((([] : List Int) ++ r2.1) ++ r11).length + b.2.2.2.length) * 1 ≤ LIM) then
 (F22 (((([] : List Int) ++ r2.1) ++ r11) ++ b.2.2.2)).bind fun r12 =>
 bif inb (IntKind.wrap .i64 ((b.1.length : Int) - 1)) b.1.length then
 bif decide (b.2.2.1 ≤ (rd (.pair (.int .u64) (.slice 5 (.int .u8))) b.1 (IntKind.wrap .i64 ((b.1.length : Int) - 1))).1) then (
 some (bif decide (r12.2 = 2) then decide ((r12.1.length : Int) = 0) else false))
 else (
 some (bif decide (r12.2 = 0) then decide ((r12.1.length : Int) = (IntKind.wrap .i64 ((b.1.length : Int) + 1))) else false))
 else none
 else none
 else none
 else none
 else none) (
 (fun o => both o o) (
 bif (!r2.1.isEmpty || true) then
 bif decide ((([] : List Int).length + r2.1.length) * 1 ≤ LIM) then
 (F26 ([b.2.2.1, (IntKind.wrap .u64 (b.2.2.2.length : Int))])).bind fun r11 =>
 bif decide (((([] : List Int) ++ r2.1).length + r11.length) * 1 ≤ LIM) then
 bif decide ((((([] : List Int) ++ r2.1) ++ r11).length + b.2.2.2.length) * 1 ≤ LIM) then
 (F22 (((([] : List Int) ++ r2.1) ++ r11) ++ b.2.2.2)).bind fun r12 =>
 bif inb (IntKind.wrap .i64 ((b.1.length : Int) - 1)) b.1.length then
 bif decide (b.2.2.1 ≤ (rd (.pair (.int .u64) (.slice 5 (.int .u8))) b.1 (IntKind.wrap .i64 ((b.1.length : Int) - 1))).1) then (
 some (bif decide (r12.2 = 2) then decide ((r12.1.length : Int) = 0) else false))
 else (
 some (bif decide (r12.2 = 0) then decide ((r12.1.length : Int) = (IntKind.wrap .i64 ((b.1.length : Int) + 1))) else false))
 else none
 else none
 else none
 else none
 else none))))))))
 else none)
 else (
 some false))
 else (
 bif decide ((b.1.length : Int) = 0) then (
 some true)
 else (
 (both (
 bif (!r2.1.isEmpty || true) then
 bif decide ((([] : List Int).length + r2.1.length) * 1 ≤ LIM) then
 (fun o => both o o) (
 (F26 ([b.2.2.1, (IntKind.wrap .u64 (b.2.2.2.length : Int))])).bind fun r13 =>
 bif decide (((([] : List Int) ++ r2.1).length + r13.length) * 1 ≤ LIM) then
 bif decide ((((([] : List Int) ++ r2.1) ++ r13).length + b.2.2.2.length) * 1 ≤ LIM) then
 (F22 (((([] : List Int) ++ r2.1) ++ r13) ++ b.2.2.2)).bind fun r14 =>
 bif inb (IntKind.wrap .i64 ((b.1.length : Int) - 1)) b.1.length then
 bif decide (b.2.2.1 ≤ (rd (.pair (.int .u64) (.slice 5 (.int .u8))) b.1 (IntKind.wrap .i64 ((b.1.length : Int) - 1))).1) then (
 some (bif decide (r14.2 = 2) then decide ((r14.1.length : Int) = 0) else false))
 else (
 some (bif decide (r14.2 = 0) then decide ((r14.1.length : Int) = (IntKind.wrap .i64 ((b.1.length : Int) + 1))) else false))
 else none
 else none
 else none)
 else none
 else none) (both (
 (both (
 bif (!r2.1.isEmpty || true) then
 bif decide ((([] : List Int).length + r2.1.length) * 1 ≤ LIM) then
 (F26 ([b.2.2.1, (IntKind.wrap .u64 (b.2.2.2.length : Int))])).bind fun r13 =>
 bif decide (((([] : List Int) ++ r2.1).length + r13.length) * 1 ≤ LIM) then
 bif decide ((((([] : List Int) ++ r2.1) ++ r13).length + b.2.2.2.length) * 1 ≤ LIM) then
 (F22 (((([] : List Int) ++ r2.1) ++ r13) ++ b.2.2.2)).bind fun r14 =>
 bif inb (IntKind.wrap .i64 ((b.1.length : Int) - 1)) b.1.length then
 bif decide (b.2.2.1 ≤ (rd (.pair (.int .u64) (.slice 5 (.int .u8))) b.1 (IntKind.wrap .i64 ((b.1.length : Int) - 1))).1) then (
 some (bif decide (r14.2 = 2) then decide ((r14.1.length : Int) = 0) else false))
 else (
 some (bif decide (r14.2 = 0) then decide ((r14.1.length : Int) = (IntKind.wrap .i64 ((b.1.length : Int) + 1))) else false))
 else none
 else none
 else none
 else none
 else none) (
 (fun o => both o o) (
 bif (!r2.1.isEmpty || true) then
 bif decide ((([] : List Int).length + r2.1.length) * 1 ≤ LIM) then
 (F26 ([b.2.2.1, (IntKind.wrap .u64 (b.2.2.2.length : Int))])).bind fun r13 =>
 bif decide (((([] : List Int) ++ r2.1).length + r13.length) * 1 ≤ LIM) then
 bif decide ((((([] : List Int) ++ r2.1) ++ r13).length + b.2.2.2.length) * 1 ≤ LIM) then
 (F22 (((([] : List Int) ++ r2.1) ++ r13) ++ b.2.2.2)).bind fun r14 =>
 bif inb (IntKind.wrap .i64 ((b.1.length : Int) - 1)) b.1.length then
 bif decide (b.2.2.1 ≤ (rd (.pair (.int .u64) (.slice 5 (.int .u8))) b.1 (IntKind.wrap .i64 ((b.1.length : Int) - 1))).1) then (
 some (bif decide (r14.2 = 2) then decide ((r14.1.length : Int) = 0) else false))
 else (
 some (bif decide (r14.2 = 0) then decide ((r14.1.length : Int) = (IntKind.wrap .i64 ((b.1.length : Int) + 1))) else false))
 else none
 else none
 else none
 else none
 else none)))) (
 (both (
 bif (!r2.1.isEmpty || true) then
 bif decide ((([] : List Int).length + r2.1.length) * 1 ≤ LIM) then
 (F26 ([b.2.2.1, (IntKind.wrap .u64 (b.2.2.2.length : Int))])).bind fun r13 =>
 bif decide (((([] : List Int) ++ r2.1).length + r13.length) * 1 ≤ LIM) then
 bif decide ((((([] : List Int) ++ r2.1) ++ r13).length + b.2.2.2.length) * 1 ≤ LIM) then
 (F22 (((([] : List Int) ++ r2.1) ++ r13) ++ b.2.2.2)).bind fun r14 =>
 bif inb (IntKind.wrap .i64 ((b.1.length : Int) - 1)) b.1.length then
 bif decide (b.2.2.1 ≤ (rd (.pair (.int .u64) (.slice 5 (.int .u8))) b.1 (IntKind.wrap .i64 ((b.1.length : Int) - 1))).1) then (
 some (bif decide (r14.2 = 2) then decide ((r14.1.length : Int) = 0) else false))
 else (
 some (bif decide (r14.2 = 0) then decide ((r14.1.length : Int) = (IntKind.wrap .i64 ((b.1.length : Int) + 1))) else false))
 else none
 else none
 else none
 else none
 else none) (
 (fun o => both o o) (
 bif (!r2.1.isEmpty || true) then
 bif decide ((([] : List Int).length + r2.1.length) * 1 ≤ LIM) then
 (F26 ([b.2.2.1, (IntKind.wrap .u64 (b.2.2.2.length : Int))])).bind fun r13 =>
 bif decide (((([] : List Int) ++ r2.1).length + r13.length) * 1 ≤ LIM) then
 bif decide ((((([] : List Int) ++ r2.1) ++ r13).length + b.2.2.2.length) * 1 ≤ LIM) then
 (F22 (((([] : List Int) ++ r2.1) ++ r13) ++ b.2.2.2)).bind fun r14 =>
 bif inb (IntKind.wrap .i64 ((b.1.length : Int) - 1)) b.1.length then
 bif decide (b.2.2.1 ≤ (rd (.pair (.int .u64) (.slice 5 (.int .u8))) b.1 (IntKind.wrap .i64 ((b.1.length : Int) - 1))).1) then (
 some (bif decide (r14.2 = 2) then decide ((r14.1.length : Int) = 0) else false))
 else (
 some (bif decide (r14.2 = 0) then decide ((r14.1.length : Int) = (IntKind.wrap .i64 ((b.1.length : Int) + 1))) else false))
 else none
 else none
 else none
 else none
 else none)))))))))
 else none)
 else (
 bif decide ((b.1.length : Int) = 0) then (
 some true)
 else (
 (both (
 bif (!r2.1.isEmpty || true) then
 bif decide ((([] : List Int).length + r2.1.length) * 1 ≤ LIM) then
 (fun o => both o o) (
 (F26 ([b.2.2.1, (IntKind.wrap .u64 (b.2.2.2.length : Int))])).bind fun r15 =>
 bif decide (((([] : List Int) ++ r2.1).length + r15.length) * 1 ≤ LIM) then
 bif decide ((((([] : List Int) ++ r2.1) ++ r15).length + b.2.2.2.length) * 1 ≤ LIM) then
 (F22 (((([] : List Int) ++ r2.1) ++ r15) ++ b.2.2.2)).bind fun r16 =>
 bif inb (IntKind.wrap .i64 ((b.1.length : Int) - 1)) b.1.length then
 bif decide (b.2.2.1 ≤ (rd (.pair (.int .u64) (.slice 5 (.int .u8))) b.1 (IntKind.wrap .i64 ((b.1.length : Int) - 1))).1) then (
 some (bif decide (r16.2 = 2) then decide ((r16.1.length : Int) = 0) else false))
 else (
 some (bif decide (r16.2 = 0) then decide ((r16.1.length : Int) = (IntKind.wrap .i64 ((b.1.length : Int) + 1))) else false))
 else none
 else none
 else none)
 else none
 else none) (both (
 (both (
 bif (!r2.1.isEmpty || true) then
 bif decide ((([] : List Int).length + r2.1.length) * 1 ≤ LIM) then
 (F26 ([b.2.2.1, (IntKind.wrap .u64 (b.2.2.2.length : Int))])).bind fun r15 =>
 bif decide (((([] : List Int) ++ r2.1).length + r15.length) * 1 ≤ LIM) then
 bif decide ((((([] : List Int) ++ r2.1) ++ r15).length + b.2.2.2.length) * 1 ≤ LIM) then
 (F22 (((([] : List Int) ++ r2.1) ++ r15) ++ b.2.2.2)).bind fun r16 =>
 bif inb (IntKind.wrap .i64 ((b.1.length : Int) - 1)) b.1.length then
 bif decide (b.2.2.1 ≤ (rd (.pair (.int .u64) (.slice 5 (.int .u8))) b.1 (IntKind.wrap .i64 ((b.1.length : Int) - 1))).1) then (
 some (bif decide (r16.2 = 2) then decide ((r16.1.length : Int) = 0) else false))
 else (
 some (bif decide (r16.2 = 0) then decide ((r16.1.length : Int) = (IntKind.wrap .i64 ((b.1.length : Int) + 1))) else false))
 else none
 else none
 else none
 else none
 else none) (
 (fun o => both o o) (
 bif (!r2.1.isEmpty || true) then
 bif decide ((([] : List Int).length + r2.1.length) * 1 ≤ LIM) then
 (F26 ([b.2.2.1, (IntKind.wrap .u64 (b.2.2.2.length : Int))])).bind fun r15 =>
 bif decide (((([] : List Int) ++ r2.1).length + r15.length) * 1 ≤ LIM) then
 bif decide ((((([] : List Int) ++ r2.1) ++ r15).length + b.2.2.2.length) * 1 ≤ LIM) then
 (F22 (((([] : List Int) ++ r2.1) ++ r15) ++ b.2.2.2)).bind fun r16 =>
 bif inb (IntKind.wrap .i64 ((b.1.length : Int) - 1)) b.1.length then
 bif decide (b.2.2.1 ≤ (rd (.pair (.int .u64) (.slice 5 (.int .u8))) b.1 (IntKind.wrap .i64 ((b.1.length : Int) - 1))).1) then (
 some (bif decide (r16.2 = 2) then decide ((r16.1.length : Int) = 0) else false))
 else (
 some (bif decide (r16.2 = 0) then decide ((r16.1.length : Int) = (IntKind.wrap .i64 ((b.1.length : Int) + 1))) else false))
 else none
 else none
 else none
 else none
 else none)))) (
 (both (
 bif (!r2.1.isEmpty || true) then
 bif decide ((([] : List Int).length + r2.1.length) * 1 ≤ LIM) then
 (F26 ([b.2.2.1, (IntKind.wrap .u64 (b.2.2.2.length : Int))])).bind fun r15 =>
 bif decide (((([] : List Int) ++ r2.1).length + r15.length) * 1 ≤ LIM) then
 bif decide ((((([] : List Int) ++ r2.1) ++ r15).length + b.2.2.2.length) * 1 ≤ LIM) then
 (F22 (((([] : List Int) ++ r2.1) ++ r15) ++ b.2.2.2)).bind fun r16 =>
 bif inb (IntKind.wrap .i64 ((b.1.length : Int) - 1)) b.1.length then
 bif decide (b.2.2.1 ≤ (rd (.pair (.int .u64) (.slice 5 (.int .u8))) b.1 (IntKind.wrap .i64 ((b.1.length : Int) - 1))).1) then (
 some (bif decide (r16.2 = 2) then decide ((r16.1.length : Int) = 0) else false))
 else (
 some (bif decide (r16.2 = 0) then decide ((r16.1.length : Int) = (IntKind.wrap .i64 ((b.1.length : Int) + 1))) else false))
 else none
 else none
 else none
 else none
 else none) (
 (fun o => both o o) (
 bif (!r2.1.isEmpty || true) then
 bif decide ((([] : List Int).length + r2.1.length) * 1 ≤ LIM) then
 (F26 ([b.2.2.1, (IntKind.wrap .u64 (b.2.2.2.length : Int))])).bind fun r15 =>
 bif decide (((([] : List Int) ++ r2.1).length + r15.length) * 1 ≤ LIM) then
 bif decide ((((([] : List Int) ++ r2.1) ++ r15).length + b.2.2.2.length) * 1 ≤ LIM) then
 (F22 (((([] : List Int) ++ r2.1) ++ r15) ++ b.2.2.2)).bind fun r16 =>
 bif inb (IntKind.wrap .i64 ((b.1.length : Int) - 1)) b.1.length then
 bif decide (b.2.2.1 ≤ (rd (.pair (.int .u64) (.slice 5 (.int .u8))) b.1 (IntKind.wrap .i64 ((b.1.length : Int) - 1))).1) then (
 some (bif decide (r16.2 = 2) then decide ((r16.1.length : Int) = 0) else false))
 else (
 some (bif decide (r16.2 = 0) then decide ((r16.1.length : Int) = (IntKind.wrap .i64 ((b.1.length : Int) + 1))) else false))
 else none
 else none
 else none
 else none
 else none))))))))))
theorem ev7 (b : List (Int × List Int) × Int × (Int × List Int)) : evF C6 H7 Try.f7 (encs [.one (.slice 26 (.pair (.int .u64) (.slice 5 (.int .u8)))), .one (.int .i64), .agg (.pair (.int .u64) (.slice 5 (.int .u8)))] b) (RT.dec (.one (.leaf (.bool)))) = F7 b := by kernel_rfl
noncomputable def C7 : Ctx := Ctx.add C6 7 [.one (.slice 26 (.pair (.int .u64) (.slice 5 (.int .u8)))), .one (.int .i64), .agg (.pair (.int .u64) (.slice 5 (.int .u8)))] (.one (.leaf (.bool))) F7
theorem s7 : C7.Sound := Ctx.Sound.add (C := C6) mixed s6 Try.func7 ev7
end Go.Proofs.Ytacebemdonoliaa.R4
