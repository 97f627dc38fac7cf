/- Part of a proof: what the program's functions come to. -/
import Derived.Test.YtacebemdonoliaaFwCtx
import Derived.Test.YtacebemdonoliaaProg
import Derived.KernelRfl
set_option linter.unusedVariables false
set_option linter.unusedSimpArgs false
set_option maxRecDepth 100000
namespace Go.Proofs.Ytacebemdonoliaa.R4
open Go Go.Fw Go.Proofs
noncomputable def C_ : Ctx := Ctx.nil Try.prog
theorem s_ : C_.Sound := Ctx.nil_sound _
theorem mixed : Try.prog.follows .mixedOrders = true := by kernel_rfl
/-! damson/token.Get$1 -/
def H92 : Nat → Head := fun _ => ⟨[], []⟩
noncomputable def F92 (b : Int) : Option Int :=
 bif decide (b < 2) then (
 some (IntKind.wrap .u64 (1 + (IntKind.wrap .u64 b))))
 else (
 some (IntKind.wrap .u64 (16 + (IntKind.wrap .u64 (IntKind.wrap .i64 (b - 2))))))
theorem ev92 (b : Int) : evF C_ H92 Try.f92 (encs [.one (.int .i64)] b) (RT.dec (.one (.leaf (.int .u64)))) = F92 b := by kernel_rfl
noncomputable def C92 : Ctx := Ctx.add C_ 92 [.one (.int .i64)] (.one (.leaf (.int .u64))) F92
theorem s92 : C92.Sound := Ctx.Sound.add (C := C_) mixed s_ Try.func92 ev92
/-! damson/reply.Check$1 -/
def H56 : Nat → Head := fun _ => ⟨[], []⟩
noncomputable def F56 (b : (Int × (Int × (Int × Int)))) : Option Bool :=
 some (bif decide (b.2.1 < 0) then true else decide (16 ≤ b.2.1))
theorem ev56 (b : (Int × (Int × (Int × Int)))) : evF C92 H56 Try.f56 (encs [.agg (.pair (.int .u64) (.pair (.int .i64) (.pair (.int .u64) (.int .u64))))] b) (RT.dec (.one (.leaf (.bool)))) = F56 b := by kernel_rfl
noncomputable def C56 : Ctx := Ctx.add C92 56 [.agg (.pair (.int .u64) (.pair (.int .i64) (.pair (.int .u64) (.int .u64))))] (.one (.leaf (.bool))) F56
theorem s56 : C56.Sound := Ctx.Sound.add (C := C92) mixed s92 Try.func56 ev56
/-! slices.Max[[]uint64,uint64] -/
def H95 : Nat → Head
  | 5 => ⟨[.data 3 (.int .u64), .data 4 (.int .i64)], []⟩
  | _ => ⟨[], []⟩
noncomputable def F95 (b : List Int) : Option Int :=
 bif decide ((b.length : Int) < 1) then (
 none)
 else (
 bif inb 0 b.length then
 lfp (fun (rec1 : (Int × Int) → Option Int) (x1 : Int × Int) =>
  bif decide (x1.2 < (b.length : Int)) then (
  bif inb x1.2 b.length then
  rec1 ((if x1.1 < (rd (.int .u64) b x1.2) then (rd (.int .u64) b x1.2) else x1.1), (IntKind.wrap .i64 (x1.2 + 1)))
  else none)
  else (
  some x1.1)) ((rd (.int .u64) b 0), 1)
 else none)
theorem ev95 (b : List Int) : evF C56 H95 Try.f95 (encs [.one (.slice 23 (.int .u64))] b) (RT.dec (.one (.leaf (.int .u64)))) = F95 b := by kernel_rfl
noncomputable def C95 : Ctx := Ctx.add C56 95 [.one (.slice 23 (.int .u64))] (.one (.leaf (.int .u64))) F95
theorem s95 : C95.Sound := Ctx.Sound.add (C := C56) mixed s56 Try.func95 ev95
/-! damson/money.Check -/
def H89 : Nat → Head := fun _ => ⟨[], []⟩
noncomputable def F89 (b : List Int) : Option Int :=
 bif (decide (0 < (b.length : Int)) == true) then (
 (F95 b).bind fun r1 =>
 bif decide (4611686018427387904 < r1) then (
 some 1)
 else (
 some 0))
 else (
 some 0)
theorem ev89 (b : List Int) : evF C95 H89 Try.f89 (encs [.one (.slice 23 (.int .u64))] b) (RT.dec (.one (.leaf (.int .i64)))) = F89 b := by kernel_rfl
noncomputable def C89 : Ctx := Ctx.add C95 89 [.one (.slice 23 (.int .u64))] (.one (.leaf (.int .i64))) F89
theorem s89 : C89.Sound := Ctx.Sound.add (C := C95) mixed s95 Try.func89 ev89
/-! damson/caveat.Check -/
def H76 : Nat → Head := fun _ => ⟨[], []⟩
noncomputable def F76 (b : (Int × (Int × Int))) : Option Int :=
 bif decide (b.1 = 4) then (
 (F89 ([b.2.1])).bind fun r1 =>
 some r1)
 else (
 bif decide (b.1 = 3) then (
 (F89 ([b.2.1])).bind fun r2 =>
 bif (!decide (r2 = 0)) then (
 some 1)
 else (
 bif (!decide (b.2.2 = 0)) then (
 some 1)
 else (
 some 0)))
 else (
 bif decide (b.1 = 2) then (
 bif decide (0 < (b.2.1 / 2 ^ (min (16 : Int).toNat 64))) then (
 some 1)
 else (
 bif (!decide (b.2.2 = 0)) then (
 some 1)
 else (
 some 0)))
 else (
 bif decide (b.1 = 1) then (
 bif decide (b.1 = 1) then (
 bif (!decide (b.2.2 = 0)) then (
 some 1)
 else (
 some 0))
 else (
 some 1))
 else (
 bif decide (b.1 = 5) then (
 bif (!decide (b.2.2 = 0)) then (
 some 1)
 else (
 some 0))
 else (
 some 1)))))
theorem ev76 (b : (Int × (Int × Int))) : evF C89 H76 Try.f76 (encs [.agg (.pair (.int .i64) (.pair (.int .u64) (.int .u64)))] b) (RT.dec (.one (.leaf (.int .i64)))) = F76 b := by kernel_rfl
noncomputable def C76 : Ctx := Ctx.add C89 76 [.agg (.pair (.int .i64) (.pair (.int .u64) (.int .u64)))] (.one (.leaf (.int .i64))) F76
theorem s76 : C76.Sound := Ctx.Sound.add (C := C89) mixed s89 Try.func76 ev76
/-! damson/token.Check$1 -/
def H75 : Nat → Head := fun _ => ⟨[], []⟩
noncomputable def F75 (b : (Int × (Int × Int))) : Option Bool :=
 (F76 (b.1, (b.2.1, b.2.2))).bind fun r1 =>
 some (!decide (r1 = 0))
theorem ev75 (b : (Int × (Int × Int))) : evF C76 H75 Try.f75 (encs [.agg (.pair (.int .i64) (.pair (.int .u64) (.int .u64)))] b) (RT.dec (.one (.leaf (.bool)))) = F75 b := by kernel_rfl
noncomputable def C75 : Ctx := Ctx.add C76 75 [.agg (.pair (.int .i64) (.pair (.int .u64) (.int .u64)))] (.one (.leaf (.bool))) F75
theorem s75 : C75.Sound := Ctx.Sound.add (C := C76) mixed s76 Try.func75 ev75
/-! cmp.isNaN[uint64] -/
def H86 : Nat → Head := fun _ => ⟨[], []⟩
noncomputable def F86 (b : Int) : Option Bool :=
 some (!decide (b = b))
theorem ev86 (b : Int) : evF C75 H86 Try.f86 (encs [.one (.int .u64)] b) (RT.dec (.one (.leaf (.bool)))) = F86 b := by kernel_rfl
noncomputable def C86 : Ctx := Ctx.add C75 86 [.one (.int .u64)] (.one (.leaf (.bool))) F86
theorem s86 : C86.Sound := Ctx.Sound.add (C := C75) mixed s75 Try.func86 ev86
/-! cmp.Compare[uint64] -/
def H69 : Nat → Head := fun _ => ⟨[], []⟩
noncomputable def F69 (b : Int × Int) : Option Int :=
 (F86 b.1).bind fun r1 =>
 (F86 b.2).bind fun r2 =>
 bif r1 then (
 bif r2 then (
 some 0)
 else (
 some (-1)))
 else (
 bif r2 then (
 some 1)
 else (
 bif decide (b.1 < b.2) then (
 some (-1))
 else (
 bif decide (b.2 < b.1) then (
 some 1)
 else (
 some 0))))
theorem ev69 (b : Int × Int) : evF C86 H69 Try.f69 (encs [.one (.int .u64), .one (.int .u64)] b) (RT.dec (.one (.leaf (.int .i64)))) = F69 b := by kernel_rfl
noncomputable def C69 : Ctx := Ctx.add C86 69 [.one (.int .u64), .one (.int .u64)] (.one (.leaf (.int .i64))) F69
theorem s69 : C69.Sound := Ctx.Sound.add (C := C86) mixed s86 Try.func69 ev69
/-! damson/tlv.order -/
def H42 : Nat → Head := fun _ => ⟨[], []⟩
noncomputable def F42 (b : (Int × List Int) × Int) : Option Int :=
 (F69 (b.1.1, b.2)).bind fun r1 =>
 some r1
theorem ev42 (b : (Int × List Int) × Int) : evF C69 H42 Try.f42 (encs [.agg (.pair (.int .u64) (.slice 5 (.int .u8))), .one (.int .u64)] b) (RT.dec (.one (.leaf (.int .i64)))) = F42 b := by kernel_rfl
noncomputable def C42 : Ctx := Ctx.add C69 42 [.agg (.pair (.int .u64) (.slice 5 (.int .u8))), .one (.int .u64)] (.one (.leaf (.int .i64))) F42
theorem s42 : C42.Sound := Ctx.Sound.add (C := C69) mixed s69 Try.func42 ev42
/-! damson/tlv.Check -/
def H19 : Nat → Head
  | 4 => ⟨[.data 2 (.int .i64), .data 10 (.int .i64)], []⟩
  | 5000006 => ⟨[], [0, 0, 1, 1, 2, 2, 4, 4, 8, 8, 16, 16, 48, 48, 80, 80, 128, 128, 128, 128, 640, 640, 1408, 1408, 2176, 2176, 128, 128, 8320, 8320, 20608, 20608, 32896, 32896, 65680, 65680, 131088, 131088]⟩
  | _ => ⟨[], []⟩
noncomputable def F19 (b : List (Int × List Int)) : Option Int :=
 bif decide (64 < (b.length : Int)) then (
 some 1)
 else (
 lfp (fun (rec1 : (Int × Int) → Option Int) (x1 : Int × Int) =>
  bif decide (x1.2 < (b.length : Int)) then (
  bif inb x1.2 b.length then
  bif (decide (4096 < (((rd (.pair (.int .u64) (.slice 5 (.int .u8))) b x1.2).2).length : Int)) == false) then (
  bif (decide (0 < x1.2) == true) then (
  bif inb (IntKind.wrap .i64 (x1.2 - 1)) b.length then
  (F42 (((rd (.pair (.int .u64) (.slice 5 (.int .u8))) b (IntKind.wrap .i64 (x1.2 - 1))).1, (rd (.pair (.int .u64) (.slice 5 (.int .u8))) b (IntKind.wrap .i64 (x1.2 - 1))).2), (rd (.pair (.int .u64) (.slice 5 (.int .u8))) b x1.2).1)).bind fun r2 =>
  bif decide (0 ≤ r2) then (
  some 1)
  else (
  rec1 (x1.1, (IntKind.wrap .i64 (x1.2 + 1))))
  else none)
  else (
  (fun o => both o o) (
  rec1 (x1.1, (IntKind.wrap .i64 (x1.2 + 1))))))
  else (
  (fun o => both o o) (
  some 1))
  else none)
  else (
  some 0)) (0, 0))
theorem ev19 (b : List (Int × List Int)) : evF C42 H19 Try.f19 (encs [.one (.slice 26 (.pair (.int .u64) (.slice 5 (.int .u8))))] b) (RT.dec (.one (.leaf (.int .i64)))) = F19 b := by kernel_rfl
noncomputable def C19 : Ctx := Ctx.add C42 19 [.one (.slice 26 (.pair (.int .u64) (.slice 5 (.int .u8))))] (.one (.leaf (.int .i64))) F19
theorem s19 : C19.Sound := Ctx.Sound.add (C := C42) mixed s42 Try.func19 ev19
/-! damson/bigsize.first -/
def H50 : Nat → Head := fun _ => ⟨[], []⟩
noncomputable def F50 (b : Int) : Option Int :=
 bif decide (b < 253) then (
 some (IntKind.wrap .u8 b))
 else (
 bif decide (b < 65536) then (
 some 253)
 else (
 bif decide (b < 4294967296) then (
 some 254)
 else (
 some 255)))
theorem ev50 (b : Int) : evF C19 H50 Try.f50 (encs [.one (.int .u64)] b) (RT.dec (.one (.leaf (.int .u8)))) = F50 b := by kernel_rfl
noncomputable def C50 : Ctx := Ctx.add C19 50 [.one (.int .u64)] (.one (.leaf (.int .u8))) F50
theorem s50 : C50.Sound := Ctx.Sound.add (C := C19) mixed s19 Try.func50 ev50
/-! damson/bigsize.wide -/
def H51 : Nat → Head := fun _ => ⟨[], []⟩
noncomputable def F51 (b : Int) : Option Int :=
 bif decide (b < 253) then (
 some 0)
 else (
 some (IntKind.wrap .i64 (2 * 2 ^ (min (IntKind.wrap .u8 (b - 253)).toNat 64))))
theorem ev51 (b : Int) : evF C50 H51 Try.f51 (encs [.one (.int .u8)] b) (RT.dec (.one (.leaf (.int .i64)))) = F51 b := by kernel_rfl
noncomputable def C51 : Ctx := Ctx.add C50 51 [.one (.int .u8)] (.one (.leaf (.int .i64))) F51
theorem s51 : C51.Sound := Ctx.Sound.add (C := C50) mixed s50 Try.func51 ev51
/-! damson/bigsize.Put -/
def H26 : Nat → Head
  | 3 => ⟨[.row 3 14339 5 (.int .u8), .data 10 (.int .i64)], []⟩
  | 8 => ⟨[.row 3 14344 5 (.int .u8), .data 22 (.int .i64)], [73728]⟩
  | _ => ⟨[], []⟩
noncomputable def F26 (b : List Int) : Option (List Int) :=
 lfp (fun (rec1 : (List Int × Int) → Option (List Int)) (x1 : List Int × Int) =>
  bif decide (x1.2 < (b.length : Int)) then (
  bif inb x1.2 b.length then
  (F50 (rd (.int .u64) b x1.2)).bind fun r2 =>
  bif decide ((x1.1.length + 1) * 1 ≤ LIM) then
  (F51 r2).bind fun r3 =>
  lfp (fun (rec4 : (List Int × Int) → Option (List Int)) (x4 : List Int × Int) =>
   bif decide (x4.2 < r3) then (
   (F51 r2).bind fun r5 =>
   bif decide (0 ≤ (IntKind.wrap .i64 (8 * (IntKind.wrap .i64 ((IntKind.wrap .i64 (r5 - 1)) - x4.2))))) then
   bif decide ((x4.1.length + 1) * 1 ≤ LIM) then
   rec4 ((x4.1 ++ ([(IntKind.wrap .u8 ((rd (.int .u64) b x1.2) / 2 ^ (min (IntKind.wrap .i64 (8 * (IntKind.wrap .i64 ((IntKind.wrap .i64 (r5 - 1)) - x4.2)))).toNat 64)))])), (IntKind.wrap .i64 (x4.2 + 1)))
   else none
   else none)
   else (
   rec1 (x4.1, (IntKind.wrap .i64 (x1.2 + 1))))) ((x1.1 ++ ([r2])), 0)
  else none
  else none)
  else (
  some x1.1)) (([] : List Int), 0)
theorem ev26 (b : List Int) : evF C51 H26 Try.f26 (encs [.oneA (.slice 23 (.int .u64))] b) (RT.dec (.one (.leaf (.fresh 5 (.int .u8))))) = F26 b := by kernel_rfl
noncomputable def C26 : Ctx := Ctx.addA C51 26 [.oneA (.slice 23 (.int .u64))] (.one (.leaf (.fresh 5 (.int .u8)))) F26
theorem s26 : C26.Sound := Ctx.Sound.addA (C := C51) mixed s51 Try.func26 ev26
/-! damson/tlv.Put -/
def H20 : Nat → Head
  | 5 => ⟨[.row 2 10245 5 (.int .u8), .data 13 (.int .i64)], []⟩
  | 5000007 => ⟨[], [0, 0, 0, 0, 2, 2, 0, 0, 8, 8, 16, 16, 32, 32, 68, 68, 128, 128, 257, 257, 0, 0, 1024, 1024, 2560, 2560, 8191, 4097]⟩
  | _ => ⟨[], []⟩
noncomputable def F20 (b : List (Int × List Int)) : Option (List Int × Int) :=
 (F19 b).bind fun r1 =>
 bif (!decide (r1 = 0)) then (
 some (([] : List Int), r1))
 else (
 lfp (fun (rec2 : (List Int × Int) → Option (List Int × Int)) (x2 : List Int × Int) =>
  bif decide (x2.2 < (b.length : Int)) then (
  bif inb x2.2 b.length then
  (both (
  (both (
  (both (
  (both (
  (F26 ([(rd (.pair (.int .u64) (.slice 5 (.int .u8))) b x2.2).1, (IntKind.wrap .u64 (((rd (.pair (.int .u64) (.slice 5 (.int .u8))) b x2.2).2).length : Int))])).bind fun r3 =>
  (fun o => both o o) (
  bif decide ((x2.1.length + r3.length) * 1 ≤ LIM) then
  bif decide (((x2.1 ++ r3).length + ((rd (.pair (.int .u64) (.slice 5 (.int .u8))) b x2.2).2).length) * 1 ≤ LIM) then
  rec2 (((x2.1 ++ r3) ++ ((rd (.pair (.int .u64) (.slice 5 (.int .u8))) b x2.2).2)), (IntKind.wrap .i64 (x2.2 + 1)))
  else none
  else none)) (
  (F26 ([(rd (.pair (.int .u64) (.slice 5 (.int .u8))) b x2.2).1, (IntKind.wrap .u64 (((rd (.pair (.int .u64) (.slice 5 (.int .u8))) b x2.2).2).length : Int))])).bind fun r3 =>
  bif decide ((x2.1.length + r3.length) * 1 ≤ LIM) then
  bif decide (((x2.1 ++ r3).length + ((rd (.pair (.int .u64) (.slice 5 (.int .u8))) b x2.2).2).length) * 1 ≤ LIM) then
  rec2 (((x2.1 ++ r3) ++ ((rd (.pair (.int .u64) (.slice 5 (.int .u8))) b x2.2).2)), (IntKind.wrap .i64 (x2.2 + 1)))
  else none
  else none))) (
  (F26 ([(rd (.pair (.int .u64) (.slice 5 (.int .u8))) b x2.2).1, (IntKind.wrap .u64 (((rd (.pair (.int .u64) (.slice 5 (.int .u8))) b x2.2).2).length : Int))])).bind fun r3 =>
  bif decide ((x2.1.length + r3.length) * 1 ≤ LIM) then
  bif decide (((x2.1 ++ r3).length + ((rd (.pair (.int .u64) (.slice 5 (.int .u8))) b x2.2).2).length) * 1 ≤ LIM) then
  rec2 (((x2.1 ++ r3) ++ ((rd (.pair (.int .u64) (.slice 5 (.int .u8))) b x2.2).2)), (IntKind.wrap .i64 (x2.2 + 1)))
  else none
  else none))) (
  (F26 ([(rd (.pair (.int .u64) (.slice 5 (.int .u8))) b x2.2).1, (IntKind.wrap .u64 (((rd (.pair (.int .u64) (.slice 5 (.int .u8))) b x2.2).2).length : Int))])).bind fun r3 =>
  bif decide ((x2.1.length + r3.length) * 1 ≤ LIM) then
  bif decide (((x2.1 ++ r3).length + ((rd (.pair (.int .u64) (.slice 5 (.int .u8))) b x2.2).2).length) * 1 ≤ LIM) then
  rec2 (((x2.1 ++ r3) ++ ((rd (.pair (.int .u64) (.slice 5 (.int .u8))) b x2.2).2)), (IntKind.wrap .i64 (x2.2 + 1)))
  else none
  else none))) (both (
  (both (
  (both (
  (both (
  (F26 ([(rd (.pair (.int .u64) (.slice 5 (.int .u8))) b x2.2).1, (IntKind.wrap .u64 (((rd (.pair (.int .u64) (.slice 5 (.int .u8))) b x2.2).2).length : Int))])).bind fun r3 =>
  (fun o => both o o) (
  bif decide ((x2.1.length + r3.length) * 1 ≤ LIM) then
  bif decide (((x2.1 ++ r3).length + ((rd (.pair (.int .u64) (.slice 5 (.int .u8))) b x2.2).2).length) * 1 ≤ LIM) then
  rec2 (((x2.1 ++ r3) ++ ((rd (.pair (.int .u64) (.slice 5 (.int .u8))) b x2.2).2)), (IntKind.wrap .i64 (x2.2 + 1)))
  else none
  else none)) (
  (F26 ([(rd (.pair (.int .u64) (.slice 5 (.int .u8))) b x2.2).1, (IntKind.wrap .u64 (((rd (.pair (.int .u64) (.slice 5 (.int .u8))) b x2.2).2).length : Int))])).bind fun r3 =>
  bif decide ((x2.1.length + r3.length) * 1 ≤ LIM) then
  bif decide (((x2.1 ++ r3).length + ((rd (.pair (.int .u64) (.slice 5 (.int .u8))) b x2.2).2).length) * 1 ≤ LIM) then
  rec2 (((x2.1 ++ r3) ++ ((rd (.pair (.int .u64) (.slice 5 (.int .u8))) b x2.2).2)), (IntKind.wrap .i64 (x2.2 + 1)))
  else none
  else none))) (
  (F26 ([(rd (.pair (.int .u64) (.slice 5 (.int .u8))) b x2.2).1, (IntKind.wrap .u64 (((rd (.pair (.int .u64) (.slice 5 (.int .u8))) b x2.2).2).length : Int))])).bind fun r3 =>
  bif decide ((x2.1.length + r3.length) * 1 ≤ LIM) then
  bif decide (((x2.1 ++ r3).length + ((rd (.pair (.int .u64) (.slice 5 (.int .u8))) b x2.2).2).length) * 1 ≤ LIM) then
  rec2 (((x2.1 ++ r3) ++ ((rd (.pair (.int .u64) (.slice 5 (.int .u8))) b x2.2).2)), (IntKind.wrap .i64 (x2.2 + 1)))
  else none
  else none))) (
  (F26 ([(rd (.pair (.int .u64) (.slice 5 (.int .u8))) b x2.2).1, (IntKind.wrap .u64 (((rd (.pair (.int .u64) (.slice 5 (.int .u8))) b x2.2).2).length : Int))])).bind fun r3 =>
  bif decide ((x2.1.length + r3.length) * 1 ≤ LIM) then
  bif decide (((x2.1 ++ r3).length + ((rd (.pair (.int .u64) (.slice 5 (.int .u8))) b x2.2).2).length) * 1 ≤ LIM) then
  rec2 (((x2.1 ++ r3) ++ ((rd (.pair (.int .u64) (.slice 5 (.int .u8))) b x2.2).2)), (IntKind.wrap .i64 (x2.2 + 1)))
  else none
  else none))) (
  (fun o => both o o) (
  (F26 ([(rd (.pair (.int .u64) (.slice 5 (.int .u8))) b x2.2).1, (IntKind.wrap .u64 (((rd (.pair (.int .u64) (.slice 5 (.int .u8))) b x2.2).2).length : Int))])).bind fun r3 =>
  bif decide ((x2.1.length + r3.length) * 1 ≤ LIM) then
  bif decide (((x2.1 ++ r3).length + ((rd (.pair (.int .u64) (.slice 5 (.int .u8))) b x2.2).2).length) * 1 ≤ LIM) then
  rec2 (((x2.1 ++ r3) ++ ((rd (.pair (.int .u64) (.slice 5 (.int .u8))) b x2.2).2)), (IntKind.wrap .i64 (x2.2 + 1)))
  else none
  else none))))
  else none)
  else (
  bif decide (65535 < (x2.1.length : Int)) then (
  some (([] : List Int), 4))
  else (
  some (x2.1, 0)))) (([] : List Int), 0))
theorem ev20 (b : List (Int × List Int)) : evF C26 H20 Try.f20 (encs [.oneA (.slice 26 (.pair (.int .u64) (.slice 5 (.int .u8))))] b) (RT.dec (.tup [.leaf (.fresh 5 (.int .u8)), .leaf (.int .i64)])) = F20 b := by kernel_rfl
noncomputable def C20 : Ctx := Ctx.addA C26 20 [.oneA (.slice 26 (.pair (.int .u64) (.slice 5 (.int .u8))))] (.tup [.leaf (.fresh 5 (.int .u8)), .leaf (.int .i64)]) F20
theorem s20 : C20.Sound := Ctx.Sound.addA (C := C26) mixed s26 Try.func20 ev20
/-! slices.Clone[[]byte,byte] -/
def H43 : Nat → Head := fun _ => ⟨[], []⟩
noncomputable def F43 (b : List Int) : Option (List Int) :=
 bif b.isEmpty then (
 (both (
 some ([] : List Int)) (
 bif decide ((([] : List Int).length + b.length) * 1 ≤ LIM) then
 some (([] : List Int) ++ b)
 else none)))
 else (
 bif decide ((([] : List Int).length + b.length) * 1 ≤ LIM) then
 some (([] : List Int) ++ b)
 else none)
theorem ev43 (b : List Int) : evF C20 H43 Try.f43 (encs [.oneA (.slice 5 (.int .u8))] b) (RT.dec (.one (.leaf (.fresh 5 (.int .u8))))) = F43 b := by kernel_rfl
noncomputable def C43 : Ctx := Ctx.addA C20 43 [.oneA (.slice 5 (.int .u8))] (.one (.leaf (.fresh 5 (.int .u8)))) F43
theorem s43 : C43.Sound := Ctx.Sound.addA (C := C20) mixed s20 Try.func43 ev43
/-! bytes.Equal -/
def H64 : Nat → Head := fun _ => ⟨[], []⟩
noncomputable def F64 (b : List Int × List Int) : Option Bool :=
 some (decide (b.1 = b.2))
theorem ev64 (b : List Int × List Int) : evF C43 H64 Try.f64 (encs [.one (.slice 5 (.int .u8)), .one (.slice 5 (.int .u8))] b) (RT.dec (.one (.leaf (.bool)))) = F64 b := by kernel_rfl
noncomputable def C64 : Ctx := Ctx.add C43 64 [.one (.slice 5 (.int .u8)), .one (.slice 5 (.int .u8))] (.one (.leaf (.bool))) F64
theorem s64 : C64.Sound := Ctx.Sound.add (C := C43) mixed s43 Try.func64 ev64
/-! damson/tlv.one -/
def H45 : Nat → Head := fun _ => ⟨[], []⟩
noncomputable def F45 (b : (Int × List Int) × (Int × List Int)) : Option Bool :=
 bif (decide (b.1.1 = b.2.1) == true) then (
 (F64 (b.1.2, b.2.2)).bind fun r1 =>
 some r1)
 else (
 some false)
theorem ev45 (b : (Int × List Int) × (Int × List Int)) : evF C64 H45 Try.f45 (encs [.agg (.pair (.int .u64) (.slice 5 (.int .u8))), .agg (.pair (.int .u64) (.slice 5 (.int .u8)))] b) (RT.dec (.one (.leaf (.bool)))) = F45 b := by kernel_rfl
noncomputable def C45 : Ctx := Ctx.add C64 45 [.agg (.pair (.int .u64) (.slice 5 (.int .u8))), .agg (.pair (.int .u64) (.slice 5 (.int .u8)))] (.one (.leaf (.bool))) F45
theorem s45 : C45.Sound := Ctx.Sound.add (C := C64) mixed s64 Try.func45 ev45
/-! slices.EqualFunc[[]damson/api.Record,[]damson/api.Record,damson/api.Record,damson/api.Record] -/
def H44045 : Nat → Head
  | 4 => ⟨[.data 6 .bool, .data 17 (.int .i64)], []⟩
  | _ => ⟨[], []⟩
noncomputable def F44045 (b : List (Int × List Int) × List (Int × List Int) × Unit) : Option Bool :=
 bif (!decide ((b.1.length : Int) = (b.2.1.length : Int))) then (
 some false)
 else (
 lfp (fun (rec1 : (Bool × Int) → Option Bool) (x1 : Bool × Int) =>
  bif decide (x1.2 < (b.1.length : Int)) then (
  bif inb x1.2 b.1.length then
  bif inb x1.2 b.2.1.length then
  (F45 (((rd (.pair (.int .u64) (.slice 5 (.int .u8))) b.1 x1.2).1, (rd (.pair (.int .u64) (.slice 5 (.int .u8))) b.1 x1.2).2), ((rd (.pair (.int .u64) (.slice 5 (.int .u8))) b.2.1 x1.2).1, (rd (.pair (.int .u64) (.slice 5 (.int .u8))) b.2.1 x1.2).2))).bind fun r2 =>
  bif (!r2) then (
  some false)
  else (
  rec1 (x1.1, (IntKind.wrap .i64 (x1.2 + 1))))
  else none
  else none)
  else (
  some true)) (false, 0))
theorem ev44045 (b : List (Int × List Int) × List (Int × List Int) × Unit) : evF C45 H44045 Try.f44 (encs [.one (.slice 26 (.pair (.int .u64) (.slice 5 (.int .u8)))), .one (.slice 26 (.pair (.int .u64) (.slice 5 (.int .u8)))), .fn 45] b) (RT.dec (.one (.leaf (.bool)))) = F44045 b := by kernel_rfl
noncomputable def C44045 : Ctx := Ctx.add C45 44 [.one (.slice 26 (.pair (.int .u64) (.slice 5 (.int .u8)))), .one (.slice 26 (.pair (.int .u64) (.slice 5 (.int .u8)))), .fn 45] (.one (.leaf (.bool))) F44045
theorem s44045 : C44045.Sound := Ctx.Sound.add (C := C45) mixed s45 Try.func44 ev44045
/-! damson/tlv.Same -/
def H16 : Nat → Head := fun _ => ⟨[], []⟩
noncomputable def F16 (b : List (Int × List Int) × List (Int × List Int)) : Option Bool :=
 (F44045 (b.1, b.2, ())).bind fun r1 =>
 some r1
theorem ev16 (b : List (Int × List Int) × List (Int × List Int)) : evF C44045 H16 Try.f16 (encs [.one (.slice 26 (.pair (.int .u64) (.slice 5 (.int .u8)))), .one (.slice 26 (.pair (.int .u64) (.slice 5 (.int .u8))))] b) (RT.dec (.one (.leaf (.bool)))) = F16 b := by kernel_rfl
noncomputable def C16 : Ctx := Ctx.add C44045 16 [.one (.slice 26 (.pair (.int .u64) (.slice 5 (.int .u8)))), .one (.slice 26 (.pair (.int .u64) (.slice 5 (.int .u8))))] (.one (.leaf (.bool))) F16
theorem s16 : C16.Sound := Ctx.Sound.add (C := C44045) mixed s44045 Try.func16 ev16
/-! slices.BinarySearchFunc[[]damson/api.Record,damson/api.Record,uint64] -/
def H41042 : Nat → Head
  | 3 => ⟨[.data 9 (.int .i64), .data 10 (.int .i64)], []⟩
  | _ => ⟨[], []⟩
noncomputable def F41042 (b : List (Int × List Int) × Int × Unit) : Option (Int × Bool) :=
 lfp (fun (rec1 : (Int × Int) → Option (Int × Bool)) (x1 : Int × Int) =>
  bif decide (x1.1 < x1.2) then (
  bif inb (IntKind.wrap .i64 ((IntKind.wrap .u64 (IntKind.wrap .i64 (x1.1 + x1.2))) / 2 ^ (min (1 : Int).toNat 64))) b.1.length then
  (F42 (((rd (.pair (.int .u64) (.slice 5 (.int .u8))) b.1 (IntKind.wrap .i64 ((IntKind.wrap .u64 (IntKind.wrap .i64 (x1.1 + x1.2))) / 2 ^ (min (1 : Int).toNat 64)))).1, (rd (.pair (.int .u64) (.slice 5 (.int .u8))) b.1 (IntKind.wrap .i64 ((IntKind.wrap .u64 (IntKind.wrap .i64 (x1.1 + x1.2))) / 2 ^ (min (1 : Int).toNat 64)))).2), b.2.1)).bind fun r2 =>
  bif decide (r2 < 0) then (
  rec1 ((IntKind.wrap .i64 ((IntKind.wrap .i64 ((IntKind.wrap .u64 (IntKind.wrap .i64 (x1.1 + x1.2))) / 2 ^ (min (1 : Int).toNat 64))) + 1)), x1.2))
  else (
  rec1 (x1.1, (IntKind.wrap .i64 ((IntKind.wrap .u64 (IntKind.wrap .i64 (x1.1 + x1.2))) / 2 ^ (min (1 : Int).toNat 64)))))
  else none)
  else (
  bif (decide (x1.1 < (b.1.length : Int)) == true) then (
  bif inb x1.1 b.1.length then
  (F42 (((rd (.pair (.int .u64) (.slice 5 (.int .u8))) b.1 x1.1).1, (rd (.pair (.int .u64) (.slice 5 (.int .u8))) b.1 x1.1).2), b.2.1)).bind fun r3 =>
  some (x1.1, decide (r3 = 0))
  else none)
  else (
  some (x1.1, false)))) (0, (b.1.length : Int))
theorem ev41042 (b : List (Int × List Int) × Int × Unit) : evF C16 H41042 Try.f41 (encs [.one (.slice 26 (.pair (.int .u64) (.slice 5 (.int .u8)))), .one (.int .u64), .fn 42] b) (RT.dec (.tup [.leaf (.int .i64), .leaf (.bool)])) = F41042 b := by kernel_rfl
noncomputable def C41042 : Ctx := Ctx.add C16 41 [.one (.slice 26 (.pair (.int .u64) (.slice 5 (.int .u8)))), .one (.int .u64), .fn 42] (.tup [.leaf (.int .i64), .leaf (.bool)]) F41042
theorem s41042 : C41042.Sound := Ctx.Sound.add (C := C16) mixed s16 Try.func41 ev41042
/-! damson/tlv.Find -/
def H17 : Nat → Head := fun _ => ⟨[], []⟩
noncomputable def F17 (b : List (Int × List Int) × Int) : Option (List Int × Int) :=
 (F19 b.1).bind fun r1 =>
 bif (!decide (r1 = 0)) then (
 some (([] : List Int), r1))
 else (
 (F41042 (b.1, b.2, ())).bind fun r2 =>
 bif (!r2.2) then (
 some (([] : List Int), 5))
 else (
 bif inb r2.1 b.1.length then
 (F43 ((rd (.pair (.int .u64) (.slice 5 (.int .u8))) b.1 r2.1).2)).bind fun r3 =>
 some (r3, 0)
 else none))
theorem ev17 (b : List (Int × List Int) × Int) : evF C41042 H17 Try.f17 (encs [.oneA (.slice 26 (.pair (.int .u64) (.slice 5 (.int .u8)))), .one (.int .u64)] b) (RT.dec (.tup [.leaf (.fresh 5 (.int .u8)), .leaf (.int .i64)])) = F17 b := by kernel_rfl
noncomputable def C17 : Ctx := Ctx.addA C41042 17 [.oneA (.slice 26 (.pair (.int .u64) (.slice 5 (.int .u8)))), .one (.int .u64)] (.tup [.leaf (.fresh 5 (.int .u8)), .leaf (.int .i64)]) F17
theorem s17 : C17.Sound := Ctx.Sound.addA (C := C41042) mixed s41042 Try.func17 ev17
/-! damson/damsonref01.SameBytes -/
def H18 : Nat → Head := fun _ => ⟨[], []⟩
noncomputable def F18 (b : List Int × List Int) : Option Bool :=
 some (decide (b.1 = b.2))
theorem ev18 (b : List Int × List Int) : evF C17 H18 Try.f18 (encs [.one (.slice 5 (.int .u8)), .one (.slice 5 (.int .u8))] b) (RT.dec (.one (.leaf (.bool)))) = F18 b := by kernel_rfl
noncomputable def C18 : Ctx := Ctx.add C17 18 [.one (.slice 5 (.int .u8)), .one (.slice 5 (.int .u8))] (.one (.leaf (.bool))) F18
theorem s18 : C18.Sound := Ctx.Sound.add (C := C17) mixed s17 Try.func18 ev18
/-! damson/damsonref02.Check -/
def H25 : Nat → Head
  | 4 => ⟨[.data 2 (.int .i64), .data 10 (.int .i64)], []⟩
  | 5000006 => ⟨[], [0, 0, 1, 1, 2, 2, 4, 4, 8, 8, 16, 16, 48, 48, 80, 80, 128, 128, 128, 128, 640, 640, 1408, 1408, 2176, 2176, 4224, 4224, 128, 128, 16512, 16512, 41088, 41088, 65680, 65680, 131088, 131088]⟩
  | _ => ⟨[], []⟩
noncomputable def F25 (b : List (Int × List Int)) : Option Int :=
 bif decide (64 < (b.length : Int)) then (
 some 1)
 else (
 lfp (fun (rec1 : (Int × Int) → Option Int) (x1 : Int × Int) =>
  bif decide (x1.2 < (b.length : Int)) then (
  bif inb x1.2 b.length then
  bif (decide (4096 < (((rd (.pair (.int .u64) (.slice 5 (.int .u8))) b x1.2).2).length : Int)) == false) then (
  bif (decide (0 < x1.2) == true) then (
  bif inb (IntKind.wrap .i64 (x1.2 - 1)) b.length then
  bif decide ((rd (.pair (.int .u64) (.slice 5 (.int .u8))) b x1.2).1 ≤ (rd (.pair (.int .u64) (.slice 5 (.int .u8))) b (IntKind.wrap .i64 (x1.2 - 1))).1) then (
  some 1)
  else (
  rec1 (x1.1, (IntKind.wrap .i64 (x1.2 + 1))))
  else none)
  else (
  (both (
  (fun o => both o o) (
  rec1 (x1.1, (IntKind.wrap .i64 (x1.2 + 1))))) (
  rec1 (x1.1, (IntKind.wrap .i64 (x1.2 + 1)))))))
  else (
  (both (
  (fun o => both o o) (
  some 1)) (
  some 1)))
  else none)
  else (
  some 0)) (0, 0))
theorem ev25 (b : List (Int × List Int)) : evF C18 H25 Try.f25 (encs [.one (.slice 26 (.pair (.int .u64) (.slice 5 (.int .u8))))] b) (RT.dec (.one (.leaf (.int .i64)))) = F25 b := by kernel_rfl
noncomputable def C25 : Ctx := Ctx.add C18 25 [.one (.slice 26 (.pair (.int .u64) (.slice 5 (.int .u8))))] (.one (.leaf (.int .i64))) F25
theorem s25 : C25.Sound := Ctx.Sound.add (C := C18) mixed s18 Try.func25 ev25
/-! damson/damsonref01.high -/
def H87 : Nat → Head := fun _ => ⟨[], []⟩
noncomputable def B87 (recF : (Int × Int) → Option (List Int)) (b : Int × Int) : Option (List Int) :=
 bif decide (b.2 = 0) then (
 some ([] : List Int))
 else (
 (recF ((IntKind.wrap .u64 (Int.tdiv b.1 256)), (IntKind.wrap .i64 (b.2 - 1)))).bind fun r1 =>
 bif decide ((r1.length + 1) * 1 ≤ LIM) then
 some (r1 ++ ([(IntKind.wrap .u8 (Int.tmod b.1 256))]))
 else none)
noncomputable def F87 : (Int × Int) → Option (List Int) := lfp B87
theorem ev87 (F : (Int × Int) → Option (List Int)) (b : Int × Int) : evF (Ctx.add C25 87 [.one (.int .u64), .one (.int .i64)] (.one (.leaf (.fresh 5 (.int .u8)))) F) H87 Try.f87 (encs [.one (.int .u64), .one (.int .i64)] b) (RT.dec (.one (.leaf (.fresh 5 (.int .u8))))) = B87 F b := by kernel_rfl
noncomputable def C87 : Ctx := Ctx.add C25 87 [.one (.int .u64), .one (.int .i64)] (.one (.leaf (.fresh 5 (.int .u8)))) F87
theorem s87 : C87.Sound := Ctx.Sound.fix (C := C25) mixed s25 Try.func87 ev87
/-! damson/damsonref01.one -/
def H70 : Nat → Head := fun _ => ⟨[], []⟩
noncomputable def F70 (b : Int) : Option (List Int) :=
 bif decide (b < 253) then (
 some ([(IntKind.wrap .u8 b)]))
 else (
 bif decide (b < 65536) then (
 (F87 (b, 2)).bind fun r1 =>
 bif decide ((([253]).length + r1.length) * 1 ≤ LIM) then
 some (([253]) ++ r1)
 else none)
 else (
 bif decide (b < 4294967296) then (
 (F87 (b, 4)).bind fun r2 =>
 bif decide ((([254]).length + r2.length) * 1 ≤ LIM) then
 some (([254]) ++ r2)
 else none)
 else (
 (F87 (b, 8)).bind fun r3 =>
 bif decide ((([255]).length + r3.length) * 1 ≤ LIM) then
 some (([255]) ++ r3)
 else none)))
theorem ev70 (b : Int) : evF C87 H70 Try.f70 (encs [.one (.int .u64)] b) (RT.dec (.one (.leaf (.fresh 5 (.int .u8))))) = F70 b := by kernel_rfl
noncomputable def C70 : Ctx := Ctx.add C87 70 [.one (.int .u64)] (.one (.leaf (.fresh 5 (.int .u8)))) F70
theorem s70 : C70.Sound := Ctx.Sound.add (C := C87) mixed s87 Try.func70 ev70
/-! damson/damsonref01.Put -/
def H46 : Nat → Head
  | 3 => ⟨[.row 3 14339 5 (.int .u8), .data 8 (.int .i64)], []⟩
  | _ => ⟨[], []⟩
noncomputable def F46 (b : List Int) : Option (List Int) :=
 lfp (fun (rec1 : (List Int × Int) → Option (List Int)) (x1 : List Int × Int) =>
  bif decide (x1.2 < (b.length : Int)) then (
  bif inb x1.2 b.length then
  (F70 (rd (.int .u64) b x1.2)).bind fun r2 =>
  bif decide ((x1.1.length + r2.length) * 1 ≤ LIM) then
  rec1 ((x1.1 ++ r2), (IntKind.wrap .i64 (x1.2 + 1)))
  else none
  else none)
  else (
  some x1.1)) (([] : List Int), 0)
theorem ev46 (b : List Int) : evF C70 H46 Try.f46 (encs [.oneA (.slice 23 (.int .u64))] b) (RT.dec (.one (.leaf (.fresh 5 (.int .u8))))) = F46 b := by kernel_rfl
noncomputable def C46 : Ctx := Ctx.addA C70 46 [.oneA (.slice 23 (.int .u64))] (.one (.leaf (.fresh 5 (.int .u8)))) F46
theorem s46 : C46.Sound := Ctx.Sound.addA (C := C70) mixed s70 Try.func46 ev46
/-! damson/damsonref02.Put -/
def H21 : Nat → Head
  | 5 => ⟨[.row 4 18437 5 (.int .u8), .data 12 (.int .i64)], []⟩
  | _ => ⟨[], []⟩
noncomputable def F21 (b : List (Int × List Int)) : Option (List Int × Int) :=
 (F25 b).bind fun r1 =>
 bif (!decide (r1 = 0)) then (
 some (([] : List Int), 1))
 else (
 lfp (fun (rec2 : (List Int × Int) → Option (List Int × Int)) (x2 : List Int × Int) =>
  bif decide (x2.2 < (b.length : Int)) then (
  bif inb x2.2 b.length then
  (F46 ([(rd (.pair (.int .u64) (.slice 5 (.int .u8))) b x2.2).1, (IntKind.wrap .u64 (((rd (.pair (.int .u64) (.slice 5 (.int .u8))) b x2.2).2).length : Int))])).bind fun r3 =>
  bif decide ((x2.1.length + r3.length) * 1 ≤ LIM) then
  bif decide (((x2.1 ++ r3).length + ((rd (.pair (.int .u64) (.slice 5 (.int .u8))) b x2.2).2).length) * 1 ≤ LIM) then
  rec2 (((x2.1 ++ r3) ++ ((rd (.pair (.int .u64) (.slice 5 (.int .u8))) b x2.2).2)), (IntKind.wrap .i64 (x2.2 + 1)))
  else none
  else none
  else none)
  else (
  bif decide (65535 < (x2.1.length : Int)) then (
  some (([] : List Int), 4))
  else (
  some (x2.1, 0)))) (([] : List Int), 0))
theorem ev21 (b : List (Int × List Int)) : evF C46 H21 Try.f21 (encs [.oneA (.slice 26 (.pair (.int .u64) (.slice 5 (.int .u8))))] b) (RT.dec (.tup [.leaf (.fresh 5 (.int .u8)), .leaf (.int .i64)])) = F21 b := by kernel_rfl
noncomputable def C21 : Ctx := Ctx.addA C46 21 [.oneA (.slice 26 (.pair (.int .u64) (.slice 5 (.int .u8))))] (.tup [.leaf (.fresh 5 (.int .u8)), .leaf (.int .i64)]) F21
theorem s21 : C21.Sound := Ctx.Sound.addA (C := C46) mixed s46 Try.func21 ev21
/-! damson/bigsize.Get -/
def H52 : Nat → Head
  | 7 => ⟨[.data 2 (.int .u64), .data 35 (.int .i64)], []⟩
  | 5000011 => ⟨[], [0, 0, 1, 1, 0, 0, 4, 4, 8, 8, 18, 18]⟩
  | _ => ⟨[], []⟩
noncomputable def F52 (b : List Int) : Option (Int × Int × Int) :=
 bif (decide ((b.length : Int) = 0) == false) then (
 bif inb 0 b.length then
 (F51 (rd (.int .u8) b 0)).bind fun r1 =>
 bif decide ((b.length : Int) ≤ r1) then (
 some (0, 0, 3))
 else (
 bif inb 0 b.length then
 (F51 (rd (.int .u8) b 0)).bind fun r2 =>
 bif decide (r2 = 0) then (
 bif inb 0 b.length then
 some ((IntKind.wrap .u64 (rd (.int .u8) b 0)), 1, 0)
 else none)
 else (
 bif (inb (IntKind.wrap .i64 (r2 + 1)) (b.length + 1) && (decide (0 ≤ 1) && decide (1 ≤ (IntKind.wrap .i64 (r2 + 1))))) then
 lfp (fun (rec3 : (Int × Int) → Option (Int × Int × Int)) (x3 : Int × Int) =>
  bif decide (x3.2 < (((b.take ((IntKind.wrap .i64 (r2 + 1)).toNat)).drop ((1 : Int).toNat)).length : Int)) then (
  bif inb x3.2 ((b.take ((IntKind.wrap .i64 (r2 + 1)).toNat)).drop ((1 : Int).toNat)).length then
  rec3 ((bitOp .or .u64 (IntKind.wrap .u64 (x3.1 * 2 ^ (min (8 : Int).toNat 64))) (IntKind.wrap .u64 (rd (.int .u8) ((b.take ((IntKind.wrap .i64 (r2 + 1)).toNat)).drop ((1 : Int).toNat)) x3.2))), (IntKind.wrap .i64 (x3.2 + 1)))
  else none)
  else (
  bif inb 0 b.length then
  (F50 x3.1).bind fun r4 =>
  bif (!decide (r4 = (rd (.int .u8) b 0))) then (
  some (0, 0, 2))
  else (
  some (x3.1, (IntKind.wrap .i64 (r2 + 1)), 0))
  else none)) (0, 0)
 else none)
 else none)
 else none)
 else (
 some (0, 0, 3))
theorem ev52 (b : List Int) : evF C21 H52 Try.f52 (encs [.one (.slice 5 (.int .u8))] b) (RT.dec (.tup [.leaf (.int .u64), .leaf (.int .i64), .leaf (.int .i64)])) = F52 b := by kernel_rfl
noncomputable def C52 : Ctx := Ctx.add C21 52 [.one (.slice 5 (.int .u8))] (.tup [.leaf (.int .u64), .leaf (.int .i64), .leaf (.int .i64)]) F52
theorem s52 : C52.Sound := Ctx.Sound.add (C := C21) mixed s21 Try.func52 ev52
/-! (*damson/tlv.reader).wrong: carried out where it is called -/
def H47 : Nat → Head := fun _ => ⟨[], []⟩
noncomputable def C47 : Ctx := Ctx.addI C52 47 H47 9000047 Try.f47
theorem s47 : C47.Sound := Ctx.Sound.addI (C := C52) mixed s52 Try.func47
/-! (*damson/tlv.reader).number: carried out where it is called -/
def H48 : Nat → Head := fun _ => ⟨[], []⟩
noncomputable def C48 : Ctx := Ctx.addI C47 48 H48 9000048 Try.f48
theorem s48 : C48.Sound := Ctx.Sound.addI (C := C47) mixed s47 Try.func48
/-! damson/tlv.Get -/
def H22 : Nat → Head
  | 3 => ⟨[.row 2 10243 26 (.pair (.int .u64) (.slice 5 (.int .u8))), .boxA 36864 (.pair (.slice 5 (.int .u8)) (.int .i64))], []⟩
  | 5000014 => ⟨[], [0, 0, 1, 1, 2, 2, 4, 4, 0, 0, 31, 8]⟩
  | _ => ⟨[], []⟩
noncomputable def F22 (b : List Int) : Option ((List (Int × List Int)) × Int) :=
 bif (bif decide (65535 < (b.length : Int)) then true else false) then (
 lfp (fun (rec1 : (List (Int × List Int) × (List Int × Int)) → Option ((List (Int × List Int)) × Int)) (x1 : List (Int × List Int) × (List Int × Int)) =>
  bif (bif decide (x1.2.2 = 0) then decide (0 < (x1.2.1.length : Int)) else false) then (
  bif (bif decide ((x1.1.length : Int) = 64) then decide (x1.2.2 = 0) else false) then (
  bif (decide (0 < (x1.1.length : Int)) == true) then (
  bif inb (if (IntKind.wrap .i64 ((x1.1.length : Int) - 1)) < 0 then 0 else (IntKind.wrap .i64 ((x1.1.length : Int) - 1))) x1.1.length then
  (F42 (((rd (.pair (.int .u64) (.slice 5 (.int .u8))) x1.1 (if (IntKind.wrap .i64 ((x1.1.length : Int) - 1)) < 0 then 0 else (IntKind.wrap .i64 ((x1.1.length : Int) - 1)))).1, (rd (.pair (.int .u64) (.slice 5 (.int .u8))) x1.1 (if (IntKind.wrap .i64 ((x1.1.length : Int) - 1)) < 0 then 0 else (IntKind.wrap .i64 ((x1.1.length : Int) - 1)))).2), 0)).bind fun r2 =>
  bif (bif decide (0 ≤ r2) then false else false) then (
  bif (bif decide ((IntKind.wrap .u64 (x1.2.1.length : Int)) < 0) then false else false) then (
  rec1 (x1.1, (x1.2.1, 3)))
  else (
  rec1 (x1.1, (x1.2.1, 2))))
  else (
  bif (bif decide ((IntKind.wrap .u64 (x1.2.1.length : Int)) < 0) then false else false) then (
  rec1 (x1.1, (x1.2.1, 3)))
  else (
  rec1 (x1.1, (x1.2.1, 4))))
  else none)
  else (
  bif (bif decide ((IntKind.wrap .u64 (x1.2.1.length : Int)) < 0) then false else false) then (
  rec1 (x1.1, (x1.2.1, 3)))
  else (
  rec1 (x1.1, (x1.2.1, 4)))))
  else (
  bif (!decide (x1.2.2 = 0)) then (
  bif (decide (0 < (x1.1.length : Int)) == true) then (
  bif inb (if (IntKind.wrap .i64 ((x1.1.length : Int) - 1)) < 0 then 0 else (IntKind.wrap .i64 ((x1.1.length : Int) - 1))) x1.1.length then
  (F42 (((rd (.pair (.int .u64) (.slice 5 (.int .u8))) x1.1 (if (IntKind.wrap .i64 ((x1.1.length : Int) - 1)) < 0 then 0 else (IntKind.wrap .i64 ((x1.1.length : Int) - 1)))).1, (rd (.pair (.int .u64) (.slice 5 (.int .u8))) x1.1 (if (IntKind.wrap .i64 ((x1.1.length : Int) - 1)) < 0 then 0 else (IntKind.wrap .i64 ((x1.1.length : Int) - 1)))).2), 0)).bind fun r3 =>
  bif (bif decide (0 ≤ r3) then decide (x1.2.2 = 0) else false) then (
  bif (bif decide ((IntKind.wrap .u64 (x1.2.1.length : Int)) < 0) then false else false) then (
  rec1 (x1.1, (x1.2.1, 3)))
  else (
  rec1 (x1.1, (x1.2.1, 2))))
  else (
  bif (!decide (x1.2.2 = 0)) then (
  bif (bif decide ((IntKind.wrap .u64 (x1.2.1.length : Int)) < 0) then decide (x1.2.2 = 0) else false) then (
  rec1 (x1.1, (x1.2.1, 3)))
  else (
  bif decide (x1.2.2 = 0) then (
  bif inb 0 (x1.2.1.length + 1) then
  (F43 (x1.2.1.take ((0 : Int).toNat))).bind fun r4 =>
  bif decide ((x1.1.length + 1) * 32 ≤ LIM) then
  bif inb 0 (x1.2.1.length + 1) then
  rec1 ((x1.1 ++ ([(0, r4)])), (x1.2.1.drop ((0 : Int).toNat), x1.2.2))
  else none
  else none
  else none)
  else (
  rec1 (x1.1, (x1.2.1, x1.2.2)))))
  else (
  (F52 x1.2.1).bind fun r5 =>
  bif inb r5.2.1 (x1.2.1.length + 1) then
  bif (bif decide (4096 < r5.1) then decide (r5.2.2 = 0) else false) then (
  bif (bif decide ((IntKind.wrap .u64 ((x1.2.1.drop r5.2.1.toNat).length : Int)) < r5.1) then false else false) then (
  rec1 (x1.1, (x1.2.1.drop r5.2.1.toNat, 3)))
  else (
  rec1 (x1.1, (x1.2.1.drop r5.2.1.toNat, 4))))
  else (
  bif (bif decide ((IntKind.wrap .u64 ((x1.2.1.drop r5.2.1.toNat).length : Int)) < r5.1) then decide (r5.2.2 = 0) else false) then (
  rec1 (x1.1, (x1.2.1.drop r5.2.1.toNat, 3)))
  else (
  bif decide (r5.2.2 = 0) then (
  bif inb r5.1 ((x1.2.1.drop r5.2.1.toNat).length + 1) then
  (F43 ((x1.2.1.drop r5.2.1.toNat).take r5.1.toNat)).bind fun r6 =>
  bif decide ((x1.1.length + 1) * 32 ≤ LIM) then
  bif inb r5.1 ((x1.2.1.drop r5.2.1.toNat).length + 1) then
  rec1 ((x1.1 ++ ([(0, r6)])), ((x1.2.1.drop r5.2.1.toNat).drop r5.1.toNat, r5.2.2))
  else none
  else none
  else none)
  else (
  rec1 (x1.1, (x1.2.1.drop r5.2.1.toNat, r5.2.2)))))
  else none))
  else none)
  else (
  bif (!decide (x1.2.2 = 0)) then (
  bif (bif decide ((IntKind.wrap .u64 (x1.2.1.length : Int)) < 0) then decide (x1.2.2 = 0) else false) then (
  rec1 (x1.1, (x1.2.1, 3)))
  else (
  bif decide (x1.2.2 = 0) then (
  bif inb 0 (x1.2.1.length + 1) then
  (F43 (x1.2.1.take ((0 : Int).toNat))).bind fun r7 =>
  bif decide ((x1.1.length + 1) * 32 ≤ LIM) then
  bif inb 0 (x1.2.1.length + 1) then
  rec1 ((x1.1 ++ ([(0, r7)])), (x1.2.1.drop ((0 : Int).toNat), x1.2.2))
  else none
  else none
  else none)
  else (
  rec1 (x1.1, (x1.2.1, x1.2.2)))))
  else (
  (F52 x1.2.1).bind fun r8 =>
  bif inb r8.2.1 (x1.2.1.length + 1) then
  bif (bif decide (4096 < r8.1) then decide (r8.2.2 = 0) else false) then (
  bif (bif decide ((IntKind.wrap .u64 ((x1.2.1.drop r8.2.1.toNat).length : Int)) < r8.1) then false else false) then (
  rec1 (x1.1, (x1.2.1.drop r8.2.1.toNat, 3)))
  else (
  rec1 (x1.1, (x1.2.1.drop r8.2.1.toNat, 4))))
  else (
  bif (bif decide ((IntKind.wrap .u64 ((x1.2.1.drop r8.2.1.toNat).length : Int)) < r8.1) then decide (r8.2.2 = 0) else false) then (
  rec1 (x1.1, (x1.2.1.drop r8.2.1.toNat, 3)))
  else (
  bif decide (r8.2.2 = 0) then (
  bif inb r8.1 ((x1.2.1.drop r8.2.1.toNat).length + 1) then
  (F43 ((x1.2.1.drop r8.2.1.toNat).take r8.1.toNat)).bind fun r9 =>
  bif decide ((x1.1.length + 1) * 32 ≤ LIM) then
  bif inb r8.1 ((x1.2.1.drop r8.2.1.toNat).length + 1) then
  rec1 ((x1.1 ++ ([(0, r9)])), ((x1.2.1.drop r8.2.1.toNat).drop r8.1.toNat, r8.2.2))
  else none
  else none
  else none)
  else (
  rec1 (x1.1, (x1.2.1.drop r8.2.1.toNat, r8.2.2)))))
  else none)))
  else (
  (F52 x1.2.1).bind fun r10 =>
  bif inb r10.2.1 (x1.2.1.length + 1) then
  bif (decide (0 < (x1.1.length : Int)) == true) then (
  bif inb (if (IntKind.wrap .i64 ((x1.1.length : Int) - 1)) < 0 then 0 else (IntKind.wrap .i64 ((x1.1.length : Int) - 1))) x1.1.length then
  (F42 (((rd (.pair (.int .u64) (.slice 5 (.int .u8))) x1.1 (if (IntKind.wrap .i64 ((x1.1.length : Int) - 1)) < 0 then 0 else (IntKind.wrap .i64 ((x1.1.length : Int) - 1)))).1, (rd (.pair (.int .u64) (.slice 5 (.int .u8))) x1.1 (if (IntKind.wrap .i64 ((x1.1.length : Int) - 1)) < 0 then 0 else (IntKind.wrap .i64 ((x1.1.length : Int) - 1)))).2), r10.1)).bind fun r11 =>
  bif (bif decide (0 ≤ r11) then decide (r10.2.2 = 0) else false) then (
  bif (bif decide ((IntKind.wrap .u64 ((x1.2.1.drop r10.2.1.toNat).length : Int)) < 0) then false else false) then (
  rec1 (x1.1, (x1.2.1.drop r10.2.1.toNat, 3)))
  else (
  rec1 (x1.1, (x1.2.1.drop r10.2.1.toNat, 2))))
  else (
  bif (!decide (r10.2.2 = 0)) then (
  bif (bif decide ((IntKind.wrap .u64 ((x1.2.1.drop r10.2.1.toNat).length : Int)) < 0) then decide (r10.2.2 = 0) else false) then (
  rec1 (x1.1, (x1.2.1.drop r10.2.1.toNat, 3)))
  else (
  bif decide (r10.2.2 = 0) then (
  bif inb 0 ((x1.2.1.drop r10.2.1.toNat).length + 1) then
  (F43 ((x1.2.1.drop r10.2.1.toNat).take ((0 : Int).toNat))).bind fun r12 =>
  bif decide ((x1.1.length + 1) * 32 ≤ LIM) then
  bif inb 0 ((x1.2.1.drop r10.2.1.toNat).length + 1) then
  rec1 ((x1.1 ++ ([(r10.1, r12)])), ((x1.2.1.drop r10.2.1.toNat).drop ((0 : Int).toNat), r10.2.2))
  else none
  else none
  else none)
  else (
  rec1 (x1.1, (x1.2.1.drop r10.2.1.toNat, r10.2.2)))))
  else (
  (F52 (x1.2.1.drop r10.2.1.toNat)).bind fun r13 =>
  bif inb r13.2.1 ((x1.2.1.drop r10.2.1.toNat).length + 1) then
  bif (bif decide (4096 < r13.1) then decide (r13.2.2 = 0) else false) then (
  bif (bif decide ((IntKind.wrap .u64 (((x1.2.1.drop r10.2.1.toNat).drop r13.2.1.toNat).length : Int)) < r13.1) then false else false) then (
  rec1 (x1.1, ((x1.2.1.drop r10.2.1.toNat).drop r13.2.1.toNat, 3)))
  else (
  rec1 (x1.1, ((x1.2.1.drop r10.2.1.toNat).drop r13.2.1.toNat, 4))))
  else (
  bif (bif decide ((IntKind.wrap .u64 (((x1.2.1.drop r10.2.1.toNat).drop r13.2.1.toNat).length : Int)) < r13.1) then decide (r13.2.2 = 0) else false) then (
  rec1 (x1.1, ((x1.2.1.drop r10.2.1.toNat).drop r13.2.1.toNat, 3)))
  else (
  bif decide (r13.2.2 = 0) then (
  bif inb r13.1 (((x1.2.1.drop r10.2.1.toNat).drop r13.2.1.toNat).length + 1) then
  (F43 (((x1.2.1.drop r10.2.1.toNat).drop r13.2.1.toNat).take r13.1.toNat)).bind fun r14 =>
  bif decide ((x1.1.length + 1) * 32 ≤ LIM) then
  bif inb r13.1 (((x1.2.1.drop r10.2.1.toNat).drop r13.2.1.toNat).length + 1) then
  rec1 ((x1.1 ++ ([(r10.1, r14)])), (((x1.2.1.drop r10.2.1.toNat).drop r13.2.1.toNat).drop r13.1.toNat, r13.2.2))
  else none
  else none
  else none)
  else (
  rec1 (x1.1, ((x1.2.1.drop r10.2.1.toNat).drop r13.2.1.toNat, r13.2.2)))))
  else none))
  else none)
  else (
  bif (!decide (r10.2.2 = 0)) then (
  bif (bif decide ((IntKind.wrap .u64 ((x1.2.1.drop r10.2.1.toNat).length : Int)) < 0) then decide (r10.2.2 = 0) else false) then (
  rec1 (x1.1, (x1.2.1.drop r10.2.1.toNat, 3)))
  else (
  bif decide (r10.2.2 = 0) then (
  bif inb 0 ((x1.2.1.drop r10.2.1.toNat).length + 1) then
  (F43 ((x1.2.1.drop r10.2.1.toNat).take ((0 : Int).toNat))).bind fun r15 =>
  bif decide ((x1.1.length + 1) * 32 ≤ LIM) then
  bif inb 0 ((x1.2.1.drop r10.2.1.toNat).length + 1) then
  rec1 ((x1.1 ++ ([(r10.1, r15)])), ((x1.2.1.drop r10.2.1.toNat).drop ((0 : Int).toNat), r10.2.2))
  else none
  else none
  else none)
  else (
  rec1 (x1.1, (x1.2.1.drop r10.2.1.toNat, r10.2.2)))))
  else (
  (F52 (x1.2.1.drop r10.2.1.toNat)).bind fun r16 =>
  bif inb r16.2.1 ((x1.2.1.drop r10.2.1.toNat).length + 1) then
  bif (bif decide (4096 < r16.1) then decide (r16.2.2 = 0) else false) then (
  bif (bif decide ((IntKind.wrap .u64 (((x1.2.1.drop r10.2.1.toNat).drop r16.2.1.toNat).length : Int)) < r16.1) then false else false) then (
  rec1 (x1.1, ((x1.2.1.drop r10.2.1.toNat).drop r16.2.1.toNat, 3)))
  else (
  rec1 (x1.1, ((x1.2.1.drop r10.2.1.toNat).drop r16.2.1.toNat, 4))))
  else (
  bif (bif decide ((IntKind.wrap .u64 (((x1.2.1.drop r10.2.1.toNat).drop r16.2.1.toNat).length : Int)) < r16.1) then decide (r16.2.2 = 0) else false) then (
  rec1 (x1.1, ((x1.2.1.drop r10.2.1.toNat).drop r16.2.1.toNat, 3)))
  else (
  bif decide (r16.2.2 = 0) then (
  bif inb r16.1 (((x1.2.1.drop r10.2.1.toNat).drop r16.2.1.toNat).length + 1) then
  (F43 (((x1.2.1.drop r10.2.1.toNat).drop r16.2.1.toNat).take r16.1.toNat)).bind fun r17 =>
  bif decide ((x1.1.length + 1) * 32 ≤ LIM) then
  bif inb r16.1 (((x1.2.1.drop r10.2.1.toNat).drop r16.2.1.toNat).length + 1) then
  rec1 ((x1.1 ++ ([(r10.1, r17)])), (((x1.2.1.drop r10.2.1.toNat).drop r16.2.1.toNat).drop r16.1.toNat, r16.2.2))
  else none
  else none
  else none)
  else (
  rec1 (x1.1, ((x1.2.1.drop r10.2.1.toNat).drop r16.2.1.toNat, r16.2.2)))))
  else none))
  else none)))
  else (
  bif (!decide (x1.2.2 = 0)) then (
  some (([] : List (Int × List Int)), x1.2.2))
  else (
  some (x1.1, 0)))) (([] : List (Int × List Int)), (b, 4)))
 else (
 lfp (fun (rec18 : (List (Int × List Int) × (List Int × Int)) → Option ((List (Int × List Int)) × Int)) (x18 : List (Int × List Int) × (List Int × Int)) =>
  bif (bif decide (x18.2.2 = 0) then decide (0 < (x18.2.1.length : Int)) else false) then (
  bif (bif decide ((x18.1.length : Int) = 64) then decide (x18.2.2 = 0) else false) then (
  bif (decide (0 < (x18.1.length : Int)) == true) then (
  bif inb (if (IntKind.wrap .i64 ((x18.1.length : Int) - 1)) < 0 then 0 else (IntKind.wrap .i64 ((x18.1.length : Int) - 1))) x18.1.length then
  (F42 (((rd (.pair (.int .u64) (.slice 5 (.int .u8))) x18.1 (if (IntKind.wrap .i64 ((x18.1.length : Int) - 1)) < 0 then 0 else (IntKind.wrap .i64 ((x18.1.length : Int) - 1)))).1, (rd (.pair (.int .u64) (.slice 5 (.int .u8))) x18.1 (if (IntKind.wrap .i64 ((x18.1.length : Int) - 1)) < 0 then 0 else (IntKind.wrap .i64 ((x18.1.length : Int) - 1)))).2), 0)).bind fun r19 =>
  bif (bif decide (0 ≤ r19) then false else false) then (
  bif (bif decide ((IntKind.wrap .u64 (x18.2.1.length : Int)) < 0) then false else false) then (
  rec18 (x18.1, (x18.2.1, 3)))
  else (
  rec18 (x18.1, (x18.2.1, 2))))
  else (
  bif (bif decide ((IntKind.wrap .u64 (x18.2.1.length : Int)) < 0) then false else false) then (
  rec18 (x18.1, (x18.2.1, 3)))
  else (
  rec18 (x18.1, (x18.2.1, 4))))
  else none)
  else (
  bif (bif decide ((IntKind.wrap .u64 (x18.2.1.length : Int)) < 0) then false else false) then (
  rec18 (x18.1, (x18.2.1, 3)))
  else (
  rec18 (x18.1, (x18.2.1, 4)))))
  else (
  bif (!decide (x18.2.2 = 0)) then (
  bif (decide (0 < (x18.1.length : Int)) == true) then (
  bif inb (if (IntKind.wrap .i64 ((x18.1.length : Int) - 1)) < 0 then 0 else (IntKind.wrap .i64 ((x18.1.length : Int) - 1))) x18.1.length then
  (F42 (((rd (.pair (.int .u64) (.slice 5 (.int .u8))) x18.1 (if (IntKind.wrap .i64 ((x18.1.length : Int) - 1)) < 0 then 0 else (IntKind.wrap .i64 ((x18.1.length : Int) - 1)))).1, (rd (.pair (.int .u64) (.slice 5 (.int .u8))) x18.1 (if (IntKind.wrap .i64 ((x18.1.length : Int) - 1)) < 0 then 0 else (IntKind.wrap .i64 ((x18.1.length : Int) - 1)))).2), 0)).bind fun r20 =>
  bif (bif decide (0 ≤ r20) then decide (x18.2.2 = 0) else false) then (
  bif (bif decide ((IntKind.wrap .u64 (x18.2.1.length : Int)) < 0) then false else false) then (
  rec18 (x18.1, (x18.2.1, 3)))
  else (
  rec18 (x18.1, (x18.2.1, 2))))
  else (
  bif (!decide (x18.2.2 = 0)) then (
  bif (bif decide ((IntKind.wrap .u64 (x18.2.1.length : Int)) < 0) then decide (x18.2.2 = 0) else false) then (
  rec18 (x18.1, (x18.2.1, 3)))
  else (
  bif decide (x18.2.2 = 0) then (
  bif inb 0 (x18.2.1.length + 1) then
  (F43 (x18.2.1.take ((0 : Int).toNat))).bind fun r21 =>
  bif decide ((x18.1.length + 1) * 32 ≤ LIM) then
  bif inb 0 (x18.2.1.length + 1) then
  rec18 ((x18.1 ++ ([(0, r21)])), (x18.2.1.drop ((0 : Int).toNat), x18.2.2))
  else none
  else none
  else none)
  else (
  rec18 (x18.1, (x18.2.1, x18.2.2)))))
  else (
  (F52 x18.2.1).bind fun r22 =>
  bif inb r22.2.1 (x18.2.1.length + 1) then
  bif (bif decide (4096 < r22.1) then decide (r22.2.2 = 0) else false) then (
  bif (bif decide ((IntKind.wrap .u64 ((x18.2.1.drop r22.2.1.toNat).length : Int)) < r22.1) then false else false) then (
  rec18 (x18.1, (x18.2.1.drop r22.2.1.toNat, 3)))
  else (
  rec18 (x18.1, (x18.2.1.drop r22.2.1.toNat, 4))))
  else (
  bif (bif decide ((IntKind.wrap .u64 ((x18.2.1.drop r22.2.1.toNat).length : Int)) < r22.1) then decide (r22.2.2 = 0) else false) then (
  rec18 (x18.1, (x18.2.1.drop r22.2.1.toNat, 3)))
  else (
  bif decide (r22.2.2 = 0) then (
  bif inb r22.1 ((x18.2.1.drop r22.2.1.toNat).length + 1) then
  (F43 ((x18.2.1.drop r22.2.1.toNat).take r22.1.toNat)).bind fun r23 =>
  bif decide ((x18.1.length + 1) * 32 ≤ LIM) then
  bif inb r22.1 ((x18.2.1.drop r22.2.1.toNat).length + 1) then
  rec18 ((x18.1 ++ ([(0, r23)])), ((x18.2.1.drop r22.2.1.toNat).drop r22.1.toNat, r22.2.2))
  else none
  else none
  else none)
  else (
  rec18 (x18.1, (x18.2.1.drop r22.2.1.toNat, r22.2.2)))))
  else none))
  else none)
  else (
  bif (!decide (x18.2.2 = 0)) then (
  bif (bif decide ((IntKind.wrap .u64 (x18.2.1.length : Int)) < 0) then decide (x18.2.2 = 0) else false) then (
  rec18 (x18.1, (x18.2.1, 3)))
  else (
  bif decide (x18.2.2 = 0) then (
  bif inb 0 (x18.2.1.length + 1) then
  (F43 (x18.2.1.take ((0 : Int).toNat))).bind fun r24 =>
  bif decide ((x18.1.length + 1) * 32 ≤ LIM) then
  bif inb 0 (x18.2.1.length + 1) then
  rec18 ((x18.1 ++ ([(0, r24)])), (x18.2.1.drop ((0 : Int).toNat), x18.2.2))
  else none
  else none
  else none)
  else (
  rec18 (x18.1, (x18.2.1, x18.2.2)))))
  else (
  (F52 x18.2.1).bind fun r25 =>
  bif inb r25.2.1 (x18.2.1.length + 1) then
  bif (bif decide (4096 < r25.1) then decide (r25.2.2 = 0) else false) then (
  bif (bif decide ((IntKind.wrap .u64 ((x18.2.1.drop r25.2.1.toNat).length : Int)) < r25.1) then false else false) then (
  rec18 (x18.1, (x18.2.1.drop r25.2.1.toNat, 3)))
  else (
  rec18 (x18.1, (x18.2.1.drop r25.2.1.toNat, 4))))
  else (
  bif (bif decide ((IntKind.wrap .u64 ((x18.2.1.drop r25.2.1.toNat).length : Int)) < r25.1) then decide (r25.2.2 = 0) else false) then (
  rec18 (x18.1, (x18.2.1.drop r25.2.1.toNat, 3)))
  else (
  bif decide (r25.2.2 = 0) then (
  bif inb r25.1 ((x18.2.1.drop r25.2.1.toNat).length + 1) then
  (F43 ((x18.2.1.drop r25.2.1.toNat).take r25.1.toNat)).bind fun r26 =>
  bif decide ((x18.1.length + 1) * 32 ≤ LIM) then
  bif inb r25.1 ((x18.2.1.drop r25.2.1.toNat).length + 1) then
  rec18 ((x18.1 ++ ([(0, r26)])), ((x18.2.1.drop r25.2.1.toNat).drop r25.1.toNat, r25.2.2))
  else none
  else none
  else none)
  else (
  rec18 (x18.1, (x18.2.1.drop r25.2.1.toNat, r25.2.2)))))
  else none)))
  else (
  (F52 x18.2.1).bind fun r27 =>
  bif inb r27.2.1 (x18.2.1.length + 1) then
  bif (decide (0 < (x18.1.length : Int)) == true) then (
  bif inb (if (IntKind.wrap .i64 ((x18.1.length : Int) - 1)) < 0 then 0 else (IntKind.wrap .i64 ((x18.1.length : Int) - 1))) x18.1.length then
  (F42 (((rd (.pair (.int .u64) (.slice 5 (.int .u8))) x18.1 (if (IntKind.wrap .i64 ((x18.1.length : Int) - 1)) < 0 then 0 else (IntKind.wrap .i64 ((x18.1.length : Int) - 1)))).1, (rd (.pair (.int .u64) (.slice 5 (.int .u8))) x18.1 (if (IntKind.wrap .i64 ((x18.1.length : Int) - 1)) < 0 then 0 else (IntKind.wrap .i64 ((x18.1.length : Int) - 1)))).2), r27.1)).bind fun r28 =>
  bif (bif decide (0 ≤ r28) then decide (r27.2.2 = 0) else false) then (
  bif (bif decide ((IntKind.wrap .u64 ((x18.2.1.drop r27.2.1.toNat).length : Int)) < 0) then false else false) then (
  rec18 (x18.1, (x18.2.1.drop r27.2.1.toNat, 3)))
  else (
  rec18 (x18.1, (x18.2.1.drop r27.2.1.toNat, 2))))
  else (
  bif (!decide (r27.2.2 = 0)) then (
  bif (bif decide ((IntKind.wrap .u64 ((x18.2.1.drop r27.2.1.toNat).length : Int)) < 0) then decide (r27.2.2 = 0) else false) then (
  rec18 (x18.1, (x18.2.1.drop r27.2.1.toNat, 3)))
  else (
  bif decide (r27.2.2 = 0) then (
  bif inb 0 ((x18.2.1.drop r27.2.1.toNat).length + 1) then
  (F43 ((x18.2.1.drop r27.2.1.toNat).take ((0 : Int).toNat))).bind fun r29 =>
  bif decide ((x18.1.length + 1) * 32 ≤ LIM) then
  bif inb 0 ((x18.2.1.drop r27.2.1.toNat).length + 1) then
  rec18 ((x18.1 ++ ([(r27.1, r29)])), ((x18.2.1.drop r27.2.1.toNat).drop ((0 : Int).toNat), r27.2.2))
  else none
  else none
  else none)
  else (
  rec18 (x18.1, (x18.2.1.drop r27.2.1.toNat, r27.2.2)))))
  else (
  (F52 (x18.2.1.drop r27.2.1.toNat)).bind fun r30 =>
  bif inb r30.2.1 ((x18.2.1.drop r27.2.1.toNat).length + 1) then
  bif (bif decide (4096 < r30.1) then decide (r30.2.2 = 0) else false) then (
  bif (bif decide ((IntKind.wrap .u64 (((x18.2.1.drop r27.2.1.toNat).drop r30.2.1.toNat).length : Int)) < r30.1) then false else false) then (
  rec18 (x18.1, ((x18.2.1.drop r27.2.1.toNat).drop r30.2.1.toNat, 3)))
  else (
  rec18 (x18.1, ((x18.2.1.drop r27.2.1.toNat).drop r30.2.1.toNat, 4))))
  else (
  bif (bif decide ((IntKind.wrap .u64 (((x18.2.1.drop r27.2.1.toNat).drop r30.2.1.toNat).length : Int)) < r30.1) then decide (r30.2.2 = 0) else false) then (
  rec18 (x18.1, ((x18.2.1.drop r27.2.1.toNat).drop r30.2.1.toNat, 3)))
  else (
  bif decide (r30.2.2 = 0) then (
  bif inb r30.1 (((x18.2.1.drop r27.2.1.toNat).drop r30.2.1.toNat).length + 1) then
  (F43 (((x18.2.1.drop r27.2.1.toNat).drop r30.2.1.toNat).take r30.1.toNat)).bind fun r31 =>
  bif decide ((x18.1.length + 1) * 32 ≤ LIM) then
  bif inb r30.1 (((x18.2.1.drop r27.2.1.toNat).drop r30.2.1.toNat).length + 1) then
  rec18 ((x18.1 ++ ([(r27.1, r31)])), (((x18.2.1.drop r27.2.1.toNat).drop r30.2.1.toNat).drop r30.1.toNat, r30.2.2))
  else none
  else none
  else none)
  else (
  rec18 (x18.1, ((x18.2.1.drop r27.2.1.toNat).drop r30.2.1.toNat, r30.2.2)))))
  else none))
  else none)
  else (
  bif (!decide (r27.2.2 = 0)) then (
  bif (bif decide ((IntKind.wrap .u64 ((x18.2.1.drop r27.2.1.toNat).length : Int)) < 0) then decide (r27.2.2 = 0) else false) then (
  rec18 (x18.1, (x18.2.1.drop r27.2.1.toNat, 3)))
  else (
  bif decide (r27.2.2 = 0) then (
  bif inb 0 ((x18.2.1.drop r27.2.1.toNat).length + 1) then
  (F43 ((x18.2.1.drop r27.2.1.toNat).take ((0 : Int).toNat))).bind fun r32 =>
  bif decide ((x18.1.length + 1) * 32 ≤ LIM) then
  bif inb 0 ((x18.2.1.drop r27.2.1.toNat).length + 1) then
  rec18 ((x18.1 ++ ([(r27.1, r32)])), ((x18.2.1.drop r27.2.1.toNat).drop ((0 : Int).toNat), r27.2.2))
  else none
  else none
  else none)
  else (
  rec18 (x18.1, (x18.2.1.drop r27.2.1.toNat, r27.2.2)))))
  else (
  (F52 (x18.2.1.drop r27.2.1.toNat)).bind fun r33 =>
  bif inb r33.2.1 ((x18.2.1.drop r27.2.1.toNat).length + 1) then
  bif (bif decide (4096 < r33.1) then decide (r33.2.2 = 0) else false) then (
  bif (bif decide ((IntKind.wrap .u64 (((x18.2.1.drop r27.2.1.toNat).drop r33.2.1.toNat).length : Int)) < r33.1) then false else false) then (
  rec18 (x18.1, ((x18.2.1.drop r27.2.1.toNat).drop r33.2.1.toNat, 3)))
  else (
  rec18 (x18.1, ((x18.2.1.drop r27.2.1.toNat).drop r33.2.1.toNat, 4))))
  else (
  bif (bif decide ((IntKind.wrap .u64 (((x18.2.1.drop r27.2.1.toNat).drop r33.2.1.toNat).length : Int)) < r33.1) then decide (r33.2.2 = 0) else false) then (
  rec18 (x18.1, ((x18.2.1.drop r27.2.1.toNat).drop r33.2.1.toNat, 3)))
  else (
  bif decide (r33.2.2 = 0) then (
  bif inb r33.1 (((x18.2.1.drop r27.2.1.toNat).drop r33.2.1.toNat).length + 1) then
  (F43 (((x18.2.1.drop r27.2.1.toNat).drop r33.2.1.toNat).take r33.1.toNat)).bind fun r34 =>
  bif decide ((x18.1.length + 1) * 32 ≤ LIM) then
  bif inb r33.1 (((x18.2.1.drop r27.2.1.toNat).drop r33.2.1.toNat).length + 1) then
  rec18 ((x18.1 ++ ([(r27.1, r34)])), (((x18.2.1.drop r27.2.1.toNat).drop r33.2.1.toNat).drop r33.1.toNat, r33.2.2))
  else none
  else none
  else none)
  else (
  rec18 (x18.1, ((x18.2.1.drop r27.2.1.toNat).drop r33.2.1.toNat, r33.2.2)))))
  else none))
  else none)))
  else (
  bif (!decide (x18.2.2 = 0)) then (
  some (([] : List (Int × List Int)), x18.2.2))
  else (
  some (x18.1, 0)))) (([] : List (Int × List Int)), (b, 0)))
theorem ev22 (b : List Int) : evF C48 H22 Try.f22 (encs [.oneA (.slice 5 (.int .u8))] b) (RT.dec (.tup [.leaf (.fresh 26 (.pair (.int .u64) (.slice 5 (.int .u8)))), .leaf (.int .i64)])) = F22 b := by kernel_rfl
noncomputable def C22 : Ctx := Ctx.addA C48 22 [.oneA (.slice 5 (.int .u8))] (.tup [.leaf (.fresh 26 (.pair (.int .u64) (.slice 5 (.int .u8)))), .leaf (.int .i64)]) F22
theorem s22 : C22.Sound := Ctx.Sound.addA (C := C48) mixed s48 Try.func22 ev22
/-! damson/damsonref01.long -/
def H71 : Nat → Head := fun _ => ⟨[], []⟩
noncomputable def F71 (b : Int) : Option Int :=
 bif decide (b < 253) then (
 some 1)
 else (
 bif decide (b = 253) then (
 some 3)
 else (
 bif decide (b = 254) then (
 some 5)
 else (
 some 9)))
theorem ev71 (b : Int) : evF C22 H71 Try.f71 (encs [.one (.int .u8)] b) (RT.dec (.one (.leaf (.int .i64)))) = F71 b := by kernel_rfl
noncomputable def C71 : Ctx := Ctx.add C22 71 [.one (.int .u8)] (.one (.leaf (.int .i64))) F71
theorem s71 : C71.Sound := Ctx.Sound.add (C := C22) mixed s22 Try.func71 ev71
/-! damson/damsonref01.Get -/
def H49 : Nat → Head
  | 8 => ⟨[.data 6 (.int .u64), .data 35 (.int .i64)], []⟩
  | 5000012 => ⟨[], [0, 0, 1, 1, 2, 2, 0, 0, 0, 0, 24, 24, 32, 32, 68, 68]⟩
  | _ => ⟨[], []⟩
noncomputable def F49 (b : List Int) : Option (Int × Int × Int) :=
 bif (decide ((b.length : Int) = 0) == false) then (
 bif inb 0 b.length then
 (F71 (rd (.int .u8) b 0)).bind fun r1 =>
 bif decide ((b.length : Int) < r1) then (
 some (0, 0, 3))
 else (
 bif inb 0 b.length then
 (F71 (rd (.int .u8) b 0)).bind fun r2 =>
 bif decide (r2 = 1) then (
 bif inb 0 b.length then
 bif (inb r2 (b.length + 1) && (decide (0 ≤ 1) && decide (1 ≤ r2))) then
 lfp (fun (rec3 : (Int × Int) → Option (Int × Int × Int)) (x3 : Int × Int) =>
  bif decide (x3.2 < (((b.take r2.toNat).drop ((1 : Int).toNat)).length : Int)) then (
  bif inb x3.2 ((b.take r2.toNat).drop ((1 : Int).toNat)).length then
  rec3 ((IntKind.wrap .u64 ((IntKind.wrap .u64 (256 * x3.1)) + (IntKind.wrap .u64 (rd (.int .u8) ((b.take r2.toNat).drop ((1 : Int).toNat)) x3.2)))), (IntKind.wrap .i64 (x3.2 + 1)))
  else none)
  else (
  bif inb r2 (b.length + 1) then
  (both (
  (F70 x3.1).bind fun r4 =>
  (fun o => both o o) (
  bif (!decide (r4 = (b.take r2.toNat))) then (
  some (0, 0, 2))
  else (
  some (x3.1, r2, 0)))) (
  (F70 x3.1).bind fun r4 =>
  bif (!decide (r4 = (b.take r2.toNat))) then (
  some (0, 0, 2))
  else (
  some (x3.1, r2, 0))))
  else none)) ((IntKind.wrap .u64 (rd (.int .u8) b 0)), 0)
 else none
 else none)
 else (
 bif (inb r2 (b.length + 1) && (decide (0 ≤ 1) && decide (1 ≤ r2))) then
 lfp (fun (rec5 : (Int × Int) → Option (Int × Int × Int)) (x5 : Int × Int) =>
  bif decide (x5.2 < (((b.take r2.toNat).drop ((1 : Int).toNat)).length : Int)) then (
  bif inb x5.2 ((b.take r2.toNat).drop ((1 : Int).toNat)).length then
  rec5 ((IntKind.wrap .u64 ((IntKind.wrap .u64 (256 * x5.1)) + (IntKind.wrap .u64 (rd (.int .u8) ((b.take r2.toNat).drop ((1 : Int).toNat)) x5.2)))), (IntKind.wrap .i64 (x5.2 + 1)))
  else none)
  else (
  bif inb r2 (b.length + 1) then
  (both (
  (F70 x5.1).bind fun r6 =>
  (fun o => both o o) (
  bif (!decide (r6 = (b.take r2.toNat))) then (
  some (0, 0, 2))
  else (
  some (x5.1, r2, 0)))) (
  (F70 x5.1).bind fun r6 =>
  bif (!decide (r6 = (b.take r2.toNat))) then (
  some (0, 0, 2))
  else (
  some (x5.1, r2, 0))))
  else none)) (0, 0)
 else none)
 else none)
 else none)
 else (
 some (0, 0, 3))
theorem ev49 (b : List Int) : evF C71 H49 Try.f49 (encs [.one (.slice 5 (.int .u8))] b) (RT.dec (.tup [.leaf (.int .u64), .leaf (.int .i64), .leaf (.int .i64)])) = F49 b := by kernel_rfl
noncomputable def C49 : Ctx := Ctx.add C71 49 [.one (.slice 5 (.int .u8))] (.tup [.leaf (.int .u64), .leaf (.int .i64), .leaf (.int .i64)]) F49
theorem s49 : C49.Sound := Ctx.Sound.add (C := C71) mixed s71 Try.func49 ev49
/-! damson/damsonref02.Get -/
def H23 : Nat → Head
  | 4 => ⟨[.dataA 0 (.slice 5 (.int .u8)), .row 2 10244 26 (.pair (.int .u64) (.slice 5 (.int .u8))), .data 3 (.int .i64), .row 4 18436 26 (.pair (.int .u64) (.slice 5 (.int .u8)))], []⟩
  | _ => ⟨[], []⟩
noncomputable def F23 (b : List Int) : Option ((List (Int × List Int)) × Int) :=
 bif decide (65535 < (b.length : Int)) then (
 some (([] : List (Int × List Int)), 4))
 else (
 lfp (fun (rec1 : (List Int × List (Int × List Int) × Int × List (Int × List Int)) → Option ((List (Int × List Int)) × Int)) (x1 : List Int × List (Int × List Int) × Int × List (Int × List Int)) =>
  bif decide (0 < (x1.1.length : Int)) then (
  bif decide ((x1.2.2.2.length : Int) = 64) then (
  some (([] : List (Int × List Int)), 4))
  else (
  (F49 x1.1).bind fun r2 =>
  bif (!decide (r2.2.2 = 0)) then (
  some (([] : List (Int × List Int)), r2.2.2))
  else (
  bif (decide (0 < (x1.2.2.2.length : Int)) == true) then (
  bif inb (IntKind.wrap .i64 ((x1.2.2.2.length : Int) - 1)) x1.2.2.2.length then
  bif decide (r2.1 ≤ (rd (.pair (.int .u64) (.slice 5 (.int .u8))) x1.2.2.2 (IntKind.wrap .i64 ((x1.2.2.2.length : Int) - 1))).1) then (
  some (([] : List (Int × List Int)), 2))
  else (
  bif inb r2.2.1 (x1.1.length + 1) then
  (F49 (x1.1.drop r2.2.1.toNat)).bind fun r3 =>
  bif (!decide (r3.2.2 = 0)) then (
  some (([] : List (Int × List Int)), r3.2.2))
  else (
  bif decide (4096 < r3.1) then (
  some (([] : List (Int × List Int)), 4))
  else (
  bif inb r3.2.1 ((x1.1.drop r2.2.1.toNat).length + 1) then
  bif decide ((((x1.1.drop r2.2.1.toNat).drop r3.2.1.toNat).length : Int) < (IntKind.wrap .i64 r3.1)) then (
  some (([] : List (Int × List Int)), 3))
  else (
  bif inb r3.1 (((x1.1.drop r2.2.1.toNat).drop r3.2.1.toNat).length + 1) then
  bif (!(((x1.1.drop r2.2.1.toNat).drop r3.2.1.toNat).take r3.1.toNat).isEmpty || true) then
  bif decide ((([] : List Int).length + (((x1.1.drop r2.2.1.toNat).drop r3.2.1.toNat).take r3.1.toNat).length) * 1 ≤ LIM) then
  bif decide ((x1.2.2.2.length + 1) * 32 ≤ LIM) then
  bif inb r3.1 (((x1.1.drop r2.2.1.toNat).drop r3.2.1.toNat).length + 1) then
  rec1 (((x1.1.drop r2.2.1.toNat).drop r3.2.1.toNat).drop r3.1.toNat, x1.2.1, x1.2.2.1, (x1.2.2.2 ++ ([(r2.1, ([] : List Int) ++ (((x1.1.drop r2.2.1.toNat).drop r3.2.1.toNat).take r3.1.toNat))])))
  else none
  else none
  else none
  else none
  else none)
  else none))
  else none)
  else none)
  else (
  bif inb r2.2.1 (x1.1.length + 1) then
  (F49 (x1.1.drop r2.2.1.toNat)).bind fun r4 =>
  bif (!decide (r4.2.2 = 0)) then (
  some (([] : List (Int × List Int)), r4.2.2))
  else (
  bif decide (4096 < r4.1) then (
  some (([] : List (Int × List Int)), 4))
  else (
  bif inb r4.2.1 ((x1.1.drop r2.2.1.toNat).length + 1) then
  bif decide ((((x1.1.drop r2.2.1.toNat).drop r4.2.1.toNat).length : Int) < (IntKind.wrap .i64 r4.1)) then (
  some (([] : List (Int × List Int)), 3))
  else (
  bif inb r4.1 (((x1.1.drop r2.2.1.toNat).drop r4.2.1.toNat).length + 1) then
  bif (!(((x1.1.drop r2.2.1.toNat).drop r4.2.1.toNat).take r4.1.toNat).isEmpty || true) then
  bif decide ((([] : List Int).length + (((x1.1.drop r2.2.1.toNat).drop r4.2.1.toNat).take r4.1.toNat).length) * 1 ≤ LIM) then
  bif decide ((x1.2.2.2.length + 1) * 32 ≤ LIM) then
  bif inb r4.1 (((x1.1.drop r2.2.1.toNat).drop r4.2.1.toNat).length + 1) then
  rec1 (((x1.1.drop r2.2.1.toNat).drop r4.2.1.toNat).drop r4.1.toNat, x1.2.1, x1.2.2.1, (x1.2.2.2 ++ ([(r2.1, ([] : List Int) ++ (((x1.1.drop r2.2.1.toNat).drop r4.2.1.toNat).take r4.1.toNat))])))
  else none
  else none
  else none
  else none
  else none)
  else none))
  else none))))
  else (
  some (x1.2.2.2, 0))) (b, ([] : List (Int × List Int)), 0, ([] : List (Int × List Int))))
theorem ev23 (b : List Int) : evF C49 H23 Try.f23 (encs [.oneA (.slice 5 (.int .u8))] b) (RT.dec (.tup [.leaf (.fresh 26 (.pair (.int .u64) (.slice 5 (.int .u8)))), .leaf (.int .i64)])) = F23 b := by kernel_rfl
noncomputable def C23 : Ctx := Ctx.addA C49 23 [.oneA (.slice 5 (.int .u8))] (.tup [.leaf (.fresh 26 (.pair (.int .u64) (.slice 5 (.int .u8)))), .leaf (.int .i64)]) F23
theorem s23 : C23.Sound := Ctx.Sound.addA (C := C49) mixed s49 Try.func23 ev23
/-! damson/damsonref02.Find -/
def H27 : Nat → Head
  | 4 => ⟨[.row 4 18436 5 (.int .u8), .data 5 (.int .i64), .data 13 (.int .i64)], []⟩
  | _ => ⟨[], []⟩
noncomputable def F27 (b : List (Int × List Int) × Int) : Option (List Int × Int) :=
 (F25 b.1).bind fun r1 =>
 bif (!decide (r1 = 0)) then (
 some (([] : List Int), 1))
 else (
 lfp (fun (rec2 : (List Int × Int × Int) → Option (List Int × Int)) (x2 : List Int × Int × Int) =>
  bif decide (x2.2.2 < (b.1.length : Int)) then (
  bif inb x2.2.2 b.1.length then
  bif decide ((rd (.pair (.int .u64) (.slice 5 (.int .u8))) b.1 x2.2.2).1 = b.2) then (
  bif (!((rd (.pair (.int .u64) (.slice 5 (.int .u8))) b.1 x2.2.2).2).isEmpty || true) then
  bif decide ((([] : List Int).length + ((rd (.pair (.int .u64) (.slice 5 (.int .u8))) b.1 x2.2.2).2).length) * 1 ≤ LIM) then
  some (([] : List Int) ++ ((rd (.pair (.int .u64) (.slice 5 (.int .u8))) b.1 x2.2.2).2), 0)
  else none
  else none)
  else (
  rec2 (x2.1, x2.2.1, (IntKind.wrap .i64 (x2.2.2 + 1))))
  else none)
  else (
  some (([] : List Int), 5))) (([] : List Int), 0, 0))
theorem ev27 (b : List (Int × List Int) × Int) : evF C23 H27 Try.f27 (encs [.oneA (.slice 26 (.pair (.int .u64) (.slice 5 (.int .u8)))), .one (.int .u64)] b) (RT.dec (.tup [.leaf (.fresh 5 (.int .u8)), .leaf (.int .i64)])) = F27 b := by kernel_rfl
noncomputable def C27 : Ctx := Ctx.addA C23 27 [.oneA (.slice 26 (.pair (.int .u64) (.slice 5 (.int .u8)))), .one (.int .u64)] (.tup [.leaf (.fresh 5 (.int .u8)), .leaf (.int .i64)]) F27
theorem s27 : C27.Sound := Ctx.Sound.addA (C := C23) mixed s23 Try.func27 ev27
/-! damson/tlv.Number -/
def H28 : Nat → Head := fun _ => ⟨[], []⟩
noncomputable def F28 (b : List (Int × List Int) × Int) : Option (Int × Int) :=
 (F17 (b.1, b.2)).bind fun r1 =>
 bif (!decide (r1.2 = 0)) then (
 some (0, r1.2))
 else (
 (F52 r1.1).bind fun r2 =>
 bif (!decide (r2.2.2 = 0)) then (
 some (0, r2.2.2))
 else (
 bif decide (r2.2.1 < (r1.1.length : Int)) then (
 some (0, 2))
 else (
 some (r2.1, 0))))
theorem ev28 (b : List (Int × List Int) × Int) : evF C27 H28 Try.f28 (encs [.one (.slice 26 (.pair (.int .u64) (.slice 5 (.int .u8)))), .one (.int .u64)] b) (RT.dec (.tup [.leaf (.int .u64), .leaf (.int .i64)])) = F28 b := by kernel_rfl
noncomputable def C28 : Ctx := Ctx.add C27 28 [.one (.slice 26 (.pair (.int .u64) (.slice 5 (.int .u8)))), .one (.int .u64)] (.tup [.leaf (.int .u64), .leaf (.int .i64)]) F28
theorem s28 : C28.Sound := Ctx.Sound.add (C := C27) mixed s27 Try.func28 ev28
/-! damson/damsonref02.Number -/
def H29 : Nat → Head := fun _ => ⟨[], []⟩
noncomputable def F29 (b : List (Int × List Int) × Int) : Option (Int × Int) :=
 (F27 (b.1, b.2)).bind fun r1 =>
 bif (!decide (r1.2 = 0)) then (
 some (0, r1.2))
 else (
 (F49 r1.1).bind fun r2 =>
 bif (!decide (r2.2.2 = 0)) then (
 some (0, r2.2.2))
 else (
 bif (!decide (r2.2.1 = (r1.1.length : Int))) then (
 some (0, 2))
 else (
 some (r2.1, 0))))
theorem ev29 (b : List (Int × List Int) × Int) : evF C28 H29 Try.f29 (encs [.one (.slice 26 (.pair (.int .u64) (.slice 5 (.int .u8)))), .one (.int .u64)] b) (RT.dec (.tup [.leaf (.int .u64), .leaf (.int .i64)])) = F29 b := by kernel_rfl
noncomputable def C29 : Ctx := Ctx.add C28 29 [.one (.slice 26 (.pair (.int .u64) (.slice 5 (.int .u8)))), .one (.int .u64)] (.tup [.leaf (.int .u64), .leaf (.int .i64)]) F29
theorem s29 : C29.Sound := Ctx.Sound.add (C := C28) mixed s28 Try.func29 ev29
/-! slices.IndexFunc[[]damson/api.Caveat,damson/api.Caveat] -/
def H90075 : Nat → Head
  | 2 => ⟨[.data 4 (.int .i64), .data 8 (.int .i64)], []⟩
  | _ => ⟨[], []⟩
noncomputable def F90075 (b : List (Int × (Int × Int)) × Unit) : Option Int :=
 lfp (fun (rec1 : (Int × Int) → Option Int) (x1 : Int × Int) =>
  bif decide (x1.2 < (b.1.length : Int)) then (
  bif inb x1.2 b.1.length then
  (F75 ((rd (.pair (.int .i64) (.pair (.int .u64) (.int .u64))) b.1 x1.2).1, (((rd (.pair (.int .i64) (.pair (.int .u64) (.int .u64))) b.1 x1.2).2).1, ((rd (.pair (.int .i64) (.pair (.int .u64) (.int .u64))) b.1 x1.2).2).2))).bind fun r2 =>
  bif r2 then (
  some x1.2)
  else (
  rec1 (x1.1, (IntKind.wrap .i64 (x1.2 + 1))))
  else none)
  else (
  some (-1))) (0, 0)
theorem ev90075 (b : List (Int × (Int × Int)) × Unit) : evF C29 H90075 Try.f90 (encs [.one (.slice 95 (.pair (.int .i64) (.pair (.int .u64) (.int .u64)))), .fn 75] b) (RT.dec (.one (.leaf (.int .i64)))) = F90075 b := by kernel_rfl
noncomputable def C90075 : Ctx := Ctx.add C29 90 [.one (.slice 95 (.pair (.int .i64) (.pair (.int .u64) (.int .u64)))), .fn 75] (.one (.leaf (.int .i64))) F90075
theorem s90075 : C90075.Sound := Ctx.Sound.add (C := C29) mixed s29 Try.func90 ev90075
/-! slices.ContainsFunc[[]damson/api.Caveat,damson/api.Caveat] -/
def H77075 : Nat → Head := fun _ => ⟨[], []⟩
noncomputable def F77075 (b : List (Int × (Int × Int)) × Unit) : Option Bool :=
 (F90075 (b.1, ())).bind fun r1 =>
 some (decide (0 ≤ r1))
theorem ev77075 (b : List (Int × (Int × Int)) × Unit) : evF C90075 H77075 Try.f77 (encs [.one (.slice 95 (.pair (.int .i64) (.pair (.int .u64) (.int .u64)))), .fn 75] b) (RT.dec (.one (.leaf (.bool)))) = F77075 b := by kernel_rfl
noncomputable def C77075 : Ctx := Ctx.add C90075 77 [.one (.slice 95 (.pair (.int .i64) (.pair (.int .u64) (.int .u64)))), .fn 75] (.one (.leaf (.bool))) F77075
theorem s77075 : C77075.Sound := Ctx.Sound.add (C := C90075) mixed s90075 Try.func77 ev77075
/-! damson/token.Check -/
def H58 : Nat → Head := fun _ => ⟨[], []⟩
noncomputable def F58 (b : (Int × (List (Int × (Int × Int)) × Int))) : Option Int :=
 bif ((bif (bif decide (16 < (b.2.1.length : Int)) then true else decide (b.2.2 < 0)) then true else decide (1048576 < b.2.2)) == false) then (
 (F77075 (b.2.1, ())).bind fun r1 =>
 bif r1 then (
 some 1)
 else (
 some 0))
 else (
 some 1)
theorem ev58 (b : (Int × (List (Int × (Int × Int)) × Int))) : evF C77075 H58 Try.f58 (encs [.agg (.pair (.int .u64) (.pair (.slice 95 (.pair (.int .i64) (.pair (.int .u64) (.int .u64)))) (.int .i64)))] b) (RT.dec (.one (.leaf (.int .i64)))) = F58 b := by kernel_rfl
noncomputable def C58 : Ctx := Ctx.add C77075 58 [.agg (.pair (.int .u64) (.pair (.slice 95 (.pair (.int .i64) (.pair (.int .u64) (.int .u64)))) (.int .i64)))] (.one (.leaf (.int .i64))) F58
theorem s58 : C58.Sound := Ctx.Sound.add (C := C77075) mixed s77075 Try.func58 ev58
/-! slices.IndexFunc[[]damson/api.Event,damson/api.Event] -/
def H74056 : Nat → Head
  | 2 => ⟨[.data 4 (.int .i64), .data 8 (.int .i64)], []⟩
  | _ => ⟨[], []⟩
noncomputable def F74056 (b : List (Int × (Int × (Int × Int))) × Unit) : Option Int :=
 lfp (fun (rec1 : (Int × Int) → Option Int) (x1 : Int × Int) =>
  bif decide (x1.2 < (b.1.length : Int)) then (
  bif inb x1.2 b.1.length then
  (F56 ((rd (.pair (.int .u64) (.pair (.int .i64) (.pair (.int .u64) (.int .u64)))) b.1 x1.2).1, (((rd (.pair (.int .u64) (.pair (.int .i64) (.pair (.int .u64) (.int .u64)))) b.1 x1.2).2).1, ((((rd (.pair (.int .u64) (.pair (.int .i64) (.pair (.int .u64) (.int .u64)))) b.1 x1.2).2).2).1, (((rd (.pair (.int .u64) (.pair (.int .i64) (.pair (.int .u64) (.int .u64)))) b.1 x1.2).2).2).2)))).bind fun r2 =>
  bif r2 then (
  some x1.2)
  else (
  rec1 (x1.1, (IntKind.wrap .i64 (x1.2 + 1))))
  else none)
  else (
  some (-1))) (0, 0)
theorem ev74056 (b : List (Int × (Int × (Int × Int))) × Unit) : evF C58 H74056 Try.f74 (encs [.one (.slice 81 (.pair (.int .u64) (.pair (.int .i64) (.pair (.int .u64) (.int .u64))))), .fn 56] b) (RT.dec (.one (.leaf (.int .i64)))) = F74056 b := by kernel_rfl
noncomputable def C74056 : Ctx := Ctx.add C58 74 [.one (.slice 81 (.pair (.int .u64) (.pair (.int .i64) (.pair (.int .u64) (.int .u64))))), .fn 56] (.one (.leaf (.int .i64))) F74056
theorem s74056 : C74056.Sound := Ctx.Sound.add (C := C58) mixed s58 Try.func74 ev74056
/-! slices.ContainsFunc[[]damson/api.Event,damson/api.Event] -/
def H57056 : Nat → Head := fun _ => ⟨[], []⟩
noncomputable def F57056 (b : List (Int × (Int × (Int × Int))) × Unit) : Option Bool :=
 (F74056 (b.1, ())).bind fun r1 =>
 some (decide (0 ≤ r1))
theorem ev57056 (b : List (Int × (Int × (Int × Int))) × Unit) : evF C74056 H57056 Try.f57 (encs [.one (.slice 81 (.pair (.int .u64) (.pair (.int .i64) (.pair (.int .u64) (.int .u64))))), .fn 56] b) (RT.dec (.one (.leaf (.bool)))) = F57056 b := by kernel_rfl
noncomputable def C57056 : Ctx := Ctx.add C74056 57 [.one (.slice 81 (.pair (.int .u64) (.pair (.int .i64) (.pair (.int .u64) (.int .u64))))), .fn 56] (.one (.leaf (.bool))) F57056
theorem s57056 : C57056.Sound := Ctx.Sound.add (C := C74056) mixed s74056 Try.func57 ev57056
/-! damson/reply.Check -/
def H34 : Nat → Head := fun _ => ⟨[], []⟩
noncomputable def F34 (b : (Int × (Int × (Int × (Int × (Int × (List Int × (List (Int × (Int × (Int × Int))) × (Int × (List (Int × (Int × Int)) × Int)))))))))) : Option Int :=
 bif ((bif (bif (bif (bif decide (b.2.1 < 0) then true else decide (14 < b.2.1)) then true else decide (b.2.2.2.2.1 < 0)) then true else decide (4 < b.2.2.2.2.1)) then true else decide (16 < (if (b.2.2.2.2.2.1.length : Int) < (b.2.2.2.2.2.2.1.length : Int) then (b.2.2.2.2.2.2.1.length : Int) else (b.2.2.2.2.2.1.length : Int)))) == false) then (
 (F57056 (b.2.2.2.2.2.2.1, ())).bind fun r1 =>
 bif r1 then (
 some 1)
 else (
 (F58 (b.2.2.2.2.2.2.2.1, (b.2.2.2.2.2.2.2.2.1, b.2.2.2.2.2.2.2.2.2))).bind fun r2 =>
 some r2))
 else (
 some 1)
theorem ev34 (b : (Int × (Int × (Int × (Int × (Int × (List Int × (List (Int × (Int × (Int × Int))) × (Int × (List (Int × (Int × Int)) × Int)))))))))) : evF C57056 H34 Try.f34 (encs [.agg (.pair (.int .u64) (.pair (.int .i64) (.pair (.int .u64) (.pair (.int .u64) (.pair (.int .i64) (.pair (.slice 23 (.int .u64)) (.pair (.slice 81 (.pair (.int .u64) (.pair (.int .i64) (.pair (.int .u64) (.int .u64))))) (.pair (.int .u64) (.pair (.slice 95 (.pair (.int .i64) (.pair (.int .u64) (.int .u64)))) (.int .i64))))))))))] b) (RT.dec (.one (.leaf (.int .i64)))) = F34 b := by kernel_rfl
noncomputable def C34 : Ctx := Ctx.add C57056 34 [.agg (.pair (.int .u64) (.pair (.int .i64) (.pair (.int .u64) (.pair (.int .u64) (.pair (.int .i64) (.pair (.slice 23 (.int .u64)) (.pair (.slice 81 (.pair (.int .u64) (.pair (.int .i64) (.pair (.int .u64) (.int .u64))))) (.pair (.int .u64) (.pair (.slice 95 (.pair (.int .i64) (.pair (.int .u64) (.int .u64)))) (.int .i64))))))))))] (.one (.leaf (.int .i64))) F34
theorem s34 : C34.Sound := Ctx.Sound.add (C := C57056) mixed s57056 Try.func34 ev34
/-! slices.Equal[[]damson/api.Caveat,damson/api.Caveat] -/
def H72 : Nat → Head
  | 4 => ⟨[.data 4 .bool, .data 13 (.int .i64)], []⟩
  | 5000006 => ⟨[], [0, 0, 0, 0, 3, 3, 4, 4, 0, 0, 0, 0, 48, 48, 64, 64, 136, 136]⟩
  | _ => ⟨[], []⟩
noncomputable def F72 (b : List (Int × (Int × Int)) × List (Int × (Int × Int))) : Option Bool :=
 bif (!decide ((b.1.length : Int) = (b.2.length : Int))) then (
 some false)
 else (
 lfp (fun (rec1 : (Bool × Int) → Option Bool) (x1 : Bool × Int) =>
  bif decide (x1.2 < (b.1.length : Int)) then (
  bif inb x1.2 b.1.length then
  bif inb x1.2 b.2.length then
  bif (!(decide ((rd (.pair (.int .i64) (.pair (.int .u64) (.int .u64))) b.1 x1.2).1 = (rd (.pair (.int .i64) (.pair (.int .u64) (.int .u64))) b.2 x1.2).1) && (decide (((rd (.pair (.int .i64) (.pair (.int .u64) (.int .u64))) b.1 x1.2).2).1 = ((rd (.pair (.int .i64) (.pair (.int .u64) (.int .u64))) b.2 x1.2).2).1) && decide (((rd (.pair (.int .i64) (.pair (.int .u64) (.int .u64))) b.1 x1.2).2).2 = ((rd (.pair (.int .i64) (.pair (.int .u64) (.int .u64))) b.2 x1.2).2).2)))) then (
  some false)
  else (
  rec1 (x1.1, (IntKind.wrap .i64 (x1.2 + 1))))
  else none
  else none)
  else (
  some true)) (false, 0))
theorem ev72 (b : List (Int × (Int × Int)) × List (Int × (Int × Int))) : evF C34 H72 Try.f72 (encs [.one (.slice 95 (.pair (.int .i64) (.pair (.int .u64) (.int .u64)))), .one (.slice 95 (.pair (.int .i64) (.pair (.int .u64) (.int .u64))))] b) (RT.dec (.one (.leaf (.bool)))) = F72 b := by kernel_rfl
noncomputable def C72 : Ctx := Ctx.add C34 72 [.one (.slice 95 (.pair (.int .i64) (.pair (.int .u64) (.int .u64)))), .one (.slice 95 (.pair (.int .i64) (.pair (.int .u64) (.int .u64))))] (.one (.leaf (.bool))) F72
theorem s72 : C72.Sound := Ctx.Sound.add (C := C34) mixed s34 Try.func72 ev72
/-! damson/token.Same -/
def H54 : Nat → Head := fun _ => ⟨[], []⟩
noncomputable def F54 (b : (Int × (List (Int × (Int × Int)) × Int)) × (Int × (List (Int × (Int × Int)) × Int))) : Option Bool :=
 bif ((bif decide (b.1.1 = b.2.1) then decide (b.1.2.2 = b.2.2.2) else false) == true) then (
 (F72 (b.1.2.1, b.2.2.1)).bind fun r1 =>
 some r1)
 else (
 some false)
theorem ev54 (b : (Int × (List (Int × (Int × Int)) × Int)) × (Int × (List (Int × (Int × Int)) × Int))) : evF C72 H54 Try.f54 (encs [.agg (.pair (.int .u64) (.pair (.slice 95 (.pair (.int .i64) (.pair (.int .u64) (.int .u64)))) (.int .i64))), .agg (.pair (.int .u64) (.pair (.slice 95 (.pair (.int .i64) (.pair (.int .u64) (.int .u64)))) (.int .i64)))] b) (RT.dec (.one (.leaf (.bool)))) = F54 b := by kernel_rfl
noncomputable def C54 : Ctx := Ctx.add C72 54 [.agg (.pair (.int .u64) (.pair (.slice 95 (.pair (.int .i64) (.pair (.int .u64) (.int .u64)))) (.int .i64))), .agg (.pair (.int .u64) (.pair (.slice 95 (.pair (.int .i64) (.pair (.int .u64) (.int .u64)))) (.int .i64)))] (.one (.leaf (.bool))) F54
theorem s54 : C54.Sound := Ctx.Sound.add (C := C72) mixed s72 Try.func54 ev54
/-! damson/caveat.Put -/
def H88 : Nat → Head := fun _ => ⟨[], []⟩
noncomputable def F88 (b : (Int × (Int × Int))) : Option (List Int × Int) :=
 (F76 (b.1, (b.2.1, b.2.2))).bind fun r1 =>
 bif (!decide (r1 = 0)) then (
 some (([] : List Int), r1))
 else (
 bif (!decide (b.1 = 4)) then (
 bif inb 2 (([(IntKind.wrap .u64 b.1), b.2.1, b.2.2]).length + 1) then
 (F26 (([(IntKind.wrap .u64 b.1), b.2.1, b.2.2]).take ((2 : Int).toNat))).bind fun r2 =>
 some (r2, 0)
 else none)
 else (
 (F26 ([(IntKind.wrap .u64 b.1), b.2.1, b.2.2])).bind fun r3 =>
 some (r3, 0)))
theorem ev88 (b : (Int × (Int × Int))) : evF C54 H88 Try.f88 (encs [.agg (.pair (.int .i64) (.pair (.int .u64) (.int .u64)))] b) (RT.dec (.tup [.leaf (.fresh 5 (.int .u8)), .leaf (.int .i64)])) = F88 b := by kernel_rfl
noncomputable def C88 : Ctx := Ctx.add C54 88 [.agg (.pair (.int .i64) (.pair (.int .u64) (.int .u64)))] (.tup [.leaf (.fresh 5 (.int .u8)), .leaf (.int .i64)]) F88
theorem s88 : C88.Sound := Ctx.Sound.add (C := C54) mixed s54 Try.func88 ev88
/-! damson/token.texts -/
def H73 : Nat → Head
  | 3 => ⟨[.data 13 (.int .i64), .rowk 36864 24 (.slice 5 (.int .u8))], [4096]⟩
  | _ => ⟨[], []⟩
noncomputable def F73 (b : (Int × (List (Int × (Int × Int)) × Int))) : Option (List (List Int)) :=
 bif (decide (0 ≤ (b.2.1.length : Int)) && decide ((b.2.1.length : Int) = (b.2.1.length : Int)) && decide ((b.2.1.length : Int).toNat * 24 ≤ LIM)) then
 lfp (fun (rec1 : (Int × List (List Int)) → Option (List (List Int))) (x1 : Int × List (List Int)) =>
  bif decide (x1.1 < (b.2.1.length : Int)) then (
  bif inb x1.1 b.2.1.length then
  (F88 ((rd (.pair (.int .i64) (.pair (.int .u64) (.int .u64))) b.2.1 x1.1).1, (((rd (.pair (.int .i64) (.pair (.int .u64) (.int .u64))) b.2.1 x1.1).2).1, ((rd (.pair (.int .i64) (.pair (.int .u64) (.int .u64))) b.2.1 x1.1).2).2))).bind fun r2 =>
  bif inb x1.1 x1.2.length then
  rec1 ((IntKind.wrap .i64 (x1.1 + 1)), (x1.2.set x1.1.toNat r2.1))
  else none
  else none)
  else (
  some x1.2)) (0, (List.replicate ((b.2.1.length : Int).toNat) [] : List (List Int)))
 else none
theorem ev73 (b : (Int × (List (Int × (Int × Int)) × Int))) : evF C88 H73 Try.f73 (encs [.aggA (.pair (.int .u64) (.pair (.slice 95 (.pair (.int .i64) (.pair (.int .u64) (.int .u64)))) (.int .i64)))] b) (RT.dec (.one (.leaf (.fresh 24 (.slice 5 (.int .u8)))))) = F73 b := by kernel_rfl
noncomputable def C73 : Ctx := Ctx.addA C88 73 [.aggA (.pair (.int .u64) (.pair (.slice 95 (.pair (.int .i64) (.pair (.int .u64) (.int .u64)))) (.int .i64)))] (.one (.leaf (.fresh 24 (.slice 5 (.int .u8))))) F73
theorem s73 : C73.Sound := Ctx.Sound.addA (C := C88) mixed s88 Try.func73 ev73
/-! damson/token.Put -/
def H55 : Nat → Head
  | 6 => ⟨[.row 5 22534 26 (.pair (.int .u64) (.slice 5 (.int .u8))), .data 28 (.int .i64)], [106496, 90112, 86016, 65536, 61440, 4096]⟩
  | 5000004 => ⟨[], [0, 0, 1, 1, 2, 2, 4, 4, 8, 8, 0, 0, 32, 32, 64, 64, 128, 128, 264, 256, 512, 512, 1040, 1040, 4095, 2048]⟩
  | _ => ⟨[], []⟩
noncomputable def F55 (b : (Int × (List (Int × (Int × Int)) × Int))) : Option (List Int × Int) :=
 (F58 (b.1, (b.2.1, b.2.2))).bind fun r1 =>
 bif (!decide (r1 = 0)) then (
 some (([] : List Int), r1))
 else (
 (both (
 (both (
 (both (
 (F26 ([b.1])).bind fun r2 =>
 (both (
 (F26 ([(IntKind.wrap .u64 b.2.2)])).bind fun r3 =>
 (F73 (b.1, (b.2.1, b.2.2))).bind fun r4 =>
 lfp (fun (rec5 : (List (Int × List Int) × Int) → Option (List Int × Int)) (x5 : List (Int × List Int) × Int) =>
  bif decide (x5.2 < (r4.length : Int)) then (
  bif inb x5.2 r4.length then
  bif decide ((x5.1.length + 1) * 32 ≤ LIM) then
  rec5 ((x5.1 ++ ([((IntKind.wrap .u64 (16 + (IntKind.wrap .u64 x5.2))), (rd (.slice 5 (.int .u8)) r4 x5.2))])), (IntKind.wrap .i64 (x5.2 + 1)))
  else none
  else none)
  else (
  (F20 x5.1).bind fun r6 =>
  some (r6.1, r6.2))) (([(1, r2), (2, r3)]), 0)) (
 (both (
 (F26 ([(IntKind.wrap .u64 b.2.2)])).bind fun r3 =>
 (F73 (b.1, (b.2.1, b.2.2))).bind fun r4 =>
 lfp (fun (rec5 : (List (Int × List Int) × Int) → Option (List Int × Int)) (x5 : List (Int × List Int) × Int) =>
  bif decide (x5.2 < (r4.length : Int)) then (
  bif inb x5.2 r4.length then
  bif decide ((x5.1.length + 1) * 32 ≤ LIM) then
  rec5 ((x5.1 ++ ([((IntKind.wrap .u64 (16 + (IntKind.wrap .u64 x5.2))), (rd (.slice 5 (.int .u8)) r4 x5.2))])), (IntKind.wrap .i64 (x5.2 + 1)))
  else none
  else none)
  else (
  (F20 x5.1).bind fun r6 =>
  some (r6.1, r6.2))) (([(1, r2), (2, r3)]), 0)) (
 (both (
 (F26 ([(IntKind.wrap .u64 b.2.2)])).bind fun r3 =>
 (F73 (b.1, (b.2.1, b.2.2))).bind fun r4 =>
 lfp (fun (rec5 : (List (Int × List Int) × Int) → Option (List Int × Int)) (x5 : List (Int × List Int) × Int) =>
  bif decide (x5.2 < (r4.length : Int)) then (
  bif inb x5.2 r4.length then
  bif decide ((x5.1.length + 1) * 32 ≤ LIM) then
  rec5 ((x5.1 ++ ([((IntKind.wrap .u64 (16 + (IntKind.wrap .u64 x5.2))), (rd (.slice 5 (.int .u8)) r4 x5.2))])), (IntKind.wrap .i64 (x5.2 + 1)))
  else none
  else none)
  else (
  (F20 x5.1).bind fun r6 =>
  some (r6.1, r6.2))) (([(1, r2), (2, r3)]), 0)) (
 (F26 ([(IntKind.wrap .u64 b.2.2)])).bind fun r3 =>
 (fun o => both o o) (
 (F73 (b.1, (b.2.1, b.2.2))).bind fun r4 =>
 lfp (fun (rec5 : (List (Int × List Int) × Int) → Option (List Int × Int)) (x5 : List (Int × List Int) × Int) =>
  bif decide (x5.2 < (r4.length : Int)) then (
  bif inb x5.2 r4.length then
  bif decide ((x5.1.length + 1) * 32 ≤ LIM) then
  rec5 ((x5.1 ++ ([((IntKind.wrap .u64 (16 + (IntKind.wrap .u64 x5.2))), (rd (.slice 5 (.int .u8)) r4 x5.2))])), (IntKind.wrap .i64 (x5.2 + 1)))
  else none
  else none)
  else (
  (F20 x5.1).bind fun r6 =>
  some (r6.1, r6.2))) (([(1, r2), (2, r3)]), 0))))))))) (
 (both (
 (F26 ([b.1])).bind fun r2 =>
 (both (
 (F26 ([(IntKind.wrap .u64 b.2.2)])).bind fun r3 =>
 (F73 (b.1, (b.2.1, b.2.2))).bind fun r4 =>
 lfp (fun (rec5 : (List (Int × List Int) × Int) → Option (List Int × Int)) (x5 : List (Int × List Int) × Int) =>
  bif decide (x5.2 < (r4.length : Int)) then (
  bif inb x5.2 r4.length then
  bif decide ((x5.1.length + 1) * 32 ≤ LIM) then
  rec5 ((x5.1 ++ ([((IntKind.wrap .u64 (16 + (IntKind.wrap .u64 x5.2))), (rd (.slice 5 (.int .u8)) r4 x5.2))])), (IntKind.wrap .i64 (x5.2 + 1)))
  else none
  else none)
  else (
  (F20 x5.1).bind fun r6 =>
  some (r6.1, r6.2))) (([(1, r2), (2, r3)]), 0)) (
 (both (
 (F26 ([(IntKind.wrap .u64 b.2.2)])).bind fun r3 =>
 (F73 (b.1, (b.2.1, b.2.2))).bind fun r4 =>
 lfp (fun (rec5 : (List (Int × List Int) × Int) → Option (List Int × Int)) (x5 : List (Int × List Int) × Int) =>
  bif decide (x5.2 < (r4.length : Int)) then (
  bif inb x5.2 r4.length then
  bif decide ((x5.1.length + 1) * 32 ≤ LIM) then
  rec5 ((x5.1 ++ ([((IntKind.wrap .u64 (16 + (IntKind.wrap .u64 x5.2))), (rd (.slice 5 (.int .u8)) r4 x5.2))])), (IntKind.wrap .i64 (x5.2 + 1)))
  else none
  else none)
  else (
  (F20 x5.1).bind fun r6 =>
  some (r6.1, r6.2))) (([(1, r2), (2, r3)]), 0)) (
 (F26 ([(IntKind.wrap .u64 b.2.2)])).bind fun r3 =>
 (fun o => both o o) (
 (F73 (b.1, (b.2.1, b.2.2))).bind fun r4 =>
 lfp (fun (rec5 : (List (Int × List Int) × Int) → Option (List Int × Int)) (x5 : List (Int × List Int) × Int) =>
  bif decide (x5.2 < (r4.length : Int)) then (
  bif inb x5.2 r4.length then
  bif decide ((x5.1.length + 1) * 32 ≤ LIM) then
  rec5 ((x5.1 ++ ([((IntKind.wrap .u64 (16 + (IntKind.wrap .u64 x5.2))), (rd (.slice 5 (.int .u8)) r4 x5.2))])), (IntKind.wrap .i64 (x5.2 + 1)))
  else none
  else none)
  else (
  (F20 x5.1).bind fun r6 =>
  some (r6.1, r6.2))) (([(1, r2), (2, r3)]), 0))))))) (
 (F26 ([b.1])).bind fun r2 =>
 (both (
 (F26 ([(IntKind.wrap .u64 b.2.2)])).bind fun r3 =>
 (F73 (b.1, (b.2.1, b.2.2))).bind fun r4 =>
 lfp (fun (rec5 : (List (Int × List Int) × Int) → Option (List Int × Int)) (x5 : List (Int × List Int) × Int) =>
  bif decide (x5.2 < (r4.length : Int)) then (
  bif inb x5.2 r4.length then
  bif decide ((x5.1.length + 1) * 32 ≤ LIM) then
  rec5 ((x5.1 ++ ([((IntKind.wrap .u64 (16 + (IntKind.wrap .u64 x5.2))), (rd (.slice 5 (.int .u8)) r4 x5.2))])), (IntKind.wrap .i64 (x5.2 + 1)))
  else none
  else none)
  else (
  (F20 x5.1).bind fun r6 =>
  some (r6.1, r6.2))) (([(1, r2), (2, r3)]), 0)) (
 (F26 ([(IntKind.wrap .u64 b.2.2)])).bind fun r3 =>
 (fun o => both o o) (
 (F73 (b.1, (b.2.1, b.2.2))).bind fun r4 =>
 lfp (fun (rec5 : (List (Int × List Int) × Int) → Option (List Int × Int)) (x5 : List (Int × List Int) × Int) =>
  bif decide (x5.2 < (r4.length : Int)) then (
  bif inb x5.2 r4.length then
  bif decide ((x5.1.length + 1) * 32 ≤ LIM) then
  rec5 ((x5.1 ++ ([((IntKind.wrap .u64 (16 + (IntKind.wrap .u64 x5.2))), (rd (.slice 5 (.int .u8)) r4 x5.2))])), (IntKind.wrap .i64 (x5.2 + 1)))
  else none
  else none)
  else (
  (F20 x5.1).bind fun r6 =>
  some (r6.1, r6.2))) (([(1, r2), (2, r3)]), 0))))))))) (
 (both (
 (both (
 (F26 ([b.1])).bind fun r2 =>
 (both (
 (F26 ([(IntKind.wrap .u64 b.2.2)])).bind fun r3 =>
 (F73 (b.1, (b.2.1, b.2.2))).bind fun r4 =>
 lfp (fun (rec5 : (List (Int × List Int) × Int) → Option (List Int × Int)) (x5 : List (Int × List Int) × Int) =>
  bif decide (x5.2 < (r4.length : Int)) then (
  bif inb x5.2 r4.length then
  bif decide ((x5.1.length + 1) * 32 ≤ LIM) then
  rec5 ((x5.1 ++ ([((IntKind.wrap .u64 (16 + (IntKind.wrap .u64 x5.2))), (rd (.slice 5 (.int .u8)) r4 x5.2))])), (IntKind.wrap .i64 (x5.2 + 1)))
  else none
  else none)
  else (
  (F20 x5.1).bind fun r6 =>
  some (r6.1, r6.2))) (([(1, r2), (2, r3)]), 0)) (
 (both (
 (F26 ([(IntKind.wrap .u64 b.2.2)])).bind fun r3 =>
 (F73 (b.1, (b.2.1, b.2.2))).bind fun r4 =>
 lfp (fun (rec5 : (List (Int × List Int) × Int) → Option (List Int × Int)) (x5 : List (Int × List Int) × Int) =>
  bif decide (x5.2 < (r4.length : Int)) then (
  bif inb x5.2 r4.length then
  bif decide ((x5.1.length + 1) * 32 ≤ LIM) then
  rec5 ((x5.1 ++ ([((IntKind.wrap .u64 (16 + (IntKind.wrap .u64 x5.2))), (rd (.slice 5 (.int .u8)) r4 x5.2))])), (IntKind.wrap .i64 (x5.2 + 1)))
  else none
  else none)
  else (
  (F20 x5.1).bind fun r6 =>
  some (r6.1, r6.2))) (([(1, r2), (2, r3)]), 0)) (
 (F26 ([(IntKind.wrap .u64 b.2.2)])).bind fun r3 =>
 (fun o => both o o) (
 (F73 (b.1, (b.2.1, b.2.2))).bind fun r4 =>
 lfp (fun (rec5 : (List (Int × List Int) × Int) → Option (List Int × Int)) (x5 : List (Int × List Int) × Int) =>
  bif decide (x5.2 < (r4.length : Int)) then (
  bif inb x5.2 r4.length then
  bif decide ((x5.1.length + 1) * 32 ≤ LIM) then
  rec5 ((x5.1 ++ ([((IntKind.wrap .u64 (16 + (IntKind.wrap .u64 x5.2))), (rd (.slice 5 (.int .u8)) r4 x5.2))])), (IntKind.wrap .i64 (x5.2 + 1)))
  else none
  else none)
  else (
  (F20 x5.1).bind fun r6 =>
  some (r6.1, r6.2))) (([(1, r2), (2, r3)]), 0))))))) (
 (F26 ([b.1])).bind fun r2 =>
 (both (
 (F26 ([(IntKind.wrap .u64 b.2.2)])).bind fun r3 =>
 (F73 (b.1, (b.2.1, b.2.2))).bind fun r4 =>
 lfp (fun (rec5 : (List (Int × List Int) × Int) → Option (List Int × Int)) (x5 : List (Int × List Int) × Int) =>
  bif decide (x5.2 < (r4.length : Int)) then (
  bif inb x5.2 r4.length then
  bif decide ((x5.1.length + 1) * 32 ≤ LIM) then
  rec5 ((x5.1 ++ ([((IntKind.wrap .u64 (16 + (IntKind.wrap .u64 x5.2))), (rd (.slice 5 (.int .u8)) r4 x5.2))])), (IntKind.wrap .i64 (x5.2 + 1)))
  else none
  else none)
  else (
  (F20 x5.1).bind fun r6 =>
  some (r6.1, r6.2))) (([(1, r2), (2, r3)]), 0)) (
 (F26 ([(IntKind.wrap .u64 b.2.2)])).bind fun r3 =>
 (fun o => both o o) (
 (F73 (b.1, (b.2.1, b.2.2))).bind fun r4 =>
 lfp (fun (rec5 : (List (Int × List Int) × Int) → Option (List Int × Int)) (x5 : List (Int × List Int) × Int) =>
  bif decide (x5.2 < (r4.length : Int)) then (
  bif inb x5.2 r4.length then
  bif decide ((x5.1.length + 1) * 32 ≤ LIM) then
  rec5 ((x5.1 ++ ([((IntKind.wrap .u64 (16 + (IntKind.wrap .u64 x5.2))), (rd (.slice 5 (.int .u8)) r4 x5.2))])), (IntKind.wrap .i64 (x5.2 + 1)))
  else none
  else none)
  else (
  (F20 x5.1).bind fun r6 =>
  some (r6.1, r6.2))) (([(1, r2), (2, r3)]), 0))))))) (
 (F26 ([b.1])).bind fun r2 =>
 (both (
 (F26 ([(IntKind.wrap .u64 b.2.2)])).bind fun r3 =>
 (F73 (b.1, (b.2.1, b.2.2))).bind fun r4 =>
 lfp (fun (rec5 : (List (Int × List Int) × Int) → Option (List Int × Int)) (x5 : List (Int × List Int) × Int) =>
  bif decide (x5.2 < (r4.length : Int)) then (
  bif inb x5.2 r4.length then
  bif decide ((x5.1.length + 1) * 32 ≤ LIM) then
  rec5 ((x5.1 ++ ([((IntKind.wrap .u64 (16 + (IntKind.wrap .u64 x5.2))), (rd (.slice 5 (.int .u8)) r4 x5.2))])), (IntKind.wrap .i64 (x5.2 + 1)))
  else none
  else none)
  else (
  (F20 x5.1).bind fun r6 =>
  some (r6.1, r6.2))) (([(1, r2), (2, r3)]), 0)) (
 (F26 ([(IntKind.wrap .u64 b.2.2)])).bind fun r3 =>
 (fun o => both o o) (
 (F73 (b.1, (b.2.1, b.2.2))).bind fun r4 =>
 lfp (fun (rec5 : (List (Int × List Int) × Int) → Option (List Int × Int)) (x5 : List (Int × List Int) × Int) =>
  bif decide (x5.2 < (r4.length : Int)) then (
  bif inb x5.2 r4.length then
  bif decide ((x5.1.length + 1) * 32 ≤ LIM) then
  rec5 ((x5.1 ++ ([((IntKind.wrap .u64 (16 + (IntKind.wrap .u64 x5.2))), (rd (.slice 5 (.int .u8)) r4 x5.2))])), (IntKind.wrap .i64 (x5.2 + 1)))
  else none
  else none)
  else (
  (F20 x5.1).bind fun r6 =>
  some (r6.1, r6.2))) (([(1, r2), (2, r3)]), 0))))))))) (
 (both (
 (both (
 (both (
 (F26 ([b.1])).bind fun r2 =>
 (both (
 (F26 ([(IntKind.wrap .u64 b.2.2)])).bind fun r3 =>
 (F73 (b.1, (b.2.1, b.2.2))).bind fun r4 =>
 lfp (fun (rec5 : (List (Int × List Int) × Int) → Option (List Int × Int)) (x5 : List (Int × List Int) × Int) =>
  bif decide (x5.2 < (r4.length : Int)) then (
  bif inb x5.2 r4.length then
  bif decide ((x5.1.length + 1) * 32 ≤ LIM) then
  rec5 ((x5.1 ++ ([((IntKind.wrap .u64 (16 + (IntKind.wrap .u64 x5.2))), (rd (.slice 5 (.int .u8)) r4 x5.2))])), (IntKind.wrap .i64 (x5.2 + 1)))
  else none
  else none)
  else (
  (F20 x5.1).bind fun r6 =>
  some (r6.1, r6.2))) (([(1, r2), (2, r3)]), 0)) (
 (both (
 (F26 ([(IntKind.wrap .u64 b.2.2)])).bind fun r3 =>
 (F73 (b.1, (b.2.1, b.2.2))).bind fun r4 =>
 lfp (fun (rec5 : (List (Int × List Int) × Int) → Option (List Int × Int)) (x5 : List (Int × List Int) × Int) =>
  bif decide (x5.2 < (r4.length : Int)) then (
  bif inb x5.2 r4.length then
  bif decide ((x5.1.length + 1) * 32 ≤ LIM) then
  rec5 ((x5.1 ++ ([((IntKind.wrap .u64 (16 + (IntKind.wrap .u64 x5.2))), (rd (.slice 5 (.int .u8)) r4 x5.2))])), (IntKind.wrap .i64 (x5.2 + 1)))
  else none
  else none)
  else (
  (F20 x5.1).bind fun r6 =>
  some (r6.1, r6.2))) (([(1, r2), (2, r3)]), 0)) (
 (F26 ([(IntKind.wrap .u64 b.2.2)])).bind fun r3 =>
 (fun o => both o o) (
 (F73 (b.1, (b.2.1, b.2.2))).bind fun r4 =>
 lfp (fun (rec5 : (List (Int × List Int) × Int) → Option (List Int × Int)) (x5 : List (Int × List Int) × Int) =>
  bif decide (x5.2 < (r4.length : Int)) then (
  bif inb x5.2 r4.length then
  bif decide ((x5.1.length + 1) * 32 ≤ LIM) then
  rec5 ((x5.1 ++ ([((IntKind.wrap .u64 (16 + (IntKind.wrap .u64 x5.2))), (rd (.slice 5 (.int .u8)) r4 x5.2))])), (IntKind.wrap .i64 (x5.2 + 1)))
  else none
  else none)
  else (
  (F20 x5.1).bind fun r6 =>
  some (r6.1, r6.2))) (([(1, r2), (2, r3)]), 0))))))) (
 (F26 ([b.1])).bind fun r2 =>
 (both (
 (F26 ([(IntKind.wrap .u64 b.2.2)])).bind fun r3 =>
 (F73 (b.1, (b.2.1, b.2.2))).bind fun r4 =>
 lfp (fun (rec5 : (List (Int × List Int) × Int) → Option (List Int × Int)) (x5 : List (Int × List Int) × Int) =>
  bif decide (x5.2 < (r4.length : Int)) then (
  bif inb x5.2 r4.length then
  bif decide ((x5.1.length + 1) * 32 ≤ LIM) then
  rec5 ((x5.1 ++ ([((IntKind.wrap .u64 (16 + (IntKind.wrap .u64 x5.2))), (rd (.slice 5 (.int .u8)) r4 x5.2))])), (IntKind.wrap .i64 (x5.2 + 1)))
  else none
  else none)
  else (
  (F20 x5.1).bind fun r6 =>
  some (r6.1, r6.2))) (([(1, r2), (2, r3)]), 0)) (
 (F26 ([(IntKind.wrap .u64 b.2.2)])).bind fun r3 =>
 (fun o => both o o) (
 (F73 (b.1, (b.2.1, b.2.2))).bind fun r4 =>
 lfp (fun (rec5 : (List (Int × List Int) × Int) → Option (List Int × Int)) (x5 : List (Int × List Int) × Int) =>
  bif decide (x5.2 < (r4.length : Int)) then (
  bif inb x5.2 r4.length then
  bif decide ((x5.1.length + 1) * 32 ≤ LIM) then
  rec5 ((x5.1 ++ ([((IntKind.wrap .u64 (16 + (IntKind.wrap .u64 x5.2))), (rd (.slice 5 (.int .u8)) r4 x5.2))])), (IntKind.wrap .i64 (x5.2 + 1)))
  else none
  else none)
  else (
  (F20 x5.1).bind fun r6 =>
  some (r6.1, r6.2))) (([(1, r2), (2, r3)]), 0))))))) (
 (F26 ([b.1])).bind fun r2 =>
 (both (
 (F26 ([(IntKind.wrap .u64 b.2.2)])).bind fun r3 =>
 (F73 (b.1, (b.2.1, b.2.2))).bind fun r4 =>
 lfp (fun (rec5 : (List (Int × List Int) × Int) → Option (List Int × Int)) (x5 : List (Int × List Int) × Int) =>
  bif decide (x5.2 < (r4.length : Int)) then (
  bif inb x5.2 r4.length then
  bif decide ((x5.1.length + 1) * 32 ≤ LIM) then
  rec5 ((x5.1 ++ ([((IntKind.wrap .u64 (16 + (IntKind.wrap .u64 x5.2))), (rd (.slice 5 (.int .u8)) r4 x5.2))])), (IntKind.wrap .i64 (x5.2 + 1)))
  else none
  else none)
  else (
  (F20 x5.1).bind fun r6 =>
  some (r6.1, r6.2))) (([(1, r2), (2, r3)]), 0)) (
 (F26 ([(IntKind.wrap .u64 b.2.2)])).bind fun r3 =>
 (fun o => both o o) (
 (F73 (b.1, (b.2.1, b.2.2))).bind fun r4 =>
 lfp (fun (rec5 : (List (Int × List Int) × Int) → Option (List Int × Int)) (x5 : List (Int × List Int) × Int) =>
  bif decide (x5.2 < (r4.length : Int)) then (
  bif inb x5.2 r4.length then
  bif decide ((x5.1.length + 1) * 32 ≤ LIM) then
  rec5 ((x5.1 ++ ([((IntKind.wrap .u64 (16 + (IntKind.wrap .u64 x5.2))), (rd (.slice 5 (.int .u8)) r4 x5.2))])), (IntKind.wrap .i64 (x5.2 + 1)))
  else none
  else none)
  else (
  (F20 x5.1).bind fun r6 =>
  some (r6.1, r6.2))) (([(1, r2), (2, r3)]), 0))))))) (
 (F26 ([b.1])).bind fun r2 =>
 (both (
 (F26 ([(IntKind.wrap .u64 b.2.2)])).bind fun r3 =>
 (F73 (b.1, (b.2.1, b.2.2))).bind fun r4 =>
 lfp (fun (rec5 : (List (Int × List Int) × Int) → Option (List Int × Int)) (x5 : List (Int × List Int) × Int) =>
  bif decide (x5.2 < (r4.length : Int)) then (
  bif inb x5.2 r4.length then
  bif decide ((x5.1.length + 1) * 32 ≤ LIM) then
  rec5 ((x5.1 ++ ([((IntKind.wrap .u64 (16 + (IntKind.wrap .u64 x5.2))), (rd (.slice 5 (.int .u8)) r4 x5.2))])), (IntKind.wrap .i64 (x5.2 + 1)))
  else none
  else none)
  else (
  (F20 x5.1).bind fun r6 =>
  some (r6.1, r6.2))) (([(1, r2), (2, r3)]), 0)) (
 (F26 ([(IntKind.wrap .u64 b.2.2)])).bind fun r3 =>
 (fun o => both o o) (
 (F73 (b.1, (b.2.1, b.2.2))).bind fun r4 =>
 lfp (fun (rec5 : (List (Int × List Int) × Int) → Option (List Int × Int)) (x5 : List (Int × List Int) × Int) =>
  bif decide (x5.2 < (r4.length : Int)) then (
  bif inb x5.2 r4.length then
  bif decide ((x5.1.length + 1) * 32 ≤ LIM) then
  rec5 ((x5.1 ++ ([((IntKind.wrap .u64 (16 + (IntKind.wrap .u64 x5.2))), (rd (.slice 5 (.int .u8)) r4 x5.2))])), (IntKind.wrap .i64 (x5.2 + 1)))
  else none
  else none)
  else (
  (F20 x5.1).bind fun r6 =>
  some (r6.1, r6.2))) (([(1, r2), (2, r3)]), 0)))))))))
theorem ev55 (b : (Int × (List (Int × (Int × Int)) × Int))) : evF C73 H55 Try.f55 (encs [.aggA (.pair (.int .u64) (.pair (.slice 95 (.pair (.int .i64) (.pair (.int .u64) (.int .u64)))) (.int .i64)))] b) (RT.dec (.tup [.leaf (.fresh 5 (.int .u8)), .leaf (.int .i64)])) = F55 b := by kernel_rfl
noncomputable def C55 : Ctx := Ctx.addA C73 55 [.aggA (.pair (.int .u64) (.pair (.slice 95 (.pair (.int .i64) (.pair (.int .u64) (.int .u64)))) (.int .i64)))] (.tup [.leaf (.fresh 5 (.int .u8)), .leaf (.int .i64)]) F55
theorem s55 : C55.Sound := Ctx.Sound.addA (C := C73) mixed s73 Try.func55 ev55
/-! damson/reply.Put$1: carried out where it is called -/
def H53 : Nat → Head
  | 5000001 => ⟨[], [0, 0, 0, 0, 0, 0, 4, 4, 10, 10, 16, 16, 41, 33, 127, 64]⟩
  | 8000002 => ⟨[.crow 20480 0 20020482 26 (.pair (.int .u64) (.slice 5 (.int .u8))), .boxr 20480 20020482 .unit .unit], [1]⟩
  | _ => ⟨[], []⟩
noncomputable def C53 : Ctx := Ctx.addI C55 53 H53 9000053 Try.f53
theorem s53 : C53.Sound := Ctx.Sound.addI (C := C55) mixed s55 Try.func53
/-! damson/reply.Put -/
def H33 : Nat → Head
  | 18 => ⟨[.data 86 (.int .i64), .crow 20480 0 10022546 26 (.pair (.int .u64) (.slice 5 (.int .u8))), .boxr 20480 10022546 .unit .unit], [221184, 184320, 151552, 118784, 81920, 4096]⟩
  | 8000014 => ⟨[.data 2 (.slice 5 (.int .u8)), .data 3 (.int .i64), .crow 20480 0 20020494 26 (.pair (.int .u64) (.slice 5 (.int .u8))), .boxr 20480 20020494 .unit .unit], [1, 20020482]⟩
  | _ => ⟨[], []⟩
noncomputable def F33 (b : (Int × (Int × (Int × (Int × (Int × (List Int × (List (Int × (Int × (Int × Int))) × (Int × (List (Int × (Int × Int)) × Int)))))))))) : Option (List Int × Int) :=
 (F34 (b.1, (b.2.1, (b.2.2.1, (b.2.2.2.1, (b.2.2.2.2.1, (b.2.2.2.2.2.1, (b.2.2.2.2.2.2.1, (b.2.2.2.2.2.2.2.1, (b.2.2.2.2.2.2.2.2.1, b.2.2.2.2.2.2.2.2.2)))))))))).bind fun r1 =>
 bif (!decide (r1 = 0)) then (
 some (([] : List Int), r1))
 else (
 joinK (fun (x2 : List (Int × List Int) × (Unit × Unit)) =>
  joinK (fun (x3 : List (Int × List Int) × (Unit × Unit)) =>
   joinK (fun (x4 : List (Int × List Int) × (Unit × Unit)) =>
    joinK (fun (x5 : List (Int × List Int) × (Unit × Unit)) =>
     joinK (fun (x6 : List (Int × List Int) × (Unit × Unit)) =>
      joinK (fun (x7 : List (Int × List Int) × (Unit × Unit)) =>
       (F54 ((b.2.2.2.2.2.2.2.1, (b.2.2.2.2.2.2.2.2.1, b.2.2.2.2.2.2.2.2.2)), (0, ([], 0)))).bind fun r8 =>
       joinK (fun (x9 : List Int × Int × List (Int × List Int) × (Unit × Unit)) =>
        lfp (fun (rec10 : (Int × List (Int × List Int) × (Unit × Unit)) → Option (List Int × Int)) (x10 : Int × List (Int × List Int) × (Unit × Unit)) =>
         bif decide (x10.1 < (b.2.2.2.2.2.2.1.length : Int)) then (
         bif inb x10.1 b.2.2.2.2.2.2.1.length then
         joinK (fun (x11 : List (Int × List Int) × (Unit × Unit)) =>
          rec10 ((IntKind.wrap .i64 (x10.1 + 1)), x11.1, ((), ()))) (fun (J11 : (List (Int × List Int) × (Unit × Unit)) → Option (List Int × Int)) =>
          (both (
          (F26 ([(rd (.pair (.int .u64) (.pair (.int .i64) (.pair (.int .u64) (.int .u64)))) b.2.2.2.2.2.2.1 x10.1).1, (IntKind.wrap .u64 (((rd (.pair (.int .u64) (.pair (.int .i64) (.pair (.int .u64) (.int .u64)))) b.2.2.2.2.2.2.1 x10.1).2).1)), (((rd (.pair (.int .u64) (.pair (.int .i64) (.pair (.int .u64) (.int .u64)))) b.2.2.2.2.2.2.1 x10.1).2).2).1, (((rd (.pair (.int .u64) (.pair (.int .i64) (.pair (.int .u64) (.int .u64)))) b.2.2.2.2.2.2.1 x10.1).2).2).2])).bind fun r12 =>
          bif decide ((x10.2.1.length + 1) * 32 ≤ LIM) then
          J11 ((x10.2.1 ++ ([((IntKind.wrap .u64 (16 + (IntKind.wrap .u64 x10.1))), r12)])), ((), ()))
          else none) (
          (F26 ([(rd (.pair (.int .u64) (.pair (.int .i64) (.pair (.int .u64) (.int .u64)))) b.2.2.2.2.2.2.1 x10.1).1, (IntKind.wrap .u64 (((rd (.pair (.int .u64) (.pair (.int .i64) (.pair (.int .u64) (.int .u64)))) b.2.2.2.2.2.2.1 x10.1).2).1)), (((rd (.pair (.int .u64) (.pair (.int .i64) (.pair (.int .u64) (.int .u64)))) b.2.2.2.2.2.2.1 x10.1).2).2).1, (((rd (.pair (.int .u64) (.pair (.int .i64) (.pair (.int .u64) (.int .u64)))) b.2.2.2.2.2.2.1 x10.1).2).2).2])).bind fun r12 =>
          (both (
          bif decide ((x10.2.1.length + 1) * 32 ≤ LIM) then
          J11 ((x10.2.1 ++ ([((IntKind.wrap .u64 (16 + (IntKind.wrap .u64 x10.1))), r12)])), ((), ()))
          else none) (
          (fun o => both o o) (
          bif decide ((x10.2.1.length + 1) * 32 ≤ LIM) then
          J11 ((x10.2.1 ++ ([((IntKind.wrap .u64 (16 + (IntKind.wrap .u64 x10.1))), r12)])), ((), ()))
          else none))))))
         else none)
         else (
         (F20 x10.2.1).bind fun r13 =>
         some (r13.1, r13.2))) (0, x9.2.2.1, ((), ()))) (fun (J9 : (List Int × Int × List (Int × List Int) × (Unit × Unit)) → Option (List Int × Int)) =>
        bif (!r8) then (
        (F55 (b.2.2.2.2.2.2.2.1, (b.2.2.2.2.2.2.2.2.1, b.2.2.2.2.2.2.2.2.2))).bind fun r14 =>
        bif (!decide (r14.2 = 0)) then (
        some (([] : List Int), r14.2))
        else (
        bif decide ((x7.1.length + 1) * 32 ≤ LIM) then
        J9 ([], 0, (x7.1 ++ ([(7, r14.1)])), ((), ()))
        else none))
        else (
        J9 ([], 0, x7.1, ((), ()))))) (fun (J7 : (List (Int × List Int) × (Unit × Unit)) → Option (List Int × Int)) =>
       bif decide (0 < (b.2.2.2.2.2.1.length : Int)) then (
       (both (
       (F26 b.2.2.2.2.2.1).bind fun r15 =>
       bif decide ((x6.1.length + 1) * 32 ≤ LIM) then
       J7 ((x6.1 ++ ([(6, r15)])), ((), ()))
       else none) (
       (F26 b.2.2.2.2.2.1).bind fun r15 =>
       (both (
       bif decide ((x6.1.length + 1) * 32 ≤ LIM) then
       J7 ((x6.1 ++ ([(6, r15)])), ((), ()))
       else none) (
       (fun o => both o o) (
       bif decide ((x6.1.length + 1) * 32 ≤ LIM) then
       J7 ((x6.1 ++ ([(6, r15)])), ((), ()))
       else none))))))
       else (
       J7 (x6.1, ((), ()))))) (fun (J6 : (List (Int × List Int) × (Unit × Unit)) → Option (List Int × Int)) =>
      bif (!decide (b.2.2.2.2.1 = 0)) then (
      (both (
      (F26 ([(IntKind.wrap .u64 b.2.2.2.2.1)])).bind fun r16 =>
      bif decide ((x5.1.length + 1) * 32 ≤ LIM) then
      J6 ((x5.1 ++ ([(5, r16)])), ((), ()))
      else none) (
      (F26 ([(IntKind.wrap .u64 b.2.2.2.2.1)])).bind fun r16 =>
      (both (
      bif decide ((x5.1.length + 1) * 32 ≤ LIM) then
      J6 ((x5.1 ++ ([(5, r16)])), ((), ()))
      else none) (
      (fun o => both o o) (
      bif decide ((x5.1.length + 1) * 32 ≤ LIM) then
      J6 ((x5.1 ++ ([(5, r16)])), ((), ()))
      else none))))))
      else (
      J6 (x5.1, ((), ()))))) (fun (J5 : (List (Int × List Int) × (Unit × Unit)) → Option (List Int × Int)) =>
     bif (!decide (b.2.2.2.1 = 0)) then (
     (both (
     (F26 ([b.2.2.2.1])).bind fun r17 =>
     bif decide ((x4.1.length + 1) * 32 ≤ LIM) then
     J5 ((x4.1 ++ ([(4, r17)])), ((), ()))
     else none) (
     (F26 ([b.2.2.2.1])).bind fun r17 =>
     (both (
     bif decide ((x4.1.length + 1) * 32 ≤ LIM) then
     J5 ((x4.1 ++ ([(4, r17)])), ((), ()))
     else none) (
     (fun o => both o o) (
     bif decide ((x4.1.length + 1) * 32 ≤ LIM) then
     J5 ((x4.1 ++ ([(4, r17)])), ((), ()))
     else none))))))
     else (
     J5 (x4.1, ((), ()))))) (fun (J4 : (List (Int × List Int) × (Unit × Unit)) → Option (List Int × Int)) =>
    bif (!decide (b.2.2.1 = 0)) then (
    (both (
    (F26 ([b.2.2.1])).bind fun r18 =>
    bif decide ((x3.1.length + 1) * 32 ≤ LIM) then
    J4 ((x3.1 ++ ([(3, r18)])), ((), ()))
    else none) (
    (F26 ([b.2.2.1])).bind fun r18 =>
    (both (
    bif decide ((x3.1.length + 1) * 32 ≤ LIM) then
    J4 ((x3.1 ++ ([(3, r18)])), ((), ()))
    else none) (
    (fun o => both o o) (
    bif decide ((x3.1.length + 1) * 32 ≤ LIM) then
    J4 ((x3.1 ++ ([(3, r18)])), ((), ()))
    else none))))))
    else (
    J4 (x3.1, ((), ()))))) (fun (J3 : (List (Int × List Int) × (Unit × Unit)) → Option (List Int × Int)) =>
   bif (!decide (b.2.1 = 0)) then (
   (both (
   (F26 ([(IntKind.wrap .u64 b.2.1)])).bind fun r19 =>
   bif decide ((x2.1.length + 1) * 32 ≤ LIM) then
   J3 ((x2.1 ++ ([(2, r19)])), ((), ()))
   else none) (
   (F26 ([(IntKind.wrap .u64 b.2.1)])).bind fun r19 =>
   (both (
   bif decide ((x2.1.length + 1) * 32 ≤ LIM) then
   J3 ((x2.1 ++ ([(2, r19)])), ((), ()))
   else none) (
   (fun o => both o o) (
   bif decide ((x2.1.length + 1) * 32 ≤ LIM) then
   J3 ((x2.1 ++ ([(2, r19)])), ((), ()))
   else none))))))
   else (
   J3 (x2.1, ((), ()))))) (fun (J2 : (List (Int × List Int) × (Unit × Unit)) → Option (List Int × Int)) =>
  (both (
  (F26 ([b.1])).bind fun r20 =>
  bif decide ((([] : List (Int × List Int)).length + 1) * 32 ≤ LIM) then
  J2 ((([] : List (Int × List Int)) ++ ([(1, r20)])), ((), ()))
  else none) (
  (F26 ([b.1])).bind fun r20 =>
  (both (
  bif decide ((([] : List (Int × List Int)).length + 1) * 32 ≤ LIM) then
  J2 ((([] : List (Int × List Int)) ++ ([(1, r20)])), ((), ()))
  else none) (
  (fun o => both o o) (
  bif decide ((([] : List (Int × List Int)).length + 1) * 32 ≤ LIM) then
  J2 ((([] : List (Int × List Int)) ++ ([(1, r20)])), ((), ()))
  else none)))))))
theorem ev33 (b : (Int × (Int × (Int × (Int × (Int × (List Int × (List (Int × (Int × (Int × Int))) × (Int × (List (Int × (Int × Int)) × Int)))))))))) : evF C53 H33 Try.f33 (encs [.aggA (.pair (.int .u64) (.pair (.int .i64) (.pair (.int .u64) (.pair (.int .u64) (.pair (.int .i64) (.pair (.slice 23 (.int .u64)) (.pair (.slice 81 (.pair (.int .u64) (.pair (.int .i64) (.pair (.int .u64) (.int .u64))))) (.pair (.int .u64) (.pair (.slice 95 (.pair (.int .i64) (.pair (.int .u64) (.int .u64)))) (.int .i64))))))))))] b) (RT.dec (.tup [.leaf (.fresh 5 (.int .u8)), .leaf (.int .i64)])) = F33 b := by kernel_rfl
noncomputable def C33 : Ctx := Ctx.addA C53 33 [.aggA (.pair (.int .u64) (.pair (.int .i64) (.pair (.int .u64) (.pair (.int .u64) (.pair (.int .i64) (.pair (.slice 23 (.int .u64)) (.pair (.slice 81 (.pair (.int .u64) (.pair (.int .i64) (.pair (.int .u64) (.int .u64))))) (.pair (.int .u64) (.pair (.slice 95 (.pair (.int .i64) (.pair (.int .u64) (.int .u64)))) (.int .i64))))))))))] (.tup [.leaf (.fresh 5 (.int .u8)), .leaf (.int .i64)]) F33
theorem s33 : C33.Sound := Ctx.Sound.addA (C := C53) mixed s53 Try.func33 ev33
/-! damson/damsonlaw20.live -/
def H31 : Nat → Head := fun _ => ⟨[], []⟩
noncomputable def F31 (b : Unit) : Option Bool :=
 (F33 (5, (0, (0, (0, (0, ([], ([], (0, ([], 0)))))))))).bind fun r1 =>
 bif (decide (r1.2 = 0) == true) then (
 some (decide (r1.1 = ([1, 1, 5]))))
 else (
 some false)
theorem ev31 (b : Unit) : evF C33 H31 Try.f31 (encs [] b) (RT.dec (.one (.leaf (.bool)))) = F31 b := by kernel_rfl
noncomputable def C31 : Ctx := Ctx.add C33 31 [] (.one (.leaf (.bool))) F31
theorem s31 : C31.Sound := Ctx.Sound.add (C := C33) mixed s33 Try.func31 ev31
/-! damson/damsonref20.Few -/
def H32 : Nat → Head := fun _ => ⟨[], []⟩
noncomputable def F32 (b : (Int × (Int × (Int × (Int × (Int × (List Int × (List (Int × (Int × (Int × Int))) × (Int × (List (Int × (Int × Int)) × Int)))))))))) : Option Bool :=
 some (bif (bif decide ((b.2.2.2.2.2.1.length : Int) ≤ 20) then decide ((b.2.2.2.2.2.2.1.length : Int) ≤ 20) else false) then decide ((b.2.2.2.2.2.2.2.2.1.length : Int) ≤ 20) else false)
theorem ev32 (b : (Int × (Int × (Int × (Int × (Int × (List Int × (List (Int × (Int × (Int × Int))) × (Int × (List (Int × (Int × Int)) × Int)))))))))) : evF C31 H32 Try.f32 (encs [.agg (.pair (.int .u64) (.pair (.int .i64) (.pair (.int .u64) (.pair (.int .u64) (.pair (.int .i64) (.pair (.slice 23 (.int .u64)) (.pair (.slice 81 (.pair (.int .u64) (.pair (.int .i64) (.pair (.int .u64) (.int .u64))))) (.pair (.int .u64) (.pair (.slice 95 (.pair (.int .i64) (.pair (.int .u64) (.int .u64)))) (.int .i64))))))))))] b) (RT.dec (.one (.leaf (.bool)))) = F32 b := by kernel_rfl
noncomputable def C32 : Ctx := Ctx.add C31 32 [.agg (.pair (.int .u64) (.pair (.int .i64) (.pair (.int .u64) (.pair (.int .u64) (.pair (.int .i64) (.pair (.slice 23 (.int .u64)) (.pair (.slice 81 (.pair (.int .u64) (.pair (.int .i64) (.pair (.int .u64) (.int .u64))))) (.pair (.int .u64) (.pair (.slice 95 (.pair (.int .i64) (.pair (.int .u64) (.int .u64)))) (.int .i64))))))))))] (.one (.leaf (.bool))) F32
theorem s32 : C32.Sound := Ctx.Sound.add (C := C31) mixed s31 Try.func32 ev32
/-! slices.Equal[[]uint64,uint64] -/
def H59 : Nat → Head
  | 4 => ⟨[.data 4 .bool, .data 13 (.int .i64)], []⟩
  | 5000006 => ⟨[], [0, 0, 0, 0, 3, 3, 4, 4, 0, 0, 0, 0, 48, 48, 64, 64, 136, 136]⟩
  | _ => ⟨[], []⟩
noncomputable def F59 (b : List Int × List Int) : Option Bool :=
 bif (!decide ((b.1.length : Int) = (b.2.length : Int))) then (
 some false)
 else (
 lfp (fun (rec1 : (Bool × Int) → Option Bool) (x1 : Bool × Int) =>
  bif decide (x1.2 < (b.1.length : Int)) then (
  bif inb x1.2 b.1.length then
  bif inb x1.2 b.2.length then
  bif (!decide ((rd (.int .u64) b.1 x1.2) = (rd (.int .u64) b.2 x1.2))) then (
  some false)
  else (
  rec1 (x1.1, (IntKind.wrap .i64 (x1.2 + 1))))
  else none
  else none)
  else (
  some true)) (false, 0))
theorem ev59 (b : List Int × List Int) : evF C32 H59 Try.f59 (encs [.one (.slice 23 (.int .u64)), .one (.slice 23 (.int .u64))] b) (RT.dec (.one (.leaf (.bool)))) = F59 b := by kernel_rfl
noncomputable def C59 : Ctx := Ctx.add C32 59 [.one (.slice 23 (.int .u64)), .one (.slice 23 (.int .u64))] (.one (.leaf (.bool))) F59
theorem s59 : C59.Sound := Ctx.Sound.add (C := C32) mixed s32 Try.func59 ev59
/-! slices.Equal[[]damson/api.Event,damson/api.Event] -/
def H60 : Nat → Head
  | 4 => ⟨[.data 4 .bool, .data 13 (.int .i64)], []⟩
  | 5000006 => ⟨[], [0, 0, 0, 0, 3, 3, 4, 4, 0, 0, 0, 0, 48, 48, 64, 64, 136, 136]⟩
  | _ => ⟨[], []⟩
noncomputable def F60 (b : List (Int × (Int × (Int × Int))) × List (Int × (Int × (Int × Int)))) : Option Bool :=
 bif (!decide ((b.1.length : Int) = (b.2.length : Int))) then (
 some false)
 else (
 lfp (fun (rec1 : (Bool × Int) → Option Bool) (x1 : Bool × Int) =>
  bif decide (x1.2 < (b.1.length : Int)) then (
  bif inb x1.2 b.1.length then
  bif inb x1.2 b.2.length then
  bif (!(decide ((rd (.pair (.int .u64) (.pair (.int .i64) (.pair (.int .u64) (.int .u64)))) b.1 x1.2).1 = (rd (.pair (.int .u64) (.pair (.int .i64) (.pair (.int .u64) (.int .u64)))) b.2 x1.2).1) && (decide (((rd (.pair (.int .u64) (.pair (.int .i64) (.pair (.int .u64) (.int .u64)))) b.1 x1.2).2).1 = ((rd (.pair (.int .u64) (.pair (.int .i64) (.pair (.int .u64) (.int .u64)))) b.2 x1.2).2).1) && (decide ((((rd (.pair (.int .u64) (.pair (.int .i64) (.pair (.int .u64) (.int .u64)))) b.1 x1.2).2).2).1 = (((rd (.pair (.int .u64) (.pair (.int .i64) (.pair (.int .u64) (.int .u64)))) b.2 x1.2).2).2).1) && decide ((((rd (.pair (.int .u64) (.pair (.int .i64) (.pair (.int .u64) (.int .u64)))) b.1 x1.2).2).2).2 = (((rd (.pair (.int .u64) (.pair (.int .i64) (.pair (.int .u64) (.int .u64)))) b.2 x1.2).2).2).2))))) then (
  some false)
  else (
  rec1 (x1.1, (IntKind.wrap .i64 (x1.2 + 1))))
  else none
  else none)
  else (
  some true)) (false, 0))
theorem ev60 (b : List (Int × (Int × (Int × Int))) × List (Int × (Int × (Int × Int)))) : evF C59 H60 Try.f60 (encs [.one (.slice 81 (.pair (.int .u64) (.pair (.int .i64) (.pair (.int .u64) (.int .u64))))), .one (.slice 81 (.pair (.int .u64) (.pair (.int .i64) (.pair (.int .u64) (.int .u64)))))] b) (RT.dec (.one (.leaf (.bool)))) = F60 b := by kernel_rfl
noncomputable def C60 : Ctx := Ctx.add C59 60 [.one (.slice 81 (.pair (.int .u64) (.pair (.int .i64) (.pair (.int .u64) (.int .u64))))), .one (.slice 81 (.pair (.int .u64) (.pair (.int .i64) (.pair (.int .u64) (.int .u64)))))] (.one (.leaf (.bool))) F60
theorem s60 : C60.Sound := Ctx.Sound.add (C := C59) mixed s59 Try.func60 ev60
/-! damson/reply.Same -/
def H35 : Nat → Head := fun _ => ⟨[], []⟩
noncomputable def F35 (b : (Int × (Int × (Int × (Int × (Int × (List Int × (List (Int × (Int × (Int × Int))) × (Int × (List (Int × (Int × Int)) × Int))))))))) × (Int × (Int × (Int × (Int × (Int × (List Int × (List (Int × (Int × (Int × Int))) × (Int × (List (Int × (Int × Int)) × Int)))))))))) : Option Bool :=
 bif ((bif (bif (bif (bif decide (b.1.1 = b.2.1) then decide (b.1.2.1 = b.2.2.1) else false) then decide (b.1.2.2.1 = b.2.2.2.1) else false) then decide (b.1.2.2.2.1 = b.2.2.2.2.1) else false) then decide (b.1.2.2.2.2.1 = b.2.2.2.2.2.1) else false) == true) then (
 (F59 (b.1.2.2.2.2.2.1, b.2.2.2.2.2.2.1)).bind fun r1 =>
 bif (r1 == true) then (
 (F60 (b.1.2.2.2.2.2.2.1, b.2.2.2.2.2.2.2.1)).bind fun r2 =>
 bif (r2 == true) then (
 (F54 ((b.1.2.2.2.2.2.2.2.1, (b.1.2.2.2.2.2.2.2.2.1, b.1.2.2.2.2.2.2.2.2.2)), (b.2.2.2.2.2.2.2.2.1, (b.2.2.2.2.2.2.2.2.2.1, b.2.2.2.2.2.2.2.2.2.2)))).bind fun r3 =>
 some r3)
 else (
 some false))
 else (
 some false))
 else (
 some false)
theorem ev35 (b : (Int × (Int × (Int × (Int × (Int × (List Int × (List (Int × (Int × (Int × Int))) × (Int × (List (Int × (Int × Int)) × Int))))))))) × (Int × (Int × (Int × (Int × (Int × (List Int × (List (Int × (Int × (Int × Int))) × (Int × (List (Int × (Int × Int)) × Int)))))))))) : evF C60 H35 Try.f35 (encs [.agg (.pair (.int .u64) (.pair (.int .i64) (.pair (.int .u64) (.pair (.int .u64) (.pair (.int .i64) (.pair (.slice 23 (.int .u64)) (.pair (.slice 81 (.pair (.int .u64) (.pair (.int .i64) (.pair (.int .u64) (.int .u64))))) (.pair (.int .u64) (.pair (.slice 95 (.pair (.int .i64) (.pair (.int .u64) (.int .u64)))) (.int .i64)))))))))), .agg (.pair (.int .u64) (.pair (.int .i64) (.pair (.int .u64) (.pair (.int .u64) (.pair (.int .i64) (.pair (.slice 23 (.int .u64)) (.pair (.slice 81 (.pair (.int .u64) (.pair (.int .i64) (.pair (.int .u64) (.int .u64))))) (.pair (.int .u64) (.pair (.slice 95 (.pair (.int .i64) (.pair (.int .u64) (.int .u64)))) (.int .i64))))))))))] b) (RT.dec (.one (.leaf (.bool)))) = F35 b := by kernel_rfl
noncomputable def C35 : Ctx := Ctx.add C60 35 [.agg (.pair (.int .u64) (.pair (.int .i64) (.pair (.int .u64) (.pair (.int .u64) (.pair (.int .i64) (.pair (.slice 23 (.int .u64)) (.pair (.slice 81 (.pair (.int .u64) (.pair (.int .i64) (.pair (.int .u64) (.int .u64))))) (.pair (.int .u64) (.pair (.slice 95 (.pair (.int .i64) (.pair (.int .u64) (.int .u64)))) (.int .i64)))))))))), .agg (.pair (.int .u64) (.pair (.int .i64) (.pair (.int .u64) (.pair (.int .u64) (.pair (.int .i64) (.pair (.slice 23 (.int .u64)) (.pair (.slice 81 (.pair (.int .u64) (.pair (.int .i64) (.pair (.int .u64) (.int .u64))))) (.pair (.int .u64) (.pair (.slice 95 (.pair (.int .i64) (.pair (.int .u64) (.int .u64)))) (.int .i64))))))))))] (.one (.leaf (.bool))) F35
theorem s35 : C35.Sound := Ctx.Sound.add (C := C60) mixed s60 Try.func35 ev35
/-! damson/damsonref06.Check -/
def H91 : Nat → Head := fun _ => ⟨[], []⟩
noncomputable def F91 (b : (Int × (Int × Int))) : Option Int :=
 bif ((bif decide (b.1 < 1) then true else decide (5 < b.1)) == false) then (
 bif ((bif decide (b.1 = 2) then decide (65535 < b.2.1) else false) == false) then (
 bif ((bif (bif decide (b.1 = 3) then true else decide (b.1 = 4)) then decide (4611686018427387904 < b.2.1) else false) == false) then (
 bif (bif (!decide (b.1 = 4)) then (!decide (b.2.2 = 0)) else false) then (
 some 1)
 else (
 some 0))
 else (
 some 1))
 else (
 some 1))
 else (
 some 1)
theorem ev91 (b : (Int × (Int × Int))) : evF C35 H91 Try.f91 (encs [.agg (.pair (.int .i64) (.pair (.int .u64) (.int .u64)))] b) (RT.dec (.one (.leaf (.int .i64)))) = F91 b := by kernel_rfl
noncomputable def C91 : Ctx := Ctx.add C35 91 [.agg (.pair (.int .i64) (.pair (.int .u64) (.int .u64)))] (.one (.leaf (.int .i64))) F91
theorem s91 : C91.Sound := Ctx.Sound.add (C := C35) mixed s35 Try.func91 ev91
/-! damson/damsonref06.Few -/
def H85 : Nat → Head
  | 2 => ⟨[.data 2 .bool, .data 7 (.int .i64)], []⟩
  | _ => ⟨[], []⟩
noncomputable def F85 (b : List (Int × (Int × Int))) : Option Bool :=
 lfp (fun (rec1 : (Bool × Int) → Option Bool) (x1 : Bool × Int) =>
  bif decide (x1.2 < (b.length : Int)) then (
  bif inb x1.2 b.length then
  (F91 ((rd (.pair (.int .i64) (.pair (.int .u64) (.int .u64))) b x1.2).1, (((rd (.pair (.int .i64) (.pair (.int .u64) (.int .u64))) b x1.2).2).1, ((rd (.pair (.int .i64) (.pair (.int .u64) (.int .u64))) b x1.2).2).2))).bind fun r2 =>
  bif (!decide (r2 = 0)) then (
  some false)
  else (
  rec1 (x1.1, (IntKind.wrap .i64 (x1.2 + 1))))
  else none)
  else (
  some (decide ((b.length : Int) ≤ 16)))) (false, 0)
theorem ev85 (b : List (Int × (Int × Int))) : evF C91 H85 Try.f85 (encs [.one (.slice 95 (.pair (.int .i64) (.pair (.int .u64) (.int .u64))))] b) (RT.dec (.one (.leaf (.bool)))) = F85 b := by kernel_rfl
noncomputable def C85 : Ctx := Ctx.add C91 85 [.one (.slice 95 (.pair (.int .i64) (.pair (.int .u64) (.int .u64))))] (.one (.leaf (.bool))) F85
theorem s85 : C85.Sound := Ctx.Sound.add (C := C91) mixed s91 Try.func85 ev85
/-! damson/damsonref07.Check -/
def H68 : Nat → Head := fun _ => ⟨[], []⟩
noncomputable def F68 (b : (Int × (List (Int × (Int × Int)) × Int))) : Option Int :=
 (F85 b.2.1).bind fun r1 =>
 bif (bif (bif (!r1) then true else decide (b.2.2 < 0)) then true else decide (1048576 < b.2.2)) then (
 some 1)
 else (
 some 0)
theorem ev68 (b : (Int × (List (Int × (Int × Int)) × Int))) : evF C85 H68 Try.f68 (encs [.agg (.pair (.int .u64) (.pair (.slice 95 (.pair (.int .i64) (.pair (.int .u64) (.int .u64)))) (.int .i64)))] b) (RT.dec (.one (.leaf (.int .i64)))) = F68 b := by kernel_rfl
noncomputable def C68 : Ctx := Ctx.add C85 68 [.agg (.pair (.int .u64) (.pair (.slice 95 (.pair (.int .i64) (.pair (.int .u64) (.int .u64)))) (.int .i64)))] (.one (.leaf (.int .i64))) F68
theorem s68 : C68.Sound := Ctx.Sound.add (C := C85) mixed s85 Try.func68 ev68
/-! damson/damsonref20.Check -/
def H40 : Nat → Head
  | 4 => ⟨[.data 2 (.int .i64), .data 44 (.int .i64)], [4096]⟩
  | _ => ⟨[], []⟩
noncomputable def F40 (b : (Int × (Int × (Int × (Int × (Int × (List Int × (List (Int × (Int × (Int × Int))) × (Int × (List (Int × (Int × Int)) × Int)))))))))) : Option Int :=
 bif ((bif (bif (bif (bif (bif decide (b.2.1 < 0) then true else decide (14 < b.2.1)) then true else decide (b.2.2.2.2.1 < 0)) then true else decide (4 < b.2.2.2.2.1)) then true else decide (16 < (b.2.2.2.2.2.1.length : Int))) then true else decide (16 < (b.2.2.2.2.2.2.1.length : Int))) == false) then (
 (F68 (b.2.2.2.2.2.2.2.1, (b.2.2.2.2.2.2.2.2.1, b.2.2.2.2.2.2.2.2.2))).bind fun r1 =>
 bif (!decide (r1 = 0)) then (
 some 1)
 else (
 lfp (fun (rec2 : (Int × Int) → Option Int) (x2 : Int × Int) =>
  bif decide (x2.2 < (b.2.2.2.2.2.2.1.length : Int)) then (
  bif inb x2.2 b.2.2.2.2.2.2.1.length then
  bif (bif decide (((rd (.pair (.int .u64) (.pair (.int .i64) (.pair (.int .u64) (.int .u64)))) b.2.2.2.2.2.2.1 x2.2).2).1 < 0) then true else decide (15 < ((rd (.pair (.int .u64) (.pair (.int .i64) (.pair (.int .u64) (.int .u64)))) b.2.2.2.2.2.2.1 x2.2).2).1)) then (
  some 1)
  else (
  rec2 (x2.1, (IntKind.wrap .i64 (x2.2 + 1))))
  else none)
  else (
  some 0)) (0, 0)))
 else (
 some 1)
theorem ev40 (b : (Int × (Int × (Int × (Int × (Int × (List Int × (List (Int × (Int × (Int × Int))) × (Int × (List (Int × (Int × Int)) × Int)))))))))) : evF C68 H40 Try.f40 (encs [.agg (.pair (.int .u64) (.pair (.int .i64) (.pair (.int .u64) (.pair (.int .u64) (.pair (.int .i64) (.pair (.slice 23 (.int .u64)) (.pair (.slice 81 (.pair (.int .u64) (.pair (.int .i64) (.pair (.int .u64) (.int .u64))))) (.pair (.int .u64) (.pair (.slice 95 (.pair (.int .i64) (.pair (.int .u64) (.int .u64)))) (.int .i64))))))))))] b) (RT.dec (.one (.leaf (.int .i64)))) = F40 b := by kernel_rfl
noncomputable def C40 : Ctx := Ctx.add C68 40 [.agg (.pair (.int .u64) (.pair (.int .i64) (.pair (.int .u64) (.pair (.int .u64) (.pair (.int .i64) (.pair (.slice 23 (.int .u64)) (.pair (.slice 81 (.pair (.int .u64) (.pair (.int .i64) (.pair (.int .u64) (.int .u64))))) (.pair (.int .u64) (.pair (.slice 95 (.pair (.int .i64) (.pair (.int .u64) (.int .u64)))) (.int .i64))))))))))] (.one (.leaf (.int .i64))) F40
theorem s40 : C40.Sound := Ctx.Sound.add (C := C68) mixed s68 Try.func40 ev40
/-! damson/damsonref07.SameCaveats -/
def H78 : Nat → Head
  | 4 => ⟨[.data 4 .bool, .data 13 (.int .i64)], []⟩
  | 5000006 => ⟨[], [0, 0, 0, 0, 3, 3, 4, 4, 0, 0, 0, 0, 48, 48, 64, 64, 136, 136]⟩
  | _ => ⟨[], []⟩
noncomputable def F78 (b : List (Int × (Int × Int)) × List (Int × (Int × Int))) : Option Bool :=
 bif (!decide ((b.1.length : Int) = (b.2.length : Int))) then (
 some false)
 else (
 lfp (fun (rec1 : (Bool × Int) → Option Bool) (x1 : Bool × Int) =>
  bif decide (x1.2 < (b.1.length : Int)) then (
  bif inb x1.2 b.1.length then
  bif inb x1.2 b.2.length then
  bif (!(decide ((rd (.pair (.int .i64) (.pair (.int .u64) (.int .u64))) b.1 x1.2).1 = (rd (.pair (.int .i64) (.pair (.int .u64) (.int .u64))) b.2 x1.2).1) && (decide (((rd (.pair (.int .i64) (.pair (.int .u64) (.int .u64))) b.1 x1.2).2).1 = ((rd (.pair (.int .i64) (.pair (.int .u64) (.int .u64))) b.2 x1.2).2).1) && decide (((rd (.pair (.int .i64) (.pair (.int .u64) (.int .u64))) b.1 x1.2).2).2 = ((rd (.pair (.int .i64) (.pair (.int .u64) (.int .u64))) b.2 x1.2).2).2)))) then (
  some false)
  else (
  rec1 (x1.1, (IntKind.wrap .i64 (x1.2 + 1))))
  else none
  else none)
  else (
  some true)) (false, 0))
theorem ev78 (b : List (Int × (Int × Int)) × List (Int × (Int × Int))) : evF C40 H78 Try.f78 (encs [.one (.slice 95 (.pair (.int .i64) (.pair (.int .u64) (.int .u64)))), .one (.slice 95 (.pair (.int .i64) (.pair (.int .u64) (.int .u64))))] b) (RT.dec (.one (.leaf (.bool)))) = F78 b := by kernel_rfl
noncomputable def C78 : Ctx := Ctx.add C40 78 [.one (.slice 95 (.pair (.int .i64) (.pair (.int .u64) (.int .u64)))), .one (.slice 95 (.pair (.int .i64) (.pair (.int .u64) (.int .u64))))] (.one (.leaf (.bool))) F78
theorem s78 : C78.Sound := Ctx.Sound.add (C := C40) mixed s40 Try.func78 ev78
/-! damson/damsonref07.Same -/
def H61 : Nat → Head := fun _ => ⟨[], []⟩
noncomputable def F61 (b : (Int × (List (Int × (Int × Int)) × Int)) × (Int × (List (Int × (Int × Int)) × Int))) : Option Bool :=
 bif ((bif decide (b.1.1 = b.2.1) then decide (b.1.2.2 = b.2.2.2) else false) == true) then (
 (F78 (b.1.2.1, b.2.2.1)).bind fun r1 =>
 some r1)
 else (
 some false)
theorem ev61 (b : (Int × (List (Int × (Int × Int)) × Int)) × (Int × (List (Int × (Int × Int)) × Int))) : evF C78 H61 Try.f61 (encs [.agg (.pair (.int .u64) (.pair (.slice 95 (.pair (.int .i64) (.pair (.int .u64) (.int .u64)))) (.int .i64))), .agg (.pair (.int .u64) (.pair (.slice 95 (.pair (.int .i64) (.pair (.int .u64) (.int .u64)))) (.int .i64)))] b) (RT.dec (.one (.leaf (.bool)))) = F61 b := by kernel_rfl
noncomputable def C61 : Ctx := Ctx.add C78 61 [.agg (.pair (.int .u64) (.pair (.slice 95 (.pair (.int .i64) (.pair (.int .u64) (.int .u64)))) (.int .i64))), .agg (.pair (.int .u64) (.pair (.slice 95 (.pair (.int .i64) (.pair (.int .u64) (.int .u64)))) (.int .i64)))] (.one (.leaf (.bool))) F61
theorem s61 : C61.Sound := Ctx.Sound.add (C := C78) mixed s78 Try.func61 ev61
/-! damson/damsonref06.Put -/
def H79 : Nat → Head := fun _ => ⟨[], []⟩
noncomputable def F79 (b : (Int × (Int × Int))) : Option (List Int × Int) :=
 (F91 (b.1, (b.2.1, b.2.2))).bind fun r1 =>
 bif (!decide (r1 = 0)) then (
 some (([] : List Int), 1))
 else (
 bif decide (b.1 = 4) then (
 (F46 ([4, b.2.1, b.2.2])).bind fun r2 =>
 some (r2, 0))
 else (
 (F46 ([(IntKind.wrap .u64 b.1), b.2.1])).bind fun r3 =>
 some (r3, 0)))
theorem ev79 (b : (Int × (Int × Int))) : evF C61 H79 Try.f79 (encs [.agg (.pair (.int .i64) (.pair (.int .u64) (.int .u64)))] b) (RT.dec (.tup [.leaf (.fresh 5 (.int .u8)), .leaf (.int .i64)])) = F79 b := by kernel_rfl
noncomputable def C79 : Ctx := Ctx.add C61 79 [.agg (.pair (.int .i64) (.pair (.int .u64) (.int .u64)))] (.tup [.leaf (.fresh 5 (.int .u8)), .leaf (.int .i64)]) F79
theorem s79 : C79.Sound := Ctx.Sound.add (C := C61) mixed s61 Try.func79 ev79
/-! damson/damsonref07.Put -/
def H62 : Nat → Head
  | 5 => ⟨[.row 4 18437 26 (.pair (.int .u64) (.slice 5 (.int .u8))), .data 27 (.int .i64)], [86016, 81920, 61440, 57344, 4096]⟩
  | 5000003 => ⟨[], [0, 0, 1, 1, 2, 2, 4, 4, 8, 8, 0, 0, 32, 32, 64, 64, 128, 128, 264, 256, 512, 512, 1040, 1040, 4095, 2048]⟩
  | _ => ⟨[], []⟩
noncomputable def F62 (b : (Int × (List (Int × (Int × Int)) × Int))) : Option (List Int × Int) :=
 (F68 (b.1, (b.2.1, b.2.2))).bind fun r1 =>
 bif (!decide (r1 = 0)) then (
 some (([] : List Int), 1))
 else (
 (both (
 (both (
 (both (
 (F46 ([b.1])).bind fun r2 =>
 (both (
 (F46 ([(IntKind.wrap .u64 b.2.2)])).bind fun r3 =>
 lfp (fun (rec4 : (List (Int × List Int) × Int) → Option (List Int × Int)) (x4 : List (Int × List Int) × Int) =>
  bif decide (x4.2 < (b.2.1.length : Int)) then (
  bif inb x4.2 b.2.1.length then
  (F79 ((rd (.pair (.int .i64) (.pair (.int .u64) (.int .u64))) b.2.1 x4.2).1, (((rd (.pair (.int .i64) (.pair (.int .u64) (.int .u64))) b.2.1 x4.2).2).1, ((rd (.pair (.int .i64) (.pair (.int .u64) (.int .u64))) b.2.1 x4.2).2).2))).bind fun r5 =>
  bif decide ((x4.1.length + 1) * 32 ≤ LIM) then
  rec4 ((x4.1 ++ ([((IntKind.wrap .u64 (IntKind.wrap .i64 (16 + x4.2))), r5.1)])), (IntKind.wrap .i64 (x4.2 + 1)))
  else none
  else none)
  else (
  (F21 x4.1).bind fun r6 =>
  some (r6.1, r6.2))) (([(1, r2), (2, r3)]), 0)) (
 (both (
 (F46 ([(IntKind.wrap .u64 b.2.2)])).bind fun r3 =>
 lfp (fun (rec4 : (List (Int × List Int) × Int) → Option (List Int × Int)) (x4 : List (Int × List Int) × Int) =>
  bif decide (x4.2 < (b.2.1.length : Int)) then (
  bif inb x4.2 b.2.1.length then
  (F79 ((rd (.pair (.int .i64) (.pair (.int .u64) (.int .u64))) b.2.1 x4.2).1, (((rd (.pair (.int .i64) (.pair (.int .u64) (.int .u64))) b.2.1 x4.2).2).1, ((rd (.pair (.int .i64) (.pair (.int .u64) (.int .u64))) b.2.1 x4.2).2).2))).bind fun r5 =>
  bif decide ((x4.1.length + 1) * 32 ≤ LIM) then
  rec4 ((x4.1 ++ ([((IntKind.wrap .u64 (IntKind.wrap .i64 (16 + x4.2))), r5.1)])), (IntKind.wrap .i64 (x4.2 + 1)))
  else none
  else none)
  else (
  (F21 x4.1).bind fun r6 =>
  some (r6.1, r6.2))) (([(1, r2), (2, r3)]), 0)) (
 (both (
 (F46 ([(IntKind.wrap .u64 b.2.2)])).bind fun r3 =>
 lfp (fun (rec4 : (List (Int × List Int) × Int) → Option (List Int × Int)) (x4 : List (Int × List Int) × Int) =>
  bif decide (x4.2 < (b.2.1.length : Int)) then (
  bif inb x4.2 b.2.1.length then
  (F79 ((rd (.pair (.int .i64) (.pair (.int .u64) (.int .u64))) b.2.1 x4.2).1, (((rd (.pair (.int .i64) (.pair (.int .u64) (.int .u64))) b.2.1 x4.2).2).1, ((rd (.pair (.int .i64) (.pair (.int .u64) (.int .u64))) b.2.1 x4.2).2).2))).bind fun r5 =>
  bif decide ((x4.1.length + 1) * 32 ≤ LIM) then
  rec4 ((x4.1 ++ ([((IntKind.wrap .u64 (IntKind.wrap .i64 (16 + x4.2))), r5.1)])), (IntKind.wrap .i64 (x4.2 + 1)))
  else none
  else none)
  else (
  (F21 x4.1).bind fun r6 =>
  some (r6.1, r6.2))) (([(1, r2), (2, r3)]), 0)) (
 (F46 ([(IntKind.wrap .u64 b.2.2)])).bind fun r3 =>
 (fun o => both o o) (
 lfp (fun (rec4 : (List (Int × List Int) × Int) → Option (List Int × Int)) (x4 : List (Int × List Int) × Int) =>
  bif decide (x4.2 < (b.2.1.length : Int)) then (
  bif inb x4.2 b.2.1.length then
  (F79 ((rd (.pair (.int .i64) (.pair (.int .u64) (.int .u64))) b.2.1 x4.2).1, (((rd (.pair (.int .i64) (.pair (.int .u64) (.int .u64))) b.2.1 x4.2).2).1, ((rd (.pair (.int .i64) (.pair (.int .u64) (.int .u64))) b.2.1 x4.2).2).2))).bind fun r5 =>
  bif decide ((x4.1.length + 1) * 32 ≤ LIM) then
  rec4 ((x4.1 ++ ([((IntKind.wrap .u64 (IntKind.wrap .i64 (16 + x4.2))), r5.1)])), (IntKind.wrap .i64 (x4.2 + 1)))
  else none
  else none)
  else (
  (F21 x4.1).bind fun r6 =>
  some (r6.1, r6.2))) (([(1, r2), (2, r3)]), 0))))))))) (
 (both (
 (F46 ([b.1])).bind fun r2 =>
 (both (
 (F46 ([(IntKind.wrap .u64 b.2.2)])).bind fun r3 =>
 lfp (fun (rec4 : (List (Int × List Int) × Int) → Option (List Int × Int)) (x4 : List (Int × List Int) × Int) =>
  bif decide (x4.2 < (b.2.1.length : Int)) then (
  bif inb x4.2 b.2.1.length then
  (F79 ((rd (.pair (.int .i64) (.pair (.int .u64) (.int .u64))) b.2.1 x4.2).1, (((rd (.pair (.int .i64) (.pair (.int .u64) (.int .u64))) b.2.1 x4.2).2).1, ((rd (.pair (.int .i64) (.pair (.int .u64) (.int .u64))) b.2.1 x4.2).2).2))).bind fun r5 =>
  bif decide ((x4.1.length + 1) * 32 ≤ LIM) then
  rec4 ((x4.1 ++ ([((IntKind.wrap .u64 (IntKind.wrap .i64 (16 + x4.2))), r5.1)])), (IntKind.wrap .i64 (x4.2 + 1)))
  else none
  else none)
  else (
  (F21 x4.1).bind fun r6 =>
  some (r6.1, r6.2))) (([(1, r2), (2, r3)]), 0)) (
 (both (
 (F46 ([(IntKind.wrap .u64 b.2.2)])).bind fun r3 =>
 lfp (fun (rec4 : (List (Int × List Int) × Int) → Option (List Int × Int)) (x4 : List (Int × List Int) × Int) =>
  bif decide (x4.2 < (b.2.1.length : Int)) then (
  bif inb x4.2 b.2.1.length then
  (F79 ((rd (.pair (.int .i64) (.pair (.int .u64) (.int .u64))) b.2.1 x4.2).1, (((rd (.pair (.int .i64) (.pair (.int .u64) (.int .u64))) b.2.1 x4.2).2).1, ((rd (.pair (.int .i64) (.pair (.int .u64) (.int .u64))) b.2.1 x4.2).2).2))).bind fun r5 =>
  bif decide ((x4.1.length + 1) * 32 ≤ LIM) then
  rec4 ((x4.1 ++ ([((IntKind.wrap .u64 (IntKind.wrap .i64 (16 + x4.2))), r5.1)])), (IntKind.wrap .i64 (x4.2 + 1)))
  else none
  else none)
  else (
  (F21 x4.1).bind fun r6 =>
  some (r6.1, r6.2))) (([(1, r2), (2, r3)]), 0)) (
 (F46 ([(IntKind.wrap .u64 b.2.2)])).bind fun r3 =>
 (fun o => both o o) (
 lfp (fun (rec4 : (List (Int × List Int) × Int) → Option (List Int × Int)) (x4 : List (Int × List Int) × Int) =>
  bif decide (x4.2 < (b.2.1.length : Int)) then (
  bif inb x4.2 b.2.1.length then
  (F79 ((rd (.pair (.int .i64) (.pair (.int .u64) (.int .u64))) b.2.1 x4.2).1, (((rd (.pair (.int .i64) (.pair (.int .u64) (.int .u64))) b.2.1 x4.2).2).1, ((rd (.pair (.int .i64) (.pair (.int .u64) (.int .u64))) b.2.1 x4.2).2).2))).bind fun r5 =>
  bif decide ((x4.1.length + 1) * 32 ≤ LIM) then
  rec4 ((x4.1 ++ ([((IntKind.wrap .u64 (IntKind.wrap .i64 (16 + x4.2))), r5.1)])), (IntKind.wrap .i64 (x4.2 + 1)))
  else none
  else none)
  else (
  (F21 x4.1).bind fun r6 =>
  some (r6.1, r6.2))) (([(1, r2), (2, r3)]), 0))))))) (
 (F46 ([b.1])).bind fun r2 =>
 (both (
 (F46 ([(IntKind.wrap .u64 b.2.2)])).bind fun r3 =>
 lfp (fun (rec4 : (List (Int × List Int) × Int) → Option (List Int × Int)) (x4 : List (Int × List Int) × Int) =>
  bif decide (x4.2 < (b.2.1.length : Int)) then (
  bif inb x4.2 b.2.1.length then
  (F79 ((rd (.pair (.int .i64) (.pair (.int .u64) (.int .u64))) b.2.1 x4.2).1, (((rd (.pair (.int .i64) (.pair (.int .u64) (.int .u64))) b.2.1 x4.2).2).1, ((rd (.pair (.int .i64) (.pair (.int .u64) (.int .u64))) b.2.1 x4.2).2).2))).bind fun r5 =>
  bif decide ((x4.1.length + 1) * 32 ≤ LIM) then
  rec4 ((x4.1 ++ ([((IntKind.wrap .u64 (IntKind.wrap .i64 (16 + x4.2))), r5.1)])), (IntKind.wrap .i64 (x4.2 + 1)))
  else none
  else none)
  else (
  (F21 x4.1).bind fun r6 =>
  some (r6.1, r6.2))) (([(1, r2), (2, r3)]), 0)) (
 (F46 ([(IntKind.wrap .u64 b.2.2)])).bind fun r3 =>
 (fun o => both o o) (
 lfp (fun (rec4 : (List (Int × List Int) × Int) → Option (List Int × Int)) (x4 : List (Int × List Int) × Int) =>
  bif decide (x4.2 < (b.2.1.length : Int)) then (
  bif inb x4.2 b.2.1.length then
  (F79 ((rd (.pair (.int .i64) (.pair (.int .u64) (.int .u64))) b.2.1 x4.2).1, (((rd (.pair (.int .i64) (.pair (.int .u64) (.int .u64))) b.2.1 x4.2).2).1, ((rd (.pair (.int .i64) (.pair (.int .u64) (.int .u64))) b.2.1 x4.2).2).2))).bind fun r5 =>
  bif decide ((x4.1.length + 1) * 32 ≤ LIM) then
  rec4 ((x4.1 ++ ([((IntKind.wrap .u64 (IntKind.wrap .i64 (16 + x4.2))), r5.1)])), (IntKind.wrap .i64 (x4.2 + 1)))
  else none
  else none)
  else (
  (F21 x4.1).bind fun r6 =>
  some (r6.1, r6.2))) (([(1, r2), (2, r3)]), 0))))))))) (
 (both (
 (both (
 (F46 ([b.1])).bind fun r2 =>
 (both (
 (F46 ([(IntKind.wrap .u64 b.2.2)])).bind fun r3 =>
 lfp (fun (rec4 : (List (Int × List Int) × Int) → Option (List Int × Int)) (x4 : List (Int × List Int) × Int) =>
  bif decide (x4.2 < (b.2.1.length : Int)) then (
  bif inb x4.2 b.2.1.length then
  (F79 ((rd (.pair (.int .i64) (.pair (.int .u64) (.int .u64))) b.2.1 x4.2).1, (((rd (.pair (.int .i64) (.pair (.int .u64) (.int .u64))) b.2.1 x4.2).2).1, ((rd (.pair (.int .i64) (.pair (.int .u64) (.int .u64))) b.2.1 x4.2).2).2))).bind fun r5 =>
  bif decide ((x4.1.length + 1) * 32 ≤ LIM) then
  rec4 ((x4.1 ++ ([((IntKind.wrap .u64 (IntKind.wrap .i64 (16 + x4.2))), r5.1)])), (IntKind.wrap .i64 (x4.2 + 1)))
  else none
  else none)
  else (
  (F21 x4.1).bind fun r6 =>
  some (r6.1, r6.2))) (([(1, r2), (2, r3)]), 0)) (
 (both (
 (F46 ([(IntKind.wrap .u64 b.2.2)])).bind fun r3 =>
 lfp (fun (rec4 : (List (Int × List Int) × Int) → Option (List Int × Int)) (x4 : List (Int × List Int) × Int) =>
  bif decide (x4.2 < (b.2.1.length : Int)) then (
  bif inb x4.2 b.2.1.length then
  (F79 ((rd (.pair (.int .i64) (.pair (.int .u64) (.int .u64))) b.2.1 x4.2).1, (((rd (.pair (.int .i64) (.pair (.int .u64) (.int .u64))) b.2.1 x4.2).2).1, ((rd (.pair (.int .i64) (.pair (.int .u64) (.int .u64))) b.2.1 x4.2).2).2))).bind fun r5 =>
  bif decide ((x4.1.length + 1) * 32 ≤ LIM) then
  rec4 ((x4.1 ++ ([((IntKind.wrap .u64 (IntKind.wrap .i64 (16 + x4.2))), r5.1)])), (IntKind.wrap .i64 (x4.2 + 1)))
  else none
  else none)
  else (
  (F21 x4.1).bind fun r6 =>
  some (r6.1, r6.2))) (([(1, r2), (2, r3)]), 0)) (
 (F46 ([(IntKind.wrap .u64 b.2.2)])).bind fun r3 =>
 (fun o => both o o) (
 lfp (fun (rec4 : (List (Int × List Int) × Int) → Option (List Int × Int)) (x4 : List (Int × List Int) × Int) =>
  bif decide (x4.2 < (b.2.1.length : Int)) then (
  bif inb x4.2 b.2.1.length then
  (F79 ((rd (.pair (.int .i64) (.pair (.int .u64) (.int .u64))) b.2.1 x4.2).1, (((rd (.pair (.int .i64) (.pair (.int .u64) (.int .u64))) b.2.1 x4.2).2).1, ((rd (.pair (.int .i64) (.pair (.int .u64) (.int .u64))) b.2.1 x4.2).2).2))).bind fun r5 =>
  bif decide ((x4.1.length + 1) * 32 ≤ LIM) then
  rec4 ((x4.1 ++ ([((IntKind.wrap .u64 (IntKind.wrap .i64 (16 + x4.2))), r5.1)])), (IntKind.wrap .i64 (x4.2 + 1)))
  else none
  else none)
  else (
  (F21 x4.1).bind fun r6 =>
  some (r6.1, r6.2))) (([(1, r2), (2, r3)]), 0))))))) (
 (F46 ([b.1])).bind fun r2 =>
 (both (
 (F46 ([(IntKind.wrap .u64 b.2.2)])).bind fun r3 =>
 lfp (fun (rec4 : (List (Int × List Int) × Int) → Option (List Int × Int)) (x4 : List (Int × List Int) × Int) =>
  bif decide (x4.2 < (b.2.1.length : Int)) then (
  bif inb x4.2 b.2.1.length then
  (F79 ((rd (.pair (.int .i64) (.pair (.int .u64) (.int .u64))) b.2.1 x4.2).1, (((rd (.pair (.int .i64) (.pair (.int .u64) (.int .u64))) b.2.1 x4.2).2).1, ((rd (.pair (.int .i64) (.pair (.int .u64) (.int .u64))) b.2.1 x4.2).2).2))).bind fun r5 =>
  bif decide ((x4.1.length + 1) * 32 ≤ LIM) then
  rec4 ((x4.1 ++ ([((IntKind.wrap .u64 (IntKind.wrap .i64 (16 + x4.2))), r5.1)])), (IntKind.wrap .i64 (x4.2 + 1)))
  else none
  else none)
  else (
  (F21 x4.1).bind fun r6 =>
  some (r6.1, r6.2))) (([(1, r2), (2, r3)]), 0)) (
 (F46 ([(IntKind.wrap .u64 b.2.2)])).bind fun r3 =>
 (fun o => both o o) (
 lfp (fun (rec4 : (List (Int × List Int) × Int) → Option (List Int × Int)) (x4 : List (Int × List Int) × Int) =>
  bif decide (x4.2 < (b.2.1.length : Int)) then (
  bif inb x4.2 b.2.1.length then
  (F79 ((rd (.pair (.int .i64) (.pair (.int .u64) (.int .u64))) b.2.1 x4.2).1, (((rd (.pair (.int .i64) (.pair (.int .u64) (.int .u64))) b.2.1 x4.2).2).1, ((rd (.pair (.int .i64) (.pair (.int .u64) (.int .u64))) b.2.1 x4.2).2).2))).bind fun r5 =>
  bif decide ((x4.1.length + 1) * 32 ≤ LIM) then
  rec4 ((x4.1 ++ ([((IntKind.wrap .u64 (IntKind.wrap .i64 (16 + x4.2))), r5.1)])), (IntKind.wrap .i64 (x4.2 + 1)))
  else none
  else none)
  else (
  (F21 x4.1).bind fun r6 =>
  some (r6.1, r6.2))) (([(1, r2), (2, r3)]), 0))))))) (
 (F46 ([b.1])).bind fun r2 =>
 (both (
 (F46 ([(IntKind.wrap .u64 b.2.2)])).bind fun r3 =>
 lfp (fun (rec4 : (List (Int × List Int) × Int) → Option (List Int × Int)) (x4 : List (Int × List Int) × Int) =>
  bif decide (x4.2 < (b.2.1.length : Int)) then (
  bif inb x4.2 b.2.1.length then
  (F79 ((rd (.pair (.int .i64) (.pair (.int .u64) (.int .u64))) b.2.1 x4.2).1, (((rd (.pair (.int .i64) (.pair (.int .u64) (.int .u64))) b.2.1 x4.2).2).1, ((rd (.pair (.int .i64) (.pair (.int .u64) (.int .u64))) b.2.1 x4.2).2).2))).bind fun r5 =>
  bif decide ((x4.1.length + 1) * 32 ≤ LIM) then
  rec4 ((x4.1 ++ ([((IntKind.wrap .u64 (IntKind.wrap .i64 (16 + x4.2))), r5.1)])), (IntKind.wrap .i64 (x4.2 + 1)))
  else none
  else none)
  else (
  (F21 x4.1).bind fun r6 =>
  some (r6.1, r6.2))) (([(1, r2), (2, r3)]), 0)) (
 (F46 ([(IntKind.wrap .u64 b.2.2)])).bind fun r3 =>
 (fun o => both o o) (
 lfp (fun (rec4 : (List (Int × List Int) × Int) → Option (List Int × Int)) (x4 : List (Int × List Int) × Int) =>
  bif decide (x4.2 < (b.2.1.length : Int)) then (
  bif inb x4.2 b.2.1.length then
  (F79 ((rd (.pair (.int .i64) (.pair (.int .u64) (.int .u64))) b.2.1 x4.2).1, (((rd (.pair (.int .i64) (.pair (.int .u64) (.int .u64))) b.2.1 x4.2).2).1, ((rd (.pair (.int .i64) (.pair (.int .u64) (.int .u64))) b.2.1 x4.2).2).2))).bind fun r5 =>
  bif decide ((x4.1.length + 1) * 32 ≤ LIM) then
  rec4 ((x4.1 ++ ([((IntKind.wrap .u64 (IntKind.wrap .i64 (16 + x4.2))), r5.1)])), (IntKind.wrap .i64 (x4.2 + 1)))
  else none
  else none)
  else (
  (F21 x4.1).bind fun r6 =>
  some (r6.1, r6.2))) (([(1, r2), (2, r3)]), 0))))))))) (
 (both (
 (both (
 (both (
 (F46 ([b.1])).bind fun r2 =>
 (both (
 (F46 ([(IntKind.wrap .u64 b.2.2)])).bind fun r3 =>
 lfp (fun (rec4 : (List (Int × List Int) × Int) → Option (List Int × Int)) (x4 : List (Int × List Int) × Int) =>
  bif decide (x4.2 < (b.2.1.length : Int)) then (
  bif inb x4.2 b.2.1.length then
  (F79 ((rd (.pair (.int .i64) (.pair (.int .u64) (.int .u64))) b.2.1 x4.2).1, (((rd (.pair (.int .i64) (.pair (.int .u64) (.int .u64))) b.2.1 x4.2).2).1, ((rd (.pair (.int .i64) (.pair (.int .u64) (.int .u64))) b.2.1 x4.2).2).2))).bind fun r5 =>
  bif decide ((x4.1.length + 1) * 32 ≤ LIM) then
  rec4 ((x4.1 ++ ([((IntKind.wrap .u64 (IntKind.wrap .i64 (16 + x4.2))), r5.1)])), (IntKind.wrap .i64 (x4.2 + 1)))
  else none
  else none)
  else (
  (F21 x4.1).bind fun r6 =>
  some (r6.1, r6.2))) (([(1, r2), (2, r3)]), 0)) (
 (both (
 (F46 ([(IntKind.wrap .u64 b.2.2)])).bind fun r3 =>
 lfp (fun (rec4 : (List (Int × List Int) × Int) → Option (List Int × Int)) (x4 : List (Int × List Int) × Int) =>
  bif decide (x4.2 < (b.2.1.length : Int)) then (
  bif inb x4.2 b.2.1.length then
  (F79 ((rd (.pair (.int .i64) (.pair (.int .u64) (.int .u64))) b.2.1 x4.2).1, (((rd (.pair (.int .i64) (.pair (.int .u64) (.int .u64))) b.2.1 x4.2).2).1, ((rd (.pair (.int .i64) (.pair (.int .u64) (.int .u64))) b.2.1 x4.2).2).2))).bind fun r5 =>
  bif decide ((x4.1.length + 1) * 32 ≤ LIM) then
  rec4 ((x4.1 ++ ([((IntKind.wrap .u64 (IntKind.wrap .i64 (16 + x4.2))), r5.1)])), (IntKind.wrap .i64 (x4.2 + 1)))
  else none
  else none)
  else (
  (F21 x4.1).bind fun r6 =>
  some (r6.1, r6.2))) (([(1, r2), (2, r3)]), 0)) (
 (F46 ([(IntKind.wrap .u64 b.2.2)])).bind fun r3 =>
 (fun o => both o o) (
 lfp (fun (rec4 : (List (Int × List Int) × Int) → Option (List Int × Int)) (x4 : List (Int × List Int) × Int) =>
  bif decide (x4.2 < (b.2.1.length : Int)) then (
  bif inb x4.2 b.2.1.length then
  (F79 ((rd (.pair (.int .i64) (.pair (.int .u64) (.int .u64))) b.2.1 x4.2).1, (((rd (.pair (.int .i64) (.pair (.int .u64) (.int .u64))) b.2.1 x4.2).2).1, ((rd (.pair (.int .i64) (.pair (.int .u64) (.int .u64))) b.2.1 x4.2).2).2))).bind fun r5 =>
  bif decide ((x4.1.length + 1) * 32 ≤ LIM) then
  rec4 ((x4.1 ++ ([((IntKind.wrap .u64 (IntKind.wrap .i64 (16 + x4.2))), r5.1)])), (IntKind.wrap .i64 (x4.2 + 1)))
  else none
  else none)
  else (
  (F21 x4.1).bind fun r6 =>
  some (r6.1, r6.2))) (([(1, r2), (2, r3)]), 0))))))) (
 (F46 ([b.1])).bind fun r2 =>
 (both (
 (F46 ([(IntKind.wrap .u64 b.2.2)])).bind fun r3 =>
 lfp (fun (rec4 : (List (Int × List Int) × Int) → Option (List Int × Int)) (x4 : List (Int × List Int) × Int) =>
  bif decide (x4.2 < (b.2.1.length : Int)) then (
  bif inb x4.2 b.2.1.length then
  (F79 ((rd (.pair (.int .i64) (.pair (.int .u64) (.int .u64))) b.2.1 x4.2).1, (((rd (.pair (.int .i64) (.pair (.int .u64) (.int .u64))) b.2.1 x4.2).2).1, ((rd (.pair (.int .i64) (.pair (.int .u64) (.int .u64))) b.2.1 x4.2).2).2))).bind fun r5 =>
  bif decide ((x4.1.length + 1) * 32 ≤ LIM) then
  rec4 ((x4.1 ++ ([((IntKind.wrap .u64 (IntKind.wrap .i64 (16 + x4.2))), r5.1)])), (IntKind.wrap .i64 (x4.2 + 1)))
  else none
  else none)
  else (
  (F21 x4.1).bind fun r6 =>
  some (r6.1, r6.2))) (([(1, r2), (2, r3)]), 0)) (
 (F46 ([(IntKind.wrap .u64 b.2.2)])).bind fun r3 =>
 (fun o => both o o) (
 lfp (fun (rec4 : (List (Int × List Int) × Int) → Option (List Int × Int)) (x4 : List (Int × List Int) × Int) =>
  bif decide (x4.2 < (b.2.1.length : Int)) then (
  bif inb x4.2 b.2.1.length then
  (F79 ((rd (.pair (.int .i64) (.pair (.int .u64) (.int .u64))) b.2.1 x4.2).1, (((rd (.pair (.int .i64) (.pair (.int .u64) (.int .u64))) b.2.1 x4.2).2).1, ((rd (.pair (.int .i64) (.pair (.int .u64) (.int .u64))) b.2.1 x4.2).2).2))).bind fun r5 =>
  bif decide ((x4.1.length + 1) * 32 ≤ LIM) then
  rec4 ((x4.1 ++ ([((IntKind.wrap .u64 (IntKind.wrap .i64 (16 + x4.2))), r5.1)])), (IntKind.wrap .i64 (x4.2 + 1)))
  else none
  else none)
  else (
  (F21 x4.1).bind fun r6 =>
  some (r6.1, r6.2))) (([(1, r2), (2, r3)]), 0))))))) (
 (F46 ([b.1])).bind fun r2 =>
 (both (
 (F46 ([(IntKind.wrap .u64 b.2.2)])).bind fun r3 =>
 lfp (fun (rec4 : (List (Int × List Int) × Int) → Option (List Int × Int)) (x4 : List (Int × List Int) × Int) =>
  bif decide (x4.2 < (b.2.1.length : Int)) then (
  bif inb x4.2 b.2.1.length then
  (F79 ((rd (.pair (.int .i64) (.pair (.int .u64) (.int .u64))) b.2.1 x4.2).1, (((rd (.pair (.int .i64) (.pair (.int .u64) (.int .u64))) b.2.1 x4.2).2).1, ((rd (.pair (.int .i64) (.pair (.int .u64) (.int .u64))) b.2.1 x4.2).2).2))).bind fun r5 =>
  bif decide ((x4.1.length + 1) * 32 ≤ LIM) then
  rec4 ((x4.1 ++ ([((IntKind.wrap .u64 (IntKind.wrap .i64 (16 + x4.2))), r5.1)])), (IntKind.wrap .i64 (x4.2 + 1)))
  else none
  else none)
  else (
  (F21 x4.1).bind fun r6 =>
  some (r6.1, r6.2))) (([(1, r2), (2, r3)]), 0)) (
 (F46 ([(IntKind.wrap .u64 b.2.2)])).bind fun r3 =>
 (fun o => both o o) (
 lfp (fun (rec4 : (List (Int × List Int) × Int) → Option (List Int × Int)) (x4 : List (Int × List Int) × Int) =>
  bif decide (x4.2 < (b.2.1.length : Int)) then (
  bif inb x4.2 b.2.1.length then
  (F79 ((rd (.pair (.int .i64) (.pair (.int .u64) (.int .u64))) b.2.1 x4.2).1, (((rd (.pair (.int .i64) (.pair (.int .u64) (.int .u64))) b.2.1 x4.2).2).1, ((rd (.pair (.int .i64) (.pair (.int .u64) (.int .u64))) b.2.1 x4.2).2).2))).bind fun r5 =>
  bif decide ((x4.1.length + 1) * 32 ≤ LIM) then
  rec4 ((x4.1 ++ ([((IntKind.wrap .u64 (IntKind.wrap .i64 (16 + x4.2))), r5.1)])), (IntKind.wrap .i64 (x4.2 + 1)))
  else none
  else none)
  else (
  (F21 x4.1).bind fun r6 =>
  some (r6.1, r6.2))) (([(1, r2), (2, r3)]), 0))))))) (
 (F46 ([b.1])).bind fun r2 =>
 (both (
 (F46 ([(IntKind.wrap .u64 b.2.2)])).bind fun r3 =>
 lfp (fun (rec4 : (List (Int × List Int) × Int) → Option (List Int × Int)) (x4 : List (Int × List Int) × Int) =>
  bif decide (x4.2 < (b.2.1.length : Int)) then (
  bif inb x4.2 b.2.1.length then
  (F79 ((rd (.pair (.int .i64) (.pair (.int .u64) (.int .u64))) b.2.1 x4.2).1, (((rd (.pair (.int .i64) (.pair (.int .u64) (.int .u64))) b.2.1 x4.2).2).1, ((rd (.pair (.int .i64) (.pair (.int .u64) (.int .u64))) b.2.1 x4.2).2).2))).bind fun r5 =>
  bif decide ((x4.1.length + 1) * 32 ≤ LIM) then
  rec4 ((x4.1 ++ ([((IntKind.wrap .u64 (IntKind.wrap .i64 (16 + x4.2))), r5.1)])), (IntKind.wrap .i64 (x4.2 + 1)))
  else none
  else none)
  else (
  (F21 x4.1).bind fun r6 =>
  some (r6.1, r6.2))) (([(1, r2), (2, r3)]), 0)) (
 (F46 ([(IntKind.wrap .u64 b.2.2)])).bind fun r3 =>
 (fun o => both o o) (
 lfp (fun (rec4 : (List (Int × List Int) × Int) → Option (List Int × Int)) (x4 : List (Int × List Int) × Int) =>
  bif decide (x4.2 < (b.2.1.length : Int)) then (
  bif inb x4.2 b.2.1.length then
  (F79 ((rd (.pair (.int .i64) (.pair (.int .u64) (.int .u64))) b.2.1 x4.2).1, (((rd (.pair (.int .i64) (.pair (.int .u64) (.int .u64))) b.2.1 x4.2).2).1, ((rd (.pair (.int .i64) (.pair (.int .u64) (.int .u64))) b.2.1 x4.2).2).2))).bind fun r5 =>
  bif decide ((x4.1.length + 1) * 32 ≤ LIM) then
  rec4 ((x4.1 ++ ([((IntKind.wrap .u64 (IntKind.wrap .i64 (16 + x4.2))), r5.1)])), (IntKind.wrap .i64 (x4.2 + 1)))
  else none
  else none)
  else (
  (F21 x4.1).bind fun r6 =>
  some (r6.1, r6.2))) (([(1, r2), (2, r3)]), 0)))))))))
theorem ev62 (b : (Int × (List (Int × (Int × Int)) × Int))) : evF C79 H62 Try.f62 (encs [.aggA (.pair (.int .u64) (.pair (.slice 95 (.pair (.int .i64) (.pair (.int .u64) (.int .u64)))) (.int .i64)))] b) (RT.dec (.tup [.leaf (.fresh 5 (.int .u8)), .leaf (.int .i64)])) = F62 b := by kernel_rfl
noncomputable def C62 : Ctx := Ctx.addA C79 62 [.aggA (.pair (.int .u64) (.pair (.slice 95 (.pair (.int .i64) (.pair (.int .u64) (.int .u64)))) (.int .i64)))] (.tup [.leaf (.fresh 5 (.int .u8)), .leaf (.int .i64)]) F62
theorem s62 : C62.Sound := Ctx.Sound.addA (C := C79) mixed s79 Try.func62 ev62
/-! damson/damsonref20.Put -/
def H36 : Nat → Head
  | 5 => ⟨[.row 4 18437 26 (.pair (.int .u64) (.slice 5 (.int .u8))), .data 32 (.int .i64)], [122880, 69632, 65536, 4096]⟩
  | 16 => ⟨[.row 4 18448 26 (.pair (.int .u64) (.slice 5 (.int .u8))), .data 80 (.int .i64)], [307200, 282624, 241664, 233472, 122880, 69632, 65536, 4096]⟩
  | _ => ⟨[], []⟩
noncomputable def F36 (b : (Int × (Int × (Int × (Int × (Int × (List Int × (List (Int × (Int × (Int × Int))) × (Int × (List (Int × (Int × Int)) × Int)))))))))) : Option (List Int × Int) :=
 (F40 (b.1, (b.2.1, (b.2.2.1, (b.2.2.2.1, (b.2.2.2.2.1, (b.2.2.2.2.2.1, (b.2.2.2.2.2.2.1, (b.2.2.2.2.2.2.2.1, (b.2.2.2.2.2.2.2.2.1, b.2.2.2.2.2.2.2.2.2)))))))))).bind fun r1 =>
 bif (!decide (r1 = 0)) then (
 some (([] : List Int), 1))
 else (
 (F46 ([b.1])).bind fun r2 =>
 lfp (fun (rec3 : (List (Int × List Int) × Int) → Option (List Int × Int)) (x3 : List (Int × List Int) × Int) =>
  bif decide (x3.2 < (([(IntKind.wrap .u64 b.2.1), b.2.2.1, b.2.2.2.1, (IntKind.wrap .u64 b.2.2.2.2.1)]).length : Int)) then (
  bif inb x3.2 ([(IntKind.wrap .u64 b.2.1), b.2.2.1, b.2.2.2.1, (IntKind.wrap .u64 b.2.2.2.2.1)]).length then
  bif (!decide ((rd (.int .u64) ([(IntKind.wrap .u64 b.2.1), b.2.2.1, b.2.2.2.1, (IntKind.wrap .u64 b.2.2.2.2.1)]) x3.2) = 0)) then (
  (F46 ([(rd (.int .u64) ([(IntKind.wrap .u64 b.2.1), b.2.2.1, b.2.2.2.1, (IntKind.wrap .u64 b.2.2.2.2.1)]) x3.2)])).bind fun r4 =>
  bif decide ((x3.1.length + 1) * 32 ≤ LIM) then
  rec3 ((x3.1 ++ ([((IntKind.wrap .u64 (IntKind.wrap .i64 (2 + x3.2))), r4)])), (IntKind.wrap .i64 (x3.2 + 1)))
  else none)
  else (
  rec3 (x3.1, (IntKind.wrap .i64 (x3.2 + 1))))
  else none)
  else (
  bif decide (0 < (b.2.2.2.2.2.1.length : Int)) then (
  (F46 b.2.2.2.2.2.1).bind fun r5 =>
  bif decide ((x3.1.length + 1) * 32 ≤ LIM) then
  (F61 ((b.2.2.2.2.2.2.2.1, (b.2.2.2.2.2.2.2.2.1, b.2.2.2.2.2.2.2.2.2)), (0, ([], 0)))).bind fun r6 =>
  bif (!r6) then (
  (F62 (b.2.2.2.2.2.2.2.1, (b.2.2.2.2.2.2.2.2.1, b.2.2.2.2.2.2.2.2.2))).bind fun r7 =>
  bif decide (((x3.1 ++ ([(6, r5)])).length + 1) * 32 ≤ LIM) then
  lfp (fun (rec8 : (List (Int × List Int) × Int) → Option (List Int × Int)) (x8 : List (Int × List Int) × Int) =>
   bif decide (x8.2 < (b.2.2.2.2.2.2.1.length : Int)) then (
   bif inb x8.2 b.2.2.2.2.2.2.1.length then
   (F46 ([(rd (.pair (.int .u64) (.pair (.int .i64) (.pair (.int .u64) (.int .u64)))) b.2.2.2.2.2.2.1 x8.2).1, (IntKind.wrap .u64 (((rd (.pair (.int .u64) (.pair (.int .i64) (.pair (.int .u64) (.int .u64)))) b.2.2.2.2.2.2.1 x8.2).2).1)), (((rd (.pair (.int .u64) (.pair (.int .i64) (.pair (.int .u64) (.int .u64)))) b.2.2.2.2.2.2.1 x8.2).2).2).1, (((rd (.pair (.int .u64) (.pair (.int .i64) (.pair (.int .u64) (.int .u64)))) b.2.2.2.2.2.2.1 x8.2).2).2).2])).bind fun r9 =>
   bif decide ((x8.1.length + 1) * 32 ≤ LIM) then
   rec8 ((x8.1 ++ ([((IntKind.wrap .u64 (IntKind.wrap .i64 (16 + x8.2))), r9)])), (IntKind.wrap .i64 (x8.2 + 1)))
   else none
   else none)
   else (
   (F21 x8.1).bind fun r10 =>
   some (r10.1, r10.2))) (((x3.1 ++ ([(6, r5)])) ++ ([(7, r7.1)])), 0)
  else none)
  else (
  lfp (fun (rec11 : (List (Int × List Int) × Int) → Option (List Int × Int)) (x11 : List (Int × List Int) × Int) =>
   bif decide (x11.2 < (b.2.2.2.2.2.2.1.length : Int)) then (
   bif inb x11.2 b.2.2.2.2.2.2.1.length then
   (F46 ([(rd (.pair (.int .u64) (.pair (.int .i64) (.pair (.int .u64) (.int .u64)))) b.2.2.2.2.2.2.1 x11.2).1, (IntKind.wrap .u64 (((rd (.pair (.int .u64) (.pair (.int .i64) (.pair (.int .u64) (.int .u64)))) b.2.2.2.2.2.2.1 x11.2).2).1)), (((rd (.pair (.int .u64) (.pair (.int .i64) (.pair (.int .u64) (.int .u64)))) b.2.2.2.2.2.2.1 x11.2).2).2).1, (((rd (.pair (.int .u64) (.pair (.int .i64) (.pair (.int .u64) (.int .u64)))) b.2.2.2.2.2.2.1 x11.2).2).2).2])).bind fun r12 =>
   bif decide ((x11.1.length + 1) * 32 ≤ LIM) then
   rec11 ((x11.1 ++ ([((IntKind.wrap .u64 (IntKind.wrap .i64 (16 + x11.2))), r12)])), (IntKind.wrap .i64 (x11.2 + 1)))
   else none
   else none)
   else (
   (F21 x11.1).bind fun r13 =>
   some (r13.1, r13.2))) ((x3.1 ++ ([(6, r5)])), 0))
  else none)
  else (
  (F61 ((b.2.2.2.2.2.2.2.1, (b.2.2.2.2.2.2.2.2.1, b.2.2.2.2.2.2.2.2.2)), (0, ([], 0)))).bind fun r14 =>
  bif (!r14) then (
  (F62 (b.2.2.2.2.2.2.2.1, (b.2.2.2.2.2.2.2.2.1, b.2.2.2.2.2.2.2.2.2))).bind fun r15 =>
  bif decide ((x3.1.length + 1) * 32 ≤ LIM) then
  lfp (fun (rec16 : (List (Int × List Int) × Int) → Option (List Int × Int)) (x16 : List (Int × List Int) × Int) =>
   bif decide (x16.2 < (b.2.2.2.2.2.2.1.length : Int)) then (
   bif inb x16.2 b.2.2.2.2.2.2.1.length then
   (F46 ([(rd (.pair (.int .u64) (.pair (.int .i64) (.pair (.int .u64) (.int .u64)))) b.2.2.2.2.2.2.1 x16.2).1, (IntKind.wrap .u64 (((rd (.pair (.int .u64) (.pair (.int .i64) (.pair (.int .u64) (.int .u64)))) b.2.2.2.2.2.2.1 x16.2).2).1)), (((rd (.pair (.int .u64) (.pair (.int .i64) (.pair (.int .u64) (.int .u64)))) b.2.2.2.2.2.2.1 x16.2).2).2).1, (((rd (.pair (.int .u64) (.pair (.int .i64) (.pair (.int .u64) (.int .u64)))) b.2.2.2.2.2.2.1 x16.2).2).2).2])).bind fun r17 =>
   bif decide ((x16.1.length + 1) * 32 ≤ LIM) then
   rec16 ((x16.1 ++ ([((IntKind.wrap .u64 (IntKind.wrap .i64 (16 + x16.2))), r17)])), (IntKind.wrap .i64 (x16.2 + 1)))
   else none
   else none)
   else (
   (F21 x16.1).bind fun r18 =>
   some (r18.1, r18.2))) ((x3.1 ++ ([(7, r15.1)])), 0)
  else none)
  else (
  lfp (fun (rec19 : (List (Int × List Int) × Int) → Option (List Int × Int)) (x19 : List (Int × List Int) × Int) =>
   bif decide (x19.2 < (b.2.2.2.2.2.2.1.length : Int)) then (
   bif inb x19.2 b.2.2.2.2.2.2.1.length then
   (F46 ([(rd (.pair (.int .u64) (.pair (.int .i64) (.pair (.int .u64) (.int .u64)))) b.2.2.2.2.2.2.1 x19.2).1, (IntKind.wrap .u64 (((rd (.pair (.int .u64) (.pair (.int .i64) (.pair (.int .u64) (.int .u64)))) b.2.2.2.2.2.2.1 x19.2).2).1)), (((rd (.pair (.int .u64) (.pair (.int .i64) (.pair (.int .u64) (.int .u64)))) b.2.2.2.2.2.2.1 x19.2).2).2).1, (((rd (.pair (.int .u64) (.pair (.int .i64) (.pair (.int .u64) (.int .u64)))) b.2.2.2.2.2.2.1 x19.2).2).2).2])).bind fun r20 =>
   bif decide ((x19.1.length + 1) * 32 ≤ LIM) then
   rec19 ((x19.1 ++ ([((IntKind.wrap .u64 (IntKind.wrap .i64 (16 + x19.2))), r20)])), (IntKind.wrap .i64 (x19.2 + 1)))
   else none
   else none)
   else (
   (F21 x19.1).bind fun r21 =>
   some (r21.1, r21.2))) (x3.1, 0))))) (([(1, r2)]), 0))
theorem ev36 (b : (Int × (Int × (Int × (Int × (Int × (List Int × (List (Int × (Int × (Int × Int))) × (Int × (List (Int × (Int × Int)) × Int)))))))))) : evF C62 H36 Try.f36 (encs [.aggA (.pair (.int .u64) (.pair (.int .i64) (.pair (.int .u64) (.pair (.int .u64) (.pair (.int .i64) (.pair (.slice 23 (.int .u64)) (.pair (.slice 81 (.pair (.int .u64) (.pair (.int .i64) (.pair (.int .u64) (.int .u64))))) (.pair (.int .u64) (.pair (.slice 95 (.pair (.int .i64) (.pair (.int .u64) (.int .u64)))) (.int .i64))))))))))] b) (RT.dec (.tup [.leaf (.fresh 5 (.int .u8)), .leaf (.int .i64)])) = F36 b := by kernel_rfl
noncomputable def C36 : Ctx := Ctx.addA C62 36 [.aggA (.pair (.int .u64) (.pair (.int .i64) (.pair (.int .u64) (.pair (.int .u64) (.pair (.int .i64) (.pair (.slice 23 (.int .u64)) (.pair (.slice 81 (.pair (.int .u64) (.pair (.int .i64) (.pair (.int .u64) (.int .u64))))) (.pair (.int .u64) (.pair (.slice 95 (.pair (.int .i64) (.pair (.int .u64) (.int .u64)))) (.int .i64))))))))))] (.tup [.leaf (.fresh 5 (.int .u8)), .leaf (.int .i64)]) F36
theorem s36 : C36.Sound := Ctx.Sound.addA (C := C62) mixed s62 Try.func36 ev36
/-! damson/caveat.Get -/
def H93 : Nat → Head
  | 4 => ⟨[.data 0 (.slice 5 (.int .u8)), .data 3 (.int .i64), .data 5 (.int .i64), .data 6 (.int .i64), .arr 16384 23 (.int .u64) 3], [8192]⟩
  | 5000013 => ⟨[], [0, 0, 0, 0, 0, 0, 0, 0, 12, 12, 3, 1, 35, 34, 127, 20]⟩
  | _ => ⟨[], []⟩
noncomputable def F93 (b : List Int) : Option ((Int × Int × Int) × Int) :=
 lfp (fun (rec1 : (List Int × Int × Int × Int × List Int) → Option ((Int × Int × Int) × Int)) (x1 : List Int × Int × Int × Int × List Int) =>
  bif decide (x1.2.2.2.1 < x1.2.2.1) then (
  (F52 x1.1).bind fun r2 =>
  bif (!decide (r2.2.2 = 0)) then (
  some ((0, 0, 0), r2.2.2))
  else (
  bif (decide (x1.2.2.2.1 = 0) == true) then (
  bif (bif decide (r2.1 < 1) then true else decide (5 < r2.1)) then (
  some ((0, 0, 0), 2))
  else (
  bif (bif decide (x1.2.2.2.1 = 0) then decide (r2.1 = 4) else false) then (
  bif inb r2.2.1 (x1.1.length + 1) then
  bif inb x1.2.2.2.1 3 then
  rec1 (x1.1.drop r2.2.1.toNat, x1.2.1, (IntKind.wrap .i64 (x1.2.2.1 + 1)), (IntKind.wrap .i64 (x1.2.2.2.1 + 1)), x1.2.2.2.2.set x1.2.2.2.1.toNat r2.1)
  else none
  else none)
  else (
  bif inb r2.2.1 (x1.1.length + 1) then
  bif inb x1.2.2.2.1 3 then
  rec1 (x1.1.drop r2.2.1.toNat, x1.2.1, x1.2.2.1, (IntKind.wrap .i64 (x1.2.2.2.1 + 1)), x1.2.2.2.2.set x1.2.2.2.1.toNat r2.1)
  else none
  else none)))
  else (
  bif (bif decide (x1.2.2.2.1 = 0) then decide (r2.1 = 4) else false) then (
  bif inb r2.2.1 (x1.1.length + 1) then
  bif inb x1.2.2.2.1 3 then
  rec1 (x1.1.drop r2.2.1.toNat, x1.2.1, (IntKind.wrap .i64 (x1.2.2.1 + 1)), (IntKind.wrap .i64 (x1.2.2.2.1 + 1)), x1.2.2.2.2.set x1.2.2.2.1.toNat r2.1)
  else none
  else none)
  else (
  bif inb r2.2.1 (x1.1.length + 1) then
  bif inb x1.2.2.2.1 3 then
  rec1 (x1.1.drop r2.2.1.toNat, x1.2.1, x1.2.2.1, (IntKind.wrap .i64 (x1.2.2.2.1 + 1)), x1.2.2.2.2.set x1.2.2.2.1.toNat r2.1)
  else none
  else none))))
  else (
  bif inb 0 3 then
  bif inb 1 3 then
  bif inb 2 3 then
  bif (decide (0 < (x1.1.length : Int)) == false) then (
  (F76 ((IntKind.wrap .i64 (rd (.int .u64) x1.2.2.2.2 0)), ((rd (.int .u64) x1.2.2.2.2 1), (rd (.int .u64) x1.2.2.2.2 2)))).bind fun r3 =>
  bif (!decide (r3 = 0)) then (
  some ((0, 0, 0), 2))
  else (
  some (((IntKind.wrap .i64 (rd (.int .u64) x1.2.2.2.2 0)), (rd (.int .u64) x1.2.2.2.2 1), (rd (.int .u64) x1.2.2.2.2 2)), 0)))
  else (
  some ((0, 0, 0), 2))
  else none
  else none
  else none)) (b, 0, 2, 0, [0, 0, 0])
theorem ev93 (b : List Int) : evF C36 H93 Try.f93 (encs [.one (.slice 5 (.int .u8))] b) (RT.dec (.tup [.agg [.int .i64, .int .u64, .int .u64], .leaf (.int .i64)])) = F93 b := by kernel_rfl
noncomputable def C93 : Ctx := Ctx.add C36 93 [.one (.slice 5 (.int .u8))] (.tup [.agg [.int .i64, .int .u64, .int .u64], .leaf (.int .i64)]) F93
theorem s93 : C93.Sound := Ctx.Sound.add (C := C36) mixed s36 Try.func93 ev93
/-! damson/token.Get -/
def H80 : Nat → Head
  | 6 => ⟨[.data 3 (.int .i64), .data 29 (.int .i64)], [24576, 90112, 8192]⟩
  | 13 => ⟨[.data 3 (.int .i64), .data 44 (.int .i64), .arr 24576 23 (.int .u64) 2], [90112, 8192]⟩
  | 22 => ⟨[.data 12 .bool, .data 72 (.int .i64)], [24576, 90112, 8192]⟩
  | 30 => ⟨[.data 3 (.int .i64), .data 98 (.int .i64), .crow 61440 1 10063518 95 (.pair (.int .i64) (.pair (.int .u64) (.int .u64))), .boxr 61440 10063518 (.int .u64) (.int .i64)], [24576, 90112, 8192]⟩
  | 5000024 => ⟨[], [0, 0, 1, 1, 2, 2, 6, 6, 2, 2, 2, 2, 50, 50, 74, 74, 130, 130, 511, 257]⟩
  | _ => ⟨[], []⟩
noncomputable def F80 (b : List Int) : Option ((Int × (List (Int × (Int × Int))) × Int) × Int) :=
 (F22 b).bind fun r1 =>
 bif (!decide (r1.2 = 0)) then (
 some ((0, ([] : List (Int × (Int × Int))), 0), r1.2))
 else (
 lfp (fun (rec2 : (Int × Int) → Option ((Int × (List (Int × (Int × Int))) × Int) × Int)) (x2 : Int × Int) =>
  bif decide (x2.2 < 2) then (
  (F17 (r1.1, (IntKind.wrap .u64 (1 + (IntKind.wrap .u64 x2.2))))).bind fun r3 =>
  bif (!decide (r3.2 = 0)) then (
  some ((0, ([] : List (Int × (Int × Int))), 0), 5))
  else (
  rec2 (x2.1, (IntKind.wrap .i64 (x2.2 + 1)))))
  else (
  lfp (fun (rec4 : (Int × Int × List Int) → Option ((Int × (List (Int × (Int × Int))) × Int) × Int)) (x4 : Int × Int × List Int) =>
   bif decide (x4.2.1 < 2) then (
   (F28 (r1.1, (IntKind.wrap .u64 (1 + (IntKind.wrap .u64 x4.2.1))))).bind fun r5 =>
   bif inb x4.2.1 2 then
   bif (!decide (r5.2 = 0)) then (
   some ((0, ([] : List (Int × (Int × Int))), 0), r5.2))
   else (
   rec4 (x4.1, (IntKind.wrap .i64 (x4.2.1 + 1)), x4.2.2.set x4.2.1.toNat r5.1))
   else none)
   else (
   bif inb 1 2 then
   lfp (fun (rec6 : (Bool × Int) → Option ((Int × (List (Int × (Int × Int))) × Int) × Int)) (x6 : Bool × Int) =>
    bif decide (x6.2 < (r1.1.length : Int)) then (
    bif inb x6.2 r1.1.length then
    (fun o => both o o) (
    bif (x6.1 == false) then (
    (F92 x6.2).bind fun r7 =>
    rec6 ((!decide ((rd (.pair (.int .u64) (.slice 5 (.int .u8))) r1.1 x6.2).1 = r7)), (IntKind.wrap .i64 (x6.2 + 1))))
    else (
    rec6 (true, (IntKind.wrap .i64 (x6.2 + 1)))))
    else none)
    else (
    bif x6.1 then (
    some ((0, ([] : List (Int × (Int × Int))), 0), 2))
    else (
    bif inb 0 2 then
    bif inb 1 2 then
    bif inb 2 (r1.1.length + 1) then
    lfp (fun (rec8 : (Int × Int × List (Int × (Int × Int)) × (Int × Int)) → Option ((Int × (List (Int × (Int × Int))) × Int) × Int)) (x8 : Int × Int × List (Int × (Int × Int)) × (Int × Int)) =>
     bif decide (x8.2.1 < ((r1.1.drop ((2 : Int).toNat)).length : Int)) then (
     bif inb x8.2.1 (r1.1.drop ((2 : Int).toNat)).length then
     (F93 ((rd (.pair (.int .u64) (.slice 5 (.int .u8))) (r1.1.drop ((2 : Int).toNat)) x8.2.1).2)).bind fun r9 =>
     bif (!decide (r9.2 = 0)) then (
     some ((0, ([] : List (Int × (Int × Int))), 0), r9.2))
     else (
     bif decide ((x8.2.2.1.length + 1) * 24 ≤ LIM) then
     rec8 (x8.1, (IntKind.wrap .i64 (x8.2.1 + 1)), (x8.2.2.1 ++ ([(r9.1.1, (r9.1.2.1, r9.1.2.2))])), (x8.2.2.2.1, x8.2.2.2.2))
     else none)
     else none)
     else (
     some ((x8.2.2.2.1, x8.2.2.1, x8.2.2.2.2), 0))) (x4.1, 0, ([] : List (Int × (Int × Int))), ((rd (.int .u64) x4.2.2 0), (IntKind.wrap .i64 (rd (.int .u64) x4.2.2 1))))
    else none
    else none
    else none))) ((bif decide (1048576 < (rd (.int .u64) x4.2.2 1)) then true else decide (18 < (r1.1.length : Int))), 0)
   else none)) (x2.1, 0, [0, 0]))) (0, 0))
theorem ev80 (b : List Int) : evF C93 H80 Try.f80 (encs [.oneA (.slice 5 (.int .u8))] b) (RT.dec (.tup [.agg [.int .u64, .fresh 95 (.pair (.int .i64) (.pair (.int .u64) (.int .u64))), .int .i64], .leaf (.int .i64)])) = F80 b := by kernel_rfl
noncomputable def C80 : Ctx := Ctx.addA C93 80 [.oneA (.slice 5 (.int .u8))] (.tup [.agg [.int .u64, .fresh 95 (.pair (.int .i64) (.pair (.int .u64) (.int .u64))), .int .i64], .leaf (.int .i64)]) F80
theorem s80 : C80.Sound := Ctx.Sound.addA (C := C93) mixed s93 Try.func80 ev80
/-! damson/bigsize.All -/
def H81 : Nat → Head
  | 3 => ⟨[.dataA 0 (.slice 5 (.int .u8)), .row 2 10243 23 (.int .u64), .data 3 (.int .i64)], []⟩
  | 5000007 => ⟨[], [0, 0, 0, 0, 2, 2, 5, 5, 0, 0, 0, 0, 48, 48, 15, 9, 255, 80]⟩
  | _ => ⟨[], []⟩
noncomputable def F81 (b : List Int) : Option (List Int × Int) :=
 bif decide (65535 < (b.length : Int)) then (
 some (([] : List Int), 4))
 else (
 lfp (fun (rec1 : (List Int × List Int × Int) → Option (List Int × Int)) (x1 : List Int × List Int × Int) =>
  bif decide (0 < (x1.1.length : Int)) then (
  (F52 x1.1).bind fun r2 =>
  bif (!decide (r2.2.2 = 0)) then (
  some (([] : List Int), r2.2.2))
  else (
  bif inb r2.2.1 (x1.1.length + 1) then
  bif decide ((x1.2.1.length + 1) * 8 ≤ LIM) then
  rec1 (x1.1.drop r2.2.1.toNat, (x1.2.1 ++ ([r2.1])), x1.2.2)
  else none
  else none))
  else (
  some (x1.2.1, 0))) (b, ([] : List Int), 0))
theorem ev81 (b : List Int) : evF C80 H81 Try.f81 (encs [.oneA (.slice 5 (.int .u8))] b) (RT.dec (.tup [.leaf (.fresh 23 (.int .u64)), .leaf (.int .i64)])) = F81 b := by kernel_rfl
noncomputable def C81 : Ctx := Ctx.addA C80 81 [.oneA (.slice 5 (.int .u8))] (.tup [.leaf (.fresh 23 (.int .u64)), .leaf (.int .i64)]) F81
theorem s81 : C81.Sound := Ctx.Sound.addA (C := C80) mixed s80 Try.func81 ev81
/-! damson/reply.read: carried out where it is called -/
def H63 : Nat → Head
  | 5000014 => ⟨[], [0, 0, 0, 0, 2, 2, 4, 4, 8, 8, 0, 0, 32, 32, 64, 64, 0, 0, 256, 256, 512, 512, 1024, 1024, 0, 0, 4096, 4096, 8192, 8192, 0, 0, 32768, 32768, 65536, 65536, 149632, 149632, 262144, 262144, 524304, 524304, 2097151, 1, 4194303, 2097152, 6291455, 5242880]⟩
  | _ => ⟨[], []⟩
noncomputable def C63 : Ctx := Ctx.addI C81 63 H63 9000063 Try.f63
theorem s63 : C63.Sound := Ctx.Sound.addI (C := C81) mixed s81 Try.func63
/-! damson/reply.Get -/
def H37 : Nat → Head
  | 5 => ⟨[.data 3 (.int .i64), .data 21 (.int .i64), .crow 8192 6 10010245 81 (.pair (.int .u64) (.pair (.int .i64) (.pair (.int .u64) (.int .u64)))), .boxr 8192 10010245 (.pair (.int .u64) (.pair (.int .i64) (.pair (.int .u64) (.pair (.int .u64) (.pair (.int .i64) (.slice 23 (.int .u64))))))) (.pair (.int .u64) (.pair (.slice 95 (.pair (.int .i64) (.pair (.int .u64) (.int .u64)))) (.int .i64)))], [65536]⟩
  | 3000000 => ⟨[], [7696581402624]⟩
  | 3000001 => ⟨[], [7696581402624]⟩
  | 3000002 => ⟨[], [7696581402624]⟩
  | 3000003 => ⟨[], [7696581402624]⟩
  | 3000004 => ⟨[], [7696581402624]⟩
  | 3000005 => ⟨[], [7696581402624]⟩
  | 3000006 => ⟨[], [7696581402624]⟩
  | 3000007 => ⟨[], [7696581402624]⟩
  | 3000008 => ⟨[], [7696581402624]⟩
  | 3000009 => ⟨[], [7696581402624]⟩
  | 3000010 => ⟨[], [7696581402624]⟩
  | 3000011 => ⟨[], [7696581402624]⟩
  | 3000012 => ⟨[], [7696581402624]⟩
  | 3000013 => ⟨[], [7696581402624]⟩
  | _ => ⟨[], []⟩
noncomputable def F37 (b : List Int) : Option ((Int × Int × Int × Int × Int × List Int × (List (Int × (Int × (Int × Int)))) × Int × (List (Int × (Int × Int))) × Int) × Int) :=
 bif decide (4096 < (b.length : Int)) then (
 some ((0, 0, 0, 0, 0, ([] : List Int), ([] : List (Int × (Int × (Int × Int)))), 0, ([] : List (Int × (Int × Int))), 0), 4))
 else (
 (F22 b).bind fun r1 =>
 lfp (fun (rec2 : (Int × Int × List (Int × (Int × (Int × Int))) × ((Int × (Int × (Int × (Int × (Int × List Int))))) × (Int × (List (Int × (Int × Int)) × Int)))) → Option ((Int × Int × Int × Int × Int × List Int × (List (Int × (Int × (Int × Int)))) × Int × (List (Int × (Int × Int))) × Int) × Int)) (x2 : Int × Int × List (Int × (Int × (Int × Int))) × ((Int × (Int × (Int × (Int × (Int × List Int))))) × (Int × (List (Int × (Int × Int)) × Int)))) =>
  bif decide (x2.2.1 < (r1.1.length : Int)) then (
  bif inb x2.2.1 r1.1.length then
  bif decide ((rd (.pair (.int .u64) (.slice 5 (.int .u8))) r1.1 x2.2.1).1 = 7) then (
  (F80 ((rd (.pair (.int .u64) (.slice 5 (.int .u8))) r1.1 x2.2.1).2)).bind fun r3 =>
  bif (!decide (r3.2 = 0)) then (
  some ((0, 0, 0, 0, 0, ([] : List Int), ([] : List (Int × (Int × (Int × Int)))), 0, ([] : List (Int × (Int × Int))), 0), 2))
  else (
  rec2 (x2.1, (IntKind.wrap .i64 (x2.2.1 + 1)), x2.2.2.1, ((x2.2.2.2.1.1, (x2.2.2.2.1.2.1, (x2.2.2.2.1.2.2.1, (x2.2.2.2.1.2.2.2.1, (x2.2.2.2.1.2.2.2.2.1, x2.2.2.2.1.2.2.2.2.2))))), (r3.1.1, (r3.1.2.1, r3.1.2.2))))))
  else (
  (F81 ((rd (.pair (.int .u64) (.slice 5 (.int .u8))) r1.1 x2.2.1).2)).bind fun r4 =>
  bif (!decide (r4.2 = 0)) then (
  some ((0, 0, 0, 0, 0, ([] : List Int), ([] : List (Int × (Int × (Int × Int)))), 0, ([] : List (Int × (Int × Int))), 0), 2))
  else (
  bif decide ((rd (.pair (.int .u64) (.slice 5 (.int .u8))) r1.1 x2.2.1).1 = 6) then (
  rec2 (x2.1, (IntKind.wrap .i64 (x2.2.1 + 1)), x2.2.2.1, ((x2.2.2.2.1.1, (x2.2.2.2.1.2.1, (x2.2.2.2.1.2.2.1, (x2.2.2.2.1.2.2.2.1, (x2.2.2.2.1.2.2.2.2.1, r4.1))))), (x2.2.2.2.2.1, (x2.2.2.2.2.2.1, x2.2.2.2.2.2.2)))))
  else (
  bif decide (16 ≤ (rd (.pair (.int .u64) (.slice 5 (.int .u8))) r1.1 x2.2.1).1) then (
  bif ((!decide ((r4.1.length : Int) = 4)) == false) then (
  bif inb 1 r4.1.length then
  bif decide (16 ≤ (rd (.int .u64) r4.1 1)) then (
  some ((0, 0, 0, 0, 0, ([] : List Int), ([] : List (Int × (Int × (Int × Int)))), 0, ([] : List (Int × (Int × Int))), 0), 2))
  else (
  bif inb 0 r4.1.length then
  bif inb 1 r4.1.length then
  bif inb 2 r4.1.length then
  bif inb 3 r4.1.length then
  (both (
  (fun o => both o (both o (both o o))) (
  (fun o => both o (both o o)) (
  (fun o => both o o) (
  bif decide ((x2.2.2.1.length + 1) * 32 ≤ LIM) then
  rec2 (x2.1, (IntKind.wrap .i64 (x2.2.1 + 1)), (x2.2.2.1 ++ ([((rd (.int .u64) r4.1 0), ((IntKind.wrap .i64 (rd (.int .u64) r4.1 1)), ((rd (.int .u64) r4.1 2), (rd (.int .u64) r4.1 3))))])), ((x2.2.2.2.1.1, (x2.2.2.2.1.2.1, (x2.2.2.2.1.2.2.1, (x2.2.2.2.1.2.2.2.1, (x2.2.2.2.1.2.2.2.2.1, x2.2.2.2.1.2.2.2.2.2))))), (x2.2.2.2.2.1, (x2.2.2.2.2.2.1, x2.2.2.2.2.2.2))))
  else none)))) (both (
  (both (
  (fun o => both o (both o o)) (
  (fun o => both o o) (
  bif decide ((x2.2.2.1.length + 1) * 32 ≤ LIM) then
  rec2 (x2.1, (IntKind.wrap .i64 (x2.2.1 + 1)), (x2.2.2.1 ++ ([((rd (.int .u64) r4.1 0), ((IntKind.wrap .i64 (rd (.int .u64) r4.1 1)), ((rd (.int .u64) r4.1 2), (rd (.int .u64) r4.1 3))))])), ((x2.2.2.2.1.1, (x2.2.2.2.1.2.1, (x2.2.2.2.1.2.2.1, (x2.2.2.2.1.2.2.2.1, (x2.2.2.2.1.2.2.2.2.1, x2.2.2.2.1.2.2.2.2.2))))), (x2.2.2.2.2.1, (x2.2.2.2.2.2.1, x2.2.2.2.2.2.2))))
  else none))) (both (
  (both (
  (fun o => both o o) (
  bif decide ((x2.2.2.1.length + 1) * 32 ≤ LIM) then
  rec2 (x2.1, (IntKind.wrap .i64 (x2.2.1 + 1)), (x2.2.2.1 ++ ([((rd (.int .u64) r4.1 0), ((IntKind.wrap .i64 (rd (.int .u64) r4.1 1)), ((rd (.int .u64) r4.1 2), (rd (.int .u64) r4.1 3))))])), ((x2.2.2.2.1.1, (x2.2.2.2.1.2.1, (x2.2.2.2.1.2.2.1, (x2.2.2.2.1.2.2.2.1, (x2.2.2.2.1.2.2.2.2.1, x2.2.2.2.1.2.2.2.2.2))))), (x2.2.2.2.2.1, (x2.2.2.2.2.2.1, x2.2.2.2.2.2.2))))
  else none)) (both (
  (both (
  bif decide ((x2.2.2.1.length + 1) * 32 ≤ LIM) then
  rec2 (x2.1, (IntKind.wrap .i64 (x2.2.1 + 1)), (x2.2.2.1 ++ ([((rd (.int .u64) r4.1 0), ((IntKind.wrap .i64 (rd (.int .u64) r4.1 1)), ((rd (.int .u64) r4.1 2), (rd (.int .u64) r4.1 3))))])), ((x2.2.2.2.1.1, (x2.2.2.2.1.2.1, (x2.2.2.2.1.2.2.1, (x2.2.2.2.1.2.2.2.1, (x2.2.2.2.1.2.2.2.2.1, x2.2.2.2.1.2.2.2.2.2))))), (x2.2.2.2.2.1, (x2.2.2.2.2.2.1, x2.2.2.2.2.2.2))))
  else none) (
  (both (
  bif decide ((x2.2.2.1.length + 1) * 32 ≤ LIM) then
  rec2 (x2.1, (IntKind.wrap .i64 (x2.2.1 + 1)), (x2.2.2.1 ++ ([((rd (.int .u64) r4.1 0), ((IntKind.wrap .i64 (rd (.int .u64) r4.1 1)), ((rd (.int .u64) r4.1 2), (rd (.int .u64) r4.1 3))))])), ((x2.2.2.2.1.1, (x2.2.2.2.1.2.1, (x2.2.2.2.1.2.2.1, (x2.2.2.2.1.2.2.2.1, (x2.2.2.2.1.2.2.2.2.1, x2.2.2.2.1.2.2.2.2.2))))), (x2.2.2.2.2.1, (x2.2.2.2.2.2.1, x2.2.2.2.2.2.2))))
  else none) (
  (fun o => both o o) (
  bif decide ((x2.2.2.1.length + 1) * 32 ≤ LIM) then
  rec2 (x2.1, (IntKind.wrap .i64 (x2.2.1 + 1)), (x2.2.2.1 ++ ([((rd (.int .u64) r4.1 0), ((IntKind.wrap .i64 (rd (.int .u64) r4.1 1)), ((rd (.int .u64) r4.1 2), (rd (.int .u64) r4.1 3))))])), ((x2.2.2.2.1.1, (x2.2.2.2.1.2.1, (x2.2.2.2.1.2.2.1, (x2.2.2.2.1.2.2.2.1, (x2.2.2.2.1.2.2.2.2.1, x2.2.2.2.1.2.2.2.2.2))))), (x2.2.2.2.2.1, (x2.2.2.2.2.2.1, x2.2.2.2.2.2.2))))
  else none)))))) (
  (both (
  bif decide ((x2.2.2.1.length + 1) * 32 ≤ LIM) then
  rec2 (x2.1, (IntKind.wrap .i64 (x2.2.1 + 1)), (x2.2.2.1 ++ ([((rd (.int .u64) r4.1 0), ((IntKind.wrap .i64 (rd (.int .u64) r4.1 1)), ((rd (.int .u64) r4.1 2), (rd (.int .u64) r4.1 3))))])), ((x2.2.2.2.1.1, (x2.2.2.2.1.2.1, (x2.2.2.2.1.2.2.1, (x2.2.2.2.1.2.2.2.1, (x2.2.2.2.1.2.2.2.2.1, x2.2.2.2.1.2.2.2.2.2))))), (x2.2.2.2.2.1, (x2.2.2.2.2.2.1, x2.2.2.2.2.2.2))))
  else none) (
  (both (
  bif decide ((x2.2.2.1.length + 1) * 32 ≤ LIM) then
  rec2 (x2.1, (IntKind.wrap .i64 (x2.2.1 + 1)), (x2.2.2.1 ++ ([((rd (.int .u64) r4.1 0), ((IntKind.wrap .i64 (rd (.int .u64) r4.1 1)), ((rd (.int .u64) r4.1 2), (rd (.int .u64) r4.1 3))))])), ((x2.2.2.2.1.1, (x2.2.2.2.1.2.1, (x2.2.2.2.1.2.2.1, (x2.2.2.2.1.2.2.2.1, (x2.2.2.2.1.2.2.2.2.1, x2.2.2.2.1.2.2.2.2.2))))), (x2.2.2.2.2.1, (x2.2.2.2.2.2.1, x2.2.2.2.2.2.2))))
  else none) (
  (fun o => both o o) (
  bif decide ((x2.2.2.1.length + 1) * 32 ≤ LIM) then
  rec2 (x2.1, (IntKind.wrap .i64 (x2.2.1 + 1)), (x2.2.2.1 ++ ([((rd (.int .u64) r4.1 0), ((IntKind.wrap .i64 (rd (.int .u64) r4.1 1)), ((rd (.int .u64) r4.1 2), (rd (.int .u64) r4.1 3))))])), ((x2.2.2.2.1.1, (x2.2.2.2.1.2.1, (x2.2.2.2.1.2.2.1, (x2.2.2.2.1.2.2.2.1, (x2.2.2.2.1.2.2.2.2.1, x2.2.2.2.1.2.2.2.2.2))))), (x2.2.2.2.2.1, (x2.2.2.2.2.2.1, x2.2.2.2.2.2.2))))
  else none))))))))) (both (
  (both (
  (fun o => both o o) (
  bif decide ((x2.2.2.1.length + 1) * 32 ≤ LIM) then
  rec2 (x2.1, (IntKind.wrap .i64 (x2.2.1 + 1)), (x2.2.2.1 ++ ([((rd (.int .u64) r4.1 0), ((IntKind.wrap .i64 (rd (.int .u64) r4.1 1)), ((rd (.int .u64) r4.1 2), (rd (.int .u64) r4.1 3))))])), ((x2.2.2.2.1.1, (x2.2.2.2.1.2.1, (x2.2.2.2.1.2.2.1, (x2.2.2.2.1.2.2.2.1, (x2.2.2.2.1.2.2.2.2.1, x2.2.2.2.1.2.2.2.2.2))))), (x2.2.2.2.2.1, (x2.2.2.2.2.2.1, x2.2.2.2.2.2.2))))
  else none)) (both (
  (both (
  bif decide ((x2.2.2.1.length + 1) * 32 ≤ LIM) then
  rec2 (x2.1, (IntKind.wrap .i64 (x2.2.1 + 1)), (x2.2.2.1 ++ ([((rd (.int .u64) r4.1 0), ((IntKind.wrap .i64 (rd (.int .u64) r4.1 1)), ((rd (.int .u64) r4.1 2), (rd (.int .u64) r4.1 3))))])), ((x2.2.2.2.1.1, (x2.2.2.2.1.2.1, (x2.2.2.2.1.2.2.1, (x2.2.2.2.1.2.2.2.1, (x2.2.2.2.1.2.2.2.2.1, x2.2.2.2.1.2.2.2.2.2))))), (x2.2.2.2.2.1, (x2.2.2.2.2.2.1, x2.2.2.2.2.2.2))))
  else none) (
  (both (
  bif decide ((x2.2.2.1.length + 1) * 32 ≤ LIM) then
  rec2 (x2.1, (IntKind.wrap .i64 (x2.2.1 + 1)), (x2.2.2.1 ++ ([((rd (.int .u64) r4.1 0), ((IntKind.wrap .i64 (rd (.int .u64) r4.1 1)), ((rd (.int .u64) r4.1 2), (rd (.int .u64) r4.1 3))))])), ((x2.2.2.2.1.1, (x2.2.2.2.1.2.1, (x2.2.2.2.1.2.2.1, (x2.2.2.2.1.2.2.2.1, (x2.2.2.2.1.2.2.2.2.1, x2.2.2.2.1.2.2.2.2.2))))), (x2.2.2.2.2.1, (x2.2.2.2.2.2.1, x2.2.2.2.2.2.2))))
  else none) (
  (fun o => both o o) (
  bif decide ((x2.2.2.1.length + 1) * 32 ≤ LIM) then
  rec2 (x2.1, (IntKind.wrap .i64 (x2.2.1 + 1)), (x2.2.2.1 ++ ([((rd (.int .u64) r4.1 0), ((IntKind.wrap .i64 (rd (.int .u64) r4.1 1)), ((rd (.int .u64) r4.1 2), (rd (.int .u64) r4.1 3))))])), ((x2.2.2.2.1.1, (x2.2.2.2.1.2.1, (x2.2.2.2.1.2.2.1, (x2.2.2.2.1.2.2.2.1, (x2.2.2.2.1.2.2.2.2.1, x2.2.2.2.1.2.2.2.2.2))))), (x2.2.2.2.2.1, (x2.2.2.2.2.2.1, x2.2.2.2.2.2.2))))
  else none)))))) (
  (both (
  bif decide ((x2.2.2.1.length + 1) * 32 ≤ LIM) then
  rec2 (x2.1, (IntKind.wrap .i64 (x2.2.1 + 1)), (x2.2.2.1 ++ ([((rd (.int .u64) r4.1 0), ((IntKind.wrap .i64 (rd (.int .u64) r4.1 1)), ((rd (.int .u64) r4.1 2), (rd (.int .u64) r4.1 3))))])), ((x2.2.2.2.1.1, (x2.2.2.2.1.2.1, (x2.2.2.2.1.2.2.1, (x2.2.2.2.1.2.2.2.1, (x2.2.2.2.1.2.2.2.2.1, x2.2.2.2.1.2.2.2.2.2))))), (x2.2.2.2.2.1, (x2.2.2.2.2.2.1, x2.2.2.2.2.2.2))))
  else none) (
  (both (
  bif decide ((x2.2.2.1.length + 1) * 32 ≤ LIM) then
  rec2 (x2.1, (IntKind.wrap .i64 (x2.2.1 + 1)), (x2.2.2.1 ++ ([((rd (.int .u64) r4.1 0), ((IntKind.wrap .i64 (rd (.int .u64) r4.1 1)), ((rd (.int .u64) r4.1 2), (rd (.int .u64) r4.1 3))))])), ((x2.2.2.2.1.1, (x2.2.2.2.1.2.1, (x2.2.2.2.1.2.2.1, (x2.2.2.2.1.2.2.2.1, (x2.2.2.2.1.2.2.2.2.1, x2.2.2.2.1.2.2.2.2.2))))), (x2.2.2.2.2.1, (x2.2.2.2.2.2.1, x2.2.2.2.2.2.2))))
  else none) (
  (fun o => both o o) (
  bif decide ((x2.2.2.1.length + 1) * 32 ≤ LIM) then
  rec2 (x2.1, (IntKind.wrap .i64 (x2.2.1 + 1)), (x2.2.2.1 ++ ([((rd (.int .u64) r4.1 0), ((IntKind.wrap .i64 (rd (.int .u64) r4.1 1)), ((rd (.int .u64) r4.1 2), (rd (.int .u64) r4.1 3))))])), ((x2.2.2.2.1.1, (x2.2.2.2.1.2.1, (x2.2.2.2.1.2.2.1, (x2.2.2.2.1.2.2.2.1, (x2.2.2.2.1.2.2.2.2.1, x2.2.2.2.1.2.2.2.2.2))))), (x2.2.2.2.2.1, (x2.2.2.2.2.2.1, x2.2.2.2.2.2.2))))
  else none))))))))) (
  (both (
  (fun o => both o o) (
  bif decide ((x2.2.2.1.length + 1) * 32 ≤ LIM) then
  rec2 (x2.1, (IntKind.wrap .i64 (x2.2.1 + 1)), (x2.2.2.1 ++ ([((rd (.int .u64) r4.1 0), ((IntKind.wrap .i64 (rd (.int .u64) r4.1 1)), ((rd (.int .u64) r4.1 2), (rd (.int .u64) r4.1 3))))])), ((x2.2.2.2.1.1, (x2.2.2.2.1.2.1, (x2.2.2.2.1.2.2.1, (x2.2.2.2.1.2.2.2.1, (x2.2.2.2.1.2.2.2.2.1, x2.2.2.2.1.2.2.2.2.2))))), (x2.2.2.2.2.1, (x2.2.2.2.2.2.1, x2.2.2.2.2.2.2))))
  else none)) (both (
  (both (
  bif decide ((x2.2.2.1.length + 1) * 32 ≤ LIM) then
  rec2 (x2.1, (IntKind.wrap .i64 (x2.2.1 + 1)), (x2.2.2.1 ++ ([((rd (.int .u64) r4.1 0), ((IntKind.wrap .i64 (rd (.int .u64) r4.1 1)), ((rd (.int .u64) r4.1 2), (rd (.int .u64) r4.1 3))))])), ((x2.2.2.2.1.1, (x2.2.2.2.1.2.1, (x2.2.2.2.1.2.2.1, (x2.2.2.2.1.2.2.2.1, (x2.2.2.2.1.2.2.2.2.1, x2.2.2.2.1.2.2.2.2.2))))), (x2.2.2.2.2.1, (x2.2.2.2.2.2.1, x2.2.2.2.2.2.2))))
  else none) (
  (both (
  bif decide ((x2.2.2.1.length + 1) * 32 ≤ LIM) then
  rec2 (x2.1, (IntKind.wrap .i64 (x2.2.1 + 1)), (x2.2.2.1 ++ ([((rd (.int .u64) r4.1 0), ((IntKind.wrap .i64 (rd (.int .u64) r4.1 1)), ((rd (.int .u64) r4.1 2), (rd (.int .u64) r4.1 3))))])), ((x2.2.2.2.1.1, (x2.2.2.2.1.2.1, (x2.2.2.2.1.2.2.1, (x2.2.2.2.1.2.2.2.1, (x2.2.2.2.1.2.2.2.2.1, x2.2.2.2.1.2.2.2.2.2))))), (x2.2.2.2.2.1, (x2.2.2.2.2.2.1, x2.2.2.2.2.2.2))))
  else none) (
  (fun o => both o o) (
  bif decide ((x2.2.2.1.length + 1) * 32 ≤ LIM) then
  rec2 (x2.1, (IntKind.wrap .i64 (x2.2.1 + 1)), (x2.2.2.1 ++ ([((rd (.int .u64) r4.1 0), ((IntKind.wrap .i64 (rd (.int .u64) r4.1 1)), ((rd (.int .u64) r4.1 2), (rd (.int .u64) r4.1 3))))])), ((x2.2.2.2.1.1, (x2.2.2.2.1.2.1, (x2.2.2.2.1.2.2.1, (x2.2.2.2.1.2.2.2.1, (x2.2.2.2.1.2.2.2.2.1, x2.2.2.2.1.2.2.2.2.2))))), (x2.2.2.2.2.1, (x2.2.2.2.2.2.1, x2.2.2.2.2.2.2))))
  else none)))))) (
  (both (
  bif decide ((x2.2.2.1.length + 1) * 32 ≤ LIM) then
  rec2 (x2.1, (IntKind.wrap .i64 (x2.2.1 + 1)), (x2.2.2.1 ++ ([((rd (.int .u64) r4.1 0), ((IntKind.wrap .i64 (rd (.int .u64) r4.1 1)), ((rd (.int .u64) r4.1 2), (rd (.int .u64) r4.1 3))))])), ((x2.2.2.2.1.1, (x2.2.2.2.1.2.1, (x2.2.2.2.1.2.2.1, (x2.2.2.2.1.2.2.2.1, (x2.2.2.2.1.2.2.2.2.1, x2.2.2.2.1.2.2.2.2.2))))), (x2.2.2.2.2.1, (x2.2.2.2.2.2.1, x2.2.2.2.2.2.2))))
  else none) (
  (both (
  bif decide ((x2.2.2.1.length + 1) * 32 ≤ LIM) then
  rec2 (x2.1, (IntKind.wrap .i64 (x2.2.1 + 1)), (x2.2.2.1 ++ ([((rd (.int .u64) r4.1 0), ((IntKind.wrap .i64 (rd (.int .u64) r4.1 1)), ((rd (.int .u64) r4.1 2), (rd (.int .u64) r4.1 3))))])), ((x2.2.2.2.1.1, (x2.2.2.2.1.2.1, (x2.2.2.2.1.2.2.1, (x2.2.2.2.1.2.2.2.1, (x2.2.2.2.1.2.2.2.2.1, x2.2.2.2.1.2.2.2.2.2))))), (x2.2.2.2.2.1, (x2.2.2.2.2.2.1, x2.2.2.2.2.2.2))))
  else none) (
  (fun o => both o o) (
  bif decide ((x2.2.2.1.length + 1) * 32 ≤ LIM) then
  rec2 (x2.1, (IntKind.wrap .i64 (x2.2.1 + 1)), (x2.2.2.1 ++ ([((rd (.int .u64) r4.1 0), ((IntKind.wrap .i64 (rd (.int .u64) r4.1 1)), ((rd (.int .u64) r4.1 2), (rd (.int .u64) r4.1 3))))])), ((x2.2.2.2.1.1, (x2.2.2.2.1.2.1, (x2.2.2.2.1.2.2.1, (x2.2.2.2.1.2.2.2.1, (x2.2.2.2.1.2.2.2.2.1, x2.2.2.2.1.2.2.2.2.2))))), (x2.2.2.2.2.1, (x2.2.2.2.2.2.1, x2.2.2.2.2.2.2))))
  else none))))))))))))) (both (
  (both (
  (fun o => both o (both o o)) (
  (fun o => both o o) (
  bif decide ((x2.2.2.1.length + 1) * 32 ≤ LIM) then
  rec2 (x2.1, (IntKind.wrap .i64 (x2.2.1 + 1)), (x2.2.2.1 ++ ([((rd (.int .u64) r4.1 0), ((IntKind.wrap .i64 (rd (.int .u64) r4.1 1)), ((rd (.int .u64) r4.1 2), (rd (.int .u64) r4.1 3))))])), ((x2.2.2.2.1.1, (x2.2.2.2.1.2.1, (x2.2.2.2.1.2.2.1, (x2.2.2.2.1.2.2.2.1, (x2.2.2.2.1.2.2.2.2.1, x2.2.2.2.1.2.2.2.2.2))))), (x2.2.2.2.2.1, (x2.2.2.2.2.2.1, x2.2.2.2.2.2.2))))
  else none))) (both (
  (both (
  (fun o => both o o) (
  bif decide ((x2.2.2.1.length + 1) * 32 ≤ LIM) then
  rec2 (x2.1, (IntKind.wrap .i64 (x2.2.1 + 1)), (x2.2.2.1 ++ ([((rd (.int .u64) r4.1 0), ((IntKind.wrap .i64 (rd (.int .u64) r4.1 1)), ((rd (.int .u64) r4.1 2), (rd (.int .u64) r4.1 3))))])), ((x2.2.2.2.1.1, (x2.2.2.2.1.2.1, (x2.2.2.2.1.2.2.1, (x2.2.2.2.1.2.2.2.1, (x2.2.2.2.1.2.2.2.2.1, x2.2.2.2.1.2.2.2.2.2))))), (x2.2.2.2.2.1, (x2.2.2.2.2.2.1, x2.2.2.2.2.2.2))))
  else none)) (both (
  (both (
  bif decide ((x2.2.2.1.length + 1) * 32 ≤ LIM) then
  rec2 (x2.1, (IntKind.wrap .i64 (x2.2.1 + 1)), (x2.2.2.1 ++ ([((rd (.int .u64) r4.1 0), ((IntKind.wrap .i64 (rd (.int .u64) r4.1 1)), ((rd (.int .u64) r4.1 2), (rd (.int .u64) r4.1 3))))])), ((x2.2.2.2.1.1, (x2.2.2.2.1.2.1, (x2.2.2.2.1.2.2.1, (x2.2.2.2.1.2.2.2.1, (x2.2.2.2.1.2.2.2.2.1, x2.2.2.2.1.2.2.2.2.2))))), (x2.2.2.2.2.1, (x2.2.2.2.2.2.1, x2.2.2.2.2.2.2))))
  else none) (
  (both (
  bif decide ((x2.2.2.1.length + 1) * 32 ≤ LIM) then
  rec2 (x2.1, (IntKind.wrap .i64 (x2.2.1 + 1)), (x2.2.2.1 ++ ([((rd (.int .u64) r4.1 0), ((IntKind.wrap .i64 (rd (.int .u64) r4.1 1)), ((rd (.int .u64) r4.1 2), (rd (.int .u64) r4.1 3))))])), ((x2.2.2.2.1.1, (x2.2.2.2.1.2.1, (x2.2.2.2.1.2.2.1, (x2.2.2.2.1.2.2.2.1, (x2.2.2.2.1.2.2.2.2.1, x2.2.2.2.1.2.2.2.2.2))))), (x2.2.2.2.2.1, (x2.2.2.2.2.2.1, x2.2.2.2.2.2.2))))
  else none) (
  (fun o => both o o) (
  bif decide ((x2.2.2.1.length + 1) * 32 ≤ LIM) then
  rec2 (x2.1, (IntKind.wrap .i64 (x2.2.1 + 1)), (x2.2.2.1 ++ ([((rd (.int .u64) r4.1 0), ((IntKind.wrap .i64 (rd (.int .u64) r4.1 1)), ((rd (.int .u64) r4.1 2), (rd (.int .u64) r4.1 3))))])), ((x2.2.2.2.1.1, (x2.2.2.2.1.2.1, (x2.2.2.2.1.2.2.1, (x2.2.2.2.1.2.2.2.1, (x2.2.2.2.1.2.2.2.2.1, x2.2.2.2.1.2.2.2.2.2))))), (x2.2.2.2.2.1, (x2.2.2.2.2.2.1, x2.2.2.2.2.2.2))))
  else none)))))) (
  (both (
  bif decide ((x2.2.2.1.length + 1) * 32 ≤ LIM) then
  rec2 (x2.1, (IntKind.wrap .i64 (x2.2.1 + 1)), (x2.2.2.1 ++ ([((rd (.int .u64) r4.1 0), ((IntKind.wrap .i64 (rd (.int .u64) r4.1 1)), ((rd (.int .u64) r4.1 2), (rd (.int .u64) r4.1 3))))])), ((x2.2.2.2.1.1, (x2.2.2.2.1.2.1, (x2.2.2.2.1.2.2.1, (x2.2.2.2.1.2.2.2.1, (x2.2.2.2.1.2.2.2.2.1, x2.2.2.2.1.2.2.2.2.2))))), (x2.2.2.2.2.1, (x2.2.2.2.2.2.1, x2.2.2.2.2.2.2))))
  else none) (
  (both (
  bif decide ((x2.2.2.1.length + 1) * 32 ≤ LIM) then
  rec2 (x2.1, (IntKind.wrap .i64 (x2.2.1 + 1)), (x2.2.2.1 ++ ([((rd (.int .u64) r4.1 0), ((IntKind.wrap .i64 (rd (.int .u64) r4.1 1)), ((rd (.int .u64) r4.1 2), (rd (.int .u64) r4.1 3))))])), ((x2.2.2.2.1.1, (x2.2.2.2.1.2.1, (x2.2.2.2.1.2.2.1, (x2.2.2.2.1.2.2.2.1, (x2.2.2.2.1.2.2.2.2.1, x2.2.2.2.1.2.2.2.2.2))))), (x2.2.2.2.2.1, (x2.2.2.2.2.2.1, x2.2.2.2.2.2.2))))
  else none) (
  (fun o => both o o) (
  bif decide ((x2.2.2.1.length + 1) * 32 ≤ LIM) then
  rec2 (x2.1, (IntKind.wrap .i64 (x2.2.1 + 1)), (x2.2.2.1 ++ ([((rd (.int .u64) r4.1 0), ((IntKind.wrap .i64 (rd (.int .u64) r4.1 1)), ((rd (.int .u64) r4.1 2), (rd (.int .u64) r4.1 3))))])), ((x2.2.2.2.1.1, (x2.2.2.2.1.2.1, (x2.2.2.2.1.2.2.1, (x2.2.2.2.1.2.2.2.1, (x2.2.2.2.1.2.2.2.2.1, x2.2.2.2.1.2.2.2.2.2))))), (x2.2.2.2.2.1, (x2.2.2.2.2.2.1, x2.2.2.2.2.2.2))))
  else none))))))))) (both (
  (both (
  (fun o => both o o) (
  bif decide ((x2.2.2.1.length + 1) * 32 ≤ LIM) then
  rec2 (x2.1, (IntKind.wrap .i64 (x2.2.1 + 1)), (x2.2.2.1 ++ ([((rd (.int .u64) r4.1 0), ((IntKind.wrap .i64 (rd (.int .u64) r4.1 1)), ((rd (.int .u64) r4.1 2), (rd (.int .u64) r4.1 3))))])), ((x2.2.2.2.1.1, (x2.2.2.2.1.2.1, (x2.2.2.2.1.2.2.1, (x2.2.2.2.1.2.2.2.1, (x2.2.2.2.1.2.2.2.2.1, x2.2.2.2.1.2.2.2.2.2))))), (x2.2.2.2.2.1, (x2.2.2.2.2.2.1, x2.2.2.2.2.2.2))))
  else none)) (both (
  (both (
  bif decide ((x2.2.2.1.length + 1) * 32 ≤ LIM) then
  rec2 (x2.1, (IntKind.wrap .i64 (x2.2.1 + 1)), (x2.2.2.1 ++ ([((rd (.int .u64) r4.1 0), ((IntKind.wrap .i64 (rd (.int .u64) r4.1 1)), ((rd (.int .u64) r4.1 2), (rd (.int .u64) r4.1 3))))])), ((x2.2.2.2.1.1, (x2.2.2.2.1.2.1, (x2.2.2.2.1.2.2.1, (x2.2.2.2.1.2.2.2.1, (x2.2.2.2.1.2.2.2.2.1, x2.2.2.2.1.2.2.2.2.2))))), (x2.2.2.2.2.1, (x2.2.2.2.2.2.1, x2.2.2.2.2.2.2))))
  else none) (
  (both (
  bif decide ((x2.2.2.1.length + 1) * 32 ≤ LIM) then
  rec2 (x2.1, (IntKind.wrap .i64 (x2.2.1 + 1)), (x2.2.2.1 ++ ([((rd (.int .u64) r4.1 0), ((IntKind.wrap .i64 (rd (.int .u64) r4.1 1)), ((rd (.int .u64) r4.1 2), (rd (.int .u64) r4.1 3))))])), ((x2.2.2.2.1.1, (x2.2.2.2.1.2.1, (x2.2.2.2.1.2.2.1, (x2.2.2.2.1.2.2.2.1, (x2.2.2.2.1.2.2.2.2.1, x2.2.2.2.1.2.2.2.2.2))))), (x2.2.2.2.2.1, (x2.2.2.2.2.2.1, x2.2.2.2.2.2.2))))
  else none) (
  (fun o => both o o) (
  bif decide ((x2.2.2.1.length + 1) * 32 ≤ LIM) then
  rec2 (x2.1, (IntKind.wrap .i64 (x2.2.1 + 1)), (x2.2.2.1 ++ ([((rd (.int .u64) r4.1 0), ((IntKind.wrap .i64 (rd (.int .u64) r4.1 1)), ((rd (.int .u64) r4.1 2), (rd (.int .u64) r4.1 3))))])), ((x2.2.2.2.1.1, (x2.2.2.2.1.2.1, (x2.2.2.2.1.2.2.1, (x2.2.2.2.1.2.2.2.1, (x2.2.2.2.1.2.2.2.2.1, x2.2.2.2.1.2.2.2.2.2))))), (x2.2.2.2.2.1, (x2.2.2.2.2.2.1, x2.2.2.2.2.2.2))))
  else none)))))) (
  (both (
  bif decide ((x2.2.2.1.length + 1) * 32 ≤ LIM) then
  rec2 (x2.1, (IntKind.wrap .i64 (x2.2.1 + 1)), (x2.2.2.1 ++ ([((rd (.int .u64) r4.1 0), ((IntKind.wrap .i64 (rd (.int .u64) r4.1 1)), ((rd (.int .u64) r4.1 2), (rd (.int .u64) r4.1 3))))])), ((x2.2.2.2.1.1, (x2.2.2.2.1.2.1, (x2.2.2.2.1.2.2.1, (x2.2.2.2.1.2.2.2.1, (x2.2.2.2.1.2.2.2.2.1, x2.2.2.2.1.2.2.2.2.2))))), (x2.2.2.2.2.1, (x2.2.2.2.2.2.1, x2.2.2.2.2.2.2))))
  else none) (
  (both (
  bif decide ((x2.2.2.1.length + 1) * 32 ≤ LIM) then
  rec2 (x2.1, (IntKind.wrap .i64 (x2.2.1 + 1)), (x2.2.2.1 ++ ([((rd (.int .u64) r4.1 0), ((IntKind.wrap .i64 (rd (.int .u64) r4.1 1)), ((rd (.int .u64) r4.1 2), (rd (.int .u64) r4.1 3))))])), ((x2.2.2.2.1.1, (x2.2.2.2.1.2.1, (x2.2.2.2.1.2.2.1, (x2.2.2.2.1.2.2.2.1, (x2.2.2.2.1.2.2.2.2.1, x2.2.2.2.1.2.2.2.2.2))))), (x2.2.2.2.2.1, (x2.2.2.2.2.2.1, x2.2.2.2.2.2.2))))
  else none) (
  (fun o => both o o) (
  bif decide ((x2.2.2.1.length + 1) * 32 ≤ LIM) then
  rec2 (x2.1, (IntKind.wrap .i64 (x2.2.1 + 1)), (x2.2.2.1 ++ ([((rd (.int .u64) r4.1 0), ((IntKind.wrap .i64 (rd (.int .u64) r4.1 1)), ((rd (.int .u64) r4.1 2), (rd (.int .u64) r4.1 3))))])), ((x2.2.2.2.1.1, (x2.2.2.2.1.2.1, (x2.2.2.2.1.2.2.1, (x2.2.2.2.1.2.2.2.1, (x2.2.2.2.1.2.2.2.2.1, x2.2.2.2.1.2.2.2.2.2))))), (x2.2.2.2.2.1, (x2.2.2.2.2.2.1, x2.2.2.2.2.2.2))))
  else none))))))))) (
  (both (
  (fun o => both o o) (
  bif decide ((x2.2.2.1.length + 1) * 32 ≤ LIM) then
  rec2 (x2.1, (IntKind.wrap .i64 (x2.2.1 + 1)), (x2.2.2.1 ++ ([((rd (.int .u64) r4.1 0), ((IntKind.wrap .i64 (rd (.int .u64) r4.1 1)), ((rd (.int .u64) r4.1 2), (rd (.int .u64) r4.1 3))))])), ((x2.2.2.2.1.1, (x2.2.2.2.1.2.1, (x2.2.2.2.1.2.2.1, (x2.2.2.2.1.2.2.2.1, (x2.2.2.2.1.2.2.2.2.1, x2.2.2.2.1.2.2.2.2.2))))), (x2.2.2.2.2.1, (x2.2.2.2.2.2.1, x2.2.2.2.2.2.2))))
  else none)) (both (
  (both (
  bif decide ((x2.2.2.1.length + 1) * 32 ≤ LIM) then
  rec2 (x2.1, (IntKind.wrap .i64 (x2.2.1 + 1)), (x2.2.2.1 ++ ([((rd (.int .u64) r4.1 0), ((IntKind.wrap .i64 (rd (.int .u64) r4.1 1)), ((rd (.int .u64) r4.1 2), (rd (.int .u64) r4.1 3))))])), ((x2.2.2.2.1.1, (x2.2.2.2.1.2.1, (x2.2.2.2.1.2.2.1, (x2.2.2.2.1.2.2.2.1, (x2.2.2.2.1.2.2.2.2.1, x2.2.2.2.1.2.2.2.2.2))))), (x2.2.2.2.2.1, (x2.2.2.2.2.2.1, x2.2.2.2.2.2.2))))
  else none) (
  (both (
  bif decide ((x2.2.2.1.length + 1) * 32 ≤ LIM) then
  rec2 (x2.1, (IntKind.wrap .i64 (x2.2.1 + 1)), (x2.2.2.1 ++ ([((rd (.int .u64) r4.1 0), ((IntKind.wrap .i64 (rd (.int .u64) r4.1 1)), ((rd (.int .u64) r4.1 2), (rd (.int .u64) r4.1 3))))])), ((x2.2.2.2.1.1, (x2.2.2.2.1.2.1, (x2.2.2.2.1.2.2.1, (x2.2.2.2.1.2.2.2.1, (x2.2.2.2.1.2.2.2.2.1, x2.2.2.2.1.2.2.2.2.2))))), (x2.2.2.2.2.1, (x2.2.2.2.2.2.1, x2.2.2.2.2.2.2))))
  else none) (
  (fun o => both o o) (
  bif decide ((x2.2.2.1.length + 1) * 32 ≤ LIM) then
  rec2 (x2.1, (IntKind.wrap .i64 (x2.2.1 + 1)), (x2.2.2.1 ++ ([((rd (.int .u64) r4.1 0), ((IntKind.wrap .i64 (rd (.int .u64) r4.1 1)), ((rd (.int .u64) r4.1 2), (rd (.int .u64) r4.1 3))))])), ((x2.2.2.2.1.1, (x2.2.2.2.1.2.1, (x2.2.2.2.1.2.2.1, (x2.2.2.2.1.2.2.2.1, (x2.2.2.2.1.2.2.2.2.1, x2.2.2.2.1.2.2.2.2.2))))), (x2.2.2.2.2.1, (x2.2.2.2.2.2.1, x2.2.2.2.2.2.2))))
  else none)))))) (
  (both (
  bif decide ((x2.2.2.1.length + 1) * 32 ≤ LIM) then
  rec2 (x2.1, (IntKind.wrap .i64 (x2.2.1 + 1)), (x2.2.2.1 ++ ([((rd (.int .u64) r4.1 0), ((IntKind.wrap .i64 (rd (.int .u64) r4.1 1)), ((rd (.int .u64) r4.1 2), (rd (.int .u64) r4.1 3))))])), ((x2.2.2.2.1.1, (x2.2.2.2.1.2.1, (x2.2.2.2.1.2.2.1, (x2.2.2.2.1.2.2.2.1, (x2.2.2.2.1.2.2.2.2.1, x2.2.2.2.1.2.2.2.2.2))))), (x2.2.2.2.2.1, (x2.2.2.2.2.2.1, x2.2.2.2.2.2.2))))
  else none) (
  (both (
  bif decide ((x2.2.2.1.length + 1) * 32 ≤ LIM) then
  rec2 (x2.1, (IntKind.wrap .i64 (x2.2.1 + 1)), (x2.2.2.1 ++ ([((rd (.int .u64) r4.1 0), ((IntKind.wrap .i64 (rd (.int .u64) r4.1 1)), ((rd (.int .u64) r4.1 2), (rd (.int .u64) r4.1 3))))])), ((x2.2.2.2.1.1, (x2.2.2.2.1.2.1, (x2.2.2.2.1.2.2.1, (x2.2.2.2.1.2.2.2.1, (x2.2.2.2.1.2.2.2.2.1, x2.2.2.2.1.2.2.2.2.2))))), (x2.2.2.2.2.1, (x2.2.2.2.2.2.1, x2.2.2.2.2.2.2))))
  else none) (
  (fun o => both o o) (
  bif decide ((x2.2.2.1.length + 1) * 32 ≤ LIM) then
  rec2 (x2.1, (IntKind.wrap .i64 (x2.2.1 + 1)), (x2.2.2.1 ++ ([((rd (.int .u64) r4.1 0), ((IntKind.wrap .i64 (rd (.int .u64) r4.1 1)), ((rd (.int .u64) r4.1 2), (rd (.int .u64) r4.1 3))))])), ((x2.2.2.2.1.1, (x2.2.2.2.1.2.1, (x2.2.2.2.1.2.2.1, (x2.2.2.2.1.2.2.2.1, (x2.2.2.2.1.2.2.2.2.1, x2.2.2.2.1.2.2.2.2.2))))), (x2.2.2.2.2.1, (x2.2.2.2.2.2.1, x2.2.2.2.2.2.2))))
  else none))))))))))))) (both (
  (both (
  (fun o => both o (both o o)) (
  (fun o => both o o) (
  bif decide ((x2.2.2.1.length + 1) * 32 ≤ LIM) then
  rec2 (x2.1, (IntKind.wrap .i64 (x2.2.1 + 1)), (x2.2.2.1 ++ ([((rd (.int .u64) r4.1 0), ((IntKind.wrap .i64 (rd (.int .u64) r4.1 1)), ((rd (.int .u64) r4.1 2), (rd (.int .u64) r4.1 3))))])), ((x2.2.2.2.1.1, (x2.2.2.2.1.2.1, (x2.2.2.2.1.2.2.1, (x2.2.2.2.1.2.2.2.1, (x2.2.2.2.1.2.2.2.2.1, x2.2.2.2.1.2.2.2.2.2))))), (x2.2.2.2.2.1, (x2.2.2.2.2.2.1, x2.2.2.2.2.2.2))))
  else none))) (both (
  (both (
  (fun o => both o o) (
  bif decide ((x2.2.2.1.length + 1) * 32 ≤ LIM) then
  rec2 (x2.1, (IntKind.wrap .i64 (x2.2.1 + 1)), (x2.2.2.1 ++ ([((rd (.int .u64) r4.1 0), ((IntKind.wrap .i64 (rd (.int .u64) r4.1 1)), ((rd (.int .u64) r4.1 2), (rd (.int .u64) r4.1 3))))])), ((x2.2.2.2.1.1, (x2.2.2.2.1.2.1, (x2.2.2.2.1.2.2.1, (x2.2.2.2.1.2.2.2.1, (x2.2.2.2.1.2.2.2.2.1, x2.2.2.2.1.2.2.2.2.2))))), (x2.2.2.2.2.1, (x2.2.2.2.2.2.1, x2.2.2.2.2.2.2))))
  else none)) (both (
  (both (
  bif decide ((x2.2.2.1.length + 1) * 32 ≤ LIM) then
  rec2 (x2.1, (IntKind.wrap .i64 (x2.2.1 + 1)), (x2.2.2.1 ++ ([((rd (.int .u64) r4.1 0), ((IntKind.wrap .i64 (rd (.int .u64) r4.1 1)), ((rd (.int .u64) r4.1 2), (rd (.int .u64) r4.1 3))))])), ((x2.2.2.2.1.1, (x2.2.2.2.1.2.1, (x2.2.2.2.1.2.2.1, (x2.2.2.2.1.2.2.2.1, (x2.2.2.2.1.2.2.2.2.1, x2.2.2.2.1.2.2.2.2.2))))), (x2.2.2.2.2.1, (x2.2.2.2.2.2.1, x2.2.2.2.2.2.2))))
  else none) (
  (both (
  bif decide ((x2.2.2.1.length + 1) * 32 ≤ LIM) then
  rec2 (x2.1, (IntKind.wrap .i64 (x2.2.1 + 1)), (x2.2.2.1 ++ ([((rd (.int .u64) r4.1 0), ((IntKind.wrap .i64 (rd (.int .u64) r4.1 1)), ((rd (.int .u64) r4.1 2), (rd (.int .u64) r4.1 3))))])), ((x2.2.2.2.1.1, (x2.2.2.2.1.2.1, (x2.2.2.2.1.2.2.1, (x2.2.2.2.1.2.2.2.1, (x2.2.2.2.1.2.2.2.2.1, x2.2.2.2.1.2.2.2.2.2))))), (x2.2.2.2.2.1, (x2.2.2.2.2.2.1, x2.2.2.2.2.2.2))))
  else none) (
  (fun o => both o o) (
  bif decide ((x2.2.2.1.length + 1) * 32 ≤ LIM) then
  rec2 (x2.1, (IntKind.wrap .i64 (x2.2.1 + 1)), (x2.2.2.1 ++ ([((rd (.int .u64) r4.1 0), ((IntKind.wrap .i64 (rd (.int .u64) r4.1 1)), ((rd (.int .u64) r4.1 2), (rd (.int .u64) r4.1 3))))])), ((x2.2.2.2.1.1, (x2.2.2.2.1.2.1, (x2.2.2.2.1.2.2.1, (x2.2.2.2.1.2.2.2.1, (x2.2.2.2.1.2.2.2.2.1, x2.2.2.2.1.2.2.2.2.2))))), (x2.2.2.2.2.1, (x2.2.2.2.2.2.1, x2.2.2.2.2.2.2))))
  else none)))))) (
  (both (
  bif decide ((x2.2.2.1.length + 1) * 32 ≤ LIM) then
  rec2 (x2.1, (IntKind.wrap .i64 (x2.2.1 + 1)), (x2.2.2.1 ++ ([((rd (.int .u64) r4.1 0), ((IntKind.wrap .i64 (rd (.int .u64) r4.1 1)), ((rd (.int .u64) r4.1 2), (rd (.int .u64) r4.1 3))))])), ((x2.2.2.2.1.1, (x2.2.2.2.1.2.1, (x2.2.2.2.1.2.2.1, (x2.2.2.2.1.2.2.2.1, (x2.2.2.2.1.2.2.2.2.1, x2.2.2.2.1.2.2.2.2.2))))), (x2.2.2.2.2.1, (x2.2.2.2.2.2.1, x2.2.2.2.2.2.2))))
  else none) (
  (both (
  bif decide ((x2.2.2.1.length + 1) * 32 ≤ LIM) then
  rec2 (x2.1, (IntKind.wrap .i64 (x2.2.1 + 1)), (x2.2.2.1 ++ ([((rd (.int .u64) r4.1 0), ((IntKind.wrap .i64 (rd (.int .u64) r4.1 1)), ((rd (.int .u64) r4.1 2), (rd (.int .u64) r4.1 3))))])), ((x2.2.2.2.1.1, (x2.2.2.2.1.2.1, (x2.2.2.2.1.2.2.1, (x2.2.2.2.1.2.2.2.1, (x2.2.2.2.1.2.2.2.2.1, x2.2.2.2.1.2.2.2.2.2))))), (x2.2.2.2.2.1, (x2.2.2.2.2.2.1, x2.2.2.2.2.2.2))))
  else none) (
  (fun o => both o o) (
  bif decide ((x2.2.2.1.length + 1) * 32 ≤ LIM) then
  rec2 (x2.1, (IntKind.wrap .i64 (x2.2.1 + 1)), (x2.2.2.1 ++ ([((rd (.int .u64) r4.1 0), ((IntKind.wrap .i64 (rd (.int .u64) r4.1 1)), ((rd (.int .u64) r4.1 2), (rd (.int .u64) r4.1 3))))])), ((x2.2.2.2.1.1, (x2.2.2.2.1.2.1, (x2.2.2.2.1.2.2.1, (x2.2.2.2.1.2.2.2.1, (x2.2.2.2.1.2.2.2.2.1, x2.2.2.2.1.2.2.2.2.2))))), (x2.2.2.2.2.1, (x2.2.2.2.2.2.1, x2.2.2.2.2.2.2))))
  else none))))))))) (both (
  (both (
  (fun o => both o o) (
  bif decide ((x2.2.2.1.length + 1) * 32 ≤ LIM) then
  rec2 (x2.1, (IntKind.wrap .i64 (x2.2.1 + 1)), (x2.2.2.1 ++ ([((rd (.int .u64) r4.1 0), ((IntKind.wrap .i64 (rd (.int .u64) r4.1 1)), ((rd (.int .u64) r4.1 2), (rd (.int .u64) r4.1 3))))])), ((x2.2.2.2.1.1, (x2.2.2.2.1.2.1, (x2.2.2.2.1.2.2.1, (x2.2.2.2.1.2.2.2.1, (x2.2.2.2.1.2.2.2.2.1, x2.2.2.2.1.2.2.2.2.2))))), (x2.2.2.2.2.1, (x2.2.2.2.2.2.1, x2.2.2.2.2.2.2))))
  else none)) (both (
  (both (
  bif decide ((x2.2.2.1.length + 1) * 32 ≤ LIM) then
  rec2 (x2.1, (IntKind.wrap .i64 (x2.2.1 + 1)), (x2.2.2.1 ++ ([((rd (.int .u64) r4.1 0), ((IntKind.wrap .i64 (rd (.int .u64) r4.1 1)), ((rd (.int .u64) r4.1 2), (rd (.int .u64) r4.1 3))))])), ((x2.2.2.2.1.1, (x2.2.2.2.1.2.1, (x2.2.2.2.1.2.2.1, (x2.2.2.2.1.2.2.2.1, (x2.2.2.2.1.2.2.2.2.1, x2.2.2.2.1.2.2.2.2.2))))), (x2.2.2.2.2.1, (x2.2.2.2.2.2.1, x2.2.2.2.2.2.2))))
  else none) (
  (both (
  bif decide ((x2.2.2.1.length + 1) * 32 ≤ LIM) then
  rec2 (x2.1, (IntKind.wrap .i64 (x2.2.1 + 1)), (x2.2.2.1 ++ ([((rd (.int .u64) r4.1 0), ((IntKind.wrap .i64 (rd (.int .u64) r4.1 1)), ((rd (.int .u64) r4.1 2), (rd (.int .u64) r4.1 3))))])), ((x2.2.2.2.1.1, (x2.2.2.2.1.2.1, (x2.2.2.2.1.2.2.1, (x2.2.2.2.1.2.2.2.1, (x2.2.2.2.1.2.2.2.2.1, x2.2.2.2.1.2.2.2.2.2))))), (x2.2.2.2.2.1, (x2.2.2.2.2.2.1, x2.2.2.2.2.2.2))))
  else none) (
  (fun o => both o o) (
  bif decide ((x2.2.2.1.length + 1) * 32 ≤ LIM) then
  rec2 (x2.1, (IntKind.wrap .i64 (x2.2.1 + 1)), (x2.2.2.1 ++ ([((rd (.int .u64) r4.1 0), ((IntKind.wrap .i64 (rd (.int .u64) r4.1 1)), ((rd (.int .u64) r4.1 2), (rd (.int .u64) r4.1 3))))])), ((x2.2.2.2.1.1, (x2.2.2.2.1.2.1, (x2.2.2.2.1.2.2.1, (x2.2.2.2.1.2.2.2.1, (x2.2.2.2.1.2.2.2.2.1, x2.2.2.2.1.2.2.2.2.2))))), (x2.2.2.2.2.1, (x2.2.2.2.2.2.1, x2.2.2.2.2.2.2))))
  else none)))))) (
  (both (
  bif decide ((x2.2.2.1.length + 1) * 32 ≤ LIM) then
  rec2 (x2.1, (IntKind.wrap .i64 (x2.2.1 + 1)), (x2.2.2.1 ++ ([((rd (.int .u64) r4.1 0), ((IntKind.wrap .i64 (rd (.int .u64) r4.1 1)), ((rd (.int .u64) r4.1 2), (rd (.int .u64) r4.1 3))))])), ((x2.2.2.2.1.1, (x2.2.2.2.1.2.1, (x2.2.2.2.1.2.2.1, (x2.2.2.2.1.2.2.2.1, (x2.2.2.2.1.2.2.2.2.1, x2.2.2.2.1.2.2.2.2.2))))), (x2.2.2.2.2.1, (x2.2.2.2.2.2.1, x2.2.2.2.2.2.2))))
  else none) (
  (both (
  bif decide ((x2.2.2.1.length + 1) * 32 ≤ LIM) then
  rec2 (x2.1, (IntKind.wrap .i64 (x2.2.1 + 1)), (x2.2.2.1 ++ ([((rd (.int .u64) r4.1 0), ((IntKind.wrap .i64 (rd (.int .u64) r4.1 1)), ((rd (.int .u64) r4.1 2), (rd (.int .u64) r4.1 3))))])), ((x2.2.2.2.1.1, (x2.2.2.2.1.2.1, (x2.2.2.2.1.2.2.1, (x2.2.2.2.1.2.2.2.1, (x2.2.2.2.1.2.2.2.2.1, x2.2.2.2.1.2.2.2.2.2))))), (x2.2.2.2.2.1, (x2.2.2.2.2.2.1, x2.2.2.2.2.2.2))))
  else none) (
  (fun o => both o o) (
  bif decide ((x2.2.2.1.length + 1) * 32 ≤ LIM) then
  rec2 (x2.1, (IntKind.wrap .i64 (x2.2.1 + 1)), (x2.2.2.1 ++ ([((rd (.int .u64) r4.1 0), ((IntKind.wrap .i64 (rd (.int .u64) r4.1 1)), ((rd (.int .u64) r4.1 2), (rd (.int .u64) r4.1 3))))])), ((x2.2.2.2.1.1, (x2.2.2.2.1.2.1, (x2.2.2.2.1.2.2.1, (x2.2.2.2.1.2.2.2.1, (x2.2.2.2.1.2.2.2.2.1, x2.2.2.2.1.2.2.2.2.2))))), (x2.2.2.2.2.1, (x2.2.2.2.2.2.1, x2.2.2.2.2.2.2))))
  else none))))))))) (
  (both (
  (fun o => both o o) (
  bif decide ((x2.2.2.1.length + 1) * 32 ≤ LIM) then
  rec2 (x2.1, (IntKind.wrap .i64 (x2.2.1 + 1)), (x2.2.2.1 ++ ([((rd (.int .u64) r4.1 0), ((IntKind.wrap .i64 (rd (.int .u64) r4.1 1)), ((rd (.int .u64) r4.1 2), (rd (.int .u64) r4.1 3))))])), ((x2.2.2.2.1.1, (x2.2.2.2.1.2.1, (x2.2.2.2.1.2.2.1, (x2.2.2.2.1.2.2.2.1, (x2.2.2.2.1.2.2.2.2.1, x2.2.2.2.1.2.2.2.2.2))))), (x2.2.2.2.2.1, (x2.2.2.2.2.2.1, x2.2.2.2.2.2.2))))
  else none)) (both (
  (both (
  bif decide ((x2.2.2.1.length + 1) * 32 ≤ LIM) then
  rec2 (x2.1, (IntKind.wrap .i64 (x2.2.1 + 1)), (x2.2.2.1 ++ ([((rd (.int .u64) r4.1 0), ((IntKind.wrap .i64 (rd (.int .u64) r4.1 1)), ((rd (.int .u64) r4.1 2), (rd (.int .u64) r4.1 3))))])), ((x2.2.2.2.1.1, (x2.2.2.2.1.2.1, (x2.2.2.2.1.2.2.1, (x2.2.2.2.1.2.2.2.1, (x2.2.2.2.1.2.2.2.2.1, x2.2.2.2.1.2.2.2.2.2))))), (x2.2.2.2.2.1, (x2.2.2.2.2.2.1, x2.2.2.2.2.2.2))))
  else none) (
  (both (
  bif decide ((x2.2.2.1.length + 1) * 32 ≤ LIM) then
  rec2 (x2.1, (IntKind.wrap .i64 (x2.2.1 + 1)), (x2.2.2.1 ++ ([((rd (.int .u64) r4.1 0), ((IntKind.wrap .i64 (rd (.int .u64) r4.1 1)), ((rd (.int .u64) r4.1 2), (rd (.int .u64) r4.1 3))))])), ((x2.2.2.2.1.1, (x2.2.2.2.1.2.1, (x2.2.2.2.1.2.2.1, (x2.2.2.2.1.2.2.2.1, (x2.2.2.2.1.2.2.2.2.1, x2.2.2.2.1.2.2.2.2.2))))), (x2.2.2.2.2.1, (x2.2.2.2.2.2.1, x2.2.2.2.2.2.2))))
  else none) (
  (fun o => both o o) (
  bif decide ((x2.2.2.1.length + 1) * 32 ≤ LIM) then
  rec2 (x2.1, (IntKind.wrap .i64 (x2.2.1 + 1)), (x2.2.2.1 ++ ([((rd (.int .u64) r4.1 0), ((IntKind.wrap .i64 (rd (.int .u64) r4.1 1)), ((rd (.int .u64) r4.1 2), (rd (.int .u64) r4.1 3))))])), ((x2.2.2.2.1.1, (x2.2.2.2.1.2.1, (x2.2.2.2.1.2.2.1, (x2.2.2.2.1.2.2.2.1, (x2.2.2.2.1.2.2.2.2.1, x2.2.2.2.1.2.2.2.2.2))))), (x2.2.2.2.2.1, (x2.2.2.2.2.2.1, x2.2.2.2.2.2.2))))
  else none)))))) (
  (both (
  bif decide ((x2.2.2.1.length + 1) * 32 ≤ LIM) then
  rec2 (x2.1, (IntKind.wrap .i64 (x2.2.1 + 1)), (x2.2.2.1 ++ ([((rd (.int .u64) r4.1 0), ((IntKind.wrap .i64 (rd (.int .u64) r4.1 1)), ((rd (.int .u64) r4.1 2), (rd (.int .u64) r4.1 3))))])), ((x2.2.2.2.1.1, (x2.2.2.2.1.2.1, (x2.2.2.2.1.2.2.1, (x2.2.2.2.1.2.2.2.1, (x2.2.2.2.1.2.2.2.2.1, x2.2.2.2.1.2.2.2.2.2))))), (x2.2.2.2.2.1, (x2.2.2.2.2.2.1, x2.2.2.2.2.2.2))))
  else none) (
  (both (
  bif decide ((x2.2.2.1.length + 1) * 32 ≤ LIM) then
  rec2 (x2.1, (IntKind.wrap .i64 (x2.2.1 + 1)), (x2.2.2.1 ++ ([((rd (.int .u64) r4.1 0), ((IntKind.wrap .i64 (rd (.int .u64) r4.1 1)), ((rd (.int .u64) r4.1 2), (rd (.int .u64) r4.1 3))))])), ((x2.2.2.2.1.1, (x2.2.2.2.1.2.1, (x2.2.2.2.1.2.2.1, (x2.2.2.2.1.2.2.2.1, (x2.2.2.2.1.2.2.2.2.1, x2.2.2.2.1.2.2.2.2.2))))), (x2.2.2.2.2.1, (x2.2.2.2.2.2.1, x2.2.2.2.2.2.2))))
  else none) (
  (fun o => both o o) (
  bif decide ((x2.2.2.1.length + 1) * 32 ≤ LIM) then
  rec2 (x2.1, (IntKind.wrap .i64 (x2.2.1 + 1)), (x2.2.2.1 ++ ([((rd (.int .u64) r4.1 0), ((IntKind.wrap .i64 (rd (.int .u64) r4.1 1)), ((rd (.int .u64) r4.1 2), (rd (.int .u64) r4.1 3))))])), ((x2.2.2.2.1.1, (x2.2.2.2.1.2.1, (x2.2.2.2.1.2.2.1, (x2.2.2.2.1.2.2.2.1, (x2.2.2.2.1.2.2.2.2.1, x2.2.2.2.1.2.2.2.2.2))))), (x2.2.2.2.2.1, (x2.2.2.2.2.2.1, x2.2.2.2.2.2.2))))
  else none))))))))))))) (
  (both (
  (fun o => both o (both o o)) (
  (fun o => both o o) (
  bif decide ((x2.2.2.1.length + 1) * 32 ≤ LIM) then
  rec2 (x2.1, (IntKind.wrap .i64 (x2.2.1 + 1)), (x2.2.2.1 ++ ([((rd (.int .u64) r4.1 0), ((IntKind.wrap .i64 (rd (.int .u64) r4.1 1)), ((rd (.int .u64) r4.1 2), (rd (.int .u64) r4.1 3))))])), ((x2.2.2.2.1.1, (x2.2.2.2.1.2.1, (x2.2.2.2.1.2.2.1, (x2.2.2.2.1.2.2.2.1, (x2.2.2.2.1.2.2.2.2.1, x2.2.2.2.1.2.2.2.2.2))))), (x2.2.2.2.2.1, (x2.2.2.2.2.2.1, x2.2.2.2.2.2.2))))
  else none))) (both (
  (both (
  (fun o => both o o) (
  bif decide ((x2.2.2.1.length + 1) * 32 ≤ LIM) then
  rec2 (x2.1, (IntKind.wrap .i64 (x2.2.1 + 1)), (x2.2.2.1 ++ ([((rd (.int .u64) r4.1 0), ((IntKind.wrap .i64 (rd (.int .u64) r4.1 1)), ((rd (.int .u64) r4.1 2), (rd (.int .u64) r4.1 3))))])), ((x2.2.2.2.1.1, (x2.2.2.2.1.2.1, (x2.2.2.2.1.2.2.1, (x2.2.2.2.1.2.2.2.1, (x2.2.2.2.1.2.2.2.2.1, x2.2.2.2.1.2.2.2.2.2))))), (x2.2.2.2.2.1, (x2.2.2.2.2.2.1, x2.2.2.2.2.2.2))))
  else none)) (both (
  (both (
  bif decide ((x2.2.2.1.length + 1) * 32 ≤ LIM) then
  rec2 (x2.1, (IntKind.wrap .i64 (x2.2.1 + 1)), (x2.2.2.1 ++ ([((rd (.int .u64) r4.1 0), ((IntKind.wrap .i64 (rd (.int .u64) r4.1 1)), ((rd (.int .u64) r4.1 2), (rd (.int .u64) r4.1 3))))])), ((x2.2.2.2.1.1, (x2.2.2.2.1.2.1, (x2.2.2.2.1.2.2.1, (x2.2.2.2.1.2.2.2.1, (x2.2.2.2.1.2.2.2.2.1, x2.2.2.2.1.2.2.2.2.2))))), (x2.2.2.2.2.1, (x2.2.2.2.2.2.1, x2.2.2.2.2.2.2))))
  else none) (
  (both (
  bif decide ((x2.2.2.1.length + 1) * 32 ≤ LIM) then
  rec2 (x2.1, (IntKind.wrap .i64 (x2.2.1 + 1)), (x2.2.2.1 ++ ([((rd (.int .u64) r4.1 0), ((IntKind.wrap .i64 (rd (.int .u64) r4.1 1)), ((rd (.int .u64) r4.1 2), (rd (.int .u64) r4.1 3))))])), ((x2.2.2.2.1.1, (x2.2.2.2.1.2.1, (x2.2.2.2.1.2.2.1, (x2.2.2.2.1.2.2.2.1, (x2.2.2.2.1.2.2.2.2.1, x2.2.2.2.1.2.2.2.2.2))))), (x2.2.2.2.2.1, (x2.2.2.2.2.2.1, x2.2.2.2.2.2.2))))
  else none) (
  (fun o => both o o) (
  bif decide ((x2.2.2.1.length + 1) * 32 ≤ LIM) then
  rec2 (x2.1, (IntKind.wrap .i64 (x2.2.1 + 1)), (x2.2.2.1 ++ ([((rd (.int .u64) r4.1 0), ((IntKind.wrap .i64 (rd (.int .u64) r4.1 1)), ((rd (.int .u64) r4.1 2), (rd (.int .u64) r4.1 3))))])), ((x2.2.2.2.1.1, (x2.2.2.2.1.2.1, (x2.2.2.2.1.2.2.1, (x2.2.2.2.1.2.2.2.1, (x2.2.2.2.1.2.2.2.2.1, x2.2.2.2.1.2.2.2.2.2))))), (x2.2.2.2.2.1, (x2.2.2.2.2.2.1, x2.2.2.2.2.2.2))))
  else none)))))) (
  (both (
  bif decide ((x2.2.2.1.length + 1) * 32 ≤ LIM) then
  rec2 (x2.1, (IntKind.wrap .i64 (x2.2.1 + 1)), (x2.2.2.1 ++ ([((rd (.int .u64) r4.1 0), ((IntKind.wrap .i64 (rd (.int .u64) r4.1 1)), ((rd (.int .u64) r4.1 2), (rd (.int .u64) r4.1 3))))])), ((x2.2.2.2.1.1, (x2.2.2.2.1.2.1, (x2.2.2.2.1.2.2.1, (x2.2.2.2.1.2.2.2.1, (x2.2.2.2.1.2.2.2.2.1, x2.2.2.2.1.2.2.2.2.2))))), (x2.2.2.2.2.1, (x2.2.2.2.2.2.1, x2.2.2.2.2.2.2))))
  else none) (
  (both (
  bif decide ((x2.2.2.1.length + 1) * 32 ≤ LIM) then
  rec2 (x2.1, (IntKind.wrap .i64 (x2.2.1 + 1)), (x2.2.2.1 ++ ([((rd (.int .u64) r4.1 0), ((IntKind.wrap .i64 (rd (.int .u64) r4.1 1)), ((rd (.int .u64) r4.1 2), (rd (.int .u64) r4.1 3))))])), ((x2.2.2.2.1.1, (x2.2.2.2.1.2.1, (x2.2.2.2.1.2.2.1, (x2.2.2.2.1.2.2.2.1, (x2.2.2.2.1.2.2.2.2.1, x2.2.2.2.1.2.2.2.2.2))))), (x2.2.2.2.2.1, (x2.2.2.2.2.2.1, x2.2.2.2.2.2.2))))
  else none) (
  (fun o => both o o) (
  bif decide ((x2.2.2.1.length + 1) * 32 ≤ LIM) then
  rec2 (x2.1, (IntKind.wrap .i64 (x2.2.1 + 1)), (x2.2.2.1 ++ ([((rd (.int .u64) r4.1 0), ((IntKind.wrap .i64 (rd (.int .u64) r4.1 1)), ((rd (.int .u64) r4.1 2), (rd (.int .u64) r4.1 3))))])), ((x2.2.2.2.1.1, (x2.2.2.2.1.2.1, (x2.2.2.2.1.2.2.1, (x2.2.2.2.1.2.2.2.1, (x2.2.2.2.1.2.2.2.2.1, x2.2.2.2.1.2.2.2.2.2))))), (x2.2.2.2.2.1, (x2.2.2.2.2.2.1, x2.2.2.2.2.2.2))))
  else none))))))))) (both (
  (both (
  (fun o => both o o) (
  bif decide ((x2.2.2.1.length + 1) * 32 ≤ LIM) then
  rec2 (x2.1, (IntKind.wrap .i64 (x2.2.1 + 1)), (x2.2.2.1 ++ ([((rd (.int .u64) r4.1 0), ((IntKind.wrap .i64 (rd (.int .u64) r4.1 1)), ((rd (.int .u64) r4.1 2), (rd (.int .u64) r4.1 3))))])), ((x2.2.2.2.1.1, (x2.2.2.2.1.2.1, (x2.2.2.2.1.2.2.1, (x2.2.2.2.1.2.2.2.1, (x2.2.2.2.1.2.2.2.2.1, x2.2.2.2.1.2.2.2.2.2))))), (x2.2.2.2.2.1, (x2.2.2.2.2.2.1, x2.2.2.2.2.2.2))))
  else none)) (both (
  (both (
  bif decide ((x2.2.2.1.length + 1) * 32 ≤ LIM) then
  rec2 (x2.1, (IntKind.wrap .i64 (x2.2.1 + 1)), (x2.2.2.1 ++ ([((rd (.int .u64) r4.1 0), ((IntKind.wrap .i64 (rd (.int .u64) r4.1 1)), ((rd (.int .u64) r4.1 2), (rd (.int .u64) r4.1 3))))])), ((x2.2.2.2.1.1, (x2.2.2.2.1.2.1, (x2.2.2.2.1.2.2.1, (x2.2.2.2.1.2.2.2.1, (x2.2.2.2.1.2.2.2.2.1, x2.2.2.2.1.2.2.2.2.2))))), (x2.2.2.2.2.1, (x2.2.2.2.2.2.1, x2.2.2.2.2.2.2))))
  else none) (
  (both (
  bif decide ((x2.2.2.1.length + 1) * 32 ≤ LIM) then
  rec2 (x2.1, (IntKind.wrap .i64 (x2.2.1 + 1)), (x2.2.2.1 ++ ([((rd (.int .u64) r4.1 0), ((IntKind.wrap .i64 (rd (.int .u64) r4.1 1)), ((rd (.int .u64) r4.1 2), (rd (.int .u64) r4.1 3))))])), ((x2.2.2.2.1.1, (x2.2.2.2.1.2.1, (x2.2.2.2.1.2.2.1, (x2.2.2.2.1.2.2.2.1, (x2.2.2.2.1.2.2.2.2.1, x2.2.2.2.1.2.2.2.2.2))))), (x2.2.2.2.2.1, (x2.2.2.2.2.2.1, x2.2.2.2.2.2.2))))
  else none) (
  (fun o => both o o) (
  bif decide ((x2.2.2.1.length + 1) * 32 ≤ LIM) then
  rec2 (x2.1, (IntKind.wrap .i64 (x2.2.1 + 1)), (x2.2.2.1 ++ ([((rd (.int .u64) r4.1 0), ((IntKind.wrap .i64 (rd (.int .u64) r4.1 1)), ((rd (.int .u64) r4.1 2), (rd (.int .u64) r4.1 3))))])), ((x2.2.2.2.1.1, (x2.2.2.2.1.2.1, (x2.2.2.2.1.2.2.1, (x2.2.2.2.1.2.2.2.1, (x2.2.2.2.1.2.2.2.2.1, x2.2.2.2.1.2.2.2.2.2))))), (x2.2.2.2.2.1, (x2.2.2.2.2.2.1, x2.2.2.2.2.2.2))))
  else none)))))) (
  (both (
  bif decide ((x2.2.2.1.length + 1) * 32 ≤ LIM) then
  rec2 (x2.1, (IntKind.wrap .i64 (x2.2.1 + 1)), (x2.2.2.1 ++ ([((rd (.int .u64) r4.1 0), ((IntKind.wrap .i64 (rd (.int .u64) r4.1 1)), ((rd (.int .u64) r4.1 2), (rd (.int .u64) r4.1 3))))])), ((x2.2.2.2.1.1, (x2.2.2.2.1.2.1, (x2.2.2.2.1.2.2.1, (x2.2.2.2.1.2.2.2.1, (x2.2.2.2.1.2.2.2.2.1, x2.2.2.2.1.2.2.2.2.2))))), (x2.2.2.2.2.1, (x2.2.2.2.2.2.1, x2.2.2.2.2.2.2))))
  else none) (
  (both (
  bif decide ((x2.2.2.1.length + 1) * 32 ≤ LIM) then
  rec2 (x2.1, (IntKind.wrap .i64 (x2.2.1 + 1)), (x2.2.2.1 ++ ([((rd (.int .u64) r4.1 0), ((IntKind.wrap .i64 (rd (.int .u64) r4.1 1)), ((rd (.int .u64) r4.1 2), (rd (.int .u64) r4.1 3))))])), ((x2.2.2.2.1.1, (x2.2.2.2.1.2.1, (x2.2.2.2.1.2.2.1, (x2.2.2.2.1.2.2.2.1, (x2.2.2.2.1.2.2.2.2.1, x2.2.2.2.1.2.2.2.2.2))))), (x2.2.2.2.2.1, (x2.2.2.2.2.2.1, x2.2.2.2.2.2.2))))
  else none) (
  (fun o => both o o) (
  bif decide ((x2.2.2.1.length + 1) * 32 ≤ LIM) then
  rec2 (x2.1, (IntKind.wrap .i64 (x2.2.1 + 1)), (x2.2.2.1 ++ ([((rd (.int .u64) r4.1 0), ((IntKind.wrap .i64 (rd (.int .u64) r4.1 1)), ((rd (.int .u64) r4.1 2), (rd (.int .u64) r4.1 3))))])), ((x2.2.2.2.1.1, (x2.2.2.2.1.2.1, (x2.2.2.2.1.2.2.1, (x2.2.2.2.1.2.2.2.1, (x2.2.2.2.1.2.2.2.2.1, x2.2.2.2.1.2.2.2.2.2))))), (x2.2.2.2.2.1, (x2.2.2.2.2.2.1, x2.2.2.2.2.2.2))))
  else none))))))))) (
  (both (
  (fun o => both o o) (
  bif decide ((x2.2.2.1.length + 1) * 32 ≤ LIM) then
  rec2 (x2.1, (IntKind.wrap .i64 (x2.2.1 + 1)), (x2.2.2.1 ++ ([((rd (.int .u64) r4.1 0), ((IntKind.wrap .i64 (rd (.int .u64) r4.1 1)), ((rd (.int .u64) r4.1 2), (rd (.int .u64) r4.1 3))))])), ((x2.2.2.2.1.1, (x2.2.2.2.1.2.1, (x2.2.2.2.1.2.2.1, (x2.2.2.2.1.2.2.2.1, (x2.2.2.2.1.2.2.2.2.1, x2.2.2.2.1.2.2.2.2.2))))), (x2.2.2.2.2.1, (x2.2.2.2.2.2.1, x2.2.2.2.2.2.2))))
  else none)) (both (
  (both (
  bif decide ((x2.2.2.1.length + 1) * 32 ≤ LIM) then
  rec2 (x2.1, (IntKind.wrap .i64 (x2.2.1 + 1)), (x2.2.2.1 ++ ([((rd (.int .u64) r4.1 0), ((IntKind.wrap .i64 (rd (.int .u64) r4.1 1)), ((rd (.int .u64) r4.1 2), (rd (.int .u64) r4.1 3))))])), ((x2.2.2.2.1.1, (x2.2.2.2.1.2.1, (x2.2.2.2.1.2.2.1, (x2.2.2.2.1.2.2.2.1, (x2.2.2.2.1.2.2.2.2.1, x2.2.2.2.1.2.2.2.2.2))))), (x2.2.2.2.2.1, (x2.2.2.2.2.2.1, x2.2.2.2.2.2.2))))
  else none) (
  (both (
  bif decide ((x2.2.2.1.length + 1) * 32 ≤ LIM) then
  rec2 (x2.1, (IntKind.wrap .i64 (x2.2.1 + 1)), (x2.2.2.1 ++ ([((rd (.int .u64) r4.1 0), ((IntKind.wrap .i64 (rd (.int .u64) r4.1 1)), ((rd (.int .u64) r4.1 2), (rd (.int .u64) r4.1 3))))])), ((x2.2.2.2.1.1, (x2.2.2.2.1.2.1, (x2.2.2.2.1.2.2.1, (x2.2.2.2.1.2.2.2.1, (x2.2.2.2.1.2.2.2.2.1, x2.2.2.2.1.2.2.2.2.2))))), (x2.2.2.2.2.1, (x2.2.2.2.2.2.1, x2.2.2.2.2.2.2))))
  else none) (
  (fun o => both o o) (
  bif decide ((x2.2.2.1.length + 1) * 32 ≤ LIM) then
  rec2 (x2.1, (IntKind.wrap .i64 (x2.2.1 + 1)), (x2.2.2.1 ++ ([((rd (.int .u64) r4.1 0), ((IntKind.wrap .i64 (rd (.int .u64) r4.1 1)), ((rd (.int .u64) r4.1 2), (rd (.int .u64) r4.1 3))))])), ((x2.2.2.2.1.1, (x2.2.2.2.1.2.1, (x2.2.2.2.1.2.2.1, (x2.2.2.2.1.2.2.2.1, (x2.2.2.2.1.2.2.2.2.1, x2.2.2.2.1.2.2.2.2.2))))), (x2.2.2.2.2.1, (x2.2.2.2.2.2.1, x2.2.2.2.2.2.2))))
  else none)))))) (
  (both (
  bif decide ((x2.2.2.1.length + 1) * 32 ≤ LIM) then
  rec2 (x2.1, (IntKind.wrap .i64 (x2.2.1 + 1)), (x2.2.2.1 ++ ([((rd (.int .u64) r4.1 0), ((IntKind.wrap .i64 (rd (.int .u64) r4.1 1)), ((rd (.int .u64) r4.1 2), (rd (.int .u64) r4.1 3))))])), ((x2.2.2.2.1.1, (x2.2.2.2.1.2.1, (x2.2.2.2.1.2.2.1, (x2.2.2.2.1.2.2.2.1, (x2.2.2.2.1.2.2.2.2.1, x2.2.2.2.1.2.2.2.2.2))))), (x2.2.2.2.2.1, (x2.2.2.2.2.2.1, x2.2.2.2.2.2.2))))
  else none) (
  (both (
  bif decide ((x2.2.2.1.length + 1) * 32 ≤ LIM) then
  rec2 (x2.1, (IntKind.wrap .i64 (x2.2.1 + 1)), (x2.2.2.1 ++ ([((rd (.int .u64) r4.1 0), ((IntKind.wrap .i64 (rd (.int .u64) r4.1 1)), ((rd (.int .u64) r4.1 2), (rd (.int .u64) r4.1 3))))])), ((x2.2.2.2.1.1, (x2.2.2.2.1.2.1, (x2.2.2.2.1.2.2.1, (x2.2.2.2.1.2.2.2.1, (x2.2.2.2.1.2.2.2.2.1, x2.2.2.2.1.2.2.2.2.2))))), (x2.2.2.2.2.1, (x2.2.2.2.2.2.1, x2.2.2.2.2.2.2))))
  else none) (
  (fun o => both o o) (
  bif decide ((x2.2.2.1.length + 1) * 32 ≤ LIM) then
  rec2 (x2.1, (IntKind.wrap .i64 (x2.2.1 + 1)), (x2.2.2.1 ++ ([((rd (.int .u64) r4.1 0), ((IntKind.wrap .i64 (rd (.int .u64) r4.1 1)), ((rd (.int .u64) r4.1 2), (rd (.int .u64) r4.1 3))))])), ((x2.2.2.2.1.1, (x2.2.2.2.1.2.1, (x2.2.2.2.1.2.2.1, (x2.2.2.2.1.2.2.2.1, (x2.2.2.2.1.2.2.2.2.1, x2.2.2.2.1.2.2.2.2.2))))), (x2.2.2.2.2.1, (x2.2.2.2.2.2.1, x2.2.2.2.2.2.2))))
  else none)))))))))))))))))
  else none
  else none
  else none
  else none)
  else none)
  else (
  some ((0, 0, 0, 0, 0, ([] : List Int), ([] : List (Int × (Int × (Int × Int)))), 0, ([] : List (Int × (Int × Int))), 0), 2)))
  else (
  bif (!decide ((r4.1.length : Int) = 1)) then (
  some ((0, 0, 0, 0, 0, ([] : List Int), ([] : List (Int × (Int × (Int × Int)))), 0, ([] : List (Int × (Int × Int))), 0), 2))
  else (
  bif inb 0 r4.1.length then
  bif decide ((rd (.pair (.int .u64) (.slice 5 (.int .u8))) r1.1 x2.2.1).1 = 1) then (
  bif inb 0 r4.1.length then
  rec2 (x2.1, (IntKind.wrap .i64 (x2.2.1 + 1)), x2.2.2.1, (((rd (.int .u64) r4.1 0), (x2.2.2.2.1.2.1, (x2.2.2.2.1.2.2.1, (x2.2.2.2.1.2.2.2.1, (x2.2.2.2.1.2.2.2.2.1, x2.2.2.2.1.2.2.2.2.2))))), (x2.2.2.2.2.1, (x2.2.2.2.2.2.1, x2.2.2.2.2.2.2))))
  else none)
  else (
  bif decide ((rd (.pair (.int .u64) (.slice 5 (.int .u8))) r1.1 x2.2.1).1 = 2) then (
  rec2 (x2.1, (IntKind.wrap .i64 (x2.2.1 + 1)), x2.2.2.1, ((x2.2.2.2.1.1, ((IntKind.wrap .i64 (if 4096 < (rd (.int .u64) r4.1 0) then 4096 else (rd (.int .u64) r4.1 0))), (x2.2.2.2.1.2.2.1, (x2.2.2.2.1.2.2.2.1, (x2.2.2.2.1.2.2.2.2.1, x2.2.2.2.1.2.2.2.2.2))))), (x2.2.2.2.2.1, (x2.2.2.2.2.2.1, x2.2.2.2.2.2.2)))))
  else (
  bif decide ((rd (.pair (.int .u64) (.slice 5 (.int .u8))) r1.1 x2.2.1).1 = 3) then (
  bif inb 0 r4.1.length then
  rec2 (x2.1, (IntKind.wrap .i64 (x2.2.1 + 1)), x2.2.2.1, ((x2.2.2.2.1.1, (x2.2.2.2.1.2.1, ((rd (.int .u64) r4.1 0), (x2.2.2.2.1.2.2.2.1, (x2.2.2.2.1.2.2.2.2.1, x2.2.2.2.1.2.2.2.2.2))))), (x2.2.2.2.2.1, (x2.2.2.2.2.2.1, x2.2.2.2.2.2.2))))
  else none)
  else (
  bif decide ((rd (.pair (.int .u64) (.slice 5 (.int .u8))) r1.1 x2.2.1).1 = 4) then (
  bif inb 0 r4.1.length then
  rec2 (x2.1, (IntKind.wrap .i64 (x2.2.1 + 1)), x2.2.2.1, ((x2.2.2.2.1.1, (x2.2.2.2.1.2.1, (x2.2.2.2.1.2.2.1, ((rd (.int .u64) r4.1 0), (x2.2.2.2.1.2.2.2.2.1, x2.2.2.2.1.2.2.2.2.2))))), (x2.2.2.2.2.1, (x2.2.2.2.2.2.1, x2.2.2.2.2.2.2))))
  else none)
  else (
  bif decide ((rd (.pair (.int .u64) (.slice 5 (.int .u8))) r1.1 x2.2.1).1 = 5) then (
  rec2 (x2.1, (IntKind.wrap .i64 (x2.2.1 + 1)), x2.2.2.1, ((x2.2.2.2.1.1, (x2.2.2.2.1.2.1, (x2.2.2.2.1.2.2.1, (x2.2.2.2.1.2.2.2.1, ((IntKind.wrap .i64 (if 4096 < (rd (.int .u64) r4.1 0) then 4096 else (rd (.int .u64) r4.1 0))), x2.2.2.2.1.2.2.2.2.2))))), (x2.2.2.2.2.1, (x2.2.2.2.2.2.1, x2.2.2.2.2.2.2)))))
  else (
  some ((0, 0, 0, 0, 0, ([] : List Int), ([] : List (Int × (Int × (Int × Int)))), 0, ([] : List (Int × (Int × Int))), 0), 2))))))
  else none)))))
  else none)
  else (
  (F33 (x2.2.2.2.1.1, (x2.2.2.2.1.2.1, (x2.2.2.2.1.2.2.1, (x2.2.2.2.1.2.2.2.1, (x2.2.2.2.1.2.2.2.2.1, (x2.2.2.2.1.2.2.2.2.2, (x2.2.2.1, (x2.2.2.2.2.1, (x2.2.2.2.2.2.1, x2.2.2.2.2.2.2)))))))))).bind fun r5 =>
  bif ((bif (!decide (r1.2 = 0)) then true else (!decide (r5.2 = 0))) == false) then (
  (F64 (r5.1, b)).bind fun r6 =>
  bif (!r6) then (
  some ((0, 0, 0, 0, 0, ([] : List Int), ([] : List (Int × (Int × (Int × Int)))), 0, ([] : List (Int × (Int × Int))), 0), 2))
  else (
  some ((x2.2.2.2.1.1, x2.2.2.2.1.2.1, x2.2.2.2.1.2.2.1, x2.2.2.2.1.2.2.2.1, x2.2.2.2.1.2.2.2.2.1, x2.2.2.2.1.2.2.2.2.2, x2.2.2.1, x2.2.2.2.2.1, x2.2.2.2.2.2.1, x2.2.2.2.2.2.2), 0)))
  else (
  some ((0, 0, 0, 0, 0, ([] : List Int), ([] : List (Int × (Int × (Int × Int)))), 0, ([] : List (Int × (Int × Int))), 0), 2)))) (0, 0, ([] : List (Int × (Int × (Int × Int)))), ((0, (0, (0, (0, (0, []))))), (0, ([], 0)))))
theorem ev37 (b : List Int) : evF C63 H37 Try.f37 (encs [.oneA (.slice 5 (.int .u8))] b) (RT.dec (.tup [.agg [.int .u64, .int .i64, .int .u64, .int .u64, .int .i64, .sl 23 (.int .u64), .fresh 81 (.pair (.int .u64) (.pair (.int .i64) (.pair (.int .u64) (.int .u64)))), .int .u64, .sl 95 (.pair (.int .i64) (.pair (.int .u64) (.int .u64))), .int .i64], .leaf (.int .i64)])) = F37 b := by kernel_rfl
noncomputable def C37 : Ctx := Ctx.addA C63 37 [.oneA (.slice 5 (.int .u8))] (.tup [.agg [.int .u64, .int .i64, .int .u64, .int .u64, .int .i64, .sl 23 (.int .u64), .fresh 81 (.pair (.int .u64) (.pair (.int .i64) (.pair (.int .u64) (.int .u64)))), .int .u64, .sl 95 (.pair (.int .i64) (.pair (.int .u64) (.int .u64))), .int .i64], .leaf (.int .i64)]) F37
theorem s37 : C37.Sound := Ctx.Sound.addA (C := C63) mixed s63 Try.func37 ev37
/-! damson/damsonref20.small -/
def H82 : Nat → Head := fun _ => ⟨[], []⟩
noncomputable def F82 (b : Int) : Option Int :=
 some (IntKind.wrap .i64 (if 99 < b then 99 else b))
theorem ev82 (b : Int) : evF C37 H82 Try.f82 (encs [.one (.int .u64)] b) (RT.dec (.one (.leaf (.int .i64)))) = F82 b := by kernel_rfl
noncomputable def C82 : Ctx := Ctx.add C37 82 [.one (.int .u64)] (.one (.leaf (.int .i64))) F82
theorem s82 : C82.Sound := Ctx.Sound.add (C := C37) mixed s37 Try.func82 ev82
/-! damson/damsonref01.All -/
def H83 : Nat → Head
  | 4 => ⟨[.dataA 0 (.slice 5 (.int .u8)), .row 2 10244 23 (.int .u64), .data 3 (.int .i64), .row 4 18436 23 (.int .u64)], []⟩
  | _ => ⟨[], []⟩
noncomputable def F83 (b : List Int) : Option (List Int × Int) :=
 bif decide (65535 < (b.length : Int)) then (
 some (([] : List Int), 4))
 else (
 lfp (fun (rec1 : (List Int × List Int × Int × List Int) → Option (List Int × Int)) (x1 : List Int × List Int × Int × List Int) =>
  bif decide (0 < (x1.1.length : Int)) then (
  (F49 x1.1).bind fun r2 =>
  bif (!decide (r2.2.2 = 0)) then (
  some (([] : List Int), r2.2.2))
  else (
  bif decide ((x1.2.2.2.length + 1) * 8 ≤ LIM) then
  bif inb r2.2.1 (x1.1.length + 1) then
  rec1 (x1.1.drop r2.2.1.toNat, x1.2.1, x1.2.2.1, (x1.2.2.2 ++ ([r2.1])))
  else none
  else none))
  else (
  some (x1.2.2.2, 0))) (b, ([] : List Int), 0, ([] : List Int)))
theorem ev83 (b : List Int) : evF C82 H83 Try.f83 (encs [.oneA (.slice 5 (.int .u8))] b) (RT.dec (.tup [.leaf (.fresh 23 (.int .u64)), .leaf (.int .i64)])) = F83 b := by kernel_rfl
noncomputable def C83 : Ctx := Ctx.addA C82 83 [.oneA (.slice 5 (.int .u8))] (.tup [.leaf (.fresh 23 (.int .u64)), .leaf (.int .i64)]) F83
theorem s83 : C83.Sound := Ctx.Sound.addA (C := C82) mixed s82 Try.func83 ev83
/-! damson/damsonref06.Get -/
def H94 : Nat → Head := fun _ => ⟨[], []⟩
noncomputable def F94 (b : List Int) : Option ((Int × Int × Int) × Int) :=
 (F49 b).bind fun r1 =>
 bif (!decide (r1.2.2 = 0)) then (
 some ((0, 0, 0), r1.2.2))
 else (
 bif (bif decide (r1.1 < 1) then true else decide (5 < r1.1)) then (
 some ((0, 0, 0), 2))
 else (
 bif inb r1.2.1 (b.length + 1) then
 (F49 (b.drop r1.2.1.toNat)).bind fun r2 =>
 bif (!decide (r2.2.2 = 0)) then (
 some ((0, 0, 0), r2.2.2))
 else (
 bif inb r2.2.1 ((b.drop r1.2.1.toNat).length + 1) then
 bif decide (r1.1 = 4) then (
 (F49 ((b.drop r1.2.1.toNat).drop r2.2.1.toNat)).bind fun r3 =>
 bif (!decide (r3.2.2 = 0)) then (
 some ((0, 0, 0), r3.2.2))
 else (
 bif inb r3.2.1 (((b.drop r1.2.1.toNat).drop r2.2.1.toNat).length + 1) then
 bif (decide (0 < ((((b.drop r1.2.1.toNat).drop r2.2.1.toNat).drop r3.2.1.toNat).length : Int)) == false) then (
 (F91 ((IntKind.wrap .i64 r1.1), (r2.1, r3.1))).bind fun r4 =>
 bif (!decide (r4 = 0)) then (
 some ((0, 0, 0), 2))
 else (
 some (((IntKind.wrap .i64 r1.1), r2.1, r3.1), 0)))
 else (
 some ((0, 0, 0), 2))
 else none))
 else (
 bif (decide (0 < (((b.drop r1.2.1.toNat).drop r2.2.1.toNat).length : Int)) == false) then (
 (F91 ((IntKind.wrap .i64 r1.1), (r2.1, 0))).bind fun r5 =>
 bif (!decide (r5 = 0)) then (
 some ((0, 0, 0), 2))
 else (
 some (((IntKind.wrap .i64 r1.1), r2.1, 0), 0)))
 else (
 some ((0, 0, 0), 2)))
 else none)
 else none))
theorem ev94 (b : List Int) : evF C83 H94 Try.f94 (encs [.one (.slice 5 (.int .u8))] b) (RT.dec (.tup [.agg [.int .i64, .int .u64, .int .u64], .leaf (.int .i64)])) = F94 b := by kernel_rfl
noncomputable def C94 : Ctx := Ctx.add C83 94 [.one (.slice 5 (.int .u8))] (.tup [.agg [.int .i64, .int .u64, .int .u64], .leaf (.int .i64)]) F94
theorem s94 : C94.Sound := Ctx.Sound.add (C := C83) mixed s83 Try.func94 ev94
/-! damson/damsonref07.Get -/
def H84 : Nat → Head
  | 5 => ⟨[.data 3 (.int .i64), .data 30 (.int .i64)], [114688, 86016, 8192]⟩
  | 20 => ⟨[.data 3 (.int .i64), .data 73 (.int .i64)], [114688, 86016, 8192]⟩
  | 29 => ⟨[.data 3 (.int .i64), .data 99 (.int .i64), .crow 57344 1 10059421 95 (.pair (.int .i64) (.pair (.int .u64) (.int .u64))), .boxr 57344 10059421 (.int .u64) (.int .i64)], [114688, 86016, 8192]⟩
  | _ => ⟨[], []⟩
noncomputable def F84 (b : List Int) : Option ((Int × (List (Int × (Int × Int))) × Int) × Int) :=
 (F23 b).bind fun r1 =>
 bif (!decide (r1.2 = 0)) then (
 some ((0, ([] : List (Int × (Int × Int))), 0), r1.2))
 else (
 lfp (fun (rec2 : (Int × Int) → Option ((Int × (List (Int × (Int × Int))) × Int) × Int)) (x2 : Int × Int) =>
  bif decide (x2.2 < (([1, 2]).length : Int)) then (
  bif inb x2.2 ([1, 2]).length then
  (F27 (r1.1, (rd (.int .u64) ([1, 2]) x2.2))).bind fun r3 =>
  bif (!decide (r3.2 = 0)) then (
  some ((0, ([] : List (Int × (Int × Int))), 0), 5))
  else (
  rec2 (x2.1, (IntKind.wrap .i64 (x2.2 + 1))))
  else none)
  else (
  (F29 (r1.1, 1)).bind fun r4 =>
  bif (!decide (r4.2 = 0)) then (
  some ((0, ([] : List (Int × (Int × Int))), 0), r4.2))
  else (
  (F29 (r1.1, 2)).bind fun r5 =>
  bif (!decide (r5.2 = 0)) then (
  some ((0, ([] : List (Int × (Int × Int))), 0), r5.2))
  else (
  bif (bif decide (1048576 < r5.1) then true else decide (18 < (r1.1.length : Int))) then (
  some ((0, ([] : List (Int × (Int × Int))), 0), 2))
  else (
  bif inb 2 (r1.1.length + 1) then
  lfp (fun (rec6 : (Int × Int) → Option ((Int × (List (Int × (Int × Int))) × Int) × Int)) (x6 : Int × Int) =>
   bif decide (x6.2 < ((r1.1.drop ((2 : Int).toNat)).length : Int)) then (
   bif inb x6.2 (r1.1.drop ((2 : Int).toNat)).length then
   bif (!decide ((rd (.pair (.int .u64) (.slice 5 (.int .u8))) (r1.1.drop ((2 : Int).toNat)) x6.2).1 = (IntKind.wrap .u64 (IntKind.wrap .i64 (16 + x6.2))))) then (
   some ((0, ([] : List (Int × (Int × Int))), 0), 2))
   else (
   rec6 (x6.1, (IntKind.wrap .i64 (x6.2 + 1))))
   else none)
   else (
   bif inb 0 r1.1.length then
   bif (!decide ((rd (.pair (.int .u64) (.slice 5 (.int .u8))) r1.1 0).1 = 1)) then (
   some ((0, ([] : List (Int × (Int × Int))), 0), 2))
   else (
   bif inb 2 (r1.1.length + 1) then
   lfp (fun (rec7 : (Int × Int × List (Int × (Int × Int)) × (Int × Int)) → Option ((Int × (List (Int × (Int × Int))) × Int) × Int)) (x7 : Int × Int × List (Int × (Int × Int)) × (Int × Int)) =>
    bif decide (x7.2.1 < ((r1.1.drop ((2 : Int).toNat)).length : Int)) then (
    bif inb x7.2.1 (r1.1.drop ((2 : Int).toNat)).length then
    (F94 ((rd (.pair (.int .u64) (.slice 5 (.int .u8))) (r1.1.drop ((2 : Int).toNat)) x7.2.1).2)).bind fun r8 =>
    bif (!decide (r8.2 = 0)) then (
    some ((0, ([] : List (Int × (Int × Int))), 0), r8.2))
    else (
    bif decide ((x7.2.2.1.length + 1) * 24 ≤ LIM) then
    rec7 (x7.1, (IntKind.wrap .i64 (x7.2.1 + 1)), (x7.2.2.1 ++ ([(r8.1.1, (r8.1.2.1, r8.1.2.2))])), (x7.2.2.2.1, x7.2.2.2.2))
    else none)
    else none)
    else (
    some ((x7.2.2.2.1, x7.2.2.1, x7.2.2.2.2), 0))) (x6.1, 0, ([] : List (Int × (Int × Int))), (r4.1, (IntKind.wrap .i64 r5.1)))
   else none)
   else none)) (x2.1, 0)
  else none))))) (0, 0))
theorem ev84 (b : List Int) : evF C94 H84 Try.f84 (encs [.oneA (.slice 5 (.int .u8))] b) (RT.dec (.tup [.agg [.int .u64, .fresh 95 (.pair (.int .i64) (.pair (.int .u64) (.int .u64))), .int .i64], .leaf (.int .i64)])) = F84 b := by kernel_rfl
noncomputable def C84 : Ctx := Ctx.addA C94 84 [.oneA (.slice 5 (.int .u8))] (.tup [.agg [.int .u64, .fresh 95 (.pair (.int .i64) (.pair (.int .u64) (.int .u64))), .int .i64], .leaf (.int .i64)]) F84
theorem s84 : C84.Sound := Ctx.Sound.addA (C := C94) mixed s94 Try.func84 ev84
/-! damson/damsonref20.read -/
def H65 : Nat → Head
  | 14 => ⟨[.data 75 (.int .i64), .crow 12288 6 10014350 81 (.pair (.int .u64) (.pair (.int .i64) (.pair (.int .u64) (.int .u64)))), .boxr 12288 10014350 (.pair (.int .u64) (.pair (.int .i64) (.pair (.int .u64) (.pair (.int .u64) (.pair (.int .i64) (.slice 23 (.int .u64))))))) (.pair (.int .u64) (.pair (.slice 95 (.pair (.int .i64) (.pair (.int .u64) (.int .u64)))) (.int .i64)))], [282625, 262144, 237568, 217088, 8192]⟩
  | 1000018 => ⟨[], [14]⟩
  | 3000000 => ⟨[], [7696581406720]⟩
  | 3000001 => ⟨[], [7696581406720]⟩
  | 3000002 => ⟨[], [7696581406720]⟩
  | 3000003 => ⟨[], [7696581406720]⟩
  | 3000004 => ⟨[], [7696581406720]⟩
  | 3000005 => ⟨[], [7696581406720]⟩
  | 3000006 => ⟨[], [7696581406720]⟩
  | 3000007 => ⟨[], [7696581406720]⟩
  | 3000008 => ⟨[], [7696581406720]⟩
  | 3000009 => ⟨[], [7696581406720]⟩
  | 3000010 => ⟨[], [7696581406720]⟩
  | 3000011 => ⟨[], [7696581406720]⟩
  | 3000012 => ⟨[], [7696581406720]⟩
  | 3000013 => ⟨[], [7696581406720]⟩
  | 3000014 => ⟨[], [7696581406720]⟩
  | 3000015 => ⟨[], [7696581406720]⟩
  | 3000016 => ⟨[], [7696581406720]⟩
  | 3000017 => ⟨[], [7696581406720]⟩
  | 3000018 => ⟨[], [7696581406720]⟩
  | 3000019 => ⟨[], [7696581406720]⟩
  | 3000020 => ⟨[], [7696581406720]⟩
  | 3000021 => ⟨[], [7696581406720]⟩
  | 5000019 => ⟨[], [0, 0, 1, 1, 0, 0, 4, 4, 8, 8, 0, 0, 32, 32, 64, 64, 128, 128, 0, 0, 512, 512, 1024, 1024, 0, 0, 4096, 4096, 8192, 8192, 18704, 18704, 32768, 32768, 65794, 65538, 262143, 0, 524287, 393216]⟩
  | _ => ⟨[], []⟩
noncomputable def F65 (b : List (Int × List Int)) : Option (Int × Int × Int × Int × Int × List Int × (List (Int × (Int × (Int × Int)))) × Int × (List (Int × (Int × Int))) × Int) :=
 (F29 (b, 1)).bind fun r1 =>
 (F29 (b, 2)).bind fun r2 =>
 (F82 r2.1).bind fun r3 =>
 (F29 (b, 3)).bind fun r4 =>
 (F29 (b, 4)).bind fun r5 =>
 (F29 (b, 5)).bind fun r6 =>
 (F82 r6.1).bind fun r7 =>
 (F27 (b, 6)).bind fun r8 =>
 (F83 r8.1).bind fun r9 =>
 (F27 (b, 7)).bind fun r10 =>
 (F84 r10.1).bind fun r11 =>
 lfp (fun (rec12 : (Int × List (Int × (Int × (Int × Int))) × ((Int × (Int × (Int × (Int × (Int × List Int))))) × (Int × (List (Int × (Int × Int)) × Int)))) → Option (Int × Int × Int × Int × Int × List Int × (List (Int × (Int × (Int × Int)))) × Int × (List (Int × (Int × Int))) × Int)) (x12 : Int × List (Int × (Int × (Int × Int))) × ((Int × (Int × (Int × (Int × (Int × List Int))))) × (Int × (List (Int × (Int × Int)) × Int)))) =>
  bif decide (x12.1 < (b.length : Int)) then (
  bif inb x12.1 b.length then
  bif decide (16 ≤ (rd (.pair (.int .u64) (.slice 5 (.int .u8))) b x12.1).1) then (
  (F83 ((rd (.pair (.int .u64) (.slice 5 (.int .u8))) b x12.1).2)).bind fun r13 =>
  bif decide ((r13.1.length + 4) * 8 ≤ LIM) then
  bif inb 0 (r13.1 ++ ([0, 0, 0, 0])).length then
  bif inb 1 (r13.1 ++ ([0, 0, 0, 0])).length then
  bif inb 2 (r13.1 ++ ([0, 0, 0, 0])).length then
  bif inb 3 (r13.1 ++ ([0, 0, 0, 0])).length then
  (both (
  (F82 (rd (.int .u64) (r13.1 ++ ([0, 0, 0, 0])) 1)).bind fun r14 =>
  bif decide ((x12.2.1.length + 1) * 32 ≤ LIM) then
  rec12 ((IntKind.wrap .i64 (x12.1 + 1)), (x12.2.1 ++ ([((rd (.int .u64) (r13.1 ++ ([0, 0, 0, 0])) 0), (r14, ((rd (.int .u64) (r13.1 ++ ([0, 0, 0, 0])) 2), (rd (.int .u64) (r13.1 ++ ([0, 0, 0, 0])) 3))))])), ((x12.2.2.1.1, (x12.2.2.1.2.1, (x12.2.2.1.2.2.1, (x12.2.2.1.2.2.2.1, (x12.2.2.1.2.2.2.2.1, x12.2.2.1.2.2.2.2.2))))), (x12.2.2.2.1, (x12.2.2.2.2.1, x12.2.2.2.2.2))))
  else none) (
  (F82 (rd (.int .u64) (r13.1 ++ ([0, 0, 0, 0])) 1)).bind fun r14 =>
  (both (
  bif decide ((x12.2.1.length + 1) * 32 ≤ LIM) then
  rec12 ((IntKind.wrap .i64 (x12.1 + 1)), (x12.2.1 ++ ([((rd (.int .u64) (r13.1 ++ ([0, 0, 0, 0])) 0), (r14, ((rd (.int .u64) (r13.1 ++ ([0, 0, 0, 0])) 2), (rd (.int .u64) (r13.1 ++ ([0, 0, 0, 0])) 3))))])), ((x12.2.2.1.1, (x12.2.2.1.2.1, (x12.2.2.1.2.2.1, (x12.2.2.1.2.2.2.1, (x12.2.2.1.2.2.2.2.1, x12.2.2.1.2.2.2.2.2))))), (x12.2.2.2.1, (x12.2.2.2.2.1, x12.2.2.2.2.2))))
  else none) (
  (fun o => both o o) (
  bif decide ((x12.2.1.length + 1) * 32 ≤ LIM) then
  rec12 ((IntKind.wrap .i64 (x12.1 + 1)), (x12.2.1 ++ ([((rd (.int .u64) (r13.1 ++ ([0, 0, 0, 0])) 0), (r14, ((rd (.int .u64) (r13.1 ++ ([0, 0, 0, 0])) 2), (rd (.int .u64) (r13.1 ++ ([0, 0, 0, 0])) 3))))])), ((x12.2.2.1.1, (x12.2.2.1.2.1, (x12.2.2.1.2.2.1, (x12.2.2.1.2.2.2.1, (x12.2.2.1.2.2.2.2.1, x12.2.2.1.2.2.2.2.2))))), (x12.2.2.2.1, (x12.2.2.2.2.1, x12.2.2.2.2.2))))
  else none)))))
  else none
  else none
  else none
  else none
  else none)
  else (
  rec12 ((IntKind.wrap .i64 (x12.1 + 1)), x12.2.1, ((x12.2.2.1.1, (x12.2.2.1.2.1, (x12.2.2.1.2.2.1, (x12.2.2.1.2.2.2.1, (x12.2.2.1.2.2.2.2.1, x12.2.2.1.2.2.2.2.2))))), (x12.2.2.2.1, (x12.2.2.2.2.1, x12.2.2.2.2.2)))))
  else none)
  else (
  some (x12.2.2.1.1, x12.2.2.1.2.1, x12.2.2.1.2.2.1, x12.2.2.1.2.2.2.1, x12.2.2.1.2.2.2.2.1, x12.2.2.1.2.2.2.2.2, x12.2.1, x12.2.2.2.1, x12.2.2.2.2.1, x12.2.2.2.2.2))) (0, ([] : List (Int × (Int × (Int × Int)))), ((r1.1, (r3, (r4.1, (r5.1, (r7, r9.1))))), (r11.1.1, (r11.1.2.1, r11.1.2.2))))
theorem ev65 (b : List (Int × List Int)) : evF C84 H65 Try.f65 (encs [.oneA (.slice 26 (.pair (.int .u64) (.slice 5 (.int .u8))))] b) (RT.dec (.one (.agg [.int .u64, .int .i64, .int .u64, .int .u64, .int .i64, .sl 23 (.int .u64), .fresh 81 (.pair (.int .u64) (.pair (.int .i64) (.pair (.int .u64) (.int .u64)))), .int .u64, .sl 95 (.pair (.int .i64) (.pair (.int .u64) (.int .u64))), .int .i64]))) = F65 b := by kernel_rfl
noncomputable def C65 : Ctx := Ctx.addA C84 65 [.oneA (.slice 26 (.pair (.int .u64) (.slice 5 (.int .u8))))] (.one (.agg [.int .u64, .int .i64, .int .u64, .int .u64, .int .i64, .sl 23 (.int .u64), .fresh 81 (.pair (.int .u64) (.pair (.int .i64) (.pair (.int .u64) (.int .u64)))), .int .u64, .sl 95 (.pair (.int .i64) (.pair (.int .u64) (.int .u64))), .int .i64])) F65
theorem s65 : C65.Sound := Ctx.Sound.addA (C := C84) mixed s84 Try.func65 ev65
/-! damson/damsonref20.Get -/
def H38 : Nat → Head := fun _ => ⟨[], []⟩
noncomputable def F38 (b : List Int) : Option ((Int × Int × Int × Int × Int × List Int × (List (Int × (Int × (Int × Int)))) × Int × (List (Int × (Int × Int))) × Int) × Int) :=
 bif decide (4096 < (b.length : Int)) then (
 some ((0, 0, 0, 0, 0, ([] : List Int), ([] : List (Int × (Int × (Int × Int)))), 0, ([] : List (Int × (Int × Int))), 0), 4))
 else (
 (F23 b).bind fun r1 =>
 bif (!decide (r1.2 = 0)) then (
 some ((0, 0, 0, 0, 0, ([] : List Int), ([] : List (Int × (Int × (Int × Int)))), 0, ([] : List (Int × (Int × Int))), 0), 2))
 else (
 (F65 r1.1).bind fun r2 =>
 (F36 (r2.1, (r2.2.1, (r2.2.2.1, (r2.2.2.2.1, (r2.2.2.2.2.1, (r2.2.2.2.2.2.1, (r2.2.2.2.2.2.2.1, (r2.2.2.2.2.2.2.2.1, (r2.2.2.2.2.2.2.2.2.1, r2.2.2.2.2.2.2.2.2.2)))))))))).bind fun r3 =>
 bif ((!decide (r3.2 = 0)) == false) then (
 bif (!decide (r3.1 = b)) then (
 some ((0, 0, 0, 0, 0, ([] : List Int), ([] : List (Int × (Int × (Int × Int)))), 0, ([] : List (Int × (Int × Int))), 0), 2))
 else (
 some ((r2.1, r2.2.1, r2.2.2.1, r2.2.2.2.1, r2.2.2.2.2.1, r2.2.2.2.2.2.1, r2.2.2.2.2.2.2.1, r2.2.2.2.2.2.2.2.1, r2.2.2.2.2.2.2.2.2.1, r2.2.2.2.2.2.2.2.2.2), 0)))
 else (
 some ((0, 0, 0, 0, 0, ([] : List Int), ([] : List (Int × (Int × (Int × Int)))), 0, ([] : List (Int × (Int × Int))), 0), 2))))
theorem ev38 (b : List Int) : evF C65 H38 Try.f38 (encs [.oneA (.slice 5 (.int .u8))] b) (RT.dec (.tup [.agg [.int .u64, .int .i64, .int .u64, .int .u64, .int .i64, .sl 23 (.int .u64), .fresh 81 (.pair (.int .u64) (.pair (.int .i64) (.pair (.int .u64) (.int .u64)))), .int .u64, .sl 95 (.pair (.int .i64) (.pair (.int .u64) (.int .u64))), .int .i64], .leaf (.int .i64)])) = F38 b := by kernel_rfl
noncomputable def C38 : Ctx := Ctx.addA C65 38 [.oneA (.slice 5 (.int .u8))] (.tup [.agg [.int .u64, .int .i64, .int .u64, .int .u64, .int .i64, .sl 23 (.int .u64), .fresh 81 (.pair (.int .u64) (.pair (.int .i64) (.pair (.int .u64) (.int .u64)))), .int .u64, .sl 95 (.pair (.int .i64) (.pair (.int .u64) (.int .u64))), .int .i64], .leaf (.int .i64)]) F38
theorem s38 : C38.Sound := Ctx.Sound.addA (C := C65) mixed s65 Try.func38 ev38
/-! damson/damsonref01.SameNumbers -/
def H66 : Nat → Head
  | 4 => ⟨[.data 4 .bool, .data 13 (.int .i64)], []⟩
  | 5000006 => ⟨[], [0, 0, 0, 0, 3, 3, 4, 4, 0, 0, 0, 0, 48, 48, 64, 64, 136, 136]⟩
  | _ => ⟨[], []⟩
noncomputable def F66 (b : List Int × List Int) : Option Bool :=
 bif (!decide ((b.1.length : Int) = (b.2.length : Int))) then (
 some false)
 else (
 lfp (fun (rec1 : (Bool × Int) → Option Bool) (x1 : Bool × Int) =>
  bif decide (x1.2 < (b.1.length : Int)) then (
  bif inb x1.2 b.1.length then
  bif inb x1.2 b.2.length then
  bif (!decide ((rd (.int .u64) b.1 x1.2) = (rd (.int .u64) b.2 x1.2))) then (
  some false)
  else (
  rec1 (x1.1, (IntKind.wrap .i64 (x1.2 + 1))))
  else none
  else none)
  else (
  some true)) (false, 0))
theorem ev66 (b : List Int × List Int) : evF C38 H66 Try.f66 (encs [.one (.slice 23 (.int .u64)), .one (.slice 23 (.int .u64))] b) (RT.dec (.one (.leaf (.bool)))) = F66 b := by kernel_rfl
noncomputable def C66 : Ctx := Ctx.add C38 66 [.one (.slice 23 (.int .u64)), .one (.slice 23 (.int .u64))] (.one (.leaf (.bool))) F66
theorem s66 : C66.Sound := Ctx.Sound.add (C := C38) mixed s38 Try.func66 ev66
/-! damson/damsonref16.SameEvents -/
def H67 : Nat → Head
  | 4 => ⟨[.data 4 .bool, .data 13 (.int .i64)], []⟩
  | 5000006 => ⟨[], [0, 0, 0, 0, 3, 3, 4, 4, 0, 0, 0, 0, 48, 48, 64, 64, 136, 136]⟩
  | _ => ⟨[], []⟩
noncomputable def F67 (b : List (Int × (Int × (Int × Int))) × List (Int × (Int × (Int × Int)))) : Option Bool :=
 bif (!decide ((b.1.length : Int) = (b.2.length : Int))) then (
 some false)
 else (
 lfp (fun (rec1 : (Bool × Int) → Option Bool) (x1 : Bool × Int) =>
  bif decide (x1.2 < (b.1.length : Int)) then (
  bif inb x1.2 b.1.length then
  bif inb x1.2 b.2.length then
  bif (!(decide ((rd (.pair (.int .u64) (.pair (.int .i64) (.pair (.int .u64) (.int .u64)))) b.1 x1.2).1 = (rd (.pair (.int .u64) (.pair (.int .i64) (.pair (.int .u64) (.int .u64)))) b.2 x1.2).1) && (decide (((rd (.pair (.int .u64) (.pair (.int .i64) (.pair (.int .u64) (.int .u64)))) b.1 x1.2).2).1 = ((rd (.pair (.int .u64) (.pair (.int .i64) (.pair (.int .u64) (.int .u64)))) b.2 x1.2).2).1) && (decide ((((rd (.pair (.int .u64) (.pair (.int .i64) (.pair (.int .u64) (.int .u64)))) b.1 x1.2).2).2).1 = (((rd (.pair (.int .u64) (.pair (.int .i64) (.pair (.int .u64) (.int .u64)))) b.2 x1.2).2).2).1) && decide ((((rd (.pair (.int .u64) (.pair (.int .i64) (.pair (.int .u64) (.int .u64)))) b.1 x1.2).2).2).2 = (((rd (.pair (.int .u64) (.pair (.int .i64) (.pair (.int .u64) (.int .u64)))) b.2 x1.2).2).2).2))))) then (
  some false)
  else (
  rec1 (x1.1, (IntKind.wrap .i64 (x1.2 + 1))))
  else none
  else none)
  else (
  some true)) (false, 0))
theorem ev67 (b : List (Int × (Int × (Int × Int))) × List (Int × (Int × (Int × Int)))) : evF C66 H67 Try.f67 (encs [.one (.slice 81 (.pair (.int .u64) (.pair (.int .i64) (.pair (.int .u64) (.int .u64))))), .one (.slice 81 (.pair (.int .u64) (.pair (.int .i64) (.pair (.int .u64) (.int .u64)))))] b) (RT.dec (.one (.leaf (.bool)))) = F67 b := by kernel_rfl
noncomputable def C67 : Ctx := Ctx.add C66 67 [.one (.slice 81 (.pair (.int .u64) (.pair (.int .i64) (.pair (.int .u64) (.int .u64))))), .one (.slice 81 (.pair (.int .u64) (.pair (.int .i64) (.pair (.int .u64) (.int .u64)))))] (.one (.leaf (.bool))) F67
theorem s67 : C67.Sound := Ctx.Sound.add (C := C66) mixed s66 Try.func67 ev67
/-! damson/damsonref20.Same -/
def H39 : Nat → Head := fun _ => ⟨[], []⟩
noncomputable def F39 (b : (Int × (Int × (Int × (Int × (Int × (List Int × (List (Int × (Int × (Int × Int))) × (Int × (List (Int × (Int × Int)) × Int))))))))) × (Int × (Int × (Int × (Int × (Int × (List Int × (List (Int × (Int × (Int × Int))) × (Int × (List (Int × (Int × Int)) × Int)))))))))) : Option Bool :=
 bif ((bif (bif (bif (bif decide (b.1.1 = b.2.1) then decide (b.1.2.1 = b.2.2.1) else false) then decide (b.1.2.2.1 = b.2.2.2.1) else false) then decide (b.1.2.2.2.1 = b.2.2.2.2.1) else false) then decide (b.1.2.2.2.2.1 = b.2.2.2.2.2.1) else false) == true) then (
 (F66 (b.1.2.2.2.2.2.1, b.2.2.2.2.2.2.1)).bind fun r1 =>
 bif (r1 == true) then (
 (F67 (b.1.2.2.2.2.2.2.1, b.2.2.2.2.2.2.2.1)).bind fun r2 =>
 bif (r2 == true) then (
 (F61 ((b.1.2.2.2.2.2.2.2.1, (b.1.2.2.2.2.2.2.2.2.1, b.1.2.2.2.2.2.2.2.2.2)), (b.2.2.2.2.2.2.2.2.1, (b.2.2.2.2.2.2.2.2.2.1, b.2.2.2.2.2.2.2.2.2.2)))).bind fun r3 =>
 some r3)
 else (
 some false))
 else (
 some false))
 else (
 some false)
theorem ev39 (b : (Int × (Int × (Int × (Int × (Int × (List Int × (List (Int × (Int × (Int × Int))) × (Int × (List (Int × (Int × Int)) × Int))))))))) × (Int × (Int × (Int × (Int × (Int × (List Int × (List (Int × (Int × (Int × Int))) × (Int × (List (Int × (Int × Int)) × Int)))))))))) : evF C67 H39 Try.f39 (encs [.agg (.pair (.int .u64) (.pair (.int .i64) (.pair (.int .u64) (.pair (.int .u64) (.pair (.int .i64) (.pair (.slice 23 (.int .u64)) (.pair (.slice 81 (.pair (.int .u64) (.pair (.int .i64) (.pair (.int .u64) (.int .u64))))) (.pair (.int .u64) (.pair (.slice 95 (.pair (.int .i64) (.pair (.int .u64) (.int .u64)))) (.int .i64)))))))))), .agg (.pair (.int .u64) (.pair (.int .i64) (.pair (.int .u64) (.pair (.int .u64) (.pair (.int .i64) (.pair (.slice 23 (.int .u64)) (.pair (.slice 81 (.pair (.int .u64) (.pair (.int .i64) (.pair (.int .u64) (.int .u64))))) (.pair (.int .u64) (.pair (.slice 95 (.pair (.int .i64) (.pair (.int .u64) (.int .u64)))) (.int .i64))))))))))] b) (RT.dec (.one (.leaf (.bool)))) = F39 b := by kernel_rfl
noncomputable def C39 : Ctx := Ctx.add C67 39 [.agg (.pair (.int .u64) (.pair (.int .i64) (.pair (.int .u64) (.pair (.int .u64) (.pair (.int .i64) (.pair (.slice 23 (.int .u64)) (.pair (.slice 81 (.pair (.int .u64) (.pair (.int .i64) (.pair (.int .u64) (.int .u64))))) (.pair (.int .u64) (.pair (.slice 95 (.pair (.int .i64) (.pair (.int .u64) (.int .u64)))) (.int .i64)))))))))), .agg (.pair (.int .u64) (.pair (.int .i64) (.pair (.int .u64) (.pair (.int .u64) (.pair (.int .i64) (.pair (.slice 23 (.int .u64)) (.pair (.slice 81 (.pair (.int .u64) (.pair (.int .i64) (.pair (.int .u64) (.int .u64))))) (.pair (.int .u64) (.pair (.slice 95 (.pair (.int .i64) (.pair (.int .u64) (.int .u64)))) (.int .i64))))))))))] (.one (.leaf (.bool))) F39
theorem s39 : C39.Sound := Ctx.Sound.add (C := C67) mixed s67 Try.func39 ev39
/-! damson/damsonlaw20.ReplyDoes -/
def H11 : Nat → Head
  | 5000009 => ⟨[], [0, 0, 0, 0, 3, 3, 4, 4, 8, 8, 8, 8, 56, 56, 72, 72, 136, 128, 256, 256, 256, 256, 1792, 1792, 2304, 2304, 6144, 4096, 8192, 8192, 8192, 8192, 57344, 57344, 73728, 73728, 139264, 131072, 262144, 262144, 786432, 786432, 262144, 262144, 3407872, 2359296, 5505024, 5505024, 8650752, 8650752, 20971520, 16777216, 33554432, 33554432, 33554432, 33554432, 234881024, 234881024, 33554432, 33554432, 33554432, 33554432, 1912602624, 1644167168, 2449473536, 2449473536, 4328521728, 4328521728, 17179869183, 8589934592]⟩
  | _ => ⟨[], []⟩
noncomputable def F11 (b : (Int × (Int × (Int × (Int × (Int × (List Int × (List (Int × (Int × (Int × Int))) × (Int × (List (Int × (Int × Int)) × Int))))))))) × (Int × (Int × (Int × (Int × (Int × (List Int × (List (Int × (Int × (Int × Int))) × (Int × (List (Int × (Int × Int)) × Int))))))))) × List Int) : Option Bool :=
 (F31 ()).bind fun r1 =>
 bif (!r1) then (
 some false)
 else (
 (F32 (b.1.1, (b.1.2.1, (b.1.2.2.1, (b.1.2.2.2.1, (b.1.2.2.2.2.1, (b.1.2.2.2.2.2.1, (b.1.2.2.2.2.2.2.1, (b.1.2.2.2.2.2.2.2.1, (b.1.2.2.2.2.2.2.2.2.1, b.1.2.2.2.2.2.2.2.2.2)))))))))).bind fun r2 =>
 bif ((!r2) == false) then (
 (F32 (b.2.1.1, (b.2.1.2.1, (b.2.1.2.2.1, (b.2.1.2.2.2.1, (b.2.1.2.2.2.2.1, (b.2.1.2.2.2.2.2.1, (b.2.1.2.2.2.2.2.2.1, (b.2.1.2.2.2.2.2.2.2.1, (b.2.1.2.2.2.2.2.2.2.2.1, b.2.1.2.2.2.2.2.2.2.2.2)))))))))).bind fun r3 =>
 bif ((!r3) == false) then (
 bif (bif (bif decide (1500 < (b.2.2.length : Int)) then decide ((b.2.2.length : Int) ≤ 4096) else false) then true else decide (4100 < (b.2.2.length : Int))) then (
 some true)
 else (
 (F33 (b.1.1, (b.1.2.1, (b.1.2.2.1, (b.1.2.2.2.1, (b.1.2.2.2.2.1, (b.1.2.2.2.2.2.1, (b.1.2.2.2.2.2.2.1, (b.1.2.2.2.2.2.2.2.1, (b.1.2.2.2.2.2.2.2.2.1, b.1.2.2.2.2.2.2.2.2.2)))))))))).bind fun r4 =>
 (F36 (b.1.1, (b.1.2.1, (b.1.2.2.1, (b.1.2.2.2.1, (b.1.2.2.2.2.1, (b.1.2.2.2.2.2.1, (b.1.2.2.2.2.2.2.1, (b.1.2.2.2.2.2.2.2.1, (b.1.2.2.2.2.2.2.2.2.1, b.1.2.2.2.2.2.2.2.2.2)))))))))).bind fun r5 =>
 (F37 b.2.2).bind fun r6 =>
 (F38 b.2.2).bind fun r7 =>
 (F18 (r4.1, r5.1)).bind fun r8 =>
 (fun o => both o o) (
 bif ((bif r8 then decide (r4.2 = r5.2) else false) == true) then (
 (F39 ((r6.1.1, (r6.1.2.1, (r6.1.2.2.1, (r6.1.2.2.2.1, (r6.1.2.2.2.2.1, (r6.1.2.2.2.2.2.1, (r6.1.2.2.2.2.2.2.1, (r6.1.2.2.2.2.2.2.2.1, (r6.1.2.2.2.2.2.2.2.2.1, r6.1.2.2.2.2.2.2.2.2.2))))))))), (r7.1.1, (r7.1.2.1, (r7.1.2.2.1, (r7.1.2.2.2.1, (r7.1.2.2.2.2.1, (r7.1.2.2.2.2.2.1, (r7.1.2.2.2.2.2.2.1, (r7.1.2.2.2.2.2.2.2.1, (r7.1.2.2.2.2.2.2.2.2.1, r7.1.2.2.2.2.2.2.2.2.2))))))))))).bind fun r9 =>
 (both (
 (fun o => both o o) (
 bif ((bif r9 then decide (r6.2 = r7.2) else false) == true) then (
 (F34 (b.1.1, (b.1.2.1, (b.1.2.2.1, (b.1.2.2.2.1, (b.1.2.2.2.2.1, (b.1.2.2.2.2.2.1, (b.1.2.2.2.2.2.2.1, (b.1.2.2.2.2.2.2.2.1, (b.1.2.2.2.2.2.2.2.2.1, b.1.2.2.2.2.2.2.2.2.2)))))))))).bind fun r10 =>
 (F40 (b.1.1, (b.1.2.1, (b.1.2.2.1, (b.1.2.2.2.1, (b.1.2.2.2.2.1, (b.1.2.2.2.2.2.1, (b.1.2.2.2.2.2.2.1, (b.1.2.2.2.2.2.2.2.1, (b.1.2.2.2.2.2.2.2.2.1, b.1.2.2.2.2.2.2.2.2.2)))))))))).bind fun r11 =>
 (both (
 (both (
 (both (
 bif (decide (r10 = r11) == true) then (
 (F35 ((b.1.1, (b.1.2.1, (b.1.2.2.1, (b.1.2.2.2.1, (b.1.2.2.2.2.1, (b.1.2.2.2.2.2.1, (b.1.2.2.2.2.2.2.1, (b.1.2.2.2.2.2.2.2.1, (b.1.2.2.2.2.2.2.2.2.1, b.1.2.2.2.2.2.2.2.2.2))))))))), (b.2.1.1, (b.2.1.2.1, (b.2.1.2.2.1, (b.2.1.2.2.2.1, (b.2.1.2.2.2.2.1, (b.2.1.2.2.2.2.2.1, (b.2.1.2.2.2.2.2.2.1, (b.2.1.2.2.2.2.2.2.2.1, (b.2.1.2.2.2.2.2.2.2.2.1, b.2.1.2.2.2.2.2.2.2.2.2))))))))))).bind fun r12 =>
 (fun o => both o o) (
 (F39 ((b.1.1, (b.1.2.1, (b.1.2.2.1, (b.1.2.2.2.1, (b.1.2.2.2.2.1, (b.1.2.2.2.2.2.1, (b.1.2.2.2.2.2.2.1, (b.1.2.2.2.2.2.2.2.1, (b.1.2.2.2.2.2.2.2.2.1, b.1.2.2.2.2.2.2.2.2.2))))))))), (b.2.1.1, (b.2.1.2.1, (b.2.1.2.2.1, (b.2.1.2.2.2.1, (b.2.1.2.2.2.2.1, (b.2.1.2.2.2.2.2.1, (b.2.1.2.2.2.2.2.2.1, (b.2.1.2.2.2.2.2.2.2.1, (b.2.1.2.2.2.2.2.2.2.2.1, b.2.1.2.2.2.2.2.2.2.2.2))))))))))).bind fun r13 =>
 some (r12 == r13)))
 else (
 (fun o => both o o) (
 some false))) (both (
 (fun o => both o o) (
 bif (decide (r10 = r11) == true) then (
 (F35 ((b.1.1, (b.1.2.1, (b.1.2.2.1, (b.1.2.2.2.1, (b.1.2.2.2.2.1, (b.1.2.2.2.2.2.1, (b.1.2.2.2.2.2.2.1, (b.1.2.2.2.2.2.2.2.1, (b.1.2.2.2.2.2.2.2.2.1, b.1.2.2.2.2.2.2.2.2.2))))))))), (b.2.1.1, (b.2.1.2.1, (b.2.1.2.2.1, (b.2.1.2.2.2.1, (b.2.1.2.2.2.2.1, (b.2.1.2.2.2.2.2.1, (b.2.1.2.2.2.2.2.2.1, (b.2.1.2.2.2.2.2.2.2.1, (b.2.1.2.2.2.2.2.2.2.2.1, b.2.1.2.2.2.2.2.2.2.2.2))))))))))).bind fun r12 =>
 (F39 ((b.1.1, (b.1.2.1, (b.1.2.2.1, (b.1.2.2.2.1, (b.1.2.2.2.2.1, (b.1.2.2.2.2.2.1, (b.1.2.2.2.2.2.2.1, (b.1.2.2.2.2.2.2.2.1, (b.1.2.2.2.2.2.2.2.2.1, b.1.2.2.2.2.2.2.2.2.2))))))))), (b.2.1.1, (b.2.1.2.1, (b.2.1.2.2.1, (b.2.1.2.2.2.1, (b.2.1.2.2.2.2.1, (b.2.1.2.2.2.2.2.1, (b.2.1.2.2.2.2.2.2.1, (b.2.1.2.2.2.2.2.2.2.1, (b.2.1.2.2.2.2.2.2.2.2.1, b.2.1.2.2.2.2.2.2.2.2.2))))))))))).bind fun r13 =>
 some (r12 == r13))
 else (
 some false))) (
 (fun o => both o o) (
 bif (decide (r10 = r11) == true) then (
 (F35 ((b.1.1, (b.1.2.1, (b.1.2.2.1, (b.1.2.2.2.1, (b.1.2.2.2.2.1, (b.1.2.2.2.2.2.1, (b.1.2.2.2.2.2.2.1, (b.1.2.2.2.2.2.2.2.1, (b.1.2.2.2.2.2.2.2.2.1, b.1.2.2.2.2.2.2.2.2.2))))))))), (b.2.1.1, (b.2.1.2.1, (b.2.1.2.2.1, (b.2.1.2.2.2.1, (b.2.1.2.2.2.2.1, (b.2.1.2.2.2.2.2.1, (b.2.1.2.2.2.2.2.2.1, (b.2.1.2.2.2.2.2.2.2.1, (b.2.1.2.2.2.2.2.2.2.2.1, b.2.1.2.2.2.2.2.2.2.2.2))))))))))).bind fun r12 =>
 (F39 ((b.1.1, (b.1.2.1, (b.1.2.2.1, (b.1.2.2.2.1, (b.1.2.2.2.2.1, (b.1.2.2.2.2.2.1, (b.1.2.2.2.2.2.2.1, (b.1.2.2.2.2.2.2.2.1, (b.1.2.2.2.2.2.2.2.2.1, b.1.2.2.2.2.2.2.2.2.2))))))))), (b.2.1.1, (b.2.1.2.1, (b.2.1.2.2.1, (b.2.1.2.2.2.1, (b.2.1.2.2.2.2.1, (b.2.1.2.2.2.2.2.1, (b.2.1.2.2.2.2.2.2.1, (b.2.1.2.2.2.2.2.2.2.1, (b.2.1.2.2.2.2.2.2.2.2.1, b.2.1.2.2.2.2.2.2.2.2.2))))))))))).bind fun r13 =>
 some (r12 == r13))
 else (
 some false)))))) (both (
 (both (
 (fun o => both o o) (
 bif (decide (r10 = r11) == true) then (
 (F35 ((b.1.1, (b.1.2.1, (b.1.2.2.1, (b.1.2.2.2.1, (b.1.2.2.2.2.1, (b.1.2.2.2.2.2.1, (b.1.2.2.2.2.2.2.1, (b.1.2.2.2.2.2.2.2.1, (b.1.2.2.2.2.2.2.2.2.1, b.1.2.2.2.2.2.2.2.2.2))))))))), (b.2.1.1, (b.2.1.2.1, (b.2.1.2.2.1, (b.2.1.2.2.2.1, (b.2.1.2.2.2.2.1, (b.2.1.2.2.2.2.2.1, (b.2.1.2.2.2.2.2.2.1, (b.2.1.2.2.2.2.2.2.2.1, (b.2.1.2.2.2.2.2.2.2.2.1, b.2.1.2.2.2.2.2.2.2.2.2))))))))))).bind fun r12 =>
 (F39 ((b.1.1, (b.1.2.1, (b.1.2.2.1, (b.1.2.2.2.1, (b.1.2.2.2.2.1, (b.1.2.2.2.2.2.1, (b.1.2.2.2.2.2.2.1, (b.1.2.2.2.2.2.2.2.1, (b.1.2.2.2.2.2.2.2.2.1, b.1.2.2.2.2.2.2.2.2.2))))))))), (b.2.1.1, (b.2.1.2.1, (b.2.1.2.2.1, (b.2.1.2.2.2.1, (b.2.1.2.2.2.2.1, (b.2.1.2.2.2.2.2.1, (b.2.1.2.2.2.2.2.2.1, (b.2.1.2.2.2.2.2.2.2.1, (b.2.1.2.2.2.2.2.2.2.2.1, b.2.1.2.2.2.2.2.2.2.2.2))))))))))).bind fun r13 =>
 some (r12 == r13))
 else (
 some false))) (
 bif (decide (r10 = r11) == true) then (
 (F35 ((b.1.1, (b.1.2.1, (b.1.2.2.1, (b.1.2.2.2.1, (b.1.2.2.2.2.1, (b.1.2.2.2.2.2.1, (b.1.2.2.2.2.2.2.1, (b.1.2.2.2.2.2.2.2.1, (b.1.2.2.2.2.2.2.2.2.1, b.1.2.2.2.2.2.2.2.2.2))))))))), (b.2.1.1, (b.2.1.2.1, (b.2.1.2.2.1, (b.2.1.2.2.2.1, (b.2.1.2.2.2.2.1, (b.2.1.2.2.2.2.2.1, (b.2.1.2.2.2.2.2.2.1, (b.2.1.2.2.2.2.2.2.2.1, (b.2.1.2.2.2.2.2.2.2.2.1, b.2.1.2.2.2.2.2.2.2.2.2))))))))))).bind fun r12 =>
 (F39 ((b.1.1, (b.1.2.1, (b.1.2.2.1, (b.1.2.2.2.1, (b.1.2.2.2.2.1, (b.1.2.2.2.2.2.1, (b.1.2.2.2.2.2.2.1, (b.1.2.2.2.2.2.2.2.1, (b.1.2.2.2.2.2.2.2.2.1, b.1.2.2.2.2.2.2.2.2.2))))))))), (b.2.1.1, (b.2.1.2.1, (b.2.1.2.2.1, (b.2.1.2.2.2.1, (b.2.1.2.2.2.2.1, (b.2.1.2.2.2.2.2.1, (b.2.1.2.2.2.2.2.2.1, (b.2.1.2.2.2.2.2.2.2.1, (b.2.1.2.2.2.2.2.2.2.2.1, b.2.1.2.2.2.2.2.2.2.2.2))))))))))).bind fun r13 =>
 some (r12 == r13))
 else (
 some false)))) (
 (both (
 (fun o => both o o) (
 bif (decide (r10 = r11) == true) then (
 (F35 ((b.1.1, (b.1.2.1, (b.1.2.2.1, (b.1.2.2.2.1, (b.1.2.2.2.2.1, (b.1.2.2.2.2.2.1, (b.1.2.2.2.2.2.2.1, (b.1.2.2.2.2.2.2.2.1, (b.1.2.2.2.2.2.2.2.2.1, b.1.2.2.2.2.2.2.2.2.2))))))))), (b.2.1.1, (b.2.1.2.1, (b.2.1.2.2.1, (b.2.1.2.2.2.1, (b.2.1.2.2.2.2.1, (b.2.1.2.2.2.2.2.1, (b.2.1.2.2.2.2.2.2.1, (b.2.1.2.2.2.2.2.2.2.1, (b.2.1.2.2.2.2.2.2.2.2.1, b.2.1.2.2.2.2.2.2.2.2.2))))))))))).bind fun r12 =>
 (F39 ((b.1.1, (b.1.2.1, (b.1.2.2.1, (b.1.2.2.2.1, (b.1.2.2.2.2.1, (b.1.2.2.2.2.2.1, (b.1.2.2.2.2.2.2.1, (b.1.2.2.2.2.2.2.2.1, (b.1.2.2.2.2.2.2.2.2.1, b.1.2.2.2.2.2.2.2.2.2))))))))), (b.2.1.1, (b.2.1.2.1, (b.2.1.2.2.1, (b.2.1.2.2.2.1, (b.2.1.2.2.2.2.1, (b.2.1.2.2.2.2.2.1, (b.2.1.2.2.2.2.2.2.1, (b.2.1.2.2.2.2.2.2.2.1, (b.2.1.2.2.2.2.2.2.2.2.1, b.2.1.2.2.2.2.2.2.2.2.2))))))))))).bind fun r13 =>
 some (r12 == r13))
 else (
 some false))) (
 bif (decide (r10 = r11) == true) then (
 (F35 ((b.1.1, (b.1.2.1, (b.1.2.2.1, (b.1.2.2.2.1, (b.1.2.2.2.2.1, (b.1.2.2.2.2.2.1, (b.1.2.2.2.2.2.2.1, (b.1.2.2.2.2.2.2.2.1, (b.1.2.2.2.2.2.2.2.2.1, b.1.2.2.2.2.2.2.2.2.2))))))))), (b.2.1.1, (b.2.1.2.1, (b.2.1.2.2.1, (b.2.1.2.2.2.1, (b.2.1.2.2.2.2.1, (b.2.1.2.2.2.2.2.1, (b.2.1.2.2.2.2.2.2.1, (b.2.1.2.2.2.2.2.2.2.1, (b.2.1.2.2.2.2.2.2.2.2.1, b.2.1.2.2.2.2.2.2.2.2.2))))))))))).bind fun r12 =>
 (F39 ((b.1.1, (b.1.2.1, (b.1.2.2.1, (b.1.2.2.2.1, (b.1.2.2.2.2.1, (b.1.2.2.2.2.2.1, (b.1.2.2.2.2.2.2.1, (b.1.2.2.2.2.2.2.2.1, (b.1.2.2.2.2.2.2.2.2.1, b.1.2.2.2.2.2.2.2.2.2))))))))), (b.2.1.1, (b.2.1.2.1, (b.2.1.2.2.1, (b.2.1.2.2.2.1, (b.2.1.2.2.2.2.1, (b.2.1.2.2.2.2.2.1, (b.2.1.2.2.2.2.2.2.1, (b.2.1.2.2.2.2.2.2.2.1, (b.2.1.2.2.2.2.2.2.2.2.1, b.2.1.2.2.2.2.2.2.2.2.2))))))))))).bind fun r13 =>
 some (r12 == r13))
 else (
 some false))))))) (both (
 (both (
 (both (
 bif (decide (r10 = r11) == true) then (
 (F35 ((b.1.1, (b.1.2.1, (b.1.2.2.1, (b.1.2.2.2.1, (b.1.2.2.2.2.1, (b.1.2.2.2.2.2.1, (b.1.2.2.2.2.2.2.1, (b.1.2.2.2.2.2.2.2.1, (b.1.2.2.2.2.2.2.2.2.1, b.1.2.2.2.2.2.2.2.2.2))))))))), (b.2.1.1, (b.2.1.2.1, (b.2.1.2.2.1, (b.2.1.2.2.2.1, (b.2.1.2.2.2.2.1, (b.2.1.2.2.2.2.2.1, (b.2.1.2.2.2.2.2.2.1, (b.2.1.2.2.2.2.2.2.2.1, (b.2.1.2.2.2.2.2.2.2.2.1, b.2.1.2.2.2.2.2.2.2.2.2))))))))))).bind fun r12 =>
 (fun o => both o o) (
 (F39 ((b.1.1, (b.1.2.1, (b.1.2.2.1, (b.1.2.2.2.1, (b.1.2.2.2.2.1, (b.1.2.2.2.2.2.1, (b.1.2.2.2.2.2.2.1, (b.1.2.2.2.2.2.2.2.1, (b.1.2.2.2.2.2.2.2.2.1, b.1.2.2.2.2.2.2.2.2.2))))))))), (b.2.1.1, (b.2.1.2.1, (b.2.1.2.2.1, (b.2.1.2.2.2.1, (b.2.1.2.2.2.2.1, (b.2.1.2.2.2.2.2.1, (b.2.1.2.2.2.2.2.2.1, (b.2.1.2.2.2.2.2.2.2.1, (b.2.1.2.2.2.2.2.2.2.2.1, b.2.1.2.2.2.2.2.2.2.2.2))))))))))).bind fun r13 =>
 some (r12 == r13)))
 else (
 (fun o => both o o) (
 some false))) (both (
 (fun o => both o o) (
 bif (decide (r10 = r11) == true) then (
 (F35 ((b.1.1, (b.1.2.1, (b.1.2.2.1, (b.1.2.2.2.1, (b.1.2.2.2.2.1, (b.1.2.2.2.2.2.1, (b.1.2.2.2.2.2.2.1, (b.1.2.2.2.2.2.2.2.1, (b.1.2.2.2.2.2.2.2.2.1, b.1.2.2.2.2.2.2.2.2.2))))))))), (b.2.1.1, (b.2.1.2.1, (b.2.1.2.2.1, (b.2.1.2.2.2.1, (b.2.1.2.2.2.2.1, (b.2.1.2.2.2.2.2.1, (b.2.1.2.2.2.2.2.2.1, (b.2.1.2.2.2.2.2.2.2.1, (b.2.1.2.2.2.2.2.2.2.2.1, b.2.1.2.2.2.2.2.2.2.2.2))))))))))).bind fun r12 =>
 (F39 ((b.1.1, (b.1.2.1, (b.1.2.2.1, (b.1.2.2.2.1, (b.1.2.2.2.2.1, (b.1.2.2.2.2.2.1, (b.1.2.2.2.2.2.2.1, (b.1.2.2.2.2.2.2.2.1, (b.1.2.2.2.2.2.2.2.2.1, b.1.2.2.2.2.2.2.2.2.2))))))))), (b.2.1.1, (b.2.1.2.1, (b.2.1.2.2.1, (b.2.1.2.2.2.1, (b.2.1.2.2.2.2.1, (b.2.1.2.2.2.2.2.1, (b.2.1.2.2.2.2.2.2.1, (b.2.1.2.2.2.2.2.2.2.1, (b.2.1.2.2.2.2.2.2.2.2.1, b.2.1.2.2.2.2.2.2.2.2.2))))))))))).bind fun r13 =>
 some (r12 == r13))
 else (
 some false))) (
 (fun o => both o o) (
 bif (decide (r10 = r11) == true) then (
 (F35 ((b.1.1, (b.1.2.1, (b.1.2.2.1, (b.1.2.2.2.1, (b.1.2.2.2.2.1, (b.1.2.2.2.2.2.1, (b.1.2.2.2.2.2.2.1, (b.1.2.2.2.2.2.2.2.1, (b.1.2.2.2.2.2.2.2.2.1, b.1.2.2.2.2.2.2.2.2.2))))))))), (b.2.1.1, (b.2.1.2.1, (b.2.1.2.2.1, (b.2.1.2.2.2.1, (b.2.1.2.2.2.2.1, (b.2.1.2.2.2.2.2.1, (b.2.1.2.2.2.2.2.2.1, (b.2.1.2.2.2.2.2.2.2.1, (b.2.1.2.2.2.2.2.2.2.2.1, b.2.1.2.2.2.2.2.2.2.2.2))))))))))).bind fun r12 =>
 (F39 ((b.1.1, (b.1.2.1, (b.1.2.2.1, (b.1.2.2.2.1, (b.1.2.2.2.2.1, (b.1.2.2.2.2.2.1, (b.1.2.2.2.2.2.2.1, (b.1.2.2.2.2.2.2.2.1, (b.1.2.2.2.2.2.2.2.2.1, b.1.2.2.2.2.2.2.2.2.2))))))))), (b.2.1.1, (b.2.1.2.1, (b.2.1.2.2.1, (b.2.1.2.2.2.1, (b.2.1.2.2.2.2.1, (b.2.1.2.2.2.2.2.1, (b.2.1.2.2.2.2.2.2.1, (b.2.1.2.2.2.2.2.2.2.1, (b.2.1.2.2.2.2.2.2.2.2.1, b.2.1.2.2.2.2.2.2.2.2.2))))))))))).bind fun r13 =>
 some (r12 == r13))
 else (
 some false)))))) (both (
 (both (
 (fun o => both o o) (
 bif (decide (r10 = r11) == true) then (
 (F35 ((b.1.1, (b.1.2.1, (b.1.2.2.1, (b.1.2.2.2.1, (b.1.2.2.2.2.1, (b.1.2.2.2.2.2.1, (b.1.2.2.2.2.2.2.1, (b.1.2.2.2.2.2.2.2.1, (b.1.2.2.2.2.2.2.2.2.1, b.1.2.2.2.2.2.2.2.2.2))))))))), (b.2.1.1, (b.2.1.2.1, (b.2.1.2.2.1, (b.2.1.2.2.2.1, (b.2.1.2.2.2.2.1, (b.2.1.2.2.2.2.2.1, (b.2.1.2.2.2.2.2.2.1, (b.2.1.2.2.2.2.2.2.2.1, (b.2.1.2.2.2.2.2.2.2.2.1, b.2.1.2.2.2.2.2.2.2.2.2))))))))))).bind fun r12 =>
 (F39 ((b.1.1, (b.1.2.1, (b.1.2.2.1, (b.1.2.2.2.1, (b.1.2.2.2.2.1, (b.1.2.2.2.2.2.1, (b.1.2.2.2.2.2.2.1, (b.1.2.2.2.2.2.2.2.1, (b.1.2.2.2.2.2.2.2.2.1, b.1.2.2.2.2.2.2.2.2.2))))))))), (b.2.1.1, (b.2.1.2.1, (b.2.1.2.2.1, (b.2.1.2.2.2.1, (b.2.1.2.2.2.2.1, (b.2.1.2.2.2.2.2.1, (b.2.1.2.2.2.2.2.2.1, (b.2.1.2.2.2.2.2.2.2.1, (b.2.1.2.2.2.2.2.2.2.2.1, b.2.1.2.2.2.2.2.2.2.2.2))))))))))).bind fun r13 =>
 some (r12 == r13))
 else (
 some false))) (
 bif (decide (r10 = r11) == true) then (
 (F35 ((b.1.1, (b.1.2.1, (b.1.2.2.1, (b.1.2.2.2.1, (b.1.2.2.2.2.1, (b.1.2.2.2.2.2.1, (b.1.2.2.2.2.2.2.1, (b.1.2.2.2.2.2.2.2.1, (b.1.2.2.2.2.2.2.2.2.1, b.1.2.2.2.2.2.2.2.2.2))))))))), (b.2.1.1, (b.2.1.2.1, (b.2.1.2.2.1, (b.2.1.2.2.2.1, (b.2.1.2.2.2.2.1, (b.2.1.2.2.2.2.2.1, (b.2.1.2.2.2.2.2.2.1, (b.2.1.2.2.2.2.2.2.2.1, (b.2.1.2.2.2.2.2.2.2.2.1, b.2.1.2.2.2.2.2.2.2.2.2))))))))))).bind fun r12 =>
 (F39 ((b.1.1, (b.1.2.1, (b.1.2.2.1, (b.1.2.2.2.1, (b.1.2.2.2.2.1, (b.1.2.2.2.2.2.1, (b.1.2.2.2.2.2.2.1, (b.1.2.2.2.2.2.2.2.1, (b.1.2.2.2.2.2.2.2.2.1, b.1.2.2.2.2.2.2.2.2.2))))))))), (b.2.1.1, (b.2.1.2.1, (b.2.1.2.2.1, (b.2.1.2.2.2.1, (b.2.1.2.2.2.2.1, (b.2.1.2.2.2.2.2.1, (b.2.1.2.2.2.2.2.2.1, (b.2.1.2.2.2.2.2.2.2.1, (b.2.1.2.2.2.2.2.2.2.2.1, b.2.1.2.2.2.2.2.2.2.2.2))))))))))).bind fun r13 =>
 some (r12 == r13))
 else (
 some false)))) (
 (both (
 (fun o => both o o) (
 bif (decide (r10 = r11) == true) then (
 (F35 ((b.1.1, (b.1.2.1, (b.1.2.2.1, (b.1.2.2.2.1, (b.1.2.2.2.2.1, (b.1.2.2.2.2.2.1, (b.1.2.2.2.2.2.2.1, (b.1.2.2.2.2.2.2.2.1, (b.1.2.2.2.2.2.2.2.2.1, b.1.2.2.2.2.2.2.2.2.2))))))))), (b.2.1.1, (b.2.1.2.1, (b.2.1.2.2.1, (b.2.1.2.2.2.1, (b.2.1.2.2.2.2.1, (b.2.1.2.2.2.2.2.1, (b.2.1.2.2.2.2.2.2.1, (b.2.1.2.2.2.2.2.2.2.1, (b.2.1.2.2.2.2.2.2.2.2.1, b.2.1.2.2.2.2.2.2.2.2.2))))))))))).bind fun r12 =>
 (F39 ((b.1.1, (b.1.2.1, (b.1.2.2.1, (b.1.2.2.2.1, (b.1.2.2.2.2.1, (b.1.2.2.2.2.2.1, (b.1.2.2.2.2.2.2.1, (b.1.2.2.2.2.2.2.2.1, (b.1.2.2.2.2.2.2.2.2.1, b.1.2.2.2.2.2.2.2.2.2))))))))), (b.2.1.1, (b.2.1.2.1, (b.2.1.2.2.1, (b.2.1.2.2.2.1, (b.2.1.2.2.2.2.1, (b.2.1.2.2.2.2.2.1, (b.2.1.2.2.2.2.2.2.1, (b.2.1.2.2.2.2.2.2.2.1, (b.2.1.2.2.2.2.2.2.2.2.1, b.2.1.2.2.2.2.2.2.2.2.2))))))))))).bind fun r13 =>
 some (r12 == r13))
 else (
 some false))) (
 bif (decide (r10 = r11) == true) then (
 (F35 ((b.1.1, (b.1.2.1, (b.1.2.2.1, (b.1.2.2.2.1, (b.1.2.2.2.2.1, (b.1.2.2.2.2.2.1, (b.1.2.2.2.2.2.2.1, (b.1.2.2.2.2.2.2.2.1, (b.1.2.2.2.2.2.2.2.2.1, b.1.2.2.2.2.2.2.2.2.2))))))))), (b.2.1.1, (b.2.1.2.1, (b.2.1.2.2.1, (b.2.1.2.2.2.1, (b.2.1.2.2.2.2.1, (b.2.1.2.2.2.2.2.1, (b.2.1.2.2.2.2.2.2.1, (b.2.1.2.2.2.2.2.2.2.1, (b.2.1.2.2.2.2.2.2.2.2.1, b.2.1.2.2.2.2.2.2.2.2.2))))))))))).bind fun r12 =>
 (F39 ((b.1.1, (b.1.2.1, (b.1.2.2.1, (b.1.2.2.2.1, (b.1.2.2.2.2.1, (b.1.2.2.2.2.2.1, (b.1.2.2.2.2.2.2.1, (b.1.2.2.2.2.2.2.2.1, (b.1.2.2.2.2.2.2.2.2.1, b.1.2.2.2.2.2.2.2.2.2))))))))), (b.2.1.1, (b.2.1.2.1, (b.2.1.2.2.1, (b.2.1.2.2.2.1, (b.2.1.2.2.2.2.1, (b.2.1.2.2.2.2.2.1, (b.2.1.2.2.2.2.2.2.1, (b.2.1.2.2.2.2.2.2.2.1, (b.2.1.2.2.2.2.2.2.2.2.1, b.2.1.2.2.2.2.2.2.2.2.2))))))))))).bind fun r13 =>
 some (r12 == r13))
 else (
 some false))))))) (both (
 (both (
 (both (
 (fun o => both o o) (
 bif (decide (r10 = r11) == true) then (
 (F35 ((b.1.1, (b.1.2.1, (b.1.2.2.1, (b.1.2.2.2.1, (b.1.2.2.2.2.1, (b.1.2.2.2.2.2.1, (b.1.2.2.2.2.2.2.1, (b.1.2.2.2.2.2.2.2.1, (b.1.2.2.2.2.2.2.2.2.1, b.1.2.2.2.2.2.2.2.2.2))))))))), (b.2.1.1, (b.2.1.2.1, (b.2.1.2.2.1, (b.2.1.2.2.2.1, (b.2.1.2.2.2.2.1, (b.2.1.2.2.2.2.2.1, (b.2.1.2.2.2.2.2.2.1, (b.2.1.2.2.2.2.2.2.2.1, (b.2.1.2.2.2.2.2.2.2.2.1, b.2.1.2.2.2.2.2.2.2.2.2))))))))))).bind fun r12 =>
 (F39 ((b.1.1, (b.1.2.1, (b.1.2.2.1, (b.1.2.2.2.1, (b.1.2.2.2.2.1, (b.1.2.2.2.2.2.1, (b.1.2.2.2.2.2.2.1, (b.1.2.2.2.2.2.2.2.1, (b.1.2.2.2.2.2.2.2.2.1, b.1.2.2.2.2.2.2.2.2.2))))))))), (b.2.1.1, (b.2.1.2.1, (b.2.1.2.2.1, (b.2.1.2.2.2.1, (b.2.1.2.2.2.2.1, (b.2.1.2.2.2.2.2.1, (b.2.1.2.2.2.2.2.2.1, (b.2.1.2.2.2.2.2.2.2.1, (b.2.1.2.2.2.2.2.2.2.2.1, b.2.1.2.2.2.2.2.2.2.2.2))))))))))).bind fun r13 =>
 some (r12 == r13))
 else (
 some false))) (
 bif (decide (r10 = r11) == true) then (
 (F35 ((b.1.1, (b.1.2.1, (b.1.2.2.1, (b.1.2.2.2.1, (b.1.2.2.2.2.1, (b.1.2.2.2.2.2.1, (b.1.2.2.2.2.2.2.1, (b.1.2.2.2.2.2.2.2.1, (b.1.2.2.2.2.2.2.2.2.1, b.1.2.2.2.2.2.2.2.2.2))))))))), (b.2.1.1, (b.2.1.2.1, (b.2.1.2.2.1, (b.2.1.2.2.2.1, (b.2.1.2.2.2.2.1, (b.2.1.2.2.2.2.2.1, (b.2.1.2.2.2.2.2.2.1, (b.2.1.2.2.2.2.2.2.2.1, (b.2.1.2.2.2.2.2.2.2.2.1, b.2.1.2.2.2.2.2.2.2.2.2))))))))))).bind fun r12 =>
 (F39 ((b.1.1, (b.1.2.1, (b.1.2.2.1, (b.1.2.2.2.1, (b.1.2.2.2.2.1, (b.1.2.2.2.2.2.1, (b.1.2.2.2.2.2.2.1, (b.1.2.2.2.2.2.2.2.1, (b.1.2.2.2.2.2.2.2.2.1, b.1.2.2.2.2.2.2.2.2.2))))))))), (b.2.1.1, (b.2.1.2.1, (b.2.1.2.2.1, (b.2.1.2.2.2.1, (b.2.1.2.2.2.2.1, (b.2.1.2.2.2.2.2.1, (b.2.1.2.2.2.2.2.2.1, (b.2.1.2.2.2.2.2.2.2.1, (b.2.1.2.2.2.2.2.2.2.2.1, b.2.1.2.2.2.2.2.2.2.2.2))))))))))).bind fun r13 =>
 some (r12 == r13))
 else (
 some false)))) (both (
 (both (
 (fun o => both o o) (
 bif (decide (r10 = r11) == true) then (
 (F35 ((b.1.1, (b.1.2.1, (b.1.2.2.1, (b.1.2.2.2.1, (b.1.2.2.2.2.1, (b.1.2.2.2.2.2.1, (b.1.2.2.2.2.2.2.1, (b.1.2.2.2.2.2.2.2.1, (b.1.2.2.2.2.2.2.2.2.1, b.1.2.2.2.2.2.2.2.2.2))))))))), (b.2.1.1, (b.2.1.2.1, (b.2.1.2.2.1, (b.2.1.2.2.2.1, (b.2.1.2.2.2.2.1, (b.2.1.2.2.2.2.2.1, (b.2.1.2.2.2.2.2.2.1, (b.2.1.2.2.2.2.2.2.2.1, (b.2.1.2.2.2.2.2.2.2.2.1, b.2.1.2.2.2.2.2.2.2.2.2))))))))))).bind fun r12 =>
 (F39 ((b.1.1, (b.1.2.1, (b.1.2.2.1, (b.1.2.2.2.1, (b.1.2.2.2.2.1, (b.1.2.2.2.2.2.1, (b.1.2.2.2.2.2.2.1, (b.1.2.2.2.2.2.2.2.1, (b.1.2.2.2.2.2.2.2.2.1, b.1.2.2.2.2.2.2.2.2.2))))))))), (b.2.1.1, (b.2.1.2.1, (b.2.1.2.2.1, (b.2.1.2.2.2.1, (b.2.1.2.2.2.2.1, (b.2.1.2.2.2.2.2.1, (b.2.1.2.2.2.2.2.2.1, (b.2.1.2.2.2.2.2.2.2.1, (b.2.1.2.2.2.2.2.2.2.2.1, b.2.1.2.2.2.2.2.2.2.2.2))))))))))).bind fun r13 =>
 some (r12 == r13))
 else (
 some false))) (
 bif (decide (r10 = r11) == true) then (
 (F35 ((b.1.1, (b.1.2.1, (b.1.2.2.1, (b.1.2.2.2.1, (b.1.2.2.2.2.1, (b.1.2.2.2.2.2.1, (b.1.2.2.2.2.2.2.1, (b.1.2.2.2.2.2.2.2.1, (b.1.2.2.2.2.2.2.2.2.1, b.1.2.2.2.2.2.2.2.2.2))))))))), (b.2.1.1, (b.2.1.2.1, (b.2.1.2.2.1, (b.2.1.2.2.2.1, (b.2.1.2.2.2.2.1, (b.2.1.2.2.2.2.2.1, (b.2.1.2.2.2.2.2.2.1, (b.2.1.2.2.2.2.2.2.2.1, (b.2.1.2.2.2.2.2.2.2.2.1, b.2.1.2.2.2.2.2.2.2.2.2))))))))))).bind fun r12 =>
 (F39 ((b.1.1, (b.1.2.1, (b.1.2.2.1, (b.1.2.2.2.1, (b.1.2.2.2.2.1, (b.1.2.2.2.2.2.1, (b.1.2.2.2.2.2.2.1, (b.1.2.2.2.2.2.2.2.1, (b.1.2.2.2.2.2.2.2.2.1, b.1.2.2.2.2.2.2.2.2.2))))))))), (b.2.1.1, (b.2.1.2.1, (b.2.1.2.2.1, (b.2.1.2.2.2.1, (b.2.1.2.2.2.2.1, (b.2.1.2.2.2.2.2.1, (b.2.1.2.2.2.2.2.2.1, (b.2.1.2.2.2.2.2.2.2.1, (b.2.1.2.2.2.2.2.2.2.2.1, b.2.1.2.2.2.2.2.2.2.2.2))))))))))).bind fun r13 =>
 some (r12 == r13))
 else (
 some false)))) (
 (fun o => both o o) (
 bif (decide (r10 = r11) == true) then (
 (F35 ((b.1.1, (b.1.2.1, (b.1.2.2.1, (b.1.2.2.2.1, (b.1.2.2.2.2.1, (b.1.2.2.2.2.2.1, (b.1.2.2.2.2.2.2.1, (b.1.2.2.2.2.2.2.2.1, (b.1.2.2.2.2.2.2.2.2.1, b.1.2.2.2.2.2.2.2.2.2))))))))), (b.2.1.1, (b.2.1.2.1, (b.2.1.2.2.1, (b.2.1.2.2.2.1, (b.2.1.2.2.2.2.1, (b.2.1.2.2.2.2.2.1, (b.2.1.2.2.2.2.2.2.1, (b.2.1.2.2.2.2.2.2.2.1, (b.2.1.2.2.2.2.2.2.2.2.1, b.2.1.2.2.2.2.2.2.2.2.2))))))))))).bind fun r12 =>
 (F39 ((b.1.1, (b.1.2.1, (b.1.2.2.1, (b.1.2.2.2.1, (b.1.2.2.2.2.1, (b.1.2.2.2.2.2.1, (b.1.2.2.2.2.2.2.1, (b.1.2.2.2.2.2.2.2.1, (b.1.2.2.2.2.2.2.2.2.1, b.1.2.2.2.2.2.2.2.2.2))))))))), (b.2.1.1, (b.2.1.2.1, (b.2.1.2.2.1, (b.2.1.2.2.2.1, (b.2.1.2.2.2.2.1, (b.2.1.2.2.2.2.2.1, (b.2.1.2.2.2.2.2.2.1, (b.2.1.2.2.2.2.2.2.2.1, (b.2.1.2.2.2.2.2.2.2.2.1, b.2.1.2.2.2.2.2.2.2.2.2))))))))))).bind fun r13 =>
 some (r12 == r13))
 else (
 some false)))))) (
 (both (
 (both (
 (fun o => both o o) (
 bif (decide (r10 = r11) == true) then (
 (F35 ((b.1.1, (b.1.2.1, (b.1.2.2.1, (b.1.2.2.2.1, (b.1.2.2.2.2.1, (b.1.2.2.2.2.2.1, (b.1.2.2.2.2.2.2.1, (b.1.2.2.2.2.2.2.2.1, (b.1.2.2.2.2.2.2.2.2.1, b.1.2.2.2.2.2.2.2.2.2))))))))), (b.2.1.1, (b.2.1.2.1, (b.2.1.2.2.1, (b.2.1.2.2.2.1, (b.2.1.2.2.2.2.1, (b.2.1.2.2.2.2.2.1, (b.2.1.2.2.2.2.2.2.1, (b.2.1.2.2.2.2.2.2.2.1, (b.2.1.2.2.2.2.2.2.2.2.1, b.2.1.2.2.2.2.2.2.2.2.2))))))))))).bind fun r12 =>
 (F39 ((b.1.1, (b.1.2.1, (b.1.2.2.1, (b.1.2.2.2.1, (b.1.2.2.2.2.1, (b.1.2.2.2.2.2.1, (b.1.2.2.2.2.2.2.1, (b.1.2.2.2.2.2.2.2.1, (b.1.2.2.2.2.2.2.2.2.1, b.1.2.2.2.2.2.2.2.2.2))))))))), (b.2.1.1, (b.2.1.2.1, (b.2.1.2.2.1, (b.2.1.2.2.2.1, (b.2.1.2.2.2.2.1, (b.2.1.2.2.2.2.2.1, (b.2.1.2.2.2.2.2.2.1, (b.2.1.2.2.2.2.2.2.2.1, (b.2.1.2.2.2.2.2.2.2.2.1, b.2.1.2.2.2.2.2.2.2.2.2))))))))))).bind fun r13 =>
 some (r12 == r13))
 else (
 some false))) (
 bif (decide (r10 = r11) == true) then (
 (F35 ((b.1.1, (b.1.2.1, (b.1.2.2.1, (b.1.2.2.2.1, (b.1.2.2.2.2.1, (b.1.2.2.2.2.2.1, (b.1.2.2.2.2.2.2.1, (b.1.2.2.2.2.2.2.2.1, (b.1.2.2.2.2.2.2.2.2.1, b.1.2.2.2.2.2.2.2.2.2))))))))), (b.2.1.1, (b.2.1.2.1, (b.2.1.2.2.1, (b.2.1.2.2.2.1, (b.2.1.2.2.2.2.1, (b.2.1.2.2.2.2.2.1, (b.2.1.2.2.2.2.2.2.1, (b.2.1.2.2.2.2.2.2.2.1, (b.2.1.2.2.2.2.2.2.2.2.1, b.2.1.2.2.2.2.2.2.2.2.2))))))))))).bind fun r12 =>
 (F39 ((b.1.1, (b.1.2.1, (b.1.2.2.1, (b.1.2.2.2.1, (b.1.2.2.2.2.1, (b.1.2.2.2.2.2.1, (b.1.2.2.2.2.2.2.1, (b.1.2.2.2.2.2.2.2.1, (b.1.2.2.2.2.2.2.2.2.1, b.1.2.2.2.2.2.2.2.2.2))))))))), (b.2.1.1, (b.2.1.2.1, (b.2.1.2.2.1, (b.2.1.2.2.2.1, (b.2.1.2.2.2.2.1, (b.2.1.2.2.2.2.2.1, (b.2.1.2.2.2.2.2.2.1, (b.2.1.2.2.2.2.2.2.2.1, (b.2.1.2.2.2.2.2.2.2.2.1, b.2.1.2.2.2.2.2.2.2.2.2))))))))))).bind fun r13 =>
 some (r12 == r13))
 else (
 some false)))) (both (
 (both (
 (fun o => both o o) (
 bif (decide (r10 = r11) == true) then (
 (F35 ((b.1.1, (b.1.2.1, (b.1.2.2.1, (b.1.2.2.2.1, (b.1.2.2.2.2.1, (b.1.2.2.2.2.2.1, (b.1.2.2.2.2.2.2.1, (b.1.2.2.2.2.2.2.2.1, (b.1.2.2.2.2.2.2.2.2.1, b.1.2.2.2.2.2.2.2.2.2))))))))), (b.2.1.1, (b.2.1.2.1, (b.2.1.2.2.1, (b.2.1.2.2.2.1, (b.2.1.2.2.2.2.1, (b.2.1.2.2.2.2.2.1, (b.2.1.2.2.2.2.2.2.1, (b.2.1.2.2.2.2.2.2.2.1, (b.2.1.2.2.2.2.2.2.2.2.1, b.2.1.2.2.2.2.2.2.2.2.2))))))))))).bind fun r12 =>
 (F39 ((b.1.1, (b.1.2.1, (b.1.2.2.1, (b.1.2.2.2.1, (b.1.2.2.2.2.1, (b.1.2.2.2.2.2.1, (b.1.2.2.2.2.2.2.1, (b.1.2.2.2.2.2.2.2.1, (b.1.2.2.2.2.2.2.2.2.1, b.1.2.2.2.2.2.2.2.2.2))))))))), (b.2.1.1, (b.2.1.2.1, (b.2.1.2.2.1, (b.2.1.2.2.2.1, (b.2.1.2.2.2.2.1, (b.2.1.2.2.2.2.2.1, (b.2.1.2.2.2.2.2.2.1, (b.2.1.2.2.2.2.2.2.2.1, (b.2.1.2.2.2.2.2.2.2.2.1, b.2.1.2.2.2.2.2.2.2.2.2))))))))))).bind fun r13 =>
 some (r12 == r13))
 else (
 some false))) (
 bif (decide (r10 = r11) == true) then (
 (F35 ((b.1.1, (b.1.2.1, (b.1.2.2.1, (b.1.2.2.2.1, (b.1.2.2.2.2.1, (b.1.2.2.2.2.2.1, (b.1.2.2.2.2.2.2.1, (b.1.2.2.2.2.2.2.2.1, (b.1.2.2.2.2.2.2.2.2.1, b.1.2.2.2.2.2.2.2.2.2))))))))), (b.2.1.1, (b.2.1.2.1, (b.2.1.2.2.1, (b.2.1.2.2.2.1, (b.2.1.2.2.2.2.1, (b.2.1.2.2.2.2.2.1, (b.2.1.2.2.2.2.2.2.1, (b.2.1.2.2.2.2.2.2.2.1, (b.2.1.2.2.2.2.2.2.2.2.1, b.2.1.2.2.2.2.2.2.2.2.2))))))))))).bind fun r12 =>
 (F39 ((b.1.1, (b.1.2.1, (b.1.2.2.1, (b.1.2.2.2.1, (b.1.2.2.2.2.1, (b.1.2.2.2.2.2.1, (b.1.2.2.2.2.2.2.1, (b.1.2.2.2.2.2.2.2.1, (b.1.2.2.2.2.2.2.2.2.1, b.1.2.2.2.2.2.2.2.2.2))))))))), (b.2.1.1, (b.2.1.2.1, (b.2.1.2.2.1, (b.2.1.2.2.2.1, (b.2.1.2.2.2.2.1, (b.2.1.2.2.2.2.2.1, (b.2.1.2.2.2.2.2.2.1, (b.2.1.2.2.2.2.2.2.2.1, (b.2.1.2.2.2.2.2.2.2.2.1, b.2.1.2.2.2.2.2.2.2.2.2))))))))))).bind fun r13 =>
 some (r12 == r13))
 else (
 some false)))) (
 (fun o => both o o) (
 bif (decide (r10 = r11) == true) then (
 (F35 ((b.1.1, (b.1.2.1, (b.1.2.2.1, (b.1.2.2.2.1, (b.1.2.2.2.2.1, (b.1.2.2.2.2.2.1, (b.1.2.2.2.2.2.2.1, (b.1.2.2.2.2.2.2.2.1, (b.1.2.2.2.2.2.2.2.2.1, b.1.2.2.2.2.2.2.2.2.2))))))))), (b.2.1.1, (b.2.1.2.1, (b.2.1.2.2.1, (b.2.1.2.2.2.1, (b.2.1.2.2.2.2.1, (b.2.1.2.2.2.2.2.1, (b.2.1.2.2.2.2.2.2.1, (b.2.1.2.2.2.2.2.2.2.1, (b.2.1.2.2.2.2.2.2.2.2.1, b.2.1.2.2.2.2.2.2.2.2.2))))))))))).bind fun r12 =>
 (F39 ((b.1.1, (b.1.2.1, (b.1.2.2.1, (b.1.2.2.2.1, (b.1.2.2.2.2.1, (b.1.2.2.2.2.2.1, (b.1.2.2.2.2.2.2.1, (b.1.2.2.2.2.2.2.2.1, (b.1.2.2.2.2.2.2.2.2.1, b.1.2.2.2.2.2.2.2.2.2))))))))), (b.2.1.1, (b.2.1.2.1, (b.2.1.2.2.1, (b.2.1.2.2.2.1, (b.2.1.2.2.2.2.1, (b.2.1.2.2.2.2.2.1, (b.2.1.2.2.2.2.2.2.1, (b.2.1.2.2.2.2.2.2.2.1, (b.2.1.2.2.2.2.2.2.2.2.1, b.2.1.2.2.2.2.2.2.2.2.2))))))))))).bind fun r13 =>
 some (r12 == r13))
 else (
 some false))))))))))
 else (
 (both (
 (both (
 (fun o => both o (both o o)) (
 (fun o => both o o) (
 some false))) (both (
 (both (
 (fun o => both o o) (
 some false)) (
 some false))) (
 (both (
 (fun o => both o o) (
 some false)) (
 some false)))))) (both (
 (both (
 (fun o => both o (both o o)) (
 (fun o => both o o) (
 some false))) (both (
 (both (
 (fun o => both o o) (
 some false)) (
 some false))) (
 (both (
 (fun o => both o o) (
 some false)) (
 some false)))))) (both (
 (both (
 (both (
 (fun o => both o o) (
 some false)) (
 some false))) (both (
 (both (
 (fun o => both o o) (
 some false)) (
 some false))) (
 (fun o => both o o) (
 some false))))) (
 (both (
 (both (
 (fun o => both o o) (
 some false)) (
 some false))) (both (
 (both (
 (fun o => both o o) (
 some false)) (
 some false))) (
 (fun o => both o o) (
 some false))))))))))) (
 bif ((bif r9 then decide (r6.2 = r7.2) else false) == true) then (
 (F34 (b.1.1, (b.1.2.1, (b.1.2.2.1, (b.1.2.2.2.1, (b.1.2.2.2.2.1, (b.1.2.2.2.2.2.1, (b.1.2.2.2.2.2.2.1, (b.1.2.2.2.2.2.2.2.1, (b.1.2.2.2.2.2.2.2.2.1, b.1.2.2.2.2.2.2.2.2.2)))))))))).bind fun r10 =>
 (F40 (b.1.1, (b.1.2.1, (b.1.2.2.1, (b.1.2.2.2.1, (b.1.2.2.2.2.1, (b.1.2.2.2.2.2.1, (b.1.2.2.2.2.2.2.1, (b.1.2.2.2.2.2.2.2.1, (b.1.2.2.2.2.2.2.2.2.1, b.1.2.2.2.2.2.2.2.2.2)))))))))).bind fun r11 =>
 (both (
 (both (
 (both (
 bif (decide (r10 = r11) == true) then (
 (F35 ((b.1.1, (b.1.2.1, (b.1.2.2.1, (b.1.2.2.2.1, (b.1.2.2.2.2.1, (b.1.2.2.2.2.2.1, (b.1.2.2.2.2.2.2.1, (b.1.2.2.2.2.2.2.2.1, (b.1.2.2.2.2.2.2.2.2.1, b.1.2.2.2.2.2.2.2.2.2))))))))), (b.2.1.1, (b.2.1.2.1, (b.2.1.2.2.1, (b.2.1.2.2.2.1, (b.2.1.2.2.2.2.1, (b.2.1.2.2.2.2.2.1, (b.2.1.2.2.2.2.2.2.1, (b.2.1.2.2.2.2.2.2.2.1, (b.2.1.2.2.2.2.2.2.2.2.1, b.2.1.2.2.2.2.2.2.2.2.2))))))))))).bind fun r12 =>
 (fun o => both o o) (
 (F39 ((b.1.1, (b.1.2.1, (b.1.2.2.1, (b.1.2.2.2.1, (b.1.2.2.2.2.1, (b.1.2.2.2.2.2.1, (b.1.2.2.2.2.2.2.1, (b.1.2.2.2.2.2.2.2.1, (b.1.2.2.2.2.2.2.2.2.1, b.1.2.2.2.2.2.2.2.2.2))))))))), (b.2.1.1, (b.2.1.2.1, (b.2.1.2.2.1, (b.2.1.2.2.2.1, (b.2.1.2.2.2.2.1, (b.2.1.2.2.2.2.2.1, (b.2.1.2.2.2.2.2.2.1, (b.2.1.2.2.2.2.2.2.2.1, (b.2.1.2.2.2.2.2.2.2.2.1, b.2.1.2.2.2.2.2.2.2.2.2))))))))))).bind fun r13 =>
 some (r12 == r13)))
 else (
 (fun o => both o o) (
 some false))) (both (
 (fun o => both o o) (
 bif (decide (r10 = r11) == true) then (
 (F35 ((b.1.1, (b.1.2.1, (b.1.2.2.1, (b.1.2.2.2.1, (b.1.2.2.2.2.1, (b.1.2.2.2.2.2.1, (b.1.2.2.2.2.2.2.1, (b.1.2.2.2.2.2.2.2.1, (b.1.2.2.2.2.2.2.2.2.1, b.1.2.2.2.2.2.2.2.2.2))))))))), (b.2.1.1, (b.2.1.2.1, (b.2.1.2.2.1, (b.2.1.2.2.2.1, (b.2.1.2.2.2.2.1, (b.2.1.2.2.2.2.2.1, (b.2.1.2.2.2.2.2.2.1, (b.2.1.2.2.2.2.2.2.2.1, (b.2.1.2.2.2.2.2.2.2.2.1, b.2.1.2.2.2.2.2.2.2.2.2))))))))))).bind fun r12 =>
 (F39 ((b.1.1, (b.1.2.1, (b.1.2.2.1, (b.1.2.2.2.1, (b.1.2.2.2.2.1, (b.1.2.2.2.2.2.1, (b.1.2.2.2.2.2.2.1, (b.1.2.2.2.2.2.2.2.1, (b.1.2.2.2.2.2.2.2.2.1, b.1.2.2.2.2.2.2.2.2.2))))))))), (b.2.1.1, (b.2.1.2.1, (b.2.1.2.2.1, (b.2.1.2.2.2.1, (b.2.1.2.2.2.2.1, (b.2.1.2.2.2.2.2.1, (b.2.1.2.2.2.2.2.2.1, (b.2.1.2.2.2.2.2.2.2.1, (b.2.1.2.2.2.2.2.2.2.2.1, b.2.1.2.2.2.2.2.2.2.2.2))))))))))).bind fun r13 =>
 some (r12 == r13))
 else (
 some false))) (
 (fun o => both o o) (
 bif (decide (r10 = r11) == true) then (
 (F35 ((b.1.1, (b.1.2.1, (b.1.2.2.1, (b.1.2.2.2.1, (b.1.2.2.2.2.1, (b.1.2.2.2.2.2.1, (b.1.2.2.2.2.2.2.1, (b.1.2.2.2.2.2.2.2.1, (b.1.2.2.2.2.2.2.2.2.1, b.1.2.2.2.2.2.2.2.2.2))))))))), (b.2.1.1, (b.2.1.2.1, (b.2.1.2.2.1, (b.2.1.2.2.2.1, (b.2.1.2.2.2.2.1, (b.2.1.2.2.2.2.2.1, (b.2.1.2.2.2.2.2.2.1, (b.2.1.2.2.2.2.2.2.2.1, (b.2.1.2.2.2.2.2.2.2.2.1, b.2.1.2.2.2.2.2.2.2.2.2))))))))))).bind fun r12 =>
 (F39 ((b.1.1, (b.1.2.1, (b.1.2.2.1, (b.1.2.2.2.1, (b.1.2.2.2.2.1, (b.1.2.2.2.2.2.1, (b.1.2.2.2.2.2.2.1, (b.1.2.2.2.2.2.2.2.1, (b.1.2.2.2.2.2.2.2.2.1, b.1.2.2.2.2.2.2.2.2.2))))))))), (b.2.1.1, (b.2.1.2.1, (b.2.1.2.2.1, (b.2.1.2.2.2.1, (b.2.1.2.2.2.2.1, (b.2.1.2.2.2.2.2.1, (b.2.1.2.2.2.2.2.2.1, (b.2.1.2.2.2.2.2.2.2.1, (b.2.1.2.2.2.2.2.2.2.2.1, b.2.1.2.2.2.2.2.2.2.2.2))))))))))).bind fun r13 =>
 some (r12 == r13))
 else (
 some false)))))) (both (
 (both (
 (fun o => both o o) (
 bif (decide (r10 = r11) == true) then (
 (F35 ((b.1.1, (b.1.2.1, (b.1.2.2.1, (b.1.2.2.2.1, (b.1.2.2.2.2.1, (b.1.2.2.2.2.2.1, (b.1.2.2.2.2.2.2.1, (b.1.2.2.2.2.2.2.2.1, (b.1.2.2.2.2.2.2.2.2.1, b.1.2.2.2.2.2.2.2.2.2))))))))), (b.2.1.1, (b.2.1.2.1, (b.2.1.2.2.1, (b.2.1.2.2.2.1, (b.2.1.2.2.2.2.1, (b.2.1.2.2.2.2.2.1, (b.2.1.2.2.2.2.2.2.1, (b.2.1.2.2.2.2.2.2.2.1, (b.2.1.2.2.2.2.2.2.2.2.1, b.2.1.2.2.2.2.2.2.2.2.2))))))))))).bind fun r12 =>
 (F39 ((b.1.1, (b.1.2.1, (b.1.2.2.1, (b.1.2.2.2.1, (b.1.2.2.2.2.1, (b.1.2.2.2.2.2.1, (b.1.2.2.2.2.2.2.1, (b.1.2.2.2.2.2.2.2.1, (b.1.2.2.2.2.2.2.2.2.1, b.1.2.2.2.2.2.2.2.2.2))))))))), (b.2.1.1, (b.2.1.2.1, (b.2.1.2.2.1, (b.2.1.2.2.2.1, (b.2.1.2.2.2.2.1, (b.2.1.2.2.2.2.2.1, (b.2.1.2.2.2.2.2.2.1, (b.2.1.2.2.2.2.2.2.2.1, (b.2.1.2.2.2.2.2.2.2.2.1, b.2.1.2.2.2.2.2.2.2.2.2))))))))))).bind fun r13 =>
 some (r12 == r13))
 else (
 some false))) (
 bif (decide (r10 = r11) == true) then (
 (F35 ((b.1.1, (b.1.2.1, (b.1.2.2.1, (b.1.2.2.2.1, (b.1.2.2.2.2.1, (b.1.2.2.2.2.2.1, (b.1.2.2.2.2.2.2.1, (b.1.2.2.2.2.2.2.2.1, (b.1.2.2.2.2.2.2.2.2.1, b.1.2.2.2.2.2.2.2.2.2))))))))), (b.2.1.1, (b.2.1.2.1, (b.2.1.2.2.1, (b.2.1.2.2.2.1, (b.2.1.2.2.2.2.1, (b.2.1.2.2.2.2.2.1, (b.2.1.2.2.2.2.2.2.1, (b.2.1.2.2.2.2.2.2.2.1, (b.2.1.2.2.2.2.2.2.2.2.1, b.2.1.2.2.2.2.2.2.2.2.2))))))))))).bind fun r12 =>
 (F39 ((b.1.1, (b.1.2.1, (b.1.2.2.1, (b.1.2.2.2.1, (b.1.2.2.2.2.1, (b.1.2.2.2.2.2.1, (b.1.2.2.2.2.2.2.1, (b.1.2.2.2.2.2.2.2.1, (b.1.2.2.2.2.2.2.2.2.1, b.1.2.2.2.2.2.2.2.2.2))))))))), (b.2.1.1, (b.2.1.2.1, (b.2.1.2.2.1, (b.2.1.2.2.2.1, (b.2.1.2.2.2.2.1, (b.2.1.2.2.2.2.2.1, (b.2.1.2.2.2.2.2.2.1, (b.2.1.2.2.2.2.2.2.2.1, (b.2.1.2.2.2.2.2.2.2.2.1, b.2.1.2.2.2.2.2.2.2.2.2))))))))))).bind fun r13 =>
 some (r12 == r13))
 else (
 some false)))) (
 (both (
 (fun o => both o o) (
 bif (decide (r10 = r11) == true) then (
 (F35 ((b.1.1, (b.1.2.1, (b.1.2.2.1, (b.1.2.2.2.1, (b.1.2.2.2.2.1, (b.1.2.2.2.2.2.1, (b.1.2.2.2.2.2.2.1, (b.1.2.2.2.2.2.2.2.1, (b.1.2.2.2.2.2.2.2.2.1, b.1.2.2.2.2.2.2.2.2.2))))))))), (b.2.1.1, (b.2.1.2.1, (b.2.1.2.2.1, (b.2.1.2.2.2.1, (b.2.1.2.2.2.2.1, (b.2.1.2.2.2.2.2.1, (b.2.1.2.2.2.2.2.2.1, (b.2.1.2.2.2.2.2.2.2.1, (b.2.1.2.2.2.2.2.2.2.2.1, b.2.1.2.2.2.2.2.2.2.2.2))))))))))).bind fun r12 =>
 (F39 ((b.1.1, (b.1.2.1, (b.1.2.2.1, (b.1.2.2.2.1, (b.1.2.2.2.2.1, (b.1.2.2.2.2.2.1, (b.1.2.2.2.2.2.2.1, (b.1.2.2.2.2.2.2.2.1, (b.1.2.2.2.2.2.2.2.2.1, b.1.2.2.2.2.2.2.2.2.2))))))))), (b.2.1.1, (b.2.1.2.1, (b.2.1.2.2.1, (b.2.1.2.2.2.1, (b.2.1.2.2.2.2.1, (b.2.1.2.2.2.2.2.1, (b.2.1.2.2.2.2.2.2.1, (b.2.1.2.2.2.2.2.2.2.1, (b.2.1.2.2.2.2.2.2.2.2.1, b.2.1.2.2.2.2.2.2.2.2.2))))))))))).bind fun r13 =>
 some (r12 == r13))
 else (
 some false))) (
 bif (decide (r10 = r11) == true) then (
 (F35 ((b.1.1, (b.1.2.1, (b.1.2.2.1, (b.1.2.2.2.1, (b.1.2.2.2.2.1, (b.1.2.2.2.2.2.1, (b.1.2.2.2.2.2.2.1, (b.1.2.2.2.2.2.2.2.1, (b.1.2.2.2.2.2.2.2.2.1, b.1.2.2.2.2.2.2.2.2.2))))))))), (b.2.1.1, (b.2.1.2.1, (b.2.1.2.2.1, (b.2.1.2.2.2.1, (b.2.1.2.2.2.2.1, (b.2.1.2.2.2.2.2.1, (b.2.1.2.2.2.2.2.2.1, (b.2.1.2.2.2.2.2.2.2.1, (b.2.1.2.2.2.2.2.2.2.2.1, b.2.1.2.2.2.2.2.2.2.2.2))))))))))).bind fun r12 =>
 (F39 ((b.1.1, (b.1.2.1, (b.1.2.2.1, (b.1.2.2.2.1, (b.1.2.2.2.2.1, (b.1.2.2.2.2.2.1, (b.1.2.2.2.2.2.2.1, (b.1.2.2.2.2.2.2.2.1, (b.1.2.2.2.2.2.2.2.2.1, b.1.2.2.2.2.2.2.2.2.2))))))))), (b.2.1.1, (b.2.1.2.1, (b.2.1.2.2.1, (b.2.1.2.2.2.1, (b.2.1.2.2.2.2.1, (b.2.1.2.2.2.2.2.1, (b.2.1.2.2.2.2.2.2.1, (b.2.1.2.2.2.2.2.2.2.1, (b.2.1.2.2.2.2.2.2.2.2.1, b.2.1.2.2.2.2.2.2.2.2.2))))))))))).bind fun r13 =>
 some (r12 == r13))
 else (
 some false))))))) (both (
 (both (
 (both (
 bif (decide (r10 = r11) == true) then (
 (F35 ((b.1.1, (b.1.2.1, (b.1.2.2.1, (b.1.2.2.2.1, (b.1.2.2.2.2.1, (b.1.2.2.2.2.2.1, (b.1.2.2.2.2.2.2.1, (b.1.2.2.2.2.2.2.2.1, (b.1.2.2.2.2.2.2.2.2.1, b.1.2.2.2.2.2.2.2.2.2))))))))), (b.2.1.1, (b.2.1.2.1, (b.2.1.2.2.1, (b.2.1.2.2.2.1, (b.2.1.2.2.2.2.1, (b.2.1.2.2.2.2.2.1, (b.2.1.2.2.2.2.2.2.1, (b.2.1.2.2.2.2.2.2.2.1, (b.2.1.2.2.2.2.2.2.2.2.1, b.2.1.2.2.2.2.2.2.2.2.2))))))))))).bind fun r12 =>
 (fun o => both o o) (
 (F39 ((b.1.1, (b.1.2.1, (b.1.2.2.1, (b.1.2.2.2.1, (b.1.2.2.2.2.1, (b.1.2.2.2.2.2.1, (b.1.2.2.2.2.2.2.1, (b.1.2.2.2.2.2.2.2.1, (b.1.2.2.2.2.2.2.2.2.1, b.1.2.2.2.2.2.2.2.2.2))))))))), (b.2.1.1, (b.2.1.2.1, (b.2.1.2.2.1, (b.2.1.2.2.2.1, (b.2.1.2.2.2.2.1, (b.2.1.2.2.2.2.2.1, (b.2.1.2.2.2.2.2.2.1, (b.2.1.2.2.2.2.2.2.2.1, (b.2.1.2.2.2.2.2.2.2.2.1, b.2.1.2.2.2.2.2.2.2.2.2))))))))))).bind fun r13 =>
 some (r12 == r13)))
 else (
 (fun o => both o o) (
 some false))) (both (
 (fun o => both o o) (
 bif (decide (r10 = r11) == true) then (
 (F35 ((b.1.1, (b.1.2.1, (b.1.2.2.1, (b.1.2.2.2.1, (b.1.2.2.2.2.1, (b.1.2.2.2.2.2.1, (b.1.2.2.2.2.2.2.1, (b.1.2.2.2.2.2.2.2.1, (b.1.2.2.2.2.2.2.2.2.1, b.1.2.2.2.2.2.2.2.2.2))))))))), (b.2.1.1, (b.2.1.2.1, (b.2.1.2.2.1, (b.2.1.2.2.2.1, (b.2.1.2.2.2.2.1, (b.2.1.2.2.2.2.2.1, (b.2.1.2.2.2.2.2.2.1, (b.2.1.2.2.2.2.2.2.2.1, (b.2.1.2.2.2.2.2.2.2.2.1, b.2.1.2.2.2.2.2.2.2.2.2))))))))))).bind fun r12 =>
 (F39 ((b.1.1, (b.1.2.1, (b.1.2.2.1, (b.1.2.2.2.1, (b.1.2.2.2.2.1, (b.1.2.2.2.2.2.1, (b.1.2.2.2.2.2.2.1, (b.1.2.2.2.2.2.2.2.1, (b.1.2.2.2.2.2.2.2.2.1, b.1.2.2.2.2.2.2.2.2.2))))))))), (b.2.1.1, (b.2.1.2.1, (b.2.1.2.2.1, (b.2.1.2.2.2.1, (b.2.1.2.2.2.2.1, (b.2.1.2.2.2.2.2.1, (b.2.1.2.2.2.2.2.2.1, (b.2.1.2.2.2.2.2.2.2.1, (b.2.1.2.2.2.2.2.2.2.2.1, b.2.1.2.2.2.2.2.2.2.2.2))))))))))).bind fun r13 =>
 some (r12 == r13))
 else (
 some false))) (
 (fun o => both o o) (
 bif (decide (r10 = r11) == true) then (
 (F35 ((b.1.1, (b.1.2.1, (b.1.2.2.1, (b.1.2.2.2.1, (b.1.2.2.2.2.1, (b.1.2.2.2.2.2.1, (b.1.2.2.2.2.2.2.1, (b.1.2.2.2.2.2.2.2.1, (b.1.2.2.2.2.2.2.2.2.1, b.1.2.2.2.2.2.2.2.2.2))))))))), (b.2.1.1, (b.2.1.2.1, (b.2.1.2.2.1, (b.2.1.2.2.2.1, (b.2.1.2.2.2.2.1, (b.2.1.2.2.2.2.2.1, (b.2.1.2.2.2.2.2.2.1, (b.2.1.2.2.2.2.2.2.2.1, (b.2.1.2.2.2.2.2.2.2.2.1, b.2.1.2.2.2.2.2.2.2.2.2))))))))))).bind fun r12 =>
 (F39 ((b.1.1, (b.1.2.1, (b.1.2.2.1, (b.1.2.2.2.1, (b.1.2.2.2.2.1, (b.1.2.2.2.2.2.1, (b.1.2.2.2.2.2.2.1, (b.1.2.2.2.2.2.2.2.1, (b.1.2.2.2.2.2.2.2.2.1, b.1.2.2.2.2.2.2.2.2.2))))))))), (b.2.1.1, (b.2.1.2.1, (b.2.1.2.2.1, (b.2.1.2.2.2.1, (b.2.1.2.2.2.2.1, (b.2.1.2.2.2.2.2.1, (b.2.1.2.2.2.2.2.2.1, (b.2.1.2.2.2.2.2.2.2.1, (b.2.1.2.2.2.2.2.2.2.2.1, b.2.1.2.2.2.2.2.2.2.2.2))))))))))).bind fun r13 =>
 some (r12 == r13))
 else (
 some false)))))) (both (
 (both (
 (fun o => both o o) (
 bif (decide (r10 = r11) == true) then (
 (F35 ((b.1.1, (b.1.2.1, (b.1.2.2.1, (b.1.2.2.2.1, (b.1.2.2.2.2.1, (b.1.2.2.2.2.2.1, (b.1.2.2.2.2.2.2.1, (b.1.2.2.2.2.2.2.2.1, (b.1.2.2.2.2.2.2.2.2.1, b.1.2.2.2.2.2.2.2.2.2))))))))), (b.2.1.1, (b.2.1.2.1, (b.2.1.2.2.1, (b.2.1.2.2.2.1, (b.2.1.2.2.2.2.1, (b.2.1.2.2.2.2.2.1, (b.2.1.2.2.2.2.2.2.1, (b.2.1.2.2.2.2.2.2.2.1, (b.2.1.2.2.2.2.2.2.2.2.1, b.2.1.2.2.2.2.2.2.2.2.2))))))))))).bind fun r12 =>
 (F39 ((b.1.1, (b.1.2.1, (b.1.2.2.1, (b.1.2.2.2.1, (b.1.2.2.2.2.1, (b.1.2.2.2.2.2.1, (b.1.2.2.2.2.2.2.1, (b.1.2.2.2.2.2.2.2.1, (b.1.2.2.2.2.2.2.2.2.1, b.1.2.2.2.2.2.2.2.2.2))))))))), (b.2.1.1, (b.2.1.2.1, (b.2.1.2.2.1, (b.2.1.2.2.2.1, (b.2.1.2.2.2.2.1, (b.2.1.2.2.2.2.2.1, (b.2.1.2.2.2.2.2.2.1, (b.2.1.2.2.2.2.2.2.2.1, (b.2.1.2.2.2.2.2.2.2.2.1, b.2.1.2.2.2.2.2.2.2.2.2))))))))))).bind fun r13 =>
 some (r12 == r13))
 else (
 some false))) (
 bif (decide (r10 = r11) == true) then (
 (F35 ((b.1.1, (b.1.2.1, (b.1.2.2.1, (b.1.2.2.2.1, (b.1.2.2.2.2.1, (b.1.2.2.2.2.2.1, (b.1.2.2.2.2.2.2.1, (b.1.2.2.2.2.2.2.2.1, (b.1.2.2.2.2.2.2.2.2.1, b.1.2.2.2.2.2.2.2.2.2))))))))), (b.2.1.1, (b.2.1.2.1, (b.2.1.2.2.1, (b.2.1.2.2.2.1, (b.2.1.2.2.2.2.1, (b.2.1.2.2.2.2.2.1, (b.2.1.2.2.2.2.2.2.1, (b.2.1.2.2.2.2.2.2.2.1, (b.2.1.2.2.2.2.2.2.2.2.1, b.2.1.2.2.2.2.2.2.2.2.2))))))))))).bind fun r12 =>
 (F39 ((b.1.1, (b.1.2.1, (b.1.2.2.1, (b.1.2.2.2.1, (b.1.2.2.2.2.1, (b.1.2.2.2.2.2.1, (b.1.2.2.2.2.2.2.1, (b.1.2.2.2.2.2.2.2.1, (b.1.2.2.2.2.2.2.2.2.1, b.1.2.2.2.2.2.2.2.2.2))))))))), (b.2.1.1, (b.2.1.2.1, (b.2.1.2.2.1, (b.2.1.2.2.2.1, (b.2.1.2.2.2.2.1, (b.2.1.2.2.2.2.2.1, (b.2.1.2.2.2.2.2.2.1, (b.2.1.2.2.2.2.2.2.2.1, (b.2.1.2.2.2.2.2.2.2.2.1, b.2.1.2.2.2.2.2.2.2.2.2))))))))))).bind fun r13 =>
 some (r12 == r13))
 else (
 some false)))) (
 (both (
 (fun o => both o o) (
 bif (decide (r10 = r11) == true) then (
 (F35 ((b.1.1, (b.1.2.1, (b.1.2.2.1, (b.1.2.2.2.1, (b.1.2.2.2.2.1, (b.1.2.2.2.2.2.1, (b.1.2.2.2.2.2.2.1, (b.1.2.2.2.2.2.2.2.1, (b.1.2.2.2.2.2.2.2.2.1, b.1.2.2.2.2.2.2.2.2.2))))))))), (b.2.1.1, (b.2.1.2.1, (b.2.1.2.2.1, (b.2.1.2.2.2.1, (b.2.1.2.2.2.2.1, (b.2.1.2.2.2.2.2.1, (b.2.1.2.2.2.2.2.2.1, (b.2.1.2.2.2.2.2.2.2.1, (b.2.1.2.2.2.2.2.2.2.2.1, b.2.1.2.2.2.2.2.2.2.2.2))))))))))).bind fun r12 =>
 (F39 ((b.1.1, (b.1.2.1, (b.1.2.2.1, (b.1.2.2.2.1, (b.1.2.2.2.2.1, (b.1.2.2.2.2.2.1, (b.1.2.2.2.2.2.2.1, (b.1.2.2.2.2.2.2.2.1, (b.1.2.2.2.2.2.2.2.2.1, b.1.2.2.2.2.2.2.2.2.2))))))))), (b.2.1.1, (b.2.1.2.1, (b.2.1.2.2.1, (b.2.1.2.2.2.1, (b.2.1.2.2.2.2.1, (b.2.1.2.2.2.2.2.1, (b.2.1.2.2.2.2.2.2.1, (b.2.1.2.2.2.2.2.2.2.1, (b.2.1.2.2.2.2.2.2.2.2.1, b.2.1.2.2.2.2.2.2.2.2.2))))))))))).bind fun r13 =>
 some (r12 == r13))
 else (
 some false))) (
 bif (decide (r10 = r11) == true) then (
 (F35 ((b.1.1, (b.1.2.1, (b.1.2.2.1, (b.1.2.2.2.1, (b.1.2.2.2.2.1, (b.1.2.2.2.2.2.1, (b.1.2.2.2.2.2.2.1, (b.1.2.2.2.2.2.2.2.1, (b.1.2.2.2.2.2.2.2.2.1, b.1.2.2.2.2.2.2.2.2.2))))))))), (b.2.1.1, (b.2.1.2.1, (b.2.1.2.2.1, (b.2.1.2.2.2.1, (b.2.1.2.2.2.2.1, (b.2.1.2.2.2.2.2.1, (b.2.1.2.2.2.2.2.2.1, (b.2.1.2.2.2.2.2.2.2.1, (b.2.1.2.2.2.2.2.2.2.2.1, b.2.1.2.2.2.2.2.2.2.2.2))))))))))).bind fun r12 =>
 (F39 ((b.1.1, (b.1.2.1, (b.1.2.2.1, (b.1.2.2.2.1, (b.1.2.2.2.2.1, (b.1.2.2.2.2.2.1, (b.1.2.2.2.2.2.2.1, (b.1.2.2.2.2.2.2.2.1, (b.1.2.2.2.2.2.2.2.2.1, b.1.2.2.2.2.2.2.2.2.2))))))))), (b.2.1.1, (b.2.1.2.1, (b.2.1.2.2.1, (b.2.1.2.2.2.1, (b.2.1.2.2.2.2.1, (b.2.1.2.2.2.2.2.1, (b.2.1.2.2.2.2.2.2.1, (b.2.1.2.2.2.2.2.2.2.1, (b.2.1.2.2.2.2.2.2.2.2.1, b.2.1.2.2.2.2.2.2.2.2.2))))))))))).bind fun r13 =>
 some (r12 == r13))
 else (
 some false))))))) (both (
 (both (
 (both (
 (fun o => both o o) (
 bif (decide (r10 = r11) == true) then (
 (F35 ((b.1.1, (b.1.2.1, (b.1.2.2.1, (b.1.2.2.2.1, (b.1.2.2.2.2.1, (b.1.2.2.2.2.2.1, (b.1.2.2.2.2.2.2.1, (b.1.2.2.2.2.2.2.2.1, (b.1.2.2.2.2.2.2.2.2.1, b.1.2.2.2.2.2.2.2.2.2))))))))), (b.2.1.1, (b.2.1.2.1, (b.2.1.2.2.1, (b.2.1.2.2.2.1, (b.2.1.2.2.2.2.1, (b.2.1.2.2.2.2.2.1, (b.2.1.2.2.2.2.2.2.1, (b.2.1.2.2.2.2.2.2.2.1, (b.2.1.2.2.2.2.2.2.2.2.1, b.2.1.2.2.2.2.2.2.2.2.2))))))))))).bind fun r12 =>
 (F39 ((b.1.1, (b.1.2.1, (b.1.2.2.1, (b.1.2.2.2.1, (b.1.2.2.2.2.1, (b.1.2.2.2.2.2.1, (b.1.2.2.2.2.2.2.1, (b.1.2.2.2.2.2.2.2.1, (b.1.2.2.2.2.2.2.2.2.1, b.1.2.2.2.2.2.2.2.2.2))))))))), (b.2.1.1, (b.2.1.2.1, (b.2.1.2.2.1, (b.2.1.2.2.2.1, (b.2.1.2.2.2.2.1, (b.2.1.2.2.2.2.2.1, (b.2.1.2.2.2.2.2.2.1, (b.2.1.2.2.2.2.2.2.2.1, (b.2.1.2.2.2.2.2.2.2.2.1, b.2.1.2.2.2.2.2.2.2.2.2))))))))))).bind fun r13 =>
 some (r12 == r13))
 else (
 some false))) (
 bif (decide (r10 = r11) == true) then (
 (F35 ((b.1.1, (b.1.2.1, (b.1.2.2.1, (b.1.2.2.2.1, (b.1.2.2.2.2.1, (b.1.2.2.2.2.2.1, (b.1.2.2.2.2.2.2.1, (b.1.2.2.2.2.2.2.2.1, (b.1.2.2.2.2.2.2.2.2.1, b.1.2.2.2.2.2.2.2.2.2))))))))), (b.2.1.1, (b.2.1.2.1, (b.2.1.2.2.1, (b.2.1.2.2.2.1, (b.2.1.2.2.2.2.1, (b.2.1.2.2.2.2.2.1, (b.2.1.2.2.2.2.2.2.1, (b.2.1.2.2.2.2.2.2.2.1, (b.2.1.2.2.2.2.2.2.2.2.1, b.2.1.2.2.2.2.2.2.2.2.2))))))))))).bind fun r12 =>
 (F39 ((b.1.1, (b.1.2.1, (b.1.2.2.1, (b.1.2.2.2.1, (b.1.2.2.2.2.1, (b.1.2.2.2.2.2.1, (b.1.2.2.2.2.2.2.1, (b.1.2.2.2.2.2.2.2.1, (b.1.2.2.2.2.2.2.2.2.1, b.1.2.2.2.2.2.2.2.2.2))))))))), (b.2.1.1, (b.2.1.2.1, (b.2.1.2.2.1, (b.2.1.2.2.2.1, (b.2.1.2.2.2.2.1, (b.2.1.2.2.2.2.2.1, (b.2.1.2.2.2.2.2.2.1, (b.2.1.2.2.2.2.2.2.2.1, (b.2.1.2.2.2.2.2.2.2.2.1, b.2.1.2.2.2.2.2.2.2.2.2))))))))))).bind fun r13 =>
 some (r12 == r13))
 else (
 some false)))) (both (
 (both (
 (fun o => both o o) (
 bif (decide (r10 = r11) == true) then (
 (F35 ((b.1.1, (b.1.2.1, (b.1.2.2.1, (b.1.2.2.2.1, (b.1.2.2.2.2.1, (b.1.2.2.2.2.2.1, (b.1.2.2.2.2.2.2.1, (b.1.2.2.2.2.2.2.2.1, (b.1.2.2.2.2.2.2.2.2.1, b.1.2.2.2.2.2.2.2.2.2))))))))), (b.2.1.1, (b.2.1.2.1, (b.2.1.2.2.1, (b.2.1.2.2.2.1, (b.2.1.2.2.2.2.1, (b.2.1.2.2.2.2.2.1, (b.2.1.2.2.2.2.2.2.1, (b.2.1.2.2.2.2.2.2.2.1, (b.2.1.2.2.2.2.2.2.2.2.1, b.2.1.2.2.2.2.2.2.2.2.2))))))))))).bind fun r12 =>
 (F39 ((b.1.1, (b.1.2.1, (b.1.2.2.1, (b.1.2.2.2.1, (b.1.2.2.2.2.1, (b.1.2.2.2.2.2.1, (b.1.2.2.2.2.2.2.1, (b.1.2.2.2.2.2.2.2.1, (b.1.2.2.2.2.2.2.2.2.1, b.1.2.2.2.2.2.2.2.2.2))))))))), (b.2.1.1, (b.2.1.2.1, (b.2.1.2.2.1, (b.2.1.2.2.2.1, (b.2.1.2.2.2.2.1, (b.2.1.2.2.2.2.2.1, (b.2.1.2.2.2.2.2.2.1, (b.2.1.2.2.2.2.2.2.2.1, (b.2.1.2.2.2.2.2.2.2.2.1, b.2.1.2.2.2.2.2.2.2.2.2))))))))))).bind fun r13 =>
 some (r12 == r13))
 else (
 some false))) (
 bif (decide (r10 = r11) == true) then (
 (F35 ((b.1.1, (b.1.2.1, (b.1.2.2.1, (b.1.2.2.2.1, (b.1.2.2.2.2.1, (b.1.2.2.2.2.2.1, (b.1.2.2.2.2.2.2.1, (b.1.2.2.2.2.2.2.2.1, (b.1.2.2.2.2.2.2.2.2.1, b.1.2.2.2.2.2.2.2.2.2))))))))), (b.2.1.1, (b.2.1.2.1, (b.2.1.2.2.1, (b.2.1.2.2.2.1, (b.2.1.2.2.2.2.1, (b.2.1.2.2.2.2.2.1, (b.2.1.2.2.2.2.2.2.1, (b.2.1.2.2.2.2.2.2.2.1, (b.2.1.2.2.2.2.2.2.2.2.1, b.2.1.2.2.2.2.2.2.2.2.2))))))))))).bind fun r12 =>
 (F39 ((b.1.1, (b.1.2.1, (b.1.2.2.1, (b.1.2.2.2.1, (b.1.2.2.2.2.1, (b.1.2.2.2.2.2.1, (b.1.2.2.2.2.2.2.1, (b.1.2.2.2.2.2.2.2.1, (b.1.2.2.2.2.2.2.2.2.1, b.1.2.2.2.2.2.2.2.2.2))))))))), (b.2.1.1, (b.2.1.2.1, (b.2.1.2.2.1, (b.2.1.2.2.2.1, (b.2.1.2.2.2.2.1, (b.2.1.2.2.2.2.2.1, (b.2.1.2.2.2.2.2.2.1, (b.2.1.2.2.2.2.2.2.2.1, (b.2.1.2.2.2.2.2.2.2.2.1, b.2.1.2.2.2.2.2.2.2.2.2))))))))))).bind fun r13 =>
 some (r12 == r13))
 else (
 some false)))) (
 (fun o => both o o) (
 bif (decide (r10 = r11) == true) then (
 (F35 ((b.1.1, (b.1.2.1, (b.1.2.2.1, (b.1.2.2.2.1, (b.1.2.2.2.2.1, (b.1.2.2.2.2.2.1, (b.1.2.2.2.2.2.2.1, (b.1.2.2.2.2.2.2.2.1, (b.1.2.2.2.2.2.2.2.2.1, b.1.2.2.2.2.2.2.2.2.2))))))))), (b.2.1.1, (b.2.1.2.1, (b.2.1.2.2.1, (b.2.1.2.2.2.1, (b.2.1.2.2.2.2.1, (b.2.1.2.2.2.2.2.1, (b.2.1.2.2.2.2.2.2.1, (b.2.1.2.2.2.2.2.2.2.1, (b.2.1.2.2.2.2.2.2.2.2.1, b.2.1.2.2.2.2.2.2.2.2.2))))))))))).bind fun r12 =>
 (F39 ((b.1.1, (b.1.2.1, (b.1.2.2.1, (b.1.2.2.2.1, (b.1.2.2.2.2.1, (b.1.2.2.2.2.2.1, (b.1.2.2.2.2.2.2.1, (b.1.2.2.2.2.2.2.2.1, (b.1.2.2.2.2.2.2.2.2.1, b.1.2.2.2.2.2.2.2.2.2))))))))), (b.2.1.1, (b.2.1.2.1, (b.2.1.2.2.1, (b.2.1.2.2.2.1, (b.2.1.2.2.2.2.1, (b.2.1.2.2.2.2.2.1, (b.2.1.2.2.2.2.2.2.1, (b.2.1.2.2.2.2.2.2.2.1, (b.2.1.2.2.2.2.2.2.2.2.1, b.2.1.2.2.2.2.2.2.2.2.2))))))))))).bind fun r13 =>
 some (r12 == r13))
 else (
 some false)))))) (
 (both (
 (both (
 (fun o => both o o) (
 bif (decide (r10 = r11) == true) then (
 (F35 ((b.1.1, (b.1.2.1, (b.1.2.2.1, (b.1.2.2.2.1, (b.1.2.2.2.2.1, (b.1.2.2.2.2.2.1, (b.1.2.2.2.2.2.2.1, (b.1.2.2.2.2.2.2.2.1, (b.1.2.2.2.2.2.2.2.2.1, b.1.2.2.2.2.2.2.2.2.2))))))))), (b.2.1.1, (b.2.1.2.1, (b.2.1.2.2.1, (b.2.1.2.2.2.1, (b.2.1.2.2.2.2.1, (b.2.1.2.2.2.2.2.1, (b.2.1.2.2.2.2.2.2.1, (b.2.1.2.2.2.2.2.2.2.1, (b.2.1.2.2.2.2.2.2.2.2.1, b.2.1.2.2.2.2.2.2.2.2.2))))))))))).bind fun r12 =>
 (F39 ((b.1.1, (b.1.2.1, (b.1.2.2.1, (b.1.2.2.2.1, (b.1.2.2.2.2.1, (b.1.2.2.2.2.2.1, (b.1.2.2.2.2.2.2.1, (b.1.2.2.2.2.2.2.2.1, (b.1.2.2.2.2.2.2.2.2.1, b.1.2.2.2.2.2.2.2.2.2))))))))), (b.2.1.1, (b.2.1.2.1, (b.2.1.2.2.1, (b.2.1.2.2.2.1, (b.2.1.2.2.2.2.1, (b.2.1.2.2.2.2.2.1, (b.2.1.2.2.2.2.2.2.1, (b.2.1.2.2.2.2.2.2.2.1, (b.2.1.2.2.2.2.2.2.2.2.1, b.2.1.2.2.2.2.2.2.2.2.2))))))))))).bind fun r13 =>
 some (r12 == r13))
 else (
 some false))) (
 bif (decide (r10 = r11) == true) then (
 (F35 ((b.1.1, (b.1.2.1, (b.1.2.2.1, (b.1.2.2.2.1, (b.1.2.2.2.2.1, (b.1.2.2.2.2.2.1, (b.1.2.2.2.2.2.2.1, (b.1.2.2.2.2.2.2.2.1, (b.1.2.2.2.2.2.2.2.2.1, b.1.2.2.2.2.2.2.2.2.2))))))))), (b.2.1.1, (b.2.1.2.1, (b.2.1.2.2.1, (b.2.1.2.2.2.1, (b.2.1.2.2.2.2.1, (b.2.1.2.2.2.2.2.1, (b.2.1.2.2.2.2.2.2.1, (b.2.1.2.2.2.2.2.2.2.1, (b.2.1.2.2.2.2.2.2.2.2.1, b.2.1.2.2.2.2.2.2.2.2.2))))))))))).bind fun r12 =>
 (F39 ((b.1.1, (b.1.2.1, (b.1.2.2.1, (b.1.2.2.2.1, (b.1.2.2.2.2.1, (b.1.2.2.2.2.2.1, (b.1.2.2.2.2.2.2.1, (b.1.2.2.2.2.2.2.2.1, (b.1.2.2.2.2.2.2.2.2.1, b.1.2.2.2.2.2.2.2.2.2))))))))), (b.2.1.1, (b.2.1.2.1, (b.2.1.2.2.1, (b.2.1.2.2.2.1, (b.2.1.2.2.2.2.1, (b.2.1.2.2.2.2.2.1, (b.2.1.2.2.2.2.2.2.1, (b.2.1.2.2.2.2.2.2.2.1, (b.2.1.2.2.2.2.2.2.2.2.1, b.2.1.2.2.2.2.2.2.2.2.2))))))))))).bind fun r13 =>
 some (r12 == r13))
 else (
 some false)))) (both (
 (both (
 (fun o => both o o) (
 bif (decide (r10 = r11) == true) then (
 (F35 ((b.1.1, (b.1.2.1, (b.1.2.2.1, (b.1.2.2.2.1, (b.1.2.2.2.2.1, (b.1.2.2.2.2.2.1, (b.1.2.2.2.2.2.2.1, (b.1.2.2.2.2.2.2.2.1, (b.1.2.2.2.2.2.2.2.2.1, b.1.2.2.2.2.2.2.2.2.2))))))))), (b.2.1.1, (b.2.1.2.1, (b.2.1.2.2.1, (b.2.1.2.2.2.1, (b.2.1.2.2.2.2.1, (b.2.1.2.2.2.2.2.1, (b.2.1.2.2.2.2.2.2.1, (b.2.1.2.2.2.2.2.2.2.1, (b.2.1.2.2.2.2.2.2.2.2.1, b.2.1.2.2.2.2.2.2.2.2.2))))))))))).bind fun r12 =>
 (F39 ((b.1.1, (b.1.2.1, (b.1.2.2.1, (b.1.2.2.2.1, (b.1.2.2.2.2.1, (b.1.2.2.2.2.2.1, (b.1.2.2.2.2.2.2.1, (b.1.2.2.2.2.2.2.2.1, (b.1.2.2.2.2.2.2.2.2.1, b.1.2.2.2.2.2.2.2.2.2))))))))), (b.2.1.1, (b.2.1.2.1, (b.2.1.2.2.1, (b.2.1.2.2.2.1, (b.2.1.2.2.2.2.1, (b.2.1.2.2.2.2.2.1, (b.2.1.2.2.2.2.2.2.1, (b.2.1.2.2.2.2.2.2.2.1, (b.2.1.2.2.2.2.2.2.2.2.1, b.2.1.2.2.2.2.2.2.2.2.2))))))))))).bind fun r13 =>
 some (r12 == r13))
 else (
 some false))) (
 bif (decide (r10 = r11) == true) then (
 (F35 ((b.1.1, (b.1.2.1, (b.1.2.2.1, (b.1.2.2.2.1, (b.1.2.2.2.2.1, (b.1.2.2.2.2.2.1, (b.1.2.2.2.2.2.2.1, (b.1.2.2.2.2.2.2.2.1, (b.1.2.2.2.2.2.2.2.2.1, b.1.2.2.2.2.2.2.2.2.2))))))))), (b.2.1.1, (b.2.1.2.1, (b.2.1.2.2.1, (b.2.1.2.2.2.1, (b.2.1.2.2.2.2.1, (b.2.1.2.2.2.2.2.1, (b.2.1.2.2.2.2.2.2.1, (b.2.1.2.2.2.2.2.2.2.1, (b.2.1.2.2.2.2.2.2.2.2.1, b.2.1.2.2.2.2.2.2.2.2.2))))))))))).bind fun r12 =>
 (F39 ((b.1.1, (b.1.2.1, (b.1.2.2.1, (b.1.2.2.2.1, (b.1.2.2.2.2.1, (b.1.2.2.2.2.2.1, (b.1.2.2.2.2.2.2.1, (b.1.2.2.2.2.2.2.2.1, (b.1.2.2.2.2.2.2.2.2.1, b.1.2.2.2.2.2.2.2.2.2))))))))), (b.2.1.1, (b.2.1.2.1, (b.2.1.2.2.1, (b.2.1.2.2.2.1, (b.2.1.2.2.2.2.1, (b.2.1.2.2.2.2.2.1, (b.2.1.2.2.2.2.2.2.1, (b.2.1.2.2.2.2.2.2.2.1, (b.2.1.2.2.2.2.2.2.2.2.1, b.2.1.2.2.2.2.2.2.2.2.2))))))))))).bind fun r13 =>
 some (r12 == r13))
 else (
 some false)))) (
 (fun o => both o o) (
 bif (decide (r10 = r11) == true) then (
 (F35 ((b.1.1, (b.1.2.1, (b.1.2.2.1, (b.1.2.2.2.1, (b.1.2.2.2.2.1, (b.1.2.2.2.2.2.1, (b.1.2.2.2.2.2.2.1, (b.1.2.2.2.2.2.2.2.1, (b.1.2.2.2.2.2.2.2.2.1, b.1.2.2.2.2.2.2.2.2.2))))))))), (b.2.1.1, (b.2.1.2.1, (b.2.1.2.2.1, (b.2.1.2.2.2.1, (b.2.1.2.2.2.2.1, (b.2.1.2.2.2.2.2.1, (b.2.1.2.2.2.2.2.2.1, (b.2.1.2.2.2.2.2.2.2.1, (b.2.1.2.2.2.2.2.2.2.2.1, b.2.1.2.2.2.2.2.2.2.2.2))))))))))).bind fun r12 =>
 (F39 ((b.1.1, (b.1.2.1, (b.1.2.2.1, (b.1.2.2.2.1, (b.1.2.2.2.2.1, (b.1.2.2.2.2.2.1, (b.1.2.2.2.2.2.2.1, (b.1.2.2.2.2.2.2.2.1, (b.1.2.2.2.2.2.2.2.2.1, b.1.2.2.2.2.2.2.2.2.2))))))))), (b.2.1.1, (b.2.1.2.1, (b.2.1.2.2.1, (b.2.1.2.2.2.1, (b.2.1.2.2.2.2.1, (b.2.1.2.2.2.2.2.1, (b.2.1.2.2.2.2.2.2.1, (b.2.1.2.2.2.2.2.2.2.1, (b.2.1.2.2.2.2.2.2.2.2.1, b.2.1.2.2.2.2.2.2.2.2.2))))))))))).bind fun r13 =>
 some (r12 == r13))
 else (
 some false))))))))))
 else (
 (both (
 (both (
 (fun o => both o (both o o)) (
 (fun o => both o o) (
 some false))) (both (
 (both (
 (fun o => both o o) (
 some false)) (
 some false))) (
 (both (
 (fun o => both o o) (
 some false)) (
 some false)))))) (both (
 (both (
 (fun o => both o (both o o)) (
 (fun o => both o o) (
 some false))) (both (
 (both (
 (fun o => both o o) (
 some false)) (
 some false))) (
 (both (
 (fun o => both o o) (
 some false)) (
 some false)))))) (both (
 (both (
 (both (
 (fun o => both o o) (
 some false)) (
 some false))) (both (
 (both (
 (fun o => both o o) (
 some false)) (
 some false))) (
 (fun o => both o o) (
 some false))))) (
 (both (
 (both (
 (fun o => both o o) (
 some false)) (
 some false))) (both (
 (both (
 (fun o => both o o) (
 some false)) (
 some false))) (
 (fun o => both o o) (
 some false))))))))))))
 else (
 (both (
 (fun o => both o o) (
 (both (
 (both (
 (fun o => both o (both o o)) (
 (fun o => both o o) (
 some false))) (both (
 (both (
 (fun o => both o o) (
 some false)) (
 some false))) (
 (both (
 (fun o => both o o) (
 some false)) (
 some false)))))) (both (
 (both (
 (fun o => both o (both o o)) (
 (fun o => both o o) (
 some false))) (both (
 (both (
 (fun o => both o o) (
 some false)) (
 some false))) (
 (both (
 (fun o => both o o) (
 some false)) (
 some false)))))) (both (
 (both (
 (both (
 (fun o => both o o) (
 some false)) (
 some false))) (both (
 (both (
 (fun o => both o o) (
 some false)) (
 some false))) (
 (fun o => both o o) (
 some false))))) (
 (both (
 (both (
 (fun o => both o o) (
 some false)) (
 some false))) (both (
 (both (
 (fun o => both o o) (
 some false)) (
 some false))) (
 (fun o => both o o) (
 some false)))))))))) (
 (both (
 (both (
 (fun o => both o (both o o)) (
 (fun o => both o o) (
 some false))) (both (
 (both (
 (fun o => both o o) (
 some false)) (
 some false))) (
 (both (
 (fun o => both o o) (
 some false)) (
 some false)))))) (both (
 (both (
 (fun o => both o (both o o)) (
 (fun o => both o o) (
 some false))) (both (
 (both (
 (fun o => both o o) (
 some false)) (
 some false))) (
 (both (
 (fun o => both o o) (
 some false)) (
 some false)))))) (both (
 (both (
 (both (
 (fun o => both o o) (
 some false)) (
 some false))) (both (
 (both (
 (fun o => both o o) (
 some false)) (
 some false))) (
 (fun o => both o o) (
 some false))))) (
 (both (
 (both (
 (fun o => both o o) (
 some false)) (
 some false))) (both (
 (both (
 (fun o => both o o) (
 some false)) (
 some false))) (
 (fun o => both o o) (
 some false))))))))))))))
 else (
 some true))
 else (
 some true))
theorem ev11 (b : (Int × (Int × (Int × (Int × (Int × (List Int × (List (Int × (Int × (Int × Int))) × (Int × (List (Int × (Int × Int)) × Int))))))))) × (Int × (Int × (Int × (Int × (Int × (List Int × (List (Int × (Int × (Int × Int))) × (Int × (List (Int × (Int × Int)) × Int))))))))) × List Int) : evF C39 H11 Try.f11 (encs [.agg (.pair (.int .u64) (.pair (.int .i64) (.pair (.int .u64) (.pair (.int .u64) (.pair (.int .i64) (.pair (.slice 23 (.int .u64)) (.pair (.slice 81 (.pair (.int .u64) (.pair (.int .i64) (.pair (.int .u64) (.int .u64))))) (.pair (.int .u64) (.pair (.slice 95 (.pair (.int .i64) (.pair (.int .u64) (.int .u64)))) (.int .i64)))))))))), .agg (.pair (.int .u64) (.pair (.int .i64) (.pair (.int .u64) (.pair (.int .u64) (.pair (.int .i64) (.pair (.slice 23 (.int .u64)) (.pair (.slice 81 (.pair (.int .u64) (.pair (.int .i64) (.pair (.int .u64) (.int .u64))))) (.pair (.int .u64) (.pair (.slice 95 (.pair (.int .i64) (.pair (.int .u64) (.int .u64)))) (.int .i64)))))))))), .one (.slice 5 (.int .u8))] b) (RT.dec (.one (.leaf (.bool)))) = F11 b := by kernel_rfl
noncomputable def C11 : Ctx := Ctx.add C39 11 [.agg (.pair (.int .u64) (.pair (.int .i64) (.pair (.int .u64) (.pair (.int .u64) (.pair (.int .i64) (.pair (.slice 23 (.int .u64)) (.pair (.slice 81 (.pair (.int .u64) (.pair (.int .i64) (.pair (.int .u64) (.int .u64))))) (.pair (.int .u64) (.pair (.slice 95 (.pair (.int .i64) (.pair (.int .u64) (.int .u64)))) (.int .i64)))))))))), .agg (.pair (.int .u64) (.pair (.int .i64) (.pair (.int .u64) (.pair (.int .u64) (.pair (.int .i64) (.pair (.slice 23 (.int .u64)) (.pair (.slice 81 (.pair (.int .u64) (.pair (.int .i64) (.pair (.int .u64) (.int .u64))))) (.pair (.int .u64) (.pair (.slice 95 (.pair (.int .i64) (.pair (.int .u64) (.int .u64)))) (.int .i64)))))))))), .one (.slice 5 (.int .u8))] (.one (.leaf (.bool))) F11
theorem s11 : C11.Sound := Ctx.Sound.add (C := C39) mixed s39 Try.func11 ev11
end Go.Proofs.Ytacebemdonoliaa.R4
