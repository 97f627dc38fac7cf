/- Part of a proof: what the program's functions come to. -/
import Derived.Test.YtdidfddgoheomaaFwCtx
import Derived.Test.YtdidfddgoheomaaProg
import Derived.KernelRfl
set_option linter.unusedVariables false
set_option linter.unusedSimpArgs false
set_option maxRecDepth 100000
namespace Go.Proofs.Ytdidfddgoheomaa.R2
open Go Go.Fw Go.Proofs
noncomputable def C_ : Ctx := Ctx.nil Try.prog
theorem s_ : C_.Sound := Ctx.nil_sound _
theorem mixed : Try.prog.follows .mixedOrders = true := by kernel_rfl
/-! damson/frame.Put -/
def H19 : Nat → Head
  | 4000000 => ⟨[], [49]⟩
  | _ => ⟨[], []⟩
noncomputable def F19 (b : List Int) : Option (List Int × Int) :=
 bif decide (4096 < (b.length : Int)) then (
 some (([] : List Int), 4))
 else (
 bif (decide (0 ≤ (IntKind.wrap .i64 (2 + (b.length : Int)))) && decide ((IntKind.wrap .i64 (2 + (b.length : Int))) = (IntKind.wrap .i64 (2 + (b.length : Int)))) && decide ((IntKind.wrap .i64 (2 + (b.length : Int))).toNat * 1 ≤ LIM)) then
 bif inb 0 (List.replicate ((IntKind.wrap .i64 (2 + (b.length : Int))).toNat) 0 : List Int).length then
 bif inb 1 ((List.replicate ((IntKind.wrap .i64 (2 + (b.length : Int))).toNat) 0 : List Int).set ((0 : Int).toNat) (IntKind.wrap .u8 ((b.length : Int) / 2 ^ (min (8 : Int).toNat 64)))).length then
 bif inb 2 ((((List.replicate ((IntKind.wrap .i64 (2 + (b.length : Int))).toNat) 0 : List Int).set ((0 : Int).toNat) (IntKind.wrap .u8 ((b.length : Int) / 2 ^ (min (8 : Int).toNat 64)))).set ((1 : Int).toNat) (IntKind.wrap .u8 (b.length : Int))).length + 1) then
 bif (decide (b.length ≤ ((((List.replicate ((IntKind.wrap .i64 (2 + (b.length : Int))).toNat) 0 : List Int).set ((0 : Int).toNat) (IntKind.wrap .u8 ((b.length : Int) / 2 ^ (min (8 : Int).toNat 64)))).set ((1 : Int).toNat) (IntKind.wrap .u8 (b.length : Int))).length - ((2 : Int).toNat))) && decide ((2 : Int).toNat + ((((List.replicate ((IntKind.wrap .i64 (2 + (b.length : Int))).toNat) 0 : List Int).set ((0 : Int).toNat) (IntKind.wrap .u8 ((b.length : Int) / 2 ^ (min (8 : Int).toNat 64)))).set ((1 : Int).toNat) (IntKind.wrap .u8 (b.length : Int))).length - ((2 : Int).toNat)) ≤ (((List.replicate ((IntKind.wrap .i64 (2 + (b.length : Int))).toNat) 0 : List Int).set ((0 : Int).toNat) (IntKind.wrap .u8 ((b.length : Int) / 2 ^ (min (8 : Int).toNat 64)))).set ((1 : Int).toNat) (IntKind.wrap .u8 (b.length : Int))).length)) then
 some ((((List.replicate ((IntKind.wrap .i64 (2 + (b.length : Int))).toNat) 0 : List Int).set ((0 : Int).toNat) (IntKind.wrap .u8 ((b.length : Int) / 2 ^ (min (8 : Int).toNat 64)))).set ((1 : Int).toNat) (IntKind.wrap .u8 (b.length : Int))).take ((2 : Int).toNat) ++ b ++ (((List.replicate ((IntKind.wrap .i64 (2 + (b.length : Int))).toNat) 0 : List Int).set ((0 : Int).toNat) (IntKind.wrap .u8 ((b.length : Int) / 2 ^ (min (8 : Int).toNat 64)))).set ((1 : Int).toNat) (IntKind.wrap .u8 (b.length : Int))).drop (((2 : Int).toNat) + b.length), 0)
 else none
 else none
 else none
 else none
 else none)
theorem ev19 (b : List Int) : evF C_ H19 Try.f19 (encs [.one (.slice 5 (.int .u8))] b) (RT.dec (.tup [.leaf (.fresh 5 (.int .u8)), .leaf (.int .i64)])) = F19 b := by kernel_rfl
noncomputable def C19 : Ctx := Ctx.add C_ 19 [.one (.slice 5 (.int .u8))] (.tup [.leaf (.fresh 5 (.int .u8)), .leaf (.int .i64)]) F19
theorem s19 : C19.Sound := Ctx.Sound.add (C := C_) mixed s_ Try.func19 ev19
/-! damson/damsonlaw03.live -/
def H12 : Nat → Head := fun _ => ⟨[], []⟩
noncomputable def F12 (b : Unit) : Option Bool :=
 (F19 ([104, 105])).bind fun r1 =>
 bif (decide (r1.2 = 0) == true) then (
 some (decide (r1.1 = ([0, 2, 104, 105]))))
 else (
 some false)
theorem ev12 (b : Unit) : evF C19 H12 Try.f12 (encs [] b) (RT.dec (.one (.leaf (.bool)))) = F12 b := by kernel_rfl
noncomputable def C12 : Ctx := Ctx.add C19 12 [] (.one (.leaf (.bool))) F12
theorem s12 : C12.Sound := Ctx.Sound.add (C := C19) mixed s19 Try.func12 ev12
/-! damson/frame.size -/
def H44 : Nat → Head := fun _ => ⟨[], []⟩
noncomputable def F44 (b : List Int) : Option (Int × Bool) :=
 bif decide ((b.length : Int) < 2) then (
 some (2, false))
 else (
 bif inb 0 b.length then
 bif inb 1 b.length then
 some ((IntKind.wrap .i64 ((IntKind.wrap .i64 (2 + (IntKind.wrap .i64 ((IntKind.wrap .i64 (rd (.int .u8) b 0)) * 2 ^ (min (8 : Int).toNat 64))))) + (IntKind.wrap .i64 (rd (.int .u8) b 1)))), true)
 else none
 else none)
theorem ev44 (b : List Int) : evF C12 H44 Try.f44 (encs [.one (.slice 5 (.int .u8))] b) (RT.dec (.tup [.leaf (.int .i64), .leaf (.bool)])) = F44 b := by kernel_rfl
noncomputable def C44 : Ctx := Ctx.add C12 44 [.one (.slice 5 (.int .u8))] (.tup [.leaf (.int .i64), .leaf (.bool)]) F44
theorem s44 : C44.Sound := Ctx.Sound.add (C := C12) mixed s12 Try.func44 ev44
/-! damson/frame.Check -/
def H14 : Nat → Head := fun _ => ⟨[], []⟩
noncomputable def F14 (b : (List Int × Bool)) : Option Int :=
 (F44 b.1).bind fun r1 =>
 bif ((bif b.2 then decide (0 < (b.1.length : Int)) else false) == false) then (
 bif (r1.2 == true) then (
 bif (bif decide (4098 < r1.1) then true else decide (r1.1 ≤ (b.1.length : Int))) then (
 some 1)
 else (
 some 0))
 else (
 some 0))
 else (
 some 1)
theorem ev14 (b : (List Int × Bool)) : evF C44 H14 Try.f14 (encs [.agg (.pair (.slice 5 (.int .u8)) .bool)] b) (RT.dec (.one (.leaf (.int .i64)))) = F14 b := by kernel_rfl
noncomputable def C14 : Ctx := Ctx.add C44 14 [.agg (.pair (.slice 5 (.int .u8)) .bool)] (.one (.leaf (.int .i64))) F14
theorem s14 : C14.Sound := Ctx.Sound.add (C := C44) mixed s44 Try.func14 ev14
/-! slices.Grow[[]byte,byte] -/
def H55999 : Nat → Head
  | 4000000 => ⟨[], [50]⟩
  | _ => ⟨[], []⟩
noncomputable def F55999 (b : Unit × Int) : Option (List Int) :=
 bif decide (b.2 < 0) then (
 none)
 else (
 bif decide (0 < (IntKind.wrap .i64 (b.2 - (IntKind.wrap .i64 ((([] : List Int).length : Int) - (([] : List Int).length : Int)))))) then (
 bif inb (([] : List Int).length : Int) (([] : List Int).length + 1) then
 bif (decide (0 < (IntKind.wrap .i64 (b.2 - (IntKind.wrap .i64 ((([] : List Int).length : Int) - (([] : List Int).length : Int)))))) && decide ((IntKind.wrap .i64 (b.2 - (IntKind.wrap .i64 ((([] : List Int).length : Int) - (([] : List Int).length : Int))))).toNat * 1 ≤ LIM)) then
 bif inb (([] : List Int).length : Int) ((List.replicate ((IntKind.wrap .i64 (b.2 - (IntKind.wrap .i64 ((([] : List Int).length : Int) - (([] : List Int).length : Int))))).toNat) 0 : List Int).length + 1) then
 some ((List.replicate ((IntKind.wrap .i64 (b.2 - (IntKind.wrap .i64 ((([] : List Int).length : Int) - (([] : List Int).length : Int))))).toNat) 0 : List Int).take ((([] : List Int).length : Int).toNat))
 else none
 else none
 else none)
 else (
 some ([] : List Int)))
theorem ev55999 (b : Unit × Int) : evF C14 H55999 Try.f55 (encs [.nil 5 (.int .u8), .one (.int .i64)] b) (RT.dec (.one (.leaf (.fresh 5 (.int .u8))))) = F55999 b := by kernel_rfl
noncomputable def C55999 : Ctx := Ctx.add C14 55 [.nil 5 (.int .u8), .one (.int .i64)] (.one (.leaf (.fresh 5 (.int .u8)))) F55999
theorem s55999 : C55999.Sound := Ctx.Sound.add (C := C14) mixed s14 Try.func55 ev55999
/-! slices.Concat[[]byte,byte] -/
def H43 : Nat → Head
  | 3 => ⟨[.data 3 (.int .i64), .data 11 (.int .i64)], []⟩
  | 11 => ⟨[.row 6 26635 5 (.int .u8), .data 27 (.int .i64)], []⟩
  | _ => ⟨[], []⟩
noncomputable def F43 (b : List (List Int)) : Option (List Int) :=
 lfp (fun (rec1 : (Int × Int) → Option (List Int)) (x1 : Int × Int) =>
  bif decide (x1.2 < (b.length : Int)) then (
  bif inb x1.2 b.length then
  bif decide ((IntKind.wrap .i64 (x1.1 + ((rd (.slice 5 (.int .u8)) b x1.2).length : Int))) < 0) then (
  none)
  else (
  rec1 ((IntKind.wrap .i64 (x1.1 + ((rd (.slice 5 (.int .u8)) b x1.2).length : Int))), (IntKind.wrap .i64 (x1.2 + 1))))
  else none)
  else (
  (F55999 ((), x1.1)).bind fun r2 =>
  lfp (fun (rec3 : (List Int × Int) → Option (List Int)) (x3 : List Int × Int) =>
   bif decide (x3.2 < (b.length : Int)) then (
   bif inb x3.2 b.length then
   bif decide ((x3.1.length + (rd (.slice 5 (.int .u8)) b x3.2).length) * 1 ≤ LIM) then
   rec3 ((x3.1 ++ (rd (.slice 5 (.int .u8)) b x3.2)), (IntKind.wrap .i64 (x3.2 + 1)))
   else none
   else none)
   else (
   some x3.1)) (r2, 0))) (0, 0)
theorem ev43 (b : List (List Int)) : evF C55999 H43 Try.f43 (encs [.one (.slice 22 (.slice 5 (.int .u8)))] b) (RT.dec (.one (.leaf (.fresh 5 (.int .u8))))) = F43 b := by kernel_rfl
noncomputable def C43 : Ctx := Ctx.add C55999 43 [.one (.slice 22 (.slice 5 (.int .u8)))] (.one (.leaf (.fresh 5 (.int .u8)))) F43
theorem s43 : C43.Sound := Ctx.Sound.add (C := C55999) mixed s55999 Try.func43 ev43
/-! slices.Clone[[]byte,byte] -/
def H45 : Nat → Head := fun _ => ⟨[], []⟩
noncomputable def F45 (b : List Int) : Option (List Int) :=
 bif b.isEmpty then (
 (both (
 some ([] : List Int)) (
 bif decide ((([] : List Int).length + b.length) * 1 ≤ LIM) then
 some (([] : List Int) ++ b)
 else none)))
 else (
 bif decide ((([] : List Int).length + b.length) * 1 ≤ LIM) then
 some (([] : List Int) ++ b)
 else none)
theorem ev45 (b : List Int) : evF C43 H45 Try.f45 (encs [.one (.slice 5 (.int .u8))] b) (RT.dec (.one (.leaf (.fresh 5 (.int .u8))))) = F45 b := by kernel_rfl
noncomputable def C45 : Ctx := Ctx.add C43 45 [.one (.slice 5 (.int .u8))] (.one (.leaf (.fresh 5 (.int .u8)))) F45
theorem s45 : C45.Sound := Ctx.Sound.add (C := C43) mixed s43 Try.func45 ev45
/-! damson/frame.Feed -/
def H13 : Nat → Head
  | 9 => ⟨[.row 5 22537 22 (.slice 5 (.int .u8)), .data 6 (.int .i64), .row 7 30729 22 (.slice 5 (.int .u8)), .data 8 (.slice 5 (.int .u8))], [118784, 114688, 16384, 8192]⟩
  | 1000008 => ⟨[], [8]⟩
  | 1000014 => ⟨[], [8]⟩
  | _ => ⟨[], []⟩
noncomputable def F13 (b : (List Int × Bool) × List Int) : Option ((List Int × Bool) × List (List Int) × Int) :=
 (F14 (b.1.1, b.1.2)).bind fun r1 =>
 bif (!decide (r1 = 0)) then (
 some ((([] : List Int), false), ([] : List (List Int)), 1))
 else (
 bif decide (65535 < (b.2.length : Int)) then (
 some ((([] : List Int), false), ([] : List (List Int)), 4))
 else (
 bif b.1.2 then (
 some ((b.1.1, b.1.2), ([] : List (List Int)), 0))
 else (
 (F43 ([b.1.1, b.2])).bind fun r2 =>
 lfp (fun (rec3 : (List (List Int) × Int × List (List Int) × List Int) → Option ((List Int × Bool) × List (List Int) × Int)) (x3 : List (List Int) × Int × List (List Int) × List Int) =>
  (F44 x3.2.2.2).bind fun r4 =>
  bif (bif r4.2 then decide (4098 < r4.1) else false) then (
  some ((([] : List Int), true), x3.2.2.1, 0))
  else (
  bif (!r4.2) then (
  bif (!r4.2) then (
  (F45 x3.2.2.2).bind fun r5 =>
  some ((r5, false), x3.2.2.1, 0))
  else (
  bif (inb r4.1 (x3.2.2.2.length + 1) && (decide (0 ≤ 2) && decide (2 ≤ r4.1))) then
  bif inb r4.1 (x3.2.2.2.length + 1) then
  (F45 ((x3.2.2.2.take r4.1.toNat).drop ((2 : Int).toNat))).bind fun r6 =>
  bif decide ((x3.2.2.1.length + 1) * 24 ≤ LIM) then
  rec3 (x3.1, x3.2.1, (x3.2.2.1 ++ ([r6])), x3.2.2.2.drop r4.1.toNat)
  else none
  else none
  else none))
  else (
  bif decide ((x3.2.2.2.length : Int) < r4.1) then (
  (F45 x3.2.2.2).bind fun r7 =>
  some ((r7, false), x3.2.2.1, 0))
  else (
  bif (inb r4.1 (x3.2.2.2.length + 1) && (decide (0 ≤ 2) && decide (2 ≤ r4.1))) then
  bif inb r4.1 (x3.2.2.2.length + 1) then
  (F45 ((x3.2.2.2.take r4.1.toNat).drop ((2 : Int).toNat))).bind fun r8 =>
  bif decide ((x3.2.2.1.length + 1) * 24 ≤ LIM) then
  rec3 (x3.1, x3.2.1, (x3.2.2.1 ++ ([r8])), x3.2.2.2.drop r4.1.toNat)
  else none
  else none
  else none)))) (([] : List (List Int)), 0, ([] : List (List Int)), r2))))
theorem ev13 (b : (List Int × Bool) × List Int) : evF C45 H13 Try.f13 (encs [.agg (.pair (.slice 5 (.int .u8)) .bool), .one (.slice 5 (.int .u8))] b) (RT.dec (.tup [.agg [.sl 5 (.int .u8), .bool], .leaf (.fresh 22 (.slice 5 (.int .u8))), .leaf (.int .i64)])) = F13 b := by kernel_rfl
noncomputable def C13 : Ctx := Ctx.add C45 13 [.agg (.pair (.slice 5 (.int .u8)) .bool), .one (.slice 5 (.int .u8))] (.tup [.agg [.sl 5 (.int .u8), .bool], .leaf (.fresh 22 (.slice 5 (.int .u8))), .leaf (.int .i64)]) F13
theorem s13 : C13.Sound := Ctx.Sound.add (C := C45) mixed s45 Try.func13 ev13
/-! damson/damsonlaw03.feed -/
def H15 : Nat → Head
  | 3 => ⟨[.data 1 (.slice 5 (.int .u8)), .row 7 30723 22 (.slice 5 (.int .u8)), .data 8 .bool, .row 9 38915 22 (.slice 5 (.int .u8)), .data 10 (.int .i64), .box 12288 (.pair (.slice 5 (.int .u8)) .bool)], [24576]⟩
  | _ => ⟨[], []⟩
noncomputable def F15 (b : (List Int × Bool) × List Int × List Int) : Option ((List Int × Bool) × List (List Int) × Bool) :=
 lfp (fun (rec1 : (List Int × List (List Int) × Bool × List (List Int) × Int × (List Int × Bool)) → Option ((List Int × Bool) × List (List Int) × Bool)) (x1 : List Int × List (List Int) × Bool × List (List Int) × Int × (List Int × Bool)) =>
  bif decide (0 < (x1.1.length : Int)) then (
  bif decide (x1.2.2.2.2.1 < (b.2.2.length : Int)) then (
  bif inb x1.2.2.2.2.1 b.2.2.length then
  bif inb (if (IntKind.wrap .i64 (rd (.int .u8) b.2.2 x1.2.2.2.2.1)) < (x1.1.length : Int) then (IntKind.wrap .i64 (rd (.int .u8) b.2.2 x1.2.2.2.2.1)) else (x1.1.length : Int)) (x1.1.length + 1) then
  (both (
  (fun o => both o o) (
  (F13 ((x1.2.2.2.2.2.1, x1.2.2.2.2.2.2), x1.1.take ((if (IntKind.wrap .i64 (rd (.int .u8) b.2.2 x1.2.2.2.2.1)) < (x1.1.length : Int) then (IntKind.wrap .i64 (rd (.int .u8) b.2.2 x1.2.2.2.2.1)) else (x1.1.length : Int)).toNat))).bind fun r2 =>
  bif (!decide (r2.2.2 = 0)) then (
  some ((x1.2.2.2.2.2.1, x1.2.2.2.2.2.2), ([] : List (List Int)), false))
  else (
  bif decide ((x1.2.2.2.1.length + r2.2.1.length) * 24 ≤ LIM) then
  bif inb (if (IntKind.wrap .i64 (rd (.int .u8) b.2.2 x1.2.2.2.2.1)) < (x1.1.length : Int) then (IntKind.wrap .i64 (rd (.int .u8) b.2.2 x1.2.2.2.2.1)) else (x1.1.length : Int)) (x1.1.length + 1) then
  rec1 (x1.1.drop ((if (IntKind.wrap .i64 (rd (.int .u8) b.2.2 x1.2.2.2.2.1)) < (x1.1.length : Int) then (IntKind.wrap .i64 (rd (.int .u8) b.2.2 x1.2.2.2.2.1)) else (x1.1.length : Int)).toNat), x1.2.1, x1.2.2.1, (x1.2.2.2.1 ++ r2.2.1), (IntKind.wrap .i64 (x1.2.2.2.2.1 + 1)), (r2.1.1, r2.1.2))
  else none
  else none))) (
  (F13 ((x1.2.2.2.2.2.1, x1.2.2.2.2.2.2), x1.1.take ((if (IntKind.wrap .i64 (rd (.int .u8) b.2.2 x1.2.2.2.2.1)) < (x1.1.length : Int) then (IntKind.wrap .i64 (rd (.int .u8) b.2.2 x1.2.2.2.2.1)) else (x1.1.length : Int)).toNat))).bind fun r2 =>
  bif (!decide (r2.2.2 = 0)) then (
  some ((x1.2.2.2.2.2.1, x1.2.2.2.2.2.2), ([] : List (List Int)), false))
  else (
  bif decide ((x1.2.2.2.1.length + r2.2.1.length) * 24 ≤ LIM) then
  bif inb (if (IntKind.wrap .i64 (rd (.int .u8) b.2.2 x1.2.2.2.2.1)) < (x1.1.length : Int) then (IntKind.wrap .i64 (rd (.int .u8) b.2.2 x1.2.2.2.2.1)) else (x1.1.length : Int)) (x1.1.length + 1) then
  rec1 (x1.1.drop ((if (IntKind.wrap .i64 (rd (.int .u8) b.2.2 x1.2.2.2.2.1)) < (x1.1.length : Int) then (IntKind.wrap .i64 (rd (.int .u8) b.2.2 x1.2.2.2.2.1)) else (x1.1.length : Int)).toNat), x1.2.1, x1.2.2.1, (x1.2.2.2.1 ++ r2.2.1), (IntKind.wrap .i64 (x1.2.2.2.2.1 + 1)), (r2.1.1, r2.1.2))
  else none
  else none)))
  else none
  else none)
  else (
  bif inb (x1.1.length : Int) (x1.1.length + 1) then
  (both (
  (fun o => both o o) (
  (F13 ((x1.2.2.2.2.2.1, x1.2.2.2.2.2.2), x1.1.take ((x1.1.length : Int).toNat))).bind fun r3 =>
  bif (!decide (r3.2.2 = 0)) then (
  some ((x1.2.2.2.2.2.1, x1.2.2.2.2.2.2), ([] : List (List Int)), false))
  else (
  bif decide ((x1.2.2.2.1.length + r3.2.1.length) * 24 ≤ LIM) then
  bif inb (x1.1.length : Int) (x1.1.length + 1) then
  rec1 (x1.1.drop ((x1.1.length : Int).toNat), x1.2.1, x1.2.2.1, (x1.2.2.2.1 ++ r3.2.1), (IntKind.wrap .i64 (x1.2.2.2.2.1 + 1)), (r3.1.1, r3.1.2))
  else none
  else none))) (
  (F13 ((x1.2.2.2.2.2.1, x1.2.2.2.2.2.2), x1.1.take ((x1.1.length : Int).toNat))).bind fun r3 =>
  bif (!decide (r3.2.2 = 0)) then (
  some ((x1.2.2.2.2.2.1, x1.2.2.2.2.2.2), ([] : List (List Int)), false))
  else (
  bif decide ((x1.2.2.2.1.length + r3.2.1.length) * 24 ≤ LIM) then
  bif inb (x1.1.length : Int) (x1.1.length + 1) then
  rec1 (x1.1.drop ((x1.1.length : Int).toNat), x1.2.1, x1.2.2.1, (x1.2.2.2.1 ++ r3.2.1), (IntKind.wrap .i64 (x1.2.2.2.2.1 + 1)), (r3.1.1, r3.1.2))
  else none
  else none)))
  else none))
  else (
  some ((x1.2.2.2.2.2.1, x1.2.2.2.2.2.2), x1.2.2.2.1, true))) (b.2.1, ([] : List (List Int)), false, ([] : List (List Int)), 0, (b.1.1, b.1.2))
theorem ev15 (b : (List Int × Bool) × List Int × List Int) : evF C13 H15 Try.f15 (encs [.agg (.pair (.slice 5 (.int .u8)) .bool), .one (.slice 5 (.int .u8)), .one (.slice 5 (.int .u8))] b) (RT.dec (.tup [.agg [.sl 5 (.int .u8), .bool], .leaf (.fresh 22 (.slice 5 (.int .u8))), .leaf (.bool)])) = F15 b := by kernel_rfl
noncomputable def C15 : Ctx := Ctx.add C13 15 [.agg (.pair (.slice 5 (.int .u8)) .bool), .one (.slice 5 (.int .u8)), .one (.slice 5 (.int .u8))] (.tup [.agg [.sl 5 (.int .u8), .bool], .leaf (.fresh 22 (.slice 5 (.int .u8))), .leaf (.bool)]) F15
theorem s15 : C15.Sound := Ctx.Sound.add (C := C13) mixed s13 Try.func15 ev15
/-! bytes.Equal -/
def H46 : Nat → Head := fun _ => ⟨[], []⟩
noncomputable def F46 (b : List Int × List Int) : Option Bool :=
 some (decide (b.1 = b.2))
theorem ev46 (b : List Int × List Int) : evF C15 H46 Try.f46 (encs [.one (.slice 5 (.int .u8)), .one (.slice 5 (.int .u8))] b) (RT.dec (.one (.leaf (.bool)))) = F46 b := by kernel_rfl
noncomputable def C46 : Ctx := Ctx.add C15 46 [.one (.slice 5 (.int .u8)), .one (.slice 5 (.int .u8))] (.one (.leaf (.bool))) F46
theorem s46 : C46.Sound := Ctx.Sound.add (C := C15) mixed s15 Try.func46 ev46
/-! damson/frame.Same -/
def H16 : Nat → Head := fun _ => ⟨[], []⟩
noncomputable def F16 (b : (List Int × Bool) × (List Int × Bool)) : Option Bool :=
 bif ((b.1.2 == b.2.2) == true) then (
 (F46 (b.1.1, b.2.1)).bind fun r1 =>
 some r1)
 else (
 some false)
theorem ev16 (b : (List Int × Bool) × (List Int × Bool)) : evF C46 H16 Try.f16 (encs [.agg (.pair (.slice 5 (.int .u8)) .bool), .agg (.pair (.slice 5 (.int .u8)) .bool)] b) (RT.dec (.one (.leaf (.bool)))) = F16 b := by kernel_rfl
noncomputable def C16 : Ctx := Ctx.add C46 16 [.agg (.pair (.slice 5 (.int .u8)) .bool), .agg (.pair (.slice 5 (.int .u8)) .bool)] (.one (.leaf (.bool))) F16
theorem s16 : C16.Sound := Ctx.Sound.add (C := C46) mixed s46 Try.func16 ev16
/-! damson/damsonref01.SameBytes -/
def H23 : Nat → Head := fun _ => ⟨[], []⟩
noncomputable def F23 (b : List Int × List Int) : Option Bool :=
 some (decide (b.1 = b.2))
theorem ev23 (b : List Int × List Int) : evF C16 H23 Try.f23 (encs [.one (.slice 5 (.int .u8)), .one (.slice 5 (.int .u8))] b) (RT.dec (.one (.leaf (.bool)))) = F23 b := by kernel_rfl
noncomputable def C23 : Ctx := Ctx.add C16 23 [.one (.slice 5 (.int .u8)), .one (.slice 5 (.int .u8))] (.one (.leaf (.bool))) F23
theorem s23 : C23.Sound := Ctx.Sound.add (C := C16) mixed s16 Try.func23 ev23
/-! damson/damsonref03.SameTexts -/
def H17 : Nat → Head
  | 4 => ⟨[.data 4 .bool, .data 13 (.int .i64)], []⟩
  | _ => ⟨[], []⟩
noncomputable def F17 (b : List (List Int) × List (List Int)) : Option Bool :=
 bif (!decide ((b.1.length : Int) = (b.2.length : Int))) then (
 some false)
 else (
 lfp (fun (rec1 : (Bool × Int) → Option Bool) (x1 : Bool × Int) =>
  bif decide (x1.2 < (b.1.length : Int)) then (
  bif inb x1.2 b.1.length then
  bif inb x1.2 b.2.length then
  (F23 ((rd (.slice 5 (.int .u8)) b.1 x1.2), (rd (.slice 5 (.int .u8)) b.2 x1.2))).bind fun r2 =>
  bif (!r2) then (
  some false)
  else (
  rec1 (x1.1, (IntKind.wrap .i64 (x1.2 + 1))))
  else none
  else none)
  else (
  some true)) (false, 0))
theorem ev17 (b : List (List Int) × List (List Int)) : evF C23 H17 Try.f17 (encs [.one (.slice 22 (.slice 5 (.int .u8))), .one (.slice 22 (.slice 5 (.int .u8)))] b) (RT.dec (.one (.leaf (.bool)))) = F17 b := by kernel_rfl
noncomputable def C17 : Ctx := Ctx.add C23 17 [.one (.slice 22 (.slice 5 (.int .u8))), .one (.slice 22 (.slice 5 (.int .u8)))] (.one (.leaf (.bool))) F17
theorem s17 : C17.Sound := Ctx.Sound.add (C := C23) mixed s23 Try.func17 ev17
/-! damson/damsonlaw03.FrameCut -/
def H3 : Nat → Head := fun _ => ⟨[], []⟩
noncomputable def F3 (b : (List Int × Bool) × List Int × List Int) : Option Bool :=
 (F12 ()).bind fun r1 =>
 bif (!r1) then (
 some false)
 else (
 bif (bif (bif decide (200 < (b.1.1.length : Int)) then true else decide (2000 < (b.2.1.length : Int))) then true else decide (300 < (b.2.2.length : Int))) then (
 some true)
 else (
 (F13 ((b.1.1, b.1.2), b.2.1)).bind fun r2 =>
 bif (!decide (r2.2.2 = 0)) then (
 bif (decide ((r2.2.1.length : Int) = 0) == true) then (
 (F14 (b.1.1, b.1.2)).bind fun r3 =>
 some (decide (r3 = r2.2.2)))
 else (
 some false))
 else (
 (F15 ((b.1.1, b.1.2), b.2.1, b.2.2)).bind fun r4 =>
 bif (r4.2.2 == true) then (
 bif (decide ((b.2.1.length : Int) = 0) == false) then (
 (F16 ((r2.1.1, r2.1.2), (r4.1.1, r4.1.2))).bind fun r5 =>
 bif (r5 == true) then (
 (F17 (r2.2.1, r4.2.1)).bind fun r6 =>
 bif (r6 == true) then (
 (F14 (r2.1.1, r2.1.2)).bind fun r7 =>
 some (decide (r7 = 0)))
 else (
 some false))
 else (
 some false))
 else (
 (F17 (r2.2.1, r4.2.1)).bind fun r8 =>
 bif (r8 == true) then (
 (F14 (r2.1.1, r2.1.2)).bind fun r9 =>
 some (decide (r9 = 0)))
 else (
 some false)))
 else (
 some false))))
theorem ev3 (b : (List Int × Bool) × List Int × List Int) : evF C17 H3 Try.f3 (encs [.agg (.pair (.slice 5 (.int .u8)) .bool), .one (.slice 5 (.int .u8)), .one (.slice 5 (.int .u8))] b) (RT.dec (.one (.leaf (.bool)))) = F3 b := by kernel_rfl
noncomputable def C3 : Ctx := Ctx.add C17 3 [.agg (.pair (.slice 5 (.int .u8)) .bool), .one (.slice 5 (.int .u8)), .one (.slice 5 (.int .u8))] (.one (.leaf (.bool))) F3
theorem s3 : C3.Sound := Ctx.Sound.add (C := C17) mixed s17 Try.func3 ev3
/-! damson/frame.Wants -/
def H18 : Nat → Head := fun _ => ⟨[], []⟩
noncomputable def F18 (b : (List Int × Bool)) : Option (Int × Int) :=
 (F14 (b.1, b.2)).bind fun r1 =>
 bif (bif (!decide (r1 = 0)) then true else b.2) then (
 some (0, r1))
 else (
 (F44 b.1).bind fun r2 =>
 some ((IntKind.wrap .i64 (r2.1 - (b.1.length : Int))), 0))
theorem ev18 (b : (List Int × Bool)) : evF C3 H18 Try.f18 (encs [.agg (.pair (.slice 5 (.int .u8)) .bool)] b) (RT.dec (.tup [.leaf (.int .i64), .leaf (.int .i64)])) = F18 b := by kernel_rfl
noncomputable def C18 : Ctx := Ctx.add C3 18 [.agg (.pair (.slice 5 (.int .u8)) .bool)] (.tup [.leaf (.int .i64), .leaf (.int .i64)]) F18
theorem s18 : C18.Sound := Ctx.Sound.add (C := C3) mixed s3 Try.func18 ev18
/-! damson/damsonlaw03.FrameWants -/
def H4 : Nat → Head := fun _ => ⟨[], []⟩
noncomputable def F4 (b : (List Int × Bool) × List Int) : Option Bool :=
 (F12 ()).bind fun r1 =>
 bif (!r1) then (
 some false)
 else (
 bif (bif decide (200 < (b.1.1.length : Int)) then true else decide (5000 < (b.2.length : Int))) then (
 some true)
 else (
 (F18 (b.1.1, b.1.2)).bind fun r2 =>
 bif (bif (!decide (r2.2 = 0)) then true else b.1.2) then (
 some (decide (r2.1 = 0)))
 else (
 bif decide (r2.1 < 1) then (
 some false)
 else (
 bif decide ((b.2.length : Int) < r2.1) then (
 (F13 ((b.1.1, b.1.2), b.2)).bind fun r3 =>
 (F18 (r3.1.1, r3.1.2)).bind fun r4 =>
 some (bif (bif (bif (bif decide (r3.2.2 = 0) then decide ((r3.2.1.length : Int) = 0) else false) then decide (r4.2 = 0) else false) then decide (r4.1 = (IntKind.wrap .i64 (r2.1 - (b.2.length : Int)))) else false) then (!r3.1.2) else false))
 else (
 bif inb r2.1 (b.2.length + 1) then
 (both (
 (fun o => both o o) (
 (F13 ((b.1.1, b.1.2), b.2.take r2.1.toNat)).bind fun r5 =>
 bif (bif (!decide (r5.2.2 = 0)) then true else decide (1 < (r5.2.1.length : Int))) then (
 some false)
 else (
 bif ((bif decide ((r5.2.1.length : Int) = 1) then decide ((r5.1.1.length : Int) = 0) else false) == false) then (
 bif (decide ((r5.2.1.length : Int) = 0) == true) then (
 some (bif r5.1.2 then true else decide ((r5.1.1.length : Int) = 2)))
 else (
 some false))
 else (
 some true)))) (
 (F13 ((b.1.1, b.1.2), b.2.take r2.1.toNat)).bind fun r5 =>
 bif (bif (!decide (r5.2.2 = 0)) then true else decide (1 < (r5.2.1.length : Int))) then (
 some false)
 else (
 bif ((bif decide ((r5.2.1.length : Int) = 1) then decide ((r5.1.1.length : Int) = 0) else false) == false) then (
 bif (decide ((r5.2.1.length : Int) = 0) == true) then (
 some (bif r5.1.2 then true else decide ((r5.1.1.length : Int) = 2)))
 else (
 some false))
 else (
 some true))))
 else none)))))
theorem ev4 (b : (List Int × Bool) × List Int) : evF C18 H4 Try.f4 (encs [.agg (.pair (.slice 5 (.int .u8)) .bool), .one (.slice 5 (.int .u8))] b) (RT.dec (.one (.leaf (.bool)))) = F4 b := by kernel_rfl
noncomputable def C4 : Ctx := Ctx.add C18 4 [.agg (.pair (.slice 5 (.int .u8)) .bool), .one (.slice 5 (.int .u8))] (.one (.leaf (.bool))) F4
theorem s4 : C4.Sound := Ctx.Sound.add (C := C18) mixed s18 Try.func4 ev4
/-! damson/damsonlaw03.FrameBad -/
def H6 : Nat → Head := fun _ => ⟨[], []⟩
noncomputable def F6 (b : List Int × Int × List Int) : Option Bool :=
 (F12 ()).bind fun r1 =>
 bif (!r1) then (
 some false)
 else (
 bif (bif (bif decide (300 < (b.1.length : Int)) then true else decide (300 < (b.2.2.length : Int))) then true else decide (b.2.1 ≤ 4096)) then (
 some true)
 else (
 (F19 b.1).bind fun r2 =>
 bif decide ((r2.1.length + 2) * 1 ≤ LIM) then
 bif decide (((r2.1 ++ ([(IntKind.wrap .u8 (b.2.1 / 2 ^ (min (8 : Int).toNat 16))), (IntKind.wrap .u8 b.2.1)])).length + b.2.2.length) * 1 ≤ LIM) then
 (F13 (([], false), (r2.1 ++ ([(IntKind.wrap .u8 (b.2.1 / 2 ^ (min (8 : Int).toNat 16))), (IntKind.wrap .u8 b.2.1)])) ++ b.2.2)).bind fun r3 =>
 bif ((bif (bif (!decide (r2.2 = 0)) then true else (!decide (r3.2.2 = 0))) then true else (!decide ((r3.2.1.length : Int) = 1))) == false) then (
 bif inb 0 r3.2.1.length then
 (F23 ((rd (.slice 5 (.int .u8)) r3.2.1 0), b.1)).bind fun r4 =>
 bif (bif (bif (!r4) then true else (!r3.1.2)) then true else (!decide ((r3.1.1.length : Int) = 0))) then (
 some false)
 else (
 (F13 ((r3.1.1, r3.1.2), b.2.2)).bind fun r5 =>
 (F18 (r3.1.1, r3.1.2)).bind fun r6 =>
 bif ((bif decide (r5.2.2 = 0) then decide ((r5.2.1.length : Int) = 0) else false) == true) then (
 (F16 ((r5.1.1, r5.1.2), (r3.1.1, r3.1.2))).bind fun r7 =>
 some (bif (bif r7 then decide (r6.2 = 0) else false) then decide (r6.1 = 0) else false))
 else (
 some false))
 else none)
 else (
 some false)
 else none
 else none))
theorem ev6 (b : List Int × Int × List Int) : evF C4 H6 Try.f6 (encs [.one (.slice 5 (.int .u8)), .one (.int .u16), .one (.slice 5 (.int .u8))] b) (RT.dec (.one (.leaf (.bool)))) = F6 b := by kernel_rfl
noncomputable def C6 : Ctx := Ctx.add C4 6 [.one (.slice 5 (.int .u8)), .one (.int .u16), .one (.slice 5 (.int .u8))] (.one (.leaf (.bool))) F6
theorem s6 : C6.Sound := Ctx.Sound.add (C := C4) mixed s4 Try.func6 ev6
end Go.Proofs.Ytdidfddgoheomaa.R2
