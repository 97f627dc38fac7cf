/- Part of a proof: what the program's functions come to. -/
import Derived.Test.YtdidfddgoheomaaFwCtx
import Derived.Test.YtdidfddgoheomaaProg
import Derived.KernelRfl
set_option linter.unusedVariables false
set_option linter.unusedSimpArgs false
set_option maxRecDepth 100000
namespace Go.Proofs.Ytdidfddgoheomaa.R2
open Go Go.Fw Go.Proofs
noncomputable def C_ : Ctx := Ctx.nil Try.prog
theorem s_ : C_.Sound := Ctx.nil_sound _
theorem mixed : Try.prog.follows .mixedOrders = true := by kernel_rfl
/-! damson/session.Check$1 -/
def H52 : Nat → Head := fun _ => ⟨[], []⟩
noncomputable def F52 (b : List Int) : Option Bool :=
 some (decide (4096 < (b.length : Int)))
theorem ev52 (b : List Int) : evF C_ H52 Try.f52 (encs [.one (.slice 5 (.int .u8))] b) (RT.dec (.one (.leaf (.bool)))) = F52 b := by kernel_rfl
noncomputable def C52 : Ctx := Ctx.add C_ 52 [.one (.slice 5 (.int .u8))] (.one (.leaf (.bool))) F52
theorem s52 : C52.Sound := Ctx.Sound.add (C := C_) mixed s_ Try.func52 ev52
/-! damson/frame.Put -/
def H19 : Nat → Head
  | 4000000 => ⟨[], [49]⟩
  | _ => ⟨[], []⟩
noncomputable def F19 (b : List Int) : Option (List Int × Int) :=
 bif decide (4096 < (b.length : Int)) then (
 some (([] : List Int), 4))
 else (
 bif (decide (0 ≤ (IntKind.wrap .i64 (2 + (b.length : Int)))) && decide ((IntKind.wrap .i64 (2 + (b.length : Int))) = (IntKind.wrap .i64 (2 + (b.length : Int)))) && decide ((IntKind.wrap .i64 (2 + (b.length : Int))).toNat * 1 ≤ LIM)) then
 bif inb 0 (List.replicate ((IntKind.wrap .i64 (2 + (b.length : Int))).toNat) 0 : List Int).length then
 bif inb 1 ((List.replicate ((IntKind.wrap .i64 (2 + (b.length : Int))).toNat) 0 : List Int).set ((0 : Int).toNat) (IntKind.wrap .u8 ((b.length : Int) / 2 ^ (min (8 : Int).toNat 64)))).length then
 bif inb 2 ((((List.replicate ((IntKind.wrap .i64 (2 + (b.length : Int))).toNat) 0 : List Int).set ((0 : Int).toNat) (IntKind.wrap .u8 ((b.length : Int) / 2 ^ (min (8 : Int).toNat 64)))).set ((1 : Int).toNat) (IntKind.wrap .u8 (b.length : Int))).length + 1) then
 bif (decide (b.length ≤ ((((List.replicate ((IntKind.wrap .i64 (2 + (b.length : Int))).toNat) 0 : List Int).set ((0 : Int).toNat) (IntKind.wrap .u8 ((b.length : Int) / 2 ^ (min (8 : Int).toNat 64)))).set ((1 : Int).toNat) (IntKind.wrap .u8 (b.length : Int))).length - ((2 : Int).toNat))) && decide ((2 : Int).toNat + ((((List.replicate ((IntKind.wrap .i64 (2 + (b.length : Int))).toNat) 0 : List Int).set ((0 : Int).toNat) (IntKind.wrap .u8 ((b.length : Int) / 2 ^ (min (8 : Int).toNat 64)))).set ((1 : Int).toNat) (IntKind.wrap .u8 (b.length : Int))).length - ((2 : Int).toNat)) ≤ (((List.replicate ((IntKind.wrap .i64 (2 + (b.length : Int))).toNat) 0 : List Int).set ((0 : Int).toNat) (IntKind.wrap .u8 ((b.length : Int) / 2 ^ (min (8 : Int).toNat 64)))).set ((1 : Int).toNat) (IntKind.wrap .u8 (b.length : Int))).length)) then
 some ((((List.replicate ((IntKind.wrap .i64 (2 + (b.length : Int))).toNat) 0 : List Int).set ((0 : Int).toNat) (IntKind.wrap .u8 ((b.length : Int) / 2 ^ (min (8 : Int).toNat 64)))).set ((1 : Int).toNat) (IntKind.wrap .u8 (b.length : Int))).take ((2 : Int).toNat) ++ b ++ (((List.replicate ((IntKind.wrap .i64 (2 + (b.length : Int))).toNat) 0 : List Int).set ((0 : Int).toNat) (IntKind.wrap .u8 ((b.length : Int) / 2 ^ (min (8 : Int).toNat 64)))).set ((1 : Int).toNat) (IntKind.wrap .u8 (b.length : Int))).drop (((2 : Int).toNat) + b.length), 0)
 else none
 else none
 else none
 else none
 else none)
theorem ev19 (b : List Int) : evF C52 H19 Try.f19 (encs [.one (.slice 5 (.int .u8))] b) (RT.dec (.tup [.leaf (.fresh 5 (.int .u8)), .leaf (.int .i64)])) = F19 b := by kernel_rfl
noncomputable def C19 : Ctx := Ctx.add C52 19 [.one (.slice 5 (.int .u8))] (.tup [.leaf (.fresh 5 (.int .u8)), .leaf (.int .i64)]) F19
theorem s19 : C19.Sound := Ctx.Sound.add (C := C52) mixed s52 Try.func19 ev19
/-! damson/damsonlaw03.live -/
def H12 : Nat → Head := fun _ => ⟨[], []⟩
noncomputable def F12 (b : Unit) : Option Bool :=
 (F19 ([104, 105])).bind fun r1 =>
 bif (decide (r1.2 = 0) == true) then (
 some (decide (r1.1 = ([0, 2, 104, 105]))))
 else (
 some false)
theorem ev12 (b : Unit) : evF C19 H12 Try.f12 (encs [] b) (RT.dec (.one (.leaf (.bool)))) = F12 b := by kernel_rfl
noncomputable def C12 : Ctx := Ctx.add C19 12 [] (.one (.leaf (.bool))) F12
theorem s12 : C12.Sound := Ctx.Sound.add (C := C19) mixed s19 Try.func12 ev12
/-! damson/frame.size -/
def H44 : Nat → Head := fun _ => ⟨[], []⟩
noncomputable def F44 (b : List Int) : Option (Int × Bool) :=
 bif decide ((b.length : Int) < 2) then (
 some (2, false))
 else (
 bif inb 0 b.length then
 bif inb 1 b.length then
 some ((IntKind.wrap .i64 ((IntKind.wrap .i64 (2 + (IntKind.wrap .i64 ((IntKind.wrap .i64 (rd (.int .u8) b 0)) * 2 ^ (min (8 : Int).toNat 64))))) + (IntKind.wrap .i64 (rd (.int .u8) b 1)))), true)
 else none
 else none)
theorem ev44 (b : List Int) : evF C12 H44 Try.f44 (encs [.one (.slice 5 (.int .u8))] b) (RT.dec (.tup [.leaf (.int .i64), .leaf (.bool)])) = F44 b := by kernel_rfl
noncomputable def C44 : Ctx := Ctx.add C12 44 [.one (.slice 5 (.int .u8))] (.tup [.leaf (.int .i64), .leaf (.bool)]) F44
theorem s44 : C44.Sound := Ctx.Sound.add (C := C12) mixed s12 Try.func44 ev44
/-! damson/frame.Check -/
def H14 : Nat → Head := fun _ => ⟨[], []⟩
noncomputable def F14 (b : (List Int × Bool)) : Option Int :=
 (F44 b.1).bind fun r1 =>
 bif ((bif b.2 then decide (0 < (b.1.length : Int)) else false) == false) then (
 bif (r1.2 == true) then (
 bif (bif decide (4098 < r1.1) then true else decide (r1.1 ≤ (b.1.length : Int))) then (
 some 1)
 else (
 some 0))
 else (
 some 0))
 else (
 some 1)
theorem ev14 (b : (List Int × Bool)) : evF C44 H14 Try.f14 (encs [.agg (.pair (.slice 5 (.int .u8)) .bool)] b) (RT.dec (.one (.leaf (.int .i64)))) = F14 b := by kernel_rfl
noncomputable def C14 : Ctx := Ctx.add C44 14 [.agg (.pair (.slice 5 (.int .u8)) .bool)] (.one (.leaf (.int .i64))) F14
theorem s14 : C14.Sound := Ctx.Sound.add (C := C44) mixed s44 Try.func14 ev14
/-! slices.Grow[[]byte,byte] -/
def H55999 : Nat → Head
  | 4000000 => ⟨[], [50]⟩
  | _ => ⟨[], []⟩
noncomputable def F55999 (b : Unit × Int) : Option (List Int) :=
 bif decide (b.2 < 0) then (
 none)
 else (
 bif decide (0 < (IntKind.wrap .i64 (b.2 - (IntKind.wrap .i64 ((([] : List Int).length : Int) - (([] : List Int).length : Int)))))) then (
 bif inb (([] : List Int).length : Int) (([] : List Int).length + 1) then
 bif (decide (0 < (IntKind.wrap .i64 (b.2 - (IntKind.wrap .i64 ((([] : List Int).length : Int) - (([] : List Int).length : Int)))))) && decide ((IntKind.wrap .i64 (b.2 - (IntKind.wrap .i64 ((([] : List Int).length : Int) - (([] : List Int).length : Int))))).toNat * 1 ≤ LIM)) then
 bif inb (([] : List Int).length : Int) ((List.replicate ((IntKind.wrap .i64 (b.2 - (IntKind.wrap .i64 ((([] : List Int).length : Int) - (([] : List Int).length : Int))))).toNat) 0 : List Int).length + 1) then
 some ((List.replicate ((IntKind.wrap .i64 (b.2 - (IntKind.wrap .i64 ((([] : List Int).length : Int) - (([] : List Int).length : Int))))).toNat) 0 : List Int).take ((([] : List Int).length : Int).toNat))
 else none
 else none
 else none)
 else (
 some ([] : List Int)))
theorem ev55999 (b : Unit × Int) : evF C14 H55999 Try.f55 (encs [.nil 5 (.int .u8), .one (.int .i64)] b) (RT.dec (.one (.leaf (.fresh 5 (.int .u8))))) = F55999 b := by kernel_rfl
noncomputable def C55999 : Ctx := Ctx.add C14 55 [.nil 5 (.int .u8), .one (.int .i64)] (.one (.leaf (.fresh 5 (.int .u8)))) F55999
theorem s55999 : C55999.Sound := Ctx.Sound.add (C := C14) mixed s14 Try.func55 ev55999
/-! slices.Concat[[]byte,byte] -/
def H43 : Nat → Head
  | 3 => ⟨[.data 3 (.int .i64), .data 11 (.int .i64)], []⟩
  | 11 => ⟨[.row 6 26635 5 (.int .u8), .data 27 (.int .i64)], []⟩
  | _ => ⟨[], []⟩
noncomputable def F43 (b : List (List Int)) : Option (List Int) :=
 lfp (fun (rec1 : (Int × Int) → Option (List Int)) (x1 : Int × Int) =>
  bif decide (x1.2 < (b.length : Int)) then (
  bif inb x1.2 b.length then
  bif decide ((IntKind.wrap .i64 (x1.1 + ((rd (.slice 5 (.int .u8)) b x1.2).length : Int))) < 0) then (
  none)
  else (
  rec1 ((IntKind.wrap .i64 (x1.1 + ((rd (.slice 5 (.int .u8)) b x1.2).length : Int))), (IntKind.wrap .i64 (x1.2 + 1))))
  else none)
  else (
  (F55999 ((), x1.1)).bind fun r2 =>
  lfp (fun (rec3 : (List Int × Int) → Option (List Int)) (x3 : List Int × Int) =>
   bif decide (x3.2 < (b.length : Int)) then (
   bif inb x3.2 b.length then
   bif decide ((x3.1.length + (rd (.slice 5 (.int .u8)) b x3.2).length) * 1 ≤ LIM) then
   rec3 ((x3.1 ++ (rd (.slice 5 (.int .u8)) b x3.2)), (IntKind.wrap .i64 (x3.2 + 1)))
   else none
   else none)
   else (
   some x3.1)) (r2, 0))) (0, 0)
theorem ev43 (b : List (List Int)) : evF C55999 H43 Try.f43 (encs [.one (.slice 22 (.slice 5 (.int .u8)))] b) (RT.dec (.one (.leaf (.fresh 5 (.int .u8))))) = F43 b := by kernel_rfl
noncomputable def C43 : Ctx := Ctx.add C55999 43 [.one (.slice 22 (.slice 5 (.int .u8)))] (.one (.leaf (.fresh 5 (.int .u8)))) F43
theorem s43 : C43.Sound := Ctx.Sound.add (C := C55999) mixed s55999 Try.func43 ev43
/-! slices.Clone[[]byte,byte] -/
def H45 : Nat → Head := fun _ => ⟨[], []⟩
noncomputable def F45 (b : List Int) : Option (List Int) :=
 bif b.isEmpty then (
 (both (
 some ([] : List Int)) (
 bif decide ((([] : List Int).length + b.length) * 1 ≤ LIM) then
 some (([] : List Int) ++ b)
 else none)))
 else (
 bif decide ((([] : List Int).length + b.length) * 1 ≤ LIM) then
 some (([] : List Int) ++ b)
 else none)
theorem ev45 (b : List Int) : evF C43 H45 Try.f45 (encs [.one (.slice 5 (.int .u8))] b) (RT.dec (.one (.leaf (.fresh 5 (.int .u8))))) = F45 b := by kernel_rfl
noncomputable def C45 : Ctx := Ctx.add C43 45 [.one (.slice 5 (.int .u8))] (.one (.leaf (.fresh 5 (.int .u8)))) F45
theorem s45 : C45.Sound := Ctx.Sound.add (C := C43) mixed s43 Try.func45 ev45
/-! damson/frame.Feed -/
def H13 : Nat → Head
  | 9 => ⟨[.row 5 22537 22 (.slice 5 (.int .u8)), .data 6 (.int .i64), .row 7 30729 22 (.slice 5 (.int .u8)), .data 8 (.slice 5 (.int .u8))], [118784, 114688, 16384, 8192]⟩
  | 1000008 => ⟨[], [8]⟩
  | 1000014 => ⟨[], [8]⟩
  | _ => ⟨[], []⟩
noncomputable def F13 (b : (List Int × Bool) × List Int) : Option ((List Int × Bool) × List (List Int) × Int) :=
 (F14 (b.1.1, b.1.2)).bind fun r1 =>
 bif (!decide (r1 = 0)) then (
 some ((([] : List Int), false), ([] : List (List Int)), 1))
 else (
 bif decide (65535 < (b.2.length : Int)) then (
 some ((([] : List Int), false), ([] : List (List Int)), 4))
 else (
 bif b.1.2 then (
 some ((b.1.1, b.1.2), ([] : List (List Int)), 0))
 else (
 (F43 ([b.1.1, b.2])).bind fun r2 =>
 lfp (fun (rec3 : (List (List Int) × Int × List (List Int) × List Int) → Option ((List Int × Bool) × List (List Int) × Int)) (x3 : List (List Int) × Int × List (List Int) × List Int) =>
  (F44 x3.2.2.2).bind fun r4 =>
  bif (bif r4.2 then decide (4098 < r4.1) else false) then (
  some ((([] : List Int), true), x3.2.2.1, 0))
  else (
  bif (!r4.2) then (
  bif (!r4.2) then (
  (F45 x3.2.2.2).bind fun r5 =>
  some ((r5, false), x3.2.2.1, 0))
  else (
  bif (inb r4.1 (x3.2.2.2.length + 1) && (decide (0 ≤ 2) && decide (2 ≤ r4.1))) then
  bif inb r4.1 (x3.2.2.2.length + 1) then
  (F45 ((x3.2.2.2.take r4.1.toNat).drop ((2 : Int).toNat))).bind fun r6 =>
  bif decide ((x3.2.2.1.length + 1) * 24 ≤ LIM) then
  rec3 (x3.1, x3.2.1, (x3.2.2.1 ++ ([r6])), x3.2.2.2.drop r4.1.toNat)
  else none
  else none
  else none))
  else (
  bif decide ((x3.2.2.2.length : Int) < r4.1) then (
  (F45 x3.2.2.2).bind fun r7 =>
  some ((r7, false), x3.2.2.1, 0))
  else (
  bif (inb r4.1 (x3.2.2.2.length + 1) && (decide (0 ≤ 2) && decide (2 ≤ r4.1))) then
  bif inb r4.1 (x3.2.2.2.length + 1) then
  (F45 ((x3.2.2.2.take r4.1.toNat).drop ((2 : Int).toNat))).bind fun r8 =>
  bif decide ((x3.2.2.1.length + 1) * 24 ≤ LIM) then
  rec3 (x3.1, x3.2.1, (x3.2.2.1 ++ ([r8])), x3.2.2.2.drop r4.1.toNat)
  else none
  else none
  else none)))) (([] : List (List Int)), 0, ([] : List (List Int)), r2))))
theorem ev13 (b : (List Int × Bool) × List Int) : evF C45 H13 Try.f13 (encs [.agg (.pair (.slice 5 (.int .u8)) .bool), .one (.slice 5 (.int .u8))] b) (RT.dec (.tup [.agg [.sl 5 (.int .u8), .bool], .leaf (.fresh 22 (.slice 5 (.int .u8))), .leaf (.int .i64)])) = F13 b := by kernel_rfl
noncomputable def C13 : Ctx := Ctx.add C45 13 [.agg (.pair (.slice 5 (.int .u8)) .bool), .one (.slice 5 (.int .u8))] (.tup [.agg [.sl 5 (.int .u8), .bool], .leaf (.fresh 22 (.slice 5 (.int .u8))), .leaf (.int .i64)]) F13
theorem s13 : C13.Sound := Ctx.Sound.add (C := C45) mixed s45 Try.func13 ev13
/-! damson/damsonlaw03.feed -/
def H15 : Nat → Head
  | 3 => ⟨[.data 1 (.slice 5 (.int .u8)), .row 7 30723 22 (.slice 5 (.int .u8)), .data 8 .bool, .row 9 38915 22 (.slice 5 (.int .u8)), .data 10 (.int .i64), .box 12288 (.pair (.slice 5 (.int .u8)) .bool)], [24576]⟩
  | _ => ⟨[], []⟩
noncomputable def F15 (b : (List Int × Bool) × List Int × List Int) : Option ((List Int × Bool) × List (List Int) × Bool) :=
 lfp (fun (rec1 : (List Int × List (List Int) × Bool × List (List Int) × Int × (List Int × Bool)) → Option ((List Int × Bool) × List (List Int) × Bool)) (x1 : List Int × List (List Int) × Bool × List (List Int) × Int × (List Int × Bool)) =>
  bif decide (0 < (x1.1.length : Int)) then (
  bif decide (x1.2.2.2.2.1 < (b.2.2.length : Int)) then (
  bif inb x1.2.2.2.2.1 b.2.2.length then
  bif inb (if (IntKind.wrap .i64 (rd (.int .u8) b.2.2 x1.2.2.2.2.1)) < (x1.1.length : Int) then (IntKind.wrap .i64 (rd (.int .u8) b.2.2 x1.2.2.2.2.1)) else (x1.1.length : Int)) (x1.1.length + 1) then
  (both (
  (fun o => both o o) (
  (F13 ((x1.2.2.2.2.2.1, x1.2.2.2.2.2.2), x1.1.take ((if (IntKind.wrap .i64 (rd (.int .u8) b.2.2 x1.2.2.2.2.1)) < (x1.1.length : Int) then (IntKind.wrap .i64 (rd (.int .u8) b.2.2 x1.2.2.2.2.1)) else (x1.1.length : Int)).toNat))).bind fun r2 =>
  bif (!decide (r2.2.2 = 0)) then (
  some ((x1.2.2.2.2.2.1, x1.2.2.2.2.2.2), ([] : List (List Int)), false))
  else (
  bif decide ((x1.2.2.2.1.length + r2.2.1.length) * 24 ≤ LIM) then
  bif inb (if (IntKind.wrap .i64 (rd (.int .u8) b.2.2 x1.2.2.2.2.1)) < (x1.1.length : Int) then (IntKind.wrap .i64 (rd (.int .u8) b.2.2 x1.2.2.2.2.1)) else (x1.1.length : Int)) (x1.1.length + 1) then
  rec1 (x1.1.drop ((if (IntKind.wrap .i64 (rd (.int .u8) b.2.2 x1.2.2.2.2.1)) < (x1.1.length : Int) then (IntKind.wrap .i64 (rd (.int .u8) b.2.2 x1.2.2.2.2.1)) else (x1.1.length : Int)).toNat), x1.2.1, x1.2.2.1, (x1.2.2.2.1 ++ r2.2.1), (IntKind.wrap .i64 (x1.2.2.2.2.1 + 1)), (r2.1.1, r2.1.2))
  else none
  else none))) (
  (F13 ((x1.2.2.2.2.2.1, x1.2.2.2.2.2.2), x1.1.take ((if (IntKind.wrap .i64 (rd (.int .u8) b.2.2 x1.2.2.2.2.1)) < (x1.1.length : Int) then (IntKind.wrap .i64 (rd (.int .u8) b.2.2 x1.2.2.2.2.1)) else (x1.1.length : Int)).toNat))).bind fun r2 =>
  bif (!decide (r2.2.2 = 0)) then (
  some ((x1.2.2.2.2.2.1, x1.2.2.2.2.2.2), ([] : List (List Int)), false))
  else (
  bif decide ((x1.2.2.2.1.length + r2.2.1.length) * 24 ≤ LIM) then
  bif inb (if (IntKind.wrap .i64 (rd (.int .u8) b.2.2 x1.2.2.2.2.1)) < (x1.1.length : Int) then (IntKind.wrap .i64 (rd (.int .u8) b.2.2 x1.2.2.2.2.1)) else (x1.1.length : Int)) (x1.1.length + 1) then
  rec1 (x1.1.drop ((if (IntKind.wrap .i64 (rd (.int .u8) b.2.2 x1.2.2.2.2.1)) < (x1.1.length : Int) then (IntKind.wrap .i64 (rd (.int .u8) b.2.2 x1.2.2.2.2.1)) else (x1.1.length : Int)).toNat), x1.2.1, x1.2.2.1, (x1.2.2.2.1 ++ r2.2.1), (IntKind.wrap .i64 (x1.2.2.2.2.1 + 1)), (r2.1.1, r2.1.2))
  else none
  else none)))
  else none
  else none)
  else (
  bif inb (x1.1.length : Int) (x1.1.length + 1) then
  (both (
  (fun o => both o o) (
  (F13 ((x1.2.2.2.2.2.1, x1.2.2.2.2.2.2), x1.1.take ((x1.1.length : Int).toNat))).bind fun r3 =>
  bif (!decide (r3.2.2 = 0)) then (
  some ((x1.2.2.2.2.2.1, x1.2.2.2.2.2.2), ([] : List (List Int)), false))
  else (
  bif decide ((x1.2.2.2.1.length + r3.2.1.length) * 24 ≤ LIM) then
  bif inb (x1.1.length : Int) (x1.1.length + 1) then
  rec1 (x1.1.drop ((x1.1.length : Int).toNat), x1.2.1, x1.2.2.1, (x1.2.2.2.1 ++ r3.2.1), (IntKind.wrap .i64 (x1.2.2.2.2.1 + 1)), (r3.1.1, r3.1.2))
  else none
  else none))) (
  (F13 ((x1.2.2.2.2.2.1, x1.2.2.2.2.2.2), x1.1.take ((x1.1.length : Int).toNat))).bind fun r3 =>
  bif (!decide (r3.2.2 = 0)) then (
  some ((x1.2.2.2.2.2.1, x1.2.2.2.2.2.2), ([] : List (List Int)), false))
  else (
  bif decide ((x1.2.2.2.1.length + r3.2.1.length) * 24 ≤ LIM) then
  bif inb (x1.1.length : Int) (x1.1.length + 1) then
  rec1 (x1.1.drop ((x1.1.length : Int).toNat), x1.2.1, x1.2.2.1, (x1.2.2.2.1 ++ r3.2.1), (IntKind.wrap .i64 (x1.2.2.2.2.1 + 1)), (r3.1.1, r3.1.2))
  else none
  else none)))
  else none))
  else (
  some ((x1.2.2.2.2.2.1, x1.2.2.2.2.2.2), x1.2.2.2.1, true))) (b.2.1, ([] : List (List Int)), false, ([] : List (List Int)), 0, (b.1.1, b.1.2))
theorem ev15 (b : (List Int × Bool) × List Int × List Int) : evF C13 H15 Try.f15 (encs [.agg (.pair (.slice 5 (.int .u8)) .bool), .one (.slice 5 (.int .u8)), .one (.slice 5 (.int .u8))] b) (RT.dec (.tup [.agg [.sl 5 (.int .u8), .bool], .leaf (.fresh 22 (.slice 5 (.int .u8))), .leaf (.bool)])) = F15 b := by kernel_rfl
noncomputable def C15 : Ctx := Ctx.add C13 15 [.agg (.pair (.slice 5 (.int .u8)) .bool), .one (.slice 5 (.int .u8)), .one (.slice 5 (.int .u8))] (.tup [.agg [.sl 5 (.int .u8), .bool], .leaf (.fresh 22 (.slice 5 (.int .u8))), .leaf (.bool)]) F15
theorem s15 : C15.Sound := Ctx.Sound.add (C := C13) mixed s13 Try.func15 ev15
/-! bytes.Equal -/
def H46 : Nat → Head := fun _ => ⟨[], []⟩
noncomputable def F46 (b : List Int × List Int) : Option Bool :=
 some (decide (b.1 = b.2))
theorem ev46 (b : List Int × List Int) : evF C15 H46 Try.f46 (encs [.one (.slice 5 (.int .u8)), .one (.slice 5 (.int .u8))] b) (RT.dec (.one (.leaf (.bool)))) = F46 b := by kernel_rfl
noncomputable def C46 : Ctx := Ctx.add C15 46 [.one (.slice 5 (.int .u8)), .one (.slice 5 (.int .u8))] (.one (.leaf (.bool))) F46
theorem s46 : C46.Sound := Ctx.Sound.add (C := C15) mixed s15 Try.func46 ev46
/-! damson/frame.Same -/
def H16 : Nat → Head := fun _ => ⟨[], []⟩
noncomputable def F16 (b : (List Int × Bool) × (List Int × Bool)) : Option Bool :=
 bif ((b.1.2 == b.2.2) == true) then (
 (F46 (b.1.1, b.2.1)).bind fun r1 =>
 some r1)
 else (
 some false)
theorem ev16 (b : (List Int × Bool) × (List Int × Bool)) : evF C46 H16 Try.f16 (encs [.agg (.pair (.slice 5 (.int .u8)) .bool), .agg (.pair (.slice 5 (.int .u8)) .bool)] b) (RT.dec (.one (.leaf (.bool)))) = F16 b := by kernel_rfl
noncomputable def C16 : Ctx := Ctx.add C46 16 [.agg (.pair (.slice 5 (.int .u8)) .bool), .agg (.pair (.slice 5 (.int .u8)) .bool)] (.one (.leaf (.bool))) F16
theorem s16 : C16.Sound := Ctx.Sound.add (C := C46) mixed s46 Try.func16 ev16
/-! damson/damsonref01.SameBytes -/
def H23 : Nat → Head := fun _ => ⟨[], []⟩
noncomputable def F23 (b : List Int × List Int) : Option Bool :=
 some (decide (b.1 = b.2))
theorem ev23 (b : List Int × List Int) : evF C16 H23 Try.f23 (encs [.one (.slice 5 (.int .u8)), .one (.slice 5 (.int .u8))] b) (RT.dec (.one (.leaf (.bool)))) = F23 b := by kernel_rfl
noncomputable def C23 : Ctx := Ctx.add C16 23 [.one (.slice 5 (.int .u8)), .one (.slice 5 (.int .u8))] (.one (.leaf (.bool))) F23
theorem s23 : C23.Sound := Ctx.Sound.add (C := C16) mixed s16 Try.func23 ev23
/-! damson/damsonref03.SameTexts -/
def H17 : Nat → Head
  | 4 => ⟨[.data 4 .bool, .data 13 (.int .i64)], []⟩
  | _ => ⟨[], []⟩
noncomputable def F17 (b : List (List Int) × List (List Int)) : Option Bool :=
 bif (!decide ((b.1.length : Int) = (b.2.length : Int))) then (
 some false)
 else (
 lfp (fun (rec1 : (Bool × Int) → Option Bool) (x1 : Bool × Int) =>
  bif decide (x1.2 < (b.1.length : Int)) then (
  bif inb x1.2 b.1.length then
  bif inb x1.2 b.2.length then
  (F23 ((rd (.slice 5 (.int .u8)) b.1 x1.2), (rd (.slice 5 (.int .u8)) b.2 x1.2))).bind fun r2 =>
  bif (!r2) then (
  some false)
  else (
  rec1 (x1.1, (IntKind.wrap .i64 (x1.2 + 1))))
  else none
  else none)
  else (
  some true)) (false, 0))
theorem ev17 (b : List (List Int) × List (List Int)) : evF C23 H17 Try.f17 (encs [.one (.slice 22 (.slice 5 (.int .u8))), .one (.slice 22 (.slice 5 (.int .u8)))] b) (RT.dec (.one (.leaf (.bool)))) = F17 b := by kernel_rfl
noncomputable def C17 : Ctx := Ctx.add C23 17 [.one (.slice 22 (.slice 5 (.int .u8))), .one (.slice 22 (.slice 5 (.int .u8)))] (.one (.leaf (.bool))) F17
theorem s17 : C17.Sound := Ctx.Sound.add (C := C23) mixed s23 Try.func17 ev17
/-! damson/damsonlaw03.FrameCut -/
def H3 : Nat → Head := fun _ => ⟨[], []⟩
noncomputable def F3 (b : (List Int × Bool) × List Int × List Int) : Option Bool :=
 (F12 ()).bind fun r1 =>
 bif (!r1) then (
 some false)
 else (
 bif (bif (bif decide (200 < (b.1.1.length : Int)) then true else decide (2000 < (b.2.1.length : Int))) then true else decide (300 < (b.2.2.length : Int))) then (
 some true)
 else (
 (F13 ((b.1.1, b.1.2), b.2.1)).bind fun r2 =>
 bif (!decide (r2.2.2 = 0)) then (
 bif (decide ((r2.2.1.length : Int) = 0) == true) then (
 (F14 (b.1.1, b.1.2)).bind fun r3 =>
 some (decide (r3 = r2.2.2)))
 else (
 some false))
 else (
 (F15 ((b.1.1, b.1.2), b.2.1, b.2.2)).bind fun r4 =>
 bif (r4.2.2 == true) then (
 bif (decide ((b.2.1.length : Int) = 0) == false) then (
 (F16 ((r2.1.1, r2.1.2), (r4.1.1, r4.1.2))).bind fun r5 =>
 bif (r5 == true) then (
 (F17 (r2.2.1, r4.2.1)).bind fun r6 =>
 bif (r6 == true) then (
 (F14 (r2.1.1, r2.1.2)).bind fun r7 =>
 some (decide (r7 = 0)))
 else (
 some false))
 else (
 some false))
 else (
 (F17 (r2.2.1, r4.2.1)).bind fun r8 =>
 bif (r8 == true) then (
 (F14 (r2.1.1, r2.1.2)).bind fun r9 =>
 some (decide (r9 = 0)))
 else (
 some false)))
 else (
 some false))))
theorem ev3 (b : (List Int × Bool) × List Int × List Int) : evF C17 H3 Try.f3 (encs [.agg (.pair (.slice 5 (.int .u8)) .bool), .one (.slice 5 (.int .u8)), .one (.slice 5 (.int .u8))] b) (RT.dec (.one (.leaf (.bool)))) = F3 b := by kernel_rfl
noncomputable def C3 : Ctx := Ctx.add C17 3 [.agg (.pair (.slice 5 (.int .u8)) .bool), .one (.slice 5 (.int .u8)), .one (.slice 5 (.int .u8))] (.one (.leaf (.bool))) F3
theorem s3 : C3.Sound := Ctx.Sound.add (C := C17) mixed s17 Try.func3 ev3
/-! damson/frame.Wants -/
def H18 : Nat → Head := fun _ => ⟨[], []⟩
noncomputable def F18 (b : (List Int × Bool)) : Option (Int × Int) :=
 (F14 (b.1, b.2)).bind fun r1 =>
 bif (bif (!decide (r1 = 0)) then true else b.2) then (
 some (0, r1))
 else (
 (F44 b.1).bind fun r2 =>
 some ((IntKind.wrap .i64 (r2.1 - (b.1.length : Int))), 0))
theorem ev18 (b : (List Int × Bool)) : evF C3 H18 Try.f18 (encs [.agg (.pair (.slice 5 (.int .u8)) .bool)] b) (RT.dec (.tup [.leaf (.int .i64), .leaf (.int .i64)])) = F18 b := by kernel_rfl
noncomputable def C18 : Ctx := Ctx.add C3 18 [.agg (.pair (.slice 5 (.int .u8)) .bool)] (.tup [.leaf (.int .i64), .leaf (.int .i64)]) F18
theorem s18 : C18.Sound := Ctx.Sound.add (C := C3) mixed s3 Try.func18 ev18
/-! damson/damsonlaw03.FrameWants -/
def H4 : Nat → Head := fun _ => ⟨[], []⟩
noncomputable def F4 (b : (List Int × Bool) × List Int) : Option Bool :=
 (F12 ()).bind fun r1 =>
 bif (!r1) then (
 some false)
 else (
 bif (bif decide (200 < (b.1.1.length : Int)) then true else decide (5000 < (b.2.length : Int))) then (
 some true)
 else (
 (F18 (b.1.1, b.1.2)).bind fun r2 =>
 bif (bif (!decide (r2.2 = 0)) then true else b.1.2) then (
 some (decide (r2.1 = 0)))
 else (
 bif decide (r2.1 < 1) then (
 some false)
 else (
 bif decide ((b.2.length : Int) < r2.1) then (
 (F13 ((b.1.1, b.1.2), b.2)).bind fun r3 =>
 (F18 (r3.1.1, r3.1.2)).bind fun r4 =>
 some (bif (bif (bif (bif decide (r3.2.2 = 0) then decide ((r3.2.1.length : Int) = 0) else false) then decide (r4.2 = 0) else false) then decide (r4.1 = (IntKind.wrap .i64 (r2.1 - (b.2.length : Int)))) else false) then (!r3.1.2) else false))
 else (
 bif inb r2.1 (b.2.length + 1) then
 (both (
 (fun o => both o o) (
 (F13 ((b.1.1, b.1.2), b.2.take r2.1.toNat)).bind fun r5 =>
 bif (bif (!decide (r5.2.2 = 0)) then true else decide (1 < (r5.2.1.length : Int))) then (
 some false)
 else (
 bif ((bif decide ((r5.2.1.length : Int) = 1) then decide ((r5.1.1.length : Int) = 0) else false) == false) then (
 bif (decide ((r5.2.1.length : Int) = 0) == true) then (
 some (bif r5.1.2 then true else decide ((r5.1.1.length : Int) = 2)))
 else (
 some false))
 else (
 some true)))) (
 (F13 ((b.1.1, b.1.2), b.2.take r2.1.toNat)).bind fun r5 =>
 bif (bif (!decide (r5.2.2 = 0)) then true else decide (1 < (r5.2.1.length : Int))) then (
 some false)
 else (
 bif ((bif decide ((r5.2.1.length : Int) = 1) then decide ((r5.1.1.length : Int) = 0) else false) == false) then (
 bif (decide ((r5.2.1.length : Int) = 0) == true) then (
 some (bif r5.1.2 then true else decide ((r5.1.1.length : Int) = 2)))
 else (
 some false))
 else (
 some true))))
 else none)))))
theorem ev4 (b : (List Int × Bool) × List Int) : evF C18 H4 Try.f4 (encs [.agg (.pair (.slice 5 (.int .u8)) .bool), .one (.slice 5 (.int .u8))] b) (RT.dec (.one (.leaf (.bool)))) = F4 b := by kernel_rfl
noncomputable def C4 : Ctx := Ctx.add C18 4 [.agg (.pair (.slice 5 (.int .u8)) .bool), .one (.slice 5 (.int .u8))] (.one (.leaf (.bool))) F4
theorem s4 : C4.Sound := Ctx.Sound.add (C := C18) mixed s18 Try.func4 ev4
/-! damson/damsonlaw03.FrameBad -/
def H6 : Nat → Head := fun _ => ⟨[], []⟩
noncomputable def F6 (b : List Int × Int × List Int) : Option Bool :=
 (F12 ()).bind fun r1 =>
 bif (!r1) then (
 some false)
 else (
 bif (bif (bif decide (300 < (b.1.length : Int)) then true else decide (300 < (b.2.2.length : Int))) then true else decide (b.2.1 ≤ 4096)) then (
 some true)
 else (
 (F19 b.1).bind fun r2 =>
 bif decide ((r2.1.length + 2) * 1 ≤ LIM) then
 bif decide (((r2.1 ++ ([(IntKind.wrap .u8 (b.2.1 / 2 ^ (min (8 : Int).toNat 16))), (IntKind.wrap .u8 b.2.1)])).length + b.2.2.length) * 1 ≤ LIM) then
 (F13 (([], false), (r2.1 ++ ([(IntKind.wrap .u8 (b.2.1 / 2 ^ (min (8 : Int).toNat 16))), (IntKind.wrap .u8 b.2.1)])) ++ b.2.2)).bind fun r3 =>
 bif ((bif (bif (!decide (r2.2 = 0)) then true else (!decide (r3.2.2 = 0))) then true else (!decide ((r3.2.1.length : Int) = 1))) == false) then (
 bif inb 0 r3.2.1.length then
 (F23 ((rd (.slice 5 (.int .u8)) r3.2.1 0), b.1)).bind fun r4 =>
 bif (bif (bif (!r4) then true else (!r3.1.2)) then true else (!decide ((r3.1.1.length : Int) = 0))) then (
 some false)
 else (
 (F13 ((r3.1.1, r3.1.2), b.2.2)).bind fun r5 =>
 (F18 (r3.1.1, r3.1.2)).bind fun r6 =>
 bif ((bif decide (r5.2.2 = 0) then decide ((r5.2.1.length : Int) = 0) else false) == true) then (
 (F16 ((r5.1.1, r5.1.2), (r3.1.1, r3.1.2))).bind fun r7 =>
 some (bif (bif r7 then decide (r6.2 = 0) else false) then decide (r6.1 = 0) else false))
 else (
 some false))
 else none)
 else (
 some false)
 else none
 else none))
theorem ev6 (b : List Int × Int × List Int) : evF C4 H6 Try.f6 (encs [.one (.slice 5 (.int .u8)), .one (.int .u16), .one (.slice 5 (.int .u8))] b) (RT.dec (.one (.leaf (.bool)))) = F6 b := by kernel_rfl
noncomputable def C6 : Ctx := Ctx.add C4 6 [.one (.slice 5 (.int .u8)), .one (.int .u16), .one (.slice 5 (.int .u8))] (.one (.leaf (.bool))) F6
theorem s6 : C6.Sound := Ctx.Sound.add (C := C4) mixed s4 Try.func6 ev6
/-! slices.EqualFunc[[][]byte,[][]byte,[]byte,[]byte] -/
def H54046 : Nat → Head
  | 4 => ⟨[.data 6 .bool, .data 17 (.int .i64)], []⟩
  | _ => ⟨[], []⟩
noncomputable def F54046 (b : List (List Int) × List (List Int) × Unit) : Option Bool :=
 bif (!decide ((b.1.length : Int) = (b.2.1.length : Int))) then (
 some false)
 else (
 lfp (fun (rec1 : (Bool × Int) → Option Bool) (x1 : Bool × Int) =>
  bif decide (x1.2 < (b.1.length : Int)) then (
  bif inb x1.2 b.1.length then
  bif inb x1.2 b.2.1.length then
  (F46 ((rd (.slice 5 (.int .u8)) b.1 x1.2), (rd (.slice 5 (.int .u8)) b.2.1 x1.2))).bind fun r2 =>
  bif (!r2) then (
  some false)
  else (
  rec1 (x1.1, (IntKind.wrap .i64 (x1.2 + 1))))
  else none
  else none)
  else (
  some true)) (false, 0))
theorem ev54046 (b : List (List Int) × List (List Int) × Unit) : evF C6 H54046 Try.f54 (encs [.one (.slice 22 (.slice 5 (.int .u8))), .one (.slice 22 (.slice 5 (.int .u8))), .fn 46] b) (RT.dec (.one (.leaf (.bool)))) = F54046 b := by kernel_rfl
noncomputable def C54046 : Ctx := Ctx.add C6 54 [.one (.slice 22 (.slice 5 (.int .u8))), .one (.slice 22 (.slice 5 (.int .u8))), .fn 46] (.one (.leaf (.bool))) F54046
theorem s54046 : C54046.Sound := Ctx.Sound.add (C := C6) mixed s6 Try.func54 ev54046
/-! damson/session.Same -/
def H42 : Nat → Head := fun _ => ⟨[], []⟩
noncomputable def F42 (b : (Bool × (List Int × (Bool × (List (List Int) × List Int)))) × (Bool × (List Int × (Bool × (List (List Int) × List Int))))) : Option Bool :=
 bif ((b.1.1 == b.2.1) == true) then (
 (F16 ((b.1.2.1, b.1.2.2.1), (b.2.2.1, b.2.2.2.1))).bind fun r1 =>
 bif (r1 == true) then (
 (F54046 (b.1.2.2.2.1, b.2.2.2.2.1, ())).bind fun r2 =>
 bif (r2 == true) then (
 (F46 (b.1.2.2.2.2, b.2.2.2.2.2)).bind fun r3 =>
 some r3)
 else (
 some false))
 else (
 some false))
 else (
 some false)
theorem ev42 (b : (Bool × (List Int × (Bool × (List (List Int) × List Int)))) × (Bool × (List Int × (Bool × (List (List Int) × List Int))))) : evF C54046 H42 Try.f42 (encs [.agg (.pair .bool (.pair (.slice 5 (.int .u8)) (.pair .bool (.pair (.slice 22 (.slice 5 (.int .u8))) (.slice 5 (.int .u8)))))), .agg (.pair .bool (.pair (.slice 5 (.int .u8)) (.pair .bool (.pair (.slice 22 (.slice 5 (.int .u8))) (.slice 5 (.int .u8))))))] b) (RT.dec (.one (.leaf (.bool)))) = F42 b := by kernel_rfl
noncomputable def C42 : Ctx := Ctx.add C54046 42 [.agg (.pair .bool (.pair (.slice 5 (.int .u8)) (.pair .bool (.pair (.slice 22 (.slice 5 (.int .u8))) (.slice 5 (.int .u8)))))), .agg (.pair .bool (.pair (.slice 5 (.int .u8)) (.pair .bool (.pair (.slice 22 (.slice 5 (.int .u8))) (.slice 5 (.int .u8))))))] (.one (.leaf (.bool))) F42
theorem s42 : C42.Sound := Ctx.Sound.add (C := C54046) mixed s54046 Try.func42 ev42
/-! slices.IndexFunc[[][]byte,[]byte] -/
def H58052 : Nat → Head
  | 2 => ⟨[.data 4 (.int .i64), .data 8 (.int .i64)], []⟩
  | _ => ⟨[], []⟩
noncomputable def F58052 (b : List (List Int) × Unit) : Option Int :=
 lfp (fun (rec1 : (Int × Int) → Option Int) (x1 : Int × Int) =>
  bif decide (x1.2 < (b.1.length : Int)) then (
  bif inb x1.2 b.1.length then
  (F52 (rd (.slice 5 (.int .u8)) b.1 x1.2)).bind fun r2 =>
  bif r2 then (
  some x1.2)
  else (
  rec1 (x1.1, (IntKind.wrap .i64 (x1.2 + 1))))
  else none)
  else (
  some (-1))) (0, 0)
theorem ev58052 (b : List (List Int) × Unit) : evF C42 H58052 Try.f58 (encs [.one (.slice 22 (.slice 5 (.int .u8))), .fn 52] b) (RT.dec (.one (.leaf (.int .i64)))) = F58052 b := by kernel_rfl
noncomputable def C58052 : Ctx := Ctx.add C42 58 [.one (.slice 22 (.slice 5 (.int .u8))), .fn 52] (.one (.leaf (.int .i64))) F58052
theorem s58052 : C58052.Sound := Ctx.Sound.add (C := C42) mixed s42 Try.func58 ev58052
/-! slices.ContainsFunc[[][]byte,[]byte] -/
def H53052 : Nat → Head := fun _ => ⟨[], []⟩
noncomputable def F53052 (b : List (List Int) × Unit) : Option Bool :=
 (F58052 (b.1, ())).bind fun r1 =>
 some (decide (0 ≤ r1))
theorem ev53052 (b : List (List Int) × Unit) : evF C58052 H53052 Try.f53 (encs [.one (.slice 22 (.slice 5 (.int .u8))), .fn 52] b) (RT.dec (.one (.leaf (.bool)))) = F53052 b := by kernel_rfl
noncomputable def C53052 : Ctx := Ctx.add C58052 53 [.one (.slice 22 (.slice 5 (.int .u8))), .fn 52] (.one (.leaf (.bool))) F53052
theorem s53052 : C53052.Sound := Ctx.Sound.add (C := C58052) mixed s58052 Try.func53 ev53052
/-! damson/session.Check -/
def H39 : Nat → Head := fun _ => ⟨[], []⟩
noncomputable def F39 (b : (Bool × (List Int × (Bool × (List (List Int) × List Int))))) : Option Int :=
 bif ((!b.1) == true) then (
 (F42 ((b.1, (b.2.1, (b.2.2.1, (b.2.2.2.1, b.2.2.2.2)))), (false, ([], (false, ([], [])))))).bind fun r1 =>
 bif (!r1) then (
 bif (!r1) then (
 some 1)
 else (
 (F14 (b.2.1, b.2.2.1)).bind fun r2 =>
 some r2))
 else (
 bif decide (8 < (b.2.2.2.1.length : Int)) then (
 bif decide (8 < (b.2.2.2.1.length : Int)) then (
 some 1)
 else (
 (F14 (b.2.1, b.2.2.1)).bind fun r3 =>
 some r3))
 else (
 bif decide (16384 < (b.2.2.2.2.length : Int)) then (
 bif decide (16384 < (b.2.2.2.2.length : Int)) then (
 some 1)
 else (
 (F14 (b.2.1, b.2.2.1)).bind fun r4 =>
 some r4))
 else (
 (F53052 (b.2.2.2.1, ())).bind fun r5 =>
 bif r5 then (
 some 1)
 else (
 (F14 (b.2.1, b.2.2.1)).bind fun r6 =>
 some r6)))))
 else (
 bif decide (8 < (b.2.2.2.1.length : Int)) then (
 bif decide (8 < (b.2.2.2.1.length : Int)) then (
 some 1)
 else (
 (F14 (b.2.1, b.2.2.1)).bind fun r7 =>
 some r7))
 else (
 bif decide (16384 < (b.2.2.2.2.length : Int)) then (
 bif decide (16384 < (b.2.2.2.2.length : Int)) then (
 some 1)
 else (
 (F14 (b.2.1, b.2.2.1)).bind fun r8 =>
 some r8))
 else (
 (F53052 (b.2.2.2.1, ())).bind fun r9 =>
 bif r9 then (
 some 1)
 else (
 (F14 (b.2.1, b.2.2.1)).bind fun r10 =>
 some r10))))
theorem ev39 (b : (Bool × (List Int × (Bool × (List (List Int) × List Int))))) : evF C53052 H39 Try.f39 (encs [.agg (.pair .bool (.pair (.slice 5 (.int .u8)) (.pair .bool (.pair (.slice 22 (.slice 5 (.int .u8))) (.slice 5 (.int .u8))))))] b) (RT.dec (.one (.leaf (.int .i64)))) = F39 b := by kernel_rfl
noncomputable def C39 : Ctx := Ctx.add C53052 39 [.agg (.pair .bool (.pair (.slice 5 (.int .u8)) (.pair .bool (.pair (.slice 22 (.slice 5 (.int .u8))) (.slice 5 (.int .u8))))))] (.one (.leaf (.int .i64))) F39
theorem s39 : C39.Sound := Ctx.Sound.add (C := C53052) mixed s53052 Try.func39 ev39
/-! damson/session.ready -/
def H49 : Nat → Head := fun _ => ⟨[], []⟩
noncomputable def F49 (b : (Bool × (List Int × (Bool × (List (List Int) × List Int))))) : Option Int :=
 (F39 (b.1, (b.2.1, (b.2.2.1, (b.2.2.2.1, b.2.2.2.2))))).bind fun r1 =>
 bif (bif (!decide (r1 = 0)) then true else b.1) then (
 some r1)
 else (
 some 14)
theorem ev49 (b : (Bool × (List Int × (Bool × (List (List Int) × List Int))))) : evF C39 H49 Try.f49 (encs [.agg (.pair .bool (.pair (.slice 5 (.int .u8)) (.pair .bool (.pair (.slice 22 (.slice 5 (.int .u8))) (.slice 5 (.int .u8))))))] b) (RT.dec (.one (.leaf (.int .i64)))) = F49 b := by kernel_rfl
noncomputable def C49 : Ctx := Ctx.add C39 49 [.agg (.pair .bool (.pair (.slice 5 (.int .u8)) (.pair .bool (.pair (.slice 22 (.slice 5 (.int .u8))) (.slice 5 (.int .u8))))))] (.one (.leaf (.int .i64))) F49
theorem s49 : C49.Sound := Ctx.Sound.add (C := C39) mixed s39 Try.func49 ev49
/-! damson/session.Up -/
def H29 : Nat → Head := fun _ => ⟨[], []⟩
noncomputable def F29 (b : (Bool × (List Int × (Bool × (List (List Int) × List Int))))) : Option ((Bool × List Int × Bool × List (List Int) × List Int) × Int) :=
 (F49 (b.1, (b.2.1, (b.2.2.1, (b.2.2.2.1, b.2.2.2.2))))).bind fun r1 =>
 bif decide (r1 = 14) then (
 some ((true, ([] : List Int), false, ([] : List (List Int)), ([] : List Int)), 0))
 else (
 bif decide (r1 = 0) then (
 some ((false, ([] : List Int), false, ([] : List (List Int)), ([] : List Int)), 10))
 else (
 some ((false, ([] : List Int), false, ([] : List (List Int)), ([] : List Int)), r1)))
theorem ev29 (b : (Bool × (List Int × (Bool × (List (List Int) × List Int))))) : evF C49 H29 Try.f29 (encs [.agg (.pair .bool (.pair (.slice 5 (.int .u8)) (.pair .bool (.pair (.slice 22 (.slice 5 (.int .u8))) (.slice 5 (.int .u8))))))] b) (RT.dec (.tup [.agg [.bool, .fresh 5 (.int .u8), .bool, .fresh 22 (.slice 5 (.int .u8)), .fresh 5 (.int .u8)], .leaf (.int .i64)])) = F29 b := by kernel_rfl
noncomputable def C29 : Ctx := Ctx.add C49 29 [.agg (.pair .bool (.pair (.slice 5 (.int .u8)) (.pair .bool (.pair (.slice 22 (.slice 5 (.int .u8))) (.slice 5 (.int .u8))))))] (.tup [.agg [.bool, .fresh 5 (.int .u8), .bool, .fresh 22 (.slice 5 (.int .u8)), .fresh 5 (.int .u8)], .leaf (.int .i64)]) F29
theorem s29 : C29.Sound := Ctx.Sound.add (C := C49) mixed s49 Try.func29 ev29
/-! slices.Clone[[][]byte,[]byte] -/
def H57 : Nat → Head := fun _ => ⟨[], []⟩
noncomputable def F57 (b : List (List Int)) : Option (List (List Int)) :=
 bif b.isEmpty then (
 (both (
 some ([] : List (List Int))) (
 bif decide ((([] : List (List Int)).length + b.length) * 24 ≤ LIM) then
 some (([] : List (List Int)) ++ b)
 else none)))
 else (
 bif decide ((([] : List (List Int)).length + b.length) * 24 ≤ LIM) then
 some (([] : List (List Int)) ++ b)
 else none)
theorem ev57 (b : List (List Int)) : evF C29 H57 Try.f57 (encs [.one (.slice 22 (.slice 5 (.int .u8)))] b) (RT.dec (.one (.leaf (.fresh 22 (.slice 5 (.int .u8)))))) = F57 b := by kernel_rfl
noncomputable def C57 : Ctx := Ctx.add C29 57 [.one (.slice 22 (.slice 5 (.int .u8)))] (.one (.leaf (.fresh 22 (.slice 5 (.int .u8))))) F57
theorem s57 : C57.Sound := Ctx.Sound.add (C := C29) mixed s29 Try.func57 ev57
/-! damson/session.own -/
def H51 : Nat → Head
  | 3 => ⟨[.data 22 (.int .i64), .rowk 45056 22 (.slice 5 (.int .u8))], [57344, 32768, 8192, 4096]⟩
  | _ => ⟨[], []⟩
noncomputable def F51 (b : (Bool × (List Int × (Bool × (List (List Int) × List Int))))) : Option (Bool × List Int × Bool × List (List Int) × List Int) :=
 (both (
 (both (
 (F45 b.2.1).bind fun r1 =>
 (both (
 (fun o => both o o) (
 (F57 b.2.2.2.1).bind fun r2 =>
 (F45 b.2.2.2.2).bind fun r3 =>
 lfp (fun (rec4 : (Int × List (List Int)) → Option (Bool × List Int × Bool × List (List Int) × List Int)) (x4 : Int × List (List Int)) =>
  bif decide (x4.1 < (r2.length : Int)) then (
  bif inb x4.1 x4.2.length then
  (fun o => both o o) (
  (F45 (rd (.slice 5 (.int .u8)) x4.2 x4.1)).bind fun r5 =>
  bif inb x4.1 x4.2.length then
  rec4 ((IntKind.wrap .i64 (x4.1 + 1)), (x4.2.set x4.1.toNat r5))
  else none)
  else none)
  else (
  some (b.1, r1, b.2.2.1, x4.2, r3))) (0, r2))) (
 (F57 b.2.2.2.1).bind fun r2 =>
 (F45 b.2.2.2.2).bind fun r3 =>
 lfp (fun (rec4 : (Int × List (List Int)) → Option (Bool × List Int × Bool × List (List Int) × List Int)) (x4 : Int × List (List Int)) =>
  bif decide (x4.1 < (r2.length : Int)) then (
  bif inb x4.1 x4.2.length then
  (fun o => both o o) (
  (F45 (rd (.slice 5 (.int .u8)) x4.2 x4.1)).bind fun r5 =>
  bif inb x4.1 x4.2.length then
  rec4 ((IntKind.wrap .i64 (x4.1 + 1)), (x4.2.set x4.1.toNat r5))
  else none)
  else none)
  else (
  some (b.1, r1, b.2.2.1, x4.2, r3))) (0, r2)))) (both (
 (both (
 (F45 b.2.1).bind fun r1 =>
 (fun o => both o o) (
 (F57 b.2.2.2.1).bind fun r2 =>
 (F45 b.2.2.2.2).bind fun r3 =>
 lfp (fun (rec4 : (Int × List (List Int)) → Option (Bool × List Int × Bool × List (List Int) × List Int)) (x4 : Int × List (List Int)) =>
  bif decide (x4.1 < (r2.length : Int)) then (
  bif inb x4.1 x4.2.length then
  (fun o => both o o) (
  (F45 (rd (.slice 5 (.int .u8)) x4.2 x4.1)).bind fun r5 =>
  bif inb x4.1 x4.2.length then
  rec4 ((IntKind.wrap .i64 (x4.1 + 1)), (x4.2.set x4.1.toNat r5))
  else none)
  else none)
  else (
  some (b.1, r1, b.2.2.1, x4.2, r3))) (0, r2))) (
 (F45 b.2.1).bind fun r1 =>
 (F57 b.2.2.2.1).bind fun r2 =>
 (F45 b.2.2.2.2).bind fun r3 =>
 lfp (fun (rec4 : (Int × List (List Int)) → Option (Bool × List Int × Bool × List (List Int) × List Int)) (x4 : Int × List (List Int)) =>
  bif decide (x4.1 < (r2.length : Int)) then (
  bif inb x4.1 x4.2.length then
  (fun o => both o o) (
  (F45 (rd (.slice 5 (.int .u8)) x4.2 x4.1)).bind fun r5 =>
  bif inb x4.1 x4.2.length then
  rec4 ((IntKind.wrap .i64 (x4.1 + 1)), (x4.2.set x4.1.toNat r5))
  else none)
  else none)
  else (
  some (b.1, r1, b.2.2.1, x4.2, r3))) (0, r2)))) (
 (fun o => both o o) (
 (F45 b.2.1).bind fun r1 =>
 (F57 b.2.2.2.1).bind fun r2 =>
 (F45 b.2.2.2.2).bind fun r3 =>
 lfp (fun (rec4 : (Int × List (List Int)) → Option (Bool × List Int × Bool × List (List Int) × List Int)) (x4 : Int × List (List Int)) =>
  bif decide (x4.1 < (r2.length : Int)) then (
  bif inb x4.1 x4.2.length then
  (fun o => both o o) (
  (F45 (rd (.slice 5 (.int .u8)) x4.2 x4.1)).bind fun r5 =>
  bif inb x4.1 x4.2.length then
  rec4 ((IntKind.wrap .i64 (x4.1 + 1)), (x4.2.set x4.1.toNat r5))
  else none)
  else none)
  else (
  some (b.1, r1, b.2.2.1, x4.2, r3))) (0, r2)))))) (both (
 (both (
 (both (
 (F45 b.2.1).bind fun r1 =>
 (fun o => both o o) (
 (F57 b.2.2.2.1).bind fun r2 =>
 (F45 b.2.2.2.2).bind fun r3 =>
 lfp (fun (rec4 : (Int × List (List Int)) → Option (Bool × List Int × Bool × List (List Int) × List Int)) (x4 : Int × List (List Int)) =>
  bif decide (x4.1 < (r2.length : Int)) then (
  bif inb x4.1 x4.2.length then
  (fun o => both o o) (
  (F45 (rd (.slice 5 (.int .u8)) x4.2 x4.1)).bind fun r5 =>
  bif inb x4.1 x4.2.length then
  rec4 ((IntKind.wrap .i64 (x4.1 + 1)), (x4.2.set x4.1.toNat r5))
  else none)
  else none)
  else (
  some (b.1, r1, b.2.2.1, x4.2, r3))) (0, r2))) (
 (F45 b.2.1).bind fun r1 =>
 (F57 b.2.2.2.1).bind fun r2 =>
 (F45 b.2.2.2.2).bind fun r3 =>
 lfp (fun (rec4 : (Int × List (List Int)) → Option (Bool × List Int × Bool × List (List Int) × List Int)) (x4 : Int × List (List Int)) =>
  bif decide (x4.1 < (r2.length : Int)) then (
  bif inb x4.1 x4.2.length then
  (fun o => both o o) (
  (F45 (rd (.slice 5 (.int .u8)) x4.2 x4.1)).bind fun r5 =>
  bif inb x4.1 x4.2.length then
  rec4 ((IntKind.wrap .i64 (x4.1 + 1)), (x4.2.set x4.1.toNat r5))
  else none)
  else none)
  else (
  some (b.1, r1, b.2.2.1, x4.2, r3))) (0, r2)))) (
 (F45 b.2.1).bind fun r1 =>
 (F57 b.2.2.2.1).bind fun r2 =>
 (F45 b.2.2.2.2).bind fun r3 =>
 lfp (fun (rec4 : (Int × List (List Int)) → Option (Bool × List Int × Bool × List (List Int) × List Int)) (x4 : Int × List (List Int)) =>
  bif decide (x4.1 < (r2.length : Int)) then (
  bif inb x4.1 x4.2.length then
  (fun o => both o o) (
  (F45 (rd (.slice 5 (.int .u8)) x4.2 x4.1)).bind fun r5 =>
  bif inb x4.1 x4.2.length then
  rec4 ((IntKind.wrap .i64 (x4.1 + 1)), (x4.2.set x4.1.toNat r5))
  else none)
  else none)
  else (
  some (b.1, r1, b.2.2.1, x4.2, r3))) (0, r2)))) (
 (both (
 (fun o => both o o) (
 (F45 b.2.1).bind fun r1 =>
 (F57 b.2.2.2.1).bind fun r2 =>
 (F45 b.2.2.2.2).bind fun r3 =>
 lfp (fun (rec4 : (Int × List (List Int)) → Option (Bool × List Int × Bool × List (List Int) × List Int)) (x4 : Int × List (List Int)) =>
  bif decide (x4.1 < (r2.length : Int)) then (
  bif inb x4.1 x4.2.length then
  (fun o => both o o) (
  (F45 (rd (.slice 5 (.int .u8)) x4.2 x4.1)).bind fun r5 =>
  bif inb x4.1 x4.2.length then
  rec4 ((IntKind.wrap .i64 (x4.1 + 1)), (x4.2.set x4.1.toNat r5))
  else none)
  else none)
  else (
  some (b.1, r1, b.2.2.1, x4.2, r3))) (0, r2))) (
 (F45 b.2.1).bind fun r1 =>
 (F57 b.2.2.2.1).bind fun r2 =>
 (F45 b.2.2.2.2).bind fun r3 =>
 lfp (fun (rec4 : (Int × List (List Int)) → Option (Bool × List Int × Bool × List (List Int) × List Int)) (x4 : Int × List (List Int)) =>
  bif decide (x4.1 < (r2.length : Int)) then (
  bif inb x4.1 x4.2.length then
  (fun o => both o o) (
  (F45 (rd (.slice 5 (.int .u8)) x4.2 x4.1)).bind fun r5 =>
  bif inb x4.1 x4.2.length then
  rec4 ((IntKind.wrap .i64 (x4.1 + 1)), (x4.2.set x4.1.toNat r5))
  else none)
  else none)
  else (
  some (b.1, r1, b.2.2.1, x4.2, r3))) (0, r2))))))
theorem ev51 (b : (Bool × (List Int × (Bool × (List (List Int) × List Int))))) : evF C57 H51 Try.f51 (encs [.agg (.pair .bool (.pair (.slice 5 (.int .u8)) (.pair .bool (.pair (.slice 22 (.slice 5 (.int .u8))) (.slice 5 (.int .u8))))))] b) (RT.dec (.one (.agg [.bool, .fresh 5 (.int .u8), .bool, .fresh 22 (.slice 5 (.int .u8)), .fresh 5 (.int .u8)]))) = F51 b := by kernel_rfl
noncomputable def C51 : Ctx := Ctx.add C57 51 [.agg (.pair .bool (.pair (.slice 5 (.int .u8)) (.pair .bool (.pair (.slice 22 (.slice 5 (.int .u8))) (.slice 5 (.int .u8))))))] (.one (.agg [.bool, .fresh 5 (.int .u8), .bool, .fresh 22 (.slice 5 (.int .u8)), .fresh 5 (.int .u8)])) F51
theorem s51 : C51.Sound := Ctx.Sound.add (C := C57) mixed s57 Try.func51 ev51
/-! damson/session.Hear -/
def H33 : Nat → Head := fun _ => ⟨[], []⟩
noncomputable def F33 (b : (Bool × (List Int × (Bool × (List (List Int) × List Int)))) × List Int) : Option ((Bool × List Int × Bool × List (List Int) × List Int) × Int × Int) :=
 (F49 (b.1.1, (b.1.2.1, (b.1.2.2.1, (b.1.2.2.2.1, b.1.2.2.2.2))))).bind fun r1 =>
 bif (!decide (r1 = 0)) then (
 some ((false, ([] : List Int), false, ([] : List (List Int)), ([] : List Int)), 0, r1))
 else (
 (F13 ((b.1.2.1, b.1.2.2.1), b.2)).bind fun r2 =>
 bif (!decide (r2.2.2 = 0)) then (
 some ((false, ([] : List Int), false, ([] : List (List Int)), ([] : List Int)), 0, r2.2.2))
 else (
 bif decide (8 < (IntKind.wrap .i64 ((b.1.2.2.2.1.length : Int) + (r2.2.1.length : Int)))) then (
 some ((false, ([] : List Int), false, ([] : List (List Int)), ([] : List Int)), 0, 7))
 else (
 (F51 (b.1.1, (b.1.2.1, (b.1.2.2.1, (b.1.2.2.2.1, b.1.2.2.2.2))))).bind fun r3 =>
 (both (
 bif decide ((r3.2.2.2.1.length + r2.2.1.length) * 24 ≤ LIM) then
 some ((r3.1, r2.1.1, r2.1.2, r3.2.2.2.1 ++ r2.2.1, r3.2.2.2.2), (r2.2.1.length : Int), 0)
 else none) (
 (fun o => both o o) (
 bif decide ((r3.2.2.2.1.length + r2.2.1.length) * 24 ≤ LIM) then
 some ((r3.1, r2.1.1, r2.1.2, r3.2.2.2.1 ++ r2.2.1, r3.2.2.2.2), (r2.2.1.length : Int), 0)
 else none))))))
theorem ev33 (b : (Bool × (List Int × (Bool × (List (List Int) × List Int)))) × List Int) : evF C51 H33 Try.f33 (encs [.agg (.pair .bool (.pair (.slice 5 (.int .u8)) (.pair .bool (.pair (.slice 22 (.slice 5 (.int .u8))) (.slice 5 (.int .u8)))))), .one (.slice 5 (.int .u8))] b) (RT.dec (.tup [.agg [.bool, .sl 5 (.int .u8), .bool, .fresh 22 (.slice 5 (.int .u8)), .fresh 5 (.int .u8)], .leaf (.int .i64), .leaf (.int .i64)])) = F33 b := by kernel_rfl
noncomputable def C33 : Ctx := Ctx.add C51 33 [.agg (.pair .bool (.pair (.slice 5 (.int .u8)) (.pair .bool (.pair (.slice 22 (.slice 5 (.int .u8))) (.slice 5 (.int .u8)))))), .one (.slice 5 (.int .u8))] (.tup [.agg [.bool, .sl 5 (.int .u8), .bool, .fresh 22 (.slice 5 (.int .u8)), .fresh 5 (.int .u8)], .leaf (.int .i64), .leaf (.int .i64)]) F33
theorem s33 : C33.Sound := Ctx.Sound.add (C := C51) mixed s51 Try.func33 ev33
/-! damson/damsonlaw22.live -/
def H26 : Nat → Head := fun _ => ⟨[], []⟩
noncomputable def F26 (b : Unit) : Option Bool :=
 (F29 (false, ([], (false, ([], []))))).bind fun r1 =>
 (both (
 (both (
 bif (decide (0 ≤ 18) && decide (18 = 18) && decide ((18 : Int).toNat * 1 ≤ LIM)) then
 (fun o => both o o) (
 (F33 ((r1.1.1, (r1.1.2.1, (r1.1.2.2.1, (r1.1.2.2.2.1, r1.1.2.2.2.2)))), (List.replicate ((18 : Int).toNat) 0 : List Int))).bind fun r2 =>
 (both (
 (both (
 bif (decide (0 ≤ 16) && decide (16 = 16) && decide ((16 : Int).toNat * 1 ≤ LIM)) then
 (fun o => both o o) (
 (F33 ((r1.1.1, (r1.1.2.1, (r1.1.2.2.1, (r1.1.2.2.2.1, r1.1.2.2.2.2)))), (List.replicate ((16 : Int).toNat) 0 : List Int))).bind fun r3 =>
 some (bif (bif (bif (bif decide (r1.2 = 0) then decide (r2.2.2 = 7) else false) then decide (r3.2.2 = 0) else false) then decide (r3.2.1 = 8) else false) then decide ((r3.1.2.2.2.1.length : Int) = 8) else false))
 else none) (
 bif (decide (0 ≤ 16) && decide (16 = 16) && decide ((16 : Int).toNat * 1 ≤ LIM)) then
 (F33 ((r1.1.1, (r1.1.2.1, (r1.1.2.2.1, (r1.1.2.2.2.1, r1.1.2.2.2.2)))), (List.replicate ((16 : Int).toNat) 0 : List Int))).bind fun r3 =>
 some (bif (bif (bif (bif decide (r1.2 = 0) then decide (r2.2.2 = 7) else false) then decide (r3.2.2 = 0) else false) then decide (r3.2.1 = 8) else false) then decide ((r3.1.2.2.2.1.length : Int) = 8) else false)
 else none))) (both (
 bif (decide (0 ≤ 16) && decide (16 = 16) && decide ((16 : Int).toNat * 1 ≤ LIM)) then
 (both (
 (fun o => both o o) (
 (F33 ((r1.1.1, (r1.1.2.1, (r1.1.2.2.1, (r1.1.2.2.2.1, r1.1.2.2.2.2)))), (List.replicate ((16 : Int).toNat) 0 : List Int))).bind fun r3 =>
 some (bif (bif (bif (bif decide (r1.2 = 0) then decide (r2.2.2 = 7) else false) then decide (r3.2.2 = 0) else false) then decide (r3.2.1 = 8) else false) then decide ((r3.1.2.2.2.1.length : Int) = 8) else false))) (
 (F33 ((r1.1.1, (r1.1.2.1, (r1.1.2.2.1, (r1.1.2.2.2.1, r1.1.2.2.2.2)))), (List.replicate ((16 : Int).toNat) 0 : List Int))).bind fun r3 =>
 some (bif (bif (bif (bif decide (r1.2 = 0) then decide (r2.2.2 = 7) else false) then decide (r3.2.2 = 0) else false) then decide (r3.2.1 = 8) else false) then decide ((r3.1.2.2.2.1.length : Int) = 8) else false)))
 else none) (
 (fun o => both o o) (
 bif (decide (0 ≤ 16) && decide (16 = 16) && decide ((16 : Int).toNat * 1 ≤ LIM)) then
 (F33 ((r1.1.1, (r1.1.2.1, (r1.1.2.2.1, (r1.1.2.2.2.1, r1.1.2.2.2.2)))), (List.replicate ((16 : Int).toNat) 0 : List Int))).bind fun r3 =>
 some (bif (bif (bif (bif decide (r1.2 = 0) then decide (r2.2.2 = 7) else false) then decide (r3.2.2 = 0) else false) then decide (r3.2.1 = 8) else false) then decide ((r3.1.2.2.2.1.length : Int) = 8) else false)
 else none)))))
 else none) (
 bif (decide (0 ≤ 18) && decide (18 = 18) && decide ((18 : Int).toNat * 1 ≤ LIM)) then
 (F33 ((r1.1.1, (r1.1.2.1, (r1.1.2.2.1, (r1.1.2.2.2.1, r1.1.2.2.2.2)))), (List.replicate ((18 : Int).toNat) 0 : List Int))).bind fun r2 =>
 (both (
 (both (
 bif (decide (0 ≤ 16) && decide (16 = 16) && decide ((16 : Int).toNat * 1 ≤ LIM)) then
 (fun o => both o o) (
 (F33 ((r1.1.1, (r1.1.2.1, (r1.1.2.2.1, (r1.1.2.2.2.1, r1.1.2.2.2.2)))), (List.replicate ((16 : Int).toNat) 0 : List Int))).bind fun r3 =>
 some (bif (bif (bif (bif decide (r1.2 = 0) then decide (r2.2.2 = 7) else false) then decide (r3.2.2 = 0) else false) then decide (r3.2.1 = 8) else false) then decide ((r3.1.2.2.2.1.length : Int) = 8) else false))
 else none) (
 bif (decide (0 ≤ 16) && decide (16 = 16) && decide ((16 : Int).toNat * 1 ≤ LIM)) then
 (F33 ((r1.1.1, (r1.1.2.1, (r1.1.2.2.1, (r1.1.2.2.2.1, r1.1.2.2.2.2)))), (List.replicate ((16 : Int).toNat) 0 : List Int))).bind fun r3 =>
 some (bif (bif (bif (bif decide (r1.2 = 0) then decide (r2.2.2 = 7) else false) then decide (r3.2.2 = 0) else false) then decide (r3.2.1 = 8) else false) then decide ((r3.1.2.2.2.1.length : Int) = 8) else false)
 else none))) (both (
 bif (decide (0 ≤ 16) && decide (16 = 16) && decide ((16 : Int).toNat * 1 ≤ LIM)) then
 (both (
 (fun o => both o o) (
 (F33 ((r1.1.1, (r1.1.2.1, (r1.1.2.2.1, (r1.1.2.2.2.1, r1.1.2.2.2.2)))), (List.replicate ((16 : Int).toNat) 0 : List Int))).bind fun r3 =>
 some (bif (bif (bif (bif decide (r1.2 = 0) then decide (r2.2.2 = 7) else false) then decide (r3.2.2 = 0) else false) then decide (r3.2.1 = 8) else false) then decide ((r3.1.2.2.2.1.length : Int) = 8) else false))) (
 (F33 ((r1.1.1, (r1.1.2.1, (r1.1.2.2.1, (r1.1.2.2.2.1, r1.1.2.2.2.2)))), (List.replicate ((16 : Int).toNat) 0 : List Int))).bind fun r3 =>
 some (bif (bif (bif (bif decide (r1.2 = 0) then decide (r2.2.2 = 7) else false) then decide (r3.2.2 = 0) else false) then decide (r3.2.1 = 8) else false) then decide ((r3.1.2.2.2.1.length : Int) = 8) else false)))
 else none) (
 (fun o => both o o) (
 bif (decide (0 ≤ 16) && decide (16 = 16) && decide ((16 : Int).toNat * 1 ≤ LIM)) then
 (F33 ((r1.1.1, (r1.1.2.1, (r1.1.2.2.1, (r1.1.2.2.2.1, r1.1.2.2.2.2)))), (List.replicate ((16 : Int).toNat) 0 : List Int))).bind fun r3 =>
 some (bif (bif (bif (bif decide (r1.2 = 0) then decide (r2.2.2 = 7) else false) then decide (r3.2.2 = 0) else false) then decide (r3.2.1 = 8) else false) then decide ((r3.1.2.2.2.1.length : Int) = 8) else false)
 else none))))
 else none))) (both (
 bif (decide (0 ≤ 18) && decide (18 = 18) && decide ((18 : Int).toNat * 1 ≤ LIM)) then
 (both (
 (fun o => both o o) (
 (F33 ((r1.1.1, (r1.1.2.1, (r1.1.2.2.1, (r1.1.2.2.2.1, r1.1.2.2.2.2)))), (List.replicate ((18 : Int).toNat) 0 : List Int))).bind fun r2 =>
 (both (
 (both (
 bif (decide (0 ≤ 16) && decide (16 = 16) && decide ((16 : Int).toNat * 1 ≤ LIM)) then
 (fun o => both o o) (
 (F33 ((r1.1.1, (r1.1.2.1, (r1.1.2.2.1, (r1.1.2.2.2.1, r1.1.2.2.2.2)))), (List.replicate ((16 : Int).toNat) 0 : List Int))).bind fun r3 =>
 some (bif (bif (bif (bif decide (r1.2 = 0) then decide (r2.2.2 = 7) else false) then decide (r3.2.2 = 0) else false) then decide (r3.2.1 = 8) else false) then decide ((r3.1.2.2.2.1.length : Int) = 8) else false))
 else none) (
 bif (decide (0 ≤ 16) && decide (16 = 16) && decide ((16 : Int).toNat * 1 ≤ LIM)) then
 (F33 ((r1.1.1, (r1.1.2.1, (r1.1.2.2.1, (r1.1.2.2.2.1, r1.1.2.2.2.2)))), (List.replicate ((16 : Int).toNat) 0 : List Int))).bind fun r3 =>
 some (bif (bif (bif (bif decide (r1.2 = 0) then decide (r2.2.2 = 7) else false) then decide (r3.2.2 = 0) else false) then decide (r3.2.1 = 8) else false) then decide ((r3.1.2.2.2.1.length : Int) = 8) else false)
 else none))) (both (
 bif (decide (0 ≤ 16) && decide (16 = 16) && decide ((16 : Int).toNat * 1 ≤ LIM)) then
 (both (
 (fun o => both o o) (
 (F33 ((r1.1.1, (r1.1.2.1, (r1.1.2.2.1, (r1.1.2.2.2.1, r1.1.2.2.2.2)))), (List.replicate ((16 : Int).toNat) 0 : List Int))).bind fun r3 =>
 some (bif (bif (bif (bif decide (r1.2 = 0) then decide (r2.2.2 = 7) else false) then decide (r3.2.2 = 0) else false) then decide (r3.2.1 = 8) else false) then decide ((r3.1.2.2.2.1.length : Int) = 8) else false))) (
 (F33 ((r1.1.1, (r1.1.2.1, (r1.1.2.2.1, (r1.1.2.2.2.1, r1.1.2.2.2.2)))), (List.replicate ((16 : Int).toNat) 0 : List Int))).bind fun r3 =>
 some (bif (bif (bif (bif decide (r1.2 = 0) then decide (r2.2.2 = 7) else false) then decide (r3.2.2 = 0) else false) then decide (r3.2.1 = 8) else false) then decide ((r3.1.2.2.2.1.length : Int) = 8) else false)))
 else none) (
 (fun o => both o o) (
 bif (decide (0 ≤ 16) && decide (16 = 16) && decide ((16 : Int).toNat * 1 ≤ LIM)) then
 (F33 ((r1.1.1, (r1.1.2.1, (r1.1.2.2.1, (r1.1.2.2.2.1, r1.1.2.2.2.2)))), (List.replicate ((16 : Int).toNat) 0 : List Int))).bind fun r3 =>
 some (bif (bif (bif (bif decide (r1.2 = 0) then decide (r2.2.2 = 7) else false) then decide (r3.2.2 = 0) else false) then decide (r3.2.1 = 8) else false) then decide ((r3.1.2.2.2.1.length : Int) = 8) else false)
 else none)))))) (
 (F33 ((r1.1.1, (r1.1.2.1, (r1.1.2.2.1, (r1.1.2.2.2.1, r1.1.2.2.2.2)))), (List.replicate ((18 : Int).toNat) 0 : List Int))).bind fun r2 =>
 (both (
 (both (
 bif (decide (0 ≤ 16) && decide (16 = 16) && decide ((16 : Int).toNat * 1 ≤ LIM)) then
 (fun o => both o o) (
 (F33 ((r1.1.1, (r1.1.2.1, (r1.1.2.2.1, (r1.1.2.2.2.1, r1.1.2.2.2.2)))), (List.replicate ((16 : Int).toNat) 0 : List Int))).bind fun r3 =>
 some (bif (bif (bif (bif decide (r1.2 = 0) then decide (r2.2.2 = 7) else false) then decide (r3.2.2 = 0) else false) then decide (r3.2.1 = 8) else false) then decide ((r3.1.2.2.2.1.length : Int) = 8) else false))
 else none) (
 bif (decide (0 ≤ 16) && decide (16 = 16) && decide ((16 : Int).toNat * 1 ≤ LIM)) then
 (F33 ((r1.1.1, (r1.1.2.1, (r1.1.2.2.1, (r1.1.2.2.2.1, r1.1.2.2.2.2)))), (List.replicate ((16 : Int).toNat) 0 : List Int))).bind fun r3 =>
 some (bif (bif (bif (bif decide (r1.2 = 0) then decide (r2.2.2 = 7) else false) then decide (r3.2.2 = 0) else false) then decide (r3.2.1 = 8) else false) then decide ((r3.1.2.2.2.1.length : Int) = 8) else false)
 else none))) (both (
 bif (decide (0 ≤ 16) && decide (16 = 16) && decide ((16 : Int).toNat * 1 ≤ LIM)) then
 (both (
 (fun o => both o o) (
 (F33 ((r1.1.1, (r1.1.2.1, (r1.1.2.2.1, (r1.1.2.2.2.1, r1.1.2.2.2.2)))), (List.replicate ((16 : Int).toNat) 0 : List Int))).bind fun r3 =>
 some (bif (bif (bif (bif decide (r1.2 = 0) then decide (r2.2.2 = 7) else false) then decide (r3.2.2 = 0) else false) then decide (r3.2.1 = 8) else false) then decide ((r3.1.2.2.2.1.length : Int) = 8) else false))) (
 (F33 ((r1.1.1, (r1.1.2.1, (r1.1.2.2.1, (r1.1.2.2.2.1, r1.1.2.2.2.2)))), (List.replicate ((16 : Int).toNat) 0 : List Int))).bind fun r3 =>
 some (bif (bif (bif (bif decide (r1.2 = 0) then decide (r2.2.2 = 7) else false) then decide (r3.2.2 = 0) else false) then decide (r3.2.1 = 8) else false) then decide ((r3.1.2.2.2.1.length : Int) = 8) else false)))
 else none) (
 (fun o => both o o) (
 bif (decide (0 ≤ 16) && decide (16 = 16) && decide ((16 : Int).toNat * 1 ≤ LIM)) then
 (F33 ((r1.1.1, (r1.1.2.1, (r1.1.2.2.1, (r1.1.2.2.2.1, r1.1.2.2.2.2)))), (List.replicate ((16 : Int).toNat) 0 : List Int))).bind fun r3 =>
 some (bif (bif (bif (bif decide (r1.2 = 0) then decide (r2.2.2 = 7) else false) then decide (r3.2.2 = 0) else false) then decide (r3.2.1 = 8) else false) then decide ((r3.1.2.2.2.1.length : Int) = 8) else false)
 else none))))))
 else none) (
 (fun o => both o o) (
 bif (decide (0 ≤ 18) && decide (18 = 18) && decide ((18 : Int).toNat * 1 ≤ LIM)) then
 (F33 ((r1.1.1, (r1.1.2.1, (r1.1.2.2.1, (r1.1.2.2.2.1, r1.1.2.2.2.2)))), (List.replicate ((18 : Int).toNat) 0 : List Int))).bind fun r2 =>
 (both (
 (both (
 bif (decide (0 ≤ 16) && decide (16 = 16) && decide ((16 : Int).toNat * 1 ≤ LIM)) then
 (fun o => both o o) (
 (F33 ((r1.1.1, (r1.1.2.1, (r1.1.2.2.1, (r1.1.2.2.2.1, r1.1.2.2.2.2)))), (List.replicate ((16 : Int).toNat) 0 : List Int))).bind fun r3 =>
 some (bif (bif (bif (bif decide (r1.2 = 0) then decide (r2.2.2 = 7) else false) then decide (r3.2.2 = 0) else false) then decide (r3.2.1 = 8) else false) then decide ((r3.1.2.2.2.1.length : Int) = 8) else false))
 else none) (
 bif (decide (0 ≤ 16) && decide (16 = 16) && decide ((16 : Int).toNat * 1 ≤ LIM)) then
 (F33 ((r1.1.1, (r1.1.2.1, (r1.1.2.2.1, (r1.1.2.2.2.1, r1.1.2.2.2.2)))), (List.replicate ((16 : Int).toNat) 0 : List Int))).bind fun r3 =>
 some (bif (bif (bif (bif decide (r1.2 = 0) then decide (r2.2.2 = 7) else false) then decide (r3.2.2 = 0) else false) then decide (r3.2.1 = 8) else false) then decide ((r3.1.2.2.2.1.length : Int) = 8) else false)
 else none))) (both (
 bif (decide (0 ≤ 16) && decide (16 = 16) && decide ((16 : Int).toNat * 1 ≤ LIM)) then
 (both (
 (fun o => both o o) (
 (F33 ((r1.1.1, (r1.1.2.1, (r1.1.2.2.1, (r1.1.2.2.2.1, r1.1.2.2.2.2)))), (List.replicate ((16 : Int).toNat) 0 : List Int))).bind fun r3 =>
 some (bif (bif (bif (bif decide (r1.2 = 0) then decide (r2.2.2 = 7) else false) then decide (r3.2.2 = 0) else false) then decide (r3.2.1 = 8) else false) then decide ((r3.1.2.2.2.1.length : Int) = 8) else false))) (
 (F33 ((r1.1.1, (r1.1.2.1, (r1.1.2.2.1, (r1.1.2.2.2.1, r1.1.2.2.2.2)))), (List.replicate ((16 : Int).toNat) 0 : List Int))).bind fun r3 =>
 some (bif (bif (bif (bif decide (r1.2 = 0) then decide (r2.2.2 = 7) else false) then decide (r3.2.2 = 0) else false) then decide (r3.2.1 = 8) else false) then decide ((r3.1.2.2.2.1.length : Int) = 8) else false)))
 else none) (
 (fun o => both o o) (
 bif (decide (0 ≤ 16) && decide (16 = 16) && decide ((16 : Int).toNat * 1 ≤ LIM)) then
 (F33 ((r1.1.1, (r1.1.2.1, (r1.1.2.2.1, (r1.1.2.2.2.1, r1.1.2.2.2.2)))), (List.replicate ((16 : Int).toNat) 0 : List Int))).bind fun r3 =>
 some (bif (bif (bif (bif decide (r1.2 = 0) then decide (r2.2.2 = 7) else false) then decide (r3.2.2 = 0) else false) then decide (r3.2.1 = 8) else false) then decide ((r3.1.2.2.2.1.length : Int) = 8) else false)
 else none))))
 else none))))
theorem ev26 (b : Unit) : evF C33 H26 Try.f26 (encs [] b) (RT.dec (.one (.leaf (.bool)))) = F26 b := by kernel_rfl
noncomputable def C26 : Ctx := Ctx.add C33 26 [] (.one (.leaf (.bool))) F26
theorem s26 : C26.Sound := Ctx.Sound.add (C := C33) mixed s33 Try.func26 ev26
/-! damson/damsonref22.Few -/
def H27 : Nat → Head
  | 2 => ⟨[.data 2 .bool, .data 8 (.int .i64)], [4096]⟩
  | _ => ⟨[], []⟩
noncomputable def F27 (b : (Bool × (List Int × (Bool × (List (List Int) × List Int))))) : Option Bool :=
 lfp (fun (rec1 : (Bool × Int) → Option Bool) (x1 : Bool × Int) =>
  bif decide (x1.2 < (b.2.2.2.1.length : Int)) then (
  bif inb x1.2 b.2.2.2.1.length then
  bif (bif (bif decide (300 < ((rd (.slice 5 (.int .u8)) b.2.2.2.1 x1.2).length : Int)) then decide (((rd (.slice 5 (.int .u8)) b.2.2.2.1 x1.2).length : Int) < 4096) else false) then true else decide (4100 < ((rd (.slice 5 (.int .u8)) b.2.2.2.1 x1.2).length : Int))) then (
  some false)
  else (
  rec1 (x1.1, (IntKind.wrap .i64 (x1.2 + 1))))
  else none)
  else (
  bif ((bif decide ((b.2.2.2.1.length : Int) ≤ 12) then decide ((b.2.1.length : Int) ≤ 300) else false) == true) then (
  bif (decide ((b.2.2.2.2.length : Int) ≤ 600) == false) then (
  some (bif decide (16300 ≤ (b.2.2.2.2.length : Int)) then decide ((b.2.2.2.2.length : Int) ≤ 16400) else false))
  else (
  some true))
  else (
  some false))) (false, 0)
theorem ev27 (b : (Bool × (List Int × (Bool × (List (List Int) × List Int))))) : evF C26 H27 Try.f27 (encs [.agg (.pair .bool (.pair (.slice 5 (.int .u8)) (.pair .bool (.pair (.slice 22 (.slice 5 (.int .u8))) (.slice 5 (.int .u8))))))] b) (RT.dec (.one (.leaf (.bool)))) = F27 b := by kernel_rfl
noncomputable def C27 : Ctx := Ctx.add C26 27 [.agg (.pair .bool (.pair (.slice 5 (.int .u8)) (.pair .bool (.pair (.slice 22 (.slice 5 (.int .u8))) (.slice 5 (.int .u8))))))] (.one (.leaf (.bool))) F27
theorem s27 : C27.Sound := Ctx.Sound.add (C := C26) mixed s26 Try.func27 ev27
/-! damson/session.Down -/
def H31 : Nat → Head := fun _ => ⟨[], []⟩
noncomputable def F31 (b : (Bool × (List Int × (Bool × (List (List Int) × List Int))))) : Option ((Bool × List Int × Bool × List (List Int) × List Int) × Int) :=
 (F49 (b.1, (b.2.1, (b.2.2.1, (b.2.2.2.1, b.2.2.2.2))))).bind fun r1 =>
 some ((false, ([] : List Int), false, ([] : List (List Int)), ([] : List Int)), r1)
theorem ev31 (b : (Bool × (List Int × (Bool × (List (List Int) × List Int))))) : evF C27 H31 Try.f31 (encs [.agg (.pair .bool (.pair (.slice 5 (.int .u8)) (.pair .bool (.pair (.slice 22 (.slice 5 (.int .u8))) (.slice 5 (.int .u8))))))] b) (RT.dec (.tup [.agg [.bool, .fresh 5 (.int .u8), .bool, .fresh 22 (.slice 5 (.int .u8)), .fresh 5 (.int .u8)], .leaf (.int .i64)])) = F31 b := by kernel_rfl
noncomputable def C31 : Ctx := Ctx.add C27 31 [.agg (.pair .bool (.pair (.slice 5 (.int .u8)) (.pair .bool (.pair (.slice 22 (.slice 5 (.int .u8))) (.slice 5 (.int .u8))))))] (.tup [.agg [.bool, .fresh 5 (.int .u8), .bool, .fresh 22 (.slice 5 (.int .u8)), .fresh 5 (.int .u8)], .leaf (.int .i64)]) F31
theorem s31 : C31.Sound := Ctx.Sound.add (C := C27) mixed s27 Try.func31 ev31
/-! damson/session.Next -/
def H35 : Nat → Head := fun _ => ⟨[], []⟩
noncomputable def F35 (b : (Bool × (List Int × (Bool × (List (List Int) × List Int))))) : Option (List Int × (Bool × List Int × Bool × List (List Int) × List Int) × Int) :=
 (F49 (b.1, (b.2.1, (b.2.2.1, (b.2.2.2.1, b.2.2.2.2))))).bind fun r1 =>
 bif (!decide (r1 = 0)) then (
 some (([] : List Int), (false, ([] : List Int), false, ([] : List (List Int)), ([] : List Int)), r1))
 else (
 bif decide ((b.2.2.2.1.length : Int) = 0) then (
 some (([] : List Int), (false, ([] : List Int), false, ([] : List (List Int)), ([] : List Int)), 5))
 else (
 (F51 (b.1, (b.2.1, (b.2.2.1, (b.2.2.2.1, b.2.2.2.2))))).bind fun r2 =>
 bif inb 0 r2.2.2.2.1.length then
 bif inb 1 (r2.2.2.2.1.length + 1) then
 some ((rd (.slice 5 (.int .u8)) r2.2.2.2.1 0), (r2.1, r2.2.1, r2.2.2.1, r2.2.2.2.1.drop ((1 : Int).toNat), r2.2.2.2.2), 0)
 else none
 else none))
theorem ev35 (b : (Bool × (List Int × (Bool × (List (List Int) × List Int))))) : evF C31 H35 Try.f35 (encs [.agg (.pair .bool (.pair (.slice 5 (.int .u8)) (.pair .bool (.pair (.slice 22 (.slice 5 (.int .u8))) (.slice 5 (.int .u8))))))] b) (RT.dec (.tup [.leaf (.sl 5 (.int .u8)), .agg [.bool, .fresh 5 (.int .u8), .bool, .sl 22 (.slice 5 (.int .u8)), .fresh 5 (.int .u8)], .leaf (.int .i64)])) = F35 b := by kernel_rfl
noncomputable def C35 : Ctx := Ctx.add C31 35 [.agg (.pair .bool (.pair (.slice 5 (.int .u8)) (.pair .bool (.pair (.slice 22 (.slice 5 (.int .u8))) (.slice 5 (.int .u8))))))] (.tup [.leaf (.sl 5 (.int .u8)), .agg [.bool, .fresh 5 (.int .u8), .bool, .sl 22 (.slice 5 (.int .u8)), .fresh 5 (.int .u8)], .leaf (.int .i64)]) F35
theorem s35 : C35.Sound := Ctx.Sound.add (C := C31) mixed s31 Try.func35 ev35
/-! damson/damsonlaw22.frames -/
def H38 : Nat → Head
  | 3 => ⟨[.row 2 10243 5 (.int .u8), .data 3 .bool, .row 4 18435 5 (.int .u8), .data 11 (.int .i64)], []⟩
  | _ => ⟨[], []⟩
noncomputable def F38 (b : List (List Int)) : Option (List Int × Bool) :=
 lfp (fun (rec1 : (List Int × Bool × List Int × Int) → Option (List Int × Bool)) (x1 : List Int × Bool × List Int × Int) =>
  bif decide (x1.2.2.2 < (b.length : Int)) then (
  bif inb x1.2.2.2 b.length then
  (F19 (rd (.slice 5 (.int .u8)) b x1.2.2.2)).bind fun r2 =>
  bif (bif (!decide (r2.2 = 0)) then true else decide (100 < ((rd (.slice 5 (.int .u8)) b x1.2.2.2).length : Int))) then (
  some (([] : List Int), false))
  else (
  bif decide ((x1.2.2.1.length + r2.1.length) * 1 ≤ LIM) then
  rec1 (x1.1, x1.2.1, (x1.2.2.1 ++ r2.1), (IntKind.wrap .i64 (x1.2.2.2 + 1)))
  else none)
  else none)
  else (
  some (x1.2.2.1, true))) (([] : List Int), false, ([] : List Int), 0)
theorem ev38 (b : List (List Int)) : evF C35 H38 Try.f38 (encs [.one (.slice 22 (.slice 5 (.int .u8)))] b) (RT.dec (.tup [.leaf (.fresh 5 (.int .u8)), .leaf (.bool)])) = F38 b := by kernel_rfl
noncomputable def C38 : Ctx := Ctx.add C35 38 [.one (.slice 22 (.slice 5 (.int .u8)))] (.tup [.leaf (.fresh 5 (.int .u8)), .leaf (.bool)]) F38
theorem s38 : C38.Sound := Ctx.Sound.add (C := C35) mixed s35 Try.func38 ev38
/-! damson/damsonlaw22.SessionOrder -/
def H8 : Nat → Head
  | 11 => ⟨[.data 4 .bool, .data 5 (.slice 5 (.int .u8)), .row 9 38923 22 (.slice 5 (.int .u8)), .data 10 (.int .i64), .box 28672 (.pair .bool (.pair (.slice 5 (.int .u8)) (.pair .bool (.pair (.slice 22 (.slice 5 (.int .u8))) (.slice 5 (.int .u8))))))], [151556, 151555, 151553, 102400]⟩
  | 32 => ⟨[.row 9 38944 22 (.slice 5 (.int .u8)), .data 114 (.int .i64), .box 28672 (.pair .bool (.pair (.slice 5 (.int .u8)) (.pair .bool (.pair (.slice 22 (.slice 5 (.int .u8))) (.slice 5 (.int .u8))))))], [151556, 151555, 151553, 102400]⟩
  | 1000003 => ⟨[], [5]⟩
  | 1000020 => ⟨[], [5]⟩
  | 3000000 => ⟨[], [28672]⟩
  | 3000001 => ⟨[], [28672]⟩
  | 3000002 => ⟨[], [28672]⟩
  | 3000003 => ⟨[], [28672]⟩
  | 3000004 => ⟨[], [28672]⟩
  | 3000005 => ⟨[], [28672]⟩
  | 3000006 => ⟨[], [28672]⟩
  | 3000007 => ⟨[], [28672]⟩
  | 3000008 => ⟨[], [28672]⟩
  | 3000009 => ⟨[], [28672]⟩
  | 3000010 => ⟨[], [28672]⟩
  | 3000011 => ⟨[], [28672]⟩
  | 3000012 => ⟨[], [28672]⟩
  | 3000013 => ⟨[], [28672]⟩
  | 3000014 => ⟨[], [28672]⟩
  | 3000015 => ⟨[], [28672]⟩
  | 3000016 => ⟨[], [28672]⟩
  | 3000017 => ⟨[], [28672]⟩
  | 3000018 => ⟨[], [28672]⟩
  | 3000019 => ⟨[], [28672]⟩
  | 3000020 => ⟨[], [28672]⟩
  | 3000021 => ⟨[], [28672]⟩
  | 3000022 => ⟨[], [28672]⟩
  | 3000023 => ⟨[], [28672]⟩
  | 3000024 => ⟨[], [28672]⟩
  | 3000025 => ⟨[], [28672]⟩
  | 3000026 => ⟨[], [28672]⟩
  | 3000027 => ⟨[], [28672]⟩
  | 3000028 => ⟨[], [28672]⟩
  | 3000029 => ⟨[], [28672]⟩
  | 3000030 => ⟨[], [28672]⟩
  | 3000031 => ⟨[], [28672]⟩
  | 3000032 => ⟨[], [28672]⟩
  | 3000033 => ⟨[], [28672]⟩
  | 3000034 => ⟨[], [28672]⟩
  | 3000035 => ⟨[], [28672]⟩
  | 3000036 => ⟨[], [28672]⟩
  | 3000037 => ⟨[], [28672]⟩
  | 3000038 => ⟨[], [28672]⟩
  | _ => ⟨[], []⟩
noncomputable def F8 (b : List (List Int) × List Int) : Option Bool :=
 (F26 ()).bind fun r1 =>
 bif (!r1) then (
 some false)
 else (
 (F38 b.1).bind fun r2 =>
 bif (bif (!r2.2) then true else decide (40 < (b.1.length : Int))) then (
 some true)
 else (
 (F29 (false, ([], (false, ([], []))))).bind fun r3 =>
 bif (!decide (r3.2 = 0)) then (
 some false)
 else (
 lfp (fun (rec4 : (Bool × List Int × List (List Int) × Int × (Bool × (List Int × (Bool × (List (List Int) × List Int))))) → Option Bool) (x4 : Bool × List Int × List (List Int) × Int × (Bool × (List Int × (Bool × (List (List Int) × List Int))))) =>
  bif decide (0 < (x4.2.1.length : Int)) then (
  bif decide (x4.2.2.2.1 < (b.2.length : Int)) then (
  bif inb x4.2.2.2.1 b.2.length then
  bif inb (if (x4.2.1.length : Int) < (IntKind.wrap .i64 ((IntKind.wrap .i64 (Int.tmod (rd (.int .u8) b.2 x4.2.2.2.1) 16)) + 1)) then (x4.2.1.length : Int) else (IntKind.wrap .i64 ((IntKind.wrap .i64 (Int.tmod (rd (.int .u8) b.2 x4.2.2.2.1) 16)) + 1))) (x4.2.1.length + 1) then
  (both (
  (fun o => both o o) (
  (F33 ((x4.2.2.2.2.1, (x4.2.2.2.2.2.1, (x4.2.2.2.2.2.2.1, (x4.2.2.2.2.2.2.2.1, x4.2.2.2.2.2.2.2.2)))), x4.2.1.take ((if (x4.2.1.length : Int) < (IntKind.wrap .i64 ((IntKind.wrap .i64 (Int.tmod (rd (.int .u8) b.2 x4.2.2.2.1) 16)) + 1)) then (x4.2.1.length : Int) else (IntKind.wrap .i64 ((IntKind.wrap .i64 (Int.tmod (rd (.int .u8) b.2 x4.2.2.2.1) 16)) + 1))).toNat))).bind fun r5 =>
  bif decide (r5.2.2 = 0) then (
  bif inb (if (x4.2.1.length : Int) < (IntKind.wrap .i64 ((IntKind.wrap .i64 (Int.tmod (rd (.int .u8) b.2 x4.2.2.2.1) 16)) + 1)) then (x4.2.1.length : Int) else (IntKind.wrap .i64 ((IntKind.wrap .i64 (Int.tmod (rd (.int .u8) b.2 x4.2.2.2.1) 16)) + 1))) (x4.2.1.length + 1) then
  bif (decide (r5.2.2 = 7) == false) then (
  bif (bif decide ((Int.tmod x4.2.2.2.1 3) = 0) then decide (0 < (r5.1.2.2.2.1.length : Int)) else false) then (
  (F35 (r5.1.1, (r5.1.2.1, (r5.1.2.2.1, (r5.1.2.2.2.1, r5.1.2.2.2.2))))).bind fun r6 =>
  bif (!decide (r6.2.2 = 0)) then (
  some false)
  else (
  bif decide ((x4.2.2.1.length + 1) * 24 ≤ LIM) then
  (F39 (r6.2.1.1, (r6.2.1.2.1, (r6.2.1.2.2.1, (r6.2.1.2.2.2.1, r6.2.1.2.2.2.2))))).bind fun r7 =>
  bif (!decide (r7 = 0)) then (
  some false)
  else (
  rec4 (x4.1, x4.2.1.drop ((if (x4.2.1.length : Int) < (IntKind.wrap .i64 ((IntKind.wrap .i64 (Int.tmod (rd (.int .u8) b.2 x4.2.2.2.1) 16)) + 1)) then (x4.2.1.length : Int) else (IntKind.wrap .i64 ((IntKind.wrap .i64 (Int.tmod (rd (.int .u8) b.2 x4.2.2.2.1) 16)) + 1))).toNat), (x4.2.2.1 ++ ([r6.1])), (IntKind.wrap .i64 (x4.2.2.2.1 + 1)), (r6.2.1.1, (r6.2.1.2.1, (r6.2.1.2.2.1, (r6.2.1.2.2.2.1, r6.2.1.2.2.2.2))))))
  else none))
  else (
  (F39 (r5.1.1, (r5.1.2.1, (r5.1.2.2.1, (r5.1.2.2.2.1, r5.1.2.2.2.2))))).bind fun r8 =>
  bif (!decide (r8 = 0)) then (
  some false)
  else (
  rec4 (x4.1, x4.2.1.drop ((if (x4.2.1.length : Int) < (IntKind.wrap .i64 ((IntKind.wrap .i64 (Int.tmod (rd (.int .u8) b.2 x4.2.2.2.1) 16)) + 1)) then (x4.2.1.length : Int) else (IntKind.wrap .i64 ((IntKind.wrap .i64 (Int.tmod (rd (.int .u8) b.2 x4.2.2.2.1) 16)) + 1))).toNat), x4.2.2.1, (IntKind.wrap .i64 (x4.2.2.2.1 + 1)), (r5.1.1, (r5.1.2.1, (r5.1.2.2.1, (r5.1.2.2.2.1, r5.1.2.2.2.2))))))))
  else (
  (F35 (r5.1.1, (r5.1.2.1, (r5.1.2.2.1, (r5.1.2.2.2.1, r5.1.2.2.2.2))))).bind fun r9 =>
  bif (!decide (r9.2.2 = 0)) then (
  some false)
  else (
  bif decide ((x4.2.2.1.length + 1) * 24 ≤ LIM) then
  (F39 (r9.2.1.1, (r9.2.1.2.1, (r9.2.1.2.2.1, (r9.2.1.2.2.2.1, r9.2.1.2.2.2.2))))).bind fun r10 =>
  bif (!decide (r10 = 0)) then (
  some false)
  else (
  rec4 (x4.1, x4.2.1.drop ((if (x4.2.1.length : Int) < (IntKind.wrap .i64 ((IntKind.wrap .i64 (Int.tmod (rd (.int .u8) b.2 x4.2.2.2.1) 16)) + 1)) then (x4.2.1.length : Int) else (IntKind.wrap .i64 ((IntKind.wrap .i64 (Int.tmod (rd (.int .u8) b.2 x4.2.2.2.1) 16)) + 1))).toNat), (x4.2.2.1 ++ ([r9.1])), (IntKind.wrap .i64 (x4.2.2.2.1 + 1)), (r9.2.1.1, (r9.2.1.2.1, (r9.2.1.2.2.1, (r9.2.1.2.2.2.1, r9.2.1.2.2.2.2))))))
  else none))
  else none)
  else (
  bif (bif (!decide (r5.2.2 = 7)) then true else decide ((x4.2.2.2.2.2.2.2.1.length : Int) = 0)) then (
  some false)
  else (
  bif (decide (r5.2.2 = 7) == false) then (
  bif (bif decide ((Int.tmod x4.2.2.2.1 3) = 0) then decide (0 < (x4.2.2.2.2.2.2.2.1.length : Int)) else false) then (
  (F35 (x4.2.2.2.2.1, (x4.2.2.2.2.2.1, (x4.2.2.2.2.2.2.1, (x4.2.2.2.2.2.2.2.1, x4.2.2.2.2.2.2.2.2))))).bind fun r11 =>
  bif (!decide (r11.2.2 = 0)) then (
  some false)
  else (
  bif decide ((x4.2.2.1.length + 1) * 24 ≤ LIM) then
  (F39 (r11.2.1.1, (r11.2.1.2.1, (r11.2.1.2.2.1, (r11.2.1.2.2.2.1, r11.2.1.2.2.2.2))))).bind fun r12 =>
  bif (!decide (r12 = 0)) then (
  some false)
  else (
  rec4 (x4.1, x4.2.1, (x4.2.2.1 ++ ([r11.1])), (IntKind.wrap .i64 (x4.2.2.2.1 + 1)), (r11.2.1.1, (r11.2.1.2.1, (r11.2.1.2.2.1, (r11.2.1.2.2.2.1, r11.2.1.2.2.2.2))))))
  else none))
  else (
  (F39 (x4.2.2.2.2.1, (x4.2.2.2.2.2.1, (x4.2.2.2.2.2.2.1, (x4.2.2.2.2.2.2.2.1, x4.2.2.2.2.2.2.2.2))))).bind fun r13 =>
  bif (!decide (r13 = 0)) then (
  some false)
  else (
  rec4 (x4.1, x4.2.1, x4.2.2.1, (IntKind.wrap .i64 (x4.2.2.2.1 + 1)), (x4.2.2.2.2.1, (x4.2.2.2.2.2.1, (x4.2.2.2.2.2.2.1, (x4.2.2.2.2.2.2.2.1, x4.2.2.2.2.2.2.2.2))))))))
  else (
  (F35 (x4.2.2.2.2.1, (x4.2.2.2.2.2.1, (x4.2.2.2.2.2.2.1, (x4.2.2.2.2.2.2.2.1, x4.2.2.2.2.2.2.2.2))))).bind fun r14 =>
  bif (!decide (r14.2.2 = 0)) then (
  some false)
  else (
  bif decide ((x4.2.2.1.length + 1) * 24 ≤ LIM) then
  (F39 (r14.2.1.1, (r14.2.1.2.1, (r14.2.1.2.2.1, (r14.2.1.2.2.2.1, r14.2.1.2.2.2.2))))).bind fun r15 =>
  bif (!decide (r15 = 0)) then (
  some false)
  else (
  rec4 (x4.1, x4.2.1, (x4.2.2.1 ++ ([r14.1])), (IntKind.wrap .i64 (x4.2.2.2.1 + 1)), (r14.2.1.1, (r14.2.1.2.1, (r14.2.1.2.2.1, (r14.2.1.2.2.2.1, r14.2.1.2.2.2.2))))))
  else none)))))) (
  (F33 ((x4.2.2.2.2.1, (x4.2.2.2.2.2.1, (x4.2.2.2.2.2.2.1, (x4.2.2.2.2.2.2.2.1, x4.2.2.2.2.2.2.2.2)))), x4.2.1.take ((if (x4.2.1.length : Int) < (IntKind.wrap .i64 ((IntKind.wrap .i64 (Int.tmod (rd (.int .u8) b.2 x4.2.2.2.1) 16)) + 1)) then (x4.2.1.length : Int) else (IntKind.wrap .i64 ((IntKind.wrap .i64 (Int.tmod (rd (.int .u8) b.2 x4.2.2.2.1) 16)) + 1))).toNat))).bind fun r5 =>
  bif decide (r5.2.2 = 0) then (
  bif inb (if (x4.2.1.length : Int) < (IntKind.wrap .i64 ((IntKind.wrap .i64 (Int.tmod (rd (.int .u8) b.2 x4.2.2.2.1) 16)) + 1)) then (x4.2.1.length : Int) else (IntKind.wrap .i64 ((IntKind.wrap .i64 (Int.tmod (rd (.int .u8) b.2 x4.2.2.2.1) 16)) + 1))) (x4.2.1.length + 1) then
  bif (decide (r5.2.2 = 7) == false) then (
  bif (bif decide ((Int.tmod x4.2.2.2.1 3) = 0) then decide (0 < (r5.1.2.2.2.1.length : Int)) else false) then (
  (F35 (r5.1.1, (r5.1.2.1, (r5.1.2.2.1, (r5.1.2.2.2.1, r5.1.2.2.2.2))))).bind fun r6 =>
  bif (!decide (r6.2.2 = 0)) then (
  some false)
  else (
  bif decide ((x4.2.2.1.length + 1) * 24 ≤ LIM) then
  (F39 (r6.2.1.1, (r6.2.1.2.1, (r6.2.1.2.2.1, (r6.2.1.2.2.2.1, r6.2.1.2.2.2.2))))).bind fun r7 =>
  bif (!decide (r7 = 0)) then (
  some false)
  else (
  rec4 (x4.1, x4.2.1.drop ((if (x4.2.1.length : Int) < (IntKind.wrap .i64 ((IntKind.wrap .i64 (Int.tmod (rd (.int .u8) b.2 x4.2.2.2.1) 16)) + 1)) then (x4.2.1.length : Int) else (IntKind.wrap .i64 ((IntKind.wrap .i64 (Int.tmod (rd (.int .u8) b.2 x4.2.2.2.1) 16)) + 1))).toNat), (x4.2.2.1 ++ ([r6.1])), (IntKind.wrap .i64 (x4.2.2.2.1 + 1)), (r6.2.1.1, (r6.2.1.2.1, (r6.2.1.2.2.1, (r6.2.1.2.2.2.1, r6.2.1.2.2.2.2))))))
  else none))
  else (
  (F39 (r5.1.1, (r5.1.2.1, (r5.1.2.2.1, (r5.1.2.2.2.1, r5.1.2.2.2.2))))).bind fun r8 =>
  bif (!decide (r8 = 0)) then (
  some false)
  else (
  rec4 (x4.1, x4.2.1.drop ((if (x4.2.1.length : Int) < (IntKind.wrap .i64 ((IntKind.wrap .i64 (Int.tmod (rd (.int .u8) b.2 x4.2.2.2.1) 16)) + 1)) then (x4.2.1.length : Int) else (IntKind.wrap .i64 ((IntKind.wrap .i64 (Int.tmod (rd (.int .u8) b.2 x4.2.2.2.1) 16)) + 1))).toNat), x4.2.2.1, (IntKind.wrap .i64 (x4.2.2.2.1 + 1)), (r5.1.1, (r5.1.2.1, (r5.1.2.2.1, (r5.1.2.2.2.1, r5.1.2.2.2.2))))))))
  else (
  (F35 (r5.1.1, (r5.1.2.1, (r5.1.2.2.1, (r5.1.2.2.2.1, r5.1.2.2.2.2))))).bind fun r9 =>
  bif (!decide (r9.2.2 = 0)) then (
  some false)
  else (
  bif decide ((x4.2.2.1.length + 1) * 24 ≤ LIM) then
  (F39 (r9.2.1.1, (r9.2.1.2.1, (r9.2.1.2.2.1, (r9.2.1.2.2.2.1, r9.2.1.2.2.2.2))))).bind fun r10 =>
  bif (!decide (r10 = 0)) then (
  some false)
  else (
  rec4 (x4.1, x4.2.1.drop ((if (x4.2.1.length : Int) < (IntKind.wrap .i64 ((IntKind.wrap .i64 (Int.tmod (rd (.int .u8) b.2 x4.2.2.2.1) 16)) + 1)) then (x4.2.1.length : Int) else (IntKind.wrap .i64 ((IntKind.wrap .i64 (Int.tmod (rd (.int .u8) b.2 x4.2.2.2.1) 16)) + 1))).toNat), (x4.2.2.1 ++ ([r9.1])), (IntKind.wrap .i64 (x4.2.2.2.1 + 1)), (r9.2.1.1, (r9.2.1.2.1, (r9.2.1.2.2.1, (r9.2.1.2.2.2.1, r9.2.1.2.2.2.2))))))
  else none))
  else none)
  else (
  bif (bif (!decide (r5.2.2 = 7)) then true else decide ((x4.2.2.2.2.2.2.2.1.length : Int) = 0)) then (
  some false)
  else (
  bif (decide (r5.2.2 = 7) == false) then (
  bif (bif decide ((Int.tmod x4.2.2.2.1 3) = 0) then decide (0 < (x4.2.2.2.2.2.2.2.1.length : Int)) else false) then (
  (F35 (x4.2.2.2.2.1, (x4.2.2.2.2.2.1, (x4.2.2.2.2.2.2.1, (x4.2.2.2.2.2.2.2.1, x4.2.2.2.2.2.2.2.2))))).bind fun r11 =>
  bif (!decide (r11.2.2 = 0)) then (
  some false)
  else (
  bif decide ((x4.2.2.1.length + 1) * 24 ≤ LIM) then
  (F39 (r11.2.1.1, (r11.2.1.2.1, (r11.2.1.2.2.1, (r11.2.1.2.2.2.1, r11.2.1.2.2.2.2))))).bind fun r12 =>
  bif (!decide (r12 = 0)) then (
  some false)
  else (
  rec4 (x4.1, x4.2.1, (x4.2.2.1 ++ ([r11.1])), (IntKind.wrap .i64 (x4.2.2.2.1 + 1)), (r11.2.1.1, (r11.2.1.2.1, (r11.2.1.2.2.1, (r11.2.1.2.2.2.1, r11.2.1.2.2.2.2))))))
  else none))
  else (
  (F39 (x4.2.2.2.2.1, (x4.2.2.2.2.2.1, (x4.2.2.2.2.2.2.1, (x4.2.2.2.2.2.2.2.1, x4.2.2.2.2.2.2.2.2))))).bind fun r13 =>
  bif (!decide (r13 = 0)) then (
  some false)
  else (
  rec4 (x4.1, x4.2.1, x4.2.2.1, (IntKind.wrap .i64 (x4.2.2.2.1 + 1)), (x4.2.2.2.2.1, (x4.2.2.2.2.2.1, (x4.2.2.2.2.2.2.1, (x4.2.2.2.2.2.2.2.1, x4.2.2.2.2.2.2.2.2))))))))
  else (
  (F35 (x4.2.2.2.2.1, (x4.2.2.2.2.2.1, (x4.2.2.2.2.2.2.1, (x4.2.2.2.2.2.2.2.1, x4.2.2.2.2.2.2.2.2))))).bind fun r14 =>
  bif (!decide (r14.2.2 = 0)) then (
  some false)
  else (
  bif decide ((x4.2.2.1.length + 1) * 24 ≤ LIM) then
  (F39 (r14.2.1.1, (r14.2.1.2.1, (r14.2.1.2.2.1, (r14.2.1.2.2.2.1, r14.2.1.2.2.2.2))))).bind fun r15 =>
  bif (!decide (r15 = 0)) then (
  some false)
  else (
  rec4 (x4.1, x4.2.1, (x4.2.2.1 ++ ([r14.1])), (IntKind.wrap .i64 (x4.2.2.2.1 + 1)), (r14.2.1.1, (r14.2.1.2.1, (r14.2.1.2.2.1, (r14.2.1.2.2.2.1, r14.2.1.2.2.2.2))))))
  else none))))))
  else none
  else none)
  else (
  bif inb (if (x4.2.1.length : Int) < 3 then (x4.2.1.length : Int) else 3) (x4.2.1.length + 1) then
  (both (
  (fun o => both o o) (
  (F33 ((x4.2.2.2.2.1, (x4.2.2.2.2.2.1, (x4.2.2.2.2.2.2.1, (x4.2.2.2.2.2.2.2.1, x4.2.2.2.2.2.2.2.2)))), x4.2.1.take ((if (x4.2.1.length : Int) < 3 then (x4.2.1.length : Int) else 3).toNat))).bind fun r16 =>
  bif decide (r16.2.2 = 0) then (
  bif inb (if (x4.2.1.length : Int) < 3 then (x4.2.1.length : Int) else 3) (x4.2.1.length + 1) then
  bif (decide (r16.2.2 = 7) == false) then (
  bif (bif decide ((Int.tmod x4.2.2.2.1 3) = 0) then decide (0 < (r16.1.2.2.2.1.length : Int)) else false) then (
  (F35 (r16.1.1, (r16.1.2.1, (r16.1.2.2.1, (r16.1.2.2.2.1, r16.1.2.2.2.2))))).bind fun r17 =>
  bif (!decide (r17.2.2 = 0)) then (
  some false)
  else (
  bif decide ((x4.2.2.1.length + 1) * 24 ≤ LIM) then
  (F39 (r17.2.1.1, (r17.2.1.2.1, (r17.2.1.2.2.1, (r17.2.1.2.2.2.1, r17.2.1.2.2.2.2))))).bind fun r18 =>
  bif (!decide (r18 = 0)) then (
  some false)
  else (
  rec4 (x4.1, x4.2.1.drop ((if (x4.2.1.length : Int) < 3 then (x4.2.1.length : Int) else 3).toNat), (x4.2.2.1 ++ ([r17.1])), (IntKind.wrap .i64 (x4.2.2.2.1 + 1)), (r17.2.1.1, (r17.2.1.2.1, (r17.2.1.2.2.1, (r17.2.1.2.2.2.1, r17.2.1.2.2.2.2))))))
  else none))
  else (
  (F39 (r16.1.1, (r16.1.2.1, (r16.1.2.2.1, (r16.1.2.2.2.1, r16.1.2.2.2.2))))).bind fun r19 =>
  bif (!decide (r19 = 0)) then (
  some false)
  else (
  rec4 (x4.1, x4.2.1.drop ((if (x4.2.1.length : Int) < 3 then (x4.2.1.length : Int) else 3).toNat), x4.2.2.1, (IntKind.wrap .i64 (x4.2.2.2.1 + 1)), (r16.1.1, (r16.1.2.1, (r16.1.2.2.1, (r16.1.2.2.2.1, r16.1.2.2.2.2))))))))
  else (
  (F35 (r16.1.1, (r16.1.2.1, (r16.1.2.2.1, (r16.1.2.2.2.1, r16.1.2.2.2.2))))).bind fun r20 =>
  bif (!decide (r20.2.2 = 0)) then (
  some false)
  else (
  bif decide ((x4.2.2.1.length + 1) * 24 ≤ LIM) then
  (F39 (r20.2.1.1, (r20.2.1.2.1, (r20.2.1.2.2.1, (r20.2.1.2.2.2.1, r20.2.1.2.2.2.2))))).bind fun r21 =>
  bif (!decide (r21 = 0)) then (
  some false)
  else (
  rec4 (x4.1, x4.2.1.drop ((if (x4.2.1.length : Int) < 3 then (x4.2.1.length : Int) else 3).toNat), (x4.2.2.1 ++ ([r20.1])), (IntKind.wrap .i64 (x4.2.2.2.1 + 1)), (r20.2.1.1, (r20.2.1.2.1, (r20.2.1.2.2.1, (r20.2.1.2.2.2.1, r20.2.1.2.2.2.2))))))
  else none))
  else none)
  else (
  bif (bif (!decide (r16.2.2 = 7)) then true else decide ((x4.2.2.2.2.2.2.2.1.length : Int) = 0)) then (
  some false)
  else (
  bif (decide (r16.2.2 = 7) == false) then (
  bif (bif decide ((Int.tmod x4.2.2.2.1 3) = 0) then decide (0 < (x4.2.2.2.2.2.2.2.1.length : Int)) else false) then (
  (F35 (x4.2.2.2.2.1, (x4.2.2.2.2.2.1, (x4.2.2.2.2.2.2.1, (x4.2.2.2.2.2.2.2.1, x4.2.2.2.2.2.2.2.2))))).bind fun r22 =>
  bif (!decide (r22.2.2 = 0)) then (
  some false)
  else (
  bif decide ((x4.2.2.1.length + 1) * 24 ≤ LIM) then
  (F39 (r22.2.1.1, (r22.2.1.2.1, (r22.2.1.2.2.1, (r22.2.1.2.2.2.1, r22.2.1.2.2.2.2))))).bind fun r23 =>
  bif (!decide (r23 = 0)) then (
  some false)
  else (
  rec4 (x4.1, x4.2.1, (x4.2.2.1 ++ ([r22.1])), (IntKind.wrap .i64 (x4.2.2.2.1 + 1)), (r22.2.1.1, (r22.2.1.2.1, (r22.2.1.2.2.1, (r22.2.1.2.2.2.1, r22.2.1.2.2.2.2))))))
  else none))
  else (
  (F39 (x4.2.2.2.2.1, (x4.2.2.2.2.2.1, (x4.2.2.2.2.2.2.1, (x4.2.2.2.2.2.2.2.1, x4.2.2.2.2.2.2.2.2))))).bind fun r24 =>
  bif (!decide (r24 = 0)) then (
  some false)
  else (
  rec4 (x4.1, x4.2.1, x4.2.2.1, (IntKind.wrap .i64 (x4.2.2.2.1 + 1)), (x4.2.2.2.2.1, (x4.2.2.2.2.2.1, (x4.2.2.2.2.2.2.1, (x4.2.2.2.2.2.2.2.1, x4.2.2.2.2.2.2.2.2))))))))
  else (
  (F35 (x4.2.2.2.2.1, (x4.2.2.2.2.2.1, (x4.2.2.2.2.2.2.1, (x4.2.2.2.2.2.2.2.1, x4.2.2.2.2.2.2.2.2))))).bind fun r25 =>
  bif (!decide (r25.2.2 = 0)) then (
  some false)
  else (
  bif decide ((x4.2.2.1.length + 1) * 24 ≤ LIM) then
  (F39 (r25.2.1.1, (r25.2.1.2.1, (r25.2.1.2.2.1, (r25.2.1.2.2.2.1, r25.2.1.2.2.2.2))))).bind fun r26 =>
  bif (!decide (r26 = 0)) then (
  some false)
  else (
  rec4 (x4.1, x4.2.1, (x4.2.2.1 ++ ([r25.1])), (IntKind.wrap .i64 (x4.2.2.2.1 + 1)), (r25.2.1.1, (r25.2.1.2.1, (r25.2.1.2.2.1, (r25.2.1.2.2.2.1, r25.2.1.2.2.2.2))))))
  else none)))))) (
  (F33 ((x4.2.2.2.2.1, (x4.2.2.2.2.2.1, (x4.2.2.2.2.2.2.1, (x4.2.2.2.2.2.2.2.1, x4.2.2.2.2.2.2.2.2)))), x4.2.1.take ((if (x4.2.1.length : Int) < 3 then (x4.2.1.length : Int) else 3).toNat))).bind fun r16 =>
  bif decide (r16.2.2 = 0) then (
  bif inb (if (x4.2.1.length : Int) < 3 then (x4.2.1.length : Int) else 3) (x4.2.1.length + 1) then
  bif (decide (r16.2.2 = 7) == false) then (
  bif (bif decide ((Int.tmod x4.2.2.2.1 3) = 0) then decide (0 < (r16.1.2.2.2.1.length : Int)) else false) then (
  (F35 (r16.1.1, (r16.1.2.1, (r16.1.2.2.1, (r16.1.2.2.2.1, r16.1.2.2.2.2))))).bind fun r17 =>
  bif (!decide (r17.2.2 = 0)) then (
  some false)
  else (
  bif decide ((x4.2.2.1.length + 1) * 24 ≤ LIM) then
  (F39 (r17.2.1.1, (r17.2.1.2.1, (r17.2.1.2.2.1, (r17.2.1.2.2.2.1, r17.2.1.2.2.2.2))))).bind fun r18 =>
  bif (!decide (r18 = 0)) then (
  some false)
  else (
  rec4 (x4.1, x4.2.1.drop ((if (x4.2.1.length : Int) < 3 then (x4.2.1.length : Int) else 3).toNat), (x4.2.2.1 ++ ([r17.1])), (IntKind.wrap .i64 (x4.2.2.2.1 + 1)), (r17.2.1.1, (r17.2.1.2.1, (r17.2.1.2.2.1, (r17.2.1.2.2.2.1, r17.2.1.2.2.2.2))))))
  else none))
  else (
  (F39 (r16.1.1, (r16.1.2.1, (r16.1.2.2.1, (r16.1.2.2.2.1, r16.1.2.2.2.2))))).bind fun r19 =>
  bif (!decide (r19 = 0)) then (
  some false)
  else (
  rec4 (x4.1, x4.2.1.drop ((if (x4.2.1.length : Int) < 3 then (x4.2.1.length : Int) else 3).toNat), x4.2.2.1, (IntKind.wrap .i64 (x4.2.2.2.1 + 1)), (r16.1.1, (r16.1.2.1, (r16.1.2.2.1, (r16.1.2.2.2.1, r16.1.2.2.2.2))))))))
  else (
  (F35 (r16.1.1, (r16.1.2.1, (r16.1.2.2.1, (r16.1.2.2.2.1, r16.1.2.2.2.2))))).bind fun r20 =>
  bif (!decide (r20.2.2 = 0)) then (
  some false)
  else (
  bif decide ((x4.2.2.1.length + 1) * 24 ≤ LIM) then
  (F39 (r20.2.1.1, (r20.2.1.2.1, (r20.2.1.2.2.1, (r20.2.1.2.2.2.1, r20.2.1.2.2.2.2))))).bind fun r21 =>
  bif (!decide (r21 = 0)) then (
  some false)
  else (
  rec4 (x4.1, x4.2.1.drop ((if (x4.2.1.length : Int) < 3 then (x4.2.1.length : Int) else 3).toNat), (x4.2.2.1 ++ ([r20.1])), (IntKind.wrap .i64 (x4.2.2.2.1 + 1)), (r20.2.1.1, (r20.2.1.2.1, (r20.2.1.2.2.1, (r20.2.1.2.2.2.1, r20.2.1.2.2.2.2))))))
  else none))
  else none)
  else (
  bif (bif (!decide (r16.2.2 = 7)) then true else decide ((x4.2.2.2.2.2.2.2.1.length : Int) = 0)) then (
  some false)
  else (
  bif (decide (r16.2.2 = 7) == false) then (
  bif (bif decide ((Int.tmod x4.2.2.2.1 3) = 0) then decide (0 < (x4.2.2.2.2.2.2.2.1.length : Int)) else false) then (
  (F35 (x4.2.2.2.2.1, (x4.2.2.2.2.2.1, (x4.2.2.2.2.2.2.1, (x4.2.2.2.2.2.2.2.1, x4.2.2.2.2.2.2.2.2))))).bind fun r22 =>
  bif (!decide (r22.2.2 = 0)) then (
  some false)
  else (
  bif decide ((x4.2.2.1.length + 1) * 24 ≤ LIM) then
  (F39 (r22.2.1.1, (r22.2.1.2.1, (r22.2.1.2.2.1, (r22.2.1.2.2.2.1, r22.2.1.2.2.2.2))))).bind fun r23 =>
  bif (!decide (r23 = 0)) then (
  some false)
  else (
  rec4 (x4.1, x4.2.1, (x4.2.2.1 ++ ([r22.1])), (IntKind.wrap .i64 (x4.2.2.2.1 + 1)), (r22.2.1.1, (r22.2.1.2.1, (r22.2.1.2.2.1, (r22.2.1.2.2.2.1, r22.2.1.2.2.2.2))))))
  else none))
  else (
  (F39 (x4.2.2.2.2.1, (x4.2.2.2.2.2.1, (x4.2.2.2.2.2.2.1, (x4.2.2.2.2.2.2.2.1, x4.2.2.2.2.2.2.2.2))))).bind fun r24 =>
  bif (!decide (r24 = 0)) then (
  some false)
  else (
  rec4 (x4.1, x4.2.1, x4.2.2.1, (IntKind.wrap .i64 (x4.2.2.2.1 + 1)), (x4.2.2.2.2.1, (x4.2.2.2.2.2.1, (x4.2.2.2.2.2.2.1, (x4.2.2.2.2.2.2.2.1, x4.2.2.2.2.2.2.2.2))))))))
  else (
  (F35 (x4.2.2.2.2.1, (x4.2.2.2.2.2.1, (x4.2.2.2.2.2.2.1, (x4.2.2.2.2.2.2.2.1, x4.2.2.2.2.2.2.2.2))))).bind fun r25 =>
  bif (!decide (r25.2.2 = 0)) then (
  some false)
  else (
  bif decide ((x4.2.2.1.length + 1) * 24 ≤ LIM) then
  (F39 (r25.2.1.1, (r25.2.1.2.1, (r25.2.1.2.2.1, (r25.2.1.2.2.2.1, r25.2.1.2.2.2.2))))).bind fun r26 =>
  bif (!decide (r26 = 0)) then (
  some false)
  else (
  rec4 (x4.1, x4.2.1, (x4.2.2.1 ++ ([r25.1])), (IntKind.wrap .i64 (x4.2.2.2.1 + 1)), (r25.2.1.1, (r25.2.1.2.1, (r25.2.1.2.2.1, (r25.2.1.2.2.2.1, r25.2.1.2.2.2.2))))))
  else none))))))
  else none))
  else (
  lfp (fun (rec27 : (List (List Int) × Int × (Bool × (List Int × (Bool × (List (List Int) × List Int))))) → Option Bool) (x27 : List (List Int) × Int × (Bool × (List Int × (Bool × (List (List Int) × List Int))))) =>
   bif decide (x27.2.1 < 8) then (
   (F35 (x27.2.2.1, (x27.2.2.2.1, (x27.2.2.2.2.1, (x27.2.2.2.2.2.1, x27.2.2.2.2.2.2))))).bind fun r28 =>
   bif decide (r28.2.2 = 0) then (
   bif decide ((x27.1.length + 1) * 24 ≤ LIM) then
   rec27 ((x27.1 ++ ([r28.1])), (IntKind.wrap .i64 (x27.2.1 + 1)), (r28.2.1.1, (r28.2.1.2.1, (r28.2.1.2.2.1, (r28.2.1.2.2.2.1, r28.2.1.2.2.2.2)))))
   else none)
   else (
   rec27 (x27.1, (IntKind.wrap .i64 (x27.2.1 + 1)), (x27.2.2.1, (x27.2.2.2.1, (x27.2.2.2.2.1, (x27.2.2.2.2.2.1, x27.2.2.2.2.2.2)))))))
   else (
   bif (decide ((x27.2.2.2.2.2.1.length : Int) = 0) == true) then (
   (F17 (x27.1, b.1)).bind fun r29 =>
   some r29)
   else (
   some false))) (x4.2.2.1, 0, (x4.2.2.2.2.1, (x4.2.2.2.2.2.1, (x4.2.2.2.2.2.2.1, (x4.2.2.2.2.2.2.2.1, x4.2.2.2.2.2.2.2.2))))))) (false, r2.1, ([] : List (List Int)), 0, (r3.1.1, (r3.1.2.1, (r3.1.2.2.1, (r3.1.2.2.2.1, r3.1.2.2.2.2))))))))
theorem ev8 (b : List (List Int) × List Int) : evF C38 H8 Try.f8 (encs [.one (.slice 22 (.slice 5 (.int .u8))), .one (.slice 5 (.int .u8))] b) (RT.dec (.one (.leaf (.bool)))) = F8 b := by kernel_rfl
noncomputable def C8 : Ctx := Ctx.add C38 8 [.one (.slice 22 (.slice 5 (.int .u8))), .one (.slice 5 (.int .u8))] (.one (.leaf (.bool))) F8
theorem s8 : C8.Sound := Ctx.Sound.add (C := C38) mixed s38 Try.func8 ev8
/-! damson/session.Say -/
def H40 : Nat → Head := fun _ => ⟨[], []⟩
noncomputable def F40 (b : (Bool × (List Int × (Bool × (List (List Int) × List Int)))) × List Int) : Option ((Bool × List Int × Bool × List (List Int) × List Int) × Int) :=
 (F49 (b.1.1, (b.1.2.1, (b.1.2.2.1, (b.1.2.2.2.1, b.1.2.2.2.2))))).bind fun r1 =>
 bif (!decide (r1 = 0)) then (
 some ((false, ([] : List Int), false, ([] : List (List Int)), ([] : List Int)), r1))
 else (
 (F19 b.2).bind fun r2 =>
 bif (!decide (r2.2 = 0)) then (
 some ((false, ([] : List Int), false, ([] : List (List Int)), ([] : List Int)), r2.2))
 else (
 bif decide (16384 < (IntKind.wrap .i64 ((b.1.2.2.2.2.length : Int) + (r2.1.length : Int)))) then (
 some ((false, ([] : List Int), false, ([] : List (List Int)), ([] : List Int)), 7))
 else (
 (F51 (b.1.1, (b.1.2.1, (b.1.2.2.1, (b.1.2.2.2.1, b.1.2.2.2.2))))).bind fun r3 =>
 bif decide ((r3.2.2.2.2.length + r2.1.length) * 1 ≤ LIM) then
 some ((r3.1, r3.2.1, r3.2.2.1, r3.2.2.2.1, r3.2.2.2.2 ++ r2.1), 0)
 else none)))
theorem ev40 (b : (Bool × (List Int × (Bool × (List (List Int) × List Int)))) × List Int) : evF C8 H40 Try.f40 (encs [.agg (.pair .bool (.pair (.slice 5 (.int .u8)) (.pair .bool (.pair (.slice 22 (.slice 5 (.int .u8))) (.slice 5 (.int .u8)))))), .one (.slice 5 (.int .u8))] b) (RT.dec (.tup [.agg [.bool, .fresh 5 (.int .u8), .bool, .fresh 22 (.slice 5 (.int .u8)), .fresh 5 (.int .u8)], .leaf (.int .i64)])) = F40 b := by kernel_rfl
noncomputable def C40 : Ctx := Ctx.add C8 40 [.agg (.pair .bool (.pair (.slice 5 (.int .u8)) (.pair .bool (.pair (.slice 22 (.slice 5 (.int .u8))) (.slice 5 (.int .u8)))))), .one (.slice 5 (.int .u8))] (.tup [.agg [.bool, .fresh 5 (.int .u8), .bool, .fresh 22 (.slice 5 (.int .u8)), .fresh 5 (.int .u8)], .leaf (.int .i64)]) F40
theorem s40 : C40.Sound := Ctx.Sound.add (C := C8) mixed s8 Try.func40 ev40
/-! damson/session.Take -/
def H41 : Nat → Head := fun _ => ⟨[], []⟩
noncomputable def F41 (b : (Bool × (List Int × (Bool × (List (List Int) × List Int)))) × Int) : Option (List Int × (Bool × List Int × Bool × List (List Int) × List Int) × Int) :=
 bif decide (b.2 < 0) then (
 some (([] : List Int), (false, ([] : List Int), false, ([] : List (List Int)), ([] : List Int)), 1))
 else (
 (F49 (b.1.1, (b.1.2.1, (b.1.2.2.1, (b.1.2.2.2.1, b.1.2.2.2.2))))).bind fun r1 =>
 bif (!decide (r1 = 0)) then (
 some (([] : List Int), (false, ([] : List Int), false, ([] : List (List Int)), ([] : List Int)), r1))
 else (
 (F51 (b.1.1, (b.1.2.1, (b.1.2.2.1, (b.1.2.2.2.1, b.1.2.2.2.2))))).bind fun r2 =>
 bif inb (if (r2.2.2.2.2.length : Int) < b.2 then (r2.2.2.2.2.length : Int) else b.2) (r2.2.2.2.2.length + 1) then
 (F45 (r2.2.2.2.2.take ((if (r2.2.2.2.2.length : Int) < b.2 then (r2.2.2.2.2.length : Int) else b.2).toNat))).bind fun r3 =>
 bif inb (if (r2.2.2.2.2.length : Int) < b.2 then (r2.2.2.2.2.length : Int) else b.2) (r2.2.2.2.2.length + 1) then
 some (r3, (r2.1, r2.2.1, r2.2.2.1, r2.2.2.2.1, r2.2.2.2.2.drop ((if (r2.2.2.2.2.length : Int) < b.2 then (r2.2.2.2.2.length : Int) else b.2).toNat)), 0)
 else none
 else none))
theorem ev41 (b : (Bool × (List Int × (Bool × (List (List Int) × List Int)))) × Int) : evF C40 H41 Try.f41 (encs [.agg (.pair .bool (.pair (.slice 5 (.int .u8)) (.pair .bool (.pair (.slice 22 (.slice 5 (.int .u8))) (.slice 5 (.int .u8)))))), .one (.int .i64)] b) (RT.dec (.tup [.leaf (.fresh 5 (.int .u8)), .agg [.bool, .fresh 5 (.int .u8), .bool, .fresh 22 (.slice 5 (.int .u8)), .sl 5 (.int .u8)], .leaf (.int .i64)])) = F41 b := by kernel_rfl
noncomputable def C41 : Ctx := Ctx.add C40 41 [.agg (.pair .bool (.pair (.slice 5 (.int .u8)) (.pair .bool (.pair (.slice 22 (.slice 5 (.int .u8))) (.slice 5 (.int .u8)))))), .one (.int .i64)] (.tup [.leaf (.fresh 5 (.int .u8)), .agg [.bool, .fresh 5 (.int .u8), .bool, .fresh 22 (.slice 5 (.int .u8)), .sl 5 (.int .u8)], .leaf (.int .i64)]) F41
theorem s41 : C41.Sound := Ctx.Sound.add (C := C40) mixed s40 Try.func41 ev41
/-! damson/damsonlaw22.SessionTakes -/
def H9 : Nat → Head
  | 11 => ⟨[.data 4 .bool, .row 9 38923 5 (.int .u8), .data 43 (.int .i64), .box 28672 (.pair .bool (.pair (.slice 5 (.int .u8)) (.pair .bool (.pair (.slice 22 (.slice 5 (.int .u8))) (.slice 5 (.int .u8))))))], [147460, 147459, 147457, 98304]⟩
  | 3000000 => ⟨[], [28672]⟩
  | 3000001 => ⟨[], [28672]⟩
  | 3000002 => ⟨[], [28672]⟩
  | 3000003 => ⟨[], [28672]⟩
  | 3000004 => ⟨[], [28672]⟩
  | 3000005 => ⟨[], [28672]⟩
  | 3000006 => ⟨[], [28672]⟩
  | 3000007 => ⟨[], [28672]⟩
  | 3000008 => ⟨[], [28672]⟩
  | 3000009 => ⟨[], [28672]⟩
  | 3000010 => ⟨[], [28672]⟩
  | 3000011 => ⟨[], [28672]⟩
  | 3000012 => ⟨[], [28672]⟩
  | 3000013 => ⟨[], [28672]⟩
  | 3000014 => ⟨[], [28672]⟩
  | 3000015 => ⟨[], [28672]⟩
  | 3000016 => ⟨[], [28672]⟩
  | 3000017 => ⟨[], [28672]⟩
  | 3000018 => ⟨[], [28672]⟩
  | 3000019 => ⟨[], [28672]⟩
  | 3000020 => ⟨[], [28672]⟩
  | 3000021 => ⟨[], [28672]⟩
  | 3000022 => ⟨[], [28672]⟩
  | 3000023 => ⟨[], [28672]⟩
  | 3000024 => ⟨[], [28672]⟩
  | 3000025 => ⟨[], [28672]⟩
  | _ => ⟨[], []⟩
noncomputable def F9 (b : List (List Int) × List Int) : Option Bool :=
 (F26 ()).bind fun r1 =>
 bif (!r1) then (
 some false)
 else (
 (F38 b.1).bind fun r2 =>
 bif (bif (!r2.2) then true else decide (40 < (b.1.length : Int))) then (
 some true)
 else (
 (F29 (false, ([], (false, ([], []))))).bind fun r3 =>
 bif (!decide (r3.2 = 0)) then (
 some false)
 else (
 lfp (fun (rec4 : (Bool × List Int × Int × (Bool × (List Int × (Bool × (List (List Int) × List Int))))) → Option Bool) (x4 : Bool × List Int × Int × (Bool × (List Int × (Bool × (List (List Int) × List Int))))) =>
  bif decide (x4.2.2.1 < (b.1.length : Int)) then (
  bif inb x4.2.2.1 b.1.length then
  (F40 ((x4.2.2.2.1, (x4.2.2.2.2.1, (x4.2.2.2.2.2.1, (x4.2.2.2.2.2.2.1, x4.2.2.2.2.2.2.2)))), (rd (.slice 5 (.int .u8)) b.1 x4.2.2.1))).bind fun r5 =>
  bif (!decide (r5.2 = 0)) then (
  some false)
  else (
  bif decide (x4.2.2.1 < (b.2.length : Int)) then (
  bif inb x4.2.2.1 b.2.length then
  (both (
  (fun o => both o o) (
  (F41 ((r5.1.1, (r5.1.2.1, (r5.1.2.2.1, (r5.1.2.2.2.1, r5.1.2.2.2.2)))), (IntKind.wrap .i64 (rd (.int .u8) b.2 x4.2.2.1)))).bind fun r6 =>
  bif ((!decide (r6.2.2 = 0)) == false) then (
  bif inb x4.2.2.1 b.2.length then
  bif decide ((IntKind.wrap .i64 (rd (.int .u8) b.2 x4.2.2.1)) < (r6.1.length : Int)) then (
  some false)
  else (
  bif decide ((x4.2.1.length + r6.1.length) * 1 ≤ LIM) then
  rec4 (x4.1, (x4.2.1 ++ r6.1), (IntKind.wrap .i64 (x4.2.2.1 + 1)), (r6.2.1.1, (r6.2.1.2.1, (r6.2.1.2.2.1, (r6.2.1.2.2.2.1, r6.2.1.2.2.2.2)))))
  else none)
  else none)
  else (
  some false))) (
  (F41 ((r5.1.1, (r5.1.2.1, (r5.1.2.2.1, (r5.1.2.2.2.1, r5.1.2.2.2.2)))), (IntKind.wrap .i64 (rd (.int .u8) b.2 x4.2.2.1)))).bind fun r6 =>
  bif ((!decide (r6.2.2 = 0)) == false) then (
  bif inb x4.2.2.1 b.2.length then
  bif decide ((IntKind.wrap .i64 (rd (.int .u8) b.2 x4.2.2.1)) < (r6.1.length : Int)) then (
  some false)
  else (
  bif decide ((x4.2.1.length + r6.1.length) * 1 ≤ LIM) then
  rec4 (x4.1, (x4.2.1 ++ r6.1), (IntKind.wrap .i64 (x4.2.2.1 + 1)), (r6.2.1.1, (r6.2.1.2.1, (r6.2.1.2.2.1, (r6.2.1.2.2.2.1, r6.2.1.2.2.2.2)))))
  else none)
  else none)
  else (
  some false)))
  else none)
  else (
  rec4 (x4.1, x4.2.1, (IntKind.wrap .i64 (x4.2.2.1 + 1)), (r5.1.1, (r5.1.2.1, (r5.1.2.2.1, (r5.1.2.2.2.1, r5.1.2.2.2.2)))))))
  else none)
  else (
  (F41 ((x4.2.2.2.1, (x4.2.2.2.2.1, (x4.2.2.2.2.2.1, (x4.2.2.2.2.2.2.1, x4.2.2.2.2.2.2.2)))), 16384)).bind fun r7 =>
  bif ((bif decide (r7.2.2 = 0) then decide ((r7.2.1.2.2.2.2.length : Int) = 0) else false) == true) then (
  bif decide ((x4.2.1.length + r7.1.length) * 1 ≤ LIM) then
  (F23 (x4.2.1 ++ r7.1, r2.1)).bind fun r8 =>
  some r8
  else none)
  else (
  some false))) (false, ([] : List Int), 0, (r3.1.1, (r3.1.2.1, (r3.1.2.2.1, (r3.1.2.2.2.1, r3.1.2.2.2.2))))))))
theorem ev9 (b : List (List Int) × List Int) : evF C41 H9 Try.f9 (encs [.one (.slice 22 (.slice 5 (.int .u8))), .one (.slice 5 (.int .u8))] b) (RT.dec (.one (.leaf (.bool)))) = F9 b := by kernel_rfl
noncomputable def C9 : Ctx := Ctx.add C41 9 [.one (.slice 22 (.slice 5 (.int .u8))), .one (.slice 5 (.int .u8))] (.one (.leaf (.bool))) F9
theorem s9 : C9.Sound := Ctx.Sound.add (C := C41) mixed s41 Try.func9 ev9
/-! damson/damsonlaw22.SessionFull -/
def H10 : Nat → Head := fun _ => ⟨[], []⟩
noncomputable def F10 (b : (Bool × (List Int × (Bool × (List (List Int) × List Int)))) × List Int) : Option Bool :=
 (F26 ()).bind fun r1 =>
 bif (!r1) then (
 some false)
 else (
 (F27 (b.1.1, (b.1.2.1, (b.1.2.2.1, (b.1.2.2.2.1, b.1.2.2.2.2))))).bind fun r2 =>
 bif ((!r2) == false) then (
 (F39 (b.1.1, (b.1.2.1, (b.1.2.2.1, (b.1.2.2.2.1, b.1.2.2.2.2))))).bind fun r3 =>
 bif (bif (bif (bif (bif (!decide (r3 = 0)) then true else (!b.1.1)) then true else b.1.2.2.1) then true else decide (0 < (b.1.2.1.length : Int))) then true else decide (100 < (b.2.length : Int))) then (
 some true)
 else (
 (F19 b.2).bind fun r4 =>
 bif (!decide (r4.2 = 0)) then (
 some false)
 else (
 (F33 ((b.1.1, (b.1.2.1, (b.1.2.2.1, (b.1.2.2.2.1, b.1.2.2.2.2)))), r4.1)).bind fun r5 =>
 bif decide ((b.1.2.2.2.1.length : Int) = 8) then (
 (F35 (b.1.1, (b.1.2.1, (b.1.2.2.1, (b.1.2.2.2.1, b.1.2.2.2.2))))).bind fun r6 =>
 (F33 ((r6.2.1.1, (r6.2.1.2.1, (r6.2.1.2.2.1, (r6.2.1.2.2.2.1, r6.2.1.2.2.2.2)))), r4.1)).bind fun r7 =>
 bif (bif (bif (bif (!decide (r5.2.2 = 7)) then true else (!decide (r6.2.2 = 0))) then true else (!decide (r7.2.2 = 0))) then true else (!decide (r7.2.1 = 1))) then (
 some false)
 else (
 (F40 ((b.1.1, (b.1.2.1, (b.1.2.2.1, (b.1.2.2.2.1, b.1.2.2.2.2)))), b.2)).bind fun r8 =>
 bif decide (16384 < (IntKind.wrap .i64 ((b.1.2.2.2.2.length : Int) + (r4.1.length : Int)))) then (
 (F41 ((b.1.1, (b.1.2.1, (b.1.2.2.1, (b.1.2.2.2.1, b.1.2.2.2.2)))), (r4.1.length : Int))).bind fun r9 =>
 (F40 ((r9.2.1.1, (r9.2.1.2.1, (r9.2.1.2.2.1, (r9.2.1.2.2.2.1, r9.2.1.2.2.2.2)))), b.2)).bind fun r10 =>
 some (bif (bif decide (r8.2 = 7) then decide (r9.2.2 = 0) else false) then decide (r10.2 = 0) else false))
 else (
 some (bif decide (r8.2 = 0) then decide ((r8.1.2.2.2.2.length : Int) = (IntKind.wrap .i64 ((b.1.2.2.2.2.length : Int) + (r4.1.length : Int)))) else false))))
 else (
 bif (bif (bif (!decide (r5.2.2 = 0)) then true else (!decide (r5.2.1 = 1))) then true else (!decide ((r5.1.2.2.2.1.length : Int) = (IntKind.wrap .i64 ((b.1.2.2.2.1.length : Int) + 1))))) then (
 some false)
 else (
 (F40 ((b.1.1, (b.1.2.1, (b.1.2.2.1, (b.1.2.2.2.1, b.1.2.2.2.2)))), b.2)).bind fun r11 =>
 bif decide (16384 < (IntKind.wrap .i64 ((b.1.2.2.2.2.length : Int) + (r4.1.length : Int)))) then (
 (F41 ((b.1.1, (b.1.2.1, (b.1.2.2.1, (b.1.2.2.2.1, b.1.2.2.2.2)))), (r4.1.length : Int))).bind fun r12 =>
 (F40 ((r12.2.1.1, (r12.2.1.2.1, (r12.2.1.2.2.1, (r12.2.1.2.2.2.1, r12.2.1.2.2.2.2)))), b.2)).bind fun r13 =>
 some (bif (bif decide (r11.2 = 7) then decide (r12.2.2 = 0) else false) then decide (r13.2 = 0) else false))
 else (
 some (bif decide (r11.2 = 0) then decide ((r11.1.2.2.2.2.length : Int) = (IntKind.wrap .i64 ((b.1.2.2.2.2.length : Int) + (r4.1.length : Int)))) else false)))))))
 else (
 some true))
theorem ev10 (b : (Bool × (List Int × (Bool × (List (List Int) × List Int)))) × List Int) : evF C9 H10 Try.f10 (encs [.agg (.pair .bool (.pair (.slice 5 (.int .u8)) (.pair .bool (.pair (.slice 22 (.slice 5 (.int .u8))) (.slice 5 (.int .u8)))))), .one (.slice 5 (.int .u8))] b) (RT.dec (.one (.leaf (.bool)))) = F10 b := by kernel_rfl
noncomputable def C10 : Ctx := Ctx.add C9 10 [.agg (.pair .bool (.pair (.slice 5 (.int .u8)) (.pair .bool (.pair (.slice 22 (.slice 5 (.int .u8))) (.slice 5 (.int .u8)))))), .one (.slice 5 (.int .u8))] (.one (.leaf (.bool))) F10
theorem s10 : C10.Sound := Ctx.Sound.add (C := C9) mixed s9 Try.func10 ev10
/-! damson/damsonlaw22.SessionDown -/
def H11 : Nat → Head := fun _ => ⟨[], []⟩
noncomputable def F11 (b : (Bool × (List Int × (Bool × (List (List Int) × List Int)))) × List Int) : Option Bool :=
 (F26 ()).bind fun r1 =>
 bif (!r1) then (
 some false)
 else (
 (F27 (b.1.1, (b.1.2.1, (b.1.2.2.1, (b.1.2.2.2.1, b.1.2.2.2.2))))).bind fun r2 =>
 bif (bif (!r2) then true else decide (1000 < (b.2.length : Int))) then (
 some true)
 else (
 (F31 (b.1.1, (b.1.2.1, (b.1.2.2.1, (b.1.2.2.2.1, b.1.2.2.2.2))))).bind fun r3 =>
 bif (!decide (r3.2 = 0)) then (
 (F39 (b.1.1, (b.1.2.1, (b.1.2.2.1, (b.1.2.2.2.1, b.1.2.2.2.2))))).bind fun r4 =>
 some (decide (r3.2 = 14) == decide (r4 = 0)))
 else (
 (F33 ((r3.1.1, (r3.1.2.1, (r3.1.2.2.1, (r3.1.2.2.2.1, r3.1.2.2.2.2)))), b.2)).bind fun r5 =>
 (F35 (r3.1.1, (r3.1.2.1, (r3.1.2.2.1, (r3.1.2.2.2.1, r3.1.2.2.2.2))))).bind fun r6 =>
 (F40 ((r3.1.1, (r3.1.2.1, (r3.1.2.2.1, (r3.1.2.2.2.1, r3.1.2.2.2.2)))), b.2)).bind fun r7 =>
 (F41 ((r3.1.1, (r3.1.2.1, (r3.1.2.2.1, (r3.1.2.2.2.1, r3.1.2.2.2.2)))), 1)).bind fun r8 =>
 (F29 (r3.1.1, (r3.1.2.1, (r3.1.2.2.1, (r3.1.2.2.2.1, r3.1.2.2.2.2))))).bind fun r9 =>
 (F29 (false, ([], (false, ([], []))))).bind fun r10 =>
 bif ((bif (bif (bif (bif (bif decide (r5.2.2 = 14) then decide (r6.2.2 = 14) else false) then decide (r7.2 = 14) else false) then decide (r8.2.2 = 14) else false) then decide (r9.2 = 0) else false) then decide (r10.2 = 0) else false) == true) then (
 (F42 ((r9.1.1, (r9.1.2.1, (r9.1.2.2.1, (r9.1.2.2.2.1, r9.1.2.2.2.2)))), (r10.1.1, (r10.1.2.1, (r10.1.2.2.1, (r10.1.2.2.2.1, r10.1.2.2.2.2)))))).bind fun r11 =>
 bif (r11 == true) then (
 (F42 ((r3.1.1, (r3.1.2.1, (r3.1.2.2.1, (r3.1.2.2.2.1, r3.1.2.2.2.2)))), (false, ([], (false, ([], [])))))).bind fun r12 =>
 some r12)
 else (
 some false))
 else (
 some false))))
theorem ev11 (b : (Bool × (List Int × (Bool × (List (List Int) × List Int)))) × List Int) : evF C10 H11 Try.f11 (encs [.agg (.pair .bool (.pair (.slice 5 (.int .u8)) (.pair .bool (.pair (.slice 22 (.slice 5 (.int .u8))) (.slice 5 (.int .u8)))))), .one (.slice 5 (.int .u8))] b) (RT.dec (.one (.leaf (.bool)))) = F11 b := by kernel_rfl
noncomputable def C11 : Ctx := Ctx.add C10 11 [.agg (.pair .bool (.pair (.slice 5 (.int .u8)) (.pair .bool (.pair (.slice 22 (.slice 5 (.int .u8))) (.slice 5 (.int .u8)))))), .one (.slice 5 (.int .u8))] (.one (.leaf (.bool))) F11
theorem s11 : C11.Sound := Ctx.Sound.add (C := C10) mixed s10 Try.func11 ev11
end Go.Proofs.Ytdidfddgoheomaa.R2
