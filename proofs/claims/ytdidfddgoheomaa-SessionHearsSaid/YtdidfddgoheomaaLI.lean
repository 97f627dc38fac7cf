/- Part of a proof: what the program's functions come to. -/
import Derived.Test.YtdidfddgoheomaaFwCtx
import Derived.Test.YtdidfddgoheomaaProg
import Derived.KernelRfl
set_option linter.unusedVariables false
set_option linter.unusedSimpArgs false
set_option maxRecDepth 100000
namespace Go.Proofs.Ytdidfddgoheomaa.R2
open Go Go.Fw Go.Proofs
noncomputable def C_ : Ctx := Ctx.nil Try.prog
theorem s_ : C_.Sound := Ctx.nil_sound _
theorem mixed : Try.prog.follows .mixedOrders = true := by kernel_rfl
/-! damson/session.Check$1 -/
def H52 : Nat → Head := fun _ => ⟨[], []⟩
noncomputable def F52 (b : List Int) : Option Bool :=
 some (decide (4096 < (b.length : Int)))
theorem ev52 (b : List Int) : evF C_ H52 Try.f52 (encs [.one (.slice 5 (.int .u8))] b) (RT.dec (.one (.leaf (.bool)))) = F52 b := by kernel_rfl
noncomputable def C52 : Ctx := Ctx.add C_ 52 [.one (.slice 5 (.int .u8))] (.one (.leaf (.bool))) F52
theorem s52 : C52.Sound := Ctx.Sound.add (C := C_) mixed s_ Try.func52 ev52
/-! damson/frame.Put -/
def H19 : Nat → Head
  | 4000000 => ⟨[], [49]⟩
  | _ => ⟨[], []⟩
noncomputable def F19 (b : List Int) : Option (List Int × Int) :=
 bif decide (4096 < (b.length : Int)) then (
 some (([] : List Int), 4))
 else (
 bif (decide (0 ≤ (IntKind.wrap .i64 (2 + (b.length : Int)))) && decide ((IntKind.wrap .i64 (2 + (b.length : Int))) = (IntKind.wrap .i64 (2 + (b.length : Int)))) && decide ((IntKind.wrap .i64 (2 + (b.length : Int))).toNat * 1 ≤ LIM)) then
 bif inb 0 (List.replicate ((IntKind.wrap .i64 (2 + (b.length : Int))).toNat) 0 : List Int).length then
 bif inb 1 ((List.replicate ((IntKind.wrap .i64 (2 + (b.length : Int))).toNat) 0 : List Int).set ((0 : Int).toNat) (IntKind.wrap .u8 ((b.length : Int) / 2 ^ (min (8 : Int).toNat 64)))).length then
 bif inb 2 ((((List.replicate ((IntKind.wrap .i64 (2 + (b.length : Int))).toNat) 0 : List Int).set ((0 : Int).toNat) (IntKind.wrap .u8 ((b.length : Int) / 2 ^ (min (8 : Int).toNat 64)))).set ((1 : Int).toNat) (IntKind.wrap .u8 (b.length : Int))).length + 1) then
 bif (decide (b.length ≤ ((((List.replicate ((IntKind.wrap .i64 (2 + (b.length : Int))).toNat) 0 : List Int).set ((0 : Int).toNat) (IntKind.wrap .u8 ((b.length : Int) / 2 ^ (min (8 : Int).toNat 64)))).set ((1 : Int).toNat) (IntKind.wrap .u8 (b.length : Int))).length - ((2 : Int).toNat))) && decide ((2 : Int).toNat + ((((List.replicate ((IntKind.wrap .i64 (2 + (b.length : Int))).toNat) 0 : List Int).set ((0 : Int).toNat) (IntKind.wrap .u8 ((b.length : Int) / 2 ^ (min (8 : Int).toNat 64)))).set ((1 : Int).toNat) (IntKind.wrap .u8 (b.length : Int))).length - ((2 : Int).toNat)) ≤ (((List.replicate ((IntKind.wrap .i64 (2 + (b.length : Int))).toNat) 0 : List Int).set ((0 : Int).toNat) (IntKind.wrap .u8 ((b.length : Int) / 2 ^ (min (8 : Int).toNat 64)))).set ((1 : Int).toNat) (IntKind.wrap .u8 (b.length : Int))).length)) then
 some ((((List.replicate ((IntKind.wrap .i64 (2 + (b.length : Int))).toNat) 0 : List Int).set ((0 : Int).toNat) (IntKind.wrap .u8 ((b.length : Int) / 2 ^ (min (8 : Int).toNat 64)))).set ((1 : Int).toNat) (IntKind.wrap .u8 (b.length : Int))).take ((2 : Int).toNat) ++ b ++ (((List.replicate ((IntKind.wrap .i64 (2 + (b.length : Int))).toNat) 0 : List Int).set ((0 : Int).toNat) (IntKind.wrap .u8 ((b.length : Int) / 2 ^ (min (8 : Int).toNat 64)))).set ((1 : Int).toNat) (IntKind.wrap .u8 (b.length : Int))).drop (((2 : Int).toNat) + b.length), 0)
 else none
 else none
 else none
 else none
 else none)
theorem ev19 (b : List Int) : evF C52 H19 Try.f19 (encs [.oneA (.slice 5 (.int .u8))] b) (RT.dec (.tup [.leaf (.fresh 5 (.int .u8)), .leaf (.int .i64)])) = F19 b := by kernel_rfl
noncomputable def C19 : Ctx := Ctx.addA C52 19 [.oneA (.slice 5 (.int .u8))] (.tup [.leaf (.fresh 5 (.int .u8)), .leaf (.int .i64)]) F19
theorem s19 : C19.Sound := Ctx.Sound.addA (C := C52) mixed s52 Try.func19 ev19
/-! damson/damsonlaw03.live -/
def H12 : Nat → Head := fun _ => ⟨[], []⟩
noncomputable def F12 (b : Unit) : Option Bool :=
 (F19 ([104, 105])).bind fun r1 =>
 bif (decide (r1.2 = 0) == true) then (
 some (decide (r1.1 = ([0, 2, 104, 105]))))
 else (
 some false)
theorem ev12 (b : Unit) : evF C19 H12 Try.f12 (encs [] b) (RT.dec (.one (.leaf (.bool)))) = F12 b := by kernel_rfl
noncomputable def C12 : Ctx := Ctx.add C19 12 [] (.one (.leaf (.bool))) F12
theorem s12 : C12.Sound := Ctx.Sound.add (C := C19) mixed s19 Try.func12 ev12
/-! damson/frame.size -/
def H44 : Nat → Head
  | 5000003 => ⟨[], [0, 0, 1, 1, 2, 2, 4, 4, 8, 8, 16, 16, 0, 0, 64, 64, 128, 128, 256, 256, 544, 544, 2047, 1024, 4095, 0]⟩
  | _ => ⟨[], []⟩
noncomputable def F44 (b : List Int) : Option (Int × Bool) :=
 bif decide ((b.length : Int) < 2) then (
 some (2, false))
 else (
 bif inb 0 b.length then
 bif inb 1 b.length then
 some ((IntKind.wrap .i64 ((IntKind.wrap .i64 (2 + (IntKind.wrap .i64 ((IntKind.wrap .i64 (rd (.int .u8) b 0)) * 2 ^ (min (8 : Int).toNat 64))))) + (IntKind.wrap .i64 (rd (.int .u8) b 1)))), true)
 else none
 else none)
theorem ev44 (b : List Int) : evF C12 H44 Try.f44 (encs [.one (.slice 5 (.int .u8))] b) (RT.dec (.tup [.leaf (.int .i64), .leaf (.bool)])) = F44 b := by kernel_rfl
noncomputable def C44 : Ctx := Ctx.add C12 44 [.one (.slice 5 (.int .u8))] (.tup [.leaf (.int .i64), .leaf (.bool)]) F44
theorem s44 : C44.Sound := Ctx.Sound.add (C := C12) mixed s12 Try.func44 ev44
/-! damson/frame.Check -/
def H14 : Nat → Head := fun _ => ⟨[], []⟩
noncomputable def F14 (b : (List Int × Bool)) : Option Int :=
 (F44 b.1).bind fun r1 =>
 bif ((bif b.2 then decide (0 < (b.1.length : Int)) else false) == false) then (
 bif (r1.2 == true) then (
 bif (bif decide (4098 < r1.1) then true else decide (r1.1 ≤ (b.1.length : Int))) then (
 some 1)
 else (
 some 0))
 else (
 some 0))
 else (
 some 1)
theorem ev14 (b : (List Int × Bool)) : evF C44 H14 Try.f14 (encs [.agg (.pair (.slice 5 (.int .u8)) .bool)] b) (RT.dec (.one (.leaf (.int .i64)))) = F14 b := by kernel_rfl
noncomputable def C14 : Ctx := Ctx.add C44 14 [.agg (.pair (.slice 5 (.int .u8)) .bool)] (.one (.leaf (.int .i64))) F14
theorem s14 : C14.Sound := Ctx.Sound.add (C := C44) mixed s44 Try.func14 ev14
/-! slices.Grow[[]byte,byte] -/
def H55999 : Nat → Head
  | 4000000 => ⟨[], [50]⟩
  | _ => ⟨[], []⟩
noncomputable def F55999 (b : Unit × Int) : Option (List Int) :=
 bif decide (b.2 < 0) then (
 none)
 else (
 bif decide (0 < (IntKind.wrap .i64 (b.2 - (IntKind.wrap .i64 ((([] : List Int).length : Int) - (([] : List Int).length : Int)))))) then (
 bif inb (([] : List Int).length : Int) (([] : List Int).length + 1) then
 bif (decide (0 < (IntKind.wrap .i64 (b.2 - (IntKind.wrap .i64 ((([] : List Int).length : Int) - (([] : List Int).length : Int)))))) && decide ((IntKind.wrap .i64 (b.2 - (IntKind.wrap .i64 ((([] : List Int).length : Int) - (([] : List Int).length : Int))))).toNat * 1 ≤ LIM)) then
 bif inb (([] : List Int).length : Int) ((List.replicate ((IntKind.wrap .i64 (b.2 - (IntKind.wrap .i64 ((([] : List Int).length : Int) - (([] : List Int).length : Int))))).toNat) 0 : List Int).length + 1) then
 some ((List.replicate ((IntKind.wrap .i64 (b.2 - (IntKind.wrap .i64 ((([] : List Int).length : Int) - (([] : List Int).length : Int))))).toNat) 0 : List Int).take ((([] : List Int).length : Int).toNat))
 else none
 else none
 else none)
 else (
 some ([] : List Int)))
theorem ev55999 (b : Unit × Int) : evF C14 H55999 Try.f55 (encs [.nil 5 (.int .u8), .one (.int .i64)] b) (RT.dec (.one (.leaf (.fresh 5 (.int .u8))))) = F55999 b := by kernel_rfl
noncomputable def C55999 : Ctx := Ctx.add C14 55 [.nil 5 (.int .u8), .one (.int .i64)] (.one (.leaf (.fresh 5 (.int .u8)))) F55999
theorem s55999 : C55999.Sound := Ctx.Sound.add (C := C14) mixed s14 Try.func55 ev55999
/-! slices.Concat[[]byte,byte] -/
def H43 : Nat → Head
  | 3 => ⟨[.data 3 (.int .i64), .data 11 (.int .i64)], []⟩
  | 11 => ⟨[.row 6 26635 5 (.int .u8), .data 27 (.int .i64)], []⟩
  | _ => ⟨[], []⟩
noncomputable def F43 (b : List (List Int)) : Option (List Int) :=
 lfp (fun (rec1 : (Int × Int) → Option (List Int)) (x1 : Int × Int) =>
  bif decide (x1.2 < (b.length : Int)) then (
  bif inb x1.2 b.length then
  bif decide ((IntKind.wrap .i64 (x1.1 + ((rd (.slice 5 (.int .u8)) b x1.2).length : Int))) < 0) then (
  none)
  else (
  rec1 ((IntKind.wrap .i64 (x1.1 + ((rd (.slice 5 (.int .u8)) b x1.2).length : Int))), (IntKind.wrap .i64 (x1.2 + 1))))
  else none)
  else (
  (F55999 ((), x1.1)).bind fun r2 =>
  lfp (fun (rec3 : (List Int × Int) → Option (List Int)) (x3 : List Int × Int) =>
   bif decide (x3.2 < (b.length : Int)) then (
   bif inb x3.2 b.length then
   bif decide ((x3.1.length + (rd (.slice 5 (.int .u8)) b x3.2).length) * 1 ≤ LIM) then
   rec3 ((x3.1 ++ (rd (.slice 5 (.int .u8)) b x3.2)), (IntKind.wrap .i64 (x3.2 + 1)))
   else none
   else none)
   else (
   some x3.1)) (r2, 0))) (0, 0)
theorem ev43 (b : List (List Int)) : evF C55999 H43 Try.f43 (encs [.oneA (.slice 22 (.slice 5 (.int .u8)))] b) (RT.dec (.one (.leaf (.fresh 5 (.int .u8))))) = F43 b := by kernel_rfl
noncomputable def C43 : Ctx := Ctx.addA C55999 43 [.oneA (.slice 22 (.slice 5 (.int .u8)))] (.one (.leaf (.fresh 5 (.int .u8)))) F43
theorem s43 : C43.Sound := Ctx.Sound.addA (C := C55999) mixed s55999 Try.func43 ev43
/-! slices.Clone[[]byte,byte] -/
def H45 : Nat → Head := fun _ => ⟨[], []⟩
noncomputable def F45 (b : List Int) : Option (List Int) :=
 bif b.isEmpty then (
 (both (
 some ([] : List Int)) (
 bif decide ((([] : List Int).length + b.length) * 1 ≤ LIM) then
 some (([] : List Int) ++ b)
 else none)))
 else (
 bif decide ((([] : List Int).length + b.length) * 1 ≤ LIM) then
 some (([] : List Int) ++ b)
 else none)
theorem ev45 (b : List Int) : evF C43 H45 Try.f45 (encs [.oneA (.slice 5 (.int .u8))] b) (RT.dec (.one (.leaf (.fresh 5 (.int .u8))))) = F45 b := by kernel_rfl
noncomputable def C45 : Ctx := Ctx.addA C43 45 [.oneA (.slice 5 (.int .u8))] (.one (.leaf (.fresh 5 (.int .u8)))) F45
theorem s45 : C45.Sound := Ctx.Sound.addA (C := C43) mixed s43 Try.func45 ev45
/-! damson/frame.Feed -/
def H13 : Nat → Head
  | 9 => ⟨[.row 5 22537 22 (.slice 5 (.int .u8)), .data 6 (.int .i64), .row 7 30729 22 (.slice 5 (.int .u8)), .data 8 (.slice 5 (.int .u8))], [118784, 114688, 16384, 8192]⟩
  | 1000008 => ⟨[], [8]⟩
  | 1000014 => ⟨[], [8]⟩
  | 5000014 => ⟨[], [0, 0, 0, 0, 0, 0, 6, 6, 8, 8, 16, 16, 49, 33, 0, 0, 0, 0, 384, 384, 127, 65, 2047, 642]⟩
  | _ => ⟨[], []⟩
noncomputable def F13 (b : (List Int × Bool) × List Int) : Option ((List Int × Bool) × List (List Int) × Int) :=
 (F14 (b.1.1, b.1.2)).bind fun r1 =>
 bif (!decide (r1 = 0)) then (
 some ((([] : List Int), false), ([] : List (List Int)), 1))
 else (
 bif decide (65535 < (b.2.length : Int)) then (
 some ((([] : List Int), false), ([] : List (List Int)), 4))
 else (
 bif b.1.2 then (
 bif b.1.1.isEmpty then
 some ((([] : List Int), b.1.2), ([] : List (List Int)), 0)
 else none)
 else (
 (F43 ([b.1.1, b.2])).bind fun r2 =>
 lfp (fun (rec3 : (List (List Int) × Int × List (List Int) × List Int) → Option ((List Int × Bool) × List (List Int) × Int)) (x3 : List (List Int) × Int × List (List Int) × List Int) =>
  (F44 x3.2.2.2).bind fun r4 =>
  bif (bif r4.2 then decide (4098 < r4.1) else false) then (
  some ((([] : List Int), true), x3.2.2.1, 0))
  else (
  bif (!r4.2) then (
  bif (!r4.2) then (
  (F45 x3.2.2.2).bind fun r5 =>
  some ((r5, false), x3.2.2.1, 0))
  else (
  bif (inb r4.1 (x3.2.2.2.length + 1) && (decide (0 ≤ 2) && decide (2 ≤ r4.1))) then
  bif inb r4.1 (x3.2.2.2.length + 1) then
  (F45 ((x3.2.2.2.take r4.1.toNat).drop ((2 : Int).toNat))).bind fun r6 =>
  bif decide ((x3.2.2.1.length + 1) * 24 ≤ LIM) then
  rec3 (x3.1, x3.2.1, (x3.2.2.1 ++ ([r6])), x3.2.2.2.drop r4.1.toNat)
  else none
  else none
  else none))
  else (
  bif decide ((x3.2.2.2.length : Int) < r4.1) then (
  (F45 x3.2.2.2).bind fun r7 =>
  some ((r7, false), x3.2.2.1, 0))
  else (
  bif (inb r4.1 (x3.2.2.2.length + 1) && (decide (0 ≤ 2) && decide (2 ≤ r4.1))) then
  bif inb r4.1 (x3.2.2.2.length + 1) then
  (F45 ((x3.2.2.2.take r4.1.toNat).drop ((2 : Int).toNat))).bind fun r8 =>
  bif decide ((x3.2.2.1.length + 1) * 24 ≤ LIM) then
  rec3 (x3.1, x3.2.1, (x3.2.2.1 ++ ([r8])), x3.2.2.2.drop r4.1.toNat)
  else none
  else none
  else none)))) (([] : List (List Int)), 0, ([] : List (List Int)), r2))))
theorem ev13 (b : (List Int × Bool) × List Int) : evF C45 H13 Try.f13 (encs [.aggA (.pair (.slice 5 (.int .u8)) .bool), .oneA (.slice 5 (.int .u8))] b) (RT.dec (.tup [.agg [.sl 5 (.int .u8), .bool], .leaf (.fresh 22 (.slice 5 (.int .u8))), .leaf (.int .i64)])) = F13 b := by kernel_rfl
noncomputable def C13 : Ctx := Ctx.addA C45 13 [.aggA (.pair (.slice 5 (.int .u8)) .bool), .oneA (.slice 5 (.int .u8))] (.tup [.agg [.sl 5 (.int .u8), .bool], .leaf (.fresh 22 (.slice 5 (.int .u8))), .leaf (.int .i64)]) F13
theorem s13 : C13.Sound := Ctx.Sound.addA (C := C45) mixed s45 Try.func13 ev13
/-! bytes.Equal -/
def H46 : Nat → Head := fun _ => ⟨[], []⟩
noncomputable def F46 (b : List Int × List Int) : Option Bool :=
 some (decide (b.1 = b.2))
theorem ev46 (b : List Int × List Int) : evF C13 H46 Try.f46 (encs [.one (.slice 5 (.int .u8)), .one (.slice 5 (.int .u8))] b) (RT.dec (.one (.leaf (.bool)))) = F46 b := by kernel_rfl
noncomputable def C46 : Ctx := Ctx.add C13 46 [.one (.slice 5 (.int .u8)), .one (.slice 5 (.int .u8))] (.one (.leaf (.bool))) F46
theorem s46 : C46.Sound := Ctx.Sound.add (C := C13) mixed s13 Try.func46 ev46
/-! damson/frame.Same -/
def H16 : Nat → Head := fun _ => ⟨[], []⟩
noncomputable def F16 (b : (List Int × Bool) × (List Int × Bool)) : Option Bool :=
 bif ((b.1.2 == b.2.2) == true) then (
 (F46 (b.1.1, b.2.1)).bind fun r1 =>
 some r1)
 else (
 some false)
theorem ev16 (b : (List Int × Bool) × (List Int × Bool)) : evF C46 H16 Try.f16 (encs [.agg (.pair (.slice 5 (.int .u8)) .bool), .agg (.pair (.slice 5 (.int .u8)) .bool)] b) (RT.dec (.one (.leaf (.bool)))) = F16 b := by kernel_rfl
noncomputable def C16 : Ctx := Ctx.add C46 16 [.agg (.pair (.slice 5 (.int .u8)) .bool), .agg (.pair (.slice 5 (.int .u8)) .bool)] (.one (.leaf (.bool))) F16
theorem s16 : C16.Sound := Ctx.Sound.add (C := C46) mixed s46 Try.func16 ev16
/-! damson/damsonref01.SameBytes -/
def H23 : Nat → Head := fun _ => ⟨[], []⟩
noncomputable def F23 (b : List Int × List Int) : Option Bool :=
 some (decide (b.1 = b.2))
theorem ev23 (b : List Int × List Int) : evF C16 H23 Try.f23 (encs [.one (.slice 5 (.int .u8)), .one (.slice 5 (.int .u8))] b) (RT.dec (.one (.leaf (.bool)))) = F23 b := by kernel_rfl
noncomputable def C23 : Ctx := Ctx.add C16 23 [.one (.slice 5 (.int .u8)), .one (.slice 5 (.int .u8))] (.one (.leaf (.bool))) F23
theorem s23 : C23.Sound := Ctx.Sound.add (C := C16) mixed s16 Try.func23 ev23
/-! damson/damsonref03.SameTexts -/
def H17 : Nat → Head
  | 4 => ⟨[.data 4 .bool, .data 13 (.int .i64)], []⟩
  | 5000006 => ⟨[], [0, 0, 0, 0, 3, 3, 4, 4, 0, 0, 0, 0, 48, 48, 64, 64, 136, 136, 256, 256]⟩
  | _ => ⟨[], []⟩
noncomputable def F17 (b : List (List Int) × List (List Int)) : Option Bool :=
 bif (!decide ((b.1.length : Int) = (b.2.length : Int))) then (
 some false)
 else (
 lfp (fun (rec1 : (Bool × Int) → Option Bool) (x1 : Bool × Int) =>
  bif decide (x1.2 < (b.1.length : Int)) then (
  bif inb x1.2 b.1.length then
  bif inb x1.2 b.2.length then
  (F23 ((rd (.slice 5 (.int .u8)) b.1 x1.2), (rd (.slice 5 (.int .u8)) b.2 x1.2))).bind fun r2 =>
  bif (!r2) then (
  some false)
  else (
  rec1 (x1.1, (IntKind.wrap .i64 (x1.2 + 1))))
  else none
  else none)
  else (
  some true)) (false, 0))
theorem ev17 (b : List (List Int) × List (List Int)) : evF C23 H17 Try.f17 (encs [.one (.slice 22 (.slice 5 (.int .u8))), .one (.slice 22 (.slice 5 (.int .u8)))] b) (RT.dec (.one (.leaf (.bool)))) = F17 b := by kernel_rfl
noncomputable def C17 : Ctx := Ctx.add C23 17 [.one (.slice 22 (.slice 5 (.int .u8))), .one (.slice 22 (.slice 5 (.int .u8)))] (.one (.leaf (.bool))) F17
theorem s17 : C17.Sound := Ctx.Sound.add (C := C23) mixed s23 Try.func17 ev17
/-! damson/frame.Wants -/
def H18 : Nat → Head := fun _ => ⟨[], []⟩
noncomputable def F18 (b : (List Int × Bool)) : Option (Int × Int) :=
 (F14 (b.1, b.2)).bind fun r1 =>
 bif (bif (!decide (r1 = 0)) then true else b.2) then (
 some (0, r1))
 else (
 (F44 b.1).bind fun r2 =>
 some ((IntKind.wrap .i64 (r2.1 - (b.1.length : Int))), 0))
theorem ev18 (b : (List Int × Bool)) : evF C17 H18 Try.f18 (encs [.agg (.pair (.slice 5 (.int .u8)) .bool)] b) (RT.dec (.tup [.leaf (.int .i64), .leaf (.int .i64)])) = F18 b := by kernel_rfl
noncomputable def C18 : Ctx := Ctx.add C17 18 [.agg (.pair (.slice 5 (.int .u8)) .bool)] (.tup [.leaf (.int .i64), .leaf (.int .i64)]) F18
theorem s18 : C18.Sound := Ctx.Sound.add (C := C17) mixed s17 Try.func18 ev18
/-! damson/damsonref03.Put -/
def H20 : Nat → Head := fun _ => ⟨[], []⟩
noncomputable def F20 (b : List Int) : Option (List Int × Int) :=
 bif decide (4096 < (b.length : Int)) then (
 some (([] : List Int), 4))
 else (
 bif decide ((([(IntKind.wrap .u8 (IntKind.wrap .i64 (Int.tdiv (b.length : Int) 256))), (IntKind.wrap .u8 (Int.tmod (b.length : Int) 256))]).length + b.length) * 1 ≤ LIM) then
 some (([(IntKind.wrap .u8 (IntKind.wrap .i64 (Int.tdiv (b.length : Int) 256))), (IntKind.wrap .u8 (Int.tmod (b.length : Int) 256))]) ++ b, 0)
 else none)
theorem ev20 (b : List Int) : evF C18 H20 Try.f20 (encs [.oneA (.slice 5 (.int .u8))] b) (RT.dec (.tup [.leaf (.fresh 5 (.int .u8)), .leaf (.int .i64)])) = F20 b := by kernel_rfl
noncomputable def C20 : Ctx := Ctx.addA C18 20 [.oneA (.slice 5 (.int .u8))] (.tup [.leaf (.fresh 5 (.int .u8)), .leaf (.int .i64)]) F20
theorem s20 : C20.Sound := Ctx.Sound.addA (C := C18) mixed s18 Try.func20 ev20
/-! damson/damsonref03.long -/
def H48 : Nat → Head
  | 5000001 => ⟨[], [0, 0, 1, 1, 2, 2, 4, 4, 8, 8, 0, 0, 32, 32, 64, 64, 128, 128, 272, 272, 1023, 512]⟩
  | _ => ⟨[], []⟩
noncomputable def F48 (b : List Int) : Option Int :=
 bif inb 0 b.length then
 bif inb 1 b.length then
 some (IntKind.wrap .i64 ((IntKind.wrap .i64 (256 * (IntKind.wrap .i64 (rd (.int .u8) b 0)))) + (IntKind.wrap .i64 (rd (.int .u8) b 1))))
 else none
 else none
theorem ev48 (b : List Int) : evF C20 H48 Try.f48 (encs [.one (.slice 5 (.int .u8))] b) (RT.dec (.one (.leaf (.int .i64)))) = F48 b := by kernel_rfl
noncomputable def C48 : Ctx := Ctx.add C20 48 [.one (.slice 5 (.int .u8))] (.one (.leaf (.int .i64))) F48
theorem s48 : C48.Sound := Ctx.Sound.add (C := C20) mixed s20 Try.func48 ev48
/-! damson/damsonref03.Check -/
def H25 : Nat → Head
  | 5000001 => ⟨[], [0, 0, 1, 1, 2, 2, 4, 4, 12, 12, 20, 20, 36, 36, 68, 68, 132, 128, 256, 256, 768, 768, 1280, 1280, 2304, 2304, 4352, 4352, 8192, 8192, 24576, 24576, 40960, 40960, 73728, 73728, 204800, 139264, 262144, 262144, 786432, 786432, 1310720, 1310720, 2359296, 2359296, 262144, 262144, 8650752, 8650752, 17039360, 17039360, 38010880, 38010880, 67379200, 67379200, 134226176, 134226176, 268435712, 268435712]⟩
  | _ => ⟨[], []⟩
noncomputable def F25 (b : (List Int × Bool)) : Option Int :=
 bif ((bif b.2 then decide (0 < (b.1.length : Int)) else false) == false) then (
 bif (decide (2 ≤ (b.1.length : Int)) == true) then (
 (F48 b.1).bind fun r1 =>
 (both (
 bif (decide (4096 < r1) == false) then (
 (F48 b.1).bind fun r2 =>
 bif decide (r2 ≤ (IntKind.wrap .i64 ((b.1.length : Int) - 2))) then (
 some 1)
 else (
 some 0))
 else (
 some 1)) (
 (fun o => both o o) (
 bif (decide (4096 < r1) == false) then (
 (F48 b.1).bind fun r2 =>
 bif decide (r2 ≤ (IntKind.wrap .i64 ((b.1.length : Int) - 2))) then (
 some 1)
 else (
 some 0))
 else (
 some 1)))))
 else (
 (both (
 some 0) (
 (fun o => both o o) (
 some 0)))))
 else (
 (both (
 some 1) (
 (fun o => both o o) (
 some 1))))
theorem ev25 (b : (List Int × Bool)) : evF C48 H25 Try.f25 (encs [.agg (.pair (.slice 5 (.int .u8)) .bool)] b) (RT.dec (.one (.leaf (.int .i64)))) = F25 b := by kernel_rfl
noncomputable def C25 : Ctx := Ctx.add C48 25 [.agg (.pair (.slice 5 (.int .u8)) .bool)] (.one (.leaf (.int .i64))) F25
theorem s25 : C25.Sound := Ctx.Sound.add (C := C48) mixed s48 Try.func25 ev25
/-! damson/damsonref03.octet -/
def H47 : Nat → Head
  | 5000005 => ⟨[], [0, 0, 0, 0, 2, 2, 1, 1, 15, 4, 31, 0]⟩
  | _ => ⟨[], []⟩
noncomputable def F47 (b : (List Int × Bool) × Int) : Option ((List Int × Bool) × List Int × Bool) :=
 bif (!b.1.1.isEmpty || true) then
 bif decide ((([] : List Int).length + b.1.1.length) * 1 ≤ LIM) then
 bif decide (((([] : List Int) ++ b.1.1).length + 1) * 1 ≤ LIM) then
 bif (decide (2 ≤ (((([] : List Int) ++ b.1.1) ++ ([b.2])).length : Int)) == true) then (
 (F48 ((([] : List Int) ++ b.1.1) ++ ([b.2]))).bind fun r1 =>
 bif decide (4096 < r1) then (
 some ((([] : List Int), true), ([] : List Int), false))
 else (
 bif (decide (2 ≤ (((([] : List Int) ++ b.1.1) ++ ([b.2])).length : Int)) == true) then (
 (F48 ((([] : List Int) ++ b.1.1) ++ ([b.2]))).bind fun r2 =>
 bif decide ((IntKind.wrap .i64 ((((([] : List Int) ++ b.1.1) ++ ([b.2])).length : Int) - 2)) = r2) then (
 bif inb 2 (((([] : List Int) ++ b.1.1) ++ ([b.2])).length + 1) then
 some ((([] : List Int), false), ((([] : List Int) ++ b.1.1) ++ ([b.2])).drop ((2 : Int).toNat), true)
 else none)
 else (
 some (((([] : List Int) ++ b.1.1) ++ ([b.2]), false), ([] : List Int), false)))
 else (
 some (((([] : List Int) ++ b.1.1) ++ ([b.2]), false), ([] : List Int), false))))
 else (
 bif (decide (2 ≤ (((([] : List Int) ++ b.1.1) ++ ([b.2])).length : Int)) == true) then (
 (F48 ((([] : List Int) ++ b.1.1) ++ ([b.2]))).bind fun r3 =>
 bif decide ((IntKind.wrap .i64 ((((([] : List Int) ++ b.1.1) ++ ([b.2])).length : Int) - 2)) = r3) then (
 bif inb 2 (((([] : List Int) ++ b.1.1) ++ ([b.2])).length + 1) then
 some ((([] : List Int), false), ((([] : List Int) ++ b.1.1) ++ ([b.2])).drop ((2 : Int).toNat), true)
 else none)
 else (
 some (((([] : List Int) ++ b.1.1) ++ ([b.2]), false), ([] : List Int), false)))
 else (
 some (((([] : List Int) ++ b.1.1) ++ ([b.2]), false), ([] : List Int), false)))
 else none
 else none
 else none
theorem ev47 (b : (List Int × Bool) × Int) : evF C25 H47 Try.f47 (encs [.aggA (.pair (.slice 5 (.int .u8)) .bool), .one (.int .u8)] b) (RT.dec (.tup [.agg [.fresh 5 (.int .u8), .bool], .leaf (.sl 5 (.int .u8)), .leaf (.bool)])) = F47 b := by kernel_rfl
noncomputable def C47 : Ctx := Ctx.addA C25 47 [.aggA (.pair (.slice 5 (.int .u8)) .bool), .one (.int .u8)] (.tup [.agg [.fresh 5 (.int .u8), .bool], .leaf (.sl 5 (.int .u8)), .leaf (.bool)]) F47
theorem s47 : C47.Sound := Ctx.Sound.addA (C := C25) mixed s25 Try.func47 ev47
/-! damson/damsonref03.Feed -/
def H21 : Nat → Head
  | 7 => ⟨[.row 7 30727 22 (.slice 5 (.int .u8)), .data 23 (.int .i64), .boxA 8192 (.pair (.slice 5 (.int .u8)) .bool)], [16384]⟩
  | 3000000 => ⟨[], [8192]⟩
  | 3000001 => ⟨[], [8192]⟩
  | 3000002 => ⟨[], [8192]⟩
  | 3000003 => ⟨[], [8192]⟩
  | 3000004 => ⟨[], [8192]⟩
  | 3000005 => ⟨[], [8192]⟩
  | 3000006 => ⟨[], [8192]⟩
  | 3000007 => ⟨[], [8192]⟩
  | 3000008 => ⟨[], [8192]⟩
  | 3000009 => ⟨[], [8192]⟩
  | 3000010 => ⟨[], [8192]⟩
  | 3000011 => ⟨[], [8192]⟩
  | 3000012 => ⟨[], [8192]⟩
  | 3000013 => ⟨[], [8192]⟩
  | 3000014 => ⟨[], [8192]⟩
  | 3000015 => ⟨[], [8192]⟩
  | 5000015 => ⟨[], [0, 0, 1, 1, 2, 2, 0, 0, 8, 8, 20, 20, 0, 0, 63, 32, 255, 64, 511, 0]⟩
  | _ => ⟨[], []⟩
noncomputable def F21 (b : (List Int × Bool) × List Int) : Option ((List Int × Bool) × List (List Int) × Int) :=
 (F25 (b.1.1, b.1.2)).bind fun r1 =>
 bif (!decide (r1 = 0)) then (
 some ((([] : List Int), false), ([] : List (List Int)), 1))
 else (
 bif decide (65535 < (b.2.length : Int)) then (
 some ((([] : List Int), false), ([] : List (List Int)), 4))
 else (
 lfp (fun (rec2 : (List (List Int) × Int × (List Int × Bool)) → Option ((List Int × Bool) × List (List Int) × Int)) (x2 : List (List Int) × Int × (List Int × Bool)) =>
  bif decide (x2.2.1 < (b.2.length : Int)) then (
  bif inb x2.2.1 b.2.length then
  bif x2.2.2.2 then (
  (both (
  (fun o => both o o) (
  bif (!x2.2.2.1.isEmpty || true) then
  bif decide ((([] : List Int).length + x2.2.2.1.length) * 1 ≤ LIM) then
  some ((([] : List Int) ++ x2.2.2.1, x2.2.2.2), x2.1, 0)
  else none
  else none)) (
  bif (!x2.2.2.1.isEmpty || true) then
  bif decide ((([] : List Int).length + x2.2.2.1.length) * 1 ≤ LIM) then
  some ((([] : List Int) ++ x2.2.2.1, x2.2.2.2), x2.1, 0)
  else none
  else none)))
  else (
  (F47 ((x2.2.2.1, x2.2.2.2), (rd (.int .u8) b.2 x2.2.1))).bind fun r3 =>
  bif r3.2.2 then (
  bif decide ((x2.1.length + 1) * 24 ≤ LIM) then
  rec2 ((x2.1 ++ ([r3.2.1])), (IntKind.wrap .i64 (x2.2.1 + 1)), (r3.1.1, r3.1.2))
  else none)
  else (
  rec2 (x2.1, (IntKind.wrap .i64 (x2.2.1 + 1)), (r3.1.1, r3.1.2))))
  else none)
  else (
  (both (
  (fun o => both o o) (
  bif (!x2.2.2.1.isEmpty || true) then
  bif decide ((([] : List Int).length + x2.2.2.1.length) * 1 ≤ LIM) then
  some ((([] : List Int) ++ x2.2.2.1, x2.2.2.2), x2.1, 0)
  else none
  else none)) (
  bif (!x2.2.2.1.isEmpty || true) then
  bif decide ((([] : List Int).length + x2.2.2.1.length) * 1 ≤ LIM) then
  some ((([] : List Int) ++ x2.2.2.1, x2.2.2.2), x2.1, 0)
  else none
  else none)))) (([] : List (List Int)), 0, (b.1.1, b.1.2))))
theorem ev21 (b : (List Int × Bool) × List Int) : evF C47 H21 Try.f21 (encs [.aggA (.pair (.slice 5 (.int .u8)) .bool), .oneA (.slice 5 (.int .u8))] b) (RT.dec (.tup [.agg [.fresh 5 (.int .u8), .bool], .leaf (.fresh 22 (.slice 5 (.int .u8))), .leaf (.int .i64)])) = F21 b := by kernel_rfl
noncomputable def C21 : Ctx := Ctx.addA C47 21 [.aggA (.pair (.slice 5 (.int .u8)) .bool), .oneA (.slice 5 (.int .u8))] (.tup [.agg [.fresh 5 (.int .u8), .bool], .leaf (.fresh 22 (.slice 5 (.int .u8))), .leaf (.int .i64)]) F21
theorem s21 : C21.Sound := Ctx.Sound.addA (C := C47) mixed s47 Try.func21 ev21
/-! damson/damsonref03.Wants -/
def H22 : Nat → Head
  | 5000007 => ⟨[], [0, 0, 1, 1, 2, 2, 4, 4, 0, 0, 16, 16, 32, 32, 72, 72, 255, 128, 511, 0]⟩
  | _ => ⟨[], []⟩
noncomputable def F22 (b : (List Int × Bool)) : Option (Int × Int) :=
 (F25 (b.1, b.2)).bind fun r1 =>
 bif (!decide (r1 = 0)) then (
 some (0, 1))
 else (
 bif b.2 then (
 some (0, 0))
 else (
 bif decide ((b.1.length : Int) < 2) then (
 some ((IntKind.wrap .i64 (2 - (b.1.length : Int))), 0))
 else (
 (both (
 (fun o => both o o) (
 (F48 b.1).bind fun r2 =>
 some ((IntKind.wrap .i64 ((IntKind.wrap .i64 (r2 + 2)) - (b.1.length : Int))), 0))) (
 (F48 b.1).bind fun r2 =>
 some ((IntKind.wrap .i64 ((IntKind.wrap .i64 (r2 + 2)) - (b.1.length : Int))), 0))))))
theorem ev22 (b : (List Int × Bool)) : evF C21 H22 Try.f22 (encs [.agg (.pair (.slice 5 (.int .u8)) .bool)] b) (RT.dec (.tup [.leaf (.int .i64), .leaf (.int .i64)])) = F22 b := by kernel_rfl
noncomputable def C22 : Ctx := Ctx.add C21 22 [.agg (.pair (.slice 5 (.int .u8)) .bool)] (.tup [.leaf (.int .i64), .leaf (.int .i64)]) F22
theorem s22 : C22.Sound := Ctx.Sound.add (C := C21) mixed s21 Try.func22 ev22
/-! damson/damsonref03.Same -/
def H24 : Nat → Head := fun _ => ⟨[], []⟩
noncomputable def F24 (b : (List Int × Bool) × (List Int × Bool)) : Option Bool :=
 bif ((b.1.2 == b.2.2) == true) then (
 (F23 (b.1.1, b.2.1)).bind fun r1 =>
 some r1)
 else (
 some false)
theorem ev24 (b : (List Int × Bool) × (List Int × Bool)) : evF C22 H24 Try.f24 (encs [.agg (.pair (.slice 5 (.int .u8)) .bool), .agg (.pair (.slice 5 (.int .u8)) .bool)] b) (RT.dec (.one (.leaf (.bool)))) = F24 b := by kernel_rfl
noncomputable def C24 : Ctx := Ctx.add C22 24 [.agg (.pair (.slice 5 (.int .u8)) .bool), .agg (.pair (.slice 5 (.int .u8)) .bool)] (.one (.leaf (.bool))) F24
theorem s24 : C24.Sound := Ctx.Sound.add (C := C22) mixed s22 Try.func24 ev24
/-! damson/damsonlaw03.FrameDoes -/
def H5 : Nat → Head
  | 15 => ⟨[.data 144 (.int .i64)], [323648, 323584, 270336, 249856]⟩
  | 18 => ⟨[.data 152 (.int .i64)], [323648, 323584, 270336, 249856]⟩
  | 24 => ⟨[.data 169 (.int .i64)], [323648, 323584, 270336, 249856]⟩
  | 1000000 => ⟨[], [3, 4]⟩
  | 1000009 => ⟨[], [13]⟩
  | 1000010 => ⟨[], [16]⟩
  | 5000013 => ⟨[], [0, 0, 0, 0, 3, 3, 4, 4, 8, 8, 8, 8, 56, 56, 72, 72, 136, 128, 256, 256, 256, 256, 1792, 1792, 2304, 2304, 6144, 4096, 8192, 8192, 8192, 8192, 57344, 57344, 73728, 73728, 196608, 131072, 262144, 262144, 262144, 262144, 1835008, 1835008, 2359296, 2359296, 4456448, 4194304, 8388608, 8388608, 8388608, 8388608, 58720256, 58720256, 75497472, 75497472, 142606336, 134217728, 268435456, 268435456, 268435456, 268435456, 1879048192, 1879048192, 2415919104, 2415919104, 4563402752, 4294967296, 8589934592, 8589934592, 25769803776, 25769803776, 8589934592, 8589934592, 111669149696, 77309411328, 180388626432, 180388626432, 283467841536, 283467841536, 687194767360, 549755813888, 1099511627776, 1099511627776, 1099511627776, 1099511627776, 7696581394432, 7696581394432, 1099511627776, 1099511627776, 1099511627776, 1099511627776, 62672162783232, 53876069761024, 80264348827648, 80264348827648, 141836999983104, 141836999983104, 562949953421311, 281474976710656]⟩
  | 7000015 => ⟨[], [1]⟩
  | 9000000 => ⟨[], [1]⟩
  | 4000000 => ⟨[], [1099511627848]⟩
  | _ => ⟨[], []⟩
noncomputable def F5 (b : (List Int × Bool) × (List Int × Bool) × List Int) : Option Bool :=
 (F12 ()).bind fun r1 =>
 bif (!r1) then (
 some false)
 else (
 bif ((bif decide (200 < (b.1.1.length : Int)) then true else decide (200 < (b.2.1.1.length : Int))) == false) then (
 bif (bif (bif decide (5000 < (b.2.2.length : Int)) then decide ((b.2.2.length : Int) ≤ 65535) else false) then true else decide (65540 < (b.2.2.length : Int))) then (
 some true)
 else (
 (F19 b.2.2).bind fun r2 =>
 (F20 b.2.2).bind fun r3 =>
 (F13 ((b.1.1, b.1.2), b.2.2)).bind fun r4 =>
 (F21 ((b.1.1, b.1.2), b.2.2)).bind fun r5 =>
 (F18 (b.1.1, b.1.2)).bind fun r6 =>
 (F22 (b.1.1, b.1.2)).bind fun r7 =>
 (F23 (r2.1, r3.1)).bind fun r8 =>
 bif ((bif r8 then decide (r2.2 = r3.2) else false) == true) then (
 (F24 ((r4.1.1, r4.1.2), (r5.1.1, r5.1.2))).bind fun r9 =>
 bif (r9 == true) then (
 (F17 (r4.2.1, r5.2.1)).bind fun r10 =>
 bif ((bif (bif (bif r10 then decide (r4.2.2 = r5.2.2) else false) then decide (r6.1 = r7.1) else false) then decide (r6.2 = r7.2) else false) == true) then (
 (F14 (b.1.1, b.1.2)).bind fun r11 =>
 (F25 (b.1.1, b.1.2)).bind fun r12 =>
 bif (decide (r11 = r12) == true) then (
 (F16 ((b.1.1, b.1.2), (b.2.1.1, b.2.1.2))).bind fun r13 =>
 (F24 ((b.1.1, b.1.2), (b.2.1.1, b.2.1.2))).bind fun r14 =>
 lfp (fun (rec15 : Int → Option Bool) (x15 : Int) =>
  bif decide (x15 < (r4.2.1.length : Int)) then (
  bif inb x15 r4.2.1.length then
  lfp (fun (rec16 : Int → Option Bool) (x16 : Int) =>
   bif decide (x16 < ((rd (.slice 5 (.int .u8)) r4.2.1 x15).length : Int)) then (
   bif inb x15 r4.2.1.length then
   bif inb x16 (rd (.slice 5 (.int .u8)) r4.2.1 x15).length then
   bif inb x16 (rd (.slice 5 (.int .u8)) r4.2.1 x15).length then
   rec16 (IntKind.wrap .i64 (x16 + 1))
   else none
   else none
   else none)
   else (
   rec15 (IntKind.wrap .i64 (x15 + 1)))) 0
  else none)
  else (
  lfp (fun (rec17 : Int → Option Bool) (x17 : Int) =>
   bif decide (x17 < (r4.1.1.length : Int)) then (
   bif inb x17 r4.1.1.length then
   bif inb x17 r4.1.1.length then
   rec17 (IntKind.wrap .i64 (x17 + 1))
   else none
   else none)
   else (
   bif ((r13 == r14) == true) then (
   bif (decide (b.2.2 = b.2.2) == true) then (
   some (decide (b.1.1 = b.1.1)))
   else (
   some false))
   else (
   some false))) 0)) 0)
 else (
 lfp (fun (rec18 : Int → Option Bool) (x18 : Int) =>
  bif decide (x18 < (r4.2.1.length : Int)) then (
  bif inb x18 r4.2.1.length then
  lfp (fun (rec19 : Int → Option Bool) (x19 : Int) =>
   bif decide (x19 < ((rd (.slice 5 (.int .u8)) r4.2.1 x18).length : Int)) then (
   bif inb x18 r4.2.1.length then
   bif inb x19 (rd (.slice 5 (.int .u8)) r4.2.1 x18).length then
   bif inb x19 (rd (.slice 5 (.int .u8)) r4.2.1 x18).length then
   rec19 (IntKind.wrap .i64 (x19 + 1))
   else none
   else none
   else none)
   else (
   rec18 (IntKind.wrap .i64 (x18 + 1)))) 0
  else none)
  else (
  lfp (fun (rec20 : Int → Option Bool) (x20 : Int) =>
   bif decide (x20 < (r4.1.1.length : Int)) then (
   bif inb x20 r4.1.1.length then
   bif inb x20 r4.1.1.length then
   rec20 (IntKind.wrap .i64 (x20 + 1))
   else none
   else none)
   else (
   some false)) 0)) 0))
 else (
 lfp (fun (rec21 : Int → Option Bool) (x21 : Int) =>
  bif decide (x21 < (r4.2.1.length : Int)) then (
  bif inb x21 r4.2.1.length then
  lfp (fun (rec22 : Int → Option Bool) (x22 : Int) =>
   bif decide (x22 < ((rd (.slice 5 (.int .u8)) r4.2.1 x21).length : Int)) then (
   bif inb x21 r4.2.1.length then
   bif inb x22 (rd (.slice 5 (.int .u8)) r4.2.1 x21).length then
   bif inb x22 (rd (.slice 5 (.int .u8)) r4.2.1 x21).length then
   rec22 (IntKind.wrap .i64 (x22 + 1))
   else none
   else none
   else none)
   else (
   rec21 (IntKind.wrap .i64 (x21 + 1)))) 0
  else none)
  else (
  lfp (fun (rec23 : Int → Option Bool) (x23 : Int) =>
   bif decide (x23 < (r4.1.1.length : Int)) then (
   bif inb x23 r4.1.1.length then
   bif inb x23 r4.1.1.length then
   rec23 (IntKind.wrap .i64 (x23 + 1))
   else none
   else none)
   else (
   some false)) 0)) 0))
 else (
 lfp (fun (rec24 : Int → Option Bool) (x24 : Int) =>
  bif decide (x24 < (r4.2.1.length : Int)) then (
  bif inb x24 r4.2.1.length then
  lfp (fun (rec25 : Int → Option Bool) (x25 : Int) =>
   bif decide (x25 < ((rd (.slice 5 (.int .u8)) r4.2.1 x24).length : Int)) then (
   bif inb x24 r4.2.1.length then
   bif inb x25 (rd (.slice 5 (.int .u8)) r4.2.1 x24).length then
   bif inb x25 (rd (.slice 5 (.int .u8)) r4.2.1 x24).length then
   rec25 (IntKind.wrap .i64 (x25 + 1))
   else none
   else none
   else none)
   else (
   rec24 (IntKind.wrap .i64 (x24 + 1)))) 0
  else none)
  else (
  lfp (fun (rec26 : Int → Option Bool) (x26 : Int) =>
   bif decide (x26 < (r4.1.1.length : Int)) then (
   bif inb x26 r4.1.1.length then
   bif inb x26 r4.1.1.length then
   rec26 (IntKind.wrap .i64 (x26 + 1))
   else none
   else none)
   else (
   some false)) 0)) 0))
 else (
 lfp (fun (rec27 : Int → Option Bool) (x27 : Int) =>
  bif decide (x27 < (r4.2.1.length : Int)) then (
  bif inb x27 r4.2.1.length then
  lfp (fun (rec28 : Int → Option Bool) (x28 : Int) =>
   bif decide (x28 < ((rd (.slice 5 (.int .u8)) r4.2.1 x27).length : Int)) then (
   bif inb x27 r4.2.1.length then
   bif inb x28 (rd (.slice 5 (.int .u8)) r4.2.1 x27).length then
   bif inb x28 (rd (.slice 5 (.int .u8)) r4.2.1 x27).length then
   rec28 (IntKind.wrap .i64 (x28 + 1))
   else none
   else none
   else none)
   else (
   rec27 (IntKind.wrap .i64 (x27 + 1)))) 0
  else none)
  else (
  lfp (fun (rec29 : Int → Option Bool) (x29 : Int) =>
   bif decide (x29 < (r4.1.1.length : Int)) then (
   bif inb x29 r4.1.1.length then
   bif inb x29 r4.1.1.length then
   rec29 (IntKind.wrap .i64 (x29 + 1))
   else none
   else none)
   else (
   some false)) 0)) 0)))
 else (
 some true))
theorem ev5 (b : (List Int × Bool) × (List Int × Bool) × List Int) : evF C24 H5 Try.f5 (encs [.agg (.pair (.slice 5 (.int .u8)) .bool), .agg (.pair (.slice 5 (.int .u8)) .bool), .one (.slice 5 (.int .u8))] b) (RT.dec (.one (.leaf (.bool)))) = F5 b := by kernel_rfl
noncomputable def C5 : Ctx := Ctx.add C24 5 [.agg (.pair (.slice 5 (.int .u8)) .bool), .agg (.pair (.slice 5 (.int .u8)) .bool), .one (.slice 5 (.int .u8))] (.one (.leaf (.bool))) F5
theorem s5 : C5.Sound := Ctx.Sound.add (C := C24) mixed s24 Try.func5 ev5
/-! slices.EqualFunc[[][]byte,[][]byte,[]byte,[]byte] -/
def H54046 : Nat → Head
  | 4 => ⟨[.data 6 .bool, .data 17 (.int .i64)], []⟩
  | _ => ⟨[], []⟩
noncomputable def F54046 (b : List (List Int) × List (List Int) × Unit) : Option Bool :=
 bif (!decide ((b.1.length : Int) = (b.2.1.length : Int))) then (
 some false)
 else (
 lfp (fun (rec1 : (Bool × Int) → Option Bool) (x1 : Bool × Int) =>
  bif decide (x1.2 < (b.1.length : Int)) then (
  bif inb x1.2 b.1.length then
  bif inb x1.2 b.2.1.length then
  (F46 ((rd (.slice 5 (.int .u8)) b.1 x1.2), (rd (.slice 5 (.int .u8)) b.2.1 x1.2))).bind fun r2 =>
  bif (!r2) then (
  some false)
  else (
  rec1 (x1.1, (IntKind.wrap .i64 (x1.2 + 1))))
  else none
  else none)
  else (
  some true)) (false, 0))
theorem ev54046 (b : List (List Int) × List (List Int) × Unit) : evF C5 H54046 Try.f54 (encs [.one (.slice 22 (.slice 5 (.int .u8))), .one (.slice 22 (.slice 5 (.int .u8))), .fn 46] b) (RT.dec (.one (.leaf (.bool)))) = F54046 b := by kernel_rfl
noncomputable def C54046 : Ctx := Ctx.add C5 54 [.one (.slice 22 (.slice 5 (.int .u8))), .one (.slice 22 (.slice 5 (.int .u8))), .fn 46] (.one (.leaf (.bool))) F54046
theorem s54046 : C54046.Sound := Ctx.Sound.add (C := C5) mixed s5 Try.func54 ev54046
/-! damson/session.Same -/
def H42 : Nat → Head := fun _ => ⟨[], []⟩
noncomputable def F42 (b : (Bool × (List Int × (Bool × (List (List Int) × List Int)))) × (Bool × (List Int × (Bool × (List (List Int) × List Int))))) : Option Bool :=
 bif ((b.1.1 == b.2.1) == true) then (
 (F16 ((b.1.2.1, b.1.2.2.1), (b.2.2.1, b.2.2.2.1))).bind fun r1 =>
 bif (r1 == true) then (
 (F54046 (b.1.2.2.2.1, b.2.2.2.2.1, ())).bind fun r2 =>
 bif (r2 == true) then (
 (F46 (b.1.2.2.2.2, b.2.2.2.2.2)).bind fun r3 =>
 some r3)
 else (
 some false))
 else (
 some false))
 else (
 some false)
theorem ev42 (b : (Bool × (List Int × (Bool × (List (List Int) × List Int)))) × (Bool × (List Int × (Bool × (List (List Int) × List Int))))) : evF C54046 H42 Try.f42 (encs [.agg (.pair .bool (.pair (.slice 5 (.int .u8)) (.pair .bool (.pair (.slice 22 (.slice 5 (.int .u8))) (.slice 5 (.int .u8)))))), .agg (.pair .bool (.pair (.slice 5 (.int .u8)) (.pair .bool (.pair (.slice 22 (.slice 5 (.int .u8))) (.slice 5 (.int .u8))))))] b) (RT.dec (.one (.leaf (.bool)))) = F42 b := by kernel_rfl
noncomputable def C42 : Ctx := Ctx.add C54046 42 [.agg (.pair .bool (.pair (.slice 5 (.int .u8)) (.pair .bool (.pair (.slice 22 (.slice 5 (.int .u8))) (.slice 5 (.int .u8)))))), .agg (.pair .bool (.pair (.slice 5 (.int .u8)) (.pair .bool (.pair (.slice 22 (.slice 5 (.int .u8))) (.slice 5 (.int .u8))))))] (.one (.leaf (.bool))) F42
theorem s42 : C42.Sound := Ctx.Sound.add (C := C54046) mixed s54046 Try.func42 ev42
/-! slices.IndexFunc[[][]byte,[]byte] -/
def H58052 : Nat → Head
  | 2 => ⟨[.data 4 (.int .i64), .data 8 (.int .i64)], []⟩
  | _ => ⟨[], []⟩
noncomputable def F58052 (b : List (List Int) × Unit) : Option Int :=
 lfp (fun (rec1 : (Int × Int) → Option Int) (x1 : Int × Int) =>
  bif decide (x1.2 < (b.1.length : Int)) then (
  bif inb x1.2 b.1.length then
  (F52 (rd (.slice 5 (.int .u8)) b.1 x1.2)).bind fun r2 =>
  bif r2 then (
  some x1.2)
  else (
  rec1 (x1.1, (IntKind.wrap .i64 (x1.2 + 1))))
  else none)
  else (
  some (-1))) (0, 0)
theorem ev58052 (b : List (List Int) × Unit) : evF C42 H58052 Try.f58 (encs [.one (.slice 22 (.slice 5 (.int .u8))), .fn 52] b) (RT.dec (.one (.leaf (.int .i64)))) = F58052 b := by kernel_rfl
noncomputable def C58052 : Ctx := Ctx.add C42 58 [.one (.slice 22 (.slice 5 (.int .u8))), .fn 52] (.one (.leaf (.int .i64))) F58052
theorem s58052 : C58052.Sound := Ctx.Sound.add (C := C42) mixed s42 Try.func58 ev58052
/-! slices.ContainsFunc[[][]byte,[]byte] -/
def H53052 : Nat → Head := fun _ => ⟨[], []⟩
noncomputable def F53052 (b : List (List Int) × Unit) : Option Bool :=
 (F58052 (b.1, ())).bind fun r1 =>
 some (decide (0 ≤ r1))
theorem ev53052 (b : List (List Int) × Unit) : evF C58052 H53052 Try.f53 (encs [.one (.slice 22 (.slice 5 (.int .u8))), .fn 52] b) (RT.dec (.one (.leaf (.bool)))) = F53052 b := by kernel_rfl
noncomputable def C53052 : Ctx := Ctx.add C58052 53 [.one (.slice 22 (.slice 5 (.int .u8))), .fn 52] (.one (.leaf (.bool))) F53052
theorem s53052 : C53052.Sound := Ctx.Sound.add (C := C58052) mixed s58052 Try.func53 ev53052
/-! damson/session.Check -/
def H39 : Nat → Head := fun _ => ⟨[], []⟩
noncomputable def F39 (b : (Bool × (List Int × (Bool × (List (List Int) × List Int))))) : Option Int :=
 bif ((!b.1) == true) then (
 (F42 ((b.1, (b.2.1, (b.2.2.1, (b.2.2.2.1, b.2.2.2.2)))), (false, ([], (false, ([], [])))))).bind fun r1 =>
 bif (!r1) then (
 bif (!r1) then (
 some 1)
 else (
 (F14 (b.2.1, b.2.2.1)).bind fun r2 =>
 some r2))
 else (
 bif decide (8 < (b.2.2.2.1.length : Int)) then (
 bif decide (8 < (b.2.2.2.1.length : Int)) then (
 some 1)
 else (
 (F14 (b.2.1, b.2.2.1)).bind fun r3 =>
 some r3))
 else (
 bif decide (16384 < (b.2.2.2.2.length : Int)) then (
 bif decide (16384 < (b.2.2.2.2.length : Int)) then (
 some 1)
 else (
 (F14 (b.2.1, b.2.2.1)).bind fun r4 =>
 some r4))
 else (
 (F53052 (b.2.2.2.1, ())).bind fun r5 =>
 bif r5 then (
 some 1)
 else (
 (F14 (b.2.1, b.2.2.1)).bind fun r6 =>
 some r6)))))
 else (
 bif decide (8 < (b.2.2.2.1.length : Int)) then (
 bif decide (8 < (b.2.2.2.1.length : Int)) then (
 some 1)
 else (
 (F14 (b.2.1, b.2.2.1)).bind fun r7 =>
 some r7))
 else (
 bif decide (16384 < (b.2.2.2.2.length : Int)) then (
 bif decide (16384 < (b.2.2.2.2.length : Int)) then (
 some 1)
 else (
 (F14 (b.2.1, b.2.2.1)).bind fun r8 =>
 some r8))
 else (
 (F53052 (b.2.2.2.1, ())).bind fun r9 =>
 bif r9 then (
 some 1)
 else (
 (F14 (b.2.1, b.2.2.1)).bind fun r10 =>
 some r10))))
theorem ev39 (b : (Bool × (List Int × (Bool × (List (List Int) × List Int))))) : evF C53052 H39 Try.f39 (encs [.agg (.pair .bool (.pair (.slice 5 (.int .u8)) (.pair .bool (.pair (.slice 22 (.slice 5 (.int .u8))) (.slice 5 (.int .u8))))))] b) (RT.dec (.one (.leaf (.int .i64)))) = F39 b := by kernel_rfl
noncomputable def C39 : Ctx := Ctx.add C53052 39 [.agg (.pair .bool (.pair (.slice 5 (.int .u8)) (.pair .bool (.pair (.slice 22 (.slice 5 (.int .u8))) (.slice 5 (.int .u8))))))] (.one (.leaf (.int .i64))) F39
theorem s39 : C39.Sound := Ctx.Sound.add (C := C53052) mixed s53052 Try.func39 ev39
/-! damson/session.ready -/
def H49 : Nat → Head := fun _ => ⟨[], []⟩
noncomputable def F49 (b : (Bool × (List Int × (Bool × (List (List Int) × List Int))))) : Option Int :=
 (F39 (b.1, (b.2.1, (b.2.2.1, (b.2.2.2.1, b.2.2.2.2))))).bind fun r1 =>
 bif (bif (!decide (r1 = 0)) then true else b.1) then (
 some r1)
 else (
 some 14)
theorem ev49 (b : (Bool × (List Int × (Bool × (List (List Int) × List Int))))) : evF C39 H49 Try.f49 (encs [.agg (.pair .bool (.pair (.slice 5 (.int .u8)) (.pair .bool (.pair (.slice 22 (.slice 5 (.int .u8))) (.slice 5 (.int .u8))))))] b) (RT.dec (.one (.leaf (.int .i64)))) = F49 b := by kernel_rfl
noncomputable def C49 : Ctx := Ctx.add C39 49 [.agg (.pair .bool (.pair (.slice 5 (.int .u8)) (.pair .bool (.pair (.slice 22 (.slice 5 (.int .u8))) (.slice 5 (.int .u8))))))] (.one (.leaf (.int .i64))) F49
theorem s49 : C49.Sound := Ctx.Sound.add (C := C39) mixed s39 Try.func49 ev49
/-! damson/session.Up -/
def H29 : Nat → Head := fun _ => ⟨[], []⟩
noncomputable def F29 (b : (Bool × (List Int × (Bool × (List (List Int) × List Int))))) : Option ((Bool × List Int × Bool × List (List Int) × List Int) × Int) :=
 (F49 (b.1, (b.2.1, (b.2.2.1, (b.2.2.2.1, b.2.2.2.2))))).bind fun r1 =>
 bif decide (r1 = 14) then (
 some ((true, ([] : List Int), false, ([] : List (List Int)), ([] : List Int)), 0))
 else (
 bif decide (r1 = 0) then (
 some ((false, ([] : List Int), false, ([] : List (List Int)), ([] : List Int)), 10))
 else (
 some ((false, ([] : List Int), false, ([] : List (List Int)), ([] : List Int)), r1)))
theorem ev29 (b : (Bool × (List Int × (Bool × (List (List Int) × List Int))))) : evF C49 H29 Try.f29 (encs [.aggA (.pair .bool (.pair (.slice 5 (.int .u8)) (.pair .bool (.pair (.slice 22 (.slice 5 (.int .u8))) (.slice 5 (.int .u8))))))] b) (RT.dec (.tup [.agg [.bool, .fresh 5 (.int .u8), .bool, .fresh 22 (.slice 5 (.int .u8)), .fresh 5 (.int .u8)], .leaf (.int .i64)])) = F29 b := by kernel_rfl
noncomputable def C29 : Ctx := Ctx.addA C49 29 [.aggA (.pair .bool (.pair (.slice 5 (.int .u8)) (.pair .bool (.pair (.slice 22 (.slice 5 (.int .u8))) (.slice 5 (.int .u8))))))] (.tup [.agg [.bool, .fresh 5 (.int .u8), .bool, .fresh 22 (.slice 5 (.int .u8)), .fresh 5 (.int .u8)], .leaf (.int .i64)]) F29
theorem s29 : C29.Sound := Ctx.Sound.addA (C := C49) mixed s49 Try.func29 ev29
/-! slices.Clone[[][]byte,[]byte] -/
def H57 : Nat → Head := fun _ => ⟨[], []⟩
noncomputable def F57 (b : List (List Int)) : Option (List (List Int)) :=
 bif b.isEmpty then (
 (both (
 some ([] : List (List Int))) (
 bif decide ((([] : List (List Int)).length + b.length) * 24 ≤ LIM) then
 some (([] : List (List Int)) ++ b)
 else none)))
 else (
 bif decide ((([] : List (List Int)).length + b.length) * 24 ≤ LIM) then
 some (([] : List (List Int)) ++ b)
 else none)
theorem ev57 (b : List (List Int)) : evF C29 H57 Try.f57 (encs [.one (.slice 22 (.slice 5 (.int .u8)))] b) (RT.dec (.one (.leaf (.fresh 22 (.slice 5 (.int .u8)))))) = F57 b := by kernel_rfl
noncomputable def C57 : Ctx := Ctx.add C29 57 [.one (.slice 22 (.slice 5 (.int .u8)))] (.one (.leaf (.fresh 22 (.slice 5 (.int .u8))))) F57
theorem s57 : C57.Sound := Ctx.Sound.add (C := C29) mixed s29 Try.func57 ev57
/-! damson/session.own -/
def H51 : Nat → Head
  | 3 => ⟨[.data 22 (.int .i64), .mrowk 45056 22 (.slice 5 (.int .u8))], [57344, 32768, 8192, 4096]⟩
  | 5000001 => ⟨[], [0, 0, 1, 1, 2, 2, 4, 4, 0, 0, 16, 16, 40, 32, 0, 0, 128, 128, 320, 256, 447, 0, 1471, 1024, 3007, 2056, 7679, 0, 15871, 8256, 32767, 0, 65535, 33280]⟩
  | 5000005 => ⟨[], [0, 0, 1, 1, 0, 0, 0, 0, 8, 8, 31, 6, 63, 48]⟩
  | 6000003 => ⟨[], [45056]⟩
  | _ => ⟨[], []⟩
noncomputable def F51 (b : (Bool × (List Int × (Bool × (List (List Int) × List Int))))) : Option (Bool × List Int × Bool × List (List Int) × List Int) :=
 (both (
 (both (
 (F45 b.2.1).bind fun r1 =>
 (both (
 (fun o => both o o) (
 (F57 b.2.2.2.1).bind fun r2 =>
 (F45 b.2.2.2.2).bind fun r3 =>
 lfp (fun (rec4 : (Int × (List (List Int) × Nat)) → Option (Bool × List Int × Bool × List (List Int) × List Int)) (x4 : Int × (List (List Int) × Nat)) =>
  bif decide (x4.1 < (r2.length : Int)) then (
  bif inb x4.1 x4.2.1.length then
  (fun o => both o o) (
  (F45 (rd (.slice 5 (.int .u8)) x4.2.1 x4.1)).bind fun r5 =>
  bif inb x4.1 x4.2.1.length then
  bif decide (x4.1.toNat = x4.2.2) then
  rec4 ((IntKind.wrap .i64 (x4.1 + 1)), ((x4.2.1.set x4.1.toNat r5), x4.2.2 + 1))
  else none
  else none)
  else none)
  else (
  bif decide (x4.2.1.length ≤ x4.2.2) then
  some (b.1, r1, b.2.2.1, x4.2.1, r3)
  else none)) (0, (r2, 0)))) (
 (F57 b.2.2.2.1).bind fun r2 =>
 (F45 b.2.2.2.2).bind fun r3 =>
 lfp (fun (rec4 : (Int × (List (List Int) × Nat)) → Option (Bool × List Int × Bool × List (List Int) × List Int)) (x4 : Int × (List (List Int) × Nat)) =>
  bif decide (x4.1 < (r2.length : Int)) then (
  bif inb x4.1 x4.2.1.length then
  (fun o => both o o) (
  (F45 (rd (.slice 5 (.int .u8)) x4.2.1 x4.1)).bind fun r5 =>
  bif inb x4.1 x4.2.1.length then
  bif decide (x4.1.toNat = x4.2.2) then
  rec4 ((IntKind.wrap .i64 (x4.1 + 1)), ((x4.2.1.set x4.1.toNat r5), x4.2.2 + 1))
  else none
  else none)
  else none)
  else (
  bif decide (x4.2.1.length ≤ x4.2.2) then
  some (b.1, r1, b.2.2.1, x4.2.1, r3)
  else none)) (0, (r2, 0))))) (both (
 (both (
 (F45 b.2.1).bind fun r1 =>
 (fun o => both o o) (
 (F57 b.2.2.2.1).bind fun r2 =>
 (F45 b.2.2.2.2).bind fun r3 =>
 lfp (fun (rec4 : (Int × (List (List Int) × Nat)) → Option (Bool × List Int × Bool × List (List Int) × List Int)) (x4 : Int × (List (List Int) × Nat)) =>
  bif decide (x4.1 < (r2.length : Int)) then (
  bif inb x4.1 x4.2.1.length then
  (fun o => both o o) (
  (F45 (rd (.slice 5 (.int .u8)) x4.2.1 x4.1)).bind fun r5 =>
  bif inb x4.1 x4.2.1.length then
  bif decide (x4.1.toNat = x4.2.2) then
  rec4 ((IntKind.wrap .i64 (x4.1 + 1)), ((x4.2.1.set x4.1.toNat r5), x4.2.2 + 1))
  else none
  else none)
  else none)
  else (
  bif decide (x4.2.1.length ≤ x4.2.2) then
  some (b.1, r1, b.2.2.1, x4.2.1, r3)
  else none)) (0, (r2, 0)))) (
 (F45 b.2.1).bind fun r1 =>
 (F57 b.2.2.2.1).bind fun r2 =>
 (F45 b.2.2.2.2).bind fun r3 =>
 lfp (fun (rec4 : (Int × (List (List Int) × Nat)) → Option (Bool × List Int × Bool × List (List Int) × List Int)) (x4 : Int × (List (List Int) × Nat)) =>
  bif decide (x4.1 < (r2.length : Int)) then (
  bif inb x4.1 x4.2.1.length then
  (fun o => both o o) (
  (F45 (rd (.slice 5 (.int .u8)) x4.2.1 x4.1)).bind fun r5 =>
  bif inb x4.1 x4.2.1.length then
  bif decide (x4.1.toNat = x4.2.2) then
  rec4 ((IntKind.wrap .i64 (x4.1 + 1)), ((x4.2.1.set x4.1.toNat r5), x4.2.2 + 1))
  else none
  else none)
  else none)
  else (
  bif decide (x4.2.1.length ≤ x4.2.2) then
  some (b.1, r1, b.2.2.1, x4.2.1, r3)
  else none)) (0, (r2, 0))))) (
 (fun o => both o o) (
 (F45 b.2.1).bind fun r1 =>
 (F57 b.2.2.2.1).bind fun r2 =>
 (F45 b.2.2.2.2).bind fun r3 =>
 lfp (fun (rec4 : (Int × (List (List Int) × Nat)) → Option (Bool × List Int × Bool × List (List Int) × List Int)) (x4 : Int × (List (List Int) × Nat)) =>
  bif decide (x4.1 < (r2.length : Int)) then (
  bif inb x4.1 x4.2.1.length then
  (fun o => both o o) (
  (F45 (rd (.slice 5 (.int .u8)) x4.2.1 x4.1)).bind fun r5 =>
  bif inb x4.1 x4.2.1.length then
  bif decide (x4.1.toNat = x4.2.2) then
  rec4 ((IntKind.wrap .i64 (x4.1 + 1)), ((x4.2.1.set x4.1.toNat r5), x4.2.2 + 1))
  else none
  else none)
  else none)
  else (
  bif decide (x4.2.1.length ≤ x4.2.2) then
  some (b.1, r1, b.2.2.1, x4.2.1, r3)
  else none)) (0, (r2, 0))))))) (both (
 (both (
 (both (
 (F45 b.2.1).bind fun r1 =>
 (fun o => both o o) (
 (F57 b.2.2.2.1).bind fun r2 =>
 (F45 b.2.2.2.2).bind fun r3 =>
 lfp (fun (rec4 : (Int × (List (List Int) × Nat)) → Option (Bool × List Int × Bool × List (List Int) × List Int)) (x4 : Int × (List (List Int) × Nat)) =>
  bif decide (x4.1 < (r2.length : Int)) then (
  bif inb x4.1 x4.2.1.length then
  (fun o => both o o) (
  (F45 (rd (.slice 5 (.int .u8)) x4.2.1 x4.1)).bind fun r5 =>
  bif inb x4.1 x4.2.1.length then
  bif decide (x4.1.toNat = x4.2.2) then
  rec4 ((IntKind.wrap .i64 (x4.1 + 1)), ((x4.2.1.set x4.1.toNat r5), x4.2.2 + 1))
  else none
  else none)
  else none)
  else (
  bif decide (x4.2.1.length ≤ x4.2.2) then
  some (b.1, r1, b.2.2.1, x4.2.1, r3)
  else none)) (0, (r2, 0)))) (
 (F45 b.2.1).bind fun r1 =>
 (F57 b.2.2.2.1).bind fun r2 =>
 (F45 b.2.2.2.2).bind fun r3 =>
 lfp (fun (rec4 : (Int × (List (List Int) × Nat)) → Option (Bool × List Int × Bool × List (List Int) × List Int)) (x4 : Int × (List (List Int) × Nat)) =>
  bif decide (x4.1 < (r2.length : Int)) then (
  bif inb x4.1 x4.2.1.length then
  (fun o => both o o) (
  (F45 (rd (.slice 5 (.int .u8)) x4.2.1 x4.1)).bind fun r5 =>
  bif inb x4.1 x4.2.1.length then
  bif decide (x4.1.toNat = x4.2.2) then
  rec4 ((IntKind.wrap .i64 (x4.1 + 1)), ((x4.2.1.set x4.1.toNat r5), x4.2.2 + 1))
  else none
  else none)
  else none)
  else (
  bif decide (x4.2.1.length ≤ x4.2.2) then
  some (b.1, r1, b.2.2.1, x4.2.1, r3)
  else none)) (0, (r2, 0))))) (
 (F45 b.2.1).bind fun r1 =>
 (F57 b.2.2.2.1).bind fun r2 =>
 (F45 b.2.2.2.2).bind fun r3 =>
 lfp (fun (rec4 : (Int × (List (List Int) × Nat)) → Option (Bool × List Int × Bool × List (List Int) × List Int)) (x4 : Int × (List (List Int) × Nat)) =>
  bif decide (x4.1 < (r2.length : Int)) then (
  bif inb x4.1 x4.2.1.length then
  (fun o => both o o) (
  (F45 (rd (.slice 5 (.int .u8)) x4.2.1 x4.1)).bind fun r5 =>
  bif inb x4.1 x4.2.1.length then
  bif decide (x4.1.toNat = x4.2.2) then
  rec4 ((IntKind.wrap .i64 (x4.1 + 1)), ((x4.2.1.set x4.1.toNat r5), x4.2.2 + 1))
  else none
  else none)
  else none)
  else (
  bif decide (x4.2.1.length ≤ x4.2.2) then
  some (b.1, r1, b.2.2.1, x4.2.1, r3)
  else none)) (0, (r2, 0))))) (
 (both (
 (fun o => both o o) (
 (F45 b.2.1).bind fun r1 =>
 (F57 b.2.2.2.1).bind fun r2 =>
 (F45 b.2.2.2.2).bind fun r3 =>
 lfp (fun (rec4 : (Int × (List (List Int) × Nat)) → Option (Bool × List Int × Bool × List (List Int) × List Int)) (x4 : Int × (List (List Int) × Nat)) =>
  bif decide (x4.1 < (r2.length : Int)) then (
  bif inb x4.1 x4.2.1.length then
  (fun o => both o o) (
  (F45 (rd (.slice 5 (.int .u8)) x4.2.1 x4.1)).bind fun r5 =>
  bif inb x4.1 x4.2.1.length then
  bif decide (x4.1.toNat = x4.2.2) then
  rec4 ((IntKind.wrap .i64 (x4.1 + 1)), ((x4.2.1.set x4.1.toNat r5), x4.2.2 + 1))
  else none
  else none)
  else none)
  else (
  bif decide (x4.2.1.length ≤ x4.2.2) then
  some (b.1, r1, b.2.2.1, x4.2.1, r3)
  else none)) (0, (r2, 0)))) (
 (F45 b.2.1).bind fun r1 =>
 (F57 b.2.2.2.1).bind fun r2 =>
 (F45 b.2.2.2.2).bind fun r3 =>
 lfp (fun (rec4 : (Int × (List (List Int) × Nat)) → Option (Bool × List Int × Bool × List (List Int) × List Int)) (x4 : Int × (List (List Int) × Nat)) =>
  bif decide (x4.1 < (r2.length : Int)) then (
  bif inb x4.1 x4.2.1.length then
  (fun o => both o o) (
  (F45 (rd (.slice 5 (.int .u8)) x4.2.1 x4.1)).bind fun r5 =>
  bif inb x4.1 x4.2.1.length then
  bif decide (x4.1.toNat = x4.2.2) then
  rec4 ((IntKind.wrap .i64 (x4.1 + 1)), ((x4.2.1.set x4.1.toNat r5), x4.2.2 + 1))
  else none
  else none)
  else none)
  else (
  bif decide (x4.2.1.length ≤ x4.2.2) then
  some (b.1, r1, b.2.2.1, x4.2.1, r3)
  else none)) (0, (r2, 0)))))))
theorem ev51 (b : (Bool × (List Int × (Bool × (List (List Int) × List Int))))) : evF C57 H51 Try.f51 (encs [.aggA (.pair .bool (.pair (.slice 5 (.int .u8)) (.pair .bool (.pair (.slice 22 (.slice 5 (.int .u8))) (.slice 5 (.int .u8))))))] b) (RT.dec (.one (.agg [.bool, .fresh 5 (.int .u8), .bool, .fresh 22 (.slice 5 (.int .u8)), .fresh 5 (.int .u8)]))) = F51 b := by kernel_rfl
noncomputable def C51 : Ctx := Ctx.addA C57 51 [.aggA (.pair .bool (.pair (.slice 5 (.int .u8)) (.pair .bool (.pair (.slice 22 (.slice 5 (.int .u8))) (.slice 5 (.int .u8))))))] (.one (.agg [.bool, .fresh 5 (.int .u8), .bool, .fresh 22 (.slice 5 (.int .u8)), .fresh 5 (.int .u8)])) F51
theorem s51 : C51.Sound := Ctx.Sound.addA (C := C57) mixed s57 Try.func51 ev51
/-! damson/session.Hear -/
def H33 : Nat → Head
  | 5000010 => ⟨[], [0, 0, 0, 0, 2, 2, 0, 0, 12, 12, 7, 0, 55, 33, 127, 0, 255, 144]⟩
  | _ => ⟨[], []⟩
noncomputable def F33 (b : (Bool × (List Int × (Bool × (List (List Int) × List Int)))) × List Int) : Option ((Bool × List Int × Bool × List (List Int) × List Int) × Int × Int) :=
 (F49 (b.1.1, (b.1.2.1, (b.1.2.2.1, (b.1.2.2.2.1, b.1.2.2.2.2))))).bind fun r1 =>
 bif (!decide (r1 = 0)) then (
 some ((false, ([] : List Int), false, ([] : List (List Int)), ([] : List Int)), 0, r1))
 else (
 (F13 ((b.1.2.1, b.1.2.2.1), b.2)).bind fun r2 =>
 bif (!decide (r2.2.2 = 0)) then (
 some ((false, ([] : List Int), false, ([] : List (List Int)), ([] : List Int)), 0, r2.2.2))
 else (
 bif decide (8 < (IntKind.wrap .i64 ((b.1.2.2.2.1.length : Int) + (r2.2.1.length : Int)))) then (
 some ((false, ([] : List Int), false, ([] : List (List Int)), ([] : List Int)), 0, 7))
 else (
 (F51 (b.1.1, (b.1.2.1, (b.1.2.2.1, (b.1.2.2.2.1, b.1.2.2.2.2))))).bind fun r3 =>
 (both (
 bif decide ((r3.2.2.2.1.length + r2.2.1.length) * 24 ≤ LIM) then
 some ((r3.1, r2.1.1, r2.1.2, r3.2.2.2.1 ++ r2.2.1, r3.2.2.2.2), (r2.2.1.length : Int), 0)
 else none) (
 (fun o => both o o) (
 bif decide ((r3.2.2.2.1.length + r2.2.1.length) * 24 ≤ LIM) then
 some ((r3.1, r2.1.1, r2.1.2, r3.2.2.2.1 ++ r2.2.1, r3.2.2.2.2), (r2.2.1.length : Int), 0)
 else none))))))
theorem ev33 (b : (Bool × (List Int × (Bool × (List (List Int) × List Int)))) × List Int) : evF C51 H33 Try.f33 (encs [.aggA (.pair .bool (.pair (.slice 5 (.int .u8)) (.pair .bool (.pair (.slice 22 (.slice 5 (.int .u8))) (.slice 5 (.int .u8)))))), .oneA (.slice 5 (.int .u8))] b) (RT.dec (.tup [.agg [.bool, .sl 5 (.int .u8), .bool, .fresh 22 (.slice 5 (.int .u8)), .fresh 5 (.int .u8)], .leaf (.int .i64), .leaf (.int .i64)])) = F33 b := by kernel_rfl
noncomputable def C33 : Ctx := Ctx.addA C51 33 [.aggA (.pair .bool (.pair (.slice 5 (.int .u8)) (.pair .bool (.pair (.slice 22 (.slice 5 (.int .u8))) (.slice 5 (.int .u8)))))), .oneA (.slice 5 (.int .u8))] (.tup [.agg [.bool, .sl 5 (.int .u8), .bool, .fresh 22 (.slice 5 (.int .u8)), .fresh 5 (.int .u8)], .leaf (.int .i64), .leaf (.int .i64)]) F33
theorem s33 : C33.Sound := Ctx.Sound.addA (C := C51) mixed s51 Try.func33 ev33
/-! damson/damsonlaw22.live -/
def H26 : Nat → Head
  | 5000002 => ⟨[], [0, 0, 0, 0, 3, 3, 4, 4, 8, 8, 8, 8, 8, 8, 0, 0, 159, 144, 447, 32, 1023, 64]⟩
  | 5000003 => ⟨[], [0, 0, 0, 0, 3, 3, 4, 4, 8, 8, 8, 8, 8, 8, 0, 0, 159, 144, 447, 32, 1023, 64]⟩
  | _ => ⟨[], []⟩
noncomputable def F26 (b : Unit) : Option Bool :=
 (F29 (false, ([], (false, ([], []))))).bind fun r1 =>
 (both (
 (both (
 bif (decide (0 ≤ 18) && decide (18 = 18) && decide ((18 : Int).toNat * 1 ≤ LIM)) then
 (fun o => both o o) (
 (F33 ((r1.1.1, (r1.1.2.1, (r1.1.2.2.1, (r1.1.2.2.2.1, r1.1.2.2.2.2)))), (List.replicate ((18 : Int).toNat) 0 : List Int))).bind fun r2 =>
 (both (
 (both (
 bif (decide (0 ≤ 16) && decide (16 = 16) && decide ((16 : Int).toNat * 1 ≤ LIM)) then
 (fun o => both o o) (
 (F33 ((r1.1.1, (r1.1.2.1, (r1.1.2.2.1, (r1.1.2.2.2.1, r1.1.2.2.2.2)))), (List.replicate ((16 : Int).toNat) 0 : List Int))).bind fun r3 =>
 some (bif (bif (bif (bif decide (r1.2 = 0) then decide (r2.2.2 = 7) else false) then decide (r3.2.2 = 0) else false) then decide (r3.2.1 = 8) else false) then decide ((r3.1.2.2.2.1.length : Int) = 8) else false))
 else none) (
 bif (decide (0 ≤ 16) && decide (16 = 16) && decide ((16 : Int).toNat * 1 ≤ LIM)) then
 (F33 ((r1.1.1, (r1.1.2.1, (r1.1.2.2.1, (r1.1.2.2.2.1, r1.1.2.2.2.2)))), (List.replicate ((16 : Int).toNat) 0 : List Int))).bind fun r3 =>
 some (bif (bif (bif (bif decide (r1.2 = 0) then decide (r2.2.2 = 7) else false) then decide (r3.2.2 = 0) else false) then decide (r3.2.1 = 8) else false) then decide ((r3.1.2.2.2.1.length : Int) = 8) else false)
 else none))) (both (
 bif (decide (0 ≤ 16) && decide (16 = 16) && decide ((16 : Int).toNat * 1 ≤ LIM)) then
 (both (
 (fun o => both o o) (
 (F33 ((r1.1.1, (r1.1.2.1, (r1.1.2.2.1, (r1.1.2.2.2.1, r1.1.2.2.2.2)))), (List.replicate ((16 : Int).toNat) 0 : List Int))).bind fun r3 =>
 some (bif (bif (bif (bif decide (r1.2 = 0) then decide (r2.2.2 = 7) else false) then decide (r3.2.2 = 0) else false) then decide (r3.2.1 = 8) else false) then decide ((r3.1.2.2.2.1.length : Int) = 8) else false))) (
 (F33 ((r1.1.1, (r1.1.2.1, (r1.1.2.2.1, (r1.1.2.2.2.1, r1.1.2.2.2.2)))), (List.replicate ((16 : Int).toNat) 0 : List Int))).bind fun r3 =>
 some (bif (bif (bif (bif decide (r1.2 = 0) then decide (r2.2.2 = 7) else false) then decide (r3.2.2 = 0) else false) then decide (r3.2.1 = 8) else false) then decide ((r3.1.2.2.2.1.length : Int) = 8) else false)))
 else none) (
 (fun o => both o o) (
 bif (decide (0 ≤ 16) && decide (16 = 16) && decide ((16 : Int).toNat * 1 ≤ LIM)) then
 (F33 ((r1.1.1, (r1.1.2.1, (r1.1.2.2.1, (r1.1.2.2.2.1, r1.1.2.2.2.2)))), (List.replicate ((16 : Int).toNat) 0 : List Int))).bind fun r3 =>
 some (bif (bif (bif (bif decide (r1.2 = 0) then decide (r2.2.2 = 7) else false) then decide (r3.2.2 = 0) else false) then decide (r3.2.1 = 8) else false) then decide ((r3.1.2.2.2.1.length : Int) = 8) else false)
 else none)))))
 else none) (
 bif (decide (0 ≤ 18) && decide (18 = 18) && decide ((18 : Int).toNat * 1 ≤ LIM)) then
 (F33 ((r1.1.1, (r1.1.2.1, (r1.1.2.2.1, (r1.1.2.2.2.1, r1.1.2.2.2.2)))), (List.replicate ((18 : Int).toNat) 0 : List Int))).bind fun r2 =>
 (both (
 (both (
 bif (decide (0 ≤ 16) && decide (16 = 16) && decide ((16 : Int).toNat * 1 ≤ LIM)) then
 (fun o => both o o) (
 (F33 ((r1.1.1, (r1.1.2.1, (r1.1.2.2.1, (r1.1.2.2.2.1, r1.1.2.2.2.2)))), (List.replicate ((16 : Int).toNat) 0 : List Int))).bind fun r3 =>
 some (bif (bif (bif (bif decide (r1.2 = 0) then decide (r2.2.2 = 7) else false) then decide (r3.2.2 = 0) else false) then decide (r3.2.1 = 8) else false) then decide ((r3.1.2.2.2.1.length : Int) = 8) else false))
 else none) (
 bif (decide (0 ≤ 16) && decide (16 = 16) && decide ((16 : Int).toNat * 1 ≤ LIM)) then
 (F33 ((r1.1.1, (r1.1.2.1, (r1.1.2.2.1, (r1.1.2.2.2.1, r1.1.2.2.2.2)))), (List.replicate ((16 : Int).toNat) 0 : List Int))).bind fun r3 =>
 some (bif (bif (bif (bif decide (r1.2 = 0) then decide (r2.2.2 = 7) else false) then decide (r3.2.2 = 0) else false) then decide (r3.2.1 = 8) else false) then decide ((r3.1.2.2.2.1.length : Int) = 8) else false)
 else none))) (both (
 bif (decide (0 ≤ 16) && decide (16 = 16) && decide ((16 : Int).toNat * 1 ≤ LIM)) then
 (both (
 (fun o => both o o) (
 (F33 ((r1.1.1, (r1.1.2.1, (r1.1.2.2.1, (r1.1.2.2.2.1, r1.1.2.2.2.2)))), (List.replicate ((16 : Int).toNat) 0 : List Int))).bind fun r3 =>
 some (bif (bif (bif (bif decide (r1.2 = 0) then decide (r2.2.2 = 7) else false) then decide (r3.2.2 = 0) else false) then decide (r3.2.1 = 8) else false) then decide ((r3.1.2.2.2.1.length : Int) = 8) else false))) (
 (F33 ((r1.1.1, (r1.1.2.1, (r1.1.2.2.1, (r1.1.2.2.2.1, r1.1.2.2.2.2)))), (List.replicate ((16 : Int).toNat) 0 : List Int))).bind fun r3 =>
 some (bif (bif (bif (bif decide (r1.2 = 0) then decide (r2.2.2 = 7) else false) then decide (r3.2.2 = 0) else false) then decide (r3.2.1 = 8) else false) then decide ((r3.1.2.2.2.1.length : Int) = 8) else false)))
 else none) (
 (fun o => both o o) (
 bif (decide (0 ≤ 16) && decide (16 = 16) && decide ((16 : Int).toNat * 1 ≤ LIM)) then
 (F33 ((r1.1.1, (r1.1.2.1, (r1.1.2.2.1, (r1.1.2.2.2.1, r1.1.2.2.2.2)))), (List.replicate ((16 : Int).toNat) 0 : List Int))).bind fun r3 =>
 some (bif (bif (bif (bif decide (r1.2 = 0) then decide (r2.2.2 = 7) else false) then decide (r3.2.2 = 0) else false) then decide (r3.2.1 = 8) else false) then decide ((r3.1.2.2.2.1.length : Int) = 8) else false)
 else none))))
 else none))) (both (
 bif (decide (0 ≤ 18) && decide (18 = 18) && decide ((18 : Int).toNat * 1 ≤ LIM)) then
 (both (
 (fun o => both o o) (
 (F33 ((r1.1.1, (r1.1.2.1, (r1.1.2.2.1, (r1.1.2.2.2.1, r1.1.2.2.2.2)))), (List.replicate ((18 : Int).toNat) 0 : List Int))).bind fun r2 =>
 (both (
 (both (
 bif (decide (0 ≤ 16) && decide (16 = 16) && decide ((16 : Int).toNat * 1 ≤ LIM)) then
 (fun o => both o o) (
 (F33 ((r1.1.1, (r1.1.2.1, (r1.1.2.2.1, (r1.1.2.2.2.1, r1.1.2.2.2.2)))), (List.replicate ((16 : Int).toNat) 0 : List Int))).bind fun r3 =>
 some (bif (bif (bif (bif decide (r1.2 = 0) then decide (r2.2.2 = 7) else false) then decide (r3.2.2 = 0) else false) then decide (r3.2.1 = 8) else false) then decide ((r3.1.2.2.2.1.length : Int) = 8) else false))
 else none) (
 bif (decide (0 ≤ 16) && decide (16 = 16) && decide ((16 : Int).toNat * 1 ≤ LIM)) then
 (F33 ((r1.1.1, (r1.1.2.1, (r1.1.2.2.1, (r1.1.2.2.2.1, r1.1.2.2.2.2)))), (List.replicate ((16 : Int).toNat) 0 : List Int))).bind fun r3 =>
 some (bif (bif (bif (bif decide (r1.2 = 0) then decide (r2.2.2 = 7) else false) then decide (r3.2.2 = 0) else false) then decide (r3.2.1 = 8) else false) then decide ((r3.1.2.2.2.1.length : Int) = 8) else false)
 else none))) (both (
 bif (decide (0 ≤ 16) && decide (16 = 16) && decide ((16 : Int).toNat * 1 ≤ LIM)) then
 (both (
 (fun o => both o o) (
 (F33 ((r1.1.1, (r1.1.2.1, (r1.1.2.2.1, (r1.1.2.2.2.1, r1.1.2.2.2.2)))), (List.replicate ((16 : Int).toNat) 0 : List Int))).bind fun r3 =>
 some (bif (bif (bif (bif decide (r1.2 = 0) then decide (r2.2.2 = 7) else false) then decide (r3.2.2 = 0) else false) then decide (r3.2.1 = 8) else false) then decide ((r3.1.2.2.2.1.length : Int) = 8) else false))) (
 (F33 ((r1.1.1, (r1.1.2.1, (r1.1.2.2.1, (r1.1.2.2.2.1, r1.1.2.2.2.2)))), (List.replicate ((16 : Int).toNat) 0 : List Int))).bind fun r3 =>
 some (bif (bif (bif (bif decide (r1.2 = 0) then decide (r2.2.2 = 7) else false) then decide (r3.2.2 = 0) else false) then decide (r3.2.1 = 8) else false) then decide ((r3.1.2.2.2.1.length : Int) = 8) else false)))
 else none) (
 (fun o => both o o) (
 bif (decide (0 ≤ 16) && decide (16 = 16) && decide ((16 : Int).toNat * 1 ≤ LIM)) then
 (F33 ((r1.1.1, (r1.1.2.1, (r1.1.2.2.1, (r1.1.2.2.2.1, r1.1.2.2.2.2)))), (List.replicate ((16 : Int).toNat) 0 : List Int))).bind fun r3 =>
 some (bif (bif (bif (bif decide (r1.2 = 0) then decide (r2.2.2 = 7) else false) then decide (r3.2.2 = 0) else false) then decide (r3.2.1 = 8) else false) then decide ((r3.1.2.2.2.1.length : Int) = 8) else false)
 else none)))))) (
 (F33 ((r1.1.1, (r1.1.2.1, (r1.1.2.2.1, (r1.1.2.2.2.1, r1.1.2.2.2.2)))), (List.replicate ((18 : Int).toNat) 0 : List Int))).bind fun r2 =>
 (both (
 (both (
 bif (decide (0 ≤ 16) && decide (16 = 16) && decide ((16 : Int).toNat * 1 ≤ LIM)) then
 (fun o => both o o) (
 (F33 ((r1.1.1, (r1.1.2.1, (r1.1.2.2.1, (r1.1.2.2.2.1, r1.1.2.2.2.2)))), (List.replicate ((16 : Int).toNat) 0 : List Int))).bind fun r3 =>
 some (bif (bif (bif (bif decide (r1.2 = 0) then decide (r2.2.2 = 7) else false) then decide (r3.2.2 = 0) else false) then decide (r3.2.1 = 8) else false) then decide ((r3.1.2.2.2.1.length : Int) = 8) else false))
 else none) (
 bif (decide (0 ≤ 16) && decide (16 = 16) && decide ((16 : Int).toNat * 1 ≤ LIM)) then
 (F33 ((r1.1.1, (r1.1.2.1, (r1.1.2.2.1, (r1.1.2.2.2.1, r1.1.2.2.2.2)))), (List.replicate ((16 : Int).toNat) 0 : List Int))).bind fun r3 =>
 some (bif (bif (bif (bif decide (r1.2 = 0) then decide (r2.2.2 = 7) else false) then decide (r3.2.2 = 0) else false) then decide (r3.2.1 = 8) else false) then decide ((r3.1.2.2.2.1.length : Int) = 8) else false)
 else none))) (both (
 bif (decide (0 ≤ 16) && decide (16 = 16) && decide ((16 : Int).toNat * 1 ≤ LIM)) then
 (both (
 (fun o => both o o) (
 (F33 ((r1.1.1, (r1.1.2.1, (r1.1.2.2.1, (r1.1.2.2.2.1, r1.1.2.2.2.2)))), (List.replicate ((16 : Int).toNat) 0 : List Int))).bind fun r3 =>
 some (bif (bif (bif (bif decide (r1.2 = 0) then decide (r2.2.2 = 7) else false) then decide (r3.2.2 = 0) else false) then decide (r3.2.1 = 8) else false) then decide ((r3.1.2.2.2.1.length : Int) = 8) else false))) (
 (F33 ((r1.1.1, (r1.1.2.1, (r1.1.2.2.1, (r1.1.2.2.2.1, r1.1.2.2.2.2)))), (List.replicate ((16 : Int).toNat) 0 : List Int))).bind fun r3 =>
 some (bif (bif (bif (bif decide (r1.2 = 0) then decide (r2.2.2 = 7) else false) then decide (r3.2.2 = 0) else false) then decide (r3.2.1 = 8) else false) then decide ((r3.1.2.2.2.1.length : Int) = 8) else false)))
 else none) (
 (fun o => both o o) (
 bif (decide (0 ≤ 16) && decide (16 = 16) && decide ((16 : Int).toNat * 1 ≤ LIM)) then
 (F33 ((r1.1.1, (r1.1.2.1, (r1.1.2.2.1, (r1.1.2.2.2.1, r1.1.2.2.2.2)))), (List.replicate ((16 : Int).toNat) 0 : List Int))).bind fun r3 =>
 some (bif (bif (bif (bif decide (r1.2 = 0) then decide (r2.2.2 = 7) else false) then decide (r3.2.2 = 0) else false) then decide (r3.2.1 = 8) else false) then decide ((r3.1.2.2.2.1.length : Int) = 8) else false)
 else none))))))
 else none) (
 (fun o => both o o) (
 bif (decide (0 ≤ 18) && decide (18 = 18) && decide ((18 : Int).toNat * 1 ≤ LIM)) then
 (F33 ((r1.1.1, (r1.1.2.1, (r1.1.2.2.1, (r1.1.2.2.2.1, r1.1.2.2.2.2)))), (List.replicate ((18 : Int).toNat) 0 : List Int))).bind fun r2 =>
 (both (
 (both (
 bif (decide (0 ≤ 16) && decide (16 = 16) && decide ((16 : Int).toNat * 1 ≤ LIM)) then
 (fun o => both o o) (
 (F33 ((r1.1.1, (r1.1.2.1, (r1.1.2.2.1, (r1.1.2.2.2.1, r1.1.2.2.2.2)))), (List.replicate ((16 : Int).toNat) 0 : List Int))).bind fun r3 =>
 some (bif (bif (bif (bif decide (r1.2 = 0) then decide (r2.2.2 = 7) else false) then decide (r3.2.2 = 0) else false) then decide (r3.2.1 = 8) else false) then decide ((r3.1.2.2.2.1.length : Int) = 8) else false))
 else none) (
 bif (decide (0 ≤ 16) && decide (16 = 16) && decide ((16 : Int).toNat * 1 ≤ LIM)) then
 (F33 ((r1.1.1, (r1.1.2.1, (r1.1.2.2.1, (r1.1.2.2.2.1, r1.1.2.2.2.2)))), (List.replicate ((16 : Int).toNat) 0 : List Int))).bind fun r3 =>
 some (bif (bif (bif (bif decide (r1.2 = 0) then decide (r2.2.2 = 7) else false) then decide (r3.2.2 = 0) else false) then decide (r3.2.1 = 8) else false) then decide ((r3.1.2.2.2.1.length : Int) = 8) else false)
 else none))) (both (
 bif (decide (0 ≤ 16) && decide (16 = 16) && decide ((16 : Int).toNat * 1 ≤ LIM)) then
 (both (
 (fun o => both o o) (
 (F33 ((r1.1.1, (r1.1.2.1, (r1.1.2.2.1, (r1.1.2.2.2.1, r1.1.2.2.2.2)))), (List.replicate ((16 : Int).toNat) 0 : List Int))).bind fun r3 =>
 some (bif (bif (bif (bif decide (r1.2 = 0) then decide (r2.2.2 = 7) else false) then decide (r3.2.2 = 0) else false) then decide (r3.2.1 = 8) else false) then decide ((r3.1.2.2.2.1.length : Int) = 8) else false))) (
 (F33 ((r1.1.1, (r1.1.2.1, (r1.1.2.2.1, (r1.1.2.2.2.1, r1.1.2.2.2.2)))), (List.replicate ((16 : Int).toNat) 0 : List Int))).bind fun r3 =>
 some (bif (bif (bif (bif decide (r1.2 = 0) then decide (r2.2.2 = 7) else false) then decide (r3.2.2 = 0) else false) then decide (r3.2.1 = 8) else false) then decide ((r3.1.2.2.2.1.length : Int) = 8) else false)))
 else none) (
 (fun o => both o o) (
 bif (decide (0 ≤ 16) && decide (16 = 16) && decide ((16 : Int).toNat * 1 ≤ LIM)) then
 (F33 ((r1.1.1, (r1.1.2.1, (r1.1.2.2.1, (r1.1.2.2.2.1, r1.1.2.2.2.2)))), (List.replicate ((16 : Int).toNat) 0 : List Int))).bind fun r3 =>
 some (bif (bif (bif (bif decide (r1.2 = 0) then decide (r2.2.2 = 7) else false) then decide (r3.2.2 = 0) else false) then decide (r3.2.1 = 8) else false) then decide ((r3.1.2.2.2.1.length : Int) = 8) else false)
 else none))))
 else none))))
theorem ev26 (b : Unit) : evF C33 H26 Try.f26 (encs [] b) (RT.dec (.one (.leaf (.bool)))) = F26 b := by kernel_rfl
noncomputable def C26 : Ctx := Ctx.add C33 26 [] (.one (.leaf (.bool))) F26
theorem s26 : C26.Sound := Ctx.Sound.add (C := C33) mixed s33 Try.func26 ev26
/-! damson/damsonref22.Few -/
def H27 : Nat → Head
  | 2 => ⟨[.data 2 .bool, .data 8 (.int .i64)], [4096]⟩
  | _ => ⟨[], []⟩
noncomputable def F27 (b : (Bool × (List Int × (Bool × (List (List Int) × List Int))))) : Option Bool :=
 lfp (fun (rec1 : (Bool × Int) → Option Bool) (x1 : Bool × Int) =>
  bif decide (x1.2 < (b.2.2.2.1.length : Int)) then (
  bif inb x1.2 b.2.2.2.1.length then
  bif (bif (bif decide (300 < ((rd (.slice 5 (.int .u8)) b.2.2.2.1 x1.2).length : Int)) then decide (((rd (.slice 5 (.int .u8)) b.2.2.2.1 x1.2).length : Int) < 4096) else false) then true else decide (4100 < ((rd (.slice 5 (.int .u8)) b.2.2.2.1 x1.2).length : Int))) then (
  some false)
  else (
  rec1 (x1.1, (IntKind.wrap .i64 (x1.2 + 1))))
  else none)
  else (
  bif ((bif decide ((b.2.2.2.1.length : Int) ≤ 12) then decide ((b.2.1.length : Int) ≤ 300) else false) == true) then (
  bif (decide ((b.2.2.2.2.length : Int) ≤ 600) == false) then (
  some (bif decide (16300 ≤ (b.2.2.2.2.length : Int)) then decide ((b.2.2.2.2.length : Int) ≤ 16400) else false))
  else (
  some true))
  else (
  some false))) (false, 0)
theorem ev27 (b : (Bool × (List Int × (Bool × (List (List Int) × List Int))))) : evF C26 H27 Try.f27 (encs [.agg (.pair .bool (.pair (.slice 5 (.int .u8)) (.pair .bool (.pair (.slice 22 (.slice 5 (.int .u8))) (.slice 5 (.int .u8))))))] b) (RT.dec (.one (.leaf (.bool)))) = F27 b := by kernel_rfl
noncomputable def C27 : Ctx := Ctx.add C26 27 [.agg (.pair .bool (.pair (.slice 5 (.int .u8)) (.pair .bool (.pair (.slice 22 (.slice 5 (.int .u8))) (.slice 5 (.int .u8))))))] (.one (.leaf (.bool))) F27
theorem s27 : C27.Sound := Ctx.Sound.add (C := C26) mixed s26 Try.func27 ev27
/-! damson/damsonref22.Copy -/
def H28 : Nat → Head
  | 3 => ⟨[.data 23 (.int .i64), .crow 12288 3 10014339 22 (.slice 5 (.int .u8)), .boxr 12288 10014339 (.pair .bool (.pair (.slice 5 (.int .u8)) .bool)) (.slice 5 (.int .u8))], [73728, 45056, 8192]⟩
  | 1000000 => ⟨[], [1]⟩
  | 3000000 => ⟨[], [4398046523392]⟩
  | 3000001 => ⟨[], [4398046523392]⟩
  | 3000002 => ⟨[], [4398046523392]⟩
  | 3000003 => ⟨[], [4398046523392]⟩
  | 3000004 => ⟨[], [4398046523392]⟩
  | 3000005 => ⟨[], [4398046523392]⟩
  | 3000006 => ⟨[], [4398046523392]⟩
  | 3000007 => ⟨[], [4398046523392]⟩
  | 5000001 => ⟨[], [0, 0, 1, 1, 0, 0, 4, 4, 8, 8, 16, 16, 0, 0, 64, 64, 128, 128, 288, 288, 0, 0, 1024, 1024, 2080, 2048, 4610, 4610, 0, 0, 32767, 24576]⟩
  | 5000005 => ⟨[], [0, 0, 1, 1, 0, 0, 4, 4, 8, 8, 26, 18, 63, 0, 127, 96]⟩
  | _ => ⟨[], []⟩
noncomputable def F28 (b : (Bool × (List Int × (Bool × (List (List Int) × List Int))))) : Option (Bool × List Int × Bool × List (List Int) × List Int) :=
 (both (
 bif (!b.2.1.isEmpty || true) then
 bif decide ((([] : List Int).length + b.2.1.length) * 1 ≤ LIM) then
 (both (
 (both (
 bif (!b.2.2.2.2.isEmpty || true) then
 bif decide ((([] : List Int).length + b.2.2.2.2.length) * 1 ≤ LIM) then
 (fun o => both o o) (
 lfp (fun (rec1 : (Int × List (List Int) × ((Bool × (List Int × Bool)) × List Int)) → Option (Bool × List Int × Bool × List (List Int) × List Int)) (x1 : Int × List (List Int) × ((Bool × (List Int × Bool)) × List Int)) =>
  bif decide (x1.1 < (b.2.2.2.1.length : Int)) then (
  bif inb x1.1 b.2.2.2.1.length then
  (both (
  bif (!(rd (.slice 5 (.int .u8)) b.2.2.2.1 x1.1).isEmpty || true) then
  bif decide ((([] : List Int).length + (rd (.slice 5 (.int .u8)) b.2.2.2.1 x1.1).length) * 1 ≤ LIM) then
  bif decide ((x1.2.1.length + 1) * 24 ≤ LIM) then
  rec1 ((IntKind.wrap .i64 (x1.1 + 1)), (x1.2.1 ++ ([([] : List Int) ++ (rd (.slice 5 (.int .u8)) b.2.2.2.1 x1.1)])), ((x1.2.2.1.1, (x1.2.2.1.2.1, x1.2.2.1.2.2)), x1.2.2.2))
  else none
  else none
  else none) (
  bif (!(rd (.slice 5 (.int .u8)) b.2.2.2.1 x1.1).isEmpty || true) then
  bif decide ((([] : List Int).length + (rd (.slice 5 (.int .u8)) b.2.2.2.1 x1.1).length) * 1 ≤ LIM) then
  (fun o => both o o) (
  bif decide ((x1.2.1.length + 1) * 24 ≤ LIM) then
  rec1 ((IntKind.wrap .i64 (x1.1 + 1)), (x1.2.1 ++ ([([] : List Int) ++ (rd (.slice 5 (.int .u8)) b.2.2.2.1 x1.1)])), ((x1.2.2.1.1, (x1.2.2.1.2.1, x1.2.2.1.2.2)), x1.2.2.2))
  else none)
  else none
  else none))
  else none)
  else (
  some (x1.2.2.1.1, x1.2.2.1.2.1, x1.2.2.1.2.2, x1.2.1, x1.2.2.2))) (0, ([] : List (List Int)), ((b.1, (([] : List Int) ++ b.2.1, b.2.2.1)), ([] : List Int) ++ b.2.2.2.2)))
 else none
 else none) (
 bif (!b.2.2.2.2.isEmpty || true) then
 bif decide ((([] : List Int).length + b.2.2.2.2.length) * 1 ≤ LIM) then
 lfp (fun (rec1 : (Int × List (List Int) × ((Bool × (List Int × Bool)) × List Int)) → Option (Bool × List Int × Bool × List (List Int) × List Int)) (x1 : Int × List (List Int) × ((Bool × (List Int × Bool)) × List Int)) =>
  bif decide (x1.1 < (b.2.2.2.1.length : Int)) then (
  bif inb x1.1 b.2.2.2.1.length then
  (both (
  bif (!(rd (.slice 5 (.int .u8)) b.2.2.2.1 x1.1).isEmpty || true) then
  bif decide ((([] : List Int).length + (rd (.slice 5 (.int .u8)) b.2.2.2.1 x1.1).length) * 1 ≤ LIM) then
  bif decide ((x1.2.1.length + 1) * 24 ≤ LIM) then
  rec1 ((IntKind.wrap .i64 (x1.1 + 1)), (x1.2.1 ++ ([([] : List Int) ++ (rd (.slice 5 (.int .u8)) b.2.2.2.1 x1.1)])), ((x1.2.2.1.1, (x1.2.2.1.2.1, x1.2.2.1.2.2)), x1.2.2.2))
  else none
  else none
  else none) (
  bif (!(rd (.slice 5 (.int .u8)) b.2.2.2.1 x1.1).isEmpty || true) then
  bif decide ((([] : List Int).length + (rd (.slice 5 (.int .u8)) b.2.2.2.1 x1.1).length) * 1 ≤ LIM) then
  (fun o => both o o) (
  bif decide ((x1.2.1.length + 1) * 24 ≤ LIM) then
  rec1 ((IntKind.wrap .i64 (x1.1 + 1)), (x1.2.1 ++ ([([] : List Int) ++ (rd (.slice 5 (.int .u8)) b.2.2.2.1 x1.1)])), ((x1.2.2.1.1, (x1.2.2.1.2.1, x1.2.2.1.2.2)), x1.2.2.2))
  else none)
  else none
  else none))
  else none)
  else (
  some (x1.2.2.1.1, x1.2.2.1.2.1, x1.2.2.1.2.2, x1.2.1, x1.2.2.2))) (0, ([] : List (List Int)), ((b.1, (([] : List Int) ++ b.2.1, b.2.2.1)), ([] : List Int) ++ b.2.2.2.2))
 else none
 else none))) (both (
 bif (!b.2.2.2.2.isEmpty || true) then
 bif decide ((([] : List Int).length + b.2.2.2.2.length) * 1 ≤ LIM) then
 (both (
 (fun o => both o o) (
 lfp (fun (rec1 : (Int × List (List Int) × ((Bool × (List Int × Bool)) × List Int)) → Option (Bool × List Int × Bool × List (List Int) × List Int)) (x1 : Int × List (List Int) × ((Bool × (List Int × Bool)) × List Int)) =>
  bif decide (x1.1 < (b.2.2.2.1.length : Int)) then (
  bif inb x1.1 b.2.2.2.1.length then
  (both (
  bif (!(rd (.slice 5 (.int .u8)) b.2.2.2.1 x1.1).isEmpty || true) then
  bif decide ((([] : List Int).length + (rd (.slice 5 (.int .u8)) b.2.2.2.1 x1.1).length) * 1 ≤ LIM) then
  bif decide ((x1.2.1.length + 1) * 24 ≤ LIM) then
  rec1 ((IntKind.wrap .i64 (x1.1 + 1)), (x1.2.1 ++ ([([] : List Int) ++ (rd (.slice 5 (.int .u8)) b.2.2.2.1 x1.1)])), ((x1.2.2.1.1, (x1.2.2.1.2.1, x1.2.2.1.2.2)), x1.2.2.2))
  else none
  else none
  else none) (
  bif (!(rd (.slice 5 (.int .u8)) b.2.2.2.1 x1.1).isEmpty || true) then
  bif decide ((([] : List Int).length + (rd (.slice 5 (.int .u8)) b.2.2.2.1 x1.1).length) * 1 ≤ LIM) then
  (fun o => both o o) (
  bif decide ((x1.2.1.length + 1) * 24 ≤ LIM) then
  rec1 ((IntKind.wrap .i64 (x1.1 + 1)), (x1.2.1 ++ ([([] : List Int) ++ (rd (.slice 5 (.int .u8)) b.2.2.2.1 x1.1)])), ((x1.2.2.1.1, (x1.2.2.1.2.1, x1.2.2.1.2.2)), x1.2.2.2))
  else none)
  else none
  else none))
  else none)
  else (
  some (x1.2.2.1.1, x1.2.2.1.2.1, x1.2.2.1.2.2, x1.2.1, x1.2.2.2))) (0, ([] : List (List Int)), ((b.1, (([] : List Int) ++ b.2.1, b.2.2.1)), ([] : List Int) ++ b.2.2.2.2)))) (
 lfp (fun (rec1 : (Int × List (List Int) × ((Bool × (List Int × Bool)) × List Int)) → Option (Bool × List Int × Bool × List (List Int) × List Int)) (x1 : Int × List (List Int) × ((Bool × (List Int × Bool)) × List Int)) =>
  bif decide (x1.1 < (b.2.2.2.1.length : Int)) then (
  bif inb x1.1 b.2.2.2.1.length then
  (both (
  bif (!(rd (.slice 5 (.int .u8)) b.2.2.2.1 x1.1).isEmpty || true) then
  bif decide ((([] : List Int).length + (rd (.slice 5 (.int .u8)) b.2.2.2.1 x1.1).length) * 1 ≤ LIM) then
  bif decide ((x1.2.1.length + 1) * 24 ≤ LIM) then
  rec1 ((IntKind.wrap .i64 (x1.1 + 1)), (x1.2.1 ++ ([([] : List Int) ++ (rd (.slice 5 (.int .u8)) b.2.2.2.1 x1.1)])), ((x1.2.2.1.1, (x1.2.2.1.2.1, x1.2.2.1.2.2)), x1.2.2.2))
  else none
  else none
  else none) (
  bif (!(rd (.slice 5 (.int .u8)) b.2.2.2.1 x1.1).isEmpty || true) then
  bif decide ((([] : List Int).length + (rd (.slice 5 (.int .u8)) b.2.2.2.1 x1.1).length) * 1 ≤ LIM) then
  (fun o => both o o) (
  bif decide ((x1.2.1.length + 1) * 24 ≤ LIM) then
  rec1 ((IntKind.wrap .i64 (x1.1 + 1)), (x1.2.1 ++ ([([] : List Int) ++ (rd (.slice 5 (.int .u8)) b.2.2.2.1 x1.1)])), ((x1.2.2.1.1, (x1.2.2.1.2.1, x1.2.2.1.2.2)), x1.2.2.2))
  else none)
  else none
  else none))
  else none)
  else (
  some (x1.2.2.1.1, x1.2.2.1.2.1, x1.2.2.1.2.2, x1.2.1, x1.2.2.2))) (0, ([] : List (List Int)), ((b.1, (([] : List Int) ++ b.2.1, b.2.2.1)), ([] : List Int) ++ b.2.2.2.2))))
 else none
 else none) (
 (fun o => both o o) (
 bif (!b.2.2.2.2.isEmpty || true) then
 bif decide ((([] : List Int).length + b.2.2.2.2.length) * 1 ≤ LIM) then
 lfp (fun (rec1 : (Int × List (List Int) × ((Bool × (List Int × Bool)) × List Int)) → Option (Bool × List Int × Bool × List (List Int) × List Int)) (x1 : Int × List (List Int) × ((Bool × (List Int × Bool)) × List Int)) =>
  bif decide (x1.1 < (b.2.2.2.1.length : Int)) then (
  bif inb x1.1 b.2.2.2.1.length then
  (both (
  bif (!(rd (.slice 5 (.int .u8)) b.2.2.2.1 x1.1).isEmpty || true) then
  bif decide ((([] : List Int).length + (rd (.slice 5 (.int .u8)) b.2.2.2.1 x1.1).length) * 1 ≤ LIM) then
  bif decide ((x1.2.1.length + 1) * 24 ≤ LIM) then
  rec1 ((IntKind.wrap .i64 (x1.1 + 1)), (x1.2.1 ++ ([([] : List Int) ++ (rd (.slice 5 (.int .u8)) b.2.2.2.1 x1.1)])), ((x1.2.2.1.1, (x1.2.2.1.2.1, x1.2.2.1.2.2)), x1.2.2.2))
  else none
  else none
  else none) (
  bif (!(rd (.slice 5 (.int .u8)) b.2.2.2.1 x1.1).isEmpty || true) then
  bif decide ((([] : List Int).length + (rd (.slice 5 (.int .u8)) b.2.2.2.1 x1.1).length) * 1 ≤ LIM) then
  (fun o => both o o) (
  bif decide ((x1.2.1.length + 1) * 24 ≤ LIM) then
  rec1 ((IntKind.wrap .i64 (x1.1 + 1)), (x1.2.1 ++ ([([] : List Int) ++ (rd (.slice 5 (.int .u8)) b.2.2.2.1 x1.1)])), ((x1.2.2.1.1, (x1.2.2.1.2.1, x1.2.2.1.2.2)), x1.2.2.2))
  else none)
  else none
  else none))
  else none)
  else (
  some (x1.2.2.1.1, x1.2.2.1.2.1, x1.2.2.1.2.2, x1.2.1, x1.2.2.2))) (0, ([] : List (List Int)), ((b.1, (([] : List Int) ++ b.2.1, b.2.2.1)), ([] : List Int) ++ b.2.2.2.2))
 else none
 else none))))
 else none
 else none) (
 bif (!b.2.1.isEmpty || true) then
 bif decide ((([] : List Int).length + b.2.1.length) * 1 ≤ LIM) then
 (fun o => both o o) (
 bif (!b.2.2.2.2.isEmpty || true) then
 bif decide ((([] : List Int).length + b.2.2.2.2.length) * 1 ≤ LIM) then
 lfp (fun (rec1 : (Int × List (List Int) × ((Bool × (List Int × Bool)) × List Int)) → Option (Bool × List Int × Bool × List (List Int) × List Int)) (x1 : Int × List (List Int) × ((Bool × (List Int × Bool)) × List Int)) =>
  bif decide (x1.1 < (b.2.2.2.1.length : Int)) then (
  bif inb x1.1 b.2.2.2.1.length then
  (both (
  bif (!(rd (.slice 5 (.int .u8)) b.2.2.2.1 x1.1).isEmpty || true) then
  bif decide ((([] : List Int).length + (rd (.slice 5 (.int .u8)) b.2.2.2.1 x1.1).length) * 1 ≤ LIM) then
  bif decide ((x1.2.1.length + 1) * 24 ≤ LIM) then
  rec1 ((IntKind.wrap .i64 (x1.1 + 1)), (x1.2.1 ++ ([([] : List Int) ++ (rd (.slice 5 (.int .u8)) b.2.2.2.1 x1.1)])), ((x1.2.2.1.1, (x1.2.2.1.2.1, x1.2.2.1.2.2)), x1.2.2.2))
  else none
  else none
  else none) (
  bif (!(rd (.slice 5 (.int .u8)) b.2.2.2.1 x1.1).isEmpty || true) then
  bif decide ((([] : List Int).length + (rd (.slice 5 (.int .u8)) b.2.2.2.1 x1.1).length) * 1 ≤ LIM) then
  (fun o => both o o) (
  bif decide ((x1.2.1.length + 1) * 24 ≤ LIM) then
  rec1 ((IntKind.wrap .i64 (x1.1 + 1)), (x1.2.1 ++ ([([] : List Int) ++ (rd (.slice 5 (.int .u8)) b.2.2.2.1 x1.1)])), ((x1.2.2.1.1, (x1.2.2.1.2.1, x1.2.2.1.2.2)), x1.2.2.2))
  else none)
  else none
  else none))
  else none)
  else (
  some (x1.2.2.1.1, x1.2.2.1.2.1, x1.2.2.1.2.2, x1.2.1, x1.2.2.2))) (0, ([] : List (List Int)), ((b.1, (([] : List Int) ++ b.2.1, b.2.2.1)), ([] : List Int) ++ b.2.2.2.2))
 else none
 else none)
 else none
 else none))
theorem ev28 (b : (Bool × (List Int × (Bool × (List (List Int) × List Int))))) : evF C27 H28 Try.f28 (encs [.aggA (.pair .bool (.pair (.slice 5 (.int .u8)) (.pair .bool (.pair (.slice 22 (.slice 5 (.int .u8))) (.slice 5 (.int .u8))))))] b) (RT.dec (.one (.agg [.bool, .sl 5 (.int .u8), .bool, .fresh 22 (.slice 5 (.int .u8)), .sl 5 (.int .u8)]))) = F28 b := by kernel_rfl
noncomputable def C28 : Ctx := Ctx.addA C27 28 [.aggA (.pair .bool (.pair (.slice 5 (.int .u8)) (.pair .bool (.pair (.slice 22 (.slice 5 (.int .u8))) (.slice 5 (.int .u8))))))] (.one (.agg [.bool, .sl 5 (.int .u8), .bool, .fresh 22 (.slice 5 (.int .u8)), .sl 5 (.int .u8)])) F28
theorem s28 : C28.Sound := Ctx.Sound.addA (C := C27) mixed s27 Try.func28 ev28
/-! damson/damsonref22.Same -/
def H37 : Nat → Head := fun _ => ⟨[], []⟩
noncomputable def F37 (b : (Bool × (List Int × (Bool × (List (List Int) × List Int)))) × (Bool × (List Int × (Bool × (List (List Int) × List Int))))) : Option Bool :=
 bif ((b.1.1 == b.2.1) == true) then (
 (F24 ((b.1.2.1, b.1.2.2.1), (b.2.2.1, b.2.2.2.1))).bind fun r1 =>
 bif (r1 == true) then (
 (F17 (b.1.2.2.2.1, b.2.2.2.2.1)).bind fun r2 =>
 bif (r2 == true) then (
 (F23 (b.1.2.2.2.2, b.2.2.2.2.2)).bind fun r3 =>
 some r3)
 else (
 some false))
 else (
 some false))
 else (
 some false)
theorem ev37 (b : (Bool × (List Int × (Bool × (List (List Int) × List Int)))) × (Bool × (List Int × (Bool × (List (List Int) × List Int))))) : evF C28 H37 Try.f37 (encs [.agg (.pair .bool (.pair (.slice 5 (.int .u8)) (.pair .bool (.pair (.slice 22 (.slice 5 (.int .u8))) (.slice 5 (.int .u8)))))), .agg (.pair .bool (.pair (.slice 5 (.int .u8)) (.pair .bool (.pair (.slice 22 (.slice 5 (.int .u8))) (.slice 5 (.int .u8))))))] b) (RT.dec (.one (.leaf (.bool)))) = F37 b := by kernel_rfl
noncomputable def C37 : Ctx := Ctx.add C28 37 [.agg (.pair .bool (.pair (.slice 5 (.int .u8)) (.pair .bool (.pair (.slice 22 (.slice 5 (.int .u8))) (.slice 5 (.int .u8)))))), .agg (.pair .bool (.pair (.slice 5 (.int .u8)) (.pair .bool (.pair (.slice 22 (.slice 5 (.int .u8))) (.slice 5 (.int .u8))))))] (.one (.leaf (.bool))) F37
theorem s37 : C37.Sound := Ctx.Sound.add (C := C28) mixed s28 Try.func37 ev37
/-! damson/damsonref22.Check -/
def H56 : Nat → Head
  | 8 => ⟨[.data 2 (.int .i64), .data 30 (.int .i64)], [4096]⟩
  | _ => ⟨[], []⟩
noncomputable def F56 (b : (Bool × (List Int × (Bool × (List (List Int) × List Int))))) : Option Int :=
 bif (!b.1) then (
 (F37 ((b.1, (b.2.1, (b.2.2.1, (b.2.2.2.1, b.2.2.2.2)))), (false, ([], (false, ([], [])))))).bind fun r1 =>
 bif r1 then (
 some 0)
 else (
 some 1))
 else (
 (F25 (b.2.1, b.2.2.1)).bind fun r2 =>
 bif (bif (bif (!decide (r2 = 0)) then true else decide (8 < (b.2.2.2.1.length : Int))) then true else decide (16384 < (b.2.2.2.2.length : Int))) then (
 some 1)
 else (
 lfp (fun (rec3 : (Int × Int) → Option Int) (x3 : Int × Int) =>
  bif decide (x3.2 < (b.2.2.2.1.length : Int)) then (
  bif inb x3.2 b.2.2.2.1.length then
  bif decide (4096 < ((rd (.slice 5 (.int .u8)) b.2.2.2.1 x3.2).length : Int)) then (
  some 1)
  else (
  rec3 (x3.1, (IntKind.wrap .i64 (x3.2 + 1))))
  else none)
  else (
  some 0)) (0, 0)))
theorem ev56 (b : (Bool × (List Int × (Bool × (List (List Int) × List Int))))) : evF C37 H56 Try.f56 (encs [.agg (.pair .bool (.pair (.slice 5 (.int .u8)) (.pair .bool (.pair (.slice 22 (.slice 5 (.int .u8))) (.slice 5 (.int .u8))))))] b) (RT.dec (.one (.leaf (.int .i64)))) = F56 b := by kernel_rfl
noncomputable def C56 : Ctx := Ctx.add C37 56 [.agg (.pair .bool (.pair (.slice 5 (.int .u8)) (.pair .bool (.pair (.slice 22 (.slice 5 (.int .u8))) (.slice 5 (.int .u8))))))] (.one (.leaf (.int .i64))) F56
theorem s56 : C56.Sound := Ctx.Sound.add (C := C37) mixed s37 Try.func56 ev56
/-! damson/damsonref22.on -/
def H50 : Nat → Head := fun _ => ⟨[], []⟩
noncomputable def F50 (b : (Bool × (List Int × (Bool × (List (List Int) × List Int))))) : Option Int :=
 (F56 (b.1, (b.2.1, (b.2.2.1, (b.2.2.2.1, b.2.2.2.2))))).bind fun r1 =>
 bif (!decide (r1 = 0)) then (
 some 1)
 else (
 bif (!b.1) then (
 some 14)
 else (
 some 0))
theorem ev50 (b : (Bool × (List Int × (Bool × (List (List Int) × List Int))))) : evF C56 H50 Try.f50 (encs [.agg (.pair .bool (.pair (.slice 5 (.int .u8)) (.pair .bool (.pair (.slice 22 (.slice 5 (.int .u8))) (.slice 5 (.int .u8))))))] b) (RT.dec (.one (.leaf (.int .i64)))) = F50 b := by kernel_rfl
noncomputable def C50 : Ctx := Ctx.add C56 50 [.agg (.pair .bool (.pair (.slice 5 (.int .u8)) (.pair .bool (.pair (.slice 22 (.slice 5 (.int .u8))) (.slice 5 (.int .u8))))))] (.one (.leaf (.int .i64))) F50
theorem s50 : C50.Sound := Ctx.Sound.add (C := C56) mixed s56 Try.func50 ev50
/-! damson/damsonref22.Up -/
def H30 : Nat → Head := fun _ => ⟨[], []⟩
noncomputable def F30 (b : (Bool × (List Int × (Bool × (List (List Int) × List Int))))) : Option ((Bool × List Int × Bool × List (List Int) × List Int) × Int) :=
 (F50 (b.1, (b.2.1, (b.2.2.1, (b.2.2.2.1, b.2.2.2.2))))).bind fun r1 =>
 bif decide (r1 = 0) then (
 some ((false, ([] : List Int), false, ([] : List (List Int)), ([] : List Int)), 10))
 else (
 bif decide (r1 = 1) then (
 some ((false, ([] : List Int), false, ([] : List (List Int)), ([] : List Int)), r1))
 else (
 some ((true, ([] : List Int), false, ([] : List (List Int)), ([] : List Int)), 0)))
theorem ev30 (b : (Bool × (List Int × (Bool × (List (List Int) × List Int))))) : evF C50 H30 Try.f30 (encs [.aggA (.pair .bool (.pair (.slice 5 (.int .u8)) (.pair .bool (.pair (.slice 22 (.slice 5 (.int .u8))) (.slice 5 (.int .u8))))))] b) (RT.dec (.tup [.agg [.bool, .fresh 5 (.int .u8), .bool, .fresh 22 (.slice 5 (.int .u8)), .fresh 5 (.int .u8)], .leaf (.int .i64)])) = F30 b := by kernel_rfl
noncomputable def C30 : Ctx := Ctx.addA C50 30 [.aggA (.pair .bool (.pair (.slice 5 (.int .u8)) (.pair .bool (.pair (.slice 22 (.slice 5 (.int .u8))) (.slice 5 (.int .u8))))))] (.tup [.agg [.bool, .fresh 5 (.int .u8), .bool, .fresh 22 (.slice 5 (.int .u8)), .fresh 5 (.int .u8)], .leaf (.int .i64)]) F30
theorem s30 : C30.Sound := Ctx.Sound.addA (C := C50) mixed s50 Try.func30 ev30
/-! damson/session.Down -/
def H31 : Nat → Head := fun _ => ⟨[], []⟩
noncomputable def F31 (b : (Bool × (List Int × (Bool × (List (List Int) × List Int))))) : Option ((Bool × List Int × Bool × List (List Int) × List Int) × Int) :=
 (F49 (b.1, (b.2.1, (b.2.2.1, (b.2.2.2.1, b.2.2.2.2))))).bind fun r1 =>
 some ((false, ([] : List Int), false, ([] : List (List Int)), ([] : List Int)), r1)
theorem ev31 (b : (Bool × (List Int × (Bool × (List (List Int) × List Int))))) : evF C30 H31 Try.f31 (encs [.aggA (.pair .bool (.pair (.slice 5 (.int .u8)) (.pair .bool (.pair (.slice 22 (.slice 5 (.int .u8))) (.slice 5 (.int .u8))))))] b) (RT.dec (.tup [.agg [.bool, .fresh 5 (.int .u8), .bool, .fresh 22 (.slice 5 (.int .u8)), .fresh 5 (.int .u8)], .leaf (.int .i64)])) = F31 b := by kernel_rfl
noncomputable def C31 : Ctx := Ctx.addA C30 31 [.aggA (.pair .bool (.pair (.slice 5 (.int .u8)) (.pair .bool (.pair (.slice 22 (.slice 5 (.int .u8))) (.slice 5 (.int .u8))))))] (.tup [.agg [.bool, .fresh 5 (.int .u8), .bool, .fresh 22 (.slice 5 (.int .u8)), .fresh 5 (.int .u8)], .leaf (.int .i64)]) F31
theorem s31 : C31.Sound := Ctx.Sound.addA (C := C30) mixed s30 Try.func31 ev31
/-! damson/damsonref22.Down -/
def H32 : Nat → Head := fun _ => ⟨[], []⟩
noncomputable def F32 (b : (Bool × (List Int × (Bool × (List (List Int) × List Int))))) : Option ((Bool × List Int × Bool × List (List Int) × List Int) × Int) :=
 (F50 (b.1, (b.2.1, (b.2.2.1, (b.2.2.2.1, b.2.2.2.2))))).bind fun r1 =>
 some ((false, ([] : List Int), false, ([] : List (List Int)), ([] : List Int)), r1)
theorem ev32 (b : (Bool × (List Int × (Bool × (List (List Int) × List Int))))) : evF C31 H32 Try.f32 (encs [.aggA (.pair .bool (.pair (.slice 5 (.int .u8)) (.pair .bool (.pair (.slice 22 (.slice 5 (.int .u8))) (.slice 5 (.int .u8))))))] b) (RT.dec (.tup [.agg [.bool, .fresh 5 (.int .u8), .bool, .fresh 22 (.slice 5 (.int .u8)), .fresh 5 (.int .u8)], .leaf (.int .i64)])) = F32 b := by kernel_rfl
noncomputable def C32 : Ctx := Ctx.addA C31 32 [.aggA (.pair .bool (.pair (.slice 5 (.int .u8)) (.pair .bool (.pair (.slice 22 (.slice 5 (.int .u8))) (.slice 5 (.int .u8))))))] (.tup [.agg [.bool, .fresh 5 (.int .u8), .bool, .fresh 22 (.slice 5 (.int .u8)), .fresh 5 (.int .u8)], .leaf (.int .i64)]) F32
theorem s32 : C32.Sound := Ctx.Sound.addA (C := C31) mixed s31 Try.func32 ev32
/-! damson/damsonref22.Hear -/
def H34 : Nat → Head := fun _ => ⟨[], []⟩
noncomputable def F34 (b : (Bool × (List Int × (Bool × (List (List Int) × List Int)))) × List Int) : Option ((Bool × List Int × Bool × List (List Int) × List Int) × Int × Int) :=
 (F50 (b.1.1, (b.1.2.1, (b.1.2.2.1, (b.1.2.2.2.1, b.1.2.2.2.2))))).bind fun r1 =>
 bif (!decide (r1 = 0)) then (
 some ((false, ([] : List Int), false, ([] : List (List Int)), ([] : List Int)), 0, r1))
 else (
 (F21 ((b.1.2.1, b.1.2.2.1), b.2)).bind fun r2 =>
 bif (!decide (r2.2.2 = 0)) then (
 some ((false, ([] : List Int), false, ([] : List (List Int)), ([] : List Int)), 0, r2.2.2))
 else (
 bif decide (8 < (IntKind.wrap .i64 ((b.1.2.2.2.1.length : Int) + (r2.2.1.length : Int)))) then (
 some ((false, ([] : List Int), false, ([] : List (List Int)), ([] : List Int)), 0, 7))
 else (
 (F28 (b.1.1, (b.1.2.1, (b.1.2.2.1, (b.1.2.2.2.1, b.1.2.2.2.2))))).bind fun r3 =>
 bif decide ((r3.2.2.2.1.length + r2.2.1.length) * 24 ≤ LIM) then
 some ((r3.1, r2.1.1, r2.1.2, r3.2.2.2.1 ++ r2.2.1, r3.2.2.2.2), (r2.2.1.length : Int), 0)
 else none)))
theorem ev34 (b : (Bool × (List Int × (Bool × (List (List Int) × List Int)))) × List Int) : evF C32 H34 Try.f34 (encs [.aggA (.pair .bool (.pair (.slice 5 (.int .u8)) (.pair .bool (.pair (.slice 22 (.slice 5 (.int .u8))) (.slice 5 (.int .u8)))))), .oneA (.slice 5 (.int .u8))] b) (RT.dec (.tup [.agg [.bool, .fresh 5 (.int .u8), .bool, .fresh 22 (.slice 5 (.int .u8)), .sl 5 (.int .u8)], .leaf (.int .i64), .leaf (.int .i64)])) = F34 b := by kernel_rfl
noncomputable def C34 : Ctx := Ctx.addA C32 34 [.aggA (.pair .bool (.pair (.slice 5 (.int .u8)) (.pair .bool (.pair (.slice 22 (.slice 5 (.int .u8))) (.slice 5 (.int .u8)))))), .oneA (.slice 5 (.int .u8))] (.tup [.agg [.bool, .fresh 5 (.int .u8), .bool, .fresh 22 (.slice 5 (.int .u8)), .sl 5 (.int .u8)], .leaf (.int .i64), .leaf (.int .i64)]) F34
theorem s34 : C34.Sound := Ctx.Sound.addA (C := C32) mixed s32 Try.func34 ev34
/-! damson/session.Next -/
def H35 : Nat → Head
  | 5000009 => ⟨[], [0, 0, 0, 0, 1, 1, 7, 2, 15, 0]⟩
  | _ => ⟨[], []⟩
noncomputable def F35 (b : (Bool × (List Int × (Bool × (List (List Int) × List Int))))) : Option (List Int × (Bool × List Int × Bool × List (List Int) × List Int) × Int) :=
 (F49 (b.1, (b.2.1, (b.2.2.1, (b.2.2.2.1, b.2.2.2.2))))).bind fun r1 =>
 bif (!decide (r1 = 0)) then (
 some (([] : List Int), (false, ([] : List Int), false, ([] : List (List Int)), ([] : List Int)), r1))
 else (
 bif decide ((b.2.2.2.1.length : Int) = 0) then (
 some (([] : List Int), (false, ([] : List Int), false, ([] : List (List Int)), ([] : List Int)), 5))
 else (
 (F51 (b.1, (b.2.1, (b.2.2.1, (b.2.2.2.1, b.2.2.2.2))))).bind fun r2 =>
 bif inb 0 r2.2.2.2.1.length then
 bif inb 1 (r2.2.2.2.1.length + 1) then
 some ((rd (.slice 5 (.int .u8)) r2.2.2.2.1 0), (r2.1, r2.2.1, r2.2.2.1, r2.2.2.2.1.drop ((1 : Int).toNat), r2.2.2.2.2), 0)
 else none
 else none))
theorem ev35 (b : (Bool × (List Int × (Bool × (List (List Int) × List Int))))) : evF C34 H35 Try.f35 (encs [.aggA (.pair .bool (.pair (.slice 5 (.int .u8)) (.pair .bool (.pair (.slice 22 (.slice 5 (.int .u8))) (.slice 5 (.int .u8))))))] b) (RT.dec (.tup [.leaf (.sl 5 (.int .u8)), .agg [.bool, .fresh 5 (.int .u8), .bool, .sl 22 (.slice 5 (.int .u8)), .fresh 5 (.int .u8)], .leaf (.int .i64)])) = F35 b := by kernel_rfl
noncomputable def C35 : Ctx := Ctx.addA C34 35 [.aggA (.pair .bool (.pair (.slice 5 (.int .u8)) (.pair .bool (.pair (.slice 22 (.slice 5 (.int .u8))) (.slice 5 (.int .u8))))))] (.tup [.leaf (.sl 5 (.int .u8)), .agg [.bool, .fresh 5 (.int .u8), .bool, .sl 22 (.slice 5 (.int .u8)), .fresh 5 (.int .u8)], .leaf (.int .i64)]) F35
theorem s35 : C35.Sound := Ctx.Sound.addA (C := C34) mixed s34 Try.func35 ev35
/-! damson/damsonref22.Next -/
def H36 : Nat → Head
  | 5000009 => ⟨[], [0, 0, 0, 0, 1, 1, 7, 2, 15, 0]⟩
  | _ => ⟨[], []⟩
noncomputable def F36 (b : (Bool × (List Int × (Bool × (List (List Int) × List Int))))) : Option (List Int × (Bool × List Int × Bool × List (List Int) × List Int) × Int) :=
 (F50 (b.1, (b.2.1, (b.2.2.1, (b.2.2.2.1, b.2.2.2.2))))).bind fun r1 =>
 bif (!decide (r1 = 0)) then (
 some (([] : List Int), (false, ([] : List Int), false, ([] : List (List Int)), ([] : List Int)), r1))
 else (
 bif decide ((b.2.2.2.1.length : Int) = 0) then (
 some (([] : List Int), (false, ([] : List Int), false, ([] : List (List Int)), ([] : List Int)), 5))
 else (
 (F28 (b.1, (b.2.1, (b.2.2.1, (b.2.2.2.1, b.2.2.2.2))))).bind fun r2 =>
 bif inb 0 r2.2.2.2.1.length then
 bif inb 1 (r2.2.2.2.1.length + 1) then
 some ((rd (.slice 5 (.int .u8)) r2.2.2.2.1 0), (r2.1, r2.2.1, r2.2.2.1, r2.2.2.2.1.drop ((1 : Int).toNat), r2.2.2.2.2), 0)
 else none
 else none))
theorem ev36 (b : (Bool × (List Int × (Bool × (List (List Int) × List Int))))) : evF C35 H36 Try.f36 (encs [.aggA (.pair .bool (.pair (.slice 5 (.int .u8)) (.pair .bool (.pair (.slice 22 (.slice 5 (.int .u8))) (.slice 5 (.int .u8))))))] b) (RT.dec (.tup [.leaf (.sl 5 (.int .u8)), .agg [.bool, .sl 5 (.int .u8), .bool, .sl 22 (.slice 5 (.int .u8)), .sl 5 (.int .u8)], .leaf (.int .i64)])) = F36 b := by kernel_rfl
noncomputable def C36 : Ctx := Ctx.addA C35 36 [.aggA (.pair .bool (.pair (.slice 5 (.int .u8)) (.pair .bool (.pair (.slice 22 (.slice 5 (.int .u8))) (.slice 5 (.int .u8))))))] (.tup [.leaf (.sl 5 (.int .u8)), .agg [.bool, .sl 5 (.int .u8), .bool, .sl 22 (.slice 5 (.int .u8)), .sl 5 (.int .u8)], .leaf (.int .i64)]) F36
theorem s36 : C36.Sound := Ctx.Sound.addA (C := C35) mixed s35 Try.func36 ev36
/-! damson/damsonlaw22.SessionHears -/
def H7 : Nat → Head
  | 16 => ⟨[.data 150 (.int .i64)], [339971, 339969, 286724, 286723, 286721, 266244, 266243, 266241, 245764, 245763, 245761, 225284, 225283, 225281, 212995]⟩
  | 19 => ⟨[.data 159 (.int .i64)], [339971, 339969, 286724, 286723, 286721, 266244, 266243, 266241, 245764, 245763, 245761, 225284, 225283, 225281, 212995]⟩
  | 25 => ⟨[.data 176 (.int .i64)], [339971, 339969, 286724, 286723, 286721, 266244, 266243, 266241, 245764, 245763, 245761, 225284, 225283, 225281, 212995]⟩
  | 30 => ⟨[.data 189 (.int .i64)], [339971, 339969, 286724, 286723, 286721, 266244, 266243, 266241, 245764, 245763, 245761, 225284, 225283, 225281, 212995]⟩
  | 1000000 => ⟨[], [2]⟩
  | 1000005 => ⟨[], [5]⟩
  | 1000006 => ⟨[], [6]⟩
  | 1000007 => ⟨[], [8]⟩
  | 1000008 => ⟨[], [10]⟩
  | 1000009 => ⟨[], [12]⟩
  | 1000010 => ⟨[], [14]⟩
  | 1000011 => ⟨[], [17]⟩
  | 1000012 => ⟨[], [21]⟩
  | 1000013 => ⟨[], [24]⟩
  | 7000016 => ⟨[], [1]⟩
  | 9000000 => ⟨[], [1]⟩
  | 4000000 => ⟨[], [1099511627852, 1099511627865]⟩
  | _ => ⟨[], []⟩
noncomputable def F7 (b : (Bool × (List Int × (Bool × (List (List Int) × List Int)))) × List Int) : Option Bool :=
 (F26 ()).bind fun r1 =>
 bif (!r1) then (
 some false)
 else (
 (F27 (b.1.1, (b.1.2.1, (b.1.2.2.1, (b.1.2.2.2.1, b.1.2.2.2.2))))).bind fun r2 =>
 bif ((!r2) == false) then (
 bif (bif (bif decide (1000 < (b.2.length : Int)) then decide ((b.2.length : Int) ≤ 65535) else false) then true else decide (65540 < (b.2.length : Int))) then (
 some true)
 else (
 (F28 (b.1.1, (b.1.2.1, (b.1.2.2.1, (b.1.2.2.2.1, b.1.2.2.2.2))))).bind fun r3 =>
 (F29 (b.1.1, (b.1.2.1, (b.1.2.2.1, (b.1.2.2.2.1, b.1.2.2.2.2))))).bind fun r4 =>
 (F30 (b.1.1, (b.1.2.1, (b.1.2.2.1, (b.1.2.2.2.1, b.1.2.2.2.2))))).bind fun r5 =>
 (F31 (b.1.1, (b.1.2.1, (b.1.2.2.1, (b.1.2.2.2.1, b.1.2.2.2.2))))).bind fun r6 =>
 (F32 (b.1.1, (b.1.2.1, (b.1.2.2.1, (b.1.2.2.2.1, b.1.2.2.2.2))))).bind fun r7 =>
 (F33 ((b.1.1, (b.1.2.1, (b.1.2.2.1, (b.1.2.2.2.1, b.1.2.2.2.2)))), b.2)).bind fun r8 =>
 (F34 ((b.1.1, (b.1.2.1, (b.1.2.2.1, (b.1.2.2.2.1, b.1.2.2.2.2)))), b.2)).bind fun r9 =>
 (F35 (b.1.1, (b.1.2.1, (b.1.2.2.1, (b.1.2.2.2.1, b.1.2.2.2.2))))).bind fun r10 =>
 (F36 (b.1.1, (b.1.2.1, (b.1.2.2.1, (b.1.2.2.2.1, b.1.2.2.2.2))))).bind fun r11 =>
 (F37 ((r4.1.1, (r4.1.2.1, (r4.1.2.2.1, (r4.1.2.2.2.1, r4.1.2.2.2.2)))), (r5.1.1, (r5.1.2.1, (r5.1.2.2.1, (r5.1.2.2.2.1, r5.1.2.2.2.2)))))).bind fun r12 =>
 bif ((bif r12 then decide (r4.2 = r5.2) else false) == true) then (
 (F37 ((r6.1.1, (r6.1.2.1, (r6.1.2.2.1, (r6.1.2.2.2.1, r6.1.2.2.2.2)))), (r7.1.1, (r7.1.2.1, (r7.1.2.2.1, (r7.1.2.2.2.1, r7.1.2.2.2.2)))))).bind fun r13 =>
 bif ((bif r13 then decide (r6.2 = r7.2) else false) == true) then (
 (F37 ((r8.1.1, (r8.1.2.1, (r8.1.2.2.1, (r8.1.2.2.2.1, r8.1.2.2.2.2)))), (r9.1.1, (r9.1.2.1, (r9.1.2.2.1, (r9.1.2.2.2.1, r9.1.2.2.2.2)))))).bind fun r14 =>
 bif ((bif (bif r14 then decide (r8.2.1 = r9.2.1) else false) then decide (r8.2.2 = r9.2.2) else false) == true) then (
 (F23 (r10.1, r11.1)).bind fun r15 =>
 bif (r15 == true) then (
 (F37 ((r10.2.1.1, (r10.2.1.2.1, (r10.2.1.2.2.1, (r10.2.1.2.2.2.1, r10.2.1.2.2.2.2)))), (r11.2.1.1, (r11.2.1.2.1, (r11.2.1.2.2.1, (r11.2.1.2.2.2.1, r11.2.1.2.2.2.2)))))).bind fun r16 =>
 lfp (fun (rec17 : Int → Option Bool) (x17 : Int) =>
  bif decide (x17 < (r8.1.2.2.2.1.length : Int)) then (
  bif inb x17 r8.1.2.2.2.1.length then
  lfp (fun (rec18 : Int → Option Bool) (x18 : Int) =>
   bif decide (x18 < ((rd (.slice 5 (.int .u8)) r8.1.2.2.2.1 x17).length : Int)) then (
   bif inb x17 r8.1.2.2.2.1.length then
   bif inb x18 (rd (.slice 5 (.int .u8)) r8.1.2.2.2.1 x17).length then
   bif inb x18 (rd (.slice 5 (.int .u8)) r8.1.2.2.2.1 x17).length then
   rec18 (IntKind.wrap .i64 (x18 + 1))
   else none
   else none
   else none)
   else (
   rec17 (IntKind.wrap .i64 (x17 + 1)))) 0
  else none)
  else (
  lfp (fun (rec19 : Int → Option Bool) (x19 : Int) =>
   bif decide (x19 < (r10.1.length : Int)) then (
   bif inb x19 r10.1.length then
   bif inb x19 r10.1.length then
   rec19 (IntKind.wrap .i64 (x19 + 1))
   else none
   else none)
   else (
   lfp (fun (rec20 : Int → Option Bool) (x20 : Int) =>
    bif decide (x20 < (r10.2.1.2.2.2.2.length : Int)) then (
    bif inb x20 r10.2.1.2.2.2.2.length then
    bif inb x20 r10.2.1.2.2.2.2.length then
    rec20 (IntKind.wrap .i64 (x20 + 1))
    else none
    else none)
    else (
    bif ((bif r16 then decide (r10.2.2 = r11.2.2) else false) == true) then (
    (F37 ((b.1.1, (b.1.2.1, (b.1.2.2.1, (b.1.2.2.2.1, b.1.2.2.2.2)))), (r3.1, (r3.2.1, (r3.2.2.1, (r3.2.2.2.1, r3.2.2.2.2)))))).bind fun r21 =>
    some r21)
    else (
    some false))) 0)) 0)) 0)
 else (
 lfp (fun (rec22 : Int → Option Bool) (x22 : Int) =>
  bif decide (x22 < (r8.1.2.2.2.1.length : Int)) then (
  bif inb x22 r8.1.2.2.2.1.length then
  lfp (fun (rec23 : Int → Option Bool) (x23 : Int) =>
   bif decide (x23 < ((rd (.slice 5 (.int .u8)) r8.1.2.2.2.1 x22).length : Int)) then (
   bif inb x22 r8.1.2.2.2.1.length then
   bif inb x23 (rd (.slice 5 (.int .u8)) r8.1.2.2.2.1 x22).length then
   bif inb x23 (rd (.slice 5 (.int .u8)) r8.1.2.2.2.1 x22).length then
   rec23 (IntKind.wrap .i64 (x23 + 1))
   else none
   else none
   else none)
   else (
   rec22 (IntKind.wrap .i64 (x22 + 1)))) 0
  else none)
  else (
  lfp (fun (rec24 : Int → Option Bool) (x24 : Int) =>
   bif decide (x24 < (r10.1.length : Int)) then (
   bif inb x24 r10.1.length then
   bif inb x24 r10.1.length then
   rec24 (IntKind.wrap .i64 (x24 + 1))
   else none
   else none)
   else (
   lfp (fun (rec25 : Int → Option Bool) (x25 : Int) =>
    bif decide (x25 < (r10.2.1.2.2.2.2.length : Int)) then (
    bif inb x25 r10.2.1.2.2.2.2.length then
    bif inb x25 r10.2.1.2.2.2.2.length then
    rec25 (IntKind.wrap .i64 (x25 + 1))
    else none
    else none)
    else (
    some false)) 0)) 0)) 0))
 else (
 lfp (fun (rec26 : Int → Option Bool) (x26 : Int) =>
  bif decide (x26 < (r8.1.2.2.2.1.length : Int)) then (
  bif inb x26 r8.1.2.2.2.1.length then
  lfp (fun (rec27 : Int → Option Bool) (x27 : Int) =>
   bif decide (x27 < ((rd (.slice 5 (.int .u8)) r8.1.2.2.2.1 x26).length : Int)) then (
   bif inb x26 r8.1.2.2.2.1.length then
   bif inb x27 (rd (.slice 5 (.int .u8)) r8.1.2.2.2.1 x26).length then
   bif inb x27 (rd (.slice 5 (.int .u8)) r8.1.2.2.2.1 x26).length then
   rec27 (IntKind.wrap .i64 (x27 + 1))
   else none
   else none
   else none)
   else (
   rec26 (IntKind.wrap .i64 (x26 + 1)))) 0
  else none)
  else (
  lfp (fun (rec28 : Int → Option Bool) (x28 : Int) =>
   bif decide (x28 < (r10.1.length : Int)) then (
   bif inb x28 r10.1.length then
   bif inb x28 r10.1.length then
   rec28 (IntKind.wrap .i64 (x28 + 1))
   else none
   else none)
   else (
   lfp (fun (rec29 : Int → Option Bool) (x29 : Int) =>
    bif decide (x29 < (r10.2.1.2.2.2.2.length : Int)) then (
    bif inb x29 r10.2.1.2.2.2.2.length then
    bif inb x29 r10.2.1.2.2.2.2.length then
    rec29 (IntKind.wrap .i64 (x29 + 1))
    else none
    else none)
    else (
    some false)) 0)) 0)) 0))
 else (
 lfp (fun (rec30 : Int → Option Bool) (x30 : Int) =>
  bif decide (x30 < (r8.1.2.2.2.1.length : Int)) then (
  bif inb x30 r8.1.2.2.2.1.length then
  lfp (fun (rec31 : Int → Option Bool) (x31 : Int) =>
   bif decide (x31 < ((rd (.slice 5 (.int .u8)) r8.1.2.2.2.1 x30).length : Int)) then (
   bif inb x30 r8.1.2.2.2.1.length then
   bif inb x31 (rd (.slice 5 (.int .u8)) r8.1.2.2.2.1 x30).length then
   bif inb x31 (rd (.slice 5 (.int .u8)) r8.1.2.2.2.1 x30).length then
   rec31 (IntKind.wrap .i64 (x31 + 1))
   else none
   else none
   else none)
   else (
   rec30 (IntKind.wrap .i64 (x30 + 1)))) 0
  else none)
  else (
  lfp (fun (rec32 : Int → Option Bool) (x32 : Int) =>
   bif decide (x32 < (r10.1.length : Int)) then (
   bif inb x32 r10.1.length then
   bif inb x32 r10.1.length then
   rec32 (IntKind.wrap .i64 (x32 + 1))
   else none
   else none)
   else (
   lfp (fun (rec33 : Int → Option Bool) (x33 : Int) =>
    bif decide (x33 < (r10.2.1.2.2.2.2.length : Int)) then (
    bif inb x33 r10.2.1.2.2.2.2.length then
    bif inb x33 r10.2.1.2.2.2.2.length then
    rec33 (IntKind.wrap .i64 (x33 + 1))
    else none
    else none)
    else (
    some false)) 0)) 0)) 0))
 else (
 lfp (fun (rec34 : Int → Option Bool) (x34 : Int) =>
  bif decide (x34 < (r8.1.2.2.2.1.length : Int)) then (
  bif inb x34 r8.1.2.2.2.1.length then
  lfp (fun (rec35 : Int → Option Bool) (x35 : Int) =>
   bif decide (x35 < ((rd (.slice 5 (.int .u8)) r8.1.2.2.2.1 x34).length : Int)) then (
   bif inb x34 r8.1.2.2.2.1.length then
   bif inb x35 (rd (.slice 5 (.int .u8)) r8.1.2.2.2.1 x34).length then
   bif inb x35 (rd (.slice 5 (.int .u8)) r8.1.2.2.2.1 x34).length then
   rec35 (IntKind.wrap .i64 (x35 + 1))
   else none
   else none
   else none)
   else (
   rec34 (IntKind.wrap .i64 (x34 + 1)))) 0
  else none)
  else (
  lfp (fun (rec36 : Int → Option Bool) (x36 : Int) =>
   bif decide (x36 < (r10.1.length : Int)) then (
   bif inb x36 r10.1.length then
   bif inb x36 r10.1.length then
   rec36 (IntKind.wrap .i64 (x36 + 1))
   else none
   else none)
   else (
   lfp (fun (rec37 : Int → Option Bool) (x37 : Int) =>
    bif decide (x37 < (r10.2.1.2.2.2.2.length : Int)) then (
    bif inb x37 r10.2.1.2.2.2.2.length then
    bif inb x37 r10.2.1.2.2.2.2.length then
    rec37 (IntKind.wrap .i64 (x37 + 1))
    else none
    else none)
    else (
    some false)) 0)) 0)) 0)))
 else (
 some true))
theorem ev7 (b : (Bool × (List Int × (Bool × (List (List Int) × List Int)))) × List Int) : evF C36 H7 Try.f7 (encs [.agg (.pair .bool (.pair (.slice 5 (.int .u8)) (.pair .bool (.pair (.slice 22 (.slice 5 (.int .u8))) (.slice 5 (.int .u8)))))), .one (.slice 5 (.int .u8))] b) (RT.dec (.one (.leaf (.bool)))) = F7 b := by kernel_rfl
noncomputable def C7 : Ctx := Ctx.add C36 7 [.agg (.pair .bool (.pair (.slice 5 (.int .u8)) (.pair .bool (.pair (.slice 22 (.slice 5 (.int .u8))) (.slice 5 (.int .u8)))))), .one (.slice 5 (.int .u8))] (.one (.leaf (.bool))) F7
theorem s7 : C7.Sound := Ctx.Sound.add (C := C36) mixed s36 Try.func7 ev7
end Go.Proofs.Ytdidfddgoheomaa.R2
