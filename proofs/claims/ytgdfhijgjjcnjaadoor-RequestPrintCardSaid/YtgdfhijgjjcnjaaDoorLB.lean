/- Part of a proof: what the program's functions come to. -/
import Derived.Test.YtgdfhijgjjcnjaaDoorFwSort
import Derived.Test.YtgdfhijgjjcnjaaDoorBPAY
import Derived.Test.YtgdfhijgjjcnjaaDoorProg
import Derived.KernelRfl
set_option linter.unusedVariables false
set_option linter.unusedSimpArgs false
set_option maxRecDepth 100000
namespace Go.Proofs.YtgdfhijgjjcnjaaDoor.R5
open Go Go.Fw Go.Proofs
def globs : Nat → Option ((t : Ty) × List t.den)
  | 0 => some ⟨(.int .i64), ([0, 71, 17, 79, 3, 2, 2, 0, 6, 4, 32] : List Int)⟩
  | _ => none
noncomputable def C_ : Ctx := Ctx.nilG Tryd.prog globs
theorem s_ : C_.Sound := Ctx.nilG_sound _ _
theorem mixed : Tryd.prog.follows .mixedOrders = true := by kernel_rfl
/-! damson/token.Get$1 -/
def H64 : Nat → Head := fun _ => ⟨[], []⟩
noncomputable def F64 (b : Int) : Option Int :=
 bif decide (b < 2) then (
 some (IntKind.wrap .u64 (1 + (IntKind.wrap .u64 b))))
 else (
 some (IntKind.wrap .u64 (16 + (IntKind.wrap .u64 (IntKind.wrap .i64 (b - 2))))))
theorem ev64 (b : Int) : evF C_ H64 Tryd.f64 (encs [.one (.int .i64)] b) (RT.dec (.one (.leaf (.int .u64)))) = F64 b := by kernel_rfl
noncomputable def C64 : Ctx := Ctx.add C_ 64 [.one (.int .i64)] (.one (.leaf (.int .u64))) F64
theorem s64 : C64.Sound := Ctx.Sound.add (C := C_) mixed s_ Tryd.func64 ev64
/-! damson/request.Print$1 -/
def H29 : Nat → Head := fun _ => ⟨[], []⟩
noncomputable def F29 (b : (Int × List Int)) : Option Bool :=
 some (bif decide (b.1 = 1) then true else decide (b.1 = 4))
theorem ev29 (b : (Int × List Int)) : evF C64 H29 Tryd.f29 (encs [.agg (.pair (.int .u64) (.slice 5 (.int .u8)))] b) (RT.dec (.one (.leaf (.bool)))) = F29 b := by kernel_rfl
noncomputable def C29 : Ctx := Ctx.add C64 29 [.agg (.pair (.int .u64) (.slice 5 (.int .u8)))] (.one (.leaf (.bool))) F29
theorem s29 : C29.Sound := Ctx.Sound.add (C := C64) mixed s64 Tryd.func29 ev29
/-! damson/request.records$2 -/
def H45 : Nat → Head := fun _ => ⟨[], []⟩
noncomputable def F45 (b : (Int × List Int) × (Int × List Int)) : Option Int :=
 some (IntKind.wrap .i64 ((IntKind.wrap .i64 b.1.1) - (IntKind.wrap .i64 b.2.1)))
theorem ev45 (b : (Int × List Int) × (Int × List Int)) : evF C29 H45 Tryd.f45 (encs [.agg (.pair (.int .u64) (.slice 5 (.int .u8))), .agg (.pair (.int .u64) (.slice 5 (.int .u8)))] b) (RT.dec (.one (.leaf (.int .i64)))) = F45 b := by kernel_rfl
noncomputable def C45 : Ctx := Ctx.add C29 45 [.agg (.pair (.int .u64) (.slice 5 (.int .u8))), .agg (.pair (.int .u64) (.slice 5 (.int .u8)))] (.one (.leaf (.int .i64))) F45
theorem s45 : C45.Sound := Ctx.Sound.add (C := C29) mixed s29 Tryd.func45 ev45
/-! slices.Max[[]uint64,uint64] -/
def H36 : Nat → Head
  | 5 => ⟨[.data 3 (.int .u64), .data 4 (.int .i64)], []⟩
  | _ => ⟨[], []⟩
noncomputable def F36 (b : List Int) : Option Int :=
 bif decide ((b.length : Int) < 1) then (
 none)
 else (
 bif inb 0 b.length then
 lfp (fun (rec1 : (Int × Int) → Option Int) (x1 : Int × Int) =>
  bif decide (x1.2 < (b.length : Int)) then (
  bif inb x1.2 b.length then
  rec1 ((if x1.1 < (rd (.int .u64) b x1.2) then (rd (.int .u64) b x1.2) else x1.1), (IntKind.wrap .i64 (x1.2 + 1)))
  else none)
  else (
  some x1.1)) ((rd (.int .u64) b 0), 1)
 else none)
theorem ev36 (b : List Int) : evF C45 H36 Tryd.f36 (encs [.one (.slice 22 (.int .u64))] b) (RT.dec (.one (.leaf (.int .u64)))) = F36 b := by kernel_rfl
noncomputable def C36 : Ctx := Ctx.add C45 36 [.one (.slice 22 (.int .u64))] (.one (.leaf (.int .u64))) F36
theorem s36 : C36.Sound := Ctx.Sound.add (C := C45) mixed s45 Tryd.func36 ev36
/-! damson/money.Check -/
def H20 : Nat → Head := fun _ => ⟨[], []⟩
noncomputable def F20 (b : List Int) : Option Int :=
 bif (decide (0 < (b.length : Int)) == true) then (
 (F36 b).bind fun r1 =>
 bif decide (4611686018427387904 < r1) then (
 some 1)
 else (
 some 0))
 else (
 some 0)
theorem ev20 (b : List Int) : evF C36 H20 Tryd.f20 (encs [.one (.slice 22 (.int .u64))] b) (RT.dec (.one (.leaf (.int .i64)))) = F20 b := by kernel_rfl
noncomputable def C20 : Ctx := Ctx.add C36 20 [.one (.slice 22 (.int .u64))] (.one (.leaf (.int .i64))) F20
theorem s20 : C20.Sound := Ctx.Sound.add (C := C36) mixed s36 Tryd.func20 ev20
/-! damson/caveat.Check -/
def H19 : Nat → Head := fun _ => ⟨[], []⟩
noncomputable def F19 (b : (Int × (Int × Int))) : Option Int :=
 bif decide (b.1 = 4) then (
 (F20 ([b.2.1])).bind fun r1 =>
 some r1)
 else (
 bif decide (b.1 = 3) then (
 (F20 ([b.2.1])).bind fun r2 =>
 bif (!decide (r2 = 0)) then (
 some 1)
 else (
 bif (!decide (b.2.2 = 0)) then (
 some 1)
 else (
 some 0)))
 else (
 bif decide (b.1 = 2) then (
 bif decide (0 < (b.2.1 / 2 ^ (min (16 : Int).toNat 64))) then (
 some 1)
 else (
 bif (!decide (b.2.2 = 0)) then (
 some 1)
 else (
 some 0)))
 else (
 bif decide (b.1 = 1) then (
 bif decide (b.1 = 1) then (
 bif (!decide (b.2.2 = 0)) then (
 some 1)
 else (
 some 0))
 else (
 some 1))
 else (
 bif decide (b.1 = 5) then (
 bif (!decide (b.2.2 = 0)) then (
 some 1)
 else (
 some 0))
 else (
 some 1)))))
theorem ev19 (b : (Int × (Int × Int))) : evF C20 H19 Tryd.f19 (encs [.agg (.pair (.int .i64) (.pair (.int .u64) (.int .u64)))] b) (RT.dec (.one (.leaf (.int .i64)))) = F19 b := by kernel_rfl
noncomputable def C19 : Ctx := Ctx.add C20 19 [.agg (.pair (.int .i64) (.pair (.int .u64) (.int .u64)))] (.one (.leaf (.int .i64))) F19
theorem s19 : C19.Sound := Ctx.Sound.add (C := C20) mixed s20 Tryd.func19 ev19
/-! damson/request.Check$1 -/
def H18 : Nat → Head := fun _ => ⟨[], []⟩
noncomputable def F18 (b : (Int × (Int × Int))) : Option Bool :=
 (F19 (b.1, (b.2.1, b.2.2))).bind fun r1 =>
 some (!decide (r1 = 0))
theorem ev18 (b : (Int × (Int × Int))) : evF C19 H18 Tryd.f18 (encs [.agg (.pair (.int .i64) (.pair (.int .u64) (.int .u64)))] b) (RT.dec (.one (.leaf (.bool)))) = F18 b := by kernel_rfl
noncomputable def C18 : Ctx := Ctx.add C19 18 [.agg (.pair (.int .i64) (.pair (.int .u64) (.int .u64)))] (.one (.leaf (.bool))) F18
theorem s18 : C18.Sound := Ctx.Sound.add (C := C19) mixed s19 Tryd.func18 ev18
/-! damson/token.Check$1 -/
def H38 : Nat → Head := fun _ => ⟨[], []⟩
noncomputable def F38 (b : (Int × (Int × Int))) : Option Bool :=
 (F19 (b.1, (b.2.1, b.2.2))).bind fun r1 =>
 some (!decide (r1 = 0))
theorem ev38 (b : (Int × (Int × Int))) : evF C18 H38 Tryd.f38 (encs [.agg (.pair (.int .i64) (.pair (.int .u64) (.int .u64)))] b) (RT.dec (.one (.leaf (.bool)))) = F38 b := by kernel_rfl
noncomputable def C38 : Ctx := Ctx.add C18 38 [.agg (.pair (.int .i64) (.pair (.int .u64) (.int .u64)))] (.one (.leaf (.bool))) F38
theorem s38 : C38.Sound := Ctx.Sound.add (C := C18) mixed s18 Tryd.func38 ev38
/-! damson/batch.Sum$1 -/
def H23 : Nat → Head := fun _ => ⟨[], []⟩
noncomputable def F23 (b : (Int × Int)) : Option Bool :=
 bif (decide (b.2 = 0) == false) then (
 (F20 ([b.2])).bind fun r1 =>
 some (!decide (r1 = 0)))
 else (
 some true)
theorem ev23 (b : (Int × Int)) : evF C38 H23 Tryd.f23 (encs [.agg (.pair (.int .u64) (.int .u64))] b) (RT.dec (.one (.leaf (.bool)))) = F23 b := by kernel_rfl
noncomputable def C23 : Ctx := Ctx.add C38 23 [.agg (.pair (.int .u64) (.int .u64))] (.one (.leaf (.bool))) F23
theorem s23 : C23.Sound := Ctx.Sound.add (C := C38) mixed s38 Tryd.func23 ev23
/-! damson/money.Add -/
def H25 : Nat → Head
  | 5 => ⟨[.data 2 (.int .u64), .data 3 (.int .i64), .data 13 (.int .i64)], []⟩
  | _ => ⟨[], []⟩
noncomputable def F25 (b : List Int) : Option (Int × Int) :=
 (F20 b).bind fun r1 =>
 bif (!decide (r1 = 0)) then (
 some (0, r1))
 else (
 lfp (fun (rec2 : (Int × Int × Int) → Option (Int × Int)) (x2 : Int × Int × Int) =>
  bif decide (x2.2.2 < (b.length : Int)) then (
  bif inb x2.2.2 b.length then
  bif decide (4611686018427387904 < (IntKind.wrap .u64 (x2.1 + (rd (.int .u64) b x2.2.2)))) then (
  some (0, 8))
  else (
  rec2 ((IntKind.wrap .u64 (x2.1 + (rd (.int .u64) b x2.2.2))), x2.2.1, (IntKind.wrap .i64 (x2.2.2 + 1))))
  else none)
  else (
  some (x2.1, 0))) (0, r1, 0))
theorem ev25 (b : List Int) : evF C23 H25 Tryd.f25 (encs [.one (.slice 22 (.int .u64))] b) (RT.dec (.tup [.leaf (.int .u64), .leaf (.int .i64)])) = F25 b := by kernel_rfl
noncomputable def C25 : Ctx := Ctx.add C23 25 [.one (.slice 22 (.int .u64))] (.tup [.leaf (.int .u64), .leaf (.int .i64)]) F25
theorem s25 : C25.Sound := Ctx.Sound.add (C := C23) mixed s23 Tryd.func25 ev25
/-! slices.IndexFunc[[]damson/api.Item,damson/api.Item] -/
def H39023 : Nat → Head
  | 2 => ⟨[.data 4 (.int .i64), .data 8 (.int .i64)], []⟩
  | _ => ⟨[], []⟩
noncomputable def F39023 (b : List (Int × Int) × Unit) : Option Int :=
 lfp (fun (rec1 : (Int × Int) → Option Int) (x1 : Int × Int) =>
  bif decide (x1.2 < (b.1.length : Int)) then (
  bif inb x1.2 b.1.length then
  (F23 ((rd (.pair (.int .u64) (.int .u64)) b.1 x1.2).1, (rd (.pair (.int .u64) (.int .u64)) b.1 x1.2).2)).bind fun r2 =>
  bif r2 then (
  some x1.2)
  else (
  rec1 (x1.1, (IntKind.wrap .i64 (x1.2 + 1))))
  else none)
  else (
  some (-1))) (0, 0)
theorem ev39023 (b : List (Int × Int) × Unit) : evF C25 H39023 Tryd.f39 (encs [.one (.slice 57 (.pair (.int .u64) (.int .u64))), .fn 23] b) (RT.dec (.one (.leaf (.int .i64)))) = F39023 b := by kernel_rfl
noncomputable def C39023 : Ctx := Ctx.add C25 39 [.one (.slice 57 (.pair (.int .u64) (.int .u64))), .fn 23] (.one (.leaf (.int .i64))) F39023
theorem s39023 : C39023.Sound := Ctx.Sound.add (C := C25) mixed s25 Tryd.func39 ev39023
/-! slices.ContainsFunc[[]damson/api.Item,damson/api.Item] -/
def H24023 : Nat → Head := fun _ => ⟨[], []⟩
noncomputable def F24023 (b : List (Int × Int) × Unit) : Option Bool :=
 (F39023 (b.1, ())).bind fun r1 =>
 some (decide (0 ≤ r1))
theorem ev24023 (b : List (Int × Int) × Unit) : evF C39023 H24023 Tryd.f24 (encs [.one (.slice 57 (.pair (.int .u64) (.int .u64))), .fn 23] b) (RT.dec (.one (.leaf (.bool)))) = F24023 b := by kernel_rfl
noncomputable def C24023 : Ctx := Ctx.add C39023 24 [.one (.slice 57 (.pair (.int .u64) (.int .u64))), .fn 23] (.one (.leaf (.bool))) F24023
theorem s24023 : C24023.Sound := Ctx.Sound.add (C := C39023) mixed s39023 Tryd.func24 ev24023
/-! damson/batch.Sum -/
def H11 : Nat → Head
  | 5 => ⟨[.data 2 (.int .u64), .data 3 (.int .i64), .data 22 (.int .i64)], []⟩
  | _ => ⟨[], []⟩
noncomputable def F11 (b : List (Int × Int)) : Option (Int × Int) :=
 bif ((bif decide ((b.length : Int) = 0) then true else decide (16 < (b.length : Int))) == false) then (
 (F24023 (b, ())).bind fun r1 =>
 bif r1 then (
 some (0, 1))
 else (
 lfp (fun (rec2 : (Int × Int × Int) → Option (Int × Int)) (x2 : Int × Int × Int) =>
  bif decide (x2.2.2 < (b.length : Int)) then (
  bif inb x2.2.2 b.length then
  (F25 ([x2.1, (rd (.pair (.int .u64) (.int .u64)) b x2.2.2).2])).bind fun r3 =>
  bif (!decide (r3.2 = 0)) then (
  some (0, r3.2))
  else (
  rec2 (r3.1, r3.2, (IntKind.wrap .i64 (x2.2.2 + 1))))
  else none)
  else (
  some (x2.1, 0))) (0, 0, 0)))
 else (
 some (0, 1))
theorem ev11 (b : List (Int × Int)) : evF C24023 H11 Tryd.f11 (encs [.one (.slice 57 (.pair (.int .u64) (.int .u64)))] b) (RT.dec (.tup [.leaf (.int .u64), .leaf (.int .i64)])) = F11 b := by kernel_rfl
noncomputable def C11 : Ctx := Ctx.add C24023 11 [.one (.slice 57 (.pair (.int .u64) (.int .u64)))] (.tup [.leaf (.int .u64), .leaf (.int .i64)]) F11
theorem s11 : C11.Sound := Ctx.Sound.add (C := C24023) mixed s24023 Tryd.func11 ev11
/-! damson/request.has -/
def H17 : Nat → Head := fun _ => ⟨[], []⟩
noncomputable def F17 (b : Int) : Option (Int × Bool) :=
 bif (bif decide (b ≤ 0) then true else decide (11 ≤ b)) then (
 some (0, false))
 else (
 bif inb b 11 then
 some ((rd (.int .i64) ([0, 71, 17, 79, 3, 2, 2, 0, 6, 4, 32] : List Int) b), true)
 else none)
theorem ev17 (b : Int) : evF C11 H17 Tryd.f17 (encs [.one (.int .i64)] b) (RT.dec (.tup [.leaf (.int .i64), .leaf (.bool)])) = F17 b := by kernel_rfl
noncomputable def C17 : Ctx := Ctx.add C11 17 [.one (.int .i64)] (.tup [.leaf (.int .i64), .leaf (.bool)]) F17
theorem s17 : C17.Sound := Ctx.Sound.add (C := C11) mixed s11 Tryd.func17 ev17
/-! slices.IndexFunc[[]damson/api.Caveat,damson/api.Caveat] -/
def H37038 : Nat → Head
  | 2 => ⟨[.data 4 (.int .i64), .data 8 (.int .i64)], []⟩
  | _ => ⟨[], []⟩
noncomputable def F37038 (b : List (Int × (Int × Int)) × Unit) : Option Int :=
 lfp (fun (rec1 : (Int × Int) → Option Int) (x1 : Int × Int) =>
  bif decide (x1.2 < (b.1.length : Int)) then (
  bif inb x1.2 b.1.length then
  (F38 ((rd (.pair (.int .i64) (.pair (.int .u64) (.int .u64))) b.1 x1.2).1, (((rd (.pair (.int .i64) (.pair (.int .u64) (.int .u64))) b.1 x1.2).2).1, ((rd (.pair (.int .i64) (.pair (.int .u64) (.int .u64))) b.1 x1.2).2).2))).bind fun r2 =>
  bif r2 then (
  some x1.2)
  else (
  rec1 (x1.1, (IntKind.wrap .i64 (x1.2 + 1))))
  else none)
  else (
  some (-1))) (0, 0)
theorem ev37038 (b : List (Int × (Int × Int)) × Unit) : evF C17 H37038 Tryd.f37 (encs [.one (.slice 48 (.pair (.int .i64) (.pair (.int .u64) (.int .u64)))), .fn 38] b) (RT.dec (.one (.leaf (.int .i64)))) = F37038 b := by kernel_rfl
noncomputable def C37038 : Ctx := Ctx.add C17 37 [.one (.slice 48 (.pair (.int .i64) (.pair (.int .u64) (.int .u64)))), .fn 38] (.one (.leaf (.int .i64))) F37038
theorem s37038 : C37038.Sound := Ctx.Sound.add (C := C17) mixed s17 Tryd.func37 ev37038
/-! slices.ContainsFunc[[]damson/api.Caveat,damson/api.Caveat] -/
def H21038 : Nat → Head := fun _ => ⟨[], []⟩
noncomputable def F21038 (b : List (Int × (Int × Int)) × Unit) : Option Bool :=
 (F37038 (b.1, ())).bind fun r1 =>
 some (decide (0 ≤ r1))
theorem ev21038 (b : List (Int × (Int × Int)) × Unit) : evF C37038 H21038 Tryd.f21 (encs [.one (.slice 48 (.pair (.int .i64) (.pair (.int .u64) (.int .u64)))), .fn 38] b) (RT.dec (.one (.leaf (.bool)))) = F21038 b := by kernel_rfl
noncomputable def C21038 : Ctx := Ctx.add C37038 21 [.one (.slice 48 (.pair (.int .i64) (.pair (.int .u64) (.int .u64)))), .fn 38] (.one (.leaf (.bool))) F21038
theorem s21038 : C21038.Sound := Ctx.Sound.add (C := C37038) mixed s37038 Tryd.func21 ev21038
/-! damson/token.Check -/
def H22 : Nat → Head := fun _ => ⟨[], []⟩
noncomputable def F22 (b : (Int × (List (Int × (Int × Int)) × Int))) : Option Int :=
 bif ((bif (bif decide (16 < (b.2.1.length : Int)) then true else decide (b.2.2 < 0)) then true else decide (1048576 < b.2.2)) == false) then (
 (F21038 (b.2.1, ())).bind fun r1 =>
 bif r1 then (
 some 1)
 else (
 some 0))
 else (
 some 1)
theorem ev22 (b : (Int × (List (Int × (Int × Int)) × Int))) : evF C21038 H22 Tryd.f22 (encs [.agg (.pair (.int .u64) (.pair (.slice 48 (.pair (.int .i64) (.pair (.int .u64) (.int .u64)))) (.int .i64)))] b) (RT.dec (.one (.leaf (.int .i64)))) = F22 b := by kernel_rfl
noncomputable def C22 : Ctx := Ctx.add C21038 22 [.agg (.pair (.int .u64) (.pair (.slice 48 (.pair (.int .i64) (.pair (.int .u64) (.int .u64)))) (.int .i64)))] (.one (.leaf (.int .i64))) F22
theorem s22 : C22.Sound := Ctx.Sound.add (C := C21038) mixed s21038 Tryd.func22 ev22
/-! slices.IndexFunc[[]damson/api.Caveat,damson/api.Caveat] -/
def H37018 : Nat → Head
  | 2 => ⟨[.data 4 (.int .i64), .data 8 (.int .i64)], []⟩
  | _ => ⟨[], []⟩
noncomputable def F37018 (b : List (Int × (Int × Int)) × Unit) : Option Int :=
 lfp (fun (rec1 : (Int × Int) → Option Int) (x1 : Int × Int) =>
  bif decide (x1.2 < (b.1.length : Int)) then (
  bif inb x1.2 b.1.length then
  (F18 ((rd (.pair (.int .i64) (.pair (.int .u64) (.int .u64))) b.1 x1.2).1, (((rd (.pair (.int .i64) (.pair (.int .u64) (.int .u64))) b.1 x1.2).2).1, ((rd (.pair (.int .i64) (.pair (.int .u64) (.int .u64))) b.1 x1.2).2).2))).bind fun r2 =>
  bif r2 then (
  some x1.2)
  else (
  rec1 (x1.1, (IntKind.wrap .i64 (x1.2 + 1))))
  else none)
  else (
  some (-1))) (0, 0)
theorem ev37018 (b : List (Int × (Int × Int)) × Unit) : evF C22 H37018 Tryd.f37 (encs [.one (.slice 48 (.pair (.int .i64) (.pair (.int .u64) (.int .u64)))), .fn 18] b) (RT.dec (.one (.leaf (.int .i64)))) = F37018 b := by kernel_rfl
noncomputable def C37018 : Ctx := Ctx.add C22 37 [.one (.slice 48 (.pair (.int .i64) (.pair (.int .u64) (.int .u64)))), .fn 18] (.one (.leaf (.int .i64))) F37018
theorem s37018 : C37018.Sound := Ctx.Sound.add (C := C22) mixed s22 Tryd.func37 ev37018
/-! slices.ContainsFunc[[]damson/api.Caveat,damson/api.Caveat] -/
def H21018 : Nat → Head := fun _ => ⟨[], []⟩
noncomputable def F21018 (b : List (Int × (Int × Int)) × Unit) : Option Bool :=
 (F37018 (b.1, ())).bind fun r1 =>
 some (decide (0 ≤ r1))
theorem ev21018 (b : List (Int × (Int × Int)) × Unit) : evF C37018 H21018 Tryd.f21 (encs [.one (.slice 48 (.pair (.int .i64) (.pair (.int .u64) (.int .u64)))), .fn 18] b) (RT.dec (.one (.leaf (.bool)))) = F21018 b := by kernel_rfl
noncomputable def C21018 : Ctx := Ctx.add C37018 21 [.one (.slice 48 (.pair (.int .i64) (.pair (.int .u64) (.int .u64)))), .fn 18] (.one (.leaf (.bool))) F21018
theorem s21018 : C21018.Sound := Ctx.Sound.add (C := C37018) mixed s37018 Tryd.func21 ev21018
/-! damson/request.Check -/
def H10 : Nat → Head
  | 5 => ⟨[.data 4 .bool, .data 84 (.int .i64)], [335872, 176128]⟩
  | 1000000 => ⟨[], [1]⟩
  | 1000006 => ⟨[], [9]⟩
  | 5000004 => ⟨[], [0, 0, 1, 1, 2, 2, 4, 4, 0, 0, 16, 16, 32, 32, 64, 64, 0, 0, 256, 256, 512, 512, 0, 0, 2048, 2048, 4096, 4096, 8192, 8192, 16384, 16384, 49152, 49152, 81920, 81920, 147456, 147456, 262144, 262144, 786432, 786432, 1310720, 1310720, 2359296, 2359296, 4456448, 4456448, 8667136, 8667136, 16793600, 16793600, 33555456, 33555456, 0, 0, 134217728, 134217728, 268435456, 268435456, 536870912, 536870912, 0, 0, 2147483648, 2147483648, 4294967296, 4294967296, 8589934592, 8589934592, 0, 0, 34359738368, 34359738368, 85899345920, 85899345920, 0, 0, 274877906944, 274877906944, 549755813888, 549755813888, 1099511627776, 1099511627776, 0, 0, 4398046511104, 4398046511104, 8796093022208, 8796093022208, 17592186044416, 17592186044416, 35184376283136, 35184372088832, 70368744177664, 70368744177664, 211106232532992, 211106232532992, 351843720888320, 351843720888320, 633318697598976, 633318697598976, 1196268651020288, 1196268651020288, 2322168557862912, 2251799813685248, 4503599627370496, 4503599627370496, 13510798882111488, 13510798882111488, 4503599627370496, 4503599627370496, 58546795155816448, 58546795155816448, 76561193665298432, 76561193665298432, 148618787703226368, 148618787703226368, 288232575174967296, 288232575174967296, 576460890883227784, 576460890883227784, 1152921504606846976, 1152921504606846976, 0, 0]⟩
  | _ => ⟨[], []⟩
noncomputable def F10 (b : (Int × (Int × (Int × (Int × (List (Int × (Int × Int)) × (Int × (Int × (Int × (Int × (List (Int × Int) × List (Int × (Int × Int))))))))))))) : Option Int :=
 (F17 b.2.1).bind fun r1 =>
 (F11 b.2.2.2.2.2.2.2.2.2.1).bind fun r2 =>
 bif (decide ((bitOp .and .i64 r1.1 64) = 0) == false) then (
 bif (decide (0 < b.2.2.2.2.2.2.2.1) == true) then (
 (F20 ([b.2.2.2.2.2.2.2.1])).bind fun r3 =>
 bif ((bif decide (0 < (b.2.2.2.2.2.2.2.2.2.2.length : Int)) then decide ((b.2.2.2.2.2.2.2.2.2.2.length : Int) ≤ 16) else false) == true) then (
 (F21018 (b.2.2.2.2.2.2.2.2.2.2, ())).bind fun r4 =>
 lfp (fun (rec5 : (Bool × Int) → Option Int) (x5 : Bool × Int) =>
  bif decide (x5.2 < (([(1, ((!decide (b.2.2.1 = 0)), true)), (2, ((!decide (b.2.2.2.2.2.2.1 = 0)), true)), (4, ((!decide (b.2.2.2.2.2.2.2.1 = 0)), decide (r3 = 0))), (8, ((!decide (b.2.2.2.2.2.2.2.2.1 = 0)), true)), (16, (decide (0 < (b.2.2.2.2.2.2.2.2.2.1.length : Int)), decide (r2.2 = 0))), (32, (decide (0 < (b.2.2.2.2.2.2.2.2.2.2.length : Int)), (!r4)))]).length : Int)) then (
  bif inb x5.2 ([(1, ((!decide (b.2.2.1 = 0)), true)), (2, ((!decide (b.2.2.2.2.2.2.1 = 0)), true)), (4, ((!decide (b.2.2.2.2.2.2.2.1 = 0)), decide (r3 = 0))), (8, ((!decide (b.2.2.2.2.2.2.2.2.1 = 0)), true)), (16, (decide (0 < (b.2.2.2.2.2.2.2.2.2.1.length : Int)), decide (r2.2 = 0))), (32, (decide (0 < (b.2.2.2.2.2.2.2.2.2.2.length : Int)), (!r4)))]).length then
  bif (!decide ((bitOp .and .i64 r1.1 ((rd (.pair (.int .i64) (.pair .bool .bool)) ([(1, ((!decide (b.2.2.1 = 0)), true)), (2, ((!decide (b.2.2.2.2.2.2.1 = 0)), true)), (4, ((!decide (b.2.2.2.2.2.2.2.1 = 0)), decide (r3 = 0))), (8, ((!decide (b.2.2.2.2.2.2.2.2.1 = 0)), true)), (16, (decide (0 < (b.2.2.2.2.2.2.2.2.2.1.length : Int)), decide (r2.2 = 0))), (32, (decide (0 < (b.2.2.2.2.2.2.2.2.2.2.length : Int)), (!r4)))]) x5.2).1)) = 0)) then (
  rec5 ((bif x5.1 then ((rd (.pair (.int .i64) (.pair .bool .bool)) ([(1, ((!decide (b.2.2.1 = 0)), true)), (2, ((!decide (b.2.2.2.2.2.2.1 = 0)), true)), (4, ((!decide (b.2.2.2.2.2.2.2.1 = 0)), decide (r3 = 0))), (8, ((!decide (b.2.2.2.2.2.2.2.2.1 = 0)), true)), (16, (decide (0 < (b.2.2.2.2.2.2.2.2.2.1.length : Int)), decide (r2.2 = 0))), (32, (decide (0 < (b.2.2.2.2.2.2.2.2.2.2.length : Int)), (!r4)))]) x5.2).2).2 else false), (IntKind.wrap .i64 (x5.2 + 1))))
  else (
  rec5 ((bif x5.1 then (!((rd (.pair (.int .i64) (.pair .bool .bool)) ([(1, ((!decide (b.2.2.1 = 0)), true)), (2, ((!decide (b.2.2.2.2.2.2.1 = 0)), true)), (4, ((!decide (b.2.2.2.2.2.2.2.1 = 0)), decide (r3 = 0))), (8, ((!decide (b.2.2.2.2.2.2.2.2.1 = 0)), true)), (16, (decide (0 < (b.2.2.2.2.2.2.2.2.2.1.length : Int)), decide (r2.2 = 0))), (32, (decide (0 < (b.2.2.2.2.2.2.2.2.2.2.length : Int)), (!r4)))]) x5.2).2).1) else false), (IntKind.wrap .i64 (x5.2 + 1))))
  else none)
  else (
  bif ((!x5.1) == false) then (
  (F22 (b.2.2.2.1, (b.2.2.2.2.1, b.2.2.2.2.2.1))).bind fun r6 =>
  bif (!decide (r6 = 0)) then (
  some 1)
  else (
  some 0))
  else (
  some 1))) (r1.2, 0))
 else (
 lfp (fun (rec7 : (Bool × Int) → Option Int) (x7 : Bool × Int) =>
  bif decide (x7.2 < (([(1, ((!decide (b.2.2.1 = 0)), true)), (2, ((!decide (b.2.2.2.2.2.2.1 = 0)), true)), (4, ((!decide (b.2.2.2.2.2.2.2.1 = 0)), decide (r3 = 0))), (8, ((!decide (b.2.2.2.2.2.2.2.2.1 = 0)), true)), (16, (decide (0 < (b.2.2.2.2.2.2.2.2.2.1.length : Int)), decide (r2.2 = 0))), (32, (decide (0 < (b.2.2.2.2.2.2.2.2.2.2.length : Int)), false))]).length : Int)) then (
  bif inb x7.2 ([(1, ((!decide (b.2.2.1 = 0)), true)), (2, ((!decide (b.2.2.2.2.2.2.1 = 0)), true)), (4, ((!decide (b.2.2.2.2.2.2.2.1 = 0)), decide (r3 = 0))), (8, ((!decide (b.2.2.2.2.2.2.2.2.1 = 0)), true)), (16, (decide (0 < (b.2.2.2.2.2.2.2.2.2.1.length : Int)), decide (r2.2 = 0))), (32, (decide (0 < (b.2.2.2.2.2.2.2.2.2.2.length : Int)), false))]).length then
  bif (!decide ((bitOp .and .i64 r1.1 ((rd (.pair (.int .i64) (.pair .bool .bool)) ([(1, ((!decide (b.2.2.1 = 0)), true)), (2, ((!decide (b.2.2.2.2.2.2.1 = 0)), true)), (4, ((!decide (b.2.2.2.2.2.2.2.1 = 0)), decide (r3 = 0))), (8, ((!decide (b.2.2.2.2.2.2.2.2.1 = 0)), true)), (16, (decide (0 < (b.2.2.2.2.2.2.2.2.2.1.length : Int)), decide (r2.2 = 0))), (32, (decide (0 < (b.2.2.2.2.2.2.2.2.2.2.length : Int)), false))]) x7.2).1)) = 0)) then (
  rec7 ((bif x7.1 then ((rd (.pair (.int .i64) (.pair .bool .bool)) ([(1, ((!decide (b.2.2.1 = 0)), true)), (2, ((!decide (b.2.2.2.2.2.2.1 = 0)), true)), (4, ((!decide (b.2.2.2.2.2.2.2.1 = 0)), decide (r3 = 0))), (8, ((!decide (b.2.2.2.2.2.2.2.2.1 = 0)), true)), (16, (decide (0 < (b.2.2.2.2.2.2.2.2.2.1.length : Int)), decide (r2.2 = 0))), (32, (decide (0 < (b.2.2.2.2.2.2.2.2.2.2.length : Int)), false))]) x7.2).2).2 else false), (IntKind.wrap .i64 (x7.2 + 1))))
  else (
  rec7 ((bif x7.1 then (!((rd (.pair (.int .i64) (.pair .bool .bool)) ([(1, ((!decide (b.2.2.1 = 0)), true)), (2, ((!decide (b.2.2.2.2.2.2.1 = 0)), true)), (4, ((!decide (b.2.2.2.2.2.2.2.1 = 0)), decide (r3 = 0))), (8, ((!decide (b.2.2.2.2.2.2.2.2.1 = 0)), true)), (16, (decide (0 < (b.2.2.2.2.2.2.2.2.2.1.length : Int)), decide (r2.2 = 0))), (32, (decide (0 < (b.2.2.2.2.2.2.2.2.2.2.length : Int)), false))]) x7.2).2).1) else false), (IntKind.wrap .i64 (x7.2 + 1))))
  else none)
  else (
  bif ((!x7.1) == false) then (
  (F22 (b.2.2.2.1, (b.2.2.2.2.1, b.2.2.2.2.2.1))).bind fun r8 =>
  bif (!decide (r8 = 0)) then (
  some 1)
  else (
  some 0))
  else (
  some 1))) (r1.2, 0)))
 else (
 (both (
 bif ((bif decide (0 < (b.2.2.2.2.2.2.2.2.2.2.length : Int)) then decide ((b.2.2.2.2.2.2.2.2.2.2.length : Int) ≤ 16) else false) == true) then (
 (F21018 (b.2.2.2.2.2.2.2.2.2.2, ())).bind fun r9 =>
 lfp (fun (rec10 : (Bool × Int) → Option Int) (x10 : Bool × Int) =>
  bif decide (x10.2 < (([(1, ((!decide (b.2.2.1 = 0)), true)), (2, ((!decide (b.2.2.2.2.2.2.1 = 0)), true)), (4, ((!decide (b.2.2.2.2.2.2.2.1 = 0)), false)), (8, ((!decide (b.2.2.2.2.2.2.2.2.1 = 0)), true)), (16, (decide (0 < (b.2.2.2.2.2.2.2.2.2.1.length : Int)), decide (r2.2 = 0))), (32, (decide (0 < (b.2.2.2.2.2.2.2.2.2.2.length : Int)), (!r9)))]).length : Int)) then (
  bif inb x10.2 ([(1, ((!decide (b.2.2.1 = 0)), true)), (2, ((!decide (b.2.2.2.2.2.2.1 = 0)), true)), (4, ((!decide (b.2.2.2.2.2.2.2.1 = 0)), false)), (8, ((!decide (b.2.2.2.2.2.2.2.2.1 = 0)), true)), (16, (decide (0 < (b.2.2.2.2.2.2.2.2.2.1.length : Int)), decide (r2.2 = 0))), (32, (decide (0 < (b.2.2.2.2.2.2.2.2.2.2.length : Int)), (!r9)))]).length then
  bif (!decide ((bitOp .and .i64 r1.1 ((rd (.pair (.int .i64) (.pair .bool .bool)) ([(1, ((!decide (b.2.2.1 = 0)), true)), (2, ((!decide (b.2.2.2.2.2.2.1 = 0)), true)), (4, ((!decide (b.2.2.2.2.2.2.2.1 = 0)), false)), (8, ((!decide (b.2.2.2.2.2.2.2.2.1 = 0)), true)), (16, (decide (0 < (b.2.2.2.2.2.2.2.2.2.1.length : Int)), decide (r2.2 = 0))), (32, (decide (0 < (b.2.2.2.2.2.2.2.2.2.2.length : Int)), (!r9)))]) x10.2).1)) = 0)) then (
  rec10 ((bif x10.1 then ((rd (.pair (.int .i64) (.pair .bool .bool)) ([(1, ((!decide (b.2.2.1 = 0)), true)), (2, ((!decide (b.2.2.2.2.2.2.1 = 0)), true)), (4, ((!decide (b.2.2.2.2.2.2.2.1 = 0)), false)), (8, ((!decide (b.2.2.2.2.2.2.2.2.1 = 0)), true)), (16, (decide (0 < (b.2.2.2.2.2.2.2.2.2.1.length : Int)), decide (r2.2 = 0))), (32, (decide (0 < (b.2.2.2.2.2.2.2.2.2.2.length : Int)), (!r9)))]) x10.2).2).2 else false), (IntKind.wrap .i64 (x10.2 + 1))))
  else (
  rec10 ((bif x10.1 then (!((rd (.pair (.int .i64) (.pair .bool .bool)) ([(1, ((!decide (b.2.2.1 = 0)), true)), (2, ((!decide (b.2.2.2.2.2.2.1 = 0)), true)), (4, ((!decide (b.2.2.2.2.2.2.2.1 = 0)), false)), (8, ((!decide (b.2.2.2.2.2.2.2.2.1 = 0)), true)), (16, (decide (0 < (b.2.2.2.2.2.2.2.2.2.1.length : Int)), decide (r2.2 = 0))), (32, (decide (0 < (b.2.2.2.2.2.2.2.2.2.2.length : Int)), (!r9)))]) x10.2).2).1) else false), (IntKind.wrap .i64 (x10.2 + 1))))
  else none)
  else (
  bif ((!x10.1) == false) then (
  (F22 (b.2.2.2.1, (b.2.2.2.2.1, b.2.2.2.2.2.1))).bind fun r11 =>
  bif (!decide (r11 = 0)) then (
  some 1)
  else (
  some 0))
  else (
  some 1))) (r1.2, 0))
 else (
 lfp (fun (rec12 : (Bool × Int) → Option Int) (x12 : Bool × Int) =>
  bif decide (x12.2 < (([(1, ((!decide (b.2.2.1 = 0)), true)), (2, ((!decide (b.2.2.2.2.2.2.1 = 0)), true)), (4, ((!decide (b.2.2.2.2.2.2.2.1 = 0)), false)), (8, ((!decide (b.2.2.2.2.2.2.2.2.1 = 0)), true)), (16, (decide (0 < (b.2.2.2.2.2.2.2.2.2.1.length : Int)), decide (r2.2 = 0))), (32, (decide (0 < (b.2.2.2.2.2.2.2.2.2.2.length : Int)), false))]).length : Int)) then (
  bif inb x12.2 ([(1, ((!decide (b.2.2.1 = 0)), true)), (2, ((!decide (b.2.2.2.2.2.2.1 = 0)), true)), (4, ((!decide (b.2.2.2.2.2.2.2.1 = 0)), false)), (8, ((!decide (b.2.2.2.2.2.2.2.2.1 = 0)), true)), (16, (decide (0 < (b.2.2.2.2.2.2.2.2.2.1.length : Int)), decide (r2.2 = 0))), (32, (decide (0 < (b.2.2.2.2.2.2.2.2.2.2.length : Int)), false))]).length then
  bif (!decide ((bitOp .and .i64 r1.1 ((rd (.pair (.int .i64) (.pair .bool .bool)) ([(1, ((!decide (b.2.2.1 = 0)), true)), (2, ((!decide (b.2.2.2.2.2.2.1 = 0)), true)), (4, ((!decide (b.2.2.2.2.2.2.2.1 = 0)), false)), (8, ((!decide (b.2.2.2.2.2.2.2.2.1 = 0)), true)), (16, (decide (0 < (b.2.2.2.2.2.2.2.2.2.1.length : Int)), decide (r2.2 = 0))), (32, (decide (0 < (b.2.2.2.2.2.2.2.2.2.2.length : Int)), false))]) x12.2).1)) = 0)) then (
  rec12 ((bif x12.1 then ((rd (.pair (.int .i64) (.pair .bool .bool)) ([(1, ((!decide (b.2.2.1 = 0)), true)), (2, ((!decide (b.2.2.2.2.2.2.1 = 0)), true)), (4, ((!decide (b.2.2.2.2.2.2.2.1 = 0)), false)), (8, ((!decide (b.2.2.2.2.2.2.2.2.1 = 0)), true)), (16, (decide (0 < (b.2.2.2.2.2.2.2.2.2.1.length : Int)), decide (r2.2 = 0))), (32, (decide (0 < (b.2.2.2.2.2.2.2.2.2.2.length : Int)), false))]) x12.2).2).2 else false), (IntKind.wrap .i64 (x12.2 + 1))))
  else (
  rec12 ((bif x12.1 then (!((rd (.pair (.int .i64) (.pair .bool .bool)) ([(1, ((!decide (b.2.2.1 = 0)), true)), (2, ((!decide (b.2.2.2.2.2.2.1 = 0)), true)), (4, ((!decide (b.2.2.2.2.2.2.2.1 = 0)), false)), (8, ((!decide (b.2.2.2.2.2.2.2.2.1 = 0)), true)), (16, (decide (0 < (b.2.2.2.2.2.2.2.2.2.1.length : Int)), decide (r2.2 = 0))), (32, (decide (0 < (b.2.2.2.2.2.2.2.2.2.2.length : Int)), false))]) x12.2).2).1) else false), (IntKind.wrap .i64 (x12.2 + 1))))
  else none)
  else (
  bif ((!x12.1) == false) then (
  (F22 (b.2.2.2.1, (b.2.2.2.2.1, b.2.2.2.2.2.1))).bind fun r13 =>
  bif (!decide (r13 = 0)) then (
  some 1)
  else (
  some 0))
  else (
  some 1))) (r1.2, 0))) (
 bif ((bif decide (0 < (b.2.2.2.2.2.2.2.2.2.2.length : Int)) then decide ((b.2.2.2.2.2.2.2.2.2.2.length : Int) ≤ 16) else false) == true) then (
 (F21018 (b.2.2.2.2.2.2.2.2.2.2, ())).bind fun r9 =>
 lfp (fun (rec10 : (Bool × Int) → Option Int) (x10 : Bool × Int) =>
  bif decide (x10.2 < (([(1, ((!decide (b.2.2.1 = 0)), true)), (2, ((!decide (b.2.2.2.2.2.2.1 = 0)), true)), (4, ((!decide (b.2.2.2.2.2.2.2.1 = 0)), false)), (8, ((!decide (b.2.2.2.2.2.2.2.2.1 = 0)), true)), (16, (decide (0 < (b.2.2.2.2.2.2.2.2.2.1.length : Int)), decide (r2.2 = 0))), (32, (decide (0 < (b.2.2.2.2.2.2.2.2.2.2.length : Int)), (!r9)))]).length : Int)) then (
  bif inb x10.2 ([(1, ((!decide (b.2.2.1 = 0)), true)), (2, ((!decide (b.2.2.2.2.2.2.1 = 0)), true)), (4, ((!decide (b.2.2.2.2.2.2.2.1 = 0)), false)), (8, ((!decide (b.2.2.2.2.2.2.2.2.1 = 0)), true)), (16, (decide (0 < (b.2.2.2.2.2.2.2.2.2.1.length : Int)), decide (r2.2 = 0))), (32, (decide (0 < (b.2.2.2.2.2.2.2.2.2.2.length : Int)), (!r9)))]).length then
  bif (!decide ((bitOp .and .i64 r1.1 ((rd (.pair (.int .i64) (.pair .bool .bool)) ([(1, ((!decide (b.2.2.1 = 0)), true)), (2, ((!decide (b.2.2.2.2.2.2.1 = 0)), true)), (4, ((!decide (b.2.2.2.2.2.2.2.1 = 0)), false)), (8, ((!decide (b.2.2.2.2.2.2.2.2.1 = 0)), true)), (16, (decide (0 < (b.2.2.2.2.2.2.2.2.2.1.length : Int)), decide (r2.2 = 0))), (32, (decide (0 < (b.2.2.2.2.2.2.2.2.2.2.length : Int)), (!r9)))]) x10.2).1)) = 0)) then (
  rec10 ((bif x10.1 then ((rd (.pair (.int .i64) (.pair .bool .bool)) ([(1, ((!decide (b.2.2.1 = 0)), true)), (2, ((!decide (b.2.2.2.2.2.2.1 = 0)), true)), (4, ((!decide (b.2.2.2.2.2.2.2.1 = 0)), false)), (8, ((!decide (b.2.2.2.2.2.2.2.2.1 = 0)), true)), (16, (decide (0 < (b.2.2.2.2.2.2.2.2.2.1.length : Int)), decide (r2.2 = 0))), (32, (decide (0 < (b.2.2.2.2.2.2.2.2.2.2.length : Int)), (!r9)))]) x10.2).2).2 else false), (IntKind.wrap .i64 (x10.2 + 1))))
  else (
  rec10 ((bif x10.1 then (!((rd (.pair (.int .i64) (.pair .bool .bool)) ([(1, ((!decide (b.2.2.1 = 0)), true)), (2, ((!decide (b.2.2.2.2.2.2.1 = 0)), true)), (4, ((!decide (b.2.2.2.2.2.2.2.1 = 0)), false)), (8, ((!decide (b.2.2.2.2.2.2.2.2.1 = 0)), true)), (16, (decide (0 < (b.2.2.2.2.2.2.2.2.2.1.length : Int)), decide (r2.2 = 0))), (32, (decide (0 < (b.2.2.2.2.2.2.2.2.2.2.length : Int)), (!r9)))]) x10.2).2).1) else false), (IntKind.wrap .i64 (x10.2 + 1))))
  else none)
  else (
  bif ((!x10.1) == false) then (
  (F22 (b.2.2.2.1, (b.2.2.2.2.1, b.2.2.2.2.2.1))).bind fun r11 =>
  bif (!decide (r11 = 0)) then (
  some 1)
  else (
  some 0))
  else (
  some 1))) (r1.2, 0))
 else (
 (fun o => both o o) (
 lfp (fun (rec12 : (Bool × Int) → Option Int) (x12 : Bool × Int) =>
  bif decide (x12.2 < (([(1, ((!decide (b.2.2.1 = 0)), true)), (2, ((!decide (b.2.2.2.2.2.2.1 = 0)), true)), (4, ((!decide (b.2.2.2.2.2.2.2.1 = 0)), false)), (8, ((!decide (b.2.2.2.2.2.2.2.2.1 = 0)), true)), (16, (decide (0 < (b.2.2.2.2.2.2.2.2.2.1.length : Int)), decide (r2.2 = 0))), (32, (decide (0 < (b.2.2.2.2.2.2.2.2.2.2.length : Int)), false))]).length : Int)) then (
  bif inb x12.2 ([(1, ((!decide (b.2.2.1 = 0)), true)), (2, ((!decide (b.2.2.2.2.2.2.1 = 0)), true)), (4, ((!decide (b.2.2.2.2.2.2.2.1 = 0)), false)), (8, ((!decide (b.2.2.2.2.2.2.2.2.1 = 0)), true)), (16, (decide (0 < (b.2.2.2.2.2.2.2.2.2.1.length : Int)), decide (r2.2 = 0))), (32, (decide (0 < (b.2.2.2.2.2.2.2.2.2.2.length : Int)), false))]).length then
  bif (!decide ((bitOp .and .i64 r1.1 ((rd (.pair (.int .i64) (.pair .bool .bool)) ([(1, ((!decide (b.2.2.1 = 0)), true)), (2, ((!decide (b.2.2.2.2.2.2.1 = 0)), true)), (4, ((!decide (b.2.2.2.2.2.2.2.1 = 0)), false)), (8, ((!decide (b.2.2.2.2.2.2.2.2.1 = 0)), true)), (16, (decide (0 < (b.2.2.2.2.2.2.2.2.2.1.length : Int)), decide (r2.2 = 0))), (32, (decide (0 < (b.2.2.2.2.2.2.2.2.2.2.length : Int)), false))]) x12.2).1)) = 0)) then (
  rec12 ((bif x12.1 then ((rd (.pair (.int .i64) (.pair .bool .bool)) ([(1, ((!decide (b.2.2.1 = 0)), true)), (2, ((!decide (b.2.2.2.2.2.2.1 = 0)), true)), (4, ((!decide (b.2.2.2.2.2.2.2.1 = 0)), false)), (8, ((!decide (b.2.2.2.2.2.2.2.2.1 = 0)), true)), (16, (decide (0 < (b.2.2.2.2.2.2.2.2.2.1.length : Int)), decide (r2.2 = 0))), (32, (decide (0 < (b.2.2.2.2.2.2.2.2.2.2.length : Int)), false))]) x12.2).2).2 else false), (IntKind.wrap .i64 (x12.2 + 1))))
  else (
  rec12 ((bif x12.1 then (!((rd (.pair (.int .i64) (.pair .bool .bool)) ([(1, ((!decide (b.2.2.1 = 0)), true)), (2, ((!decide (b.2.2.2.2.2.2.1 = 0)), true)), (4, ((!decide (b.2.2.2.2.2.2.2.1 = 0)), false)), (8, ((!decide (b.2.2.2.2.2.2.2.2.1 = 0)), true)), (16, (decide (0 < (b.2.2.2.2.2.2.2.2.2.1.length : Int)), decide (r2.2 = 0))), (32, (decide (0 < (b.2.2.2.2.2.2.2.2.2.2.length : Int)), false))]) x12.2).2).1) else false), (IntKind.wrap .i64 (x12.2 + 1))))
  else none)
  else (
  bif ((!x12.1) == false) then (
  (F22 (b.2.2.2.1, (b.2.2.2.2.1, b.2.2.2.2.2.1))).bind fun r13 =>
  bif (!decide (r13 = 0)) then (
  some 1)
  else (
  some 0))
  else (
  some 1))) (r1.2, 0)))))))
 else (
 (both (
 bif ((bif decide (0 < (b.2.2.2.2.2.2.2.2.2.2.length : Int)) then decide ((b.2.2.2.2.2.2.2.2.2.2.length : Int) ≤ 16) else false) == true) then (
 (F21018 (b.2.2.2.2.2.2.2.2.2.2, ())).bind fun r14 =>
 lfp (fun (rec15 : (Bool × Int) → Option Int) (x15 : Bool × Int) =>
  bif decide (x15.2 < (([(1, ((!decide (b.2.2.1 = 0)), true)), (2, ((!decide (b.2.2.2.2.2.2.1 = 0)), true)), (4, ((!decide (b.2.2.2.2.2.2.2.1 = 0)), true)), (8, ((!decide (b.2.2.2.2.2.2.2.2.1 = 0)), true)), (16, (decide (0 < (b.2.2.2.2.2.2.2.2.2.1.length : Int)), decide (r2.2 = 0))), (32, (decide (0 < (b.2.2.2.2.2.2.2.2.2.2.length : Int)), (!r14)))]).length : Int)) then (
  bif inb x15.2 ([(1, ((!decide (b.2.2.1 = 0)), true)), (2, ((!decide (b.2.2.2.2.2.2.1 = 0)), true)), (4, ((!decide (b.2.2.2.2.2.2.2.1 = 0)), true)), (8, ((!decide (b.2.2.2.2.2.2.2.2.1 = 0)), true)), (16, (decide (0 < (b.2.2.2.2.2.2.2.2.2.1.length : Int)), decide (r2.2 = 0))), (32, (decide (0 < (b.2.2.2.2.2.2.2.2.2.2.length : Int)), (!r14)))]).length then
  bif (!decide ((bitOp .and .i64 r1.1 ((rd (.pair (.int .i64) (.pair .bool .bool)) ([(1, ((!decide (b.2.2.1 = 0)), true)), (2, ((!decide (b.2.2.2.2.2.2.1 = 0)), true)), (4, ((!decide (b.2.2.2.2.2.2.2.1 = 0)), true)), (8, ((!decide (b.2.2.2.2.2.2.2.2.1 = 0)), true)), (16, (decide (0 < (b.2.2.2.2.2.2.2.2.2.1.length : Int)), decide (r2.2 = 0))), (32, (decide (0 < (b.2.2.2.2.2.2.2.2.2.2.length : Int)), (!r14)))]) x15.2).1)) = 0)) then (
  rec15 ((bif x15.1 then ((rd (.pair (.int .i64) (.pair .bool .bool)) ([(1, ((!decide (b.2.2.1 = 0)), true)), (2, ((!decide (b.2.2.2.2.2.2.1 = 0)), true)), (4, ((!decide (b.2.2.2.2.2.2.2.1 = 0)), true)), (8, ((!decide (b.2.2.2.2.2.2.2.2.1 = 0)), true)), (16, (decide (0 < (b.2.2.2.2.2.2.2.2.2.1.length : Int)), decide (r2.2 = 0))), (32, (decide (0 < (b.2.2.2.2.2.2.2.2.2.2.length : Int)), (!r14)))]) x15.2).2).2 else false), (IntKind.wrap .i64 (x15.2 + 1))))
  else (
  rec15 ((bif x15.1 then (!((rd (.pair (.int .i64) (.pair .bool .bool)) ([(1, ((!decide (b.2.2.1 = 0)), true)), (2, ((!decide (b.2.2.2.2.2.2.1 = 0)), true)), (4, ((!decide (b.2.2.2.2.2.2.2.1 = 0)), true)), (8, ((!decide (b.2.2.2.2.2.2.2.2.1 = 0)), true)), (16, (decide (0 < (b.2.2.2.2.2.2.2.2.2.1.length : Int)), decide (r2.2 = 0))), (32, (decide (0 < (b.2.2.2.2.2.2.2.2.2.2.length : Int)), (!r14)))]) x15.2).2).1) else false), (IntKind.wrap .i64 (x15.2 + 1))))
  else none)
  else (
  bif ((!x15.1) == false) then (
  (F22 (b.2.2.2.1, (b.2.2.2.2.1, b.2.2.2.2.2.1))).bind fun r16 =>
  bif (!decide (r16 = 0)) then (
  some 1)
  else (
  some 0))
  else (
  some 1))) (r1.2, 0))
 else (
 lfp (fun (rec17 : (Bool × Int) → Option Int) (x17 : Bool × Int) =>
  bif decide (x17.2 < (([(1, ((!decide (b.2.2.1 = 0)), true)), (2, ((!decide (b.2.2.2.2.2.2.1 = 0)), true)), (4, ((!decide (b.2.2.2.2.2.2.2.1 = 0)), true)), (8, ((!decide (b.2.2.2.2.2.2.2.2.1 = 0)), true)), (16, (decide (0 < (b.2.2.2.2.2.2.2.2.2.1.length : Int)), decide (r2.2 = 0))), (32, (decide (0 < (b.2.2.2.2.2.2.2.2.2.2.length : Int)), false))]).length : Int)) then (
  bif inb x17.2 ([(1, ((!decide (b.2.2.1 = 0)), true)), (2, ((!decide (b.2.2.2.2.2.2.1 = 0)), true)), (4, ((!decide (b.2.2.2.2.2.2.2.1 = 0)), true)), (8, ((!decide (b.2.2.2.2.2.2.2.2.1 = 0)), true)), (16, (decide (0 < (b.2.2.2.2.2.2.2.2.2.1.length : Int)), decide (r2.2 = 0))), (32, (decide (0 < (b.2.2.2.2.2.2.2.2.2.2.length : Int)), false))]).length then
  bif (!decide ((bitOp .and .i64 r1.1 ((rd (.pair (.int .i64) (.pair .bool .bool)) ([(1, ((!decide (b.2.2.1 = 0)), true)), (2, ((!decide (b.2.2.2.2.2.2.1 = 0)), true)), (4, ((!decide (b.2.2.2.2.2.2.2.1 = 0)), true)), (8, ((!decide (b.2.2.2.2.2.2.2.2.1 = 0)), true)), (16, (decide (0 < (b.2.2.2.2.2.2.2.2.2.1.length : Int)), decide (r2.2 = 0))), (32, (decide (0 < (b.2.2.2.2.2.2.2.2.2.2.length : Int)), false))]) x17.2).1)) = 0)) then (
  rec17 ((bif x17.1 then ((rd (.pair (.int .i64) (.pair .bool .bool)) ([(1, ((!decide (b.2.2.1 = 0)), true)), (2, ((!decide (b.2.2.2.2.2.2.1 = 0)), true)), (4, ((!decide (b.2.2.2.2.2.2.2.1 = 0)), true)), (8, ((!decide (b.2.2.2.2.2.2.2.2.1 = 0)), true)), (16, (decide (0 < (b.2.2.2.2.2.2.2.2.2.1.length : Int)), decide (r2.2 = 0))), (32, (decide (0 < (b.2.2.2.2.2.2.2.2.2.2.length : Int)), false))]) x17.2).2).2 else false), (IntKind.wrap .i64 (x17.2 + 1))))
  else (
  rec17 ((bif x17.1 then (!((rd (.pair (.int .i64) (.pair .bool .bool)) ([(1, ((!decide (b.2.2.1 = 0)), true)), (2, ((!decide (b.2.2.2.2.2.2.1 = 0)), true)), (4, ((!decide (b.2.2.2.2.2.2.2.1 = 0)), true)), (8, ((!decide (b.2.2.2.2.2.2.2.2.1 = 0)), true)), (16, (decide (0 < (b.2.2.2.2.2.2.2.2.2.1.length : Int)), decide (r2.2 = 0))), (32, (decide (0 < (b.2.2.2.2.2.2.2.2.2.2.length : Int)), false))]) x17.2).2).1) else false), (IntKind.wrap .i64 (x17.2 + 1))))
  else none)
  else (
  bif ((!x17.1) == false) then (
  (F22 (b.2.2.2.1, (b.2.2.2.2.1, b.2.2.2.2.2.1))).bind fun r18 =>
  bif (!decide (r18 = 0)) then (
  some 1)
  else (
  some 0))
  else (
  some 1))) (r1.2, 0))) (
 bif ((bif decide (0 < (b.2.2.2.2.2.2.2.2.2.2.length : Int)) then decide ((b.2.2.2.2.2.2.2.2.2.2.length : Int) ≤ 16) else false) == true) then (
 (F21018 (b.2.2.2.2.2.2.2.2.2.2, ())).bind fun r14 =>
 lfp (fun (rec15 : (Bool × Int) → Option Int) (x15 : Bool × Int) =>
  bif decide (x15.2 < (([(1, ((!decide (b.2.2.1 = 0)), true)), (2, ((!decide (b.2.2.2.2.2.2.1 = 0)), true)), (4, ((!decide (b.2.2.2.2.2.2.2.1 = 0)), true)), (8, ((!decide (b.2.2.2.2.2.2.2.2.1 = 0)), true)), (16, (decide (0 < (b.2.2.2.2.2.2.2.2.2.1.length : Int)), decide (r2.2 = 0))), (32, (decide (0 < (b.2.2.2.2.2.2.2.2.2.2.length : Int)), (!r14)))]).length : Int)) then (
  bif inb x15.2 ([(1, ((!decide (b.2.2.1 = 0)), true)), (2, ((!decide (b.2.2.2.2.2.2.1 = 0)), true)), (4, ((!decide (b.2.2.2.2.2.2.2.1 = 0)), true)), (8, ((!decide (b.2.2.2.2.2.2.2.2.1 = 0)), true)), (16, (decide (0 < (b.2.2.2.2.2.2.2.2.2.1.length : Int)), decide (r2.2 = 0))), (32, (decide (0 < (b.2.2.2.2.2.2.2.2.2.2.length : Int)), (!r14)))]).length then
  bif (!decide ((bitOp .and .i64 r1.1 ((rd (.pair (.int .i64) (.pair .bool .bool)) ([(1, ((!decide (b.2.2.1 = 0)), true)), (2, ((!decide (b.2.2.2.2.2.2.1 = 0)), true)), (4, ((!decide (b.2.2.2.2.2.2.2.1 = 0)), true)), (8, ((!decide (b.2.2.2.2.2.2.2.2.1 = 0)), true)), (16, (decide (0 < (b.2.2.2.2.2.2.2.2.2.1.length : Int)), decide (r2.2 = 0))), (32, (decide (0 < (b.2.2.2.2.2.2.2.2.2.2.length : Int)), (!r14)))]) x15.2).1)) = 0)) then (
  rec15 ((bif x15.1 then ((rd (.pair (.int .i64) (.pair .bool .bool)) ([(1, ((!decide (b.2.2.1 = 0)), true)), (2, ((!decide (b.2.2.2.2.2.2.1 = 0)), true)), (4, ((!decide (b.2.2.2.2.2.2.2.1 = 0)), true)), (8, ((!decide (b.2.2.2.2.2.2.2.2.1 = 0)), true)), (16, (decide (0 < (b.2.2.2.2.2.2.2.2.2.1.length : Int)), decide (r2.2 = 0))), (32, (decide (0 < (b.2.2.2.2.2.2.2.2.2.2.length : Int)), (!r14)))]) x15.2).2).2 else false), (IntKind.wrap .i64 (x15.2 + 1))))
  else (
  rec15 ((bif x15.1 then (!((rd (.pair (.int .i64) (.pair .bool .bool)) ([(1, ((!decide (b.2.2.1 = 0)), true)), (2, ((!decide (b.2.2.2.2.2.2.1 = 0)), true)), (4, ((!decide (b.2.2.2.2.2.2.2.1 = 0)), true)), (8, ((!decide (b.2.2.2.2.2.2.2.2.1 = 0)), true)), (16, (decide (0 < (b.2.2.2.2.2.2.2.2.2.1.length : Int)), decide (r2.2 = 0))), (32, (decide (0 < (b.2.2.2.2.2.2.2.2.2.2.length : Int)), (!r14)))]) x15.2).2).1) else false), (IntKind.wrap .i64 (x15.2 + 1))))
  else none)
  else (
  bif ((!x15.1) == false) then (
  (F22 (b.2.2.2.1, (b.2.2.2.2.1, b.2.2.2.2.2.1))).bind fun r16 =>
  bif (!decide (r16 = 0)) then (
  some 1)
  else (
  some 0))
  else (
  some 1))) (r1.2, 0))
 else (
 (fun o => both o o) (
 lfp (fun (rec17 : (Bool × Int) → Option Int) (x17 : Bool × Int) =>
  bif decide (x17.2 < (([(1, ((!decide (b.2.2.1 = 0)), true)), (2, ((!decide (b.2.2.2.2.2.2.1 = 0)), true)), (4, ((!decide (b.2.2.2.2.2.2.2.1 = 0)), true)), (8, ((!decide (b.2.2.2.2.2.2.2.2.1 = 0)), true)), (16, (decide (0 < (b.2.2.2.2.2.2.2.2.2.1.length : Int)), decide (r2.2 = 0))), (32, (decide (0 < (b.2.2.2.2.2.2.2.2.2.2.length : Int)), false))]).length : Int)) then (
  bif inb x17.2 ([(1, ((!decide (b.2.2.1 = 0)), true)), (2, ((!decide (b.2.2.2.2.2.2.1 = 0)), true)), (4, ((!decide (b.2.2.2.2.2.2.2.1 = 0)), true)), (8, ((!decide (b.2.2.2.2.2.2.2.2.1 = 0)), true)), (16, (decide (0 < (b.2.2.2.2.2.2.2.2.2.1.length : Int)), decide (r2.2 = 0))), (32, (decide (0 < (b.2.2.2.2.2.2.2.2.2.2.length : Int)), false))]).length then
  bif (!decide ((bitOp .and .i64 r1.1 ((rd (.pair (.int .i64) (.pair .bool .bool)) ([(1, ((!decide (b.2.2.1 = 0)), true)), (2, ((!decide (b.2.2.2.2.2.2.1 = 0)), true)), (4, ((!decide (b.2.2.2.2.2.2.2.1 = 0)), true)), (8, ((!decide (b.2.2.2.2.2.2.2.2.1 = 0)), true)), (16, (decide (0 < (b.2.2.2.2.2.2.2.2.2.1.length : Int)), decide (r2.2 = 0))), (32, (decide (0 < (b.2.2.2.2.2.2.2.2.2.2.length : Int)), false))]) x17.2).1)) = 0)) then (
  rec17 ((bif x17.1 then ((rd (.pair (.int .i64) (.pair .bool .bool)) ([(1, ((!decide (b.2.2.1 = 0)), true)), (2, ((!decide (b.2.2.2.2.2.2.1 = 0)), true)), (4, ((!decide (b.2.2.2.2.2.2.2.1 = 0)), true)), (8, ((!decide (b.2.2.2.2.2.2.2.2.1 = 0)), true)), (16, (decide (0 < (b.2.2.2.2.2.2.2.2.2.1.length : Int)), decide (r2.2 = 0))), (32, (decide (0 < (b.2.2.2.2.2.2.2.2.2.2.length : Int)), false))]) x17.2).2).2 else false), (IntKind.wrap .i64 (x17.2 + 1))))
  else (
  rec17 ((bif x17.1 then (!((rd (.pair (.int .i64) (.pair .bool .bool)) ([(1, ((!decide (b.2.2.1 = 0)), true)), (2, ((!decide (b.2.2.2.2.2.2.1 = 0)), true)), (4, ((!decide (b.2.2.2.2.2.2.2.1 = 0)), true)), (8, ((!decide (b.2.2.2.2.2.2.2.2.1 = 0)), true)), (16, (decide (0 < (b.2.2.2.2.2.2.2.2.2.1.length : Int)), decide (r2.2 = 0))), (32, (decide (0 < (b.2.2.2.2.2.2.2.2.2.2.length : Int)), false))]) x17.2).2).1) else false), (IntKind.wrap .i64 (x17.2 + 1))))
  else none)
  else (
  bif ((!x17.1) == false) then (
  (F22 (b.2.2.2.1, (b.2.2.2.2.1, b.2.2.2.2.2.1))).bind fun r18 =>
  bif (!decide (r18 = 0)) then (
  some 1)
  else (
  some 0))
  else (
  some 1))) (r1.2, 0))))))
theorem ev10 (b : (Int × (Int × (Int × (Int × (List (Int × (Int × Int)) × (Int × (Int × (Int × (Int × (List (Int × Int) × List (Int × (Int × Int))))))))))))) : evF C21018 H10 Tryd.f10 (encs [.agg (.pair (.int .u64) (.pair (.int .i64) (.pair (.int .u64) (.pair (.int .u64) (.pair (.slice 48 (.pair (.int .i64) (.pair (.int .u64) (.int .u64)))) (.pair (.int .i64) (.pair (.int .u64) (.pair (.int .u64) (.pair (.int .u64) (.pair (.slice 57 (.pair (.int .u64) (.int .u64))) (.slice 48 (.pair (.int .i64) (.pair (.int .u64) (.int .u64))))))))))))))] b) (RT.dec (.one (.leaf (.int .i64)))) = F10 b := by kernel_rfl
noncomputable def C10 : Ctx := Ctx.add C21018 10 [.agg (.pair (.int .u64) (.pair (.int .i64) (.pair (.int .u64) (.pair (.int .u64) (.pair (.slice 48 (.pair (.int .i64) (.pair (.int .u64) (.int .u64)))) (.pair (.int .i64) (.pair (.int .u64) (.pair (.int .u64) (.pair (.int .u64) (.pair (.slice 57 (.pair (.int .u64) (.int .u64))) (.slice 48 (.pair (.int .i64) (.pair (.int .u64) (.int .u64))))))))))))))] (.one (.leaf (.int .i64))) F10
theorem s10 : C10.Sound := Ctx.Sound.add (C := C21018) mixed s21018 Tryd.func10 ev10
/-! damson/bigsize.first -/
def H56 : Nat → Head := fun _ => ⟨[], []⟩
noncomputable def F56 (b : Int) : Option Int :=
 bif decide (b < 253) then (
 some (IntKind.wrap .u8 b))
 else (
 bif decide (b < 65536) then (
 some 253)
 else (
 bif decide (b < 4294967296) then (
 some 254)
 else (
 some 255)))
theorem ev56 (b : Int) : evF C10 H56 Tryd.f56 (encs [.one (.int .u64)] b) (RT.dec (.one (.leaf (.int .u8)))) = F56 b := by kernel_rfl
noncomputable def C56 : Ctx := Ctx.add C10 56 [.one (.int .u64)] (.one (.leaf (.int .u8))) F56
theorem s56 : C56.Sound := Ctx.Sound.add (C := C10) mixed s10 Tryd.func56 ev56
/-! damson/bigsize.wide -/
def H57 : Nat → Head := fun _ => ⟨[], []⟩
noncomputable def F57 (b : Int) : Option Int :=
 bif decide (b < 253) then (
 some 0)
 else (
 some (IntKind.wrap .i64 (2 * 2 ^ (min (IntKind.wrap .u8 (b - 253)).toNat 64))))
theorem ev57 (b : Int) : evF C56 H57 Tryd.f57 (encs [.one (.int .u8)] b) (RT.dec (.one (.leaf (.int .i64)))) = F57 b := by kernel_rfl
noncomputable def C57 : Ctx := Ctx.add C56 57 [.one (.int .u8)] (.one (.leaf (.int .i64))) F57
theorem s57 : C57.Sound := Ctx.Sound.add (C := C56) mixed s56 Tryd.func57 ev57
/-! damson/bigsize.Put -/
def H42 : Nat → Head
  | 3 => ⟨[.row 3 14339 5 (.int .u8), .data 10 (.int .i64)], []⟩
  | 8 => ⟨[.row 3 14344 5 (.int .u8), .data 22 (.int .i64)], [73728]⟩
  | _ => ⟨[], []⟩
noncomputable def F42 (b : List Int) : Option (List Int) :=
 lfp (fun (rec1 : (List Int × Int) → Option (List Int)) (x1 : List Int × Int) =>
  bif decide (x1.2 < (b.length : Int)) then (
  bif inb x1.2 b.length then
  (F56 (rd (.int .u64) b x1.2)).bind fun r2 =>
  bif decide ((x1.1.length + 1) * 1 ≤ LIM) then
  (F57 r2).bind fun r3 =>
  lfp (fun (rec4 : (List Int × Int) → Option (List Int)) (x4 : List Int × Int) =>
   bif decide (x4.2 < r3) then (
   (F57 r2).bind fun r5 =>
   bif decide (0 ≤ (IntKind.wrap .i64 (8 * (IntKind.wrap .i64 ((IntKind.wrap .i64 (r5 - 1)) - x4.2))))) then
   bif decide ((x4.1.length + 1) * 1 ≤ LIM) then
   rec4 ((x4.1 ++ ([(IntKind.wrap .u8 ((rd (.int .u64) b x1.2) / 2 ^ (min (IntKind.wrap .i64 (8 * (IntKind.wrap .i64 ((IntKind.wrap .i64 (r5 - 1)) - x4.2)))).toNat 64)))])), (IntKind.wrap .i64 (x4.2 + 1)))
   else none
   else none)
   else (
   rec1 (x4.1, (IntKind.wrap .i64 (x1.2 + 1))))) ((x1.1 ++ ([r2])), 0)
  else none
  else none)
  else (
  some x1.1)) (([] : List Int), 0)
theorem ev42 (b : List Int) : evF C57 H42 Tryd.f42 (encs [.oneA (.slice 22 (.int .u64))] b) (RT.dec (.one (.leaf (.fresh 5 (.int .u8))))) = F42 b := by kernel_rfl
noncomputable def C42 : Ctx := Ctx.addA C57 42 [.oneA (.slice 22 (.int .u64))] (.one (.leaf (.fresh 5 (.int .u8)))) F42
theorem s42 : C42.Sound := Ctx.Sound.addA (C := C57) mixed s57 Tryd.func42 ev42
/-! cmp.isNaN[uint64] -/
def H75 : Nat → Head := fun _ => ⟨[], []⟩
noncomputable def F75 (b : Int) : Option Bool :=
 some (!decide (b = b))
theorem ev75 (b : Int) : evF C42 H75 Tryd.f75 (encs [.one (.int .u64)] b) (RT.dec (.one (.leaf (.bool)))) = F75 b := by kernel_rfl
noncomputable def C75 : Ctx := Ctx.add C42 75 [.one (.int .u64)] (.one (.leaf (.bool))) F75
theorem s75 : C75.Sound := Ctx.Sound.add (C := C42) mixed s42 Tryd.func75 ev75
/-! cmp.Compare[uint64] -/
def H61 : Nat → Head := fun _ => ⟨[], []⟩
noncomputable def F61 (b : Int × Int) : Option Int :=
 (F75 b.1).bind fun r1 =>
 (F75 b.2).bind fun r2 =>
 bif r1 then (
 bif r2 then (
 some 0)
 else (
 some (-1)))
 else (
 bif r2 then (
 some 1)
 else (
 bif decide (b.1 < b.2) then (
 some (-1))
 else (
 bif decide (b.2 < b.1) then (
 some 1)
 else (
 some 0))))
theorem ev61 (b : Int × Int) : evF C75 H61 Tryd.f61 (encs [.one (.int .u64), .one (.int .u64)] b) (RT.dec (.one (.leaf (.int .i64)))) = F61 b := by kernel_rfl
noncomputable def C61 : Ctx := Ctx.add C75 61 [.one (.int .u64), .one (.int .u64)] (.one (.leaf (.int .i64))) F61
theorem s61 : C61.Sound := Ctx.Sound.add (C := C75) mixed s75 Tryd.func61 ev61
/-! damson/tlv.order -/
def H50 : Nat → Head := fun _ => ⟨[], []⟩
noncomputable def F50 (b : (Int × List Int) × Int) : Option Int :=
 (F61 (b.1.1, b.2)).bind fun r1 =>
 some r1
theorem ev50 (b : (Int × List Int) × Int) : evF C61 H50 Tryd.f50 (encs [.agg (.pair (.int .u64) (.slice 5 (.int .u8))), .one (.int .u64)] b) (RT.dec (.one (.leaf (.int .i64)))) = F50 b := by kernel_rfl
noncomputable def C50 : Ctx := Ctx.add C61 50 [.agg (.pair (.int .u64) (.slice 5 (.int .u8))), .one (.int .u64)] (.one (.leaf (.int .i64))) F50
theorem s50 : C50.Sound := Ctx.Sound.add (C := C61) mixed s61 Tryd.func50 ev50
/-! damson/tlv.Check -/
def H46 : Nat → Head
  | 4 => ⟨[.data 2 (.int .i64), .data 10 (.int .i64)], []⟩
  | 5000006 => ⟨[], [0, 0, 1, 1, 2, 2, 4, 4, 8, 8, 16, 16, 48, 48, 80, 80, 128, 128, 128, 128, 640, 640, 1408, 1408, 2176, 2176, 128, 128, 8320, 8320, 20608, 20608, 32896, 32896, 65680, 65680, 131088, 131088]⟩
  | _ => ⟨[], []⟩
noncomputable def F46 (b : List (Int × List Int)) : Option Int :=
 bif decide (64 < (b.length : Int)) then (
 some 1)
 else (
 lfp (fun (rec1 : (Int × Int) → Option Int) (x1 : Int × Int) =>
  bif decide (x1.2 < (b.length : Int)) then (
  bif inb x1.2 b.length then
  bif (decide (4096 < (((rd (.pair (.int .u64) (.slice 5 (.int .u8))) b x1.2).2).length : Int)) == false) then (
  bif (decide (0 < x1.2) == true) then (
  bif inb (IntKind.wrap .i64 (x1.2 - 1)) b.length then
  (F50 (((rd (.pair (.int .u64) (.slice 5 (.int .u8))) b (IntKind.wrap .i64 (x1.2 - 1))).1, (rd (.pair (.int .u64) (.slice 5 (.int .u8))) b (IntKind.wrap .i64 (x1.2 - 1))).2), (rd (.pair (.int .u64) (.slice 5 (.int .u8))) b x1.2).1)).bind fun r2 =>
  bif decide (0 ≤ r2) then (
  some 1)
  else (
  rec1 (x1.1, (IntKind.wrap .i64 (x1.2 + 1))))
  else none)
  else (
  (fun o => both o o) (
  rec1 (x1.1, (IntKind.wrap .i64 (x1.2 + 1))))))
  else (
  (fun o => both o o) (
  some 1))
  else none)
  else (
  some 0)) (0, 0))
theorem ev46 (b : List (Int × List Int)) : evF C50 H46 Tryd.f46 (encs [.one (.slice 67 (.pair (.int .u64) (.slice 5 (.int .u8))))] b) (RT.dec (.one (.leaf (.int .i64)))) = F46 b := by kernel_rfl
noncomputable def C46 : Ctx := Ctx.add C50 46 [.one (.slice 67 (.pair (.int .u64) (.slice 5 (.int .u8))))] (.one (.leaf (.int .i64))) F46
theorem s46 : C46.Sound := Ctx.Sound.add (C := C50) mixed s50 Tryd.func46 ev46
/-! damson/tlv.Put -/
def H27 : Nat → Head
  | 5 => ⟨[.row 2 10245 5 (.int .u8), .data 13 (.int .i64)], []⟩
  | 5000007 => ⟨[], [0, 0, 0, 0, 2, 2, 0, 0, 8, 8, 16, 16, 32, 32, 68, 68, 128, 128, 257, 257, 0, 0, 1024, 1024, 2560, 2560, 8191, 4097]⟩
  | _ => ⟨[], []⟩
noncomputable def F27 (b : List (Int × List Int)) : Option (List Int × Int) :=
 (F46 b).bind fun r1 =>
 bif (!decide (r1 = 0)) then (
 some (([] : List Int), r1))
 else (
 lfp (fun (rec2 : (List Int × Int) → Option (List Int × Int)) (x2 : List Int × Int) =>
  bif decide (x2.2 < (b.length : Int)) then (
  bif inb x2.2 b.length then
  (both (
  (both (
  (both (
  (both (
  (F42 ([(rd (.pair (.int .u64) (.slice 5 (.int .u8))) b x2.2).1, (IntKind.wrap .u64 (((rd (.pair (.int .u64) (.slice 5 (.int .u8))) b x2.2).2).length : Int))])).bind fun r3 =>
  (fun o => both o o) (
  bif decide ((x2.1.length + r3.length) * 1 ≤ LIM) then
  bif decide (((x2.1 ++ r3).length + ((rd (.pair (.int .u64) (.slice 5 (.int .u8))) b x2.2).2).length) * 1 ≤ LIM) then
  rec2 (((x2.1 ++ r3) ++ ((rd (.pair (.int .u64) (.slice 5 (.int .u8))) b x2.2).2)), (IntKind.wrap .i64 (x2.2 + 1)))
  else none
  else none)) (
  (F42 ([(rd (.pair (.int .u64) (.slice 5 (.int .u8))) b x2.2).1, (IntKind.wrap .u64 (((rd (.pair (.int .u64) (.slice 5 (.int .u8))) b x2.2).2).length : Int))])).bind fun r3 =>
  bif decide ((x2.1.length + r3.length) * 1 ≤ LIM) then
  bif decide (((x2.1 ++ r3).length + ((rd (.pair (.int .u64) (.slice 5 (.int .u8))) b x2.2).2).length) * 1 ≤ LIM) then
  rec2 (((x2.1 ++ r3) ++ ((rd (.pair (.int .u64) (.slice 5 (.int .u8))) b x2.2).2)), (IntKind.wrap .i64 (x2.2 + 1)))
  else none
  else none))) (
  (F42 ([(rd (.pair (.int .u64) (.slice 5 (.int .u8))) b x2.2).1, (IntKind.wrap .u64 (((rd (.pair (.int .u64) (.slice 5 (.int .u8))) b x2.2).2).length : Int))])).bind fun r3 =>
  bif decide ((x2.1.length + r3.length) * 1 ≤ LIM) then
  bif decide (((x2.1 ++ r3).length + ((rd (.pair (.int .u64) (.slice 5 (.int .u8))) b x2.2).2).length) * 1 ≤ LIM) then
  rec2 (((x2.1 ++ r3) ++ ((rd (.pair (.int .u64) (.slice 5 (.int .u8))) b x2.2).2)), (IntKind.wrap .i64 (x2.2 + 1)))
  else none
  else none))) (
  (F42 ([(rd (.pair (.int .u64) (.slice 5 (.int .u8))) b x2.2).1, (IntKind.wrap .u64 (((rd (.pair (.int .u64) (.slice 5 (.int .u8))) b x2.2).2).length : Int))])).bind fun r3 =>
  bif decide ((x2.1.length + r3.length) * 1 ≤ LIM) then
  bif decide (((x2.1 ++ r3).length + ((rd (.pair (.int .u64) (.slice 5 (.int .u8))) b x2.2).2).length) * 1 ≤ LIM) then
  rec2 (((x2.1 ++ r3) ++ ((rd (.pair (.int .u64) (.slice 5 (.int .u8))) b x2.2).2)), (IntKind.wrap .i64 (x2.2 + 1)))
  else none
  else none))) (both (
  (both (
  (both (
  (both (
  (F42 ([(rd (.pair (.int .u64) (.slice 5 (.int .u8))) b x2.2).1, (IntKind.wrap .u64 (((rd (.pair (.int .u64) (.slice 5 (.int .u8))) b x2.2).2).length : Int))])).bind fun r3 =>
  (fun o => both o o) (
  bif decide ((x2.1.length + r3.length) * 1 ≤ LIM) then
  bif decide (((x2.1 ++ r3).length + ((rd (.pair (.int .u64) (.slice 5 (.int .u8))) b x2.2).2).length) * 1 ≤ LIM) then
  rec2 (((x2.1 ++ r3) ++ ((rd (.pair (.int .u64) (.slice 5 (.int .u8))) b x2.2).2)), (IntKind.wrap .i64 (x2.2 + 1)))
  else none
  else none)) (
  (F42 ([(rd (.pair (.int .u64) (.slice 5 (.int .u8))) b x2.2).1, (IntKind.wrap .u64 (((rd (.pair (.int .u64) (.slice 5 (.int .u8))) b x2.2).2).length : Int))])).bind fun r3 =>
  bif decide ((x2.1.length + r3.length) * 1 ≤ LIM) then
  bif decide (((x2.1 ++ r3).length + ((rd (.pair (.int .u64) (.slice 5 (.int .u8))) b x2.2).2).length) * 1 ≤ LIM) then
  rec2 (((x2.1 ++ r3) ++ ((rd (.pair (.int .u64) (.slice 5 (.int .u8))) b x2.2).2)), (IntKind.wrap .i64 (x2.2 + 1)))
  else none
  else none))) (
  (F42 ([(rd (.pair (.int .u64) (.slice 5 (.int .u8))) b x2.2).1, (IntKind.wrap .u64 (((rd (.pair (.int .u64) (.slice 5 (.int .u8))) b x2.2).2).length : Int))])).bind fun r3 =>
  bif decide ((x2.1.length + r3.length) * 1 ≤ LIM) then
  bif decide (((x2.1 ++ r3).length + ((rd (.pair (.int .u64) (.slice 5 (.int .u8))) b x2.2).2).length) * 1 ≤ LIM) then
  rec2 (((x2.1 ++ r3) ++ ((rd (.pair (.int .u64) (.slice 5 (.int .u8))) b x2.2).2)), (IntKind.wrap .i64 (x2.2 + 1)))
  else none
  else none))) (
  (F42 ([(rd (.pair (.int .u64) (.slice 5 (.int .u8))) b x2.2).1, (IntKind.wrap .u64 (((rd (.pair (.int .u64) (.slice 5 (.int .u8))) b x2.2).2).length : Int))])).bind fun r3 =>
  bif decide ((x2.1.length + r3.length) * 1 ≤ LIM) then
  bif decide (((x2.1 ++ r3).length + ((rd (.pair (.int .u64) (.slice 5 (.int .u8))) b x2.2).2).length) * 1 ≤ LIM) then
  rec2 (((x2.1 ++ r3) ++ ((rd (.pair (.int .u64) (.slice 5 (.int .u8))) b x2.2).2)), (IntKind.wrap .i64 (x2.2 + 1)))
  else none
  else none))) (
  (fun o => both o o) (
  (F42 ([(rd (.pair (.int .u64) (.slice 5 (.int .u8))) b x2.2).1, (IntKind.wrap .u64 (((rd (.pair (.int .u64) (.slice 5 (.int .u8))) b x2.2).2).length : Int))])).bind fun r3 =>
  bif decide ((x2.1.length + r3.length) * 1 ≤ LIM) then
  bif decide (((x2.1 ++ r3).length + ((rd (.pair (.int .u64) (.slice 5 (.int .u8))) b x2.2).2).length) * 1 ≤ LIM) then
  rec2 (((x2.1 ++ r3) ++ ((rd (.pair (.int .u64) (.slice 5 (.int .u8))) b x2.2).2)), (IntKind.wrap .i64 (x2.2 + 1)))
  else none
  else none))))
  else none)
  else (
  bif decide (65535 < (x2.1.length : Int)) then (
  some (([] : List Int), 4))
  else (
  some (x2.1, 0)))) (([] : List Int), 0))
theorem ev27 (b : List (Int × List Int)) : evF C46 H27 Tryd.f27 (encs [.oneA (.slice 67 (.pair (.int .u64) (.slice 5 (.int .u8))))] b) (RT.dec (.tup [.leaf (.fresh 5 (.int .u8)), .leaf (.int .i64)])) = F27 b := by kernel_rfl
noncomputable def C27 : Ctx := Ctx.addA C46 27 [.oneA (.slice 67 (.pair (.int .u64) (.slice 5 (.int .u8))))] (.tup [.leaf (.fresh 5 (.int .u8)), .leaf (.int .i64)]) F27
theorem s27 : C27.Sound := Ctx.Sound.addA (C := C46) mixed s46 Tryd.func27 ev27
/-! damson/caveat.Put -/
def H43 : Nat → Head := fun _ => ⟨[], []⟩
noncomputable def F43 (b : (Int × (Int × Int))) : Option (List Int × Int) :=
 (F19 (b.1, (b.2.1, b.2.2))).bind fun r1 =>
 bif (!decide (r1 = 0)) then (
 some (([] : List Int), r1))
 else (
 bif (!decide (b.1 = 4)) then (
 bif inb 2 (([(IntKind.wrap .u64 b.1), b.2.1, b.2.2]).length + 1) then
 (F42 (([(IntKind.wrap .u64 b.1), b.2.1, b.2.2]).take ((2 : Int).toNat))).bind fun r2 =>
 some (r2, 0)
 else none)
 else (
 (F42 ([(IntKind.wrap .u64 b.1), b.2.1, b.2.2])).bind fun r3 =>
 some (r3, 0)))
theorem ev43 (b : (Int × (Int × Int))) : evF C27 H43 Tryd.f43 (encs [.agg (.pair (.int .i64) (.pair (.int .u64) (.int .u64)))] b) (RT.dec (.tup [.leaf (.fresh 5 (.int .u8)), .leaf (.int .i64)])) = F43 b := by kernel_rfl
noncomputable def C43 : Ctx := Ctx.add C27 43 [.agg (.pair (.int .i64) (.pair (.int .u64) (.int .u64)))] (.tup [.leaf (.fresh 5 (.int .u8)), .leaf (.int .i64)]) F43
theorem s43 : C43.Sound := Ctx.Sound.add (C := C27) mixed s27 Tryd.func43 ev43
/-! damson/token.texts -/
def H55 : Nat → Head
  | 3 => ⟨[.data 13 (.int .i64), .rowk 36864 36 (.slice 5 (.int .u8))], [4096]⟩
  | _ => ⟨[], []⟩
noncomputable def F55 (b : (Int × (List (Int × (Int × Int)) × Int))) : Option (List (List Int)) :=
 bif (decide (0 ≤ (b.2.1.length : Int)) && decide ((b.2.1.length : Int) = (b.2.1.length : Int)) && decide ((b.2.1.length : Int).toNat * 24 ≤ LIM)) then
 lfp (fun (rec1 : (Int × List (List Int)) → Option (List (List Int))) (x1 : Int × List (List Int)) =>
  bif decide (x1.1 < (b.2.1.length : Int)) then (
  bif inb x1.1 b.2.1.length then
  (F43 ((rd (.pair (.int .i64) (.pair (.int .u64) (.int .u64))) b.2.1 x1.1).1, (((rd (.pair (.int .i64) (.pair (.int .u64) (.int .u64))) b.2.1 x1.1).2).1, ((rd (.pair (.int .i64) (.pair (.int .u64) (.int .u64))) b.2.1 x1.1).2).2))).bind fun r2 =>
  bif inb x1.1 x1.2.length then
  rec1 ((IntKind.wrap .i64 (x1.1 + 1)), (x1.2.set x1.1.toNat r2.1))
  else none
  else none)
  else (
  some x1.2)) (0, (List.replicate ((b.2.1.length : Int).toNat) [] : List (List Int)))
 else none
theorem ev55 (b : (Int × (List (Int × (Int × Int)) × Int))) : evF C43 H55 Tryd.f55 (encs [.aggA (.pair (.int .u64) (.pair (.slice 48 (.pair (.int .i64) (.pair (.int .u64) (.int .u64)))) (.int .i64)))] b) (RT.dec (.one (.leaf (.fresh 36 (.slice 5 (.int .u8)))))) = F55 b := by kernel_rfl
noncomputable def C55 : Ctx := Ctx.addA C43 55 [.aggA (.pair (.int .u64) (.pair (.slice 48 (.pair (.int .i64) (.pair (.int .u64) (.int .u64)))) (.int .i64)))] (.one (.leaf (.fresh 36 (.slice 5 (.int .u8))))) F55
theorem s55 : C55.Sound := Ctx.Sound.addA (C := C43) mixed s43 Tryd.func55 ev55
/-! damson/token.Put -/
def H40 : Nat → Head
  | 6 => ⟨[.row 5 22534 67 (.pair (.int .u64) (.slice 5 (.int .u8))), .data 28 (.int .i64)], [106496, 90112, 86016, 65536, 61440, 4096]⟩
  | 5000004 => ⟨[], [0, 0, 1, 1, 2, 2, 4, 4, 8, 8, 0, 0, 32, 32, 64, 64, 128, 128, 264, 256, 512, 512, 1040, 1040, 4095, 2048]⟩
  | _ => ⟨[], []⟩
noncomputable def F40 (b : (Int × (List (Int × (Int × Int)) × Int))) : Option (List Int × Int) :=
 (F22 (b.1, (b.2.1, b.2.2))).bind fun r1 =>
 bif (!decide (r1 = 0)) then (
 some (([] : List Int), r1))
 else (
 (both (
 (both (
 (both (
 (F42 ([b.1])).bind fun r2 =>
 (F42 ([(IntKind.wrap .u64 b.2.2)])).bind fun r3 =>
 (F55 (b.1, (b.2.1, b.2.2))).bind fun r4 =>
 lfp (fun (rec5 : (List (Int × List Int) × Int) → Option (List Int × Int)) (x5 : List (Int × List Int) × Int) =>
  bif decide (x5.2 < (r4.length : Int)) then (
  bif inb x5.2 r4.length then
  bif decide ((x5.1.length + 1) * 32 ≤ LIM) then
  rec5 ((x5.1 ++ ([((IntKind.wrap .u64 (16 + (IntKind.wrap .u64 x5.2))), (rd (.slice 5 (.int .u8)) r4 x5.2))])), (IntKind.wrap .i64 (x5.2 + 1)))
  else none
  else none)
  else (
  (F27 x5.1).bind fun r6 =>
  some (r6.1, r6.2))) (([(1, r2), (2, r3)]), 0)) (
 (fun o => both o o) (
 (F42 ([b.1])).bind fun r2 =>
 (F42 ([(IntKind.wrap .u64 b.2.2)])).bind fun r3 =>
 (F55 (b.1, (b.2.1, b.2.2))).bind fun r4 =>
 lfp (fun (rec5 : (List (Int × List Int) × Int) → Option (List Int × Int)) (x5 : List (Int × List Int) × Int) =>
  bif decide (x5.2 < (r4.length : Int)) then (
  bif inb x5.2 r4.length then
  bif decide ((x5.1.length + 1) * 32 ≤ LIM) then
  rec5 ((x5.1 ++ ([((IntKind.wrap .u64 (16 + (IntKind.wrap .u64 x5.2))), (rd (.slice 5 (.int .u8)) r4 x5.2))])), (IntKind.wrap .i64 (x5.2 + 1)))
  else none
  else none)
  else (
  (F27 x5.1).bind fun r6 =>
  some (r6.1, r6.2))) (([(1, r2), (2, r3)]), 0))))) (
 (both (
 (fun o => both o o) (
 (F42 ([b.1])).bind fun r2 =>
 (F42 ([(IntKind.wrap .u64 b.2.2)])).bind fun r3 =>
 (F55 (b.1, (b.2.1, b.2.2))).bind fun r4 =>
 lfp (fun (rec5 : (List (Int × List Int) × Int) → Option (List Int × Int)) (x5 : List (Int × List Int) × Int) =>
  bif decide (x5.2 < (r4.length : Int)) then (
  bif inb x5.2 r4.length then
  bif decide ((x5.1.length + 1) * 32 ≤ LIM) then
  rec5 ((x5.1 ++ ([((IntKind.wrap .u64 (16 + (IntKind.wrap .u64 x5.2))), (rd (.slice 5 (.int .u8)) r4 x5.2))])), (IntKind.wrap .i64 (x5.2 + 1)))
  else none
  else none)
  else (
  (F27 x5.1).bind fun r6 =>
  some (r6.1, r6.2))) (([(1, r2), (2, r3)]), 0))) (
 (F42 ([b.1])).bind fun r2 =>
 (F42 ([(IntKind.wrap .u64 b.2.2)])).bind fun r3 =>
 (F55 (b.1, (b.2.1, b.2.2))).bind fun r4 =>
 lfp (fun (rec5 : (List (Int × List Int) × Int) → Option (List Int × Int)) (x5 : List (Int × List Int) × Int) =>
  bif decide (x5.2 < (r4.length : Int)) then (
  bif inb x5.2 r4.length then
  bif decide ((x5.1.length + 1) * 32 ≤ LIM) then
  rec5 ((x5.1 ++ ([((IntKind.wrap .u64 (16 + (IntKind.wrap .u64 x5.2))), (rd (.slice 5 (.int .u8)) r4 x5.2))])), (IntKind.wrap .i64 (x5.2 + 1)))
  else none
  else none)
  else (
  (F27 x5.1).bind fun r6 =>
  some (r6.1, r6.2))) (([(1, r2), (2, r3)]), 0)))))) (
 (both (
 (both (
 (fun o => both o o) (
 (F42 ([b.1])).bind fun r2 =>
 (F42 ([(IntKind.wrap .u64 b.2.2)])).bind fun r3 =>
 (F55 (b.1, (b.2.1, b.2.2))).bind fun r4 =>
 lfp (fun (rec5 : (List (Int × List Int) × Int) → Option (List Int × Int)) (x5 : List (Int × List Int) × Int) =>
  bif decide (x5.2 < (r4.length : Int)) then (
  bif inb x5.2 r4.length then
  bif decide ((x5.1.length + 1) * 32 ≤ LIM) then
  rec5 ((x5.1 ++ ([((IntKind.wrap .u64 (16 + (IntKind.wrap .u64 x5.2))), (rd (.slice 5 (.int .u8)) r4 x5.2))])), (IntKind.wrap .i64 (x5.2 + 1)))
  else none
  else none)
  else (
  (F27 x5.1).bind fun r6 =>
  some (r6.1, r6.2))) (([(1, r2), (2, r3)]), 0))) (
 (F42 ([b.1])).bind fun r2 =>
 (F42 ([(IntKind.wrap .u64 b.2.2)])).bind fun r3 =>
 (F55 (b.1, (b.2.1, b.2.2))).bind fun r4 =>
 lfp (fun (rec5 : (List (Int × List Int) × Int) → Option (List Int × Int)) (x5 : List (Int × List Int) × Int) =>
  bif decide (x5.2 < (r4.length : Int)) then (
  bif inb x5.2 r4.length then
  bif decide ((x5.1.length + 1) * 32 ≤ LIM) then
  rec5 ((x5.1 ++ ([((IntKind.wrap .u64 (16 + (IntKind.wrap .u64 x5.2))), (rd (.slice 5 (.int .u8)) r4 x5.2))])), (IntKind.wrap .i64 (x5.2 + 1)))
  else none
  else none)
  else (
  (F27 x5.1).bind fun r6 =>
  some (r6.1, r6.2))) (([(1, r2), (2, r3)]), 0)))) (
 (F42 ([b.1])).bind fun r2 =>
 (F42 ([(IntKind.wrap .u64 b.2.2)])).bind fun r3 =>
 (F55 (b.1, (b.2.1, b.2.2))).bind fun r4 =>
 lfp (fun (rec5 : (List (Int × List Int) × Int) → Option (List Int × Int)) (x5 : List (Int × List Int) × Int) =>
  bif decide (x5.2 < (r4.length : Int)) then (
  bif inb x5.2 r4.length then
  bif decide ((x5.1.length + 1) * 32 ≤ LIM) then
  rec5 ((x5.1 ++ ([((IntKind.wrap .u64 (16 + (IntKind.wrap .u64 x5.2))), (rd (.slice 5 (.int .u8)) r4 x5.2))])), (IntKind.wrap .i64 (x5.2 + 1)))
  else none
  else none)
  else (
  (F27 x5.1).bind fun r6 =>
  some (r6.1, r6.2))) (([(1, r2), (2, r3)]), 0))))))
theorem ev40 (b : (Int × (List (Int × (Int × Int)) × Int))) : evF C55 H40 Tryd.f40 (encs [.aggA (.pair (.int .u64) (.pair (.slice 48 (.pair (.int .i64) (.pair (.int .u64) (.int .u64)))) (.int .i64)))] b) (RT.dec (.tup [.leaf (.fresh 5 (.int .u8)), .leaf (.int .i64)])) = F40 b := by kernel_rfl
noncomputable def C40 : Ctx := Ctx.addA C55 40 [.aggA (.pair (.int .u64) (.pair (.slice 48 (.pair (.int .i64) (.pair (.int .u64) (.int .u64)))) (.int .i64)))] (.tup [.leaf (.fresh 5 (.int .u8)), .leaf (.int .i64)]) F40
theorem s40 : C40.Sound := Ctx.Sound.addA (C := C55) mixed s55 Tryd.func40 ev40
/-! damson/request.records$1: carried out where it is called -/
def H41 : Nat → Head
  | 5000000 => ⟨[], [0, 0, 0, 0, 0, 0, 4, 4, 10, 10, 16, 16, 41, 33, 127, 64]⟩
  | _ => ⟨[], []⟩
noncomputable def C41 : Ctx := Ctx.addI C40 41 H41 9000041 Tryd.f41
theorem s41 : C41.Sound := Ctx.Sound.addI (C := C40) mixed s40 Tryd.func41
/-! slices.SortFunc[[]damson/api.Record,damson/api.Record]: by its law -/
noncomputable def C44 : Ctx := Ctx.addS C41 44 45 67 (.slice 5 (.int .u8))
theorem s44 : C44.Sound := Ctx.Sound.addS (C := C41) s41 rfl sortPays
/-! damson/request.records -/
def H26 : Nat → Head
  | 9 => ⟨[.iterk 204800 ⟨(.int .u64), (.int .u64), true⟩, .crow 24576 0 10026633 67 (.pair (.int .u64) (.slice 5 (.int .u8))), .boxr 24576 10026633 .unit .unit], [155648, 131072, 77824]⟩
  | 14 => ⟨[.data 66 (.int .i64), .crow 24576 0 10026638 67 (.pair (.int .u64) (.slice 5 (.int .u8))), .boxr 24576 10026638 .unit .unit], [204800, 155648, 131072, 77824]⟩
  | 19 => ⟨[.row 2 10259 67 (.pair (.int .u64) (.slice 5 (.int .u8))), .data 3 (.int .i64), .data 85 (.int .i64), .crow 24576 0 10026643 67 (.pair (.int .u64) (.slice 5 (.int .u8))), .boxr 24576 10026643 .unit .unit], [204800, 155648, 131072, 77824]⟩
  | 1000000 => ⟨[], [1]⟩
  | 1000015 => ⟨[], [11]⟩
  | 1000020 => ⟨[], [13]⟩
  | _ => ⟨[], []⟩
noncomputable def F26 (b : (Int × (Int × (Int × (Int × (List (Int × (Int × Int)) × (Int × (Int × (Int × (Int × (List (Int × Int) × List (Int × (Int × Int))))))))))))) : Option ((List (Int × List Int)) × Int) :=
 (F40 (b.2.2.2.1, (b.2.2.2.2.1, b.2.2.2.2.2.1))).bind fun r1 =>
 bif (!decide (r1.2 = 0)) then (
 some (([] : List (Int × List Int)), r1.2))
 else (
 (both (
 (F42 ([b.1])).bind fun r2 =>
 bif decide ((([(4, r1.1)]).length + 1) * 32 ≤ LIM) then
 (both (
 (F42 ([(IntKind.wrap .u64 b.2.1)])).bind fun r3 =>
 bif decide (((([(4, r1.1)]) ++ ([(1, r2)])).length + 1) * 32 ≤ LIM) then
 lfp (fun (rec4 : (List (Int × Int) × List (Int × List Int) × (Unit × Unit)) → Option ((List (Int × List Int)) × Int)) (x4 : List (Int × Int) × List (Int × List Int) × (Unit × Unit)) =>
  bif x4.1.isEmpty then (
  lfp (fun (rec5 : (Int × List (Int × List Int) × (Unit × Unit)) → Option ((List (Int × List Int)) × Int)) (x5 : Int × List (Int × List Int) × (Unit × Unit)) =>
   bif decide (x5.1 < (b.2.2.2.2.2.2.2.2.2.1.length : Int)) then (
   bif inb x5.1 b.2.2.2.2.2.2.2.2.2.1.length then
   (both (
   (F42 ([(rd (.pair (.int .u64) (.int .u64)) b.2.2.2.2.2.2.2.2.2.1 x5.1).1, (rd (.pair (.int .u64) (.int .u64)) b.2.2.2.2.2.2.2.2.2.1 x5.1).2])).bind fun r6 =>
   bif decide ((x5.2.1.length + 1) * 32 ≤ LIM) then
   rec5 ((IntKind.wrap .i64 (x5.1 + 1)), (x5.2.1 ++ ([((IntKind.wrap .u64 (32 + (IntKind.wrap .u64 x5.1))), r6)])), ((), ()))
   else none) (
   (F42 ([(rd (.pair (.int .u64) (.int .u64)) b.2.2.2.2.2.2.2.2.2.1 x5.1).1, (rd (.pair (.int .u64) (.int .u64)) b.2.2.2.2.2.2.2.2.2.1 x5.1).2])).bind fun r6 =>
   (fun o => both o o) (
   bif decide ((x5.2.1.length + 1) * 32 ≤ LIM) then
   rec5 ((IntKind.wrap .i64 (x5.1 + 1)), (x5.2.1 ++ ([((IntKind.wrap .u64 (32 + (IntKind.wrap .u64 x5.1))), r6)])), ((), ()))
   else none)))
   else none)
   else (
   lfp (fun (rec7 : (List (Int × List Int) × Int × Int × List (Int × List Int) × (Unit × Unit)) → Option ((List (Int × List Int)) × Int)) (x7 : List (Int × List Int) × Int × Int × List (Int × List Int) × (Unit × Unit)) =>
    bif decide (x7.2.2.1 < (b.2.2.2.2.2.2.2.2.2.2.length : Int)) then (
    bif inb x7.2.2.1 b.2.2.2.2.2.2.2.2.2.2.length then
    (F43 ((rd (.pair (.int .i64) (.pair (.int .u64) (.int .u64))) b.2.2.2.2.2.2.2.2.2.2 x7.2.2.1).1, (((rd (.pair (.int .i64) (.pair (.int .u64) (.int .u64))) b.2.2.2.2.2.2.2.2.2.2 x7.2.2.1).2).1, ((rd (.pair (.int .i64) (.pair (.int .u64) (.int .u64))) b.2.2.2.2.2.2.2.2.2.2 x7.2.2.1).2).2))).bind fun r8 =>
    bif (!decide (r8.2 = 0)) then (
    some (([] : List (Int × List Int)), r8.2))
    else (
    bif decide ((x7.2.2.2.1.length + 1) * 32 ≤ LIM) then
    rec7 (x7.1, x7.2.1, (IntKind.wrap .i64 (x7.2.2.1 + 1)), (x7.2.2.2.1 ++ ([((IntKind.wrap .u64 (48 + (IntKind.wrap .u64 x7.2.2.1))), r8.1)])), ((), ()))
    else none)
    else none)
    else (
    bif srtOk x7.2.2.2.1 then
    some ((srt x7.2.2.2.1), 0)
    else none)) (([] : List (Int × List Int)), 0, 0, x5.2.1, ((), ())))) (0, x4.2.1, ((), ())))
  else (
  anyOf x4.1 (fun (e9 : Int × Int) (r9 : List (Int × Int)) =>
   bif (!decide (e9.2 = 0)) then (
   (both (
   (F42 ([e9.2])).bind fun r10 =>
   bif decide ((x4.2.1.length + 1) * 32 ≤ LIM) then
   rec4 (r9, (x4.2.1 ++ ([(e9.1, r10)])), ((), ()))
   else none) (
   (F42 ([e9.2])).bind fun r10 =>
   (fun o => both o o) (
   bif decide ((x4.2.1.length + 1) * 32 ≤ LIM) then
   rec4 (r9, (x4.2.1 ++ ([(e9.1, r10)])), ((), ()))
   else none))))
   else (
   rec4 (r9, x4.2.1, ((), ())))))) ((mput (.int .u64) (.int .u64) (mput (.int .u64) (.int .u64) (mput (.int .u64) (.int .u64) (mput (.int .u64) (.int .u64) ([] : List (Int × Int)) 3 b.2.2.1) 5 b.2.2.2.2.2.2.1) 6 b.2.2.2.2.2.2.2.1) 7 b.2.2.2.2.2.2.2.2.1), ((([(4, r1.1)]) ++ ([(1, r2)])) ++ ([(2, r3)])), ((), ()))
 else none) (
 (F42 ([(IntKind.wrap .u64 b.2.1)])).bind fun r3 =>
 (fun o => both o o) (
 bif decide (((([(4, r1.1)]) ++ ([(1, r2)])).length + 1) * 32 ≤ LIM) then
 lfp (fun (rec4 : (List (Int × Int) × List (Int × List Int) × (Unit × Unit)) → Option ((List (Int × List Int)) × Int)) (x4 : List (Int × Int) × List (Int × List Int) × (Unit × Unit)) =>
  bif x4.1.isEmpty then (
  lfp (fun (rec5 : (Int × List (Int × List Int) × (Unit × Unit)) → Option ((List (Int × List Int)) × Int)) (x5 : Int × List (Int × List Int) × (Unit × Unit)) =>
   bif decide (x5.1 < (b.2.2.2.2.2.2.2.2.2.1.length : Int)) then (
   bif inb x5.1 b.2.2.2.2.2.2.2.2.2.1.length then
   (both (
   (F42 ([(rd (.pair (.int .u64) (.int .u64)) b.2.2.2.2.2.2.2.2.2.1 x5.1).1, (rd (.pair (.int .u64) (.int .u64)) b.2.2.2.2.2.2.2.2.2.1 x5.1).2])).bind fun r6 =>
   bif decide ((x5.2.1.length + 1) * 32 ≤ LIM) then
   rec5 ((IntKind.wrap .i64 (x5.1 + 1)), (x5.2.1 ++ ([((IntKind.wrap .u64 (32 + (IntKind.wrap .u64 x5.1))), r6)])), ((), ()))
   else none) (
   (F42 ([(rd (.pair (.int .u64) (.int .u64)) b.2.2.2.2.2.2.2.2.2.1 x5.1).1, (rd (.pair (.int .u64) (.int .u64)) b.2.2.2.2.2.2.2.2.2.1 x5.1).2])).bind fun r6 =>
   (fun o => both o o) (
   bif decide ((x5.2.1.length + 1) * 32 ≤ LIM) then
   rec5 ((IntKind.wrap .i64 (x5.1 + 1)), (x5.2.1 ++ ([((IntKind.wrap .u64 (32 + (IntKind.wrap .u64 x5.1))), r6)])), ((), ()))
   else none)))
   else none)
   else (
   lfp (fun (rec7 : (List (Int × List Int) × Int × Int × List (Int × List Int) × (Unit × Unit)) → Option ((List (Int × List Int)) × Int)) (x7 : List (Int × List Int) × Int × Int × List (Int × List Int) × (Unit × Unit)) =>
    bif decide (x7.2.2.1 < (b.2.2.2.2.2.2.2.2.2.2.length : Int)) then (
    bif inb x7.2.2.1 b.2.2.2.2.2.2.2.2.2.2.length then
    (F43 ((rd (.pair (.int .i64) (.pair (.int .u64) (.int .u64))) b.2.2.2.2.2.2.2.2.2.2 x7.2.2.1).1, (((rd (.pair (.int .i64) (.pair (.int .u64) (.int .u64))) b.2.2.2.2.2.2.2.2.2.2 x7.2.2.1).2).1, ((rd (.pair (.int .i64) (.pair (.int .u64) (.int .u64))) b.2.2.2.2.2.2.2.2.2.2 x7.2.2.1).2).2))).bind fun r8 =>
    bif (!decide (r8.2 = 0)) then (
    some (([] : List (Int × List Int)), r8.2))
    else (
    bif decide ((x7.2.2.2.1.length + 1) * 32 ≤ LIM) then
    rec7 (x7.1, x7.2.1, (IntKind.wrap .i64 (x7.2.2.1 + 1)), (x7.2.2.2.1 ++ ([((IntKind.wrap .u64 (48 + (IntKind.wrap .u64 x7.2.2.1))), r8.1)])), ((), ()))
    else none)
    else none)
    else (
    bif srtOk x7.2.2.2.1 then
    some ((srt x7.2.2.2.1), 0)
    else none)) (([] : List (Int × List Int)), 0, 0, x5.2.1, ((), ())))) (0, x4.2.1, ((), ())))
  else (
  anyOf x4.1 (fun (e9 : Int × Int) (r9 : List (Int × Int)) =>
   bif (!decide (e9.2 = 0)) then (
   (both (
   (F42 ([e9.2])).bind fun r10 =>
   bif decide ((x4.2.1.length + 1) * 32 ≤ LIM) then
   rec4 (r9, (x4.2.1 ++ ([(e9.1, r10)])), ((), ()))
   else none) (
   (F42 ([e9.2])).bind fun r10 =>
   (fun o => both o o) (
   bif decide ((x4.2.1.length + 1) * 32 ≤ LIM) then
   rec4 (r9, (x4.2.1 ++ ([(e9.1, r10)])), ((), ()))
   else none))))
   else (
   rec4 (r9, x4.2.1, ((), ())))))) ((mput (.int .u64) (.int .u64) (mput (.int .u64) (.int .u64) (mput (.int .u64) (.int .u64) (mput (.int .u64) (.int .u64) ([] : List (Int × Int)) 3 b.2.2.1) 5 b.2.2.2.2.2.2.1) 6 b.2.2.2.2.2.2.2.1) 7 b.2.2.2.2.2.2.2.2.1), ((([(4, r1.1)]) ++ ([(1, r2)])) ++ ([(2, r3)])), ((), ()))
 else none)))
 else none) (
 (F42 ([b.1])).bind fun r2 =>
 (fun o => both o o) (
 bif decide ((([(4, r1.1)]).length + 1) * 32 ≤ LIM) then
 (both (
 (F42 ([(IntKind.wrap .u64 b.2.1)])).bind fun r3 =>
 bif decide (((([(4, r1.1)]) ++ ([(1, r2)])).length + 1) * 32 ≤ LIM) then
 lfp (fun (rec4 : (List (Int × Int) × List (Int × List Int) × (Unit × Unit)) → Option ((List (Int × List Int)) × Int)) (x4 : List (Int × Int) × List (Int × List Int) × (Unit × Unit)) =>
  bif x4.1.isEmpty then (
  lfp (fun (rec5 : (Int × List (Int × List Int) × (Unit × Unit)) → Option ((List (Int × List Int)) × Int)) (x5 : Int × List (Int × List Int) × (Unit × Unit)) =>
   bif decide (x5.1 < (b.2.2.2.2.2.2.2.2.2.1.length : Int)) then (
   bif inb x5.1 b.2.2.2.2.2.2.2.2.2.1.length then
   (both (
   (F42 ([(rd (.pair (.int .u64) (.int .u64)) b.2.2.2.2.2.2.2.2.2.1 x5.1).1, (rd (.pair (.int .u64) (.int .u64)) b.2.2.2.2.2.2.2.2.2.1 x5.1).2])).bind fun r6 =>
   bif decide ((x5.2.1.length + 1) * 32 ≤ LIM) then
   rec5 ((IntKind.wrap .i64 (x5.1 + 1)), (x5.2.1 ++ ([((IntKind.wrap .u64 (32 + (IntKind.wrap .u64 x5.1))), r6)])), ((), ()))
   else none) (
   (F42 ([(rd (.pair (.int .u64) (.int .u64)) b.2.2.2.2.2.2.2.2.2.1 x5.1).1, (rd (.pair (.int .u64) (.int .u64)) b.2.2.2.2.2.2.2.2.2.1 x5.1).2])).bind fun r6 =>
   (fun o => both o o) (
   bif decide ((x5.2.1.length + 1) * 32 ≤ LIM) then
   rec5 ((IntKind.wrap .i64 (x5.1 + 1)), (x5.2.1 ++ ([((IntKind.wrap .u64 (32 + (IntKind.wrap .u64 x5.1))), r6)])), ((), ()))
   else none)))
   else none)
   else (
   lfp (fun (rec7 : (List (Int × List Int) × Int × Int × List (Int × List Int) × (Unit × Unit)) → Option ((List (Int × List Int)) × Int)) (x7 : List (Int × List Int) × Int × Int × List (Int × List Int) × (Unit × Unit)) =>
    bif decide (x7.2.2.1 < (b.2.2.2.2.2.2.2.2.2.2.length : Int)) then (
    bif inb x7.2.2.1 b.2.2.2.2.2.2.2.2.2.2.length then
    (F43 ((rd (.pair (.int .i64) (.pair (.int .u64) (.int .u64))) b.2.2.2.2.2.2.2.2.2.2 x7.2.2.1).1, (((rd (.pair (.int .i64) (.pair (.int .u64) (.int .u64))) b.2.2.2.2.2.2.2.2.2.2 x7.2.2.1).2).1, ((rd (.pair (.int .i64) (.pair (.int .u64) (.int .u64))) b.2.2.2.2.2.2.2.2.2.2 x7.2.2.1).2).2))).bind fun r8 =>
    bif (!decide (r8.2 = 0)) then (
    some (([] : List (Int × List Int)), r8.2))
    else (
    bif decide ((x7.2.2.2.1.length + 1) * 32 ≤ LIM) then
    rec7 (x7.1, x7.2.1, (IntKind.wrap .i64 (x7.2.2.1 + 1)), (x7.2.2.2.1 ++ ([((IntKind.wrap .u64 (48 + (IntKind.wrap .u64 x7.2.2.1))), r8.1)])), ((), ()))
    else none)
    else none)
    else (
    bif srtOk x7.2.2.2.1 then
    some ((srt x7.2.2.2.1), 0)
    else none)) (([] : List (Int × List Int)), 0, 0, x5.2.1, ((), ())))) (0, x4.2.1, ((), ())))
  else (
  anyOf x4.1 (fun (e9 : Int × Int) (r9 : List (Int × Int)) =>
   bif (!decide (e9.2 = 0)) then (
   (both (
   (F42 ([e9.2])).bind fun r10 =>
   bif decide ((x4.2.1.length + 1) * 32 ≤ LIM) then
   rec4 (r9, (x4.2.1 ++ ([(e9.1, r10)])), ((), ()))
   else none) (
   (F42 ([e9.2])).bind fun r10 =>
   (fun o => both o o) (
   bif decide ((x4.2.1.length + 1) * 32 ≤ LIM) then
   rec4 (r9, (x4.2.1 ++ ([(e9.1, r10)])), ((), ()))
   else none))))
   else (
   rec4 (r9, x4.2.1, ((), ())))))) ((mput (.int .u64) (.int .u64) (mput (.int .u64) (.int .u64) (mput (.int .u64) (.int .u64) (mput (.int .u64) (.int .u64) ([] : List (Int × Int)) 3 b.2.2.1) 5 b.2.2.2.2.2.2.1) 6 b.2.2.2.2.2.2.2.1) 7 b.2.2.2.2.2.2.2.2.1), ((([(4, r1.1)]) ++ ([(1, r2)])) ++ ([(2, r3)])), ((), ()))
 else none) (
 (F42 ([(IntKind.wrap .u64 b.2.1)])).bind fun r3 =>
 (fun o => both o o) (
 bif decide (((([(4, r1.1)]) ++ ([(1, r2)])).length + 1) * 32 ≤ LIM) then
 lfp (fun (rec4 : (List (Int × Int) × List (Int × List Int) × (Unit × Unit)) → Option ((List (Int × List Int)) × Int)) (x4 : List (Int × Int) × List (Int × List Int) × (Unit × Unit)) =>
  bif x4.1.isEmpty then (
  lfp (fun (rec5 : (Int × List (Int × List Int) × (Unit × Unit)) → Option ((List (Int × List Int)) × Int)) (x5 : Int × List (Int × List Int) × (Unit × Unit)) =>
   bif decide (x5.1 < (b.2.2.2.2.2.2.2.2.2.1.length : Int)) then (
   bif inb x5.1 b.2.2.2.2.2.2.2.2.2.1.length then
   (both (
   (F42 ([(rd (.pair (.int .u64) (.int .u64)) b.2.2.2.2.2.2.2.2.2.1 x5.1).1, (rd (.pair (.int .u64) (.int .u64)) b.2.2.2.2.2.2.2.2.2.1 x5.1).2])).bind fun r6 =>
   bif decide ((x5.2.1.length + 1) * 32 ≤ LIM) then
   rec5 ((IntKind.wrap .i64 (x5.1 + 1)), (x5.2.1 ++ ([((IntKind.wrap .u64 (32 + (IntKind.wrap .u64 x5.1))), r6)])), ((), ()))
   else none) (
   (F42 ([(rd (.pair (.int .u64) (.int .u64)) b.2.2.2.2.2.2.2.2.2.1 x5.1).1, (rd (.pair (.int .u64) (.int .u64)) b.2.2.2.2.2.2.2.2.2.1 x5.1).2])).bind fun r6 =>
   (fun o => both o o) (
   bif decide ((x5.2.1.length + 1) * 32 ≤ LIM) then
   rec5 ((IntKind.wrap .i64 (x5.1 + 1)), (x5.2.1 ++ ([((IntKind.wrap .u64 (32 + (IntKind.wrap .u64 x5.1))), r6)])), ((), ()))
   else none)))
   else none)
   else (
   lfp (fun (rec7 : (List (Int × List Int) × Int × Int × List (Int × List Int) × (Unit × Unit)) → Option ((List (Int × List Int)) × Int)) (x7 : List (Int × List Int) × Int × Int × List (Int × List Int) × (Unit × Unit)) =>
    bif decide (x7.2.2.1 < (b.2.2.2.2.2.2.2.2.2.2.length : Int)) then (
    bif inb x7.2.2.1 b.2.2.2.2.2.2.2.2.2.2.length then
    (F43 ((rd (.pair (.int .i64) (.pair (.int .u64) (.int .u64))) b.2.2.2.2.2.2.2.2.2.2 x7.2.2.1).1, (((rd (.pair (.int .i64) (.pair (.int .u64) (.int .u64))) b.2.2.2.2.2.2.2.2.2.2 x7.2.2.1).2).1, ((rd (.pair (.int .i64) (.pair (.int .u64) (.int .u64))) b.2.2.2.2.2.2.2.2.2.2 x7.2.2.1).2).2))).bind fun r8 =>
    bif (!decide (r8.2 = 0)) then (
    some (([] : List (Int × List Int)), r8.2))
    else (
    bif decide ((x7.2.2.2.1.length + 1) * 32 ≤ LIM) then
    rec7 (x7.1, x7.2.1, (IntKind.wrap .i64 (x7.2.2.1 + 1)), (x7.2.2.2.1 ++ ([((IntKind.wrap .u64 (48 + (IntKind.wrap .u64 x7.2.2.1))), r8.1)])), ((), ()))
    else none)
    else none)
    else (
    bif srtOk x7.2.2.2.1 then
    some ((srt x7.2.2.2.1), 0)
    else none)) (([] : List (Int × List Int)), 0, 0, x5.2.1, ((), ())))) (0, x4.2.1, ((), ())))
  else (
  anyOf x4.1 (fun (e9 : Int × Int) (r9 : List (Int × Int)) =>
   bif (!decide (e9.2 = 0)) then (
   (both (
   (F42 ([e9.2])).bind fun r10 =>
   bif decide ((x4.2.1.length + 1) * 32 ≤ LIM) then
   rec4 (r9, (x4.2.1 ++ ([(e9.1, r10)])), ((), ()))
   else none) (
   (F42 ([e9.2])).bind fun r10 =>
   (fun o => both o o) (
   bif decide ((x4.2.1.length + 1) * 32 ≤ LIM) then
   rec4 (r9, (x4.2.1 ++ ([(e9.1, r10)])), ((), ()))
   else none))))
   else (
   rec4 (r9, x4.2.1, ((), ())))))) ((mput (.int .u64) (.int .u64) (mput (.int .u64) (.int .u64) (mput (.int .u64) (.int .u64) (mput (.int .u64) (.int .u64) ([] : List (Int × Int)) 3 b.2.2.1) 5 b.2.2.2.2.2.2.1) 6 b.2.2.2.2.2.2.2.1) 7 b.2.2.2.2.2.2.2.2.1), ((([(4, r1.1)]) ++ ([(1, r2)])) ++ ([(2, r3)])), ((), ()))
 else none)))
 else none))))
theorem ev26 (b : (Int × (Int × (Int × (Int × (List (Int × (Int × Int)) × (Int × (Int × (Int × (Int × (List (Int × Int) × List (Int × (Int × Int))))))))))))) : evF C44 H26 Tryd.f26 (encs [.aggA (.pair (.int .u64) (.pair (.int .i64) (.pair (.int .u64) (.pair (.int .u64) (.pair (.slice 48 (.pair (.int .i64) (.pair (.int .u64) (.int .u64)))) (.pair (.int .i64) (.pair (.int .u64) (.pair (.int .u64) (.pair (.int .u64) (.pair (.slice 57 (.pair (.int .u64) (.int .u64))) (.slice 48 (.pair (.int .i64) (.pair (.int .u64) (.int .u64))))))))))))))] b) (RT.dec (.tup [.leaf (.fresh 67 (.pair (.int .u64) (.slice 5 (.int .u8)))), .leaf (.int .i64)])) = F26 b := by kernel_rfl
noncomputable def C26 : Ctx := Ctx.addA C44 26 [.aggA (.pair (.int .u64) (.pair (.int .i64) (.pair (.int .u64) (.pair (.int .u64) (.pair (.slice 48 (.pair (.int .i64) (.pair (.int .u64) (.int .u64)))) (.pair (.int .i64) (.pair (.int .u64) (.pair (.int .u64) (.pair (.int .u64) (.pair (.slice 57 (.pair (.int .u64) (.int .u64))) (.slice 48 (.pair (.int .i64) (.pair (.int .u64) (.int .u64))))))))))))))] (.tup [.leaf (.fresh 67 (.pair (.int .u64) (.slice 5 (.int .u8)))), .leaf (.int .i64)]) F26
theorem s26 : C26.Sound := Ctx.Sound.addA (C := C44) mixed s44 Tryd.func26 ev26
/-! slices.IndexFunc[[]damson/api.Record,damson/api.Record] -/
def H47029 : Nat → Head
  | 2 => ⟨[.data 4 (.int .i64), .data 8 (.int .i64)], []⟩
  | _ => ⟨[], []⟩
noncomputable def F47029 (b : List (Int × List Int) × Unit) : Option Int :=
 lfp (fun (rec1 : (Int × Int) → Option Int) (x1 : Int × Int) =>
  bif decide (x1.2 < (b.1.length : Int)) then (
  bif inb x1.2 b.1.length then
  (F29 ((rd (.pair (.int .u64) (.slice 5 (.int .u8))) b.1 x1.2).1, (rd (.pair (.int .u64) (.slice 5 (.int .u8))) b.1 x1.2).2)).bind fun r2 =>
  bif r2 then (
  some x1.2)
  else (
  rec1 (x1.1, (IntKind.wrap .i64 (x1.2 + 1))))
  else none)
  else (
  some (-1))) (0, 0)
theorem ev47029 (b : List (Int × List Int) × Unit) : evF C26 H47029 Tryd.f47 (encs [.one (.slice 67 (.pair (.int .u64) (.slice 5 (.int .u8)))), .fn 29] b) (RT.dec (.one (.leaf (.int .i64)))) = F47029 b := by kernel_rfl
noncomputable def C47029 : Ctx := Ctx.add C26 47 [.one (.slice 67 (.pair (.int .u64) (.slice 5 (.int .u8)))), .fn 29] (.one (.leaf (.int .i64))) F47029
theorem s47029 : C47029.Sound := Ctx.Sound.add (C := C26) mixed s26 Tryd.func47 ev47029
/-! slices.DeleteFunc[[]damson/api.Record,damson/api.Record]: carried out where it is called -/
def H28 : Nat → Head
  | 5 => ⟨[.data 5 (.int .i64), .data 6 (.int .i64), .rowk 57344 67 (.pair (.int .u64) (.slice 5 (.int .u8)))], [9000028]⟩
  | 4000000 => ⟨[], [77, 82]⟩
  | _ => ⟨[], []⟩
noncomputable def C28 : Ctx := Ctx.addI C47029 28 H28 9000028 Tryd.f28
theorem s28 : C28.Sound := Ctx.Sound.addI (C := C47029) mixed s47029 Tryd.func28
/-! damson/request.Print -/
def H12 : Nat → Head
  | 1000000 => ⟨[], [1]⟩
  | _ => ⟨[], []⟩
noncomputable def F12 (b : (Int × (Int × (Int × (Int × (List (Int × (Int × Int)) × (Int × (Int × (Int × (Int × (List (Int × Int) × List (Int × (Int × Int))))))))))))) : Option (List Int × Int) :=
 (F10 (b.1, (b.2.1, (b.2.2.1, (b.2.2.2.1, (b.2.2.2.2.1, (b.2.2.2.2.2.1, (b.2.2.2.2.2.2.1, (b.2.2.2.2.2.2.2.1, (b.2.2.2.2.2.2.2.2.1, (b.2.2.2.2.2.2.2.2.2.1, b.2.2.2.2.2.2.2.2.2.2))))))))))).bind fun r1 =>
 bif (!decide (r1 = 0)) then (
 some (([] : List Int), r1))
 else (
 (F26 (b.1, (b.2.1, (b.2.2.1, (b.2.2.2.1, (b.2.2.2.2.1, (b.2.2.2.2.2.1, (b.2.2.2.2.2.2.1, (b.2.2.2.2.2.2.2.1, (b.2.2.2.2.2.2.2.2.1, (b.2.2.2.2.2.2.2.2.2.1, b.2.2.2.2.2.2.2.2.2.2))))))))))).bind fun r2 =>
 bif (!decide (r2.2 = 0)) then (
 some (([] : List Int), r2.2))
 else (
 (F47029 (r2.1, ())).bind fun r3 =>
 bif decide (r3 = (-1)) then (
 (F27 r2.1).bind fun r4 =>
 some (r4.1, r4.2))
 else (
 lfp (fun (rec5 : (Int × Int × List (Int × List Int)) → Option (List Int × Int)) (x5 : Int × Int × List (Int × List Int)) =>
  bif decide (x5.2.1 < (x5.2.2.length : Int)) then (
  bif inb x5.2.1 x5.2.2.length then
  (F29 ((rd (.pair (.int .u64) (.slice 5 (.int .u8))) x5.2.2 x5.2.1).1, (rd (.pair (.int .u64) (.slice 5 (.int .u8))) x5.2.2 x5.2.1).2)).bind fun r6 =>
  bif (!r6) then (
  bif inb x5.1 x5.2.2.length then
  rec5 ((IntKind.wrap .i64 (x5.1 + 1)), (IntKind.wrap .i64 (x5.2.1 + 1)), (x5.2.2.set x5.1.toNat ((rd (.pair (.int .u64) (.slice 5 (.int .u8))) x5.2.2 x5.2.1).1, (rd (.pair (.int .u64) (.slice 5 (.int .u8))) x5.2.2 x5.2.1).2)))
  else none)
  else (
  rec5 (x5.1, (IntKind.wrap .i64 (x5.2.1 + 1)), x5.2.2))
  else none)
  else (
  bif inb x5.1 (x5.2.2.length + 1) then
  bif decide (x5.1.toNat + (x5.2.2.length - x5.1.toNat) ≤ x5.2.2.length) then
  bif inb x5.1 ((x5.2.2.take x5.1.toNat ++ (List.replicate (x5.2.2.length - x5.1.toNat) (0, []) : List (Int × List Int)) ++ x5.2.2.drop (x5.1.toNat + (x5.2.2.length - x5.1.toNat))).length + 1) then
  (F27 ((x5.2.2.take x5.1.toNat ++ (List.replicate (x5.2.2.length - x5.1.toNat) (0, []) : List (Int × List Int)) ++ x5.2.2.drop (x5.1.toNat + (x5.2.2.length - x5.1.toNat))).take x5.1.toNat)).bind fun r7 =>
  some (r7.1, r7.2)
  else none
  else none
  else none)) (r3, (IntKind.wrap .i64 (r3 + 1)), r2.1))))
theorem ev12 (b : (Int × (Int × (Int × (Int × (List (Int × (Int × Int)) × (Int × (Int × (Int × (Int × (List (Int × Int) × List (Int × (Int × Int))))))))))))) : evF C28 H12 Tryd.f12 (encs [.aggA (.pair (.int .u64) (.pair (.int .i64) (.pair (.int .u64) (.pair (.int .u64) (.pair (.slice 48 (.pair (.int .i64) (.pair (.int .u64) (.int .u64)))) (.pair (.int .i64) (.pair (.int .u64) (.pair (.int .u64) (.pair (.int .u64) (.pair (.slice 57 (.pair (.int .u64) (.int .u64))) (.slice 48 (.pair (.int .i64) (.pair (.int .u64) (.int .u64))))))))))))))] b) (RT.dec (.tup [.leaf (.fresh 5 (.int .u8)), .leaf (.int .i64)])) = F12 b := by kernel_rfl
noncomputable def C12 : Ctx := Ctx.addA C28 12 [.aggA (.pair (.int .u64) (.pair (.int .i64) (.pair (.int .u64) (.pair (.int .u64) (.pair (.slice 48 (.pair (.int .i64) (.pair (.int .u64) (.int .u64)))) (.pair (.int .i64) (.pair (.int .u64) (.pair (.int .u64) (.pair (.int .u64) (.pair (.slice 57 (.pair (.int .u64) (.int .u64))) (.slice 48 (.pair (.int .i64) (.pair (.int .u64) (.int .u64))))))))))))))] (.tup [.leaf (.fresh 5 (.int .u8)), .leaf (.int .i64)]) F12
theorem s12 : C12.Sound := Ctx.Sound.addA (C := C28) mixed s28 Tryd.func12 ev12
/-! damson/damsonlaw19.live -/
def H7 : Nat → Head := fun _ => ⟨[], []⟩
noncomputable def F7 (b : Unit) : Option Bool :=
 (F12 (5, (7, (0, (0, ([], (0, (0, (0, (0, ([], []))))))))))).bind fun r1 =>
 bif (decide (r1.2 = 0) == true) then (
 some (decide (r1.1 = ([2, 1, 7]))))
 else (
 some false)
theorem ev7 (b : Unit) : evF C12 H7 Tryd.f7 (encs [] b) (RT.dec (.one (.leaf (.bool)))) = F7 b := by kernel_rfl
noncomputable def C7 : Ctx := Ctx.add C12 7 [] (.one (.leaf (.bool))) F7
theorem s7 : C7.Sound := Ctx.Sound.add (C := C12) mixed s12 Tryd.func7 ev7
/-! damson/damsonref19.Few -/
def H8 : Nat → Head := fun _ => ⟨[], []⟩
noncomputable def F8 (b : (Int × (Int × (Int × (Int × (List (Int × (Int × Int)) × (Int × (Int × (Int × (Int × (List (Int × Int) × List (Int × (Int × Int))))))))))))) : Option Bool :=
 some (bif (bif decide ((b.2.2.2.2.1.length : Int) ≤ 20) then decide ((b.2.2.2.2.2.2.2.2.2.1.length : Int) ≤ 20) else false) then decide ((b.2.2.2.2.2.2.2.2.2.2.length : Int) ≤ 20) else false)
theorem ev8 (b : (Int × (Int × (Int × (Int × (List (Int × (Int × Int)) × (Int × (Int × (Int × (Int × (List (Int × Int) × List (Int × (Int × Int))))))))))))) : evF C7 H8 Tryd.f8 (encs [.agg (.pair (.int .u64) (.pair (.int .i64) (.pair (.int .u64) (.pair (.int .u64) (.pair (.slice 48 (.pair (.int .i64) (.pair (.int .u64) (.int .u64)))) (.pair (.int .i64) (.pair (.int .u64) (.pair (.int .u64) (.pair (.int .u64) (.pair (.slice 57 (.pair (.int .u64) (.int .u64))) (.slice 48 (.pair (.int .i64) (.pair (.int .u64) (.int .u64))))))))))))))] b) (RT.dec (.one (.leaf (.bool)))) = F8 b := by kernel_rfl
noncomputable def C8 : Ctx := Ctx.add C7 8 [.agg (.pair (.int .u64) (.pair (.int .i64) (.pair (.int .u64) (.pair (.int .u64) (.pair (.slice 48 (.pair (.int .i64) (.pair (.int .u64) (.int .u64)))) (.pair (.int .i64) (.pair (.int .u64) (.pair (.int .u64) (.pair (.int .u64) (.pair (.slice 57 (.pair (.int .u64) (.int .u64))) (.slice 48 (.pair (.int .i64) (.pair (.int .u64) (.int .u64))))))))))))))] (.one (.leaf (.bool))) F8
theorem s8 : C8.Sound := Ctx.Sound.add (C := C7) mixed s7 Tryd.func8 ev8
/-! damson/request.Amount -/
def H9 : Nat → Head
  | 1000000 => ⟨[], [1]⟩
  | _ => ⟨[], []⟩
noncomputable def F9 (b : (Int × (Int × (Int × (Int × (List (Int × (Int × Int)) × (Int × (Int × (Int × (Int × (List (Int × Int) × List (Int × (Int × Int))))))))))))) : Option (Int × Int) :=
 (F10 (b.1, (b.2.1, (b.2.2.1, (b.2.2.2.1, (b.2.2.2.2.1, (b.2.2.2.2.2.1, (b.2.2.2.2.2.2.1, (b.2.2.2.2.2.2.2.1, (b.2.2.2.2.2.2.2.2.1, (b.2.2.2.2.2.2.2.2.2.1, b.2.2.2.2.2.2.2.2.2.2))))))))))).bind fun r1 =>
 bif (!decide (r1 = 0)) then (
 some (0, r1))
 else (
 bif decide (b.2.1 = 1) then (
 some (b.2.2.2.2.2.2.2.1, 0))
 else (
 bif decide (b.2.1 = 2) then (
 (F11 b.2.2.2.2.2.2.2.2.2.1).bind fun r2 =>
 some (r2.1, r2.2))
 else (
 some (0, 0))))
theorem ev9 (b : (Int × (Int × (Int × (Int × (List (Int × (Int × Int)) × (Int × (Int × (Int × (Int × (List (Int × Int) × List (Int × (Int × Int))))))))))))) : evF C8 H9 Tryd.f9 (encs [.agg (.pair (.int .u64) (.pair (.int .i64) (.pair (.int .u64) (.pair (.int .u64) (.pair (.slice 48 (.pair (.int .i64) (.pair (.int .u64) (.int .u64)))) (.pair (.int .i64) (.pair (.int .u64) (.pair (.int .u64) (.pair (.int .u64) (.pair (.slice 57 (.pair (.int .u64) (.int .u64))) (.slice 48 (.pair (.int .i64) (.pair (.int .u64) (.int .u64))))))))))))))] b) (RT.dec (.tup [.leaf (.int .u64), .leaf (.int .i64)])) = F9 b := by kernel_rfl
noncomputable def C9 : Ctx := Ctx.add C8 9 [.agg (.pair (.int .u64) (.pair (.int .i64) (.pair (.int .u64) (.pair (.int .u64) (.pair (.slice 48 (.pair (.int .i64) (.pair (.int .u64) (.int .u64)))) (.pair (.int .i64) (.pair (.int .u64) (.pair (.int .u64) (.pair (.int .u64) (.pair (.slice 57 (.pair (.int .u64) (.int .u64))) (.slice 48 (.pair (.int .i64) (.pair (.int .u64) (.int .u64))))))))))))))] (.tup [.leaf (.int .u64), .leaf (.int .i64)]) F9
theorem s9 : C9.Sound := Ctx.Sound.add (C := C8) mixed s8 Tryd.func9 ev9
/-! damson/damsonlaw19.RequestAmount -/
def H3 : Nat → Head := fun _ => ⟨[], []⟩
noncomputable def F3 (b : (Int × (Int × (Int × (Int × (List (Int × (Int × Int)) × (Int × (Int × (Int × (Int × (List (Int × Int) × List (Int × (Int × Int))))))))))))) : Option Bool :=
 (F7 ()).bind fun r1 =>
 bif (!r1) then (
 some false)
 else (
 (F8 (b.1, (b.2.1, (b.2.2.1, (b.2.2.2.1, (b.2.2.2.2.1, (b.2.2.2.2.2.1, (b.2.2.2.2.2.2.1, (b.2.2.2.2.2.2.2.1, (b.2.2.2.2.2.2.2.2.1, (b.2.2.2.2.2.2.2.2.2.1, b.2.2.2.2.2.2.2.2.2.2))))))))))).bind fun r2 =>
 bif (!r2) then (
 some true)
 else (
 (F9 (b.1, (b.2.1, (b.2.2.1, (b.2.2.2.1, (b.2.2.2.2.1, (b.2.2.2.2.2.1, (b.2.2.2.2.2.2.1, (b.2.2.2.2.2.2.2.1, (b.2.2.2.2.2.2.2.2.1, (b.2.2.2.2.2.2.2.2.2.1, b.2.2.2.2.2.2.2.2.2.2))))))))))).bind fun r3 =>
 bif (!decide (r3.2 = 0)) then (
 bif (decide (r3.1 = 0) == true) then (
 (F10 (b.1, (b.2.1, (b.2.2.1, (b.2.2.2.1, (b.2.2.2.2.1, (b.2.2.2.2.2.1, (b.2.2.2.2.2.2.1, (b.2.2.2.2.2.2.2.1, (b.2.2.2.2.2.2.2.2.1, (b.2.2.2.2.2.2.2.2.2.1, b.2.2.2.2.2.2.2.2.2.2))))))))))).bind fun r4 =>
 some (decide (r4 = r3.2)))
 else (
 some false))
 else (
 bif decide (b.2.1 = 1) then (
 some (bif (bif decide (r3.1 = b.2.2.2.2.2.2.2.1) then decide (0 < r3.1) else false) then decide (r3.1 ≤ 4611686018427387904) else false))
 else (
 bif decide (b.2.1 = 2) then (
 (F11 b.2.2.2.2.2.2.2.2.2.1).bind fun r5 =>
 some (bif (bif decide (r5.2 = 0) then decide (r3.1 = r5.1) else false) then decide (0 < r3.1) else false))
 else (
 some (decide (r3.1 = 0)))))))
theorem ev3 (b : (Int × (Int × (Int × (Int × (List (Int × (Int × Int)) × (Int × (Int × (Int × (Int × (List (Int × Int) × List (Int × (Int × Int))))))))))))) : evF C9 H3 Tryd.f3 (encs [.agg (.pair (.int .u64) (.pair (.int .i64) (.pair (.int .u64) (.pair (.int .u64) (.pair (.slice 48 (.pair (.int .i64) (.pair (.int .u64) (.int .u64)))) (.pair (.int .i64) (.pair (.int .u64) (.pair (.int .u64) (.pair (.int .u64) (.pair (.slice 57 (.pair (.int .u64) (.int .u64))) (.slice 48 (.pair (.int .i64) (.pair (.int .u64) (.int .u64))))))))))))))] b) (RT.dec (.one (.leaf (.bool)))) = F3 b := by kernel_rfl
noncomputable def C3 : Ctx := Ctx.add C9 3 [.agg (.pair (.int .u64) (.pair (.int .i64) (.pair (.int .u64) (.pair (.int .u64) (.pair (.slice 48 (.pair (.int .i64) (.pair (.int .u64) (.int .u64)))) (.pair (.int .i64) (.pair (.int .u64) (.pair (.int .u64) (.pair (.int .u64) (.pair (.slice 57 (.pair (.int .u64) (.int .u64))) (.slice 48 (.pair (.int .i64) (.pair (.int .u64) (.int .u64))))))))))))))] (.one (.leaf (.bool))) F3
theorem s3 : C3.Sound := Ctx.Sound.add (C := C9) mixed s9 Tryd.func3 ev3
/-! damson/damsonref01.SameBytes -/
def H13 : Nat → Head := fun _ => ⟨[], []⟩
noncomputable def F13 (b : List Int × List Int) : Option Bool :=
 some (decide (b.1 = b.2))
theorem ev13 (b : List Int × List Int) : evF C3 H13 Tryd.f13 (encs [.one (.slice 5 (.int .u8)), .one (.slice 5 (.int .u8))] b) (RT.dec (.one (.leaf (.bool)))) = F13 b := by kernel_rfl
noncomputable def C13 : Ctx := Ctx.add C3 13 [.one (.slice 5 (.int .u8)), .one (.slice 5 (.int .u8))] (.one (.leaf (.bool))) F13
theorem s13 : C13.Sound := Ctx.Sound.add (C := C3) mixed s3 Tryd.func13 ev13
/-! slices.Equal[[]damson/api.Caveat,damson/api.Caveat] -/
def H32 : Nat → Head
  | 4 => ⟨[.data 4 .bool, .data 13 (.int .i64)], []⟩
  | 5000006 => ⟨[], [0, 0, 0, 0, 3, 3, 4, 4, 0, 0, 0, 0, 48, 48, 64, 64, 136, 136]⟩
  | _ => ⟨[], []⟩
noncomputable def F32 (b : List (Int × (Int × Int)) × List (Int × (Int × Int))) : Option Bool :=
 bif (!decide ((b.1.length : Int) = (b.2.length : Int))) then (
 some false)
 else (
 lfp (fun (rec1 : (Bool × Int) → Option Bool) (x1 : Bool × Int) =>
  bif decide (x1.2 < (b.1.length : Int)) then (
  bif inb x1.2 b.1.length then
  bif inb x1.2 b.2.length then
  bif (!(decide ((rd (.pair (.int .i64) (.pair (.int .u64) (.int .u64))) b.1 x1.2).1 = (rd (.pair (.int .i64) (.pair (.int .u64) (.int .u64))) b.2 x1.2).1) && (decide (((rd (.pair (.int .i64) (.pair (.int .u64) (.int .u64))) b.1 x1.2).2).1 = ((rd (.pair (.int .i64) (.pair (.int .u64) (.int .u64))) b.2 x1.2).2).1) && decide (((rd (.pair (.int .i64) (.pair (.int .u64) (.int .u64))) b.1 x1.2).2).2 = ((rd (.pair (.int .i64) (.pair (.int .u64) (.int .u64))) b.2 x1.2).2).2)))) then (
  some false)
  else (
  rec1 (x1.1, (IntKind.wrap .i64 (x1.2 + 1))))
  else none
  else none)
  else (
  some true)) (false, 0))
theorem ev32 (b : List (Int × (Int × Int)) × List (Int × (Int × Int))) : evF C13 H32 Tryd.f32 (encs [.one (.slice 48 (.pair (.int .i64) (.pair (.int .u64) (.int .u64)))), .one (.slice 48 (.pair (.int .i64) (.pair (.int .u64) (.int .u64))))] b) (RT.dec (.one (.leaf (.bool)))) = F32 b := by kernel_rfl
noncomputable def C32 : Ctx := Ctx.add C13 32 [.one (.slice 48 (.pair (.int .i64) (.pair (.int .u64) (.int .u64)))), .one (.slice 48 (.pair (.int .i64) (.pair (.int .u64) (.int .u64))))] (.one (.leaf (.bool))) F32
theorem s32 : C32.Sound := Ctx.Sound.add (C := C13) mixed s13 Tryd.func32 ev32
/-! damson/token.Same -/
def H30 : Nat → Head := fun _ => ⟨[], []⟩
noncomputable def F30 (b : (Int × (List (Int × (Int × Int)) × Int)) × (Int × (List (Int × (Int × Int)) × Int))) : Option Bool :=
 bif ((bif decide (b.1.1 = b.2.1) then decide (b.1.2.2 = b.2.2.2) else false) == true) then (
 (F32 (b.1.2.1, b.2.2.1)).bind fun r1 =>
 some r1)
 else (
 some false)
theorem ev30 (b : (Int × (List (Int × (Int × Int)) × Int)) × (Int × (List (Int × (Int × Int)) × Int))) : evF C32 H30 Tryd.f30 (encs [.agg (.pair (.int .u64) (.pair (.slice 48 (.pair (.int .i64) (.pair (.int .u64) (.int .u64)))) (.int .i64))), .agg (.pair (.int .u64) (.pair (.slice 48 (.pair (.int .i64) (.pair (.int .u64) (.int .u64)))) (.int .i64)))] b) (RT.dec (.one (.leaf (.bool)))) = F30 b := by kernel_rfl
noncomputable def C30 : Ctx := Ctx.add C32 30 [.agg (.pair (.int .u64) (.pair (.slice 48 (.pair (.int .i64) (.pair (.int .u64) (.int .u64)))) (.int .i64))), .agg (.pair (.int .u64) (.pair (.slice 48 (.pair (.int .i64) (.pair (.int .u64) (.int .u64)))) (.int .i64)))] (.one (.leaf (.bool))) F30
theorem s30 : C30.Sound := Ctx.Sound.add (C := C32) mixed s32 Tryd.func30 ev30
/-! slices.Equal[[]damson/api.Item,damson/api.Item] -/
def H31 : Nat → Head
  | 4 => ⟨[.data 4 .bool, .data 13 (.int .i64)], []⟩
  | 5000006 => ⟨[], [0, 0, 0, 0, 3, 3, 4, 4, 0, 0, 0, 0, 48, 48, 64, 64, 136, 136]⟩
  | _ => ⟨[], []⟩
noncomputable def F31 (b : List (Int × Int) × List (Int × Int)) : Option Bool :=
 bif (!decide ((b.1.length : Int) = (b.2.length : Int))) then (
 some false)
 else (
 lfp (fun (rec1 : (Bool × Int) → Option Bool) (x1 : Bool × Int) =>
  bif decide (x1.2 < (b.1.length : Int)) then (
  bif inb x1.2 b.1.length then
  bif inb x1.2 b.2.length then
  bif (!(decide ((rd (.pair (.int .u64) (.int .u64)) b.1 x1.2).1 = (rd (.pair (.int .u64) (.int .u64)) b.2 x1.2).1) && decide ((rd (.pair (.int .u64) (.int .u64)) b.1 x1.2).2 = (rd (.pair (.int .u64) (.int .u64)) b.2 x1.2).2))) then (
  some false)
  else (
  rec1 (x1.1, (IntKind.wrap .i64 (x1.2 + 1))))
  else none
  else none)
  else (
  some true)) (false, 0))
theorem ev31 (b : List (Int × Int) × List (Int × Int)) : evF C30 H31 Tryd.f31 (encs [.one (.slice 57 (.pair (.int .u64) (.int .u64))), .one (.slice 57 (.pair (.int .u64) (.int .u64)))] b) (RT.dec (.one (.leaf (.bool)))) = F31 b := by kernel_rfl
noncomputable def C31 : Ctx := Ctx.add C30 31 [.one (.slice 57 (.pair (.int .u64) (.int .u64))), .one (.slice 57 (.pair (.int .u64) (.int .u64)))] (.one (.leaf (.bool))) F31
theorem s31 : C31.Sound := Ctx.Sound.add (C := C30) mixed s30 Tryd.func31 ev31
/-! damson/request.Same -/
def H14 : Nat → Head
  | 1000000 => ⟨[], [2, 3]⟩
  | _ => ⟨[], []⟩
noncomputable def F14 (b : (Int × (Int × (Int × (Int × (List (Int × (Int × Int)) × (Int × (Int × (Int × (Int × (List (Int × Int) × List (Int × (Int × Int)))))))))))) × (Int × (Int × (Int × (Int × (List (Int × (Int × Int)) × (Int × (Int × (Int × (Int × (List (Int × Int) × List (Int × (Int × Int))))))))))))) : Option Bool :=
 bif ((bif (bif decide (b.1.1 = b.2.1) then decide (b.1.2.1 = b.2.2.1) else false) then decide (b.1.2.2.1 = b.2.2.2.1) else false) == true) then (
 (F30 ((b.1.2.2.2.1, (b.1.2.2.2.2.1, b.1.2.2.2.2.2.1)), (b.2.2.2.2.1, (b.2.2.2.2.2.1, b.2.2.2.2.2.2.1)))).bind fun r1 =>
 bif ((bif (bif (bif r1 then decide (b.1.2.2.2.2.2.2.1 = b.2.2.2.2.2.2.2.1) else false) then decide (b.1.2.2.2.2.2.2.2.1 = b.2.2.2.2.2.2.2.2.1) else false) then decide (b.1.2.2.2.2.2.2.2.2.1 = b.2.2.2.2.2.2.2.2.2.1) else false) == true) then (
 (F31 (b.1.2.2.2.2.2.2.2.2.2.1, b.2.2.2.2.2.2.2.2.2.2.1)).bind fun r2 =>
 bif (r2 == true) then (
 (F32 (b.1.2.2.2.2.2.2.2.2.2.2, b.2.2.2.2.2.2.2.2.2.2.2)).bind fun r3 =>
 some r3)
 else (
 some false))
 else (
 some false))
 else (
 some false)
theorem ev14 (b : (Int × (Int × (Int × (Int × (List (Int × (Int × Int)) × (Int × (Int × (Int × (Int × (List (Int × Int) × List (Int × (Int × Int)))))))))))) × (Int × (Int × (Int × (Int × (List (Int × (Int × Int)) × (Int × (Int × (Int × (Int × (List (Int × Int) × List (Int × (Int × Int))))))))))))) : evF C31 H14 Tryd.f14 (encs [.agg (.pair (.int .u64) (.pair (.int .i64) (.pair (.int .u64) (.pair (.int .u64) (.pair (.slice 48 (.pair (.int .i64) (.pair (.int .u64) (.int .u64)))) (.pair (.int .i64) (.pair (.int .u64) (.pair (.int .u64) (.pair (.int .u64) (.pair (.slice 57 (.pair (.int .u64) (.int .u64))) (.slice 48 (.pair (.int .i64) (.pair (.int .u64) (.int .u64)))))))))))))), .agg (.pair (.int .u64) (.pair (.int .i64) (.pair (.int .u64) (.pair (.int .u64) (.pair (.slice 48 (.pair (.int .i64) (.pair (.int .u64) (.int .u64)))) (.pair (.int .i64) (.pair (.int .u64) (.pair (.int .u64) (.pair (.int .u64) (.pair (.slice 57 (.pair (.int .u64) (.int .u64))) (.slice 48 (.pair (.int .i64) (.pair (.int .u64) (.int .u64))))))))))))))] b) (RT.dec (.one (.leaf (.bool)))) = F14 b := by kernel_rfl
noncomputable def C14 : Ctx := Ctx.add C31 14 [.agg (.pair (.int .u64) (.pair (.int .i64) (.pair (.int .u64) (.pair (.int .u64) (.pair (.slice 48 (.pair (.int .i64) (.pair (.int .u64) (.int .u64)))) (.pair (.int .i64) (.pair (.int .u64) (.pair (.int .u64) (.pair (.int .u64) (.pair (.slice 57 (.pair (.int .u64) (.int .u64))) (.slice 48 (.pair (.int .i64) (.pair (.int .u64) (.int .u64)))))))))))))), .agg (.pair (.int .u64) (.pair (.int .i64) (.pair (.int .u64) (.pair (.int .u64) (.pair (.slice 48 (.pair (.int .i64) (.pair (.int .u64) (.int .u64)))) (.pair (.int .i64) (.pair (.int .u64) (.pair (.int .u64) (.pair (.int .u64) (.pair (.slice 57 (.pair (.int .u64) (.int .u64))) (.slice 48 (.pair (.int .i64) (.pair (.int .u64) (.int .u64))))))))))))))] (.one (.leaf (.bool))) F14
theorem s14 : C14.Sound := Ctx.Sound.add (C := C31) mixed s31 Tryd.func14 ev14
/-! damson/damsonlaw19.RequestPrint -/
def H4 : Nat → Head
  | 5000011 => ⟨[], [0, 0, 0, 0, 3, 3, 0, 0, 0, 0, 28, 24, 36, 36, 127, 64]⟩
  | _ => ⟨[], []⟩
noncomputable def F4 (b : (Int × (Int × (Int × (Int × (List (Int × (Int × Int)) × (Int × (Int × (Int × (Int × (List (Int × Int) × List (Int × (Int × Int)))))))))))) × (Int × (Int × (Int × (Int × (List (Int × (Int × Int)) × (Int × (Int × (Int × (Int × (List (Int × Int) × List (Int × (Int × Int))))))))))))) : Option Bool :=
 (F7 ()).bind fun r1 =>
 bif (!r1) then (
 some false)
 else (
 (F8 (b.1.1, (b.1.2.1, (b.1.2.2.1, (b.1.2.2.2.1, (b.1.2.2.2.2.1, (b.1.2.2.2.2.2.1, (b.1.2.2.2.2.2.2.1, (b.1.2.2.2.2.2.2.2.1, (b.1.2.2.2.2.2.2.2.2.1, (b.1.2.2.2.2.2.2.2.2.2.1, b.1.2.2.2.2.2.2.2.2.2.2))))))))))).bind fun r2 =>
 bif ((!r2) == false) then (
 (F8 (b.2.1, (b.2.2.1, (b.2.2.2.1, (b.2.2.2.2.1, (b.2.2.2.2.2.1, (b.2.2.2.2.2.2.1, (b.2.2.2.2.2.2.2.1, (b.2.2.2.2.2.2.2.2.1, (b.2.2.2.2.2.2.2.2.2.1, (b.2.2.2.2.2.2.2.2.2.2.1, b.2.2.2.2.2.2.2.2.2.2.2))))))))))).bind fun r3 =>
 bif (!r3) then (
 some true)
 else (
 (F12 (b.1.1, (b.1.2.1, (b.1.2.2.1, (b.1.2.2.2.1, (b.1.2.2.2.2.1, (b.1.2.2.2.2.2.1, (b.1.2.2.2.2.2.2.1, (b.1.2.2.2.2.2.2.2.1, (b.1.2.2.2.2.2.2.2.2.1, (b.1.2.2.2.2.2.2.2.2.2.1, b.1.2.2.2.2.2.2.2.2.2.2))))))))))).bind fun r4 =>
 (F12 (b.2.1, (b.2.2.1, (b.2.2.2.1, (b.2.2.2.2.1, (b.2.2.2.2.2.1, (b.2.2.2.2.2.2.1, (b.2.2.2.2.2.2.2.1, (b.2.2.2.2.2.2.2.2.1, (b.2.2.2.2.2.2.2.2.2.1, (b.2.2.2.2.2.2.2.2.2.2.1, b.2.2.2.2.2.2.2.2.2.2.2))))))))))).bind fun r5 =>
 bif (bif (!decide (r4.2 = 0)) then true else (!decide (r5.2 = 0))) then (
 some (bif (decide ((r4.1.length : Int) = 0) == (!decide (r4.2 = 0))) then (decide ((r5.1.length : Int) = 0) == (!decide (r5.2 = 0))) else false))
 else (
 (both (
 (F13 (r4.1, r5.1)).bind fun r6 =>
 (fun o => both o o) (
 (F14 ((b.1.1, (b.1.2.1, (b.1.2.2.1, (b.1.2.2.2.1, (b.1.2.2.2.2.1, (b.1.2.2.2.2.2.1, (b.1.2.2.2.2.2.2.1, (b.1.2.2.2.2.2.2.2.1, (b.1.2.2.2.2.2.2.2.2.1, (b.1.2.2.2.2.2.2.2.2.2.1, b.1.2.2.2.2.2.2.2.2.2.2)))))))))), (b.1.1, (b.2.2.1, (b.2.2.2.1, (b.1.2.2.2.1, (b.1.2.2.2.2.1, (b.1.2.2.2.2.2.1, (b.2.2.2.2.2.2.2.1, (b.2.2.2.2.2.2.2.2.1, (b.2.2.2.2.2.2.2.2.2.1, (b.2.2.2.2.2.2.2.2.2.2.1, b.2.2.2.2.2.2.2.2.2.2.2)))))))))))).bind fun r7 =>
 some (r6 == r7))) (both (
 (fun o => both o o) (
 (F13 (r4.1, r5.1)).bind fun r6 =>
 (F14 ((b.1.1, (b.1.2.1, (b.1.2.2.1, (b.1.2.2.2.1, (b.1.2.2.2.2.1, (b.1.2.2.2.2.2.1, (b.1.2.2.2.2.2.2.1, (b.1.2.2.2.2.2.2.2.1, (b.1.2.2.2.2.2.2.2.2.1, (b.1.2.2.2.2.2.2.2.2.2.1, b.1.2.2.2.2.2.2.2.2.2.2)))))))))), (b.1.1, (b.2.2.1, (b.2.2.2.1, (b.1.2.2.2.1, (b.1.2.2.2.2.1, (b.1.2.2.2.2.2.1, (b.2.2.2.2.2.2.2.1, (b.2.2.2.2.2.2.2.2.1, (b.2.2.2.2.2.2.2.2.2.1, (b.2.2.2.2.2.2.2.2.2.2.1, b.2.2.2.2.2.2.2.2.2.2.2)))))))))))).bind fun r7 =>
 some (r6 == r7))) (
 (fun o => both o o) (
 (F13 (r4.1, r5.1)).bind fun r6 =>
 (F14 ((b.1.1, (b.1.2.1, (b.1.2.2.1, (b.1.2.2.2.1, (b.1.2.2.2.2.1, (b.1.2.2.2.2.2.1, (b.1.2.2.2.2.2.2.1, (b.1.2.2.2.2.2.2.2.1, (b.1.2.2.2.2.2.2.2.2.1, (b.1.2.2.2.2.2.2.2.2.2.1, b.1.2.2.2.2.2.2.2.2.2.2)))))))))), (b.1.1, (b.2.2.1, (b.2.2.2.1, (b.1.2.2.2.1, (b.1.2.2.2.2.1, (b.1.2.2.2.2.2.1, (b.2.2.2.2.2.2.2.1, (b.2.2.2.2.2.2.2.2.1, (b.2.2.2.2.2.2.2.2.2.1, (b.2.2.2.2.2.2.2.2.2.2.1, b.2.2.2.2.2.2.2.2.2.2.2)))))))))))).bind fun r7 =>
 some (r6 == r7))))))))
 else (
 some true))
theorem ev4 (b : (Int × (Int × (Int × (Int × (List (Int × (Int × Int)) × (Int × (Int × (Int × (Int × (List (Int × Int) × List (Int × (Int × Int)))))))))))) × (Int × (Int × (Int × (Int × (List (Int × (Int × Int)) × (Int × (Int × (Int × (Int × (List (Int × Int) × List (Int × (Int × Int))))))))))))) : evF C14 H4 Tryd.f4 (encs [.agg (.pair (.int .u64) (.pair (.int .i64) (.pair (.int .u64) (.pair (.int .u64) (.pair (.slice 48 (.pair (.int .i64) (.pair (.int .u64) (.int .u64)))) (.pair (.int .i64) (.pair (.int .u64) (.pair (.int .u64) (.pair (.int .u64) (.pair (.slice 57 (.pair (.int .u64) (.int .u64))) (.slice 48 (.pair (.int .i64) (.pair (.int .u64) (.int .u64)))))))))))))), .agg (.pair (.int .u64) (.pair (.int .i64) (.pair (.int .u64) (.pair (.int .u64) (.pair (.slice 48 (.pair (.int .i64) (.pair (.int .u64) (.int .u64)))) (.pair (.int .i64) (.pair (.int .u64) (.pair (.int .u64) (.pair (.int .u64) (.pair (.slice 57 (.pair (.int .u64) (.int .u64))) (.slice 48 (.pair (.int .i64) (.pair (.int .u64) (.int .u64))))))))))))))] b) (RT.dec (.one (.leaf (.bool)))) = F4 b := by kernel_rfl
noncomputable def C4 : Ctx := Ctx.add C14 4 [.agg (.pair (.int .u64) (.pair (.int .i64) (.pair (.int .u64) (.pair (.int .u64) (.pair (.slice 48 (.pair (.int .i64) (.pair (.int .u64) (.int .u64)))) (.pair (.int .i64) (.pair (.int .u64) (.pair (.int .u64) (.pair (.int .u64) (.pair (.slice 57 (.pair (.int .u64) (.int .u64))) (.slice 48 (.pair (.int .i64) (.pair (.int .u64) (.int .u64)))))))))))))), .agg (.pair (.int .u64) (.pair (.int .i64) (.pair (.int .u64) (.pair (.int .u64) (.pair (.slice 48 (.pair (.int .i64) (.pair (.int .u64) (.int .u64)))) (.pair (.int .i64) (.pair (.int .u64) (.pair (.int .u64) (.pair (.int .u64) (.pair (.slice 57 (.pair (.int .u64) (.int .u64))) (.slice 48 (.pair (.int .i64) (.pair (.int .u64) (.int .u64))))))))))))))] (.one (.leaf (.bool))) F4
theorem s4 : C4.Sound := Ctx.Sound.add (C := C14) mixed s14 Tryd.func4 ev4
end Go.Proofs.YtgdfhijgjjcnjaaDoor.R5
