/- Part of a proof: what the program's functions come to. -/
import Derived.Test.YtgdfhijgjjcnjaaDoorFwSort
import Derived.Test.YtgdfhijgjjcnjaaDoorDPAY
import Derived.Test.YtgdfhijgjjcnjaaDoorProg
import Derived.KernelRfl
set_option linter.unusedVariables false
set_option linter.unusedSimpArgs false
set_option maxRecDepth 100000
namespace Go.Proofs.YtgdfhijgjjcnjaaDoor.R5
open Go Go.Fw Go.Proofs
def globs : Nat → Option ((t : Ty) × List t.den)
  | 0 => some ⟨(.int .i64), ([0, 71, 17, 79, 3, 2, 2, 0, 6, 4, 32] : List Int)⟩
  | _ => none
noncomputable def C_ : Ctx := Ctx.nilG Tryd.prog globs
theorem s_ : C_.Sound := Ctx.nilG_sound _ _
theorem mixed : Tryd.prog.follows .mixedOrders = true := by kernel_rfl
/-! damson/token.Get$1 -/
def H64 : Nat → Head := fun _ => ⟨[], []⟩
noncomputable def F64 (b : Int) : Option Int :=
 bif decide (b < 2) then (
 some (IntKind.wrap .u64 (1 + (IntKind.wrap .u64 b))))
 else (
 some (IntKind.wrap .u64 (16 + (IntKind.wrap .u64 (IntKind.wrap .i64 (b - 2))))))
theorem ev64 (b : Int) : evF C_ H64 Tryd.f64 (encs [.one (.int .i64)] b) (RT.dec (.one (.leaf (.int .u64)))) = F64 b := by kernel_rfl
noncomputable def C64 : Ctx := Ctx.add C_ 64 [.one (.int .i64)] (.one (.leaf (.int .u64))) F64
theorem s64 : C64.Sound := Ctx.Sound.add (C := C_) mixed s_ Tryd.func64 ev64
/-! damson/request.Print$1 -/
def H29 : Nat → Head := fun _ => ⟨[], []⟩
noncomputable def F29 (b : (Int × List Int)) : Option Bool :=
 some (bif decide (b.1 = 1) then true else decide (b.1 = 4))
theorem ev29 (b : (Int × List Int)) : evF C64 H29 Tryd.f29 (encs [.agg (.pair (.int .u64) (.slice 5 (.int .u8)))] b) (RT.dec (.one (.leaf (.bool)))) = F29 b := by kernel_rfl
noncomputable def C29 : Ctx := Ctx.add C64 29 [.agg (.pair (.int .u64) (.slice 5 (.int .u8)))] (.one (.leaf (.bool))) F29
theorem s29 : C29.Sound := Ctx.Sound.add (C := C64) mixed s64 Tryd.func29 ev29
/-! damson/request.records$2 -/
def H45 : Nat → Head := fun _ => ⟨[], []⟩
noncomputable def F45 (b : (Int × List Int) × (Int × List Int)) : Option Int :=
 some (IntKind.wrap .i64 ((IntKind.wrap .i64 b.1.1) - (IntKind.wrap .i64 b.2.1)))
theorem ev45 (b : (Int × List Int) × (Int × List Int)) : evF C29 H45 Tryd.f45 (encs [.agg (.pair (.int .u64) (.slice 5 (.int .u8))), .agg (.pair (.int .u64) (.slice 5 (.int .u8)))] b) (RT.dec (.one (.leaf (.int .i64)))) = F45 b := by kernel_rfl
noncomputable def C45 : Ctx := Ctx.add C29 45 [.agg (.pair (.int .u64) (.slice 5 (.int .u8))), .agg (.pair (.int .u64) (.slice 5 (.int .u8)))] (.one (.leaf (.int .i64))) F45
theorem s45 : C45.Sound := Ctx.Sound.add (C := C29) mixed s29 Tryd.func45 ev45
/-! slices.Max[[]uint64,uint64] -/
def H36 : Nat → Head
  | 5 => ⟨[.data 3 (.int .u64), .data 4 (.int .i64)], []⟩
  | _ => ⟨[], []⟩
noncomputable def F36 (b : List Int) : Option Int :=
 bif decide ((b.length : Int) < 1) then (
 none)
 else (
 bif inb 0 b.length then
 lfp (fun (rec1 : (Int × Int) → Option Int) (x1 : Int × Int) =>
  bif decide (x1.2 < (b.length : Int)) then (
  bif inb x1.2 b.length then
  rec1 ((if x1.1 < (rd (.int .u64) b x1.2) then (rd (.int .u64) b x1.2) else x1.1), (IntKind.wrap .i64 (x1.2 + 1)))
  else none)
  else (
  some x1.1)) ((rd (.int .u64) b 0), 1)
 else none)
theorem ev36 (b : List Int) : evF C45 H36 Tryd.f36 (encs [.one (.slice 22 (.int .u64))] b) (RT.dec (.one (.leaf (.int .u64)))) = F36 b := by kernel_rfl
noncomputable def C36 : Ctx := Ctx.add C45 36 [.one (.slice 22 (.int .u64))] (.one (.leaf (.int .u64))) F36
theorem s36 : C36.Sound := Ctx.Sound.add (C := C45) mixed s45 Tryd.func36 ev36
/-! damson/money.Check -/
def H20 : Nat → Head := fun _ => ⟨[], []⟩
noncomputable def F20 (b : List Int) : Option Int :=
 bif (decide (0 < (b.length : Int)) == true) then (
 (F36 b).bind fun r1 =>
 bif decide (4611686018427387904 < r1) then (
 some 1)
 else (
 some 0))
 else (
 some 0)
theorem ev20 (b : List Int) : evF C36 H20 Tryd.f20 (encs [.one (.slice 22 (.int .u64))] b) (RT.dec (.one (.leaf (.int .i64)))) = F20 b := by kernel_rfl
noncomputable def C20 : Ctx := Ctx.add C36 20 [.one (.slice 22 (.int .u64))] (.one (.leaf (.int .i64))) F20
theorem s20 : C20.Sound := Ctx.Sound.add (C := C36) mixed s36 Tryd.func20 ev20
/-! damson/caveat.Check -/
def H19 : Nat → Head := fun _ => ⟨[], []⟩
noncomputable def F19 (b : (Int × (Int × Int))) : Option Int :=
 bif decide (b.1 = 4) then (
 (F20 ([b.2.1])).bind fun r1 =>
 some r1)
 else (
 bif decide (b.1 = 3) then (
 (F20 ([b.2.1])).bind fun r2 =>
 bif (!decide (r2 = 0)) then (
 some 1)
 else (
 bif (!decide (b.2.2 = 0)) then (
 some 1)
 else (
 some 0)))
 else (
 bif decide (b.1 = 2) then (
 bif decide (0 < (b.2.1 / 2 ^ (min (16 : Int).toNat 64))) then (
 some 1)
 else (
 bif (!decide (b.2.2 = 0)) then (
 some 1)
 else (
 some 0)))
 else (
 bif decide (b.1 = 1) then (
 bif decide (b.1 = 1) then (
 bif (!decide (b.2.2 = 0)) then (
 some 1)
 else (
 some 0))
 else (
 some 1))
 else (
 bif decide (b.1 = 5) then (
 bif (!decide (b.2.2 = 0)) then (
 some 1)
 else (
 some 0))
 else (
 some 1)))))
theorem ev19 (b : (Int × (Int × Int))) : evF C20 H19 Tryd.f19 (encs [.agg (.pair (.int .i64) (.pair (.int .u64) (.int .u64)))] b) (RT.dec (.one (.leaf (.int .i64)))) = F19 b := by kernel_rfl
noncomputable def C19 : Ctx := Ctx.add C20 19 [.agg (.pair (.int .i64) (.pair (.int .u64) (.int .u64)))] (.one (.leaf (.int .i64))) F19
theorem s19 : C19.Sound := Ctx.Sound.add (C := C20) mixed s20 Tryd.func19 ev19
/-! damson/request.Check$1 -/
def H18 : Nat → Head := fun _ => ⟨[], []⟩
noncomputable def F18 (b : (Int × (Int × Int))) : Option Bool :=
 (F19 (b.1, (b.2.1, b.2.2))).bind fun r1 =>
 some (!decide (r1 = 0))
theorem ev18 (b : (Int × (Int × Int))) : evF C19 H18 Tryd.f18 (encs [.agg (.pair (.int .i64) (.pair (.int .u64) (.int .u64)))] b) (RT.dec (.one (.leaf (.bool)))) = F18 b := by kernel_rfl
noncomputable def C18 : Ctx := Ctx.add C19 18 [.agg (.pair (.int .i64) (.pair (.int .u64) (.int .u64)))] (.one (.leaf (.bool))) F18
theorem s18 : C18.Sound := Ctx.Sound.add (C := C19) mixed s19 Tryd.func18 ev18
/-! damson/token.Check$1 -/
def H38 : Nat → Head := fun _ => ⟨[], []⟩
noncomputable def F38 (b : (Int × (Int × Int))) : Option Bool :=
 (F19 (b.1, (b.2.1, b.2.2))).bind fun r1 =>
 some (!decide (r1 = 0))
theorem ev38 (b : (Int × (Int × Int))) : evF C18 H38 Tryd.f38 (encs [.agg (.pair (.int .i64) (.pair (.int .u64) (.int .u64)))] b) (RT.dec (.one (.leaf (.bool)))) = F38 b := by kernel_rfl
noncomputable def C38 : Ctx := Ctx.add C18 38 [.agg (.pair (.int .i64) (.pair (.int .u64) (.int .u64)))] (.one (.leaf (.bool))) F38
theorem s38 : C38.Sound := Ctx.Sound.add (C := C18) mixed s18 Tryd.func38 ev38
/-! damson/batch.Sum$1 -/
def H23 : Nat → Head := fun _ => ⟨[], []⟩
noncomputable def F23 (b : (Int × Int)) : Option Bool :=
 bif (decide (b.2 = 0) == false) then (
 (F20 ([b.2])).bind fun r1 =>
 some (!decide (r1 = 0)))
 else (
 some true)
theorem ev23 (b : (Int × Int)) : evF C38 H23 Tryd.f23 (encs [.agg (.pair (.int .u64) (.int .u64))] b) (RT.dec (.one (.leaf (.bool)))) = F23 b := by kernel_rfl
noncomputable def C23 : Ctx := Ctx.add C38 23 [.agg (.pair (.int .u64) (.int .u64))] (.one (.leaf (.bool))) F23
theorem s23 : C23.Sound := Ctx.Sound.add (C := C38) mixed s38 Tryd.func23 ev23
/-! damson/money.Add -/
def H25 : Nat → Head
  | 5 => ⟨[.data 2 (.int .u64), .data 3 (.int .i64), .data 13 (.int .i64)], []⟩
  | _ => ⟨[], []⟩
noncomputable def F25 (b : List Int) : Option (Int × Int) :=
 (F20 b).bind fun r1 =>
 bif (!decide (r1 = 0)) then (
 some (0, r1))
 else (
 lfp (fun (rec2 : (Int × Int × Int) → Option (Int × Int)) (x2 : Int × Int × Int) =>
  bif decide (x2.2.2 < (b.length : Int)) then (
  bif inb x2.2.2 b.length then
  bif decide (4611686018427387904 < (IntKind.wrap .u64 (x2.1 + (rd (.int .u64) b x2.2.2)))) then (
  some (0, 8))
  else (
  rec2 ((IntKind.wrap .u64 (x2.1 + (rd (.int .u64) b x2.2.2))), x2.2.1, (IntKind.wrap .i64 (x2.2.2 + 1))))
  else none)
  else (
  some (x2.1, 0))) (0, r1, 0))
theorem ev25 (b : List Int) : evF C23 H25 Tryd.f25 (encs [.one (.slice 22 (.int .u64))] b) (RT.dec (.tup [.leaf (.int .u64), .leaf (.int .i64)])) = F25 b := by kernel_rfl
noncomputable def C25 : Ctx := Ctx.add C23 25 [.one (.slice 22 (.int .u64))] (.tup [.leaf (.int .u64), .leaf (.int .i64)]) F25
theorem s25 : C25.Sound := Ctx.Sound.add (C := C23) mixed s23 Tryd.func25 ev25
/-! slices.IndexFunc[[]damson/api.Item,damson/api.Item] -/
def H39023 : Nat → Head
  | 2 => ⟨[.data 4 (.int .i64), .data 8 (.int .i64)], []⟩
  | _ => ⟨[], []⟩
noncomputable def F39023 (b : List (Int × Int) × Unit) : Option Int :=
 lfp (fun (rec1 : (Int × Int) → Option Int) (x1 : Int × Int) =>
  bif decide (x1.2 < (b.1.length : Int)) then (
  bif inb x1.2 b.1.length then
  (F23 ((rd (.pair (.int .u64) (.int .u64)) b.1 x1.2).1, (rd (.pair (.int .u64) (.int .u64)) b.1 x1.2).2)).bind fun r2 =>
  bif r2 then (
  some x1.2)
  else (
  rec1 (x1.1, (IntKind.wrap .i64 (x1.2 + 1))))
  else none)
  else (
  some (-1))) (0, 0)
theorem ev39023 (b : List (Int × Int) × Unit) : evF C25 H39023 Tryd.f39 (encs [.one (.slice 57 (.pair (.int .u64) (.int .u64))), .fn 23] b) (RT.dec (.one (.leaf (.int .i64)))) = F39023 b := by kernel_rfl
noncomputable def C39023 : Ctx := Ctx.add C25 39 [.one (.slice 57 (.pair (.int .u64) (.int .u64))), .fn 23] (.one (.leaf (.int .i64))) F39023
theorem s39023 : C39023.Sound := Ctx.Sound.add (C := C25) mixed s25 Tryd.func39 ev39023
/-! slices.ContainsFunc[[]damson/api.Item,damson/api.Item] -/
def H24023 : Nat → Head := fun _ => ⟨[], []⟩
noncomputable def F24023 (b : List (Int × Int) × Unit) : Option Bool :=
 (F39023 (b.1, ())).bind fun r1 =>
 some (decide (0 ≤ r1))
theorem ev24023 (b : List (Int × Int) × Unit) : evF C39023 H24023 Tryd.f24 (encs [.one (.slice 57 (.pair (.int .u64) (.int .u64))), .fn 23] b) (RT.dec (.one (.leaf (.bool)))) = F24023 b := by kernel_rfl
noncomputable def C24023 : Ctx := Ctx.add C39023 24 [.one (.slice 57 (.pair (.int .u64) (.int .u64))), .fn 23] (.one (.leaf (.bool))) F24023
theorem s24023 : C24023.Sound := Ctx.Sound.add (C := C39023) mixed s39023 Tryd.func24 ev24023
/-! damson/batch.Sum -/
def H11 : Nat → Head
  | 5 => ⟨[.data 2 (.int .u64), .data 3 (.int .i64), .data 22 (.int .i64)], []⟩
  | _ => ⟨[], []⟩
noncomputable def F11 (b : List (Int × Int)) : Option (Int × Int) :=
 bif ((bif decide ((b.length : Int) = 0) then true else decide (16 < (b.length : Int))) == false) then (
 (F24023 (b, ())).bind fun r1 =>
 bif r1 then (
 some (0, 1))
 else (
 lfp (fun (rec2 : (Int × Int × Int) → Option (Int × Int)) (x2 : Int × Int × Int) =>
  bif decide (x2.2.2 < (b.length : Int)) then (
  bif inb x2.2.2 b.length then
  (F25 ([x2.1, (rd (.pair (.int .u64) (.int .u64)) b x2.2.2).2])).bind fun r3 =>
  bif (!decide (r3.2 = 0)) then (
  some (0, r3.2))
  else (
  rec2 (r3.1, r3.2, (IntKind.wrap .i64 (x2.2.2 + 1))))
  else none)
  else (
  some (x2.1, 0))) (0, 0, 0)))
 else (
 some (0, 1))
theorem ev11 (b : List (Int × Int)) : evF C24023 H11 Tryd.f11 (encs [.one (.slice 57 (.pair (.int .u64) (.int .u64)))] b) (RT.dec (.tup [.leaf (.int .u64), .leaf (.int .i64)])) = F11 b := by kernel_rfl
noncomputable def C11 : Ctx := Ctx.add C24023 11 [.one (.slice 57 (.pair (.int .u64) (.int .u64)))] (.tup [.leaf (.int .u64), .leaf (.int .i64)]) F11
theorem s11 : C11.Sound := Ctx.Sound.add (C := C24023) mixed s24023 Tryd.func11 ev11
/-! damson/request.has -/
def H17 : Nat → Head := fun _ => ⟨[], []⟩
noncomputable def F17 (b : Int) : Option (Int × Bool) :=
 bif (bif decide (b ≤ 0) then true else decide (11 ≤ b)) then (
 some (0, false))
 else (
 bif inb b 11 then
 some ((rd (.int .i64) ([0, 71, 17, 79, 3, 2, 2, 0, 6, 4, 32] : List Int) b), true)
 else none)
theorem ev17 (b : Int) : evF C11 H17 Tryd.f17 (encs [.one (.int .i64)] b) (RT.dec (.tup [.leaf (.int .i64), .leaf (.bool)])) = F17 b := by kernel_rfl
noncomputable def C17 : Ctx := Ctx.add C11 17 [.one (.int .i64)] (.tup [.leaf (.int .i64), .leaf (.bool)]) F17
theorem s17 : C17.Sound := Ctx.Sound.add (C := C11) mixed s11 Tryd.func17 ev17
/-! slices.IndexFunc[[]damson/api.Caveat,damson/api.Caveat] -/
def H37038 : Nat → Head
  | 2 => ⟨[.data 4 (.int .i64), .data 8 (.int .i64)], []⟩
  | _ => ⟨[], []⟩
noncomputable def F37038 (b : List (Int × (Int × Int)) × Unit) : Option Int :=
 lfp (fun (rec1 : (Int × Int) → Option Int) (x1 : Int × Int) =>
  bif decide (x1.2 < (b.1.length : Int)) then (
  bif inb x1.2 b.1.length then
  (F38 ((rd (.pair (.int .i64) (.pair (.int .u64) (.int .u64))) b.1 x1.2).1, (((rd (.pair (.int .i64) (.pair (.int .u64) (.int .u64))) b.1 x1.2).2).1, ((rd (.pair (.int .i64) (.pair (.int .u64) (.int .u64))) b.1 x1.2).2).2))).bind fun r2 =>
  bif r2 then (
  some x1.2)
  else (
  rec1 (x1.1, (IntKind.wrap .i64 (x1.2 + 1))))
  else none)
  else (
  some (-1))) (0, 0)
theorem ev37038 (b : List (Int × (Int × Int)) × Unit) : evF C17 H37038 Tryd.f37 (encs [.one (.slice 48 (.pair (.int .i64) (.pair (.int .u64) (.int .u64)))), .fn 38] b) (RT.dec (.one (.leaf (.int .i64)))) = F37038 b := by kernel_rfl
noncomputable def C37038 : Ctx := Ctx.add C17 37 [.one (.slice 48 (.pair (.int .i64) (.pair (.int .u64) (.int .u64)))), .fn 38] (.one (.leaf (.int .i64))) F37038
theorem s37038 : C37038.Sound := Ctx.Sound.add (C := C17) mixed s17 Tryd.func37 ev37038
/-! slices.ContainsFunc[[]damson/api.Caveat,damson/api.Caveat] -/
def H21038 : Nat → Head := fun _ => ⟨[], []⟩
noncomputable def F21038 (b : List (Int × (Int × Int)) × Unit) : Option Bool :=
 (F37038 (b.1, ())).bind fun r1 =>
 some (decide (0 ≤ r1))
theorem ev21038 (b : List (Int × (Int × Int)) × Unit) : evF C37038 H21038 Tryd.f21 (encs [.one (.slice 48 (.pair (.int .i64) (.pair (.int .u64) (.int .u64)))), .fn 38] b) (RT.dec (.one (.leaf (.bool)))) = F21038 b := by kernel_rfl
noncomputable def C21038 : Ctx := Ctx.add C37038 21 [.one (.slice 48 (.pair (.int .i64) (.pair (.int .u64) (.int .u64)))), .fn 38] (.one (.leaf (.bool))) F21038
theorem s21038 : C21038.Sound := Ctx.Sound.add (C := C37038) mixed s37038 Tryd.func21 ev21038
/-! damson/token.Check -/
def H22 : Nat → Head := fun _ => ⟨[], []⟩
noncomputable def F22 (b : (Int × (List (Int × (Int × Int)) × Int))) : Option Int :=
 bif ((bif (bif decide (16 < (b.2.1.length : Int)) then true else decide (b.2.2 < 0)) then true else decide (1048576 < b.2.2)) == false) then (
 (F21038 (b.2.1, ())).bind fun r1 =>
 bif r1 then (
 some 1)
 else (
 some 0))
 else (
 some 1)
theorem ev22 (b : (Int × (List (Int × (Int × Int)) × Int))) : evF C21038 H22 Tryd.f22 (encs [.agg (.pair (.int .u64) (.pair (.slice 48 (.pair (.int .i64) (.pair (.int .u64) (.int .u64)))) (.int .i64)))] b) (RT.dec (.one (.leaf (.int .i64)))) = F22 b := by kernel_rfl
noncomputable def C22 : Ctx := Ctx.add C21038 22 [.agg (.pair (.int .u64) (.pair (.slice 48 (.pair (.int .i64) (.pair (.int .u64) (.int .u64)))) (.int .i64)))] (.one (.leaf (.int .i64))) F22
theorem s22 : C22.Sound := Ctx.Sound.add (C := C21038) mixed s21038 Tryd.func22 ev22
/-! slices.IndexFunc[[]damson/api.Caveat,damson/api.Caveat] -/
def H37018 : Nat → Head
  | 2 => ⟨[.data 4 (.int .i64), .data 8 (.int .i64)], []⟩
  | _ => ⟨[], []⟩
noncomputable def F37018 (b : List (Int × (Int × Int)) × Unit) : Option Int :=
 lfp (fun (rec1 : (Int × Int) → Option Int) (x1 : Int × Int) =>
  bif decide (x1.2 < (b.1.length : Int)) then (
  bif inb x1.2 b.1.length then
  (F18 ((rd (.pair (.int .i64) (.pair (.int .u64) (.int .u64))) b.1 x1.2).1, (((rd (.pair (.int .i64) (.pair (.int .u64) (.int .u64))) b.1 x1.2).2).1, ((rd (.pair (.int .i64) (.pair (.int .u64) (.int .u64))) b.1 x1.2).2).2))).bind fun r2 =>
  bif r2 then (
  some x1.2)
  else (
  rec1 (x1.1, (IntKind.wrap .i64 (x1.2 + 1))))
  else none)
  else (
  some (-1))) (0, 0)
theorem ev37018 (b : List (Int × (Int × Int)) × Unit) : evF C22 H37018 Tryd.f37 (encs [.one (.slice 48 (.pair (.int .i64) (.pair (.int .u64) (.int .u64)))), .fn 18] b) (RT.dec (.one (.leaf (.int .i64)))) = F37018 b := by kernel_rfl
noncomputable def C37018 : Ctx := Ctx.add C22 37 [.one (.slice 48 (.pair (.int .i64) (.pair (.int .u64) (.int .u64)))), .fn 18] (.one (.leaf (.int .i64))) F37018
theorem s37018 : C37018.Sound := Ctx.Sound.add (C := C22) mixed s22 Tryd.func37 ev37018
/-! slices.ContainsFunc[[]damson/api.Caveat,damson/api.Caveat] -/
def H21018 : Nat → Head := fun _ => ⟨[], []⟩
noncomputable def F21018 (b : List (Int × (Int × Int)) × Unit) : Option Bool :=
 (F37018 (b.1, ())).bind fun r1 =>
 some (decide (0 ≤ r1))
theorem ev21018 (b : List (Int × (Int × Int)) × Unit) : evF C37018 H21018 Tryd.f21 (encs [.one (.slice 48 (.pair (.int .i64) (.pair (.int .u64) (.int .u64)))), .fn 18] b) (RT.dec (.one (.leaf (.bool)))) = F21018 b := by kernel_rfl
noncomputable def C21018 : Ctx := Ctx.add C37018 21 [.one (.slice 48 (.pair (.int .i64) (.pair (.int .u64) (.int .u64)))), .fn 18] (.one (.leaf (.bool))) F21018
theorem s21018 : C21018.Sound := Ctx.Sound.add (C := C37018) mixed s37018 Tryd.func21 ev21018
/-! damson/request.Check -/
def H10 : Nat → Head
  | 5 => ⟨[.data 4 .bool, .data 84 (.int .i64)], [335872, 176128]⟩
  | 1000000 => ⟨[], [1]⟩
  | 1000006 => ⟨[], [9]⟩
  | 5000004 => ⟨[], [0, 0, 1, 1, 2, 2, 4, 4, 0, 0, 16, 16, 32, 32, 64, 64, 0, 0, 256, 256, 512, 512, 0, 0, 2048, 2048, 4096, 4096, 8192, 8192, 16384, 16384, 49152, 49152, 81920, 81920, 147456, 147456, 262144, 262144, 786432, 786432, 1310720, 1310720, 2359296, 2359296, 4456448, 4456448, 8667136, 8667136, 16793600, 16793600, 33555456, 33555456, 0, 0, 134217728, 134217728, 268435456, 268435456, 536870912, 536870912, 0, 0, 2147483648, 2147483648, 4294967296, 4294967296, 8589934592, 8589934592, 0, 0, 34359738368, 34359738368, 85899345920, 85899345920, 0, 0, 274877906944, 274877906944, 549755813888, 549755813888, 1099511627776, 1099511627776, 0, 0, 4398046511104, 4398046511104, 8796093022208, 8796093022208, 17592186044416, 17592186044416, 35184376283136, 35184372088832, 70368744177664, 70368744177664, 211106232532992, 211106232532992, 351843720888320, 351843720888320, 633318697598976, 633318697598976, 1196268651020288, 1196268651020288, 2322168557862912, 2251799813685248, 4503599627370496, 4503599627370496, 13510798882111488, 13510798882111488, 4503599627370496, 4503599627370496, 58546795155816448, 58546795155816448, 76561193665298432, 76561193665298432, 148618787703226368, 148618787703226368, 288232575174967296, 288232575174967296, 576460890883227784, 576460890883227784, 1152921504606846976, 1152921504606846976, 0, 0]⟩
  | _ => ⟨[], []⟩
noncomputable def F10 (b : (Int × (Int × (Int × (Int × (List (Int × (Int × Int)) × (Int × (Int × (Int × (Int × (List (Int × Int) × List (Int × (Int × Int))))))))))))) : Option Int :=
 (F17 b.2.1).bind fun r1 =>
 (F11 b.2.2.2.2.2.2.2.2.2.1).bind fun r2 =>
 bif (decide ((bitOp .and .i64 r1.1 64) = 0) == false) then (
 bif (decide (0 < b.2.2.2.2.2.2.2.1) == true) then (
 (F20 ([b.2.2.2.2.2.2.2.1])).bind fun r3 =>
 bif ((bif decide (0 < (b.2.2.2.2.2.2.2.2.2.2.length : Int)) then decide ((b.2.2.2.2.2.2.2.2.2.2.length : Int) ≤ 16) else false) == true) then (
 (F21018 (b.2.2.2.2.2.2.2.2.2.2, ())).bind fun r4 =>
 lfp (fun (rec5 : (Bool × Int) → Option Int) (x5 : Bool × Int) =>
  bif decide (x5.2 < (([(1, ((!decide (b.2.2.1 = 0)), true)), (2, ((!decide (b.2.2.2.2.2.2.1 = 0)), true)), (4, ((!decide (b.2.2.2.2.2.2.2.1 = 0)), decide (r3 = 0))), (8, ((!decide (b.2.2.2.2.2.2.2.2.1 = 0)), true)), (16, (decide (0 < (b.2.2.2.2.2.2.2.2.2.1.length : Int)), decide (r2.2 = 0))), (32, (decide (0 < (b.2.2.2.2.2.2.2.2.2.2.length : Int)), (!r4)))]).length : Int)) then (
  bif inb x5.2 ([(1, ((!decide (b.2.2.1 = 0)), true)), (2, ((!decide (b.2.2.2.2.2.2.1 = 0)), true)), (4, ((!decide (b.2.2.2.2.2.2.2.1 = 0)), decide (r3 = 0))), (8, ((!decide (b.2.2.2.2.2.2.2.2.1 = 0)), true)), (16, (decide (0 < (b.2.2.2.2.2.2.2.2.2.1.length : Int)), decide (r2.2 = 0))), (32, (decide (0 < (b.2.2.2.2.2.2.2.2.2.2.length : Int)), (!r4)))]).length then
  bif (!decide ((bitOp .and .i64 r1.1 ((rd (.pair (.int .i64) (.pair .bool .bool)) ([(1, ((!decide (b.2.2.1 = 0)), true)), (2, ((!decide (b.2.2.2.2.2.2.1 = 0)), true)), (4, ((!decide (b.2.2.2.2.2.2.2.1 = 0)), decide (r3 = 0))), (8, ((!decide (b.2.2.2.2.2.2.2.2.1 = 0)), true)), (16, (decide (0 < (b.2.2.2.2.2.2.2.2.2.1.length : Int)), decide (r2.2 = 0))), (32, (decide (0 < (b.2.2.2.2.2.2.2.2.2.2.length : Int)), (!r4)))]) x5.2).1)) = 0)) then (
  rec5 ((bif x5.1 then ((rd (.pair (.int .i64) (.pair .bool .bool)) ([(1, ((!decide (b.2.2.1 = 0)), true)), (2, ((!decide (b.2.2.2.2.2.2.1 = 0)), true)), (4, ((!decide (b.2.2.2.2.2.2.2.1 = 0)), decide (r3 = 0))), (8, ((!decide (b.2.2.2.2.2.2.2.2.1 = 0)), true)), (16, (decide (0 < (b.2.2.2.2.2.2.2.2.2.1.length : Int)), decide (r2.2 = 0))), (32, (decide (0 < (b.2.2.2.2.2.2.2.2.2.2.length : Int)), (!r4)))]) x5.2).2).2 else false), (IntKind.wrap .i64 (x5.2 + 1))))
  else (
  rec5 ((bif x5.1 then (!((rd (.pair (.int .i64) (.pair .bool .bool)) ([(1, ((!decide (b.2.2.1 = 0)), true)), (2, ((!decide (b.2.2.2.2.2.2.1 = 0)), true)), (4, ((!decide (b.2.2.2.2.2.2.2.1 = 0)), decide (r3 = 0))), (8, ((!decide (b.2.2.2.2.2.2.2.2.1 = 0)), true)), (16, (decide (0 < (b.2.2.2.2.2.2.2.2.2.1.length : Int)), decide (r2.2 = 0))), (32, (decide (0 < (b.2.2.2.2.2.2.2.2.2.2.length : Int)), (!r4)))]) x5.2).2).1) else false), (IntKind.wrap .i64 (x5.2 + 1))))
  else none)
  else (
  bif ((!x5.1) == false) then (
  (F22 (b.2.2.2.1, (b.2.2.2.2.1, b.2.2.2.2.2.1))).bind fun r6 =>
  bif (!decide (r6 = 0)) then (
  some 1)
  else (
  some 0))
  else (
  some 1))) (r1.2, 0))
 else (
 lfp (fun (rec7 : (Bool × Int) → Option Int) (x7 : Bool × Int) =>
  bif decide (x7.2 < (([(1, ((!decide (b.2.2.1 = 0)), true)), (2, ((!decide (b.2.2.2.2.2.2.1 = 0)), true)), (4, ((!decide (b.2.2.2.2.2.2.2.1 = 0)), decide (r3 = 0))), (8, ((!decide (b.2.2.2.2.2.2.2.2.1 = 0)), true)), (16, (decide (0 < (b.2.2.2.2.2.2.2.2.2.1.length : Int)), decide (r2.2 = 0))), (32, (decide (0 < (b.2.2.2.2.2.2.2.2.2.2.length : Int)), false))]).length : Int)) then (
  bif inb x7.2 ([(1, ((!decide (b.2.2.1 = 0)), true)), (2, ((!decide (b.2.2.2.2.2.2.1 = 0)), true)), (4, ((!decide (b.2.2.2.2.2.2.2.1 = 0)), decide (r3 = 0))), (8, ((!decide (b.2.2.2.2.2.2.2.2.1 = 0)), true)), (16, (decide (0 < (b.2.2.2.2.2.2.2.2.2.1.length : Int)), decide (r2.2 = 0))), (32, (decide (0 < (b.2.2.2.2.2.2.2.2.2.2.length : Int)), false))]).length then
  bif (!decide ((bitOp .and .i64 r1.1 ((rd (.pair (.int .i64) (.pair .bool .bool)) ([(1, ((!decide (b.2.2.1 = 0)), true)), (2, ((!decide (b.2.2.2.2.2.2.1 = 0)), true)), (4, ((!decide (b.2.2.2.2.2.2.2.1 = 0)), decide (r3 = 0))), (8, ((!decide (b.2.2.2.2.2.2.2.2.1 = 0)), true)), (16, (decide (0 < (b.2.2.2.2.2.2.2.2.2.1.length : Int)), decide (r2.2 = 0))), (32, (decide (0 < (b.2.2.2.2.2.2.2.2.2.2.length : Int)), false))]) x7.2).1)) = 0)) then (
  rec7 ((bif x7.1 then ((rd (.pair (.int .i64) (.pair .bool .bool)) ([(1, ((!decide (b.2.2.1 = 0)), true)), (2, ((!decide (b.2.2.2.2.2.2.1 = 0)), true)), (4, ((!decide (b.2.2.2.2.2.2.2.1 = 0)), decide (r3 = 0))), (8, ((!decide (b.2.2.2.2.2.2.2.2.1 = 0)), true)), (16, (decide (0 < (b.2.2.2.2.2.2.2.2.2.1.length : Int)), decide (r2.2 = 0))), (32, (decide (0 < (b.2.2.2.2.2.2.2.2.2.2.length : Int)), false))]) x7.2).2).2 else false), (IntKind.wrap .i64 (x7.2 + 1))))
  else (
  rec7 ((bif x7.1 then (!((rd (.pair (.int .i64) (.pair .bool .bool)) ([(1, ((!decide (b.2.2.1 = 0)), true)), (2, ((!decide (b.2.2.2.2.2.2.1 = 0)), true)), (4, ((!decide (b.2.2.2.2.2.2.2.1 = 0)), decide (r3 = 0))), (8, ((!decide (b.2.2.2.2.2.2.2.2.1 = 0)), true)), (16, (decide (0 < (b.2.2.2.2.2.2.2.2.2.1.length : Int)), decide (r2.2 = 0))), (32, (decide (0 < (b.2.2.2.2.2.2.2.2.2.2.length : Int)), false))]) x7.2).2).1) else false), (IntKind.wrap .i64 (x7.2 + 1))))
  else none)
  else (
  bif ((!x7.1) == false) then (
  (F22 (b.2.2.2.1, (b.2.2.2.2.1, b.2.2.2.2.2.1))).bind fun r8 =>
  bif (!decide (r8 = 0)) then (
  some 1)
  else (
  some 0))
  else (
  some 1))) (r1.2, 0)))
 else (
 (both (
 bif ((bif decide (0 < (b.2.2.2.2.2.2.2.2.2.2.length : Int)) then decide ((b.2.2.2.2.2.2.2.2.2.2.length : Int) ≤ 16) else false) == true) then (
 (F21018 (b.2.2.2.2.2.2.2.2.2.2, ())).bind fun r9 =>
 lfp (fun (rec10 : (Bool × Int) → Option Int) (x10 : Bool × Int) =>
  bif decide (x10.2 < (([(1, ((!decide (b.2.2.1 = 0)), true)), (2, ((!decide (b.2.2.2.2.2.2.1 = 0)), true)), (4, ((!decide (b.2.2.2.2.2.2.2.1 = 0)), false)), (8, ((!decide (b.2.2.2.2.2.2.2.2.1 = 0)), true)), (16, (decide (0 < (b.2.2.2.2.2.2.2.2.2.1.length : Int)), decide (r2.2 = 0))), (32, (decide (0 < (b.2.2.2.2.2.2.2.2.2.2.length : Int)), (!r9)))]).length : Int)) then (
  bif inb x10.2 ([(1, ((!decide (b.2.2.1 = 0)), true)), (2, ((!decide (b.2.2.2.2.2.2.1 = 0)), true)), (4, ((!decide (b.2.2.2.2.2.2.2.1 = 0)), false)), (8, ((!decide (b.2.2.2.2.2.2.2.2.1 = 0)), true)), (16, (decide (0 < (b.2.2.2.2.2.2.2.2.2.1.length : Int)), decide (r2.2 = 0))), (32, (decide (0 < (b.2.2.2.2.2.2.2.2.2.2.length : Int)), (!r9)))]).length then
  bif (!decide ((bitOp .and .i64 r1.1 ((rd (.pair (.int .i64) (.pair .bool .bool)) ([(1, ((!decide (b.2.2.1 = 0)), true)), (2, ((!decide (b.2.2.2.2.2.2.1 = 0)), true)), (4, ((!decide (b.2.2.2.2.2.2.2.1 = 0)), false)), (8, ((!decide (b.2.2.2.2.2.2.2.2.1 = 0)), true)), (16, (decide (0 < (b.2.2.2.2.2.2.2.2.2.1.length : Int)), decide (r2.2 = 0))), (32, (decide (0 < (b.2.2.2.2.2.2.2.2.2.2.length : Int)), (!r9)))]) x10.2).1)) = 0)) then (
  rec10 ((bif x10.1 then ((rd (.pair (.int .i64) (.pair .bool .bool)) ([(1, ((!decide (b.2.2.1 = 0)), true)), (2, ((!decide (b.2.2.2.2.2.2.1 = 0)), true)), (4, ((!decide (b.2.2.2.2.2.2.2.1 = 0)), false)), (8, ((!decide (b.2.2.2.2.2.2.2.2.1 = 0)), true)), (16, (decide (0 < (b.2.2.2.2.2.2.2.2.2.1.length : Int)), decide (r2.2 = 0))), (32, (decide (0 < (b.2.2.2.2.2.2.2.2.2.2.length : Int)), (!r9)))]) x10.2).2).2 else false), (IntKind.wrap .i64 (x10.2 + 1))))
  else (
  rec10 ((bif x10.1 then (!((rd (.pair (.int .i64) (.pair .bool .bool)) ([(1, ((!decide (b.2.2.1 = 0)), true)), (2, ((!decide (b.2.2.2.2.2.2.1 = 0)), true)), (4, ((!decide (b.2.2.2.2.2.2.2.1 = 0)), false)), (8, ((!decide (b.2.2.2.2.2.2.2.2.1 = 0)), true)), (16, (decide (0 < (b.2.2.2.2.2.2.2.2.2.1.length : Int)), decide (r2.2 = 0))), (32, (decide (0 < (b.2.2.2.2.2.2.2.2.2.2.length : Int)), (!r9)))]) x10.2).2).1) else false), (IntKind.wrap .i64 (x10.2 + 1))))
  else none)
  else (
  bif ((!x10.1) == false) then (
  (F22 (b.2.2.2.1, (b.2.2.2.2.1, b.2.2.2.2.2.1))).bind fun r11 =>
  bif (!decide (r11 = 0)) then (
  some 1)
  else (
  some 0))
  else (
  some 1))) (r1.2, 0))
 else (
 lfp (fun (rec12 : (Bool × Int) → Option Int) (x12 : Bool × Int) =>
  bif decide (x12.2 < (([(1, ((!decide (b.2.2.1 = 0)), true)), (2, ((!decide (b.2.2.2.2.2.2.1 = 0)), true)), (4, ((!decide (b.2.2.2.2.2.2.2.1 = 0)), false)), (8, ((!decide (b.2.2.2.2.2.2.2.2.1 = 0)), true)), (16, (decide (0 < (b.2.2.2.2.2.2.2.2.2.1.length : Int)), decide (r2.2 = 0))), (32, (decide (0 < (b.2.2.2.2.2.2.2.2.2.2.length : Int)), false))]).length : Int)) then (
  bif inb x12.2 ([(1, ((!decide (b.2.2.1 = 0)), true)), (2, ((!decide (b.2.2.2.2.2.2.1 = 0)), true)), (4, ((!decide (b.2.2.2.2.2.2.2.1 = 0)), false)), (8, ((!decide (b.2.2.2.2.2.2.2.2.1 = 0)), true)), (16, (decide (0 < (b.2.2.2.2.2.2.2.2.2.1.length : Int)), decide (r2.2 = 0))), (32, (decide (0 < (b.2.2.2.2.2.2.2.2.2.2.length : Int)), false))]).length then
  bif (!decide ((bitOp .and .i64 r1.1 ((rd (.pair (.int .i64) (.pair .bool .bool)) ([(1, ((!decide (b.2.2.1 = 0)), true)), (2, ((!decide (b.2.2.2.2.2.2.1 = 0)), true)), (4, ((!decide (b.2.2.2.2.2.2.2.1 = 0)), false)), (8, ((!decide (b.2.2.2.2.2.2.2.2.1 = 0)), true)), (16, (decide (0 < (b.2.2.2.2.2.2.2.2.2.1.length : Int)), decide (r2.2 = 0))), (32, (decide (0 < (b.2.2.2.2.2.2.2.2.2.2.length : Int)), false))]) x12.2).1)) = 0)) then (
  rec12 ((bif x12.1 then ((rd (.pair (.int .i64) (.pair .bool .bool)) ([(1, ((!decide (b.2.2.1 = 0)), true)), (2, ((!decide (b.2.2.2.2.2.2.1 = 0)), true)), (4, ((!decide (b.2.2.2.2.2.2.2.1 = 0)), false)), (8, ((!decide (b.2.2.2.2.2.2.2.2.1 = 0)), true)), (16, (decide (0 < (b.2.2.2.2.2.2.2.2.2.1.length : Int)), decide (r2.2 = 0))), (32, (decide (0 < (b.2.2.2.2.2.2.2.2.2.2.length : Int)), false))]) x12.2).2).2 else false), (IntKind.wrap .i64 (x12.2 + 1))))
  else (
  rec12 ((bif x12.1 then (!((rd (.pair (.int .i64) (.pair .bool .bool)) ([(1, ((!decide (b.2.2.1 = 0)), true)), (2, ((!decide (b.2.2.2.2.2.2.1 = 0)), true)), (4, ((!decide (b.2.2.2.2.2.2.2.1 = 0)), false)), (8, ((!decide (b.2.2.2.2.2.2.2.2.1 = 0)), true)), (16, (decide (0 < (b.2.2.2.2.2.2.2.2.2.1.length : Int)), decide (r2.2 = 0))), (32, (decide (0 < (b.2.2.2.2.2.2.2.2.2.2.length : Int)), false))]) x12.2).2).1) else false), (IntKind.wrap .i64 (x12.2 + 1))))
  else none)
  else (
  bif ((!x12.1) == false) then (
  (F22 (b.2.2.2.1, (b.2.2.2.2.1, b.2.2.2.2.2.1))).bind fun r13 =>
  bif (!decide (r13 = 0)) then (
  some 1)
  else (
  some 0))
  else (
  some 1))) (r1.2, 0))) (
 bif ((bif decide (0 < (b.2.2.2.2.2.2.2.2.2.2.length : Int)) then decide ((b.2.2.2.2.2.2.2.2.2.2.length : Int) ≤ 16) else false) == true) then (
 (F21018 (b.2.2.2.2.2.2.2.2.2.2, ())).bind fun r9 =>
 lfp (fun (rec10 : (Bool × Int) → Option Int) (x10 : Bool × Int) =>
  bif decide (x10.2 < (([(1, ((!decide (b.2.2.1 = 0)), true)), (2, ((!decide (b.2.2.2.2.2.2.1 = 0)), true)), (4, ((!decide (b.2.2.2.2.2.2.2.1 = 0)), false)), (8, ((!decide (b.2.2.2.2.2.2.2.2.1 = 0)), true)), (16, (decide (0 < (b.2.2.2.2.2.2.2.2.2.1.length : Int)), decide (r2.2 = 0))), (32, (decide (0 < (b.2.2.2.2.2.2.2.2.2.2.length : Int)), (!r9)))]).length : Int)) then (
  bif inb x10.2 ([(1, ((!decide (b.2.2.1 = 0)), true)), (2, ((!decide (b.2.2.2.2.2.2.1 = 0)), true)), (4, ((!decide (b.2.2.2.2.2.2.2.1 = 0)), false)), (8, ((!decide (b.2.2.2.2.2.2.2.2.1 = 0)), true)), (16, (decide (0 < (b.2.2.2.2.2.2.2.2.2.1.length : Int)), decide (r2.2 = 0))), (32, (decide (0 < (b.2.2.2.2.2.2.2.2.2.2.length : Int)), (!r9)))]).length then
  bif (!decide ((bitOp .and .i64 r1.1 ((rd (.pair (.int .i64) (.pair .bool .bool)) ([(1, ((!decide (b.2.2.1 = 0)), true)), (2, ((!decide (b.2.2.2.2.2.2.1 = 0)), true)), (4, ((!decide (b.2.2.2.2.2.2.2.1 = 0)), false)), (8, ((!decide (b.2.2.2.2.2.2.2.2.1 = 0)), true)), (16, (decide (0 < (b.2.2.2.2.2.2.2.2.2.1.length : Int)), decide (r2.2 = 0))), (32, (decide (0 < (b.2.2.2.2.2.2.2.2.2.2.length : Int)), (!r9)))]) x10.2).1)) = 0)) then (
  rec10 ((bif x10.1 then ((rd (.pair (.int .i64) (.pair .bool .bool)) ([(1, ((!decide (b.2.2.1 = 0)), true)), (2, ((!decide (b.2.2.2.2.2.2.1 = 0)), true)), (4, ((!decide (b.2.2.2.2.2.2.2.1 = 0)), false)), (8, ((!decide (b.2.2.2.2.2.2.2.2.1 = 0)), true)), (16, (decide (0 < (b.2.2.2.2.2.2.2.2.2.1.length : Int)), decide (r2.2 = 0))), (32, (decide (0 < (b.2.2.2.2.2.2.2.2.2.2.length : Int)), (!r9)))]) x10.2).2).2 else false), (IntKind.wrap .i64 (x10.2 + 1))))
  else (
  rec10 ((bif x10.1 then (!((rd (.pair (.int .i64) (.pair .bool .bool)) ([(1, ((!decide (b.2.2.1 = 0)), true)), (2, ((!decide (b.2.2.2.2.2.2.1 = 0)), true)), (4, ((!decide (b.2.2.2.2.2.2.2.1 = 0)), false)), (8, ((!decide (b.2.2.2.2.2.2.2.2.1 = 0)), true)), (16, (decide (0 < (b.2.2.2.2.2.2.2.2.2.1.length : Int)), decide (r2.2 = 0))), (32, (decide (0 < (b.2.2.2.2.2.2.2.2.2.2.length : Int)), (!r9)))]) x10.2).2).1) else false), (IntKind.wrap .i64 (x10.2 + 1))))
  else none)
  else (
  bif ((!x10.1) == false) then (
  (F22 (b.2.2.2.1, (b.2.2.2.2.1, b.2.2.2.2.2.1))).bind fun r11 =>
  bif (!decide (r11 = 0)) then (
  some 1)
  else (
  some 0))
  else (
  some 1))) (r1.2, 0))
 else (
 (fun o => both o o) (
 lfp (fun (rec12 : (Bool × Int) → Option Int) (x12 : Bool × Int) =>
  bif decide (x12.2 < (([(1, ((!decide (b.2.2.1 = 0)), true)), (2, ((!decide (b.2.2.2.2.2.2.1 = 0)), true)), (4, ((!decide (b.2.2.2.2.2.2.2.1 = 0)), false)), (8, ((!decide (b.2.2.2.2.2.2.2.2.1 = 0)), true)), (16, (decide (0 < (b.2.2.2.2.2.2.2.2.2.1.length : Int)), decide (r2.2 = 0))), (32, (decide (0 < (b.2.2.2.2.2.2.2.2.2.2.length : Int)), false))]).length : Int)) then (
  bif inb x12.2 ([(1, ((!decide (b.2.2.1 = 0)), true)), (2, ((!decide (b.2.2.2.2.2.2.1 = 0)), true)), (4, ((!decide (b.2.2.2.2.2.2.2.1 = 0)), false)), (8, ((!decide (b.2.2.2.2.2.2.2.2.1 = 0)), true)), (16, (decide (0 < (b.2.2.2.2.2.2.2.2.2.1.length : Int)), decide (r2.2 = 0))), (32, (decide (0 < (b.2.2.2.2.2.2.2.2.2.2.length : Int)), false))]).length then
  bif (!decide ((bitOp .and .i64 r1.1 ((rd (.pair (.int .i64) (.pair .bool .bool)) ([(1, ((!decide (b.2.2.1 = 0)), true)), (2, ((!decide (b.2.2.2.2.2.2.1 = 0)), true)), (4, ((!decide (b.2.2.2.2.2.2.2.1 = 0)), false)), (8, ((!decide (b.2.2.2.2.2.2.2.2.1 = 0)), true)), (16, (decide (0 < (b.2.2.2.2.2.2.2.2.2.1.length : Int)), decide (r2.2 = 0))), (32, (decide (0 < (b.2.2.2.2.2.2.2.2.2.2.length : Int)), false))]) x12.2).1)) = 0)) then (
  rec12 ((bif x12.1 then ((rd (.pair (.int .i64) (.pair .bool .bool)) ([(1, ((!decide (b.2.2.1 = 0)), true)), (2, ((!decide (b.2.2.2.2.2.2.1 = 0)), true)), (4, ((!decide (b.2.2.2.2.2.2.2.1 = 0)), false)), (8, ((!decide (b.2.2.2.2.2.2.2.2.1 = 0)), true)), (16, (decide (0 < (b.2.2.2.2.2.2.2.2.2.1.length : Int)), decide (r2.2 = 0))), (32, (decide (0 < (b.2.2.2.2.2.2.2.2.2.2.length : Int)), false))]) x12.2).2).2 else false), (IntKind.wrap .i64 (x12.2 + 1))))
  else (
  rec12 ((bif x12.1 then (!((rd (.pair (.int .i64) (.pair .bool .bool)) ([(1, ((!decide (b.2.2.1 = 0)), true)), (2, ((!decide (b.2.2.2.2.2.2.1 = 0)), true)), (4, ((!decide (b.2.2.2.2.2.2.2.1 = 0)), false)), (8, ((!decide (b.2.2.2.2.2.2.2.2.1 = 0)), true)), (16, (decide (0 < (b.2.2.2.2.2.2.2.2.2.1.length : Int)), decide (r2.2 = 0))), (32, (decide (0 < (b.2.2.2.2.2.2.2.2.2.2.length : Int)), false))]) x12.2).2).1) else false), (IntKind.wrap .i64 (x12.2 + 1))))
  else none)
  else (
  bif ((!x12.1) == false) then (
  (F22 (b.2.2.2.1, (b.2.2.2.2.1, b.2.2.2.2.2.1))).bind fun r13 =>
  bif (!decide (r13 = 0)) then (
  some 1)
  else (
  some 0))
  else (
  some 1))) (r1.2, 0)))))))
 else (
 (both (
 bif ((bif decide (0 < (b.2.2.2.2.2.2.2.2.2.2.length : Int)) then decide ((b.2.2.2.2.2.2.2.2.2.2.length : Int) ≤ 16) else false) == true) then (
 (F21018 (b.2.2.2.2.2.2.2.2.2.2, ())).bind fun r14 =>
 lfp (fun (rec15 : (Bool × Int) → Option Int) (x15 : Bool × Int) =>
  bif decide (x15.2 < (([(1, ((!decide (b.2.2.1 = 0)), true)), (2, ((!decide (b.2.2.2.2.2.2.1 = 0)), true)), (4, ((!decide (b.2.2.2.2.2.2.2.1 = 0)), true)), (8, ((!decide (b.2.2.2.2.2.2.2.2.1 = 0)), true)), (16, (decide (0 < (b.2.2.2.2.2.2.2.2.2.1.length : Int)), decide (r2.2 = 0))), (32, (decide (0 < (b.2.2.2.2.2.2.2.2.2.2.length : Int)), (!r14)))]).length : Int)) then (
  bif inb x15.2 ([(1, ((!decide (b.2.2.1 = 0)), true)), (2, ((!decide (b.2.2.2.2.2.2.1 = 0)), true)), (4, ((!decide (b.2.2.2.2.2.2.2.1 = 0)), true)), (8, ((!decide (b.2.2.2.2.2.2.2.2.1 = 0)), true)), (16, (decide (0 < (b.2.2.2.2.2.2.2.2.2.1.length : Int)), decide (r2.2 = 0))), (32, (decide (0 < (b.2.2.2.2.2.2.2.2.2.2.length : Int)), (!r14)))]).length then
  bif (!decide ((bitOp .and .i64 r1.1 ((rd (.pair (.int .i64) (.pair .bool .bool)) ([(1, ((!decide (b.2.2.1 = 0)), true)), (2, ((!decide (b.2.2.2.2.2.2.1 = 0)), true)), (4, ((!decide (b.2.2.2.2.2.2.2.1 = 0)), true)), (8, ((!decide (b.2.2.2.2.2.2.2.2.1 = 0)), true)), (16, (decide (0 < (b.2.2.2.2.2.2.2.2.2.1.length : Int)), decide (r2.2 = 0))), (32, (decide (0 < (b.2.2.2.2.2.2.2.2.2.2.length : Int)), (!r14)))]) x15.2).1)) = 0)) then (
  rec15 ((bif x15.1 then ((rd (.pair (.int .i64) (.pair .bool .bool)) ([(1, ((!decide (b.2.2.1 = 0)), true)), (2, ((!decide (b.2.2.2.2.2.2.1 = 0)), true)), (4, ((!decide (b.2.2.2.2.2.2.2.1 = 0)), true)), (8, ((!decide (b.2.2.2.2.2.2.2.2.1 = 0)), true)), (16, (decide (0 < (b.2.2.2.2.2.2.2.2.2.1.length : Int)), decide (r2.2 = 0))), (32, (decide (0 < (b.2.2.2.2.2.2.2.2.2.2.length : Int)), (!r14)))]) x15.2).2).2 else false), (IntKind.wrap .i64 (x15.2 + 1))))
  else (
  rec15 ((bif x15.1 then (!((rd (.pair (.int .i64) (.pair .bool .bool)) ([(1, ((!decide (b.2.2.1 = 0)), true)), (2, ((!decide (b.2.2.2.2.2.2.1 = 0)), true)), (4, ((!decide (b.2.2.2.2.2.2.2.1 = 0)), true)), (8, ((!decide (b.2.2.2.2.2.2.2.2.1 = 0)), true)), (16, (decide (0 < (b.2.2.2.2.2.2.2.2.2.1.length : Int)), decide (r2.2 = 0))), (32, (decide (0 < (b.2.2.2.2.2.2.2.2.2.2.length : Int)), (!r14)))]) x15.2).2).1) else false), (IntKind.wrap .i64 (x15.2 + 1))))
  else none)
  else (
  bif ((!x15.1) == false) then (
  (F22 (b.2.2.2.1, (b.2.2.2.2.1, b.2.2.2.2.2.1))).bind fun r16 =>
  bif (!decide (r16 = 0)) then (
  some 1)
  else (
  some 0))
  else (
  some 1))) (r1.2, 0))
 else (
 lfp (fun (rec17 : (Bool × Int) → Option Int) (x17 : Bool × Int) =>
  bif decide (x17.2 < (([(1, ((!decide (b.2.2.1 = 0)), true)), (2, ((!decide (b.2.2.2.2.2.2.1 = 0)), true)), (4, ((!decide (b.2.2.2.2.2.2.2.1 = 0)), true)), (8, ((!decide (b.2.2.2.2.2.2.2.2.1 = 0)), true)), (16, (decide (0 < (b.2.2.2.2.2.2.2.2.2.1.length : Int)), decide (r2.2 = 0))), (32, (decide (0 < (b.2.2.2.2.2.2.2.2.2.2.length : Int)), false))]).length : Int)) then (
  bif inb x17.2 ([(1, ((!decide (b.2.2.1 = 0)), true)), (2, ((!decide (b.2.2.2.2.2.2.1 = 0)), true)), (4, ((!decide (b.2.2.2.2.2.2.2.1 = 0)), true)), (8, ((!decide (b.2.2.2.2.2.2.2.2.1 = 0)), true)), (16, (decide (0 < (b.2.2.2.2.2.2.2.2.2.1.length : Int)), decide (r2.2 = 0))), (32, (decide (0 < (b.2.2.2.2.2.2.2.2.2.2.length : Int)), false))]).length then
  bif (!decide ((bitOp .and .i64 r1.1 ((rd (.pair (.int .i64) (.pair .bool .bool)) ([(1, ((!decide (b.2.2.1 = 0)), true)), (2, ((!decide (b.2.2.2.2.2.2.1 = 0)), true)), (4, ((!decide (b.2.2.2.2.2.2.2.1 = 0)), true)), (8, ((!decide (b.2.2.2.2.2.2.2.2.1 = 0)), true)), (16, (decide (0 < (b.2.2.2.2.2.2.2.2.2.1.length : Int)), decide (r2.2 = 0))), (32, (decide (0 < (b.2.2.2.2.2.2.2.2.2.2.length : Int)), false))]) x17.2).1)) = 0)) then (
  rec17 ((bif x17.1 then ((rd (.pair (.int .i64) (.pair .bool .bool)) ([(1, ((!decide (b.2.2.1 = 0)), true)), (2, ((!decide (b.2.2.2.2.2.2.1 = 0)), true)), (4, ((!decide (b.2.2.2.2.2.2.2.1 = 0)), true)), (8, ((!decide (b.2.2.2.2.2.2.2.2.1 = 0)), true)), (16, (decide (0 < (b.2.2.2.2.2.2.2.2.2.1.length : Int)), decide (r2.2 = 0))), (32, (decide (0 < (b.2.2.2.2.2.2.2.2.2.2.length : Int)), false))]) x17.2).2).2 else false), (IntKind.wrap .i64 (x17.2 + 1))))
  else (
  rec17 ((bif x17.1 then (!((rd (.pair (.int .i64) (.pair .bool .bool)) ([(1, ((!decide (b.2.2.1 = 0)), true)), (2, ((!decide (b.2.2.2.2.2.2.1 = 0)), true)), (4, ((!decide (b.2.2.2.2.2.2.2.1 = 0)), true)), (8, ((!decide (b.2.2.2.2.2.2.2.2.1 = 0)), true)), (16, (decide (0 < (b.2.2.2.2.2.2.2.2.2.1.length : Int)), decide (r2.2 = 0))), (32, (decide (0 < (b.2.2.2.2.2.2.2.2.2.2.length : Int)), false))]) x17.2).2).1) else false), (IntKind.wrap .i64 (x17.2 + 1))))
  else none)
  else (
  bif ((!x17.1) == false) then (
  (F22 (b.2.2.2.1, (b.2.2.2.2.1, b.2.2.2.2.2.1))).bind fun r18 =>
  bif (!decide (r18 = 0)) then (
  some 1)
  else (
  some 0))
  else (
  some 1))) (r1.2, 0))) (
 bif ((bif decide (0 < (b.2.2.2.2.2.2.2.2.2.2.length : Int)) then decide ((b.2.2.2.2.2.2.2.2.2.2.length : Int) ≤ 16) else false) == true) then (
 (F21018 (b.2.2.2.2.2.2.2.2.2.2, ())).bind fun r14 =>
 lfp (fun (rec15 : (Bool × Int) → Option Int) (x15 : Bool × Int) =>
  bif decide (x15.2 < (([(1, ((!decide (b.2.2.1 = 0)), true)), (2, ((!decide (b.2.2.2.2.2.2.1 = 0)), true)), (4, ((!decide (b.2.2.2.2.2.2.2.1 = 0)), true)), (8, ((!decide (b.2.2.2.2.2.2.2.2.1 = 0)), true)), (16, (decide (0 < (b.2.2.2.2.2.2.2.2.2.1.length : Int)), decide (r2.2 = 0))), (32, (decide (0 < (b.2.2.2.2.2.2.2.2.2.2.length : Int)), (!r14)))]).length : Int)) then (
  bif inb x15.2 ([(1, ((!decide (b.2.2.1 = 0)), true)), (2, ((!decide (b.2.2.2.2.2.2.1 = 0)), true)), (4, ((!decide (b.2.2.2.2.2.2.2.1 = 0)), true)), (8, ((!decide (b.2.2.2.2.2.2.2.2.1 = 0)), true)), (16, (decide (0 < (b.2.2.2.2.2.2.2.2.2.1.length : Int)), decide (r2.2 = 0))), (32, (decide (0 < (b.2.2.2.2.2.2.2.2.2.2.length : Int)), (!r14)))]).length then
  bif (!decide ((bitOp .and .i64 r1.1 ((rd (.pair (.int .i64) (.pair .bool .bool)) ([(1, ((!decide (b.2.2.1 = 0)), true)), (2, ((!decide (b.2.2.2.2.2.2.1 = 0)), true)), (4, ((!decide (b.2.2.2.2.2.2.2.1 = 0)), true)), (8, ((!decide (b.2.2.2.2.2.2.2.2.1 = 0)), true)), (16, (decide (0 < (b.2.2.2.2.2.2.2.2.2.1.length : Int)), decide (r2.2 = 0))), (32, (decide (0 < (b.2.2.2.2.2.2.2.2.2.2.length : Int)), (!r14)))]) x15.2).1)) = 0)) then (
  rec15 ((bif x15.1 then ((rd (.pair (.int .i64) (.pair .bool .bool)) ([(1, ((!decide (b.2.2.1 = 0)), true)), (2, ((!decide (b.2.2.2.2.2.2.1 = 0)), true)), (4, ((!decide (b.2.2.2.2.2.2.2.1 = 0)), true)), (8, ((!decide (b.2.2.2.2.2.2.2.2.1 = 0)), true)), (16, (decide (0 < (b.2.2.2.2.2.2.2.2.2.1.length : Int)), decide (r2.2 = 0))), (32, (decide (0 < (b.2.2.2.2.2.2.2.2.2.2.length : Int)), (!r14)))]) x15.2).2).2 else false), (IntKind.wrap .i64 (x15.2 + 1))))
  else (
  rec15 ((bif x15.1 then (!((rd (.pair (.int .i64) (.pair .bool .bool)) ([(1, ((!decide (b.2.2.1 = 0)), true)), (2, ((!decide (b.2.2.2.2.2.2.1 = 0)), true)), (4, ((!decide (b.2.2.2.2.2.2.2.1 = 0)), true)), (8, ((!decide (b.2.2.2.2.2.2.2.2.1 = 0)), true)), (16, (decide (0 < (b.2.2.2.2.2.2.2.2.2.1.length : Int)), decide (r2.2 = 0))), (32, (decide (0 < (b.2.2.2.2.2.2.2.2.2.2.length : Int)), (!r14)))]) x15.2).2).1) else false), (IntKind.wrap .i64 (x15.2 + 1))))
  else none)
  else (
  bif ((!x15.1) == false) then (
  (F22 (b.2.2.2.1, (b.2.2.2.2.1, b.2.2.2.2.2.1))).bind fun r16 =>
  bif (!decide (r16 = 0)) then (
  some 1)
  else (
  some 0))
  else (
  some 1))) (r1.2, 0))
 else (
 (fun o => both o o) (
 lfp (fun (rec17 : (Bool × Int) → Option Int) (x17 : Bool × Int) =>
  bif decide (x17.2 < (([(1, ((!decide (b.2.2.1 = 0)), true)), (2, ((!decide (b.2.2.2.2.2.2.1 = 0)), true)), (4, ((!decide (b.2.2.2.2.2.2.2.1 = 0)), true)), (8, ((!decide (b.2.2.2.2.2.2.2.2.1 = 0)), true)), (16, (decide (0 < (b.2.2.2.2.2.2.2.2.2.1.length : Int)), decide (r2.2 = 0))), (32, (decide (0 < (b.2.2.2.2.2.2.2.2.2.2.length : Int)), false))]).length : Int)) then (
  bif inb x17.2 ([(1, ((!decide (b.2.2.1 = 0)), true)), (2, ((!decide (b.2.2.2.2.2.2.1 = 0)), true)), (4, ((!decide (b.2.2.2.2.2.2.2.1 = 0)), true)), (8, ((!decide (b.2.2.2.2.2.2.2.2.1 = 0)), true)), (16, (decide (0 < (b.2.2.2.2.2.2.2.2.2.1.length : Int)), decide (r2.2 = 0))), (32, (decide (0 < (b.2.2.2.2.2.2.2.2.2.2.length : Int)), false))]).length then
  bif (!decide ((bitOp .and .i64 r1.1 ((rd (.pair (.int .i64) (.pair .bool .bool)) ([(1, ((!decide (b.2.2.1 = 0)), true)), (2, ((!decide (b.2.2.2.2.2.2.1 = 0)), true)), (4, ((!decide (b.2.2.2.2.2.2.2.1 = 0)), true)), (8, ((!decide (b.2.2.2.2.2.2.2.2.1 = 0)), true)), (16, (decide (0 < (b.2.2.2.2.2.2.2.2.2.1.length : Int)), decide (r2.2 = 0))), (32, (decide (0 < (b.2.2.2.2.2.2.2.2.2.2.length : Int)), false))]) x17.2).1)) = 0)) then (
  rec17 ((bif x17.1 then ((rd (.pair (.int .i64) (.pair .bool .bool)) ([(1, ((!decide (b.2.2.1 = 0)), true)), (2, ((!decide (b.2.2.2.2.2.2.1 = 0)), true)), (4, ((!decide (b.2.2.2.2.2.2.2.1 = 0)), true)), (8, ((!decide (b.2.2.2.2.2.2.2.2.1 = 0)), true)), (16, (decide (0 < (b.2.2.2.2.2.2.2.2.2.1.length : Int)), decide (r2.2 = 0))), (32, (decide (0 < (b.2.2.2.2.2.2.2.2.2.2.length : Int)), false))]) x17.2).2).2 else false), (IntKind.wrap .i64 (x17.2 + 1))))
  else (
  rec17 ((bif x17.1 then (!((rd (.pair (.int .i64) (.pair .bool .bool)) ([(1, ((!decide (b.2.2.1 = 0)), true)), (2, ((!decide (b.2.2.2.2.2.2.1 = 0)), true)), (4, ((!decide (b.2.2.2.2.2.2.2.1 = 0)), true)), (8, ((!decide (b.2.2.2.2.2.2.2.2.1 = 0)), true)), (16, (decide (0 < (b.2.2.2.2.2.2.2.2.2.1.length : Int)), decide (r2.2 = 0))), (32, (decide (0 < (b.2.2.2.2.2.2.2.2.2.2.length : Int)), false))]) x17.2).2).1) else false), (IntKind.wrap .i64 (x17.2 + 1))))
  else none)
  else (
  bif ((!x17.1) == false) then (
  (F22 (b.2.2.2.1, (b.2.2.2.2.1, b.2.2.2.2.2.1))).bind fun r18 =>
  bif (!decide (r18 = 0)) then (
  some 1)
  else (
  some 0))
  else (
  some 1))) (r1.2, 0))))))
theorem ev10 (b : (Int × (Int × (Int × (Int × (List (Int × (Int × Int)) × (Int × (Int × (Int × (Int × (List (Int × Int) × List (Int × (Int × Int))))))))))))) : evF C21018 H10 Tryd.f10 (encs [.agg (.pair (.int .u64) (.pair (.int .i64) (.pair (.int .u64) (.pair (.int .u64) (.pair (.slice 48 (.pair (.int .i64) (.pair (.int .u64) (.int .u64)))) (.pair (.int .i64) (.pair (.int .u64) (.pair (.int .u64) (.pair (.int .u64) (.pair (.slice 57 (.pair (.int .u64) (.int .u64))) (.slice 48 (.pair (.int .i64) (.pair (.int .u64) (.int .u64))))))))))))))] b) (RT.dec (.one (.leaf (.int .i64)))) = F10 b := by kernel_rfl
noncomputable def C10 : Ctx := Ctx.add C21018 10 [.agg (.pair (.int .u64) (.pair (.int .i64) (.pair (.int .u64) (.pair (.int .u64) (.pair (.slice 48 (.pair (.int .i64) (.pair (.int .u64) (.int .u64)))) (.pair (.int .i64) (.pair (.int .u64) (.pair (.int .u64) (.pair (.int .u64) (.pair (.slice 57 (.pair (.int .u64) (.int .u64))) (.slice 48 (.pair (.int .i64) (.pair (.int .u64) (.int .u64))))))))))))))] (.one (.leaf (.int .i64))) F10
theorem s10 : C10.Sound := Ctx.Sound.add (C := C21018) mixed s21018 Tryd.func10 ev10
/-! damson/bigsize.first -/
def H56 : Nat → Head := fun _ => ⟨[], []⟩
noncomputable def F56 (b : Int) : Option Int :=
 bif decide (b < 253) then (
 some (IntKind.wrap .u8 b))
 else (
 bif decide (b < 65536) then (
 some 253)
 else (
 bif decide (b < 4294967296) then (
 some 254)
 else (
 some 255)))
theorem ev56 (b : Int) : evF C10 H56 Tryd.f56 (encs [.one (.int .u64)] b) (RT.dec (.one (.leaf (.int .u8)))) = F56 b := by kernel_rfl
noncomputable def C56 : Ctx := Ctx.add C10 56 [.one (.int .u64)] (.one (.leaf (.int .u8))) F56
theorem s56 : C56.Sound := Ctx.Sound.add (C := C10) mixed s10 Tryd.func56 ev56
/-! damson/bigsize.wide -/
def H57 : Nat → Head := fun _ => ⟨[], []⟩
noncomputable def F57 (b : Int) : Option Int :=
 bif decide (b < 253) then (
 some 0)
 else (
 some (IntKind.wrap .i64 (2 * 2 ^ (min (IntKind.wrap .u8 (b - 253)).toNat 64))))
theorem ev57 (b : Int) : evF C56 H57 Tryd.f57 (encs [.one (.int .u8)] b) (RT.dec (.one (.leaf (.int .i64)))) = F57 b := by kernel_rfl
noncomputable def C57 : Ctx := Ctx.add C56 57 [.one (.int .u8)] (.one (.leaf (.int .i64))) F57
theorem s57 : C57.Sound := Ctx.Sound.add (C := C56) mixed s56 Tryd.func57 ev57
/-! damson/bigsize.Put -/
def H42 : Nat → Head
  | 3 => ⟨[.row 3 14339 5 (.int .u8), .data 10 (.int .i64)], []⟩
  | 8 => ⟨[.row 3 14344 5 (.int .u8), .data 22 (.int .i64)], [73728]⟩
  | _ => ⟨[], []⟩
noncomputable def F42 (b : List Int) : Option (List Int) :=
 lfp (fun (rec1 : (List Int × Int) → Option (List Int)) (x1 : List Int × Int) =>
  bif decide (x1.2 < (b.length : Int)) then (
  bif inb x1.2 b.length then
  (F56 (rd (.int .u64) b x1.2)).bind fun r2 =>
  bif decide ((x1.1.length + 1) * 1 ≤ LIM) then
  (F57 r2).bind fun r3 =>
  lfp (fun (rec4 : (List Int × Int) → Option (List Int)) (x4 : List Int × Int) =>
   bif decide (x4.2 < r3) then (
   (F57 r2).bind fun r5 =>
   bif decide (0 ≤ (IntKind.wrap .i64 (8 * (IntKind.wrap .i64 ((IntKind.wrap .i64 (r5 - 1)) - x4.2))))) then
   bif decide ((x4.1.length + 1) * 1 ≤ LIM) then
   rec4 ((x4.1 ++ ([(IntKind.wrap .u8 ((rd (.int .u64) b x1.2) / 2 ^ (min (IntKind.wrap .i64 (8 * (IntKind.wrap .i64 ((IntKind.wrap .i64 (r5 - 1)) - x4.2)))).toNat 64)))])), (IntKind.wrap .i64 (x4.2 + 1)))
   else none
   else none)
   else (
   rec1 (x4.1, (IntKind.wrap .i64 (x1.2 + 1))))) ((x1.1 ++ ([r2])), 0)
  else none
  else none)
  else (
  some x1.1)) (([] : List Int), 0)
theorem ev42 (b : List Int) : evF C57 H42 Tryd.f42 (encs [.oneA (.slice 22 (.int .u64))] b) (RT.dec (.one (.leaf (.fresh 5 (.int .u8))))) = F42 b := by kernel_rfl
noncomputable def C42 : Ctx := Ctx.addA C57 42 [.oneA (.slice 22 (.int .u64))] (.one (.leaf (.fresh 5 (.int .u8)))) F42
theorem s42 : C42.Sound := Ctx.Sound.addA (C := C57) mixed s57 Tryd.func42 ev42
/-! cmp.isNaN[uint64] -/
def H75 : Nat → Head := fun _ => ⟨[], []⟩
noncomputable def F75 (b : Int) : Option Bool :=
 some (!decide (b = b))
theorem ev75 (b : Int) : evF C42 H75 Tryd.f75 (encs [.one (.int .u64)] b) (RT.dec (.one (.leaf (.bool)))) = F75 b := by kernel_rfl
noncomputable def C75 : Ctx := Ctx.add C42 75 [.one (.int .u64)] (.one (.leaf (.bool))) F75
theorem s75 : C75.Sound := Ctx.Sound.add (C := C42) mixed s42 Tryd.func75 ev75
/-! cmp.Compare[uint64] -/
def H61 : Nat → Head := fun _ => ⟨[], []⟩
noncomputable def F61 (b : Int × Int) : Option Int :=
 (F75 b.1).bind fun r1 =>
 (F75 b.2).bind fun r2 =>
 bif r1 then (
 bif r2 then (
 some 0)
 else (
 some (-1)))
 else (
 bif r2 then (
 some 1)
 else (
 bif decide (b.1 < b.2) then (
 some (-1))
 else (
 bif decide (b.2 < b.1) then (
 some 1)
 else (
 some 0))))
theorem ev61 (b : Int × Int) : evF C75 H61 Tryd.f61 (encs [.one (.int .u64), .one (.int .u64)] b) (RT.dec (.one (.leaf (.int .i64)))) = F61 b := by kernel_rfl
noncomputable def C61 : Ctx := Ctx.add C75 61 [.one (.int .u64), .one (.int .u64)] (.one (.leaf (.int .i64))) F61
theorem s61 : C61.Sound := Ctx.Sound.add (C := C75) mixed s75 Tryd.func61 ev61
/-! damson/tlv.order -/
def H50 : Nat → Head := fun _ => ⟨[], []⟩
noncomputable def F50 (b : (Int × List Int) × Int) : Option Int :=
 (F61 (b.1.1, b.2)).bind fun r1 =>
 some r1
theorem ev50 (b : (Int × List Int) × Int) : evF C61 H50 Tryd.f50 (encs [.agg (.pair (.int .u64) (.slice 5 (.int .u8))), .one (.int .u64)] b) (RT.dec (.one (.leaf (.int .i64)))) = F50 b := by kernel_rfl
noncomputable def C50 : Ctx := Ctx.add C61 50 [.agg (.pair (.int .u64) (.slice 5 (.int .u8))), .one (.int .u64)] (.one (.leaf (.int .i64))) F50
theorem s50 : C50.Sound := Ctx.Sound.add (C := C61) mixed s61 Tryd.func50 ev50
/-! damson/tlv.Check -/
def H46 : Nat → Head
  | 4 => ⟨[.data 2 (.int .i64), .data 10 (.int .i64)], []⟩
  | 5000006 => ⟨[], [0, 0, 1, 1, 2, 2, 4, 4, 8, 8, 16, 16, 48, 48, 80, 80, 128, 128, 128, 128, 640, 640, 1408, 1408, 2176, 2176, 128, 128, 8320, 8320, 20608, 20608, 32896, 32896, 65680, 65680, 131088, 131088]⟩
  | _ => ⟨[], []⟩
noncomputable def F46 (b : List (Int × List Int)) : Option Int :=
 bif decide (64 < (b.length : Int)) then (
 some 1)
 else (
 lfp (fun (rec1 : (Int × Int) → Option Int) (x1 : Int × Int) =>
  bif decide (x1.2 < (b.length : Int)) then (
  bif inb x1.2 b.length then
  bif (decide (4096 < (((rd (.pair (.int .u64) (.slice 5 (.int .u8))) b x1.2).2).length : Int)) == false) then (
  bif (decide (0 < x1.2) == true) then (
  bif inb (IntKind.wrap .i64 (x1.2 - 1)) b.length then
  (F50 (((rd (.pair (.int .u64) (.slice 5 (.int .u8))) b (IntKind.wrap .i64 (x1.2 - 1))).1, (rd (.pair (.int .u64) (.slice 5 (.int .u8))) b (IntKind.wrap .i64 (x1.2 - 1))).2), (rd (.pair (.int .u64) (.slice 5 (.int .u8))) b x1.2).1)).bind fun r2 =>
  bif decide (0 ≤ r2) then (
  some 1)
  else (
  rec1 (x1.1, (IntKind.wrap .i64 (x1.2 + 1))))
  else none)
  else (
  (fun o => both o o) (
  rec1 (x1.1, (IntKind.wrap .i64 (x1.2 + 1))))))
  else (
  (fun o => both o o) (
  some 1))
  else none)
  else (
  some 0)) (0, 0))
theorem ev46 (b : List (Int × List Int)) : evF C50 H46 Tryd.f46 (encs [.one (.slice 67 (.pair (.int .u64) (.slice 5 (.int .u8))))] b) (RT.dec (.one (.leaf (.int .i64)))) = F46 b := by kernel_rfl
noncomputable def C46 : Ctx := Ctx.add C50 46 [.one (.slice 67 (.pair (.int .u64) (.slice 5 (.int .u8))))] (.one (.leaf (.int .i64))) F46
theorem s46 : C46.Sound := Ctx.Sound.add (C := C50) mixed s50 Tryd.func46 ev46
/-! damson/tlv.Put -/
def H27 : Nat → Head
  | 5 => ⟨[.row 2 10245 5 (.int .u8), .data 13 (.int .i64)], []⟩
  | 5000007 => ⟨[], [0, 0, 0, 0, 2, 2, 0, 0, 8, 8, 16, 16, 32, 32, 68, 68, 128, 128, 257, 257, 0, 0, 1024, 1024, 2560, 2560, 8191, 4097]⟩
  | _ => ⟨[], []⟩
noncomputable def F27 (b : List (Int × List Int)) : Option (List Int × Int) :=
 (F46 b).bind fun r1 =>
 bif (!decide (r1 = 0)) then (
 some (([] : List Int), r1))
 else (
 lfp (fun (rec2 : (List Int × Int) → Option (List Int × Int)) (x2 : List Int × Int) =>
  bif decide (x2.2 < (b.length : Int)) then (
  bif inb x2.2 b.length then
  (both (
  (both (
  (both (
  (both (
  (F42 ([(rd (.pair (.int .u64) (.slice 5 (.int .u8))) b x2.2).1, (IntKind.wrap .u64 (((rd (.pair (.int .u64) (.slice 5 (.int .u8))) b x2.2).2).length : Int))])).bind fun r3 =>
  (fun o => both o o) (
  bif decide ((x2.1.length + r3.length) * 1 ≤ LIM) then
  bif decide (((x2.1 ++ r3).length + ((rd (.pair (.int .u64) (.slice 5 (.int .u8))) b x2.2).2).length) * 1 ≤ LIM) then
  rec2 (((x2.1 ++ r3) ++ ((rd (.pair (.int .u64) (.slice 5 (.int .u8))) b x2.2).2)), (IntKind.wrap .i64 (x2.2 + 1)))
  else none
  else none)) (
  (F42 ([(rd (.pair (.int .u64) (.slice 5 (.int .u8))) b x2.2).1, (IntKind.wrap .u64 (((rd (.pair (.int .u64) (.slice 5 (.int .u8))) b x2.2).2).length : Int))])).bind fun r3 =>
  bif decide ((x2.1.length + r3.length) * 1 ≤ LIM) then
  bif decide (((x2.1 ++ r3).length + ((rd (.pair (.int .u64) (.slice 5 (.int .u8))) b x2.2).2).length) * 1 ≤ LIM) then
  rec2 (((x2.1 ++ r3) ++ ((rd (.pair (.int .u64) (.slice 5 (.int .u8))) b x2.2).2)), (IntKind.wrap .i64 (x2.2 + 1)))
  else none
  else none))) (
  (F42 ([(rd (.pair (.int .u64) (.slice 5 (.int .u8))) b x2.2).1, (IntKind.wrap .u64 (((rd (.pair (.int .u64) (.slice 5 (.int .u8))) b x2.2).2).length : Int))])).bind fun r3 =>
  bif decide ((x2.1.length + r3.length) * 1 ≤ LIM) then
  bif decide (((x2.1 ++ r3).length + ((rd (.pair (.int .u64) (.slice 5 (.int .u8))) b x2.2).2).length) * 1 ≤ LIM) then
  rec2 (((x2.1 ++ r3) ++ ((rd (.pair (.int .u64) (.slice 5 (.int .u8))) b x2.2).2)), (IntKind.wrap .i64 (x2.2 + 1)))
  else none
  else none))) (
  (F42 ([(rd (.pair (.int .u64) (.slice 5 (.int .u8))) b x2.2).1, (IntKind.wrap .u64 (((rd (.pair (.int .u64) (.slice 5 (.int .u8))) b x2.2).2).length : Int))])).bind fun r3 =>
  bif decide ((x2.1.length + r3.length) * 1 ≤ LIM) then
  bif decide (((x2.1 ++ r3).length + ((rd (.pair (.int .u64) (.slice 5 (.int .u8))) b x2.2).2).length) * 1 ≤ LIM) then
  rec2 (((x2.1 ++ r3) ++ ((rd (.pair (.int .u64) (.slice 5 (.int .u8))) b x2.2).2)), (IntKind.wrap .i64 (x2.2 + 1)))
  else none
  else none))) (both (
  (both (
  (both (
  (both (
  (F42 ([(rd (.pair (.int .u64) (.slice 5 (.int .u8))) b x2.2).1, (IntKind.wrap .u64 (((rd (.pair (.int .u64) (.slice 5 (.int .u8))) b x2.2).2).length : Int))])).bind fun r3 =>
  (fun o => both o o) (
  bif decide ((x2.1.length + r3.length) * 1 ≤ LIM) then
  bif decide (((x2.1 ++ r3).length + ((rd (.pair (.int .u64) (.slice 5 (.int .u8))) b x2.2).2).length) * 1 ≤ LIM) then
  rec2 (((x2.1 ++ r3) ++ ((rd (.pair (.int .u64) (.slice 5 (.int .u8))) b x2.2).2)), (IntKind.wrap .i64 (x2.2 + 1)))
  else none
  else none)) (
  (F42 ([(rd (.pair (.int .u64) (.slice 5 (.int .u8))) b x2.2).1, (IntKind.wrap .u64 (((rd (.pair (.int .u64) (.slice 5 (.int .u8))) b x2.2).2).length : Int))])).bind fun r3 =>
  bif decide ((x2.1.length + r3.length) * 1 ≤ LIM) then
  bif decide (((x2.1 ++ r3).length + ((rd (.pair (.int .u64) (.slice 5 (.int .u8))) b x2.2).2).length) * 1 ≤ LIM) then
  rec2 (((x2.1 ++ r3) ++ ((rd (.pair (.int .u64) (.slice 5 (.int .u8))) b x2.2).2)), (IntKind.wrap .i64 (x2.2 + 1)))
  else none
  else none))) (
  (F42 ([(rd (.pair (.int .u64) (.slice 5 (.int .u8))) b x2.2).1, (IntKind.wrap .u64 (((rd (.pair (.int .u64) (.slice 5 (.int .u8))) b x2.2).2).length : Int))])).bind fun r3 =>
  bif decide ((x2.1.length + r3.length) * 1 ≤ LIM) then
  bif decide (((x2.1 ++ r3).length + ((rd (.pair (.int .u64) (.slice 5 (.int .u8))) b x2.2).2).length) * 1 ≤ LIM) then
  rec2 (((x2.1 ++ r3) ++ ((rd (.pair (.int .u64) (.slice 5 (.int .u8))) b x2.2).2)), (IntKind.wrap .i64 (x2.2 + 1)))
  else none
  else none))) (
  (F42 ([(rd (.pair (.int .u64) (.slice 5 (.int .u8))) b x2.2).1, (IntKind.wrap .u64 (((rd (.pair (.int .u64) (.slice 5 (.int .u8))) b x2.2).2).length : Int))])).bind fun r3 =>
  bif decide ((x2.1.length + r3.length) * 1 ≤ LIM) then
  bif decide (((x2.1 ++ r3).length + ((rd (.pair (.int .u64) (.slice 5 (.int .u8))) b x2.2).2).length) * 1 ≤ LIM) then
  rec2 (((x2.1 ++ r3) ++ ((rd (.pair (.int .u64) (.slice 5 (.int .u8))) b x2.2).2)), (IntKind.wrap .i64 (x2.2 + 1)))
  else none
  else none))) (
  (fun o => both o o) (
  (F42 ([(rd (.pair (.int .u64) (.slice 5 (.int .u8))) b x2.2).1, (IntKind.wrap .u64 (((rd (.pair (.int .u64) (.slice 5 (.int .u8))) b x2.2).2).length : Int))])).bind fun r3 =>
  bif decide ((x2.1.length + r3.length) * 1 ≤ LIM) then
  bif decide (((x2.1 ++ r3).length + ((rd (.pair (.int .u64) (.slice 5 (.int .u8))) b x2.2).2).length) * 1 ≤ LIM) then
  rec2 (((x2.1 ++ r3) ++ ((rd (.pair (.int .u64) (.slice 5 (.int .u8))) b x2.2).2)), (IntKind.wrap .i64 (x2.2 + 1)))
  else none
  else none))))
  else none)
  else (
  bif decide (65535 < (x2.1.length : Int)) then (
  some (([] : List Int), 4))
  else (
  some (x2.1, 0)))) (([] : List Int), 0))
theorem ev27 (b : List (Int × List Int)) : evF C46 H27 Tryd.f27 (encs [.oneA (.slice 67 (.pair (.int .u64) (.slice 5 (.int .u8))))] b) (RT.dec (.tup [.leaf (.fresh 5 (.int .u8)), .leaf (.int .i64)])) = F27 b := by kernel_rfl
noncomputable def C27 : Ctx := Ctx.addA C46 27 [.oneA (.slice 67 (.pair (.int .u64) (.slice 5 (.int .u8))))] (.tup [.leaf (.fresh 5 (.int .u8)), .leaf (.int .i64)]) F27
theorem s27 : C27.Sound := Ctx.Sound.addA (C := C46) mixed s46 Tryd.func27 ev27
/-! damson/caveat.Put -/
def H43 : Nat → Head := fun _ => ⟨[], []⟩
noncomputable def F43 (b : (Int × (Int × Int))) : Option (List Int × Int) :=
 (F19 (b.1, (b.2.1, b.2.2))).bind fun r1 =>
 bif (!decide (r1 = 0)) then (
 some (([] : List Int), r1))
 else (
 bif (!decide (b.1 = 4)) then (
 bif inb 2 (([(IntKind.wrap .u64 b.1), b.2.1, b.2.2]).length + 1) then
 (F42 (([(IntKind.wrap .u64 b.1), b.2.1, b.2.2]).take ((2 : Int).toNat))).bind fun r2 =>
 some (r2, 0)
 else none)
 else (
 (F42 ([(IntKind.wrap .u64 b.1), b.2.1, b.2.2])).bind fun r3 =>
 some (r3, 0)))
theorem ev43 (b : (Int × (Int × Int))) : evF C27 H43 Tryd.f43 (encs [.agg (.pair (.int .i64) (.pair (.int .u64) (.int .u64)))] b) (RT.dec (.tup [.leaf (.fresh 5 (.int .u8)), .leaf (.int .i64)])) = F43 b := by kernel_rfl
noncomputable def C43 : Ctx := Ctx.add C27 43 [.agg (.pair (.int .i64) (.pair (.int .u64) (.int .u64)))] (.tup [.leaf (.fresh 5 (.int .u8)), .leaf (.int .i64)]) F43
theorem s43 : C43.Sound := Ctx.Sound.add (C := C27) mixed s27 Tryd.func43 ev43
/-! damson/token.texts -/
def H55 : Nat → Head
  | 3 => ⟨[.data 13 (.int .i64), .rowk 36864 36 (.slice 5 (.int .u8))], [4096]⟩
  | _ => ⟨[], []⟩
noncomputable def F55 (b : (Int × (List (Int × (Int × Int)) × Int))) : Option (List (List Int)) :=
 bif (decide (0 ≤ (b.2.1.length : Int)) && decide ((b.2.1.length : Int) = (b.2.1.length : Int)) && decide ((b.2.1.length : Int).toNat * 24 ≤ LIM)) then
 lfp (fun (rec1 : (Int × List (List Int)) → Option (List (List Int))) (x1 : Int × List (List Int)) =>
  bif decide (x1.1 < (b.2.1.length : Int)) then (
  bif inb x1.1 b.2.1.length then
  (F43 ((rd (.pair (.int .i64) (.pair (.int .u64) (.int .u64))) b.2.1 x1.1).1, (((rd (.pair (.int .i64) (.pair (.int .u64) (.int .u64))) b.2.1 x1.1).2).1, ((rd (.pair (.int .i64) (.pair (.int .u64) (.int .u64))) b.2.1 x1.1).2).2))).bind fun r2 =>
  bif inb x1.1 x1.2.length then
  rec1 ((IntKind.wrap .i64 (x1.1 + 1)), (x1.2.set x1.1.toNat r2.1))
  else none
  else none)
  else (
  some x1.2)) (0, (List.replicate ((b.2.1.length : Int).toNat) [] : List (List Int)))
 else none
theorem ev55 (b : (Int × (List (Int × (Int × Int)) × Int))) : evF C43 H55 Tryd.f55 (encs [.aggA (.pair (.int .u64) (.pair (.slice 48 (.pair (.int .i64) (.pair (.int .u64) (.int .u64)))) (.int .i64)))] b) (RT.dec (.one (.leaf (.fresh 36 (.slice 5 (.int .u8)))))) = F55 b := by kernel_rfl
noncomputable def C55 : Ctx := Ctx.addA C43 55 [.aggA (.pair (.int .u64) (.pair (.slice 48 (.pair (.int .i64) (.pair (.int .u64) (.int .u64)))) (.int .i64)))] (.one (.leaf (.fresh 36 (.slice 5 (.int .u8))))) F55
theorem s55 : C55.Sound := Ctx.Sound.addA (C := C43) mixed s43 Tryd.func55 ev55
/-! damson/token.Put -/
def H40 : Nat → Head
  | 6 => ⟨[.row 5 22534 67 (.pair (.int .u64) (.slice 5 (.int .u8))), .data 28 (.int .i64)], [106496, 90112, 86016, 65536, 61440, 4096]⟩
  | 5000004 => ⟨[], [0, 0, 1, 1, 2, 2, 4, 4, 8, 8, 0, 0, 32, 32, 64, 64, 128, 128, 264, 256, 512, 512, 1040, 1040, 4095, 2048]⟩
  | _ => ⟨[], []⟩
noncomputable def F40 (b : (Int × (List (Int × (Int × Int)) × Int))) : Option (List Int × Int) :=
 (F22 (b.1, (b.2.1, b.2.2))).bind fun r1 =>
 bif (!decide (r1 = 0)) then (
 some (([] : List Int), r1))
 else (
 (both (
 (both (
 (both (
 (F42 ([b.1])).bind fun r2 =>
 (F42 ([(IntKind.wrap .u64 b.2.2)])).bind fun r3 =>
 (F55 (b.1, (b.2.1, b.2.2))).bind fun r4 =>
 lfp (fun (rec5 : (List (Int × List Int) × Int) → Option (List Int × Int)) (x5 : List (Int × List Int) × Int) =>
  bif decide (x5.2 < (r4.length : Int)) then (
  bif inb x5.2 r4.length then
  bif decide ((x5.1.length + 1) * 32 ≤ LIM) then
  rec5 ((x5.1 ++ ([((IntKind.wrap .u64 (16 + (IntKind.wrap .u64 x5.2))), (rd (.slice 5 (.int .u8)) r4 x5.2))])), (IntKind.wrap .i64 (x5.2 + 1)))
  else none
  else none)
  else (
  (F27 x5.1).bind fun r6 =>
  some (r6.1, r6.2))) (([(1, r2), (2, r3)]), 0)) (
 (fun o => both o o) (
 (F42 ([b.1])).bind fun r2 =>
 (F42 ([(IntKind.wrap .u64 b.2.2)])).bind fun r3 =>
 (F55 (b.1, (b.2.1, b.2.2))).bind fun r4 =>
 lfp (fun (rec5 : (List (Int × List Int) × Int) → Option (List Int × Int)) (x5 : List (Int × List Int) × Int) =>
  bif decide (x5.2 < (r4.length : Int)) then (
  bif inb x5.2 r4.length then
  bif decide ((x5.1.length + 1) * 32 ≤ LIM) then
  rec5 ((x5.1 ++ ([((IntKind.wrap .u64 (16 + (IntKind.wrap .u64 x5.2))), (rd (.slice 5 (.int .u8)) r4 x5.2))])), (IntKind.wrap .i64 (x5.2 + 1)))
  else none
  else none)
  else (
  (F27 x5.1).bind fun r6 =>
  some (r6.1, r6.2))) (([(1, r2), (2, r3)]), 0))))) (
 (both (
 (fun o => both o o) (
 (F42 ([b.1])).bind fun r2 =>
 (F42 ([(IntKind.wrap .u64 b.2.2)])).bind fun r3 =>
 (F55 (b.1, (b.2.1, b.2.2))).bind fun r4 =>
 lfp (fun (rec5 : (List (Int × List Int) × Int) → Option (List Int × Int)) (x5 : List (Int × List Int) × Int) =>
  bif decide (x5.2 < (r4.length : Int)) then (
  bif inb x5.2 r4.length then
  bif decide ((x5.1.length + 1) * 32 ≤ LIM) then
  rec5 ((x5.1 ++ ([((IntKind.wrap .u64 (16 + (IntKind.wrap .u64 x5.2))), (rd (.slice 5 (.int .u8)) r4 x5.2))])), (IntKind.wrap .i64 (x5.2 + 1)))
  else none
  else none)
  else (
  (F27 x5.1).bind fun r6 =>
  some (r6.1, r6.2))) (([(1, r2), (2, r3)]), 0))) (
 (F42 ([b.1])).bind fun r2 =>
 (F42 ([(IntKind.wrap .u64 b.2.2)])).bind fun r3 =>
 (F55 (b.1, (b.2.1, b.2.2))).bind fun r4 =>
 lfp (fun (rec5 : (List (Int × List Int) × Int) → Option (List Int × Int)) (x5 : List (Int × List Int) × Int) =>
  bif decide (x5.2 < (r4.length : Int)) then (
  bif inb x5.2 r4.length then
  bif decide ((x5.1.length + 1) * 32 ≤ LIM) then
  rec5 ((x5.1 ++ ([((IntKind.wrap .u64 (16 + (IntKind.wrap .u64 x5.2))), (rd (.slice 5 (.int .u8)) r4 x5.2))])), (IntKind.wrap .i64 (x5.2 + 1)))
  else none
  else none)
  else (
  (F27 x5.1).bind fun r6 =>
  some (r6.1, r6.2))) (([(1, r2), (2, r3)]), 0)))))) (
 (both (
 (both (
 (fun o => both o o) (
 (F42 ([b.1])).bind fun r2 =>
 (F42 ([(IntKind.wrap .u64 b.2.2)])).bind fun r3 =>
 (F55 (b.1, (b.2.1, b.2.2))).bind fun r4 =>
 lfp (fun (rec5 : (List (Int × List Int) × Int) → Option (List Int × Int)) (x5 : List (Int × List Int) × Int) =>
  bif decide (x5.2 < (r4.length : Int)) then (
  bif inb x5.2 r4.length then
  bif decide ((x5.1.length + 1) * 32 ≤ LIM) then
  rec5 ((x5.1 ++ ([((IntKind.wrap .u64 (16 + (IntKind.wrap .u64 x5.2))), (rd (.slice 5 (.int .u8)) r4 x5.2))])), (IntKind.wrap .i64 (x5.2 + 1)))
  else none
  else none)
  else (
  (F27 x5.1).bind fun r6 =>
  some (r6.1, r6.2))) (([(1, r2), (2, r3)]), 0))) (
 (F42 ([b.1])).bind fun r2 =>
 (F42 ([(IntKind.wrap .u64 b.2.2)])).bind fun r3 =>
 (F55 (b.1, (b.2.1, b.2.2))).bind fun r4 =>
 lfp (fun (rec5 : (List (Int × List Int) × Int) → Option (List Int × Int)) (x5 : List (Int × List Int) × Int) =>
  bif decide (x5.2 < (r4.length : Int)) then (
  bif inb x5.2 r4.length then
  bif decide ((x5.1.length + 1) * 32 ≤ LIM) then
  rec5 ((x5.1 ++ ([((IntKind.wrap .u64 (16 + (IntKind.wrap .u64 x5.2))), (rd (.slice 5 (.int .u8)) r4 x5.2))])), (IntKind.wrap .i64 (x5.2 + 1)))
  else none
  else none)
  else (
  (F27 x5.1).bind fun r6 =>
  some (r6.1, r6.2))) (([(1, r2), (2, r3)]), 0)))) (
 (F42 ([b.1])).bind fun r2 =>
 (F42 ([(IntKind.wrap .u64 b.2.2)])).bind fun r3 =>
 (F55 (b.1, (b.2.1, b.2.2))).bind fun r4 =>
 lfp (fun (rec5 : (List (Int × List Int) × Int) → Option (List Int × Int)) (x5 : List (Int × List Int) × Int) =>
  bif decide (x5.2 < (r4.length : Int)) then (
  bif inb x5.2 r4.length then
  bif decide ((x5.1.length + 1) * 32 ≤ LIM) then
  rec5 ((x5.1 ++ ([((IntKind.wrap .u64 (16 + (IntKind.wrap .u64 x5.2))), (rd (.slice 5 (.int .u8)) r4 x5.2))])), (IntKind.wrap .i64 (x5.2 + 1)))
  else none
  else none)
  else (
  (F27 x5.1).bind fun r6 =>
  some (r6.1, r6.2))) (([(1, r2), (2, r3)]), 0))))))
theorem ev40 (b : (Int × (List (Int × (Int × Int)) × Int))) : evF C55 H40 Tryd.f40 (encs [.aggA (.pair (.int .u64) (.pair (.slice 48 (.pair (.int .i64) (.pair (.int .u64) (.int .u64)))) (.int .i64)))] b) (RT.dec (.tup [.leaf (.fresh 5 (.int .u8)), .leaf (.int .i64)])) = F40 b := by kernel_rfl
noncomputable def C40 : Ctx := Ctx.addA C55 40 [.aggA (.pair (.int .u64) (.pair (.slice 48 (.pair (.int .i64) (.pair (.int .u64) (.int .u64)))) (.int .i64)))] (.tup [.leaf (.fresh 5 (.int .u8)), .leaf (.int .i64)]) F40
theorem s40 : C40.Sound := Ctx.Sound.addA (C := C55) mixed s55 Tryd.func40 ev40
/-! damson/request.records$1: carried out where it is called -/
def H41 : Nat → Head
  | 5000000 => ⟨[], [0, 0, 0, 0, 0, 0, 4, 4, 10, 10, 16, 16, 41, 33, 127, 64]⟩
  | _ => ⟨[], []⟩
noncomputable def C41 : Ctx := Ctx.addI C40 41 H41 9000041 Tryd.f41
theorem s41 : C41.Sound := Ctx.Sound.addI (C := C40) mixed s40 Tryd.func41
/-! slices.SortFunc[[]damson/api.Record,damson/api.Record]: by its law -/
noncomputable def C44 : Ctx := Ctx.addS C41 44 45 67 (.slice 5 (.int .u8))
theorem s44 : C44.Sound := Ctx.Sound.addS (C := C41) s41 rfl sortPays
/-! damson/request.records -/
def H26 : Nat → Head
  | 9 => ⟨[.iterk 204800 ⟨(.int .u64), (.int .u64), true⟩, .crow 24576 0 10026633 67 (.pair (.int .u64) (.slice 5 (.int .u8))), .boxr 24576 10026633 .unit .unit], [155648, 131072, 77824]⟩
  | 14 => ⟨[.data 66 (.int .i64), .crow 24576 0 10026638 67 (.pair (.int .u64) (.slice 5 (.int .u8))), .boxr 24576 10026638 .unit .unit], [204800, 155648, 131072, 77824]⟩
  | 19 => ⟨[.row 2 10259 67 (.pair (.int .u64) (.slice 5 (.int .u8))), .data 3 (.int .i64), .data 85 (.int .i64), .crow 24576 0 10026643 67 (.pair (.int .u64) (.slice 5 (.int .u8))), .boxr 24576 10026643 .unit .unit], [204800, 155648, 131072, 77824]⟩
  | 1000000 => ⟨[], [1]⟩
  | 1000015 => ⟨[], [11]⟩
  | 1000020 => ⟨[], [13]⟩
  | _ => ⟨[], []⟩
noncomputable def F26 (b : (Int × (Int × (Int × (Int × (List (Int × (Int × Int)) × (Int × (Int × (Int × (Int × (List (Int × Int) × List (Int × (Int × Int))))))))))))) : Option ((List (Int × List Int)) × Int) :=
 (F40 (b.2.2.2.1, (b.2.2.2.2.1, b.2.2.2.2.2.1))).bind fun r1 =>
 bif (!decide (r1.2 = 0)) then (
 some (([] : List (Int × List Int)), r1.2))
 else (
 (both (
 (F42 ([b.1])).bind fun r2 =>
 bif decide ((([(4, r1.1)]).length + 1) * 32 ≤ LIM) then
 (both (
 (F42 ([(IntKind.wrap .u64 b.2.1)])).bind fun r3 =>
 bif decide (((([(4, r1.1)]) ++ ([(1, r2)])).length + 1) * 32 ≤ LIM) then
 lfp (fun (rec4 : (List (Int × Int) × List (Int × List Int) × (Unit × Unit)) → Option ((List (Int × List Int)) × Int)) (x4 : List (Int × Int) × List (Int × List Int) × (Unit × Unit)) =>
  bif x4.1.isEmpty then (
  lfp (fun (rec5 : (Int × List (Int × List Int) × (Unit × Unit)) → Option ((List (Int × List Int)) × Int)) (x5 : Int × List (Int × List Int) × (Unit × Unit)) =>
   bif decide (x5.1 < (b.2.2.2.2.2.2.2.2.2.1.length : Int)) then (
   bif inb x5.1 b.2.2.2.2.2.2.2.2.2.1.length then
   (both (
   (F42 ([(rd (.pair (.int .u64) (.int .u64)) b.2.2.2.2.2.2.2.2.2.1 x5.1).1, (rd (.pair (.int .u64) (.int .u64)) b.2.2.2.2.2.2.2.2.2.1 x5.1).2])).bind fun r6 =>
   bif decide ((x5.2.1.length + 1) * 32 ≤ LIM) then
   rec5 ((IntKind.wrap .i64 (x5.1 + 1)), (x5.2.1 ++ ([((IntKind.wrap .u64 (32 + (IntKind.wrap .u64 x5.1))), r6)])), ((), ()))
   else none) (
   (F42 ([(rd (.pair (.int .u64) (.int .u64)) b.2.2.2.2.2.2.2.2.2.1 x5.1).1, (rd (.pair (.int .u64) (.int .u64)) b.2.2.2.2.2.2.2.2.2.1 x5.1).2])).bind fun r6 =>
   (fun o => both o o) (
   bif decide ((x5.2.1.length + 1) * 32 ≤ LIM) then
   rec5 ((IntKind.wrap .i64 (x5.1 + 1)), (x5.2.1 ++ ([((IntKind.wrap .u64 (32 + (IntKind.wrap .u64 x5.1))), r6)])), ((), ()))
   else none)))
   else none)
   else (
   lfp (fun (rec7 : (List (Int × List Int) × Int × Int × List (Int × List Int) × (Unit × Unit)) → Option ((List (Int × List Int)) × Int)) (x7 : List (Int × List Int) × Int × Int × List (Int × List Int) × (Unit × Unit)) =>
    bif decide (x7.2.2.1 < (b.2.2.2.2.2.2.2.2.2.2.length : Int)) then (
    bif inb x7.2.2.1 b.2.2.2.2.2.2.2.2.2.2.length then
    (F43 ((rd (.pair (.int .i64) (.pair (.int .u64) (.int .u64))) b.2.2.2.2.2.2.2.2.2.2 x7.2.2.1).1, (((rd (.pair (.int .i64) (.pair (.int .u64) (.int .u64))) b.2.2.2.2.2.2.2.2.2.2 x7.2.2.1).2).1, ((rd (.pair (.int .i64) (.pair (.int .u64) (.int .u64))) b.2.2.2.2.2.2.2.2.2.2 x7.2.2.1).2).2))).bind fun r8 =>
    bif (!decide (r8.2 = 0)) then (
    some (([] : List (Int × List Int)), r8.2))
    else (
    bif decide ((x7.2.2.2.1.length + 1) * 32 ≤ LIM) then
    rec7 (x7.1, x7.2.1, (IntKind.wrap .i64 (x7.2.2.1 + 1)), (x7.2.2.2.1 ++ ([((IntKind.wrap .u64 (48 + (IntKind.wrap .u64 x7.2.2.1))), r8.1)])), ((), ()))
    else none)
    else none)
    else (
    bif srtOk x7.2.2.2.1 then
    some ((srt x7.2.2.2.1), 0)
    else none)) (([] : List (Int × List Int)), 0, 0, x5.2.1, ((), ())))) (0, x4.2.1, ((), ())))
  else (
  anyOf x4.1 (fun (e9 : Int × Int) (r9 : List (Int × Int)) =>
   bif (!decide (e9.2 = 0)) then (
   (both (
   (F42 ([e9.2])).bind fun r10 =>
   bif decide ((x4.2.1.length + 1) * 32 ≤ LIM) then
   rec4 (r9, (x4.2.1 ++ ([(e9.1, r10)])), ((), ()))
   else none) (
   (F42 ([e9.2])).bind fun r10 =>
   (fun o => both o o) (
   bif decide ((x4.2.1.length + 1) * 32 ≤ LIM) then
   rec4 (r9, (x4.2.1 ++ ([(e9.1, r10)])), ((), ()))
   else none))))
   else (
   rec4 (r9, x4.2.1, ((), ())))))) ((mput (.int .u64) (.int .u64) (mput (.int .u64) (.int .u64) (mput (.int .u64) (.int .u64) (mput (.int .u64) (.int .u64) ([] : List (Int × Int)) 3 b.2.2.1) 5 b.2.2.2.2.2.2.1) 6 b.2.2.2.2.2.2.2.1) 7 b.2.2.2.2.2.2.2.2.1), ((([(4, r1.1)]) ++ ([(1, r2)])) ++ ([(2, r3)])), ((), ()))
 else none) (
 (F42 ([(IntKind.wrap .u64 b.2.1)])).bind fun r3 =>
 (fun o => both o o) (
 bif decide (((([(4, r1.1)]) ++ ([(1, r2)])).length + 1) * 32 ≤ LIM) then
 lfp (fun (rec4 : (List (Int × Int) × List (Int × List Int) × (Unit × Unit)) → Option ((List (Int × List Int)) × Int)) (x4 : List (Int × Int) × List (Int × List Int) × (Unit × Unit)) =>
  bif x4.1.isEmpty then (
  lfp (fun (rec5 : (Int × List (Int × List Int) × (Unit × Unit)) → Option ((List (Int × List Int)) × Int)) (x5 : Int × List (Int × List Int) × (Unit × Unit)) =>
   bif decide (x5.1 < (b.2.2.2.2.2.2.2.2.2.1.length : Int)) then (
   bif inb x5.1 b.2.2.2.2.2.2.2.2.2.1.length then
   (both (
   (F42 ([(rd (.pair (.int .u64) (.int .u64)) b.2.2.2.2.2.2.2.2.2.1 x5.1).1, (rd (.pair (.int .u64) (.int .u64)) b.2.2.2.2.2.2.2.2.2.1 x5.1).2])).bind fun r6 =>
   bif decide ((x5.2.1.length + 1) * 32 ≤ LIM) then
   rec5 ((IntKind.wrap .i64 (x5.1 + 1)), (x5.2.1 ++ ([((IntKind.wrap .u64 (32 + (IntKind.wrap .u64 x5.1))), r6)])), ((), ()))
   else none) (
   (F42 ([(rd (.pair (.int .u64) (.int .u64)) b.2.2.2.2.2.2.2.2.2.1 x5.1).1, (rd (.pair (.int .u64) (.int .u64)) b.2.2.2.2.2.2.2.2.2.1 x5.1).2])).bind fun r6 =>
   (fun o => both o o) (
   bif decide ((x5.2.1.length + 1) * 32 ≤ LIM) then
   rec5 ((IntKind.wrap .i64 (x5.1 + 1)), (x5.2.1 ++ ([((IntKind.wrap .u64 (32 + (IntKind.wrap .u64 x5.1))), r6)])), ((), ()))
   else none)))
   else none)
   else (
   lfp (fun (rec7 : (List (Int × List Int) × Int × Int × List (Int × List Int) × (Unit × Unit)) → Option ((List (Int × List Int)) × Int)) (x7 : List (Int × List Int) × Int × Int × List (Int × List Int) × (Unit × Unit)) =>
    bif decide (x7.2.2.1 < (b.2.2.2.2.2.2.2.2.2.2.length : Int)) then (
    bif inb x7.2.2.1 b.2.2.2.2.2.2.2.2.2.2.length then
    (F43 ((rd (.pair (.int .i64) (.pair (.int .u64) (.int .u64))) b.2.2.2.2.2.2.2.2.2.2 x7.2.2.1).1, (((rd (.pair (.int .i64) (.pair (.int .u64) (.int .u64))) b.2.2.2.2.2.2.2.2.2.2 x7.2.2.1).2).1, ((rd (.pair (.int .i64) (.pair (.int .u64) (.int .u64))) b.2.2.2.2.2.2.2.2.2.2 x7.2.2.1).2).2))).bind fun r8 =>
    bif (!decide (r8.2 = 0)) then (
    some (([] : List (Int × List Int)), r8.2))
    else (
    bif decide ((x7.2.2.2.1.length + 1) * 32 ≤ LIM) then
    rec7 (x7.1, x7.2.1, (IntKind.wrap .i64 (x7.2.2.1 + 1)), (x7.2.2.2.1 ++ ([((IntKind.wrap .u64 (48 + (IntKind.wrap .u64 x7.2.2.1))), r8.1)])), ((), ()))
    else none)
    else none)
    else (
    bif srtOk x7.2.2.2.1 then
    some ((srt x7.2.2.2.1), 0)
    else none)) (([] : List (Int × List Int)), 0, 0, x5.2.1, ((), ())))) (0, x4.2.1, ((), ())))
  else (
  anyOf x4.1 (fun (e9 : Int × Int) (r9 : List (Int × Int)) =>
   bif (!decide (e9.2 = 0)) then (
   (both (
   (F42 ([e9.2])).bind fun r10 =>
   bif decide ((x4.2.1.length + 1) * 32 ≤ LIM) then
   rec4 (r9, (x4.2.1 ++ ([(e9.1, r10)])), ((), ()))
   else none) (
   (F42 ([e9.2])).bind fun r10 =>
   (fun o => both o o) (
   bif decide ((x4.2.1.length + 1) * 32 ≤ LIM) then
   rec4 (r9, (x4.2.1 ++ ([(e9.1, r10)])), ((), ()))
   else none))))
   else (
   rec4 (r9, x4.2.1, ((), ())))))) ((mput (.int .u64) (.int .u64) (mput (.int .u64) (.int .u64) (mput (.int .u64) (.int .u64) (mput (.int .u64) (.int .u64) ([] : List (Int × Int)) 3 b.2.2.1) 5 b.2.2.2.2.2.2.1) 6 b.2.2.2.2.2.2.2.1) 7 b.2.2.2.2.2.2.2.2.1), ((([(4, r1.1)]) ++ ([(1, r2)])) ++ ([(2, r3)])), ((), ()))
 else none)))
 else none) (
 (F42 ([b.1])).bind fun r2 =>
 (fun o => both o o) (
 bif decide ((([(4, r1.1)]).length + 1) * 32 ≤ LIM) then
 (both (
 (F42 ([(IntKind.wrap .u64 b.2.1)])).bind fun r3 =>
 bif decide (((([(4, r1.1)]) ++ ([(1, r2)])).length + 1) * 32 ≤ LIM) then
 lfp (fun (rec4 : (List (Int × Int) × List (Int × List Int) × (Unit × Unit)) → Option ((List (Int × List Int)) × Int)) (x4 : List (Int × Int) × List (Int × List Int) × (Unit × Unit)) =>
  bif x4.1.isEmpty then (
  lfp (fun (rec5 : (Int × List (Int × List Int) × (Unit × Unit)) → Option ((List (Int × List Int)) × Int)) (x5 : Int × List (Int × List Int) × (Unit × Unit)) =>
   bif decide (x5.1 < (b.2.2.2.2.2.2.2.2.2.1.length : Int)) then (
   bif inb x5.1 b.2.2.2.2.2.2.2.2.2.1.length then
   (both (
   (F42 ([(rd (.pair (.int .u64) (.int .u64)) b.2.2.2.2.2.2.2.2.2.1 x5.1).1, (rd (.pair (.int .u64) (.int .u64)) b.2.2.2.2.2.2.2.2.2.1 x5.1).2])).bind fun r6 =>
   bif decide ((x5.2.1.length + 1) * 32 ≤ LIM) then
   rec5 ((IntKind.wrap .i64 (x5.1 + 1)), (x5.2.1 ++ ([((IntKind.wrap .u64 (32 + (IntKind.wrap .u64 x5.1))), r6)])), ((), ()))
   else none) (
   (F42 ([(rd (.pair (.int .u64) (.int .u64)) b.2.2.2.2.2.2.2.2.2.1 x5.1).1, (rd (.pair (.int .u64) (.int .u64)) b.2.2.2.2.2.2.2.2.2.1 x5.1).2])).bind fun r6 =>
   (fun o => both o o) (
   bif decide ((x5.2.1.length + 1) * 32 ≤ LIM) then
   rec5 ((IntKind.wrap .i64 (x5.1 + 1)), (x5.2.1 ++ ([((IntKind.wrap .u64 (32 + (IntKind.wrap .u64 x5.1))), r6)])), ((), ()))
   else none)))
   else none)
   else (
   lfp (fun (rec7 : (List (Int × List Int) × Int × Int × List (Int × List Int) × (Unit × Unit)) → Option ((List (Int × List Int)) × Int)) (x7 : List (Int × List Int) × Int × Int × List (Int × List Int) × (Unit × Unit)) =>
    bif decide (x7.2.2.1 < (b.2.2.2.2.2.2.2.2.2.2.length : Int)) then (
    bif inb x7.2.2.1 b.2.2.2.2.2.2.2.2.2.2.length then
    (F43 ((rd (.pair (.int .i64) (.pair (.int .u64) (.int .u64))) b.2.2.2.2.2.2.2.2.2.2 x7.2.2.1).1, (((rd (.pair (.int .i64) (.pair (.int .u64) (.int .u64))) b.2.2.2.2.2.2.2.2.2.2 x7.2.2.1).2).1, ((rd (.pair (.int .i64) (.pair (.int .u64) (.int .u64))) b.2.2.2.2.2.2.2.2.2.2 x7.2.2.1).2).2))).bind fun r8 =>
    bif (!decide (r8.2 = 0)) then (
    some (([] : List (Int × List Int)), r8.2))
    else (
    bif decide ((x7.2.2.2.1.length + 1) * 32 ≤ LIM) then
    rec7 (x7.1, x7.2.1, (IntKind.wrap .i64 (x7.2.2.1 + 1)), (x7.2.2.2.1 ++ ([((IntKind.wrap .u64 (48 + (IntKind.wrap .u64 x7.2.2.1))), r8.1)])), ((), ()))
    else none)
    else none)
    else (
    bif srtOk x7.2.2.2.1 then
    some ((srt x7.2.2.2.1), 0)
    else none)) (([] : List (Int × List Int)), 0, 0, x5.2.1, ((), ())))) (0, x4.2.1, ((), ())))
  else (
  anyOf x4.1 (fun (e9 : Int × Int) (r9 : List (Int × Int)) =>
   bif (!decide (e9.2 = 0)) then (
   (both (
   (F42 ([e9.2])).bind fun r10 =>
   bif decide ((x4.2.1.length + 1) * 32 ≤ LIM) then
   rec4 (r9, (x4.2.1 ++ ([(e9.1, r10)])), ((), ()))
   else none) (
   (F42 ([e9.2])).bind fun r10 =>
   (fun o => both o o) (
   bif decide ((x4.2.1.length + 1) * 32 ≤ LIM) then
   rec4 (r9, (x4.2.1 ++ ([(e9.1, r10)])), ((), ()))
   else none))))
   else (
   rec4 (r9, x4.2.1, ((), ())))))) ((mput (.int .u64) (.int .u64) (mput (.int .u64) (.int .u64) (mput (.int .u64) (.int .u64) (mput (.int .u64) (.int .u64) ([] : List (Int × Int)) 3 b.2.2.1) 5 b.2.2.2.2.2.2.1) 6 b.2.2.2.2.2.2.2.1) 7 b.2.2.2.2.2.2.2.2.1), ((([(4, r1.1)]) ++ ([(1, r2)])) ++ ([(2, r3)])), ((), ()))
 else none) (
 (F42 ([(IntKind.wrap .u64 b.2.1)])).bind fun r3 =>
 (fun o => both o o) (
 bif decide (((([(4, r1.1)]) ++ ([(1, r2)])).length + 1) * 32 ≤ LIM) then
 lfp (fun (rec4 : (List (Int × Int) × List (Int × List Int) × (Unit × Unit)) → Option ((List (Int × List Int)) × Int)) (x4 : List (Int × Int) × List (Int × List Int) × (Unit × Unit)) =>
  bif x4.1.isEmpty then (
  lfp (fun (rec5 : (Int × List (Int × List Int) × (Unit × Unit)) → Option ((List (Int × List Int)) × Int)) (x5 : Int × List (Int × List Int) × (Unit × Unit)) =>
   bif decide (x5.1 < (b.2.2.2.2.2.2.2.2.2.1.length : Int)) then (
   bif inb x5.1 b.2.2.2.2.2.2.2.2.2.1.length then
   (both (
   (F42 ([(rd (.pair (.int .u64) (.int .u64)) b.2.2.2.2.2.2.2.2.2.1 x5.1).1, (rd (.pair (.int .u64) (.int .u64)) b.2.2.2.2.2.2.2.2.2.1 x5.1).2])).bind fun r6 =>
   bif decide ((x5.2.1.length + 1) * 32 ≤ LIM) then
   rec5 ((IntKind.wrap .i64 (x5.1 + 1)), (x5.2.1 ++ ([((IntKind.wrap .u64 (32 + (IntKind.wrap .u64 x5.1))), r6)])), ((), ()))
   else none) (
   (F42 ([(rd (.pair (.int .u64) (.int .u64)) b.2.2.2.2.2.2.2.2.2.1 x5.1).1, (rd (.pair (.int .u64) (.int .u64)) b.2.2.2.2.2.2.2.2.2.1 x5.1).2])).bind fun r6 =>
   (fun o => both o o) (
   bif decide ((x5.2.1.length + 1) * 32 ≤ LIM) then
   rec5 ((IntKind.wrap .i64 (x5.1 + 1)), (x5.2.1 ++ ([((IntKind.wrap .u64 (32 + (IntKind.wrap .u64 x5.1))), r6)])), ((), ()))
   else none)))
   else none)
   else (
   lfp (fun (rec7 : (List (Int × List Int) × Int × Int × List (Int × List Int) × (Unit × Unit)) → Option ((List (Int × List Int)) × Int)) (x7 : List (Int × List Int) × Int × Int × List (Int × List Int) × (Unit × Unit)) =>
    bif decide (x7.2.2.1 < (b.2.2.2.2.2.2.2.2.2.2.length : Int)) then (
    bif inb x7.2.2.1 b.2.2.2.2.2.2.2.2.2.2.length then
    (F43 ((rd (.pair (.int .i64) (.pair (.int .u64) (.int .u64))) b.2.2.2.2.2.2.2.2.2.2 x7.2.2.1).1, (((rd (.pair (.int .i64) (.pair (.int .u64) (.int .u64))) b.2.2.2.2.2.2.2.2.2.2 x7.2.2.1).2).1, ((rd (.pair (.int .i64) (.pair (.int .u64) (.int .u64))) b.2.2.2.2.2.2.2.2.2.2 x7.2.2.1).2).2))).bind fun r8 =>
    bif (!decide (r8.2 = 0)) then (
    some (([] : List (Int × List Int)), r8.2))
    else (
    bif decide ((x7.2.2.2.1.length + 1) * 32 ≤ LIM) then
    rec7 (x7.1, x7.2.1, (IntKind.wrap .i64 (x7.2.2.1 + 1)), (x7.2.2.2.1 ++ ([((IntKind.wrap .u64 (48 + (IntKind.wrap .u64 x7.2.2.1))), r8.1)])), ((), ()))
    else none)
    else none)
    else (
    bif srtOk x7.2.2.2.1 then
    some ((srt x7.2.2.2.1), 0)
    else none)) (([] : List (Int × List Int)), 0, 0, x5.2.1, ((), ())))) (0, x4.2.1, ((), ())))
  else (
  anyOf x4.1 (fun (e9 : Int × Int) (r9 : List (Int × Int)) =>
   bif (!decide (e9.2 = 0)) then (
   (both (
   (F42 ([e9.2])).bind fun r10 =>
   bif decide ((x4.2.1.length + 1) * 32 ≤ LIM) then
   rec4 (r9, (x4.2.1 ++ ([(e9.1, r10)])), ((), ()))
   else none) (
   (F42 ([e9.2])).bind fun r10 =>
   (fun o => both o o) (
   bif decide ((x4.2.1.length + 1) * 32 ≤ LIM) then
   rec4 (r9, (x4.2.1 ++ ([(e9.1, r10)])), ((), ()))
   else none))))
   else (
   rec4 (r9, x4.2.1, ((), ())))))) ((mput (.int .u64) (.int .u64) (mput (.int .u64) (.int .u64) (mput (.int .u64) (.int .u64) (mput (.int .u64) (.int .u64) ([] : List (Int × Int)) 3 b.2.2.1) 5 b.2.2.2.2.2.2.1) 6 b.2.2.2.2.2.2.2.1) 7 b.2.2.2.2.2.2.2.2.1), ((([(4, r1.1)]) ++ ([(1, r2)])) ++ ([(2, r3)])), ((), ()))
 else none)))
 else none))))
theorem ev26 (b : (Int × (Int × (Int × (Int × (List (Int × (Int × Int)) × (Int × (Int × (Int × (Int × (List (Int × Int) × List (Int × (Int × Int))))))))))))) : evF C44 H26 Tryd.f26 (encs [.aggA (.pair (.int .u64) (.pair (.int .i64) (.pair (.int .u64) (.pair (.int .u64) (.pair (.slice 48 (.pair (.int .i64) (.pair (.int .u64) (.int .u64)))) (.pair (.int .i64) (.pair (.int .u64) (.pair (.int .u64) (.pair (.int .u64) (.pair (.slice 57 (.pair (.int .u64) (.int .u64))) (.slice 48 (.pair (.int .i64) (.pair (.int .u64) (.int .u64))))))))))))))] b) (RT.dec (.tup [.leaf (.fresh 67 (.pair (.int .u64) (.slice 5 (.int .u8)))), .leaf (.int .i64)])) = F26 b := by kernel_rfl
noncomputable def C26 : Ctx := Ctx.addA C44 26 [.aggA (.pair (.int .u64) (.pair (.int .i64) (.pair (.int .u64) (.pair (.int .u64) (.pair (.slice 48 (.pair (.int .i64) (.pair (.int .u64) (.int .u64)))) (.pair (.int .i64) (.pair (.int .u64) (.pair (.int .u64) (.pair (.int .u64) (.pair (.slice 57 (.pair (.int .u64) (.int .u64))) (.slice 48 (.pair (.int .i64) (.pair (.int .u64) (.int .u64))))))))))))))] (.tup [.leaf (.fresh 67 (.pair (.int .u64) (.slice 5 (.int .u8)))), .leaf (.int .i64)]) F26
theorem s26 : C26.Sound := Ctx.Sound.addA (C := C44) mixed s44 Tryd.func26 ev26
/-! slices.IndexFunc[[]damson/api.Record,damson/api.Record] -/
def H47029 : Nat → Head
  | 2 => ⟨[.data 4 (.int .i64), .data 8 (.int .i64)], []⟩
  | _ => ⟨[], []⟩
noncomputable def F47029 (b : List (Int × List Int) × Unit) : Option Int :=
 lfp (fun (rec1 : (Int × Int) → Option Int) (x1 : Int × Int) =>
  bif decide (x1.2 < (b.1.length : Int)) then (
  bif inb x1.2 b.1.length then
  (F29 ((rd (.pair (.int .u64) (.slice 5 (.int .u8))) b.1 x1.2).1, (rd (.pair (.int .u64) (.slice 5 (.int .u8))) b.1 x1.2).2)).bind fun r2 =>
  bif r2 then (
  some x1.2)
  else (
  rec1 (x1.1, (IntKind.wrap .i64 (x1.2 + 1))))
  else none)
  else (
  some (-1))) (0, 0)
theorem ev47029 (b : List (Int × List Int) × Unit) : evF C26 H47029 Tryd.f47 (encs [.one (.slice 67 (.pair (.int .u64) (.slice 5 (.int .u8)))), .fn 29] b) (RT.dec (.one (.leaf (.int .i64)))) = F47029 b := by kernel_rfl
noncomputable def C47029 : Ctx := Ctx.add C26 47 [.one (.slice 67 (.pair (.int .u64) (.slice 5 (.int .u8)))), .fn 29] (.one (.leaf (.int .i64))) F47029
theorem s47029 : C47029.Sound := Ctx.Sound.add (C := C26) mixed s26 Tryd.func47 ev47029
/-! slices.DeleteFunc[[]damson/api.Record,damson/api.Record]: carried out where it is called -/
def H28 : Nat → Head
  | 5 => ⟨[.data 5 (.int .i64), .data 6 (.int .i64), .rowk 57344 67 (.pair (.int .u64) (.slice 5 (.int .u8)))], [9000028]⟩
  | 4000000 => ⟨[], [77, 82]⟩
  | _ => ⟨[], []⟩
noncomputable def C28 : Ctx := Ctx.addI C47029 28 H28 9000028 Tryd.f28
theorem s28 : C28.Sound := Ctx.Sound.addI (C := C47029) mixed s47029 Tryd.func28
/-! damson/request.Print -/
def H12 : Nat → Head
  | 1000000 => ⟨[], [1]⟩
  | _ => ⟨[], []⟩
noncomputable def F12 (b : (Int × (Int × (Int × (Int × (List (Int × (Int × Int)) × (Int × (Int × (Int × (Int × (List (Int × Int) × List (Int × (Int × Int))))))))))))) : Option (List Int × Int) :=
 (F10 (b.1, (b.2.1, (b.2.2.1, (b.2.2.2.1, (b.2.2.2.2.1, (b.2.2.2.2.2.1, (b.2.2.2.2.2.2.1, (b.2.2.2.2.2.2.2.1, (b.2.2.2.2.2.2.2.2.1, (b.2.2.2.2.2.2.2.2.2.1, b.2.2.2.2.2.2.2.2.2.2))))))))))).bind fun r1 =>
 bif (!decide (r1 = 0)) then (
 some (([] : List Int), r1))
 else (
 (F26 (b.1, (b.2.1, (b.2.2.1, (b.2.2.2.1, (b.2.2.2.2.1, (b.2.2.2.2.2.1, (b.2.2.2.2.2.2.1, (b.2.2.2.2.2.2.2.1, (b.2.2.2.2.2.2.2.2.1, (b.2.2.2.2.2.2.2.2.2.1, b.2.2.2.2.2.2.2.2.2.2))))))))))).bind fun r2 =>
 bif (!decide (r2.2 = 0)) then (
 some (([] : List Int), r2.2))
 else (
 (F47029 (r2.1, ())).bind fun r3 =>
 bif decide (r3 = (-1)) then (
 (F27 r2.1).bind fun r4 =>
 some (r4.1, r4.2))
 else (
 lfp (fun (rec5 : (Int × Int × List (Int × List Int)) → Option (List Int × Int)) (x5 : Int × Int × List (Int × List Int)) =>
  bif decide (x5.2.1 < (x5.2.2.length : Int)) then (
  bif inb x5.2.1 x5.2.2.length then
  (F29 ((rd (.pair (.int .u64) (.slice 5 (.int .u8))) x5.2.2 x5.2.1).1, (rd (.pair (.int .u64) (.slice 5 (.int .u8))) x5.2.2 x5.2.1).2)).bind fun r6 =>
  bif (!r6) then (
  bif inb x5.1 x5.2.2.length then
  rec5 ((IntKind.wrap .i64 (x5.1 + 1)), (IntKind.wrap .i64 (x5.2.1 + 1)), (x5.2.2.set x5.1.toNat ((rd (.pair (.int .u64) (.slice 5 (.int .u8))) x5.2.2 x5.2.1).1, (rd (.pair (.int .u64) (.slice 5 (.int .u8))) x5.2.2 x5.2.1).2)))
  else none)
  else (
  rec5 (x5.1, (IntKind.wrap .i64 (x5.2.1 + 1)), x5.2.2))
  else none)
  else (
  bif inb x5.1 (x5.2.2.length + 1) then
  bif decide (x5.1.toNat + (x5.2.2.length - x5.1.toNat) ≤ x5.2.2.length) then
  bif inb x5.1 ((x5.2.2.take x5.1.toNat ++ (List.replicate (x5.2.2.length - x5.1.toNat) (0, []) : List (Int × List Int)) ++ x5.2.2.drop (x5.1.toNat + (x5.2.2.length - x5.1.toNat))).length + 1) then
  (F27 ((x5.2.2.take x5.1.toNat ++ (List.replicate (x5.2.2.length - x5.1.toNat) (0, []) : List (Int × List Int)) ++ x5.2.2.drop (x5.1.toNat + (x5.2.2.length - x5.1.toNat))).take x5.1.toNat)).bind fun r7 =>
  some (r7.1, r7.2)
  else none
  else none
  else none)) (r3, (IntKind.wrap .i64 (r3 + 1)), r2.1))))
theorem ev12 (b : (Int × (Int × (Int × (Int × (List (Int × (Int × Int)) × (Int × (Int × (Int × (Int × (List (Int × Int) × List (Int × (Int × Int))))))))))))) : evF C28 H12 Tryd.f12 (encs [.aggA (.pair (.int .u64) (.pair (.int .i64) (.pair (.int .u64) (.pair (.int .u64) (.pair (.slice 48 (.pair (.int .i64) (.pair (.int .u64) (.int .u64)))) (.pair (.int .i64) (.pair (.int .u64) (.pair (.int .u64) (.pair (.int .u64) (.pair (.slice 57 (.pair (.int .u64) (.int .u64))) (.slice 48 (.pair (.int .i64) (.pair (.int .u64) (.int .u64))))))))))))))] b) (RT.dec (.tup [.leaf (.fresh 5 (.int .u8)), .leaf (.int .i64)])) = F12 b := by kernel_rfl
noncomputable def C12 : Ctx := Ctx.addA C28 12 [.aggA (.pair (.int .u64) (.pair (.int .i64) (.pair (.int .u64) (.pair (.int .u64) (.pair (.slice 48 (.pair (.int .i64) (.pair (.int .u64) (.int .u64)))) (.pair (.int .i64) (.pair (.int .u64) (.pair (.int .u64) (.pair (.int .u64) (.pair (.slice 57 (.pair (.int .u64) (.int .u64))) (.slice 48 (.pair (.int .i64) (.pair (.int .u64) (.int .u64))))))))))))))] (.tup [.leaf (.fresh 5 (.int .u8)), .leaf (.int .i64)]) F12
theorem s12 : C12.Sound := Ctx.Sound.addA (C := C28) mixed s28 Tryd.func12 ev12
/-! damson/damsonlaw19.live -/
def H7 : Nat → Head := fun _ => ⟨[], []⟩
noncomputable def F7 (b : Unit) : Option Bool :=
 (F12 (5, (7, (0, (0, ([], (0, (0, (0, (0, ([], []))))))))))).bind fun r1 =>
 bif (decide (r1.2 = 0) == true) then (
 some (decide (r1.1 = ([2, 1, 7]))))
 else (
 some false)
theorem ev7 (b : Unit) : evF C12 H7 Tryd.f7 (encs [] b) (RT.dec (.one (.leaf (.bool)))) = F7 b := by kernel_rfl
noncomputable def C7 : Ctx := Ctx.add C12 7 [] (.one (.leaf (.bool))) F7
theorem s7 : C7.Sound := Ctx.Sound.add (C := C12) mixed s12 Tryd.func7 ev7
/-! damson/damsonref19.Few -/
def H8 : Nat → Head := fun _ => ⟨[], []⟩
noncomputable def F8 (b : (Int × (Int × (Int × (Int × (List (Int × (Int × Int)) × (Int × (Int × (Int × (Int × (List (Int × Int) × List (Int × (Int × Int))))))))))))) : Option Bool :=
 some (bif (bif decide ((b.2.2.2.2.1.length : Int) ≤ 20) then decide ((b.2.2.2.2.2.2.2.2.2.1.length : Int) ≤ 20) else false) then decide ((b.2.2.2.2.2.2.2.2.2.2.length : Int) ≤ 20) else false)
theorem ev8 (b : (Int × (Int × (Int × (Int × (List (Int × (Int × Int)) × (Int × (Int × (Int × (Int × (List (Int × Int) × List (Int × (Int × Int))))))))))))) : evF C7 H8 Tryd.f8 (encs [.agg (.pair (.int .u64) (.pair (.int .i64) (.pair (.int .u64) (.pair (.int .u64) (.pair (.slice 48 (.pair (.int .i64) (.pair (.int .u64) (.int .u64)))) (.pair (.int .i64) (.pair (.int .u64) (.pair (.int .u64) (.pair (.int .u64) (.pair (.slice 57 (.pair (.int .u64) (.int .u64))) (.slice 48 (.pair (.int .i64) (.pair (.int .u64) (.int .u64))))))))))))))] b) (RT.dec (.one (.leaf (.bool)))) = F8 b := by kernel_rfl
noncomputable def C8 : Ctx := Ctx.add C7 8 [.agg (.pair (.int .u64) (.pair (.int .i64) (.pair (.int .u64) (.pair (.int .u64) (.pair (.slice 48 (.pair (.int .i64) (.pair (.int .u64) (.int .u64)))) (.pair (.int .i64) (.pair (.int .u64) (.pair (.int .u64) (.pair (.int .u64) (.pair (.slice 57 (.pair (.int .u64) (.int .u64))) (.slice 48 (.pair (.int .i64) (.pair (.int .u64) (.int .u64))))))))))))))] (.one (.leaf (.bool))) F8
theorem s8 : C8.Sound := Ctx.Sound.add (C := C7) mixed s7 Tryd.func8 ev8
/-! damson/request.Amount -/
def H9 : Nat → Head
  | 1000000 => ⟨[], [1]⟩
  | _ => ⟨[], []⟩
noncomputable def F9 (b : (Int × (Int × (Int × (Int × (List (Int × (Int × Int)) × (Int × (Int × (Int × (Int × (List (Int × Int) × List (Int × (Int × Int))))))))))))) : Option (Int × Int) :=
 (F10 (b.1, (b.2.1, (b.2.2.1, (b.2.2.2.1, (b.2.2.2.2.1, (b.2.2.2.2.2.1, (b.2.2.2.2.2.2.1, (b.2.2.2.2.2.2.2.1, (b.2.2.2.2.2.2.2.2.1, (b.2.2.2.2.2.2.2.2.2.1, b.2.2.2.2.2.2.2.2.2.2))))))))))).bind fun r1 =>
 bif (!decide (r1 = 0)) then (
 some (0, r1))
 else (
 bif decide (b.2.1 = 1) then (
 some (b.2.2.2.2.2.2.2.1, 0))
 else (
 bif decide (b.2.1 = 2) then (
 (F11 b.2.2.2.2.2.2.2.2.2.1).bind fun r2 =>
 some (r2.1, r2.2))
 else (
 some (0, 0))))
theorem ev9 (b : (Int × (Int × (Int × (Int × (List (Int × (Int × Int)) × (Int × (Int × (Int × (Int × (List (Int × Int) × List (Int × (Int × Int))))))))))))) : evF C8 H9 Tryd.f9 (encs [.agg (.pair (.int .u64) (.pair (.int .i64) (.pair (.int .u64) (.pair (.int .u64) (.pair (.slice 48 (.pair (.int .i64) (.pair (.int .u64) (.int .u64)))) (.pair (.int .i64) (.pair (.int .u64) (.pair (.int .u64) (.pair (.int .u64) (.pair (.slice 57 (.pair (.int .u64) (.int .u64))) (.slice 48 (.pair (.int .i64) (.pair (.int .u64) (.int .u64))))))))))))))] b) (RT.dec (.tup [.leaf (.int .u64), .leaf (.int .i64)])) = F9 b := by kernel_rfl
noncomputable def C9 : Ctx := Ctx.add C8 9 [.agg (.pair (.int .u64) (.pair (.int .i64) (.pair (.int .u64) (.pair (.int .u64) (.pair (.slice 48 (.pair (.int .i64) (.pair (.int .u64) (.int .u64)))) (.pair (.int .i64) (.pair (.int .u64) (.pair (.int .u64) (.pair (.int .u64) (.pair (.slice 57 (.pair (.int .u64) (.int .u64))) (.slice 48 (.pair (.int .i64) (.pair (.int .u64) (.int .u64))))))))))))))] (.tup [.leaf (.int .u64), .leaf (.int .i64)]) F9
theorem s9 : C9.Sound := Ctx.Sound.add (C := C8) mixed s8 Tryd.func9 ev9
/-! damson/damsonlaw19.RequestAmount -/
def H3 : Nat → Head := fun _ => ⟨[], []⟩
noncomputable def F3 (b : (Int × (Int × (Int × (Int × (List (Int × (Int × Int)) × (Int × (Int × (Int × (Int × (List (Int × Int) × List (Int × (Int × Int))))))))))))) : Option Bool :=
 (F7 ()).bind fun r1 =>
 bif (!r1) then (
 some false)
 else (
 (F8 (b.1, (b.2.1, (b.2.2.1, (b.2.2.2.1, (b.2.2.2.2.1, (b.2.2.2.2.2.1, (b.2.2.2.2.2.2.1, (b.2.2.2.2.2.2.2.1, (b.2.2.2.2.2.2.2.2.1, (b.2.2.2.2.2.2.2.2.2.1, b.2.2.2.2.2.2.2.2.2.2))))))))))).bind fun r2 =>
 bif (!r2) then (
 some true)
 else (
 (F9 (b.1, (b.2.1, (b.2.2.1, (b.2.2.2.1, (b.2.2.2.2.1, (b.2.2.2.2.2.1, (b.2.2.2.2.2.2.1, (b.2.2.2.2.2.2.2.1, (b.2.2.2.2.2.2.2.2.1, (b.2.2.2.2.2.2.2.2.2.1, b.2.2.2.2.2.2.2.2.2.2))))))))))).bind fun r3 =>
 bif (!decide (r3.2 = 0)) then (
 bif (decide (r3.1 = 0) == true) then (
 (F10 (b.1, (b.2.1, (b.2.2.1, (b.2.2.2.1, (b.2.2.2.2.1, (b.2.2.2.2.2.1, (b.2.2.2.2.2.2.1, (b.2.2.2.2.2.2.2.1, (b.2.2.2.2.2.2.2.2.1, (b.2.2.2.2.2.2.2.2.2.1, b.2.2.2.2.2.2.2.2.2.2))))))))))).bind fun r4 =>
 some (decide (r4 = r3.2)))
 else (
 some false))
 else (
 bif decide (b.2.1 = 1) then (
 some (bif (bif decide (r3.1 = b.2.2.2.2.2.2.2.1) then decide (0 < r3.1) else false) then decide (r3.1 ≤ 4611686018427387904) else false))
 else (
 bif decide (b.2.1 = 2) then (
 (F11 b.2.2.2.2.2.2.2.2.2.1).bind fun r5 =>
 some (bif (bif decide (r5.2 = 0) then decide (r3.1 = r5.1) else false) then decide (0 < r3.1) else false))
 else (
 some (decide (r3.1 = 0)))))))
theorem ev3 (b : (Int × (Int × (Int × (Int × (List (Int × (Int × Int)) × (Int × (Int × (Int × (Int × (List (Int × Int) × List (Int × (Int × Int))))))))))))) : evF C9 H3 Tryd.f3 (encs [.agg (.pair (.int .u64) (.pair (.int .i64) (.pair (.int .u64) (.pair (.int .u64) (.pair (.slice 48 (.pair (.int .i64) (.pair (.int .u64) (.int .u64)))) (.pair (.int .i64) (.pair (.int .u64) (.pair (.int .u64) (.pair (.int .u64) (.pair (.slice 57 (.pair (.int .u64) (.int .u64))) (.slice 48 (.pair (.int .i64) (.pair (.int .u64) (.int .u64))))))))))))))] b) (RT.dec (.one (.leaf (.bool)))) = F3 b := by kernel_rfl
noncomputable def C3 : Ctx := Ctx.add C9 3 [.agg (.pair (.int .u64) (.pair (.int .i64) (.pair (.int .u64) (.pair (.int .u64) (.pair (.slice 48 (.pair (.int .i64) (.pair (.int .u64) (.int .u64)))) (.pair (.int .i64) (.pair (.int .u64) (.pair (.int .u64) (.pair (.int .u64) (.pair (.slice 57 (.pair (.int .u64) (.int .u64))) (.slice 48 (.pair (.int .i64) (.pair (.int .u64) (.int .u64))))))))))))))] (.one (.leaf (.bool))) F3
theorem s3 : C3.Sound := Ctx.Sound.add (C := C9) mixed s9 Tryd.func3 ev3
/-! damson/damsonref01.SameBytes -/
def H13 : Nat → Head := fun _ => ⟨[], []⟩
noncomputable def F13 (b : List Int × List Int) : Option Bool :=
 some (decide (b.1 = b.2))
theorem ev13 (b : List Int × List Int) : evF C3 H13 Tryd.f13 (encs [.one (.slice 5 (.int .u8)), .one (.slice 5 (.int .u8))] b) (RT.dec (.one (.leaf (.bool)))) = F13 b := by kernel_rfl
noncomputable def C13 : Ctx := Ctx.add C3 13 [.one (.slice 5 (.int .u8)), .one (.slice 5 (.int .u8))] (.one (.leaf (.bool))) F13
theorem s13 : C13.Sound := Ctx.Sound.add (C := C3) mixed s3 Tryd.func13 ev13
/-! slices.Equal[[]damson/api.Caveat,damson/api.Caveat] -/
def H32 : Nat → Head
  | 4 => ⟨[.data 4 .bool, .data 13 (.int .i64)], []⟩
  | 5000006 => ⟨[], [0, 0, 0, 0, 3, 3, 4, 4, 0, 0, 0, 0, 48, 48, 64, 64, 136, 136]⟩
  | _ => ⟨[], []⟩
noncomputable def F32 (b : List (Int × (Int × Int)) × List (Int × (Int × Int))) : Option Bool :=
 bif (!decide ((b.1.length : Int) = (b.2.length : Int))) then (
 some false)
 else (
 lfp (fun (rec1 : (Bool × Int) → Option Bool) (x1 : Bool × Int) =>
  bif decide (x1.2 < (b.1.length : Int)) then (
  bif inb x1.2 b.1.length then
  bif inb x1.2 b.2.length then
  bif (!(decide ((rd (.pair (.int .i64) (.pair (.int .u64) (.int .u64))) b.1 x1.2).1 = (rd (.pair (.int .i64) (.pair (.int .u64) (.int .u64))) b.2 x1.2).1) && (decide (((rd (.pair (.int .i64) (.pair (.int .u64) (.int .u64))) b.1 x1.2).2).1 = ((rd (.pair (.int .i64) (.pair (.int .u64) (.int .u64))) b.2 x1.2).2).1) && decide (((rd (.pair (.int .i64) (.pair (.int .u64) (.int .u64))) b.1 x1.2).2).2 = ((rd (.pair (.int .i64) (.pair (.int .u64) (.int .u64))) b.2 x1.2).2).2)))) then (
  some false)
  else (
  rec1 (x1.1, (IntKind.wrap .i64 (x1.2 + 1))))
  else none
  else none)
  else (
  some true)) (false, 0))
theorem ev32 (b : List (Int × (Int × Int)) × List (Int × (Int × Int))) : evF C13 H32 Tryd.f32 (encs [.one (.slice 48 (.pair (.int .i64) (.pair (.int .u64) (.int .u64)))), .one (.slice 48 (.pair (.int .i64) (.pair (.int .u64) (.int .u64))))] b) (RT.dec (.one (.leaf (.bool)))) = F32 b := by kernel_rfl
noncomputable def C32 : Ctx := Ctx.add C13 32 [.one (.slice 48 (.pair (.int .i64) (.pair (.int .u64) (.int .u64)))), .one (.slice 48 (.pair (.int .i64) (.pair (.int .u64) (.int .u64))))] (.one (.leaf (.bool))) F32
theorem s32 : C32.Sound := Ctx.Sound.add (C := C13) mixed s13 Tryd.func32 ev32
/-! damson/token.Same -/
def H30 : Nat → Head := fun _ => ⟨[], []⟩
noncomputable def F30 (b : (Int × (List (Int × (Int × Int)) × Int)) × (Int × (List (Int × (Int × Int)) × Int))) : Option Bool :=
 bif ((bif decide (b.1.1 = b.2.1) then decide (b.1.2.2 = b.2.2.2) else false) == true) then (
 (F32 (b.1.2.1, b.2.2.1)).bind fun r1 =>
 some r1)
 else (
 some false)
theorem ev30 (b : (Int × (List (Int × (Int × Int)) × Int)) × (Int × (List (Int × (Int × Int)) × Int))) : evF C32 H30 Tryd.f30 (encs [.agg (.pair (.int .u64) (.pair (.slice 48 (.pair (.int .i64) (.pair (.int .u64) (.int .u64)))) (.int .i64))), .agg (.pair (.int .u64) (.pair (.slice 48 (.pair (.int .i64) (.pair (.int .u64) (.int .u64)))) (.int .i64)))] b) (RT.dec (.one (.leaf (.bool)))) = F30 b := by kernel_rfl
noncomputable def C30 : Ctx := Ctx.add C32 30 [.agg (.pair (.int .u64) (.pair (.slice 48 (.pair (.int .i64) (.pair (.int .u64) (.int .u64)))) (.int .i64))), .agg (.pair (.int .u64) (.pair (.slice 48 (.pair (.int .i64) (.pair (.int .u64) (.int .u64)))) (.int .i64)))] (.one (.leaf (.bool))) F30
theorem s30 : C30.Sound := Ctx.Sound.add (C := C32) mixed s32 Tryd.func30 ev30
/-! slices.Equal[[]damson/api.Item,damson/api.Item] -/
def H31 : Nat → Head
  | 4 => ⟨[.data 4 .bool, .data 13 (.int .i64)], []⟩
  | 5000006 => ⟨[], [0, 0, 0, 0, 3, 3, 4, 4, 0, 0, 0, 0, 48, 48, 64, 64, 136, 136]⟩
  | _ => ⟨[], []⟩
noncomputable def F31 (b : List (Int × Int) × List (Int × Int)) : Option Bool :=
 bif (!decide ((b.1.length : Int) = (b.2.length : Int))) then (
 some false)
 else (
 lfp (fun (rec1 : (Bool × Int) → Option Bool) (x1 : Bool × Int) =>
  bif decide (x1.2 < (b.1.length : Int)) then (
  bif inb x1.2 b.1.length then
  bif inb x1.2 b.2.length then
  bif (!(decide ((rd (.pair (.int .u64) (.int .u64)) b.1 x1.2).1 = (rd (.pair (.int .u64) (.int .u64)) b.2 x1.2).1) && decide ((rd (.pair (.int .u64) (.int .u64)) b.1 x1.2).2 = (rd (.pair (.int .u64) (.int .u64)) b.2 x1.2).2))) then (
  some false)
  else (
  rec1 (x1.1, (IntKind.wrap .i64 (x1.2 + 1))))
  else none
  else none)
  else (
  some true)) (false, 0))
theorem ev31 (b : List (Int × Int) × List (Int × Int)) : evF C30 H31 Tryd.f31 (encs [.one (.slice 57 (.pair (.int .u64) (.int .u64))), .one (.slice 57 (.pair (.int .u64) (.int .u64)))] b) (RT.dec (.one (.leaf (.bool)))) = F31 b := by kernel_rfl
noncomputable def C31 : Ctx := Ctx.add C30 31 [.one (.slice 57 (.pair (.int .u64) (.int .u64))), .one (.slice 57 (.pair (.int .u64) (.int .u64)))] (.one (.leaf (.bool))) F31
theorem s31 : C31.Sound := Ctx.Sound.add (C := C30) mixed s30 Tryd.func31 ev31
/-! damson/request.Same -/
def H14 : Nat → Head
  | 1000000 => ⟨[], [2, 3]⟩
  | _ => ⟨[], []⟩
noncomputable def F14 (b : (Int × (Int × (Int × (Int × (List (Int × (Int × Int)) × (Int × (Int × (Int × (Int × (List (Int × Int) × List (Int × (Int × Int)))))))))))) × (Int × (Int × (Int × (Int × (List (Int × (Int × Int)) × (Int × (Int × (Int × (Int × (List (Int × Int) × List (Int × (Int × Int))))))))))))) : Option Bool :=
 bif ((bif (bif decide (b.1.1 = b.2.1) then decide (b.1.2.1 = b.2.2.1) else false) then decide (b.1.2.2.1 = b.2.2.2.1) else false) == true) then (
 (F30 ((b.1.2.2.2.1, (b.1.2.2.2.2.1, b.1.2.2.2.2.2.1)), (b.2.2.2.2.1, (b.2.2.2.2.2.1, b.2.2.2.2.2.2.1)))).bind fun r1 =>
 bif ((bif (bif (bif r1 then decide (b.1.2.2.2.2.2.2.1 = b.2.2.2.2.2.2.2.1) else false) then decide (b.1.2.2.2.2.2.2.2.1 = b.2.2.2.2.2.2.2.2.1) else false) then decide (b.1.2.2.2.2.2.2.2.2.1 = b.2.2.2.2.2.2.2.2.2.1) else false) == true) then (
 (F31 (b.1.2.2.2.2.2.2.2.2.2.1, b.2.2.2.2.2.2.2.2.2.2.1)).bind fun r2 =>
 bif (r2 == true) then (
 (F32 (b.1.2.2.2.2.2.2.2.2.2.2, b.2.2.2.2.2.2.2.2.2.2.2)).bind fun r3 =>
 some r3)
 else (
 some false))
 else (
 some false))
 else (
 some false)
theorem ev14 (b : (Int × (Int × (Int × (Int × (List (Int × (Int × Int)) × (Int × (Int × (Int × (Int × (List (Int × Int) × List (Int × (Int × Int)))))))))))) × (Int × (Int × (Int × (Int × (List (Int × (Int × Int)) × (Int × (Int × (Int × (Int × (List (Int × Int) × List (Int × (Int × Int))))))))))))) : evF C31 H14 Tryd.f14 (encs [.agg (.pair (.int .u64) (.pair (.int .i64) (.pair (.int .u64) (.pair (.int .u64) (.pair (.slice 48 (.pair (.int .i64) (.pair (.int .u64) (.int .u64)))) (.pair (.int .i64) (.pair (.int .u64) (.pair (.int .u64) (.pair (.int .u64) (.pair (.slice 57 (.pair (.int .u64) (.int .u64))) (.slice 48 (.pair (.int .i64) (.pair (.int .u64) (.int .u64)))))))))))))), .agg (.pair (.int .u64) (.pair (.int .i64) (.pair (.int .u64) (.pair (.int .u64) (.pair (.slice 48 (.pair (.int .i64) (.pair (.int .u64) (.int .u64)))) (.pair (.int .i64) (.pair (.int .u64) (.pair (.int .u64) (.pair (.int .u64) (.pair (.slice 57 (.pair (.int .u64) (.int .u64))) (.slice 48 (.pair (.int .i64) (.pair (.int .u64) (.int .u64))))))))))))))] b) (RT.dec (.one (.leaf (.bool)))) = F14 b := by kernel_rfl
noncomputable def C14 : Ctx := Ctx.add C31 14 [.agg (.pair (.int .u64) (.pair (.int .i64) (.pair (.int .u64) (.pair (.int .u64) (.pair (.slice 48 (.pair (.int .i64) (.pair (.int .u64) (.int .u64)))) (.pair (.int .i64) (.pair (.int .u64) (.pair (.int .u64) (.pair (.int .u64) (.pair (.slice 57 (.pair (.int .u64) (.int .u64))) (.slice 48 (.pair (.int .i64) (.pair (.int .u64) (.int .u64)))))))))))))), .agg (.pair (.int .u64) (.pair (.int .i64) (.pair (.int .u64) (.pair (.int .u64) (.pair (.slice 48 (.pair (.int .i64) (.pair (.int .u64) (.int .u64)))) (.pair (.int .i64) (.pair (.int .u64) (.pair (.int .u64) (.pair (.int .u64) (.pair (.slice 57 (.pair (.int .u64) (.int .u64))) (.slice 48 (.pair (.int .i64) (.pair (.int .u64) (.int .u64))))))))))))))] (.one (.leaf (.bool))) F14
theorem s14 : C14.Sound := Ctx.Sound.add (C := C31) mixed s31 Tryd.func14 ev14
/-! damson/damsonlaw19.RequestPrint -/
def H4 : Nat → Head
  | 5000011 => ⟨[], [0, 0, 0, 0, 3, 3, 0, 0, 0, 0, 28, 24, 36, 36, 127, 64]⟩
  | _ => ⟨[], []⟩
noncomputable def F4 (b : (Int × (Int × (Int × (Int × (List (Int × (Int × Int)) × (Int × (Int × (Int × (Int × (List (Int × Int) × List (Int × (Int × Int)))))))))))) × (Int × (Int × (Int × (Int × (List (Int × (Int × Int)) × (Int × (Int × (Int × (Int × (List (Int × Int) × List (Int × (Int × Int))))))))))))) : Option Bool :=
 (F7 ()).bind fun r1 =>
 bif (!r1) then (
 some false)
 else (
 (F8 (b.1.1, (b.1.2.1, (b.1.2.2.1, (b.1.2.2.2.1, (b.1.2.2.2.2.1, (b.1.2.2.2.2.2.1, (b.1.2.2.2.2.2.2.1, (b.1.2.2.2.2.2.2.2.1, (b.1.2.2.2.2.2.2.2.2.1, (b.1.2.2.2.2.2.2.2.2.2.1, b.1.2.2.2.2.2.2.2.2.2.2))))))))))).bind fun r2 =>
 bif ((!r2) == false) then (
 (F8 (b.2.1, (b.2.2.1, (b.2.2.2.1, (b.2.2.2.2.1, (b.2.2.2.2.2.1, (b.2.2.2.2.2.2.1, (b.2.2.2.2.2.2.2.1, (b.2.2.2.2.2.2.2.2.1, (b.2.2.2.2.2.2.2.2.2.1, (b.2.2.2.2.2.2.2.2.2.2.1, b.2.2.2.2.2.2.2.2.2.2.2))))))))))).bind fun r3 =>
 bif (!r3) then (
 some true)
 else (
 (F12 (b.1.1, (b.1.2.1, (b.1.2.2.1, (b.1.2.2.2.1, (b.1.2.2.2.2.1, (b.1.2.2.2.2.2.1, (b.1.2.2.2.2.2.2.1, (b.1.2.2.2.2.2.2.2.1, (b.1.2.2.2.2.2.2.2.2.1, (b.1.2.2.2.2.2.2.2.2.2.1, b.1.2.2.2.2.2.2.2.2.2.2))))))))))).bind fun r4 =>
 (F12 (b.2.1, (b.2.2.1, (b.2.2.2.1, (b.2.2.2.2.1, (b.2.2.2.2.2.1, (b.2.2.2.2.2.2.1, (b.2.2.2.2.2.2.2.1, (b.2.2.2.2.2.2.2.2.1, (b.2.2.2.2.2.2.2.2.2.1, (b.2.2.2.2.2.2.2.2.2.2.1, b.2.2.2.2.2.2.2.2.2.2.2))))))))))).bind fun r5 =>
 bif (bif (!decide (r4.2 = 0)) then true else (!decide (r5.2 = 0))) then (
 some (bif (decide ((r4.1.length : Int) = 0) == (!decide (r4.2 = 0))) then (decide ((r5.1.length : Int) = 0) == (!decide (r5.2 = 0))) else false))
 else (
 (both (
 (F13 (r4.1, r5.1)).bind fun r6 =>
 (fun o => both o o) (
 (F14 ((b.1.1, (b.1.2.1, (b.1.2.2.1, (b.1.2.2.2.1, (b.1.2.2.2.2.1, (b.1.2.2.2.2.2.1, (b.1.2.2.2.2.2.2.1, (b.1.2.2.2.2.2.2.2.1, (b.1.2.2.2.2.2.2.2.2.1, (b.1.2.2.2.2.2.2.2.2.2.1, b.1.2.2.2.2.2.2.2.2.2.2)))))))))), (b.1.1, (b.2.2.1, (b.2.2.2.1, (b.1.2.2.2.1, (b.1.2.2.2.2.1, (b.1.2.2.2.2.2.1, (b.2.2.2.2.2.2.2.1, (b.2.2.2.2.2.2.2.2.1, (b.2.2.2.2.2.2.2.2.2.1, (b.2.2.2.2.2.2.2.2.2.2.1, b.2.2.2.2.2.2.2.2.2.2.2)))))))))))).bind fun r7 =>
 some (r6 == r7))) (both (
 (fun o => both o o) (
 (F13 (r4.1, r5.1)).bind fun r6 =>
 (F14 ((b.1.1, (b.1.2.1, (b.1.2.2.1, (b.1.2.2.2.1, (b.1.2.2.2.2.1, (b.1.2.2.2.2.2.1, (b.1.2.2.2.2.2.2.1, (b.1.2.2.2.2.2.2.2.1, (b.1.2.2.2.2.2.2.2.2.1, (b.1.2.2.2.2.2.2.2.2.2.1, b.1.2.2.2.2.2.2.2.2.2.2)))))))))), (b.1.1, (b.2.2.1, (b.2.2.2.1, (b.1.2.2.2.1, (b.1.2.2.2.2.1, (b.1.2.2.2.2.2.1, (b.2.2.2.2.2.2.2.1, (b.2.2.2.2.2.2.2.2.1, (b.2.2.2.2.2.2.2.2.2.1, (b.2.2.2.2.2.2.2.2.2.2.1, b.2.2.2.2.2.2.2.2.2.2.2)))))))))))).bind fun r7 =>
 some (r6 == r7))) (
 (fun o => both o o) (
 (F13 (r4.1, r5.1)).bind fun r6 =>
 (F14 ((b.1.1, (b.1.2.1, (b.1.2.2.1, (b.1.2.2.2.1, (b.1.2.2.2.2.1, (b.1.2.2.2.2.2.1, (b.1.2.2.2.2.2.2.1, (b.1.2.2.2.2.2.2.2.1, (b.1.2.2.2.2.2.2.2.2.1, (b.1.2.2.2.2.2.2.2.2.2.1, b.1.2.2.2.2.2.2.2.2.2.2)))))))))), (b.1.1, (b.2.2.1, (b.2.2.2.1, (b.1.2.2.2.1, (b.1.2.2.2.2.1, (b.1.2.2.2.2.2.1, (b.2.2.2.2.2.2.2.1, (b.2.2.2.2.2.2.2.2.1, (b.2.2.2.2.2.2.2.2.2.1, (b.2.2.2.2.2.2.2.2.2.2.1, b.2.2.2.2.2.2.2.2.2.2.2)))))))))))).bind fun r7 =>
 some (r6 == r7))))))))
 else (
 some true))
theorem ev4 (b : (Int × (Int × (Int × (Int × (List (Int × (Int × Int)) × (Int × (Int × (Int × (Int × (List (Int × Int) × List (Int × (Int × Int)))))))))))) × (Int × (Int × (Int × (Int × (List (Int × (Int × Int)) × (Int × (Int × (Int × (Int × (List (Int × Int) × List (Int × (Int × Int))))))))))))) : evF C14 H4 Tryd.f4 (encs [.agg (.pair (.int .u64) (.pair (.int .i64) (.pair (.int .u64) (.pair (.int .u64) (.pair (.slice 48 (.pair (.int .i64) (.pair (.int .u64) (.int .u64)))) (.pair (.int .i64) (.pair (.int .u64) (.pair (.int .u64) (.pair (.int .u64) (.pair (.slice 57 (.pair (.int .u64) (.int .u64))) (.slice 48 (.pair (.int .i64) (.pair (.int .u64) (.int .u64)))))))))))))), .agg (.pair (.int .u64) (.pair (.int .i64) (.pair (.int .u64) (.pair (.int .u64) (.pair (.slice 48 (.pair (.int .i64) (.pair (.int .u64) (.int .u64)))) (.pair (.int .i64) (.pair (.int .u64) (.pair (.int .u64) (.pair (.int .u64) (.pair (.slice 57 (.pair (.int .u64) (.int .u64))) (.slice 48 (.pair (.int .i64) (.pair (.int .u64) (.int .u64))))))))))))))] b) (RT.dec (.one (.leaf (.bool)))) = F4 b := by kernel_rfl
noncomputable def C4 : Ctx := Ctx.add C14 4 [.agg (.pair (.int .u64) (.pair (.int .i64) (.pair (.int .u64) (.pair (.int .u64) (.pair (.slice 48 (.pair (.int .i64) (.pair (.int .u64) (.int .u64)))) (.pair (.int .i64) (.pair (.int .u64) (.pair (.int .u64) (.pair (.int .u64) (.pair (.slice 57 (.pair (.int .u64) (.int .u64))) (.slice 48 (.pair (.int .i64) (.pair (.int .u64) (.int .u64)))))))))))))), .agg (.pair (.int .u64) (.pair (.int .i64) (.pair (.int .u64) (.pair (.int .u64) (.pair (.slice 48 (.pair (.int .i64) (.pair (.int .u64) (.int .u64)))) (.pair (.int .i64) (.pair (.int .u64) (.pair (.int .u64) (.pair (.int .u64) (.pair (.slice 57 (.pair (.int .u64) (.int .u64))) (.slice 48 (.pair (.int .i64) (.pair (.int .u64) (.int .u64))))))))))))))] (.one (.leaf (.bool))) F4
theorem s4 : C4.Sound := Ctx.Sound.add (C := C14) mixed s14 Tryd.func4 ev4
/-! damson/request.Put -/
def H16 : Nat → Head
  | 1000000 => ⟨[], [1]⟩
  | _ => ⟨[], []⟩
noncomputable def F16 (b : (Int × (Int × (Int × (Int × (List (Int × (Int × Int)) × (Int × (Int × (Int × (Int × (List (Int × Int) × List (Int × (Int × Int))))))))))))) : Option (List Int × Int) :=
 (F10 (b.1, (b.2.1, (b.2.2.1, (b.2.2.2.1, (b.2.2.2.2.1, (b.2.2.2.2.2.1, (b.2.2.2.2.2.2.1, (b.2.2.2.2.2.2.2.1, (b.2.2.2.2.2.2.2.2.1, (b.2.2.2.2.2.2.2.2.2.1, b.2.2.2.2.2.2.2.2.2.2))))))))))).bind fun r1 =>
 bif (!decide (r1 = 0)) then (
 some (([] : List Int), r1))
 else (
 (F26 (b.1, (b.2.1, (b.2.2.1, (b.2.2.2.1, (b.2.2.2.2.1, (b.2.2.2.2.2.1, (b.2.2.2.2.2.2.1, (b.2.2.2.2.2.2.2.1, (b.2.2.2.2.2.2.2.2.1, (b.2.2.2.2.2.2.2.2.2.1, b.2.2.2.2.2.2.2.2.2.2))))))))))).bind fun r2 =>
 bif (!decide (r2.2 = 0)) then (
 some (([] : List Int), r2.2))
 else (
 (F27 r2.1).bind fun r3 =>
 bif (bif (!decide (r3.2 = 0)) then true else decide (4096 < (r3.1.length : Int))) then (
 some (([] : List Int), 4))
 else (
 some (r3.1, 0))))
theorem ev16 (b : (Int × (Int × (Int × (Int × (List (Int × (Int × Int)) × (Int × (Int × (Int × (Int × (List (Int × Int) × List (Int × (Int × Int))))))))))))) : evF C4 H16 Tryd.f16 (encs [.aggA (.pair (.int .u64) (.pair (.int .i64) (.pair (.int .u64) (.pair (.int .u64) (.pair (.slice 48 (.pair (.int .i64) (.pair (.int .u64) (.int .u64)))) (.pair (.int .i64) (.pair (.int .u64) (.pair (.int .u64) (.pair (.int .u64) (.pair (.slice 57 (.pair (.int .u64) (.int .u64))) (.slice 48 (.pair (.int .i64) (.pair (.int .u64) (.int .u64))))))))))))))] b) (RT.dec (.tup [.leaf (.fresh 5 (.int .u8)), .leaf (.int .i64)])) = F16 b := by kernel_rfl
noncomputable def C16 : Ctx := Ctx.addA C4 16 [.aggA (.pair (.int .u64) (.pair (.int .i64) (.pair (.int .u64) (.pair (.int .u64) (.pair (.slice 48 (.pair (.int .i64) (.pair (.int .u64) (.int .u64)))) (.pair (.int .i64) (.pair (.int .u64) (.pair (.int .u64) (.pair (.int .u64) (.pair (.slice 57 (.pair (.int .u64) (.int .u64))) (.slice 48 (.pair (.int .i64) (.pair (.int .u64) (.int .u64))))))))))))))] (.tup [.leaf (.fresh 5 (.int .u8)), .leaf (.int .i64)]) F16
theorem s16 : C16.Sound := Ctx.Sound.addA (C := C4) mixed s4 Tryd.func16 ev16
/-! damson/bigsize.Get -/
def H60 : Nat → Head
  | 7 => ⟨[.data 2 (.int .u64), .data 35 (.int .i64)], []⟩
  | 5000011 => ⟨[], [0, 0, 1, 1, 0, 0, 4, 4, 8, 8, 18, 18]⟩
  | _ => ⟨[], []⟩
noncomputable def F60 (b : List Int) : Option (Int × Int × Int) :=
 bif (decide ((b.length : Int) = 0) == false) then (
 bif inb 0 b.length then
 (F57 (rd (.int .u8) b 0)).bind fun r1 =>
 bif decide ((b.length : Int) ≤ r1) then (
 some (0, 0, 3))
 else (
 bif inb 0 b.length then
 (F57 (rd (.int .u8) b 0)).bind fun r2 =>
 bif decide (r2 = 0) then (
 bif inb 0 b.length then
 some ((IntKind.wrap .u64 (rd (.int .u8) b 0)), 1, 0)
 else none)
 else (
 bif (inb (IntKind.wrap .i64 (r2 + 1)) (b.length + 1) && (decide (0 ≤ 1) && decide (1 ≤ (IntKind.wrap .i64 (r2 + 1))))) then
 lfp (fun (rec3 : (Int × Int) → Option (Int × Int × Int)) (x3 : Int × Int) =>
  bif decide (x3.2 < (((b.take ((IntKind.wrap .i64 (r2 + 1)).toNat)).drop ((1 : Int).toNat)).length : Int)) then (
  bif inb x3.2 ((b.take ((IntKind.wrap .i64 (r2 + 1)).toNat)).drop ((1 : Int).toNat)).length then
  rec3 ((bitOp .or .u64 (IntKind.wrap .u64 (x3.1 * 2 ^ (min (8 : Int).toNat 64))) (IntKind.wrap .u64 (rd (.int .u8) ((b.take ((IntKind.wrap .i64 (r2 + 1)).toNat)).drop ((1 : Int).toNat)) x3.2))), (IntKind.wrap .i64 (x3.2 + 1)))
  else none)
  else (
  bif inb 0 b.length then
  (F56 x3.1).bind fun r4 =>
  bif (!decide (r4 = (rd (.int .u8) b 0))) then (
  some (0, 0, 2))
  else (
  some (x3.1, (IntKind.wrap .i64 (r2 + 1)), 0))
  else none)) (0, 0)
 else none)
 else none)
 else none)
 else (
 some (0, 0, 3))
theorem ev60 (b : List Int) : evF C16 H60 Tryd.f60 (encs [.one (.slice 5 (.int .u8))] b) (RT.dec (.tup [.leaf (.int .u64), .leaf (.int .i64), .leaf (.int .i64)])) = F60 b := by kernel_rfl
noncomputable def C60 : Ctx := Ctx.add C16 60 [.one (.slice 5 (.int .u8))] (.tup [.leaf (.int .u64), .leaf (.int .i64), .leaf (.int .i64)]) F60
theorem s60 : C60.Sound := Ctx.Sound.add (C := C16) mixed s16 Tryd.func60 ev60
/-! slices.Clone[[]byte,byte] -/
def H51 : Nat → Head := fun _ => ⟨[], []⟩
noncomputable def F51 (b : List Int) : Option (List Int) :=
 bif b.isEmpty then (
 (both (
 some ([] : List Int)) (
 bif decide ((([] : List Int).length + b.length) * 1 ≤ LIM) then
 some (([] : List Int) ++ b)
 else none)))
 else (
 bif decide ((([] : List Int).length + b.length) * 1 ≤ LIM) then
 some (([] : List Int) ++ b)
 else none)
theorem ev51 (b : List Int) : evF C60 H51 Tryd.f51 (encs [.oneA (.slice 5 (.int .u8))] b) (RT.dec (.one (.leaf (.fresh 5 (.int .u8))))) = F51 b := by kernel_rfl
noncomputable def C51 : Ctx := Ctx.addA C60 51 [.oneA (.slice 5 (.int .u8))] (.one (.leaf (.fresh 5 (.int .u8)))) F51
theorem s51 : C51.Sound := Ctx.Sound.addA (C := C60) mixed s60 Tryd.func51 ev51
/-! (*damson/tlv.reader).wrong: carried out where it is called -/
def H48 : Nat → Head := fun _ => ⟨[], []⟩
noncomputable def C48 : Ctx := Ctx.addI C51 48 H48 9000048 Tryd.f48
theorem s48 : C48.Sound := Ctx.Sound.addI (C := C51) mixed s51 Tryd.func48
/-! (*damson/tlv.reader).number: carried out where it is called -/
def H49 : Nat → Head := fun _ => ⟨[], []⟩
noncomputable def C49 : Ctx := Ctx.addI C48 49 H49 9000049 Tryd.f49
theorem s49 : C49.Sound := Ctx.Sound.addI (C := C48) mixed s48 Tryd.func49
/-! damson/tlv.Get -/
def H33 : Nat → Head
  | 3 => ⟨[.row 2 10243 67 (.pair (.int .u64) (.slice 5 (.int .u8))), .boxA 36864 (.pair (.slice 5 (.int .u8)) (.int .i64))], []⟩
  | 5000014 => ⟨[], [0, 0, 1, 1, 2, 2, 4, 4, 0, 0, 31, 8]⟩
  | _ => ⟨[], []⟩
noncomputable def F33 (b : List Int) : Option ((List (Int × List Int)) × Int) :=
 bif (bif decide (65535 < (b.length : Int)) then true else false) then (
 lfp (fun (rec1 : (List (Int × List Int) × (List Int × Int)) → Option ((List (Int × List Int)) × Int)) (x1 : List (Int × List Int) × (List Int × Int)) =>
  bif (bif decide (x1.2.2 = 0) then decide (0 < (x1.2.1.length : Int)) else false) then (
  bif (bif decide ((x1.1.length : Int) = 64) then decide (x1.2.2 = 0) else false) then (
  bif (decide (0 < (x1.1.length : Int)) == true) then (
  bif inb (if (IntKind.wrap .i64 ((x1.1.length : Int) - 1)) < 0 then 0 else (IntKind.wrap .i64 ((x1.1.length : Int) - 1))) x1.1.length then
  (F50 (((rd (.pair (.int .u64) (.slice 5 (.int .u8))) x1.1 (if (IntKind.wrap .i64 ((x1.1.length : Int) - 1)) < 0 then 0 else (IntKind.wrap .i64 ((x1.1.length : Int) - 1)))).1, (rd (.pair (.int .u64) (.slice 5 (.int .u8))) x1.1 (if (IntKind.wrap .i64 ((x1.1.length : Int) - 1)) < 0 then 0 else (IntKind.wrap .i64 ((x1.1.length : Int) - 1)))).2), 0)).bind fun r2 =>
  bif (bif decide (0 ≤ r2) then false else false) then (
  bif (bif decide ((IntKind.wrap .u64 (x1.2.1.length : Int)) < 0) then false else false) then (
  rec1 (x1.1, (x1.2.1, 3)))
  else (
  rec1 (x1.1, (x1.2.1, 2))))
  else (
  bif (bif decide ((IntKind.wrap .u64 (x1.2.1.length : Int)) < 0) then false else false) then (
  rec1 (x1.1, (x1.2.1, 3)))
  else (
  rec1 (x1.1, (x1.2.1, 4))))
  else none)
  else (
  bif (bif decide ((IntKind.wrap .u64 (x1.2.1.length : Int)) < 0) then false else false) then (
  rec1 (x1.1, (x1.2.1, 3)))
  else (
  rec1 (x1.1, (x1.2.1, 4)))))
  else (
  bif (!decide (x1.2.2 = 0)) then (
  bif (decide (0 < (x1.1.length : Int)) == true) then (
  bif inb (if (IntKind.wrap .i64 ((x1.1.length : Int) - 1)) < 0 then 0 else (IntKind.wrap .i64 ((x1.1.length : Int) - 1))) x1.1.length then
  (F50 (((rd (.pair (.int .u64) (.slice 5 (.int .u8))) x1.1 (if (IntKind.wrap .i64 ((x1.1.length : Int) - 1)) < 0 then 0 else (IntKind.wrap .i64 ((x1.1.length : Int) - 1)))).1, (rd (.pair (.int .u64) (.slice 5 (.int .u8))) x1.1 (if (IntKind.wrap .i64 ((x1.1.length : Int) - 1)) < 0 then 0 else (IntKind.wrap .i64 ((x1.1.length : Int) - 1)))).2), 0)).bind fun r3 =>
  bif (bif decide (0 ≤ r3) then decide (x1.2.2 = 0) else false) then (
  bif (bif decide ((IntKind.wrap .u64 (x1.2.1.length : Int)) < 0) then false else false) then (
  rec1 (x1.1, (x1.2.1, 3)))
  else (
  rec1 (x1.1, (x1.2.1, 2))))
  else (
  bif (!decide (x1.2.2 = 0)) then (
  bif (bif decide ((IntKind.wrap .u64 (x1.2.1.length : Int)) < 0) then decide (x1.2.2 = 0) else false) then (
  rec1 (x1.1, (x1.2.1, 3)))
  else (
  bif decide (x1.2.2 = 0) then (
  bif inb 0 (x1.2.1.length + 1) then
  (F51 (x1.2.1.take ((0 : Int).toNat))).bind fun r4 =>
  bif decide ((x1.1.length + 1) * 32 ≤ LIM) then
  bif inb 0 (x1.2.1.length + 1) then
  rec1 ((x1.1 ++ ([(0, r4)])), (x1.2.1.drop ((0 : Int).toNat), x1.2.2))
  else none
  else none
  else none)
  else (
  rec1 (x1.1, (x1.2.1, x1.2.2)))))
  else (
  (F60 x1.2.1).bind fun r5 =>
  bif inb r5.2.1 (x1.2.1.length + 1) then
  bif (bif decide (4096 < r5.1) then decide (r5.2.2 = 0) else false) then (
  bif (bif decide ((IntKind.wrap .u64 ((x1.2.1.drop r5.2.1.toNat).length : Int)) < r5.1) then false else false) then (
  rec1 (x1.1, (x1.2.1.drop r5.2.1.toNat, 3)))
  else (
  rec1 (x1.1, (x1.2.1.drop r5.2.1.toNat, 4))))
  else (
  bif (bif decide ((IntKind.wrap .u64 ((x1.2.1.drop r5.2.1.toNat).length : Int)) < r5.1) then decide (r5.2.2 = 0) else false) then (
  rec1 (x1.1, (x1.2.1.drop r5.2.1.toNat, 3)))
  else (
  bif decide (r5.2.2 = 0) then (
  bif inb r5.1 ((x1.2.1.drop r5.2.1.toNat).length + 1) then
  (F51 ((x1.2.1.drop r5.2.1.toNat).take r5.1.toNat)).bind fun r6 =>
  bif decide ((x1.1.length + 1) * 32 ≤ LIM) then
  bif inb r5.1 ((x1.2.1.drop r5.2.1.toNat).length + 1) then
  rec1 ((x1.1 ++ ([(0, r6)])), ((x1.2.1.drop r5.2.1.toNat).drop r5.1.toNat, r5.2.2))
  else none
  else none
  else none)
  else (
  rec1 (x1.1, (x1.2.1.drop r5.2.1.toNat, r5.2.2)))))
  else none))
  else none)
  else (
  bif (!decide (x1.2.2 = 0)) then (
  bif (bif decide ((IntKind.wrap .u64 (x1.2.1.length : Int)) < 0) then decide (x1.2.2 = 0) else false) then (
  rec1 (x1.1, (x1.2.1, 3)))
  else (
  bif decide (x1.2.2 = 0) then (
  bif inb 0 (x1.2.1.length + 1) then
  (F51 (x1.2.1.take ((0 : Int).toNat))).bind fun r7 =>
  bif decide ((x1.1.length + 1) * 32 ≤ LIM) then
  bif inb 0 (x1.2.1.length + 1) then
  rec1 ((x1.1 ++ ([(0, r7)])), (x1.2.1.drop ((0 : Int).toNat), x1.2.2))
  else none
  else none
  else none)
  else (
  rec1 (x1.1, (x1.2.1, x1.2.2)))))
  else (
  (F60 x1.2.1).bind fun r8 =>
  bif inb r8.2.1 (x1.2.1.length + 1) then
  bif (bif decide (4096 < r8.1) then decide (r8.2.2 = 0) else false) then (
  bif (bif decide ((IntKind.wrap .u64 ((x1.2.1.drop r8.2.1.toNat).length : Int)) < r8.1) then false else false) then (
  rec1 (x1.1, (x1.2.1.drop r8.2.1.toNat, 3)))
  else (
  rec1 (x1.1, (x1.2.1.drop r8.2.1.toNat, 4))))
  else (
  bif (bif decide ((IntKind.wrap .u64 ((x1.2.1.drop r8.2.1.toNat).length : Int)) < r8.1) then decide (r8.2.2 = 0) else false) then (
  rec1 (x1.1, (x1.2.1.drop r8.2.1.toNat, 3)))
  else (
  bif decide (r8.2.2 = 0) then (
  bif inb r8.1 ((x1.2.1.drop r8.2.1.toNat).length + 1) then
  (F51 ((x1.2.1.drop r8.2.1.toNat).take r8.1.toNat)).bind fun r9 =>
  bif decide ((x1.1.length + 1) * 32 ≤ LIM) then
  bif inb r8.1 ((x1.2.1.drop r8.2.1.toNat).length + 1) then
  rec1 ((x1.1 ++ ([(0, r9)])), ((x1.2.1.drop r8.2.1.toNat).drop r8.1.toNat, r8.2.2))
  else none
  else none
  else none)
  else (
  rec1 (x1.1, (x1.2.1.drop r8.2.1.toNat, r8.2.2)))))
  else none)))
  else (
  (F60 x1.2.1).bind fun r10 =>
  bif inb r10.2.1 (x1.2.1.length + 1) then
  bif (decide (0 < (x1.1.length : Int)) == true) then (
  bif inb (if (IntKind.wrap .i64 ((x1.1.length : Int) - 1)) < 0 then 0 else (IntKind.wrap .i64 ((x1.1.length : Int) - 1))) x1.1.length then
  (F50 (((rd (.pair (.int .u64) (.slice 5 (.int .u8))) x1.1 (if (IntKind.wrap .i64 ((x1.1.length : Int) - 1)) < 0 then 0 else (IntKind.wrap .i64 ((x1.1.length : Int) - 1)))).1, (rd (.pair (.int .u64) (.slice 5 (.int .u8))) x1.1 (if (IntKind.wrap .i64 ((x1.1.length : Int) - 1)) < 0 then 0 else (IntKind.wrap .i64 ((x1.1.length : Int) - 1)))).2), r10.1)).bind fun r11 =>
  bif (bif decide (0 ≤ r11) then decide (r10.2.2 = 0) else false) then (
  bif (bif decide ((IntKind.wrap .u64 ((x1.2.1.drop r10.2.1.toNat).length : Int)) < 0) then false else false) then (
  rec1 (x1.1, (x1.2.1.drop r10.2.1.toNat, 3)))
  else (
  rec1 (x1.1, (x1.2.1.drop r10.2.1.toNat, 2))))
  else (
  bif (!decide (r10.2.2 = 0)) then (
  bif (bif decide ((IntKind.wrap .u64 ((x1.2.1.drop r10.2.1.toNat).length : Int)) < 0) then decide (r10.2.2 = 0) else false) then (
  rec1 (x1.1, (x1.2.1.drop r10.2.1.toNat, 3)))
  else (
  bif decide (r10.2.2 = 0) then (
  bif inb 0 ((x1.2.1.drop r10.2.1.toNat).length + 1) then
  (F51 ((x1.2.1.drop r10.2.1.toNat).take ((0 : Int).toNat))).bind fun r12 =>
  bif decide ((x1.1.length + 1) * 32 ≤ LIM) then
  bif inb 0 ((x1.2.1.drop r10.2.1.toNat).length + 1) then
  rec1 ((x1.1 ++ ([(r10.1, r12)])), ((x1.2.1.drop r10.2.1.toNat).drop ((0 : Int).toNat), r10.2.2))
  else none
  else none
  else none)
  else (
  rec1 (x1.1, (x1.2.1.drop r10.2.1.toNat, r10.2.2)))))
  else (
  (F60 (x1.2.1.drop r10.2.1.toNat)).bind fun r13 =>
  bif inb r13.2.1 ((x1.2.1.drop r10.2.1.toNat).length + 1) then
  bif (bif decide (4096 < r13.1) then decide (r13.2.2 = 0) else false) then (
  bif (bif decide ((IntKind.wrap .u64 (((x1.2.1.drop r10.2.1.toNat).drop r13.2.1.toNat).length : Int)) < r13.1) then false else false) then (
  rec1 (x1.1, ((x1.2.1.drop r10.2.1.toNat).drop r13.2.1.toNat, 3)))
  else (
  rec1 (x1.1, ((x1.2.1.drop r10.2.1.toNat).drop r13.2.1.toNat, 4))))
  else (
  bif (bif decide ((IntKind.wrap .u64 (((x1.2.1.drop r10.2.1.toNat).drop r13.2.1.toNat).length : Int)) < r13.1) then decide (r13.2.2 = 0) else false) then (
  rec1 (x1.1, ((x1.2.1.drop r10.2.1.toNat).drop r13.2.1.toNat, 3)))
  else (
  bif decide (r13.2.2 = 0) then (
  bif inb r13.1 (((x1.2.1.drop r10.2.1.toNat).drop r13.2.1.toNat).length + 1) then
  (F51 (((x1.2.1.drop r10.2.1.toNat).drop r13.2.1.toNat).take r13.1.toNat)).bind fun r14 =>
  bif decide ((x1.1.length + 1) * 32 ≤ LIM) then
  bif inb r13.1 (((x1.2.1.drop r10.2.1.toNat).drop r13.2.1.toNat).length + 1) then
  rec1 ((x1.1 ++ ([(r10.1, r14)])), (((x1.2.1.drop r10.2.1.toNat).drop r13.2.1.toNat).drop r13.1.toNat, r13.2.2))
  else none
  else none
  else none)
  else (
  rec1 (x1.1, ((x1.2.1.drop r10.2.1.toNat).drop r13.2.1.toNat, r13.2.2)))))
  else none))
  else none)
  else (
  bif (!decide (r10.2.2 = 0)) then (
  bif (bif decide ((IntKind.wrap .u64 ((x1.2.1.drop r10.2.1.toNat).length : Int)) < 0) then decide (r10.2.2 = 0) else false) then (
  rec1 (x1.1, (x1.2.1.drop r10.2.1.toNat, 3)))
  else (
  bif decide (r10.2.2 = 0) then (
  bif inb 0 ((x1.2.1.drop r10.2.1.toNat).length + 1) then
  (F51 ((x1.2.1.drop r10.2.1.toNat).take ((0 : Int).toNat))).bind fun r15 =>
  bif decide ((x1.1.length + 1) * 32 ≤ LIM) then
  bif inb 0 ((x1.2.1.drop r10.2.1.toNat).length + 1) then
  rec1 ((x1.1 ++ ([(r10.1, r15)])), ((x1.2.1.drop r10.2.1.toNat).drop ((0 : Int).toNat), r10.2.2))
  else none
  else none
  else none)
  else (
  rec1 (x1.1, (x1.2.1.drop r10.2.1.toNat, r10.2.2)))))
  else (
  (F60 (x1.2.1.drop r10.2.1.toNat)).bind fun r16 =>
  bif inb r16.2.1 ((x1.2.1.drop r10.2.1.toNat).length + 1) then
  bif (bif decide (4096 < r16.1) then decide (r16.2.2 = 0) else false) then (
  bif (bif decide ((IntKind.wrap .u64 (((x1.2.1.drop r10.2.1.toNat).drop r16.2.1.toNat).length : Int)) < r16.1) then false else false) then (
  rec1 (x1.1, ((x1.2.1.drop r10.2.1.toNat).drop r16.2.1.toNat, 3)))
  else (
  rec1 (x1.1, ((x1.2.1.drop r10.2.1.toNat).drop r16.2.1.toNat, 4))))
  else (
  bif (bif decide ((IntKind.wrap .u64 (((x1.2.1.drop r10.2.1.toNat).drop r16.2.1.toNat).length : Int)) < r16.1) then decide (r16.2.2 = 0) else false) then (
  rec1 (x1.1, ((x1.2.1.drop r10.2.1.toNat).drop r16.2.1.toNat, 3)))
  else (
  bif decide (r16.2.2 = 0) then (
  bif inb r16.1 (((x1.2.1.drop r10.2.1.toNat).drop r16.2.1.toNat).length + 1) then
  (F51 (((x1.2.1.drop r10.2.1.toNat).drop r16.2.1.toNat).take r16.1.toNat)).bind fun r17 =>
  bif decide ((x1.1.length + 1) * 32 ≤ LIM) then
  bif inb r16.1 (((x1.2.1.drop r10.2.1.toNat).drop r16.2.1.toNat).length + 1) then
  rec1 ((x1.1 ++ ([(r10.1, r17)])), (((x1.2.1.drop r10.2.1.toNat).drop r16.2.1.toNat).drop r16.1.toNat, r16.2.2))
  else none
  else none
  else none)
  else (
  rec1 (x1.1, ((x1.2.1.drop r10.2.1.toNat).drop r16.2.1.toNat, r16.2.2)))))
  else none))
  else none)))
  else (
  bif (!decide (x1.2.2 = 0)) then (
  some (([] : List (Int × List Int)), x1.2.2))
  else (
  some (x1.1, 0)))) (([] : List (Int × List Int)), (b, 4)))
 else (
 lfp (fun (rec18 : (List (Int × List Int) × (List Int × Int)) → Option ((List (Int × List Int)) × Int)) (x18 : List (Int × List Int) × (List Int × Int)) =>
  bif (bif decide (x18.2.2 = 0) then decide (0 < (x18.2.1.length : Int)) else false) then (
  bif (bif decide ((x18.1.length : Int) = 64) then decide (x18.2.2 = 0) else false) then (
  bif (decide (0 < (x18.1.length : Int)) == true) then (
  bif inb (if (IntKind.wrap .i64 ((x18.1.length : Int) - 1)) < 0 then 0 else (IntKind.wrap .i64 ((x18.1.length : Int) - 1))) x18.1.length then
  (F50 (((rd (.pair (.int .u64) (.slice 5 (.int .u8))) x18.1 (if (IntKind.wrap .i64 ((x18.1.length : Int) - 1)) < 0 then 0 else (IntKind.wrap .i64 ((x18.1.length : Int) - 1)))).1, (rd (.pair (.int .u64) (.slice 5 (.int .u8))) x18.1 (if (IntKind.wrap .i64 ((x18.1.length : Int) - 1)) < 0 then 0 else (IntKind.wrap .i64 ((x18.1.length : Int) - 1)))).2), 0)).bind fun r19 =>
  bif (bif decide (0 ≤ r19) then false else false) then (
  bif (bif decide ((IntKind.wrap .u64 (x18.2.1.length : Int)) < 0) then false else false) then (
  rec18 (x18.1, (x18.2.1, 3)))
  else (
  rec18 (x18.1, (x18.2.1, 2))))
  else (
  bif (bif decide ((IntKind.wrap .u64 (x18.2.1.length : Int)) < 0) then false else false) then (
  rec18 (x18.1, (x18.2.1, 3)))
  else (
  rec18 (x18.1, (x18.2.1, 4))))
  else none)
  else (
  bif (bif decide ((IntKind.wrap .u64 (x18.2.1.length : Int)) < 0) then false else false) then (
  rec18 (x18.1, (x18.2.1, 3)))
  else (
  rec18 (x18.1, (x18.2.1, 4)))))
  else (
  bif (!decide (x18.2.2 = 0)) then (
  bif (decide (0 < (x18.1.length : Int)) == true) then (
  bif inb (if (IntKind.wrap .i64 ((x18.1.length : Int) - 1)) < 0 then 0 else (IntKind.wrap .i64 ((x18.1.length : Int) - 1))) x18.1.length then
  (F50 (((rd (.pair (.int .u64) (.slice 5 (.int .u8))) x18.1 (if (IntKind.wrap .i64 ((x18.1.length : Int) - 1)) < 0 then 0 else (IntKind.wrap .i64 ((x18.1.length : Int) - 1)))).1, (rd (.pair (.int .u64) (.slice 5 (.int .u8))) x18.1 (if (IntKind.wrap .i64 ((x18.1.length : Int) - 1)) < 0 then 0 else (IntKind.wrap .i64 ((x18.1.length : Int) - 1)))).2), 0)).bind fun r20 =>
  bif (bif decide (0 ≤ r20) then decide (x18.2.2 = 0) else false) then (
  bif (bif decide ((IntKind.wrap .u64 (x18.2.1.length : Int)) < 0) then false else false) then (
  rec18 (x18.1, (x18.2.1, 3)))
  else (
  rec18 (x18.1, (x18.2.1, 2))))
  else (
  bif (!decide (x18.2.2 = 0)) then (
  bif (bif decide ((IntKind.wrap .u64 (x18.2.1.length : Int)) < 0) then decide (x18.2.2 = 0) else false) then (
  rec18 (x18.1, (x18.2.1, 3)))
  else (
  bif decide (x18.2.2 = 0) then (
  bif inb 0 (x18.2.1.length + 1) then
  (F51 (x18.2.1.take ((0 : Int).toNat))).bind fun r21 =>
  bif decide ((x18.1.length + 1) * 32 ≤ LIM) then
  bif inb 0 (x18.2.1.length + 1) then
  rec18 ((x18.1 ++ ([(0, r21)])), (x18.2.1.drop ((0 : Int).toNat), x18.2.2))
  else none
  else none
  else none)
  else (
  rec18 (x18.1, (x18.2.1, x18.2.2)))))
  else (
  (F60 x18.2.1).bind fun r22 =>
  bif inb r22.2.1 (x18.2.1.length + 1) then
  bif (bif decide (4096 < r22.1) then decide (r22.2.2 = 0) else false) then (
  bif (bif decide ((IntKind.wrap .u64 ((x18.2.1.drop r22.2.1.toNat).length : Int)) < r22.1) then false else false) then (
  rec18 (x18.1, (x18.2.1.drop r22.2.1.toNat, 3)))
  else (
  rec18 (x18.1, (x18.2.1.drop r22.2.1.toNat, 4))))
  else (
  bif (bif decide ((IntKind.wrap .u64 ((x18.2.1.drop r22.2.1.toNat).length : Int)) < r22.1) then decide (r22.2.2 = 0) else false) then (
  rec18 (x18.1, (x18.2.1.drop r22.2.1.toNat, 3)))
  else (
  bif decide (r22.2.2 = 0) then (
  bif inb r22.1 ((x18.2.1.drop r22.2.1.toNat).length + 1) then
  (F51 ((x18.2.1.drop r22.2.1.toNat).take r22.1.toNat)).bind fun r23 =>
  bif decide ((x18.1.length + 1) * 32 ≤ LIM) then
  bif inb r22.1 ((x18.2.1.drop r22.2.1.toNat).length + 1) then
  rec18 ((x18.1 ++ ([(0, r23)])), ((x18.2.1.drop r22.2.1.toNat).drop r22.1.toNat, r22.2.2))
  else none
  else none
  else none)
  else (
  rec18 (x18.1, (x18.2.1.drop r22.2.1.toNat, r22.2.2)))))
  else none))
  else none)
  else (
  bif (!decide (x18.2.2 = 0)) then (
  bif (bif decide ((IntKind.wrap .u64 (x18.2.1.length : Int)) < 0) then decide (x18.2.2 = 0) else false) then (
  rec18 (x18.1, (x18.2.1, 3)))
  else (
  bif decide (x18.2.2 = 0) then (
  bif inb 0 (x18.2.1.length + 1) then
  (F51 (x18.2.1.take ((0 : Int).toNat))).bind fun r24 =>
  bif decide ((x18.1.length + 1) * 32 ≤ LIM) then
  bif inb 0 (x18.2.1.length + 1) then
  rec18 ((x18.1 ++ ([(0, r24)])), (x18.2.1.drop ((0 : Int).toNat), x18.2.2))
  else none
  else none
  else none)
  else (
  rec18 (x18.1, (x18.2.1, x18.2.2)))))
  else (
  (F60 x18.2.1).bind fun r25 =>
  bif inb r25.2.1 (x18.2.1.length + 1) then
  bif (bif decide (4096 < r25.1) then decide (r25.2.2 = 0) else false) then (
  bif (bif decide ((IntKind.wrap .u64 ((x18.2.1.drop r25.2.1.toNat).length : Int)) < r25.1) then false else false) then (
  rec18 (x18.1, (x18.2.1.drop r25.2.1.toNat, 3)))
  else (
  rec18 (x18.1, (x18.2.1.drop r25.2.1.toNat, 4))))
  else (
  bif (bif decide ((IntKind.wrap .u64 ((x18.2.1.drop r25.2.1.toNat).length : Int)) < r25.1) then decide (r25.2.2 = 0) else false) then (
  rec18 (x18.1, (x18.2.1.drop r25.2.1.toNat, 3)))
  else (
  bif decide (r25.2.2 = 0) then (
  bif inb r25.1 ((x18.2.1.drop r25.2.1.toNat).length + 1) then
  (F51 ((x18.2.1.drop r25.2.1.toNat).take r25.1.toNat)).bind fun r26 =>
  bif decide ((x18.1.length + 1) * 32 ≤ LIM) then
  bif inb r25.1 ((x18.2.1.drop r25.2.1.toNat).length + 1) then
  rec18 ((x18.1 ++ ([(0, r26)])), ((x18.2.1.drop r25.2.1.toNat).drop r25.1.toNat, r25.2.2))
  else none
  else none
  else none)
  else (
  rec18 (x18.1, (x18.2.1.drop r25.2.1.toNat, r25.2.2)))))
  else none)))
  else (
  (F60 x18.2.1).bind fun r27 =>
  bif inb r27.2.1 (x18.2.1.length + 1) then
  bif (decide (0 < (x18.1.length : Int)) == true) then (
  bif inb (if (IntKind.wrap .i64 ((x18.1.length : Int) - 1)) < 0 then 0 else (IntKind.wrap .i64 ((x18.1.length : Int) - 1))) x18.1.length then
  (F50 (((rd (.pair (.int .u64) (.slice 5 (.int .u8))) x18.1 (if (IntKind.wrap .i64 ((x18.1.length : Int) - 1)) < 0 then 0 else (IntKind.wrap .i64 ((x18.1.length : Int) - 1)))).1, (rd (.pair (.int .u64) (.slice 5 (.int .u8))) x18.1 (if (IntKind.wrap .i64 ((x18.1.length : Int) - 1)) < 0 then 0 else (IntKind.wrap .i64 ((x18.1.length : Int) - 1)))).2), r27.1)).bind fun r28 =>
  bif (bif decide (0 ≤ r28) then decide (r27.2.2 = 0) else false) then (
  bif (bif decide ((IntKind.wrap .u64 ((x18.2.1.drop r27.2.1.toNat).length : Int)) < 0) then false else false) then (
  rec18 (x18.1, (x18.2.1.drop r27.2.1.toNat, 3)))
  else (
  rec18 (x18.1, (x18.2.1.drop r27.2.1.toNat, 2))))
  else (
  bif (!decide (r27.2.2 = 0)) then (
  bif (bif decide ((IntKind.wrap .u64 ((x18.2.1.drop r27.2.1.toNat).length : Int)) < 0) then decide (r27.2.2 = 0) else false) then (
  rec18 (x18.1, (x18.2.1.drop r27.2.1.toNat, 3)))
  else (
  bif decide (r27.2.2 = 0) then (
  bif inb 0 ((x18.2.1.drop r27.2.1.toNat).length + 1) then
  (F51 ((x18.2.1.drop r27.2.1.toNat).take ((0 : Int).toNat))).bind fun r29 =>
  bif decide ((x18.1.length + 1) * 32 ≤ LIM) then
  bif inb 0 ((x18.2.1.drop r27.2.1.toNat).length + 1) then
  rec18 ((x18.1 ++ ([(r27.1, r29)])), ((x18.2.1.drop r27.2.1.toNat).drop ((0 : Int).toNat), r27.2.2))
  else none
  else none
  else none)
  else (
  rec18 (x18.1, (x18.2.1.drop r27.2.1.toNat, r27.2.2)))))
  else (
  (F60 (x18.2.1.drop r27.2.1.toNat)).bind fun r30 =>
  bif inb r30.2.1 ((x18.2.1.drop r27.2.1.toNat).length + 1) then
  bif (bif decide (4096 < r30.1) then decide (r30.2.2 = 0) else false) then (
  bif (bif decide ((IntKind.wrap .u64 (((x18.2.1.drop r27.2.1.toNat).drop r30.2.1.toNat).length : Int)) < r30.1) then false else false) then (
  rec18 (x18.1, ((x18.2.1.drop r27.2.1.toNat).drop r30.2.1.toNat, 3)))
  else (
  rec18 (x18.1, ((x18.2.1.drop r27.2.1.toNat).drop r30.2.1.toNat, 4))))
  else (
  bif (bif decide ((IntKind.wrap .u64 (((x18.2.1.drop r27.2.1.toNat).drop r30.2.1.toNat).length : Int)) < r30.1) then decide (r30.2.2 = 0) else false) then (
  rec18 (x18.1, ((x18.2.1.drop r27.2.1.toNat).drop r30.2.1.toNat, 3)))
  else (
  bif decide (r30.2.2 = 0) then (
  bif inb r30.1 (((x18.2.1.drop r27.2.1.toNat).drop r30.2.1.toNat).length + 1) then
  (F51 (((x18.2.1.drop r27.2.1.toNat).drop r30.2.1.toNat).take r30.1.toNat)).bind fun r31 =>
  bif decide ((x18.1.length + 1) * 32 ≤ LIM) then
  bif inb r30.1 (((x18.2.1.drop r27.2.1.toNat).drop r30.2.1.toNat).length + 1) then
  rec18 ((x18.1 ++ ([(r27.1, r31)])), (((x18.2.1.drop r27.2.1.toNat).drop r30.2.1.toNat).drop r30.1.toNat, r30.2.2))
  else none
  else none
  else none)
  else (
  rec18 (x18.1, ((x18.2.1.drop r27.2.1.toNat).drop r30.2.1.toNat, r30.2.2)))))
  else none))
  else none)
  else (
  bif (!decide (r27.2.2 = 0)) then (
  bif (bif decide ((IntKind.wrap .u64 ((x18.2.1.drop r27.2.1.toNat).length : Int)) < 0) then decide (r27.2.2 = 0) else false) then (
  rec18 (x18.1, (x18.2.1.drop r27.2.1.toNat, 3)))
  else (
  bif decide (r27.2.2 = 0) then (
  bif inb 0 ((x18.2.1.drop r27.2.1.toNat).length + 1) then
  (F51 ((x18.2.1.drop r27.2.1.toNat).take ((0 : Int).toNat))).bind fun r32 =>
  bif decide ((x18.1.length + 1) * 32 ≤ LIM) then
  bif inb 0 ((x18.2.1.drop r27.2.1.toNat).length + 1) then
  rec18 ((x18.1 ++ ([(r27.1, r32)])), ((x18.2.1.drop r27.2.1.toNat).drop ((0 : Int).toNat), r27.2.2))
  else none
  else none
  else none)
  else (
  rec18 (x18.1, (x18.2.1.drop r27.2.1.toNat, r27.2.2)))))
  else (
  (F60 (x18.2.1.drop r27.2.1.toNat)).bind fun r33 =>
  bif inb r33.2.1 ((x18.2.1.drop r27.2.1.toNat).length + 1) then
  bif (bif decide (4096 < r33.1) then decide (r33.2.2 = 0) else false) then (
  bif (bif decide ((IntKind.wrap .u64 (((x18.2.1.drop r27.2.1.toNat).drop r33.2.1.toNat).length : Int)) < r33.1) then false else false) then (
  rec18 (x18.1, ((x18.2.1.drop r27.2.1.toNat).drop r33.2.1.toNat, 3)))
  else (
  rec18 (x18.1, ((x18.2.1.drop r27.2.1.toNat).drop r33.2.1.toNat, 4))))
  else (
  bif (bif decide ((IntKind.wrap .u64 (((x18.2.1.drop r27.2.1.toNat).drop r33.2.1.toNat).length : Int)) < r33.1) then decide (r33.2.2 = 0) else false) then (
  rec18 (x18.1, ((x18.2.1.drop r27.2.1.toNat).drop r33.2.1.toNat, 3)))
  else (
  bif decide (r33.2.2 = 0) then (
  bif inb r33.1 (((x18.2.1.drop r27.2.1.toNat).drop r33.2.1.toNat).length + 1) then
  (F51 (((x18.2.1.drop r27.2.1.toNat).drop r33.2.1.toNat).take r33.1.toNat)).bind fun r34 =>
  bif decide ((x18.1.length + 1) * 32 ≤ LIM) then
  bif inb r33.1 (((x18.2.1.drop r27.2.1.toNat).drop r33.2.1.toNat).length + 1) then
  rec18 ((x18.1 ++ ([(r27.1, r34)])), (((x18.2.1.drop r27.2.1.toNat).drop r33.2.1.toNat).drop r33.1.toNat, r33.2.2))
  else none
  else none
  else none)
  else (
  rec18 (x18.1, ((x18.2.1.drop r27.2.1.toNat).drop r33.2.1.toNat, r33.2.2)))))
  else none))
  else none)))
  else (
  bif (!decide (x18.2.2 = 0)) then (
  some (([] : List (Int × List Int)), x18.2.2))
  else (
  some (x18.1, 0)))) (([] : List (Int × List Int)), (b, 0)))
theorem ev33 (b : List Int) : evF C49 H33 Tryd.f33 (encs [.oneA (.slice 5 (.int .u8))] b) (RT.dec (.tup [.leaf (.fresh 67 (.pair (.int .u64) (.slice 5 (.int .u8)))), .leaf (.int .i64)])) = F33 b := by kernel_rfl
noncomputable def C33 : Ctx := Ctx.addA C49 33 [.oneA (.slice 5 (.int .u8))] (.tup [.leaf (.fresh 67 (.pair (.int .u64) (.slice 5 (.int .u8)))), .leaf (.int .i64)]) F33
theorem s33 : C33.Sound := Ctx.Sound.addA (C := C49) mixed s49 Tryd.func33 ev33
/-! damson/bigsize.All -/
def H52 : Nat → Head
  | 3 => ⟨[.dataA 0 (.slice 5 (.int .u8)), .row 2 10243 22 (.int .u64), .data 3 (.int .i64)], []⟩
  | 5000007 => ⟨[], [0, 0, 0, 0, 2, 2, 5, 5, 0, 0, 0, 0, 48, 48, 15, 9, 255, 80]⟩
  | _ => ⟨[], []⟩
noncomputable def F52 (b : List Int) : Option (List Int × Int) :=
 bif decide (65535 < (b.length : Int)) then (
 some (([] : List Int), 4))
 else (
 lfp (fun (rec1 : (List Int × List Int × Int) → Option (List Int × Int)) (x1 : List Int × List Int × Int) =>
  bif decide (0 < (x1.1.length : Int)) then (
  (F60 x1.1).bind fun r2 =>
  bif (!decide (r2.2.2 = 0)) then (
  some (([] : List Int), r2.2.2))
  else (
  bif inb r2.2.1 (x1.1.length + 1) then
  bif decide ((x1.2.1.length + 1) * 8 ≤ LIM) then
  rec1 (x1.1.drop r2.2.1.toNat, (x1.2.1 ++ ([r2.1])), x1.2.2)
  else none
  else none))
  else (
  some (x1.2.1, 0))) (b, ([] : List Int), 0))
theorem ev52 (b : List Int) : evF C33 H52 Tryd.f52 (encs [.oneA (.slice 5 (.int .u8))] b) (RT.dec (.tup [.leaf (.fresh 22 (.int .u64)), .leaf (.int .i64)])) = F52 b := by kernel_rfl
noncomputable def C52 : Ctx := Ctx.addA C33 52 [.oneA (.slice 5 (.int .u8))] (.tup [.leaf (.fresh 22 (.int .u64)), .leaf (.int .i64)]) F52
theorem s52 : C52.Sound := Ctx.Sound.addA (C := C33) mixed s33 Tryd.func52 ev52
/-! damson/caveat.Get -/
def H54 : Nat → Head
  | 4 => ⟨[.data 0 (.slice 5 (.int .u8)), .data 3 (.int .i64), .data 5 (.int .i64), .data 6 (.int .i64), .arr 16384 22 (.int .u64) 3], [8192]⟩
  | 5000013 => ⟨[], [0, 0, 0, 0, 0, 0, 0, 0, 12, 12, 3, 1, 35, 34, 127, 20]⟩
  | _ => ⟨[], []⟩
noncomputable def F54 (b : List Int) : Option ((Int × Int × Int) × Int) :=
 lfp (fun (rec1 : (List Int × Int × Int × Int × List Int) → Option ((Int × Int × Int) × Int)) (x1 : List Int × Int × Int × Int × List Int) =>
  bif decide (x1.2.2.2.1 < x1.2.2.1) then (
  (F60 x1.1).bind fun r2 =>
  bif (!decide (r2.2.2 = 0)) then (
  some ((0, 0, 0), r2.2.2))
  else (
  bif (decide (x1.2.2.2.1 = 0) == true) then (
  bif (bif decide (r2.1 < 1) then true else decide (5 < r2.1)) then (
  some ((0, 0, 0), 2))
  else (
  bif (bif decide (x1.2.2.2.1 = 0) then decide (r2.1 = 4) else false) then (
  bif inb r2.2.1 (x1.1.length + 1) then
  bif inb x1.2.2.2.1 3 then
  rec1 (x1.1.drop r2.2.1.toNat, x1.2.1, (IntKind.wrap .i64 (x1.2.2.1 + 1)), (IntKind.wrap .i64 (x1.2.2.2.1 + 1)), x1.2.2.2.2.set x1.2.2.2.1.toNat r2.1)
  else none
  else none)
  else (
  bif inb r2.2.1 (x1.1.length + 1) then
  bif inb x1.2.2.2.1 3 then
  rec1 (x1.1.drop r2.2.1.toNat, x1.2.1, x1.2.2.1, (IntKind.wrap .i64 (x1.2.2.2.1 + 1)), x1.2.2.2.2.set x1.2.2.2.1.toNat r2.1)
  else none
  else none)))
  else (
  bif (bif decide (x1.2.2.2.1 = 0) then decide (r2.1 = 4) else false) then (
  bif inb r2.2.1 (x1.1.length + 1) then
  bif inb x1.2.2.2.1 3 then
  rec1 (x1.1.drop r2.2.1.toNat, x1.2.1, (IntKind.wrap .i64 (x1.2.2.1 + 1)), (IntKind.wrap .i64 (x1.2.2.2.1 + 1)), x1.2.2.2.2.set x1.2.2.2.1.toNat r2.1)
  else none
  else none)
  else (
  bif inb r2.2.1 (x1.1.length + 1) then
  bif inb x1.2.2.2.1 3 then
  rec1 (x1.1.drop r2.2.1.toNat, x1.2.1, x1.2.2.1, (IntKind.wrap .i64 (x1.2.2.2.1 + 1)), x1.2.2.2.2.set x1.2.2.2.1.toNat r2.1)
  else none
  else none))))
  else (
  bif inb 0 3 then
  bif inb 1 3 then
  bif inb 2 3 then
  bif (decide (0 < (x1.1.length : Int)) == false) then (
  (F19 ((IntKind.wrap .i64 (rd (.int .u64) x1.2.2.2.2 0)), ((rd (.int .u64) x1.2.2.2.2 1), (rd (.int .u64) x1.2.2.2.2 2)))).bind fun r3 =>
  bif (!decide (r3 = 0)) then (
  some ((0, 0, 0), 2))
  else (
  some (((IntKind.wrap .i64 (rd (.int .u64) x1.2.2.2.2 0)), (rd (.int .u64) x1.2.2.2.2 1), (rd (.int .u64) x1.2.2.2.2 2)), 0)))
  else (
  some ((0, 0, 0), 2))
  else none
  else none
  else none)) (b, 0, 2, 0, [0, 0, 0])
theorem ev54 (b : List Int) : evF C52 H54 Tryd.f54 (encs [.one (.slice 5 (.int .u8))] b) (RT.dec (.tup [.agg [.int .i64, .int .u64, .int .u64], .leaf (.int .i64)])) = F54 b := by kernel_rfl
noncomputable def C54 : Ctx := Ctx.add C52 54 [.one (.slice 5 (.int .u8))] (.tup [.agg [.int .i64, .int .u64, .int .u64], .leaf (.int .i64)]) F54
theorem s54 : C54.Sound := Ctx.Sound.add (C := C52) mixed s52 Tryd.func54 ev54
/-! slices.BinarySearchFunc[[]damson/api.Record,damson/api.Record,uint64] -/
def H76050 : Nat → Head
  | 3 => ⟨[.data 9 (.int .i64), .data 10 (.int .i64)], []⟩
  | _ => ⟨[], []⟩
noncomputable def F76050 (b : List (Int × List Int) × Int × Unit) : Option (Int × Bool) :=
 lfp (fun (rec1 : (Int × Int) → Option (Int × Bool)) (x1 : Int × Int) =>
  bif decide (x1.1 < x1.2) then (
  bif inb (IntKind.wrap .i64 ((IntKind.wrap .u64 (IntKind.wrap .i64 (x1.1 + x1.2))) / 2 ^ (min (1 : Int).toNat 64))) b.1.length then
  (F50 (((rd (.pair (.int .u64) (.slice 5 (.int .u8))) b.1 (IntKind.wrap .i64 ((IntKind.wrap .u64 (IntKind.wrap .i64 (x1.1 + x1.2))) / 2 ^ (min (1 : Int).toNat 64)))).1, (rd (.pair (.int .u64) (.slice 5 (.int .u8))) b.1 (IntKind.wrap .i64 ((IntKind.wrap .u64 (IntKind.wrap .i64 (x1.1 + x1.2))) / 2 ^ (min (1 : Int).toNat 64)))).2), b.2.1)).bind fun r2 =>
  bif decide (r2 < 0) then (
  rec1 ((IntKind.wrap .i64 ((IntKind.wrap .i64 ((IntKind.wrap .u64 (IntKind.wrap .i64 (x1.1 + x1.2))) / 2 ^ (min (1 : Int).toNat 64))) + 1)), x1.2))
  else (
  rec1 (x1.1, (IntKind.wrap .i64 ((IntKind.wrap .u64 (IntKind.wrap .i64 (x1.1 + x1.2))) / 2 ^ (min (1 : Int).toNat 64)))))
  else none)
  else (
  bif (decide (x1.1 < (b.1.length : Int)) == true) then (
  bif inb x1.1 b.1.length then
  (F50 (((rd (.pair (.int .u64) (.slice 5 (.int .u8))) b.1 x1.1).1, (rd (.pair (.int .u64) (.slice 5 (.int .u8))) b.1 x1.1).2), b.2.1)).bind fun r3 =>
  some (x1.1, decide (r3 = 0))
  else none)
  else (
  some (x1.1, false)))) (0, (b.1.length : Int))
theorem ev76050 (b : List (Int × List Int) × Int × Unit) : evF C54 H76050 Tryd.f76 (encs [.one (.slice 67 (.pair (.int .u64) (.slice 5 (.int .u8)))), .one (.int .u64), .fn 50] b) (RT.dec (.tup [.leaf (.int .i64), .leaf (.bool)])) = F76050 b := by kernel_rfl
noncomputable def C76050 : Ctx := Ctx.add C54 76 [.one (.slice 67 (.pair (.int .u64) (.slice 5 (.int .u8)))), .one (.int .u64), .fn 50] (.tup [.leaf (.int .i64), .leaf (.bool)]) F76050
theorem s76050 : C76050.Sound := Ctx.Sound.add (C := C54) mixed s54 Tryd.func76 ev76050
/-! damson/tlv.Find -/
def H62 : Nat → Head := fun _ => ⟨[], []⟩
noncomputable def F62 (b : List (Int × List Int) × Int) : Option (List Int × Int) :=
 (F46 b.1).bind fun r1 =>
 bif (!decide (r1 = 0)) then (
 some (([] : List Int), r1))
 else (
 (F76050 (b.1, b.2, ())).bind fun r2 =>
 bif (!r2.2) then (
 some (([] : List Int), 5))
 else (
 bif inb r2.1 b.1.length then
 (F51 ((rd (.pair (.int .u64) (.slice 5 (.int .u8))) b.1 r2.1).2)).bind fun r3 =>
 some (r3, 0)
 else none))
theorem ev62 (b : List (Int × List Int) × Int) : evF C76050 H62 Tryd.f62 (encs [.oneA (.slice 67 (.pair (.int .u64) (.slice 5 (.int .u8)))), .one (.int .u64)] b) (RT.dec (.tup [.leaf (.fresh 5 (.int .u8)), .leaf (.int .i64)])) = F62 b := by kernel_rfl
noncomputable def C62 : Ctx := Ctx.addA C76050 62 [.oneA (.slice 67 (.pair (.int .u64) (.slice 5 (.int .u8)))), .one (.int .u64)] (.tup [.leaf (.fresh 5 (.int .u8)), .leaf (.int .i64)]) F62
theorem s62 : C62.Sound := Ctx.Sound.addA (C := C76050) mixed s76050 Tryd.func62 ev62
/-! damson/tlv.Number -/
def H63 : Nat → Head := fun _ => ⟨[], []⟩
noncomputable def F63 (b : List (Int × List Int) × Int) : Option (Int × Int) :=
 (F62 (b.1, b.2)).bind fun r1 =>
 bif (!decide (r1.2 = 0)) then (
 some (0, r1.2))
 else (
 (F60 r1.1).bind fun r2 =>
 bif (!decide (r2.2.2 = 0)) then (
 some (0, r2.2.2))
 else (
 bif decide (r2.2.1 < (r1.1.length : Int)) then (
 some (0, 2))
 else (
 some (r2.1, 0))))
theorem ev63 (b : List (Int × List Int) × Int) : evF C62 H63 Tryd.f63 (encs [.one (.slice 67 (.pair (.int .u64) (.slice 5 (.int .u8)))), .one (.int .u64)] b) (RT.dec (.tup [.leaf (.int .u64), .leaf (.int .i64)])) = F63 b := by kernel_rfl
noncomputable def C63 : Ctx := Ctx.add C62 63 [.one (.slice 67 (.pair (.int .u64) (.slice 5 (.int .u8)))), .one (.int .u64)] (.tup [.leaf (.int .u64), .leaf (.int .i64)]) F63
theorem s63 : C63.Sound := Ctx.Sound.add (C := C62) mixed s62 Tryd.func63 ev63
/-! damson/token.Get -/
def H53 : Nat → Head
  | 6 => ⟨[.data 3 (.int .i64), .data 29 (.int .i64)], [24576, 90112, 8192]⟩
  | 13 => ⟨[.data 3 (.int .i64), .data 44 (.int .i64), .arr 24576 22 (.int .u64) 2], [90112, 8192]⟩
  | 22 => ⟨[.data 12 .bool, .data 72 (.int .i64)], [24576, 90112, 8192]⟩
  | 30 => ⟨[.data 3 (.int .i64), .data 98 (.int .i64), .crow 61440 1 10063518 48 (.pair (.int .i64) (.pair (.int .u64) (.int .u64))), .boxr 61440 10063518 (.int .u64) (.int .i64)], [24576, 90112, 8192]⟩
  | 5000024 => ⟨[], [0, 0, 1, 1, 2, 2, 6, 6, 2, 2, 2, 2, 50, 50, 74, 74, 130, 130, 511, 257]⟩
  | _ => ⟨[], []⟩
noncomputable def F53 (b : List Int) : Option ((Int × (List (Int × (Int × Int))) × Int) × Int) :=
 (F33 b).bind fun r1 =>
 bif (!decide (r1.2 = 0)) then (
 some ((0, ([] : List (Int × (Int × Int))), 0), r1.2))
 else (
 lfp (fun (rec2 : (Int × Int) → Option ((Int × (List (Int × (Int × Int))) × Int) × Int)) (x2 : Int × Int) =>
  bif decide (x2.2 < 2) then (
  (F62 (r1.1, (IntKind.wrap .u64 (1 + (IntKind.wrap .u64 x2.2))))).bind fun r3 =>
  bif (!decide (r3.2 = 0)) then (
  some ((0, ([] : List (Int × (Int × Int))), 0), 5))
  else (
  rec2 (x2.1, (IntKind.wrap .i64 (x2.2 + 1)))))
  else (
  lfp (fun (rec4 : (Int × Int × List Int) → Option ((Int × (List (Int × (Int × Int))) × Int) × Int)) (x4 : Int × Int × List Int) =>
   bif decide (x4.2.1 < 2) then (
   (F63 (r1.1, (IntKind.wrap .u64 (1 + (IntKind.wrap .u64 x4.2.1))))).bind fun r5 =>
   bif inb x4.2.1 2 then
   bif (!decide (r5.2 = 0)) then (
   some ((0, ([] : List (Int × (Int × Int))), 0), r5.2))
   else (
   rec4 (x4.1, (IntKind.wrap .i64 (x4.2.1 + 1)), x4.2.2.set x4.2.1.toNat r5.1))
   else none)
   else (
   bif inb 1 2 then
   lfp (fun (rec6 : (Bool × Int) → Option ((Int × (List (Int × (Int × Int))) × Int) × Int)) (x6 : Bool × Int) =>
    bif decide (x6.2 < (r1.1.length : Int)) then (
    bif inb x6.2 r1.1.length then
    (fun o => both o o) (
    bif (x6.1 == false) then (
    (F64 x6.2).bind fun r7 =>
    rec6 ((!decide ((rd (.pair (.int .u64) (.slice 5 (.int .u8))) r1.1 x6.2).1 = r7)), (IntKind.wrap .i64 (x6.2 + 1))))
    else (
    rec6 (true, (IntKind.wrap .i64 (x6.2 + 1)))))
    else none)
    else (
    bif x6.1 then (
    some ((0, ([] : List (Int × (Int × Int))), 0), 2))
    else (
    bif inb 0 2 then
    bif inb 1 2 then
    bif inb 2 (r1.1.length + 1) then
    lfp (fun (rec8 : (Int × Int × List (Int × (Int × Int)) × (Int × Int)) → Option ((Int × (List (Int × (Int × Int))) × Int) × Int)) (x8 : Int × Int × List (Int × (Int × Int)) × (Int × Int)) =>
     bif decide (x8.2.1 < ((r1.1.drop ((2 : Int).toNat)).length : Int)) then (
     bif inb x8.2.1 (r1.1.drop ((2 : Int).toNat)).length then
     (F54 ((rd (.pair (.int .u64) (.slice 5 (.int .u8))) (r1.1.drop ((2 : Int).toNat)) x8.2.1).2)).bind fun r9 =>
     bif (!decide (r9.2 = 0)) then (
     some ((0, ([] : List (Int × (Int × Int))), 0), r9.2))
     else (
     bif decide ((x8.2.2.1.length + 1) * 24 ≤ LIM) then
     rec8 (x8.1, (IntKind.wrap .i64 (x8.2.1 + 1)), (x8.2.2.1 ++ ([(r9.1.1, (r9.1.2.1, r9.1.2.2))])), (x8.2.2.2.1, x8.2.2.2.2))
     else none)
     else none)
     else (
     some ((x8.2.2.2.1, x8.2.2.1, x8.2.2.2.2), 0))) (x4.1, 0, ([] : List (Int × (Int × Int))), ((rd (.int .u64) x4.2.2 0), (IntKind.wrap .i64 (rd (.int .u64) x4.2.2 1))))
    else none
    else none
    else none))) ((bif decide (1048576 < (rd (.int .u64) x4.2.2 1)) then true else decide (18 < (r1.1.length : Int))), 0)
   else none)) (x2.1, 0, [0, 0]))) (0, 0))
theorem ev53 (b : List Int) : evF C63 H53 Tryd.f53 (encs [.oneA (.slice 5 (.int .u8))] b) (RT.dec (.tup [.agg [.int .u64, .fresh 48 (.pair (.int .i64) (.pair (.int .u64) (.int .u64))), .int .i64], .leaf (.int .i64)])) = F53 b := by kernel_rfl
noncomputable def C53 : Ctx := Ctx.addA C63 53 [.oneA (.slice 5 (.int .u8))] (.tup [.agg [.int .u64, .fresh 48 (.pair (.int .i64) (.pair (.int .u64) (.int .u64))), .int .i64], .leaf (.int .i64)]) F53
theorem s53 : C53.Sound := Ctx.Sound.addA (C := C63) mixed s63 Tryd.func53 ev53
/-! bytes.Equal -/
def H35 : Nat → Head := fun _ => ⟨[], []⟩
noncomputable def F35 (b : List Int × List Int) : Option Bool :=
 some (decide (b.1 = b.2))
theorem ev35 (b : List Int × List Int) : evF C53 H35 Tryd.f35 (encs [.one (.slice 5 (.int .u8)), .one (.slice 5 (.int .u8))] b) (RT.dec (.one (.leaf (.bool)))) = F35 b := by kernel_rfl
noncomputable def C35 : Ctx := Ctx.add C53 35 [.one (.slice 5 (.int .u8)), .one (.slice 5 (.int .u8))] (.one (.leaf (.bool))) F35
theorem s35 : C35.Sound := Ctx.Sound.add (C := C53) mixed s53 Tryd.func35 ev35
/-! damson/request.read: carried out where it is called -/
def H34 : Nat → Head
  | 1000000 => ⟨[], [3]⟩
  | 1000014 => ⟨[], [9]⟩
  | 5000003 => ⟨[], [0, 0, 0, 0, 2, 2, 4, 4, 9, 9, 0, 0, 32, 32, 64, 64, 129, 129, 0, 0, 512, 512, 1024, 1024, 2049, 2049, 0, 0, 8192, 8192, 16384, 16384, 32769, 32769, 0, 0, 131072, 131072, 262144, 262144, 524289, 524289, 2097151, 1, 0, 0, 4194304, 4194304, 10485760, 10485760, 33554431, 16777216]⟩
  | 5000015 => ⟨[], [0, 0, 0, 0, 2, 2, 4, 4, 8, 8, 0, 0, 32, 32, 80, 80, 255, 1, 511, 256, 767, 640]⟩
  | 5000018 => ⟨[], [0, 0, 0, 0, 2, 2, 4, 4, 8, 8, 0, 0, 32, 32, 64, 64, 0, 0, 256, 256, 512, 512, 1152, 1152, 2048, 2048, 4112, 4112, 16383, 1, 32767, 16384, 49151, 40960]⟩
  | _ => ⟨[], []⟩
noncomputable def C34 : Ctx := Ctx.addI C35 34 H34 9000034 Tryd.f34
theorem s34 : C34.Sound := Ctx.Sound.addI (C := C35) mixed s35 Tryd.func34
/-! damson/request.Get -/
def H15 : Nat → Head
  | 5 => ⟨[.data 3 (.int .i64), .data 21 (.int .i64), .crow 8192 9 10010245 57 (.pair (.int .u64) (.int .u64)), .crow 8192 10 10010757 48 (.pair (.int .i64) (.pair (.int .u64) (.int .u64))), .boxs 8192 10010245 10010757 (.pair (.int .u64) (.pair (.int .i64) (.pair (.int .u64) (.pair (.int .u64) (.pair (.slice 48 (.pair (.int .i64) (.pair (.int .u64) (.int .u64)))) (.pair (.int .i64) (.pair (.int .u64) (.pair (.int .u64) (.int .u64))))))))) .unit .unit], [65536]⟩
  | 3000000 => ⟨[], [12682147545791602688]⟩
  | 3000001 => ⟨[], [12682147545791602688]⟩
  | 3000002 => ⟨[], [12682147545791602688]⟩
  | 3000003 => ⟨[], [12682147545791602688]⟩
  | 3000004 => ⟨[], [12682147545791602688]⟩
  | 3000005 => ⟨[], [12682147545791602688]⟩
  | 3000006 => ⟨[], [12682147545791602688]⟩
  | 3000007 => ⟨[], [12682147545791602688]⟩
  | 3000008 => ⟨[], [12682147545791602688]⟩
  | 3000009 => ⟨[], [12682147545791602688]⟩
  | 3000010 => ⟨[], [12682147545791602688]⟩
  | 3000011 => ⟨[], [12682147545791602688]⟩
  | 3000012 => ⟨[], [12682147545791602688]⟩
  | 3000013 => ⟨[], [12682147545791602688]⟩
  | _ => ⟨[], []⟩
noncomputable def F15 (b : List Int) : Option ((Int × Int × Int × Int × (List (Int × (Int × Int))) × Int × Int × Int × Int × (List (Int × Int)) × (List (Int × (Int × Int)))) × Int) :=
 bif decide (4096 < (b.length : Int)) then (
 some ((0, 0, 0, 0, ([] : List (Int × (Int × Int))), 0, 0, 0, 0, ([] : List (Int × Int)), ([] : List (Int × (Int × Int)))), 4))
 else (
 (F33 b).bind fun r1 =>
 lfp (fun (rec2 : (Int × Int × List (Int × Int) × List (Int × (Int × Int)) × ((Int × (Int × (Int × (Int × (List (Int × (Int × Int)) × (Int × (Int × (Int × Int)))))))) × (Unit × Unit))) → Option ((Int × Int × Int × Int × (List (Int × (Int × Int))) × Int × Int × Int × Int × (List (Int × Int)) × (List (Int × (Int × Int)))) × Int)) (x2 : Int × Int × List (Int × Int) × List (Int × (Int × Int)) × ((Int × (Int × (Int × (Int × (List (Int × (Int × Int)) × (Int × (Int × (Int × Int)))))))) × (Unit × Unit))) =>
  bif decide (x2.2.1 < (r1.1.length : Int)) then (
  bif inb x2.2.1 r1.1.length then
  (F52 ((rd (.pair (.int .u64) (.slice 5 (.int .u8))) r1.1 x2.2.1).2)).bind fun r3 =>
  bif decide ((rd (.pair (.int .u64) (.slice 5 (.int .u8))) r1.1 x2.2.1).1 = 1) then (
  bif (bif decide (r3.2 = 0) then decide ((r3.1.length : Int) = 1) else false) then (
  bif inb 0 r3.1.length then
  rec2 (x2.1, (IntKind.wrap .i64 (x2.2.1 + 1)), x2.2.2.1, x2.2.2.2.1, (((rd (.int .u64) r3.1 0), (x2.2.2.2.2.1.2.1, (x2.2.2.2.2.1.2.2.1, (x2.2.2.2.2.1.2.2.2.1, (x2.2.2.2.2.1.2.2.2.2.1, (x2.2.2.2.2.1.2.2.2.2.2.1, (x2.2.2.2.2.1.2.2.2.2.2.2.1, (x2.2.2.2.2.1.2.2.2.2.2.2.2.1, x2.2.2.2.2.1.2.2.2.2.2.2.2.2)))))))), ((), ())))
  else none)
  else (
  bif ((bif decide ((rd (.pair (.int .u64) (.slice 5 (.int .u8))) r1.1 x2.2.1).1 = 2) then (bif decide (r3.2 = 0) then decide ((r3.1.length : Int) = 1) else false) else false) == true) then (
  bif inb 0 r3.1.length then
  bif decide ((rd (.int .u64) r3.1 0) < 16) then (
  bif inb 0 r3.1.length then
  rec2 (x2.1, (IntKind.wrap .i64 (x2.2.1 + 1)), x2.2.2.1, x2.2.2.2.1, ((x2.2.2.2.2.1.1, ((IntKind.wrap .i64 (rd (.int .u64) r3.1 0)), (x2.2.2.2.2.1.2.2.1, (x2.2.2.2.2.1.2.2.2.1, (x2.2.2.2.2.1.2.2.2.2.1, (x2.2.2.2.2.1.2.2.2.2.2.1, (x2.2.2.2.2.1.2.2.2.2.2.2.1, (x2.2.2.2.2.1.2.2.2.2.2.2.2.1, x2.2.2.2.2.1.2.2.2.2.2.2.2.2)))))))), ((), ())))
  else none)
  else (
  bif decide ((rd (.pair (.int .u64) (.slice 5 (.int .u8))) r1.1 x2.2.1).1 = 4) then (
  (F53 ((rd (.pair (.int .u64) (.slice 5 (.int .u8))) r1.1 x2.2.1).2)).bind fun r4 =>
  bif (!decide (r4.2 = 0)) then (
  some ((0, 0, 0, 0, ([] : List (Int × (Int × Int))), 0, 0, 0, 0, ([] : List (Int × Int)), ([] : List (Int × (Int × Int)))), 2))
  else (
  rec2 (x2.1, (IntKind.wrap .i64 (x2.2.1 + 1)), x2.2.2.1, x2.2.2.2.1, ((x2.2.2.2.2.1.1, (x2.2.2.2.2.1.2.1, (x2.2.2.2.2.1.2.2.1, (r4.1.1, (r4.1.2.1, (r4.1.2.2, (x2.2.2.2.2.1.2.2.2.2.2.2.1, (x2.2.2.2.2.1.2.2.2.2.2.2.2.1, x2.2.2.2.2.1.2.2.2.2.2.2.2.2)))))))), ((), ())))))
  else (
  bif decide (48 ≤ (rd (.pair (.int .u64) (.slice 5 (.int .u8))) r1.1 x2.2.1).1) then (
  (F54 ((rd (.pair (.int .u64) (.slice 5 (.int .u8))) r1.1 x2.2.1).2)).bind fun r5 =>
  (fun o => both o o) (
  bif decide ((x2.2.2.2.1.length + 1) * 24 ≤ LIM) then
  bif (!decide (r5.2 = 0)) then (
  some ((0, 0, 0, 0, ([] : List (Int × (Int × Int))), 0, 0, 0, 0, ([] : List (Int × Int)), ([] : List (Int × (Int × Int)))), 2))
  else (
  rec2 (x2.1, (IntKind.wrap .i64 (x2.2.1 + 1)), x2.2.2.1, (x2.2.2.2.1 ++ ([(r5.1.1, (r5.1.2.1, r5.1.2.2))])), ((x2.2.2.2.2.1.1, (x2.2.2.2.2.1.2.1, (x2.2.2.2.2.1.2.2.1, (x2.2.2.2.2.1.2.2.2.1, (x2.2.2.2.2.1.2.2.2.2.1, (x2.2.2.2.2.1.2.2.2.2.2.1, (x2.2.2.2.2.1.2.2.2.2.2.2.1, (x2.2.2.2.2.1.2.2.2.2.2.2.2.1, x2.2.2.2.2.1.2.2.2.2.2.2.2.2)))))))), ((), ()))))
  else none))
  else (
  bif (bif (bif decide (32 ≤ (rd (.pair (.int .u64) (.slice 5 (.int .u8))) r1.1 x2.2.1).1) then decide (r3.2 = 0) else false) then decide ((r3.1.length : Int) = 2) else false) then (
  bif inb 0 r3.1.length then
  bif inb 1 r3.1.length then
  (both (
  (fun o => both o o) (
  bif decide ((x2.2.2.1.length + 1) * 16 ≤ LIM) then
  rec2 (x2.1, (IntKind.wrap .i64 (x2.2.1 + 1)), (x2.2.2.1 ++ ([((rd (.int .u64) r3.1 0), (rd (.int .u64) r3.1 1))])), x2.2.2.2.1, ((x2.2.2.2.2.1.1, (x2.2.2.2.2.1.2.1, (x2.2.2.2.2.1.2.2.1, (x2.2.2.2.2.1.2.2.2.1, (x2.2.2.2.2.1.2.2.2.2.1, (x2.2.2.2.2.1.2.2.2.2.2.1, (x2.2.2.2.2.1.2.2.2.2.2.2.1, (x2.2.2.2.2.1.2.2.2.2.2.2.2.1, x2.2.2.2.2.1.2.2.2.2.2.2.2.2)))))))), ((), ())))
  else none)) (both (
  (both (
  bif decide ((x2.2.2.1.length + 1) * 16 ≤ LIM) then
  rec2 (x2.1, (IntKind.wrap .i64 (x2.2.1 + 1)), (x2.2.2.1 ++ ([((rd (.int .u64) r3.1 0), (rd (.int .u64) r3.1 1))])), x2.2.2.2.1, ((x2.2.2.2.2.1.1, (x2.2.2.2.2.1.2.1, (x2.2.2.2.2.1.2.2.1, (x2.2.2.2.2.1.2.2.2.1, (x2.2.2.2.2.1.2.2.2.2.1, (x2.2.2.2.2.1.2.2.2.2.2.1, (x2.2.2.2.2.1.2.2.2.2.2.2.1, (x2.2.2.2.2.1.2.2.2.2.2.2.2.1, x2.2.2.2.2.1.2.2.2.2.2.2.2.2)))))))), ((), ())))
  else none) (
  (fun o => both o o) (
  bif decide ((x2.2.2.1.length + 1) * 16 ≤ LIM) then
  rec2 (x2.1, (IntKind.wrap .i64 (x2.2.1 + 1)), (x2.2.2.1 ++ ([((rd (.int .u64) r3.1 0), (rd (.int .u64) r3.1 1))])), x2.2.2.2.1, ((x2.2.2.2.2.1.1, (x2.2.2.2.2.1.2.1, (x2.2.2.2.2.1.2.2.1, (x2.2.2.2.2.1.2.2.2.1, (x2.2.2.2.2.1.2.2.2.2.1, (x2.2.2.2.2.1.2.2.2.2.2.1, (x2.2.2.2.2.1.2.2.2.2.2.2.1, (x2.2.2.2.2.1.2.2.2.2.2.2.2.1, x2.2.2.2.2.1.2.2.2.2.2.2.2.2)))))))), ((), ())))
  else none)))) (
  (both (
  bif decide ((x2.2.2.1.length + 1) * 16 ≤ LIM) then
  rec2 (x2.1, (IntKind.wrap .i64 (x2.2.1 + 1)), (x2.2.2.1 ++ ([((rd (.int .u64) r3.1 0), (rd (.int .u64) r3.1 1))])), x2.2.2.2.1, ((x2.2.2.2.2.1.1, (x2.2.2.2.2.1.2.1, (x2.2.2.2.2.1.2.2.1, (x2.2.2.2.2.1.2.2.2.1, (x2.2.2.2.2.1.2.2.2.2.1, (x2.2.2.2.2.1.2.2.2.2.2.1, (x2.2.2.2.2.1.2.2.2.2.2.2.1, (x2.2.2.2.2.1.2.2.2.2.2.2.2.1, x2.2.2.2.2.1.2.2.2.2.2.2.2.2)))))))), ((), ())))
  else none) (
  (fun o => both o o) (
  bif decide ((x2.2.2.1.length + 1) * 16 ≤ LIM) then
  rec2 (x2.1, (IntKind.wrap .i64 (x2.2.1 + 1)), (x2.2.2.1 ++ ([((rd (.int .u64) r3.1 0), (rd (.int .u64) r3.1 1))])), x2.2.2.2.1, ((x2.2.2.2.2.1.1, (x2.2.2.2.2.1.2.1, (x2.2.2.2.2.1.2.2.1, (x2.2.2.2.2.1.2.2.2.1, (x2.2.2.2.2.1.2.2.2.2.1, (x2.2.2.2.2.1.2.2.2.2.2.1, (x2.2.2.2.2.1.2.2.2.2.2.2.1, (x2.2.2.2.2.1.2.2.2.2.2.2.2.1, x2.2.2.2.2.1.2.2.2.2.2.2.2.2)))))))), ((), ())))
  else none))))))
  else none
  else none)
  else (
  some ((0, 0, 0, 0, ([] : List (Int × (Int × Int))), 0, 0, 0, 0, ([] : List (Int × Int)), ([] : List (Int × (Int × Int)))), 2)))))
  else none)
  else (
  bif decide ((rd (.pair (.int .u64) (.slice 5 (.int .u8))) r1.1 x2.2.1).1 = 4) then (
  (F53 ((rd (.pair (.int .u64) (.slice 5 (.int .u8))) r1.1 x2.2.1).2)).bind fun r6 =>
  bif (!decide (r6.2 = 0)) then (
  some ((0, 0, 0, 0, ([] : List (Int × (Int × Int))), 0, 0, 0, 0, ([] : List (Int × Int)), ([] : List (Int × (Int × Int)))), 2))
  else (
  rec2 (x2.1, (IntKind.wrap .i64 (x2.2.1 + 1)), x2.2.2.1, x2.2.2.2.1, ((x2.2.2.2.2.1.1, (x2.2.2.2.2.1.2.1, (x2.2.2.2.2.1.2.2.1, (r6.1.1, (r6.1.2.1, (r6.1.2.2, (x2.2.2.2.2.1.2.2.2.2.2.2.1, (x2.2.2.2.2.1.2.2.2.2.2.2.2.1, x2.2.2.2.2.1.2.2.2.2.2.2.2.2)))))))), ((), ())))))
  else (
  bif decide (48 ≤ (rd (.pair (.int .u64) (.slice 5 (.int .u8))) r1.1 x2.2.1).1) then (
  (F54 ((rd (.pair (.int .u64) (.slice 5 (.int .u8))) r1.1 x2.2.1).2)).bind fun r7 =>
  (fun o => both o o) (
  bif decide ((x2.2.2.2.1.length + 1) * 24 ≤ LIM) then
  bif (!decide (r7.2 = 0)) then (
  some ((0, 0, 0, 0, ([] : List (Int × (Int × Int))), 0, 0, 0, 0, ([] : List (Int × Int)), ([] : List (Int × (Int × Int)))), 2))
  else (
  rec2 (x2.1, (IntKind.wrap .i64 (x2.2.1 + 1)), x2.2.2.1, (x2.2.2.2.1 ++ ([(r7.1.1, (r7.1.2.1, r7.1.2.2))])), ((x2.2.2.2.2.1.1, (x2.2.2.2.2.1.2.1, (x2.2.2.2.2.1.2.2.1, (x2.2.2.2.2.1.2.2.2.1, (x2.2.2.2.2.1.2.2.2.2.1, (x2.2.2.2.2.1.2.2.2.2.2.1, (x2.2.2.2.2.1.2.2.2.2.2.2.1, (x2.2.2.2.2.1.2.2.2.2.2.2.2.1, x2.2.2.2.2.1.2.2.2.2.2.2.2.2)))))))), ((), ()))))
  else none))
  else (
  bif (bif (bif decide (32 ≤ (rd (.pair (.int .u64) (.slice 5 (.int .u8))) r1.1 x2.2.1).1) then decide (r3.2 = 0) else false) then decide ((r3.1.length : Int) = 2) else false) then (
  bif inb 0 r3.1.length then
  bif inb 1 r3.1.length then
  (both (
  (fun o => both o o) (
  bif decide ((x2.2.2.1.length + 1) * 16 ≤ LIM) then
  rec2 (x2.1, (IntKind.wrap .i64 (x2.2.1 + 1)), (x2.2.2.1 ++ ([((rd (.int .u64) r3.1 0), (rd (.int .u64) r3.1 1))])), x2.2.2.2.1, ((x2.2.2.2.2.1.1, (x2.2.2.2.2.1.2.1, (x2.2.2.2.2.1.2.2.1, (x2.2.2.2.2.1.2.2.2.1, (x2.2.2.2.2.1.2.2.2.2.1, (x2.2.2.2.2.1.2.2.2.2.2.1, (x2.2.2.2.2.1.2.2.2.2.2.2.1, (x2.2.2.2.2.1.2.2.2.2.2.2.2.1, x2.2.2.2.2.1.2.2.2.2.2.2.2.2)))))))), ((), ())))
  else none)) (both (
  (both (
  bif decide ((x2.2.2.1.length + 1) * 16 ≤ LIM) then
  rec2 (x2.1, (IntKind.wrap .i64 (x2.2.1 + 1)), (x2.2.2.1 ++ ([((rd (.int .u64) r3.1 0), (rd (.int .u64) r3.1 1))])), x2.2.2.2.1, ((x2.2.2.2.2.1.1, (x2.2.2.2.2.1.2.1, (x2.2.2.2.2.1.2.2.1, (x2.2.2.2.2.1.2.2.2.1, (x2.2.2.2.2.1.2.2.2.2.1, (x2.2.2.2.2.1.2.2.2.2.2.1, (x2.2.2.2.2.1.2.2.2.2.2.2.1, (x2.2.2.2.2.1.2.2.2.2.2.2.2.1, x2.2.2.2.2.1.2.2.2.2.2.2.2.2)))))))), ((), ())))
  else none) (
  (fun o => both o o) (
  bif decide ((x2.2.2.1.length + 1) * 16 ≤ LIM) then
  rec2 (x2.1, (IntKind.wrap .i64 (x2.2.1 + 1)), (x2.2.2.1 ++ ([((rd (.int .u64) r3.1 0), (rd (.int .u64) r3.1 1))])), x2.2.2.2.1, ((x2.2.2.2.2.1.1, (x2.2.2.2.2.1.2.1, (x2.2.2.2.2.1.2.2.1, (x2.2.2.2.2.1.2.2.2.1, (x2.2.2.2.2.1.2.2.2.2.1, (x2.2.2.2.2.1.2.2.2.2.2.1, (x2.2.2.2.2.1.2.2.2.2.2.2.1, (x2.2.2.2.2.1.2.2.2.2.2.2.2.1, x2.2.2.2.2.1.2.2.2.2.2.2.2.2)))))))), ((), ())))
  else none)))) (
  (both (
  bif decide ((x2.2.2.1.length + 1) * 16 ≤ LIM) then
  rec2 (x2.1, (IntKind.wrap .i64 (x2.2.1 + 1)), (x2.2.2.1 ++ ([((rd (.int .u64) r3.1 0), (rd (.int .u64) r3.1 1))])), x2.2.2.2.1, ((x2.2.2.2.2.1.1, (x2.2.2.2.2.1.2.1, (x2.2.2.2.2.1.2.2.1, (x2.2.2.2.2.1.2.2.2.1, (x2.2.2.2.2.1.2.2.2.2.1, (x2.2.2.2.2.1.2.2.2.2.2.1, (x2.2.2.2.2.1.2.2.2.2.2.2.1, (x2.2.2.2.2.1.2.2.2.2.2.2.2.1, x2.2.2.2.2.1.2.2.2.2.2.2.2.2)))))))), ((), ())))
  else none) (
  (fun o => both o o) (
  bif decide ((x2.2.2.1.length + 1) * 16 ≤ LIM) then
  rec2 (x2.1, (IntKind.wrap .i64 (x2.2.1 + 1)), (x2.2.2.1 ++ ([((rd (.int .u64) r3.1 0), (rd (.int .u64) r3.1 1))])), x2.2.2.2.1, ((x2.2.2.2.2.1.1, (x2.2.2.2.2.1.2.1, (x2.2.2.2.2.1.2.2.1, (x2.2.2.2.2.1.2.2.2.1, (x2.2.2.2.2.1.2.2.2.2.1, (x2.2.2.2.2.1.2.2.2.2.2.1, (x2.2.2.2.2.1.2.2.2.2.2.2.1, (x2.2.2.2.2.1.2.2.2.2.2.2.2.1, x2.2.2.2.2.1.2.2.2.2.2.2.2.2)))))))), ((), ())))
  else none))))))
  else none
  else none)
  else (
  some ((0, 0, 0, 0, ([] : List (Int × (Int × Int))), 0, 0, 0, 0, ([] : List (Int × Int)), ([] : List (Int × (Int × Int)))), 2)))))))
  else (
  bif decide ((rd (.pair (.int .u64) (.slice 5 (.int .u8))) r1.1 x2.2.1).1 = 3) then (
  bif (bif decide (r3.2 = 0) then decide ((r3.1.length : Int) = 1) else false) then (
  bif inb 0 r3.1.length then
  rec2 (x2.1, (IntKind.wrap .i64 (x2.2.1 + 1)), x2.2.2.1, x2.2.2.2.1, ((x2.2.2.2.2.1.1, (x2.2.2.2.2.1.2.1, ((rd (.int .u64) r3.1 0), (x2.2.2.2.2.1.2.2.2.1, (x2.2.2.2.2.1.2.2.2.2.1, (x2.2.2.2.2.1.2.2.2.2.2.1, (x2.2.2.2.2.1.2.2.2.2.2.2.1, (x2.2.2.2.2.1.2.2.2.2.2.2.2.1, x2.2.2.2.2.1.2.2.2.2.2.2.2.2)))))))), ((), ())))
  else none)
  else (
  bif ((bif decide ((rd (.pair (.int .u64) (.slice 5 (.int .u8))) r1.1 x2.2.1).1 = 2) then (bif decide (r3.2 = 0) then decide ((r3.1.length : Int) = 1) else false) else false) == true) then (
  bif inb 0 r3.1.length then
  bif decide ((rd (.int .u64) r3.1 0) < 16) then (
  bif inb 0 r3.1.length then
  rec2 (x2.1, (IntKind.wrap .i64 (x2.2.1 + 1)), x2.2.2.1, x2.2.2.2.1, ((x2.2.2.2.2.1.1, ((IntKind.wrap .i64 (rd (.int .u64) r3.1 0)), (x2.2.2.2.2.1.2.2.1, (x2.2.2.2.2.1.2.2.2.1, (x2.2.2.2.2.1.2.2.2.2.1, (x2.2.2.2.2.1.2.2.2.2.2.1, (x2.2.2.2.2.1.2.2.2.2.2.2.1, (x2.2.2.2.2.1.2.2.2.2.2.2.2.1, x2.2.2.2.2.1.2.2.2.2.2.2.2.2)))))))), ((), ())))
  else none)
  else (
  bif decide ((rd (.pair (.int .u64) (.slice 5 (.int .u8))) r1.1 x2.2.1).1 = 4) then (
  (F53 ((rd (.pair (.int .u64) (.slice 5 (.int .u8))) r1.1 x2.2.1).2)).bind fun r4 =>
  bif (!decide (r4.2 = 0)) then (
  some ((0, 0, 0, 0, ([] : List (Int × (Int × Int))), 0, 0, 0, 0, ([] : List (Int × Int)), ([] : List (Int × (Int × Int)))), 2))
  else (
  rec2 (x2.1, (IntKind.wrap .i64 (x2.2.1 + 1)), x2.2.2.1, x2.2.2.2.1, ((x2.2.2.2.2.1.1, (x2.2.2.2.2.1.2.1, (x2.2.2.2.2.1.2.2.1, (r4.1.1, (r4.1.2.1, (r4.1.2.2, (x2.2.2.2.2.1.2.2.2.2.2.2.1, (x2.2.2.2.2.1.2.2.2.2.2.2.2.1, x2.2.2.2.2.1.2.2.2.2.2.2.2.2)))))))), ((), ())))))
  else (
  bif decide (48 ≤ (rd (.pair (.int .u64) (.slice 5 (.int .u8))) r1.1 x2.2.1).1) then (
  (F54 ((rd (.pair (.int .u64) (.slice 5 (.int .u8))) r1.1 x2.2.1).2)).bind fun r5 =>
  (fun o => both o o) (
  bif decide ((x2.2.2.2.1.length + 1) * 24 ≤ LIM) then
  bif (!decide (r5.2 = 0)) then (
  some ((0, 0, 0, 0, ([] : List (Int × (Int × Int))), 0, 0, 0, 0, ([] : List (Int × Int)), ([] : List (Int × (Int × Int)))), 2))
  else (
  rec2 (x2.1, (IntKind.wrap .i64 (x2.2.1 + 1)), x2.2.2.1, (x2.2.2.2.1 ++ ([(r5.1.1, (r5.1.2.1, r5.1.2.2))])), ((x2.2.2.2.2.1.1, (x2.2.2.2.2.1.2.1, (x2.2.2.2.2.1.2.2.1, (x2.2.2.2.2.1.2.2.2.1, (x2.2.2.2.2.1.2.2.2.2.1, (x2.2.2.2.2.1.2.2.2.2.2.1, (x2.2.2.2.2.1.2.2.2.2.2.2.1, (x2.2.2.2.2.1.2.2.2.2.2.2.2.1, x2.2.2.2.2.1.2.2.2.2.2.2.2.2)))))))), ((), ()))))
  else none))
  else (
  bif (bif (bif decide (32 ≤ (rd (.pair (.int .u64) (.slice 5 (.int .u8))) r1.1 x2.2.1).1) then decide (r3.2 = 0) else false) then decide ((r3.1.length : Int) = 2) else false) then (
  bif inb 0 r3.1.length then
  bif inb 1 r3.1.length then
  (both (
  (fun o => both o o) (
  bif decide ((x2.2.2.1.length + 1) * 16 ≤ LIM) then
  rec2 (x2.1, (IntKind.wrap .i64 (x2.2.1 + 1)), (x2.2.2.1 ++ ([((rd (.int .u64) r3.1 0), (rd (.int .u64) r3.1 1))])), x2.2.2.2.1, ((x2.2.2.2.2.1.1, (x2.2.2.2.2.1.2.1, (x2.2.2.2.2.1.2.2.1, (x2.2.2.2.2.1.2.2.2.1, (x2.2.2.2.2.1.2.2.2.2.1, (x2.2.2.2.2.1.2.2.2.2.2.1, (x2.2.2.2.2.1.2.2.2.2.2.2.1, (x2.2.2.2.2.1.2.2.2.2.2.2.2.1, x2.2.2.2.2.1.2.2.2.2.2.2.2.2)))))))), ((), ())))
  else none)) (both (
  (both (
  bif decide ((x2.2.2.1.length + 1) * 16 ≤ LIM) then
  rec2 (x2.1, (IntKind.wrap .i64 (x2.2.1 + 1)), (x2.2.2.1 ++ ([((rd (.int .u64) r3.1 0), (rd (.int .u64) r3.1 1))])), x2.2.2.2.1, ((x2.2.2.2.2.1.1, (x2.2.2.2.2.1.2.1, (x2.2.2.2.2.1.2.2.1, (x2.2.2.2.2.1.2.2.2.1, (x2.2.2.2.2.1.2.2.2.2.1, (x2.2.2.2.2.1.2.2.2.2.2.1, (x2.2.2.2.2.1.2.2.2.2.2.2.1, (x2.2.2.2.2.1.2.2.2.2.2.2.2.1, x2.2.2.2.2.1.2.2.2.2.2.2.2.2)))))))), ((), ())))
  else none) (
  (fun o => both o o) (
  bif decide ((x2.2.2.1.length + 1) * 16 ≤ LIM) then
  rec2 (x2.1, (IntKind.wrap .i64 (x2.2.1 + 1)), (x2.2.2.1 ++ ([((rd (.int .u64) r3.1 0), (rd (.int .u64) r3.1 1))])), x2.2.2.2.1, ((x2.2.2.2.2.1.1, (x2.2.2.2.2.1.2.1, (x2.2.2.2.2.1.2.2.1, (x2.2.2.2.2.1.2.2.2.1, (x2.2.2.2.2.1.2.2.2.2.1, (x2.2.2.2.2.1.2.2.2.2.2.1, (x2.2.2.2.2.1.2.2.2.2.2.2.1, (x2.2.2.2.2.1.2.2.2.2.2.2.2.1, x2.2.2.2.2.1.2.2.2.2.2.2.2.2)))))))), ((), ())))
  else none)))) (
  (both (
  bif decide ((x2.2.2.1.length + 1) * 16 ≤ LIM) then
  rec2 (x2.1, (IntKind.wrap .i64 (x2.2.1 + 1)), (x2.2.2.1 ++ ([((rd (.int .u64) r3.1 0), (rd (.int .u64) r3.1 1))])), x2.2.2.2.1, ((x2.2.2.2.2.1.1, (x2.2.2.2.2.1.2.1, (x2.2.2.2.2.1.2.2.1, (x2.2.2.2.2.1.2.2.2.1, (x2.2.2.2.2.1.2.2.2.2.1, (x2.2.2.2.2.1.2.2.2.2.2.1, (x2.2.2.2.2.1.2.2.2.2.2.2.1, (x2.2.2.2.2.1.2.2.2.2.2.2.2.1, x2.2.2.2.2.1.2.2.2.2.2.2.2.2)))))))), ((), ())))
  else none) (
  (fun o => both o o) (
  bif decide ((x2.2.2.1.length + 1) * 16 ≤ LIM) then
  rec2 (x2.1, (IntKind.wrap .i64 (x2.2.1 + 1)), (x2.2.2.1 ++ ([((rd (.int .u64) r3.1 0), (rd (.int .u64) r3.1 1))])), x2.2.2.2.1, ((x2.2.2.2.2.1.1, (x2.2.2.2.2.1.2.1, (x2.2.2.2.2.1.2.2.1, (x2.2.2.2.2.1.2.2.2.1, (x2.2.2.2.2.1.2.2.2.2.1, (x2.2.2.2.2.1.2.2.2.2.2.1, (x2.2.2.2.2.1.2.2.2.2.2.2.1, (x2.2.2.2.2.1.2.2.2.2.2.2.2.1, x2.2.2.2.2.1.2.2.2.2.2.2.2.2)))))))), ((), ())))
  else none))))))
  else none
  else none)
  else (
  some ((0, 0, 0, 0, ([] : List (Int × (Int × Int))), 0, 0, 0, 0, ([] : List (Int × Int)), ([] : List (Int × (Int × Int)))), 2)))))
  else none)
  else (
  bif decide ((rd (.pair (.int .u64) (.slice 5 (.int .u8))) r1.1 x2.2.1).1 = 4) then (
  (F53 ((rd (.pair (.int .u64) (.slice 5 (.int .u8))) r1.1 x2.2.1).2)).bind fun r6 =>
  bif (!decide (r6.2 = 0)) then (
  some ((0, 0, 0, 0, ([] : List (Int × (Int × Int))), 0, 0, 0, 0, ([] : List (Int × Int)), ([] : List (Int × (Int × Int)))), 2))
  else (
  rec2 (x2.1, (IntKind.wrap .i64 (x2.2.1 + 1)), x2.2.2.1, x2.2.2.2.1, ((x2.2.2.2.2.1.1, (x2.2.2.2.2.1.2.1, (x2.2.2.2.2.1.2.2.1, (r6.1.1, (r6.1.2.1, (r6.1.2.2, (x2.2.2.2.2.1.2.2.2.2.2.2.1, (x2.2.2.2.2.1.2.2.2.2.2.2.2.1, x2.2.2.2.2.1.2.2.2.2.2.2.2.2)))))))), ((), ())))))
  else (
  bif decide (48 ≤ (rd (.pair (.int .u64) (.slice 5 (.int .u8))) r1.1 x2.2.1).1) then (
  (F54 ((rd (.pair (.int .u64) (.slice 5 (.int .u8))) r1.1 x2.2.1).2)).bind fun r7 =>
  (fun o => both o o) (
  bif decide ((x2.2.2.2.1.length + 1) * 24 ≤ LIM) then
  bif (!decide (r7.2 = 0)) then (
  some ((0, 0, 0, 0, ([] : List (Int × (Int × Int))), 0, 0, 0, 0, ([] : List (Int × Int)), ([] : List (Int × (Int × Int)))), 2))
  else (
  rec2 (x2.1, (IntKind.wrap .i64 (x2.2.1 + 1)), x2.2.2.1, (x2.2.2.2.1 ++ ([(r7.1.1, (r7.1.2.1, r7.1.2.2))])), ((x2.2.2.2.2.1.1, (x2.2.2.2.2.1.2.1, (x2.2.2.2.2.1.2.2.1, (x2.2.2.2.2.1.2.2.2.1, (x2.2.2.2.2.1.2.2.2.2.1, (x2.2.2.2.2.1.2.2.2.2.2.1, (x2.2.2.2.2.1.2.2.2.2.2.2.1, (x2.2.2.2.2.1.2.2.2.2.2.2.2.1, x2.2.2.2.2.1.2.2.2.2.2.2.2.2)))))))), ((), ()))))
  else none))
  else (
  bif (bif (bif decide (32 ≤ (rd (.pair (.int .u64) (.slice 5 (.int .u8))) r1.1 x2.2.1).1) then decide (r3.2 = 0) else false) then decide ((r3.1.length : Int) = 2) else false) then (
  bif inb 0 r3.1.length then
  bif inb 1 r3.1.length then
  (both (
  (fun o => both o o) (
  bif decide ((x2.2.2.1.length + 1) * 16 ≤ LIM) then
  rec2 (x2.1, (IntKind.wrap .i64 (x2.2.1 + 1)), (x2.2.2.1 ++ ([((rd (.int .u64) r3.1 0), (rd (.int .u64) r3.1 1))])), x2.2.2.2.1, ((x2.2.2.2.2.1.1, (x2.2.2.2.2.1.2.1, (x2.2.2.2.2.1.2.2.1, (x2.2.2.2.2.1.2.2.2.1, (x2.2.2.2.2.1.2.2.2.2.1, (x2.2.2.2.2.1.2.2.2.2.2.1, (x2.2.2.2.2.1.2.2.2.2.2.2.1, (x2.2.2.2.2.1.2.2.2.2.2.2.2.1, x2.2.2.2.2.1.2.2.2.2.2.2.2.2)))))))), ((), ())))
  else none)) (both (
  (both (
  bif decide ((x2.2.2.1.length + 1) * 16 ≤ LIM) then
  rec2 (x2.1, (IntKind.wrap .i64 (x2.2.1 + 1)), (x2.2.2.1 ++ ([((rd (.int .u64) r3.1 0), (rd (.int .u64) r3.1 1))])), x2.2.2.2.1, ((x2.2.2.2.2.1.1, (x2.2.2.2.2.1.2.1, (x2.2.2.2.2.1.2.2.1, (x2.2.2.2.2.1.2.2.2.1, (x2.2.2.2.2.1.2.2.2.2.1, (x2.2.2.2.2.1.2.2.2.2.2.1, (x2.2.2.2.2.1.2.2.2.2.2.2.1, (x2.2.2.2.2.1.2.2.2.2.2.2.2.1, x2.2.2.2.2.1.2.2.2.2.2.2.2.2)))))))), ((), ())))
  else none) (
  (fun o => both o o) (
  bif decide ((x2.2.2.1.length + 1) * 16 ≤ LIM) then
  rec2 (x2.1, (IntKind.wrap .i64 (x2.2.1 + 1)), (x2.2.2.1 ++ ([((rd (.int .u64) r3.1 0), (rd (.int .u64) r3.1 1))])), x2.2.2.2.1, ((x2.2.2.2.2.1.1, (x2.2.2.2.2.1.2.1, (x2.2.2.2.2.1.2.2.1, (x2.2.2.2.2.1.2.2.2.1, (x2.2.2.2.2.1.2.2.2.2.1, (x2.2.2.2.2.1.2.2.2.2.2.1, (x2.2.2.2.2.1.2.2.2.2.2.2.1, (x2.2.2.2.2.1.2.2.2.2.2.2.2.1, x2.2.2.2.2.1.2.2.2.2.2.2.2.2)))))))), ((), ())))
  else none)))) (
  (both (
  bif decide ((x2.2.2.1.length + 1) * 16 ≤ LIM) then
  rec2 (x2.1, (IntKind.wrap .i64 (x2.2.1 + 1)), (x2.2.2.1 ++ ([((rd (.int .u64) r3.1 0), (rd (.int .u64) r3.1 1))])), x2.2.2.2.1, ((x2.2.2.2.2.1.1, (x2.2.2.2.2.1.2.1, (x2.2.2.2.2.1.2.2.1, (x2.2.2.2.2.1.2.2.2.1, (x2.2.2.2.2.1.2.2.2.2.1, (x2.2.2.2.2.1.2.2.2.2.2.1, (x2.2.2.2.2.1.2.2.2.2.2.2.1, (x2.2.2.2.2.1.2.2.2.2.2.2.2.1, x2.2.2.2.2.1.2.2.2.2.2.2.2.2)))))))), ((), ())))
  else none) (
  (fun o => both o o) (
  bif decide ((x2.2.2.1.length + 1) * 16 ≤ LIM) then
  rec2 (x2.1, (IntKind.wrap .i64 (x2.2.1 + 1)), (x2.2.2.1 ++ ([((rd (.int .u64) r3.1 0), (rd (.int .u64) r3.1 1))])), x2.2.2.2.1, ((x2.2.2.2.2.1.1, (x2.2.2.2.2.1.2.1, (x2.2.2.2.2.1.2.2.1, (x2.2.2.2.2.1.2.2.2.1, (x2.2.2.2.2.1.2.2.2.2.1, (x2.2.2.2.2.1.2.2.2.2.2.1, (x2.2.2.2.2.1.2.2.2.2.2.2.1, (x2.2.2.2.2.1.2.2.2.2.2.2.2.1, x2.2.2.2.2.1.2.2.2.2.2.2.2.2)))))))), ((), ())))
  else none))))))
  else none
  else none)
  else (
  some ((0, 0, 0, 0, ([] : List (Int × (Int × Int))), 0, 0, 0, 0, ([] : List (Int × Int)), ([] : List (Int × (Int × Int)))), 2)))))))
  else (
  bif decide ((rd (.pair (.int .u64) (.slice 5 (.int .u8))) r1.1 x2.2.1).1 = 5) then (
  bif (bif decide (r3.2 = 0) then decide ((r3.1.length : Int) = 1) else false) then (
  bif inb 0 r3.1.length then
  rec2 (x2.1, (IntKind.wrap .i64 (x2.2.1 + 1)), x2.2.2.1, x2.2.2.2.1, ((x2.2.2.2.2.1.1, (x2.2.2.2.2.1.2.1, (x2.2.2.2.2.1.2.2.1, (x2.2.2.2.2.1.2.2.2.1, (x2.2.2.2.2.1.2.2.2.2.1, (x2.2.2.2.2.1.2.2.2.2.2.1, ((rd (.int .u64) r3.1 0), (x2.2.2.2.2.1.2.2.2.2.2.2.2.1, x2.2.2.2.2.1.2.2.2.2.2.2.2.2)))))))), ((), ())))
  else none)
  else (
  bif ((bif decide ((rd (.pair (.int .u64) (.slice 5 (.int .u8))) r1.1 x2.2.1).1 = 2) then (bif decide (r3.2 = 0) then decide ((r3.1.length : Int) = 1) else false) else false) == true) then (
  bif inb 0 r3.1.length then
  bif decide ((rd (.int .u64) r3.1 0) < 16) then (
  bif inb 0 r3.1.length then
  rec2 (x2.1, (IntKind.wrap .i64 (x2.2.1 + 1)), x2.2.2.1, x2.2.2.2.1, ((x2.2.2.2.2.1.1, ((IntKind.wrap .i64 (rd (.int .u64) r3.1 0)), (x2.2.2.2.2.1.2.2.1, (x2.2.2.2.2.1.2.2.2.1, (x2.2.2.2.2.1.2.2.2.2.1, (x2.2.2.2.2.1.2.2.2.2.2.1, (x2.2.2.2.2.1.2.2.2.2.2.2.1, (x2.2.2.2.2.1.2.2.2.2.2.2.2.1, x2.2.2.2.2.1.2.2.2.2.2.2.2.2)))))))), ((), ())))
  else none)
  else (
  bif decide ((rd (.pair (.int .u64) (.slice 5 (.int .u8))) r1.1 x2.2.1).1 = 4) then (
  (F53 ((rd (.pair (.int .u64) (.slice 5 (.int .u8))) r1.1 x2.2.1).2)).bind fun r4 =>
  bif (!decide (r4.2 = 0)) then (
  some ((0, 0, 0, 0, ([] : List (Int × (Int × Int))), 0, 0, 0, 0, ([] : List (Int × Int)), ([] : List (Int × (Int × Int)))), 2))
  else (
  rec2 (x2.1, (IntKind.wrap .i64 (x2.2.1 + 1)), x2.2.2.1, x2.2.2.2.1, ((x2.2.2.2.2.1.1, (x2.2.2.2.2.1.2.1, (x2.2.2.2.2.1.2.2.1, (r4.1.1, (r4.1.2.1, (r4.1.2.2, (x2.2.2.2.2.1.2.2.2.2.2.2.1, (x2.2.2.2.2.1.2.2.2.2.2.2.2.1, x2.2.2.2.2.1.2.2.2.2.2.2.2.2)))))))), ((), ())))))
  else (
  bif decide (48 ≤ (rd (.pair (.int .u64) (.slice 5 (.int .u8))) r1.1 x2.2.1).1) then (
  (F54 ((rd (.pair (.int .u64) (.slice 5 (.int .u8))) r1.1 x2.2.1).2)).bind fun r5 =>
  (fun o => both o o) (
  bif decide ((x2.2.2.2.1.length + 1) * 24 ≤ LIM) then
  bif (!decide (r5.2 = 0)) then (
  some ((0, 0, 0, 0, ([] : List (Int × (Int × Int))), 0, 0, 0, 0, ([] : List (Int × Int)), ([] : List (Int × (Int × Int)))), 2))
  else (
  rec2 (x2.1, (IntKind.wrap .i64 (x2.2.1 + 1)), x2.2.2.1, (x2.2.2.2.1 ++ ([(r5.1.1, (r5.1.2.1, r5.1.2.2))])), ((x2.2.2.2.2.1.1, (x2.2.2.2.2.1.2.1, (x2.2.2.2.2.1.2.2.1, (x2.2.2.2.2.1.2.2.2.1, (x2.2.2.2.2.1.2.2.2.2.1, (x2.2.2.2.2.1.2.2.2.2.2.1, (x2.2.2.2.2.1.2.2.2.2.2.2.1, (x2.2.2.2.2.1.2.2.2.2.2.2.2.1, x2.2.2.2.2.1.2.2.2.2.2.2.2.2)))))))), ((), ()))))
  else none))
  else (
  bif (bif (bif decide (32 ≤ (rd (.pair (.int .u64) (.slice 5 (.int .u8))) r1.1 x2.2.1).1) then decide (r3.2 = 0) else false) then decide ((r3.1.length : Int) = 2) else false) then (
  bif inb 0 r3.1.length then
  bif inb 1 r3.1.length then
  (both (
  (fun o => both o o) (
  bif decide ((x2.2.2.1.length + 1) * 16 ≤ LIM) then
  rec2 (x2.1, (IntKind.wrap .i64 (x2.2.1 + 1)), (x2.2.2.1 ++ ([((rd (.int .u64) r3.1 0), (rd (.int .u64) r3.1 1))])), x2.2.2.2.1, ((x2.2.2.2.2.1.1, (x2.2.2.2.2.1.2.1, (x2.2.2.2.2.1.2.2.1, (x2.2.2.2.2.1.2.2.2.1, (x2.2.2.2.2.1.2.2.2.2.1, (x2.2.2.2.2.1.2.2.2.2.2.1, (x2.2.2.2.2.1.2.2.2.2.2.2.1, (x2.2.2.2.2.1.2.2.2.2.2.2.2.1, x2.2.2.2.2.1.2.2.2.2.2.2.2.2)))))))), ((), ())))
  else none)) (both (
  (both (
  bif decide ((x2.2.2.1.length + 1) * 16 ≤ LIM) then
  rec2 (x2.1, (IntKind.wrap .i64 (x2.2.1 + 1)), (x2.2.2.1 ++ ([((rd (.int .u64) r3.1 0), (rd (.int .u64) r3.1 1))])), x2.2.2.2.1, ((x2.2.2.2.2.1.1, (x2.2.2.2.2.1.2.1, (x2.2.2.2.2.1.2.2.1, (x2.2.2.2.2.1.2.2.2.1, (x2.2.2.2.2.1.2.2.2.2.1, (x2.2.2.2.2.1.2.2.2.2.2.1, (x2.2.2.2.2.1.2.2.2.2.2.2.1, (x2.2.2.2.2.1.2.2.2.2.2.2.2.1, x2.2.2.2.2.1.2.2.2.2.2.2.2.2)))))))), ((), ())))
  else none) (
  (fun o => both o o) (
  bif decide ((x2.2.2.1.length + 1) * 16 ≤ LIM) then
  rec2 (x2.1, (IntKind.wrap .i64 (x2.2.1 + 1)), (x2.2.2.1 ++ ([((rd (.int .u64) r3.1 0), (rd (.int .u64) r3.1 1))])), x2.2.2.2.1, ((x2.2.2.2.2.1.1, (x2.2.2.2.2.1.2.1, (x2.2.2.2.2.1.2.2.1, (x2.2.2.2.2.1.2.2.2.1, (x2.2.2.2.2.1.2.2.2.2.1, (x2.2.2.2.2.1.2.2.2.2.2.1, (x2.2.2.2.2.1.2.2.2.2.2.2.1, (x2.2.2.2.2.1.2.2.2.2.2.2.2.1, x2.2.2.2.2.1.2.2.2.2.2.2.2.2)))))))), ((), ())))
  else none)))) (
  (both (
  bif decide ((x2.2.2.1.length + 1) * 16 ≤ LIM) then
  rec2 (x2.1, (IntKind.wrap .i64 (x2.2.1 + 1)), (x2.2.2.1 ++ ([((rd (.int .u64) r3.1 0), (rd (.int .u64) r3.1 1))])), x2.2.2.2.1, ((x2.2.2.2.2.1.1, (x2.2.2.2.2.1.2.1, (x2.2.2.2.2.1.2.2.1, (x2.2.2.2.2.1.2.2.2.1, (x2.2.2.2.2.1.2.2.2.2.1, (x2.2.2.2.2.1.2.2.2.2.2.1, (x2.2.2.2.2.1.2.2.2.2.2.2.1, (x2.2.2.2.2.1.2.2.2.2.2.2.2.1, x2.2.2.2.2.1.2.2.2.2.2.2.2.2)))))))), ((), ())))
  else none) (
  (fun o => both o o) (
  bif decide ((x2.2.2.1.length + 1) * 16 ≤ LIM) then
  rec2 (x2.1, (IntKind.wrap .i64 (x2.2.1 + 1)), (x2.2.2.1 ++ ([((rd (.int .u64) r3.1 0), (rd (.int .u64) r3.1 1))])), x2.2.2.2.1, ((x2.2.2.2.2.1.1, (x2.2.2.2.2.1.2.1, (x2.2.2.2.2.1.2.2.1, (x2.2.2.2.2.1.2.2.2.1, (x2.2.2.2.2.1.2.2.2.2.1, (x2.2.2.2.2.1.2.2.2.2.2.1, (x2.2.2.2.2.1.2.2.2.2.2.2.1, (x2.2.2.2.2.1.2.2.2.2.2.2.2.1, x2.2.2.2.2.1.2.2.2.2.2.2.2.2)))))))), ((), ())))
  else none))))))
  else none
  else none)
  else (
  some ((0, 0, 0, 0, ([] : List (Int × (Int × Int))), 0, 0, 0, 0, ([] : List (Int × Int)), ([] : List (Int × (Int × Int)))), 2)))))
  else none)
  else (
  bif decide ((rd (.pair (.int .u64) (.slice 5 (.int .u8))) r1.1 x2.2.1).1 = 4) then (
  (F53 ((rd (.pair (.int .u64) (.slice 5 (.int .u8))) r1.1 x2.2.1).2)).bind fun r6 =>
  bif (!decide (r6.2 = 0)) then (
  some ((0, 0, 0, 0, ([] : List (Int × (Int × Int))), 0, 0, 0, 0, ([] : List (Int × Int)), ([] : List (Int × (Int × Int)))), 2))
  else (
  rec2 (x2.1, (IntKind.wrap .i64 (x2.2.1 + 1)), x2.2.2.1, x2.2.2.2.1, ((x2.2.2.2.2.1.1, (x2.2.2.2.2.1.2.1, (x2.2.2.2.2.1.2.2.1, (r6.1.1, (r6.1.2.1, (r6.1.2.2, (x2.2.2.2.2.1.2.2.2.2.2.2.1, (x2.2.2.2.2.1.2.2.2.2.2.2.2.1, x2.2.2.2.2.1.2.2.2.2.2.2.2.2)))))))), ((), ())))))
  else (
  bif decide (48 ≤ (rd (.pair (.int .u64) (.slice 5 (.int .u8))) r1.1 x2.2.1).1) then (
  (F54 ((rd (.pair (.int .u64) (.slice 5 (.int .u8))) r1.1 x2.2.1).2)).bind fun r7 =>
  (fun o => both o o) (
  bif decide ((x2.2.2.2.1.length + 1) * 24 ≤ LIM) then
  bif (!decide (r7.2 = 0)) then (
  some ((0, 0, 0, 0, ([] : List (Int × (Int × Int))), 0, 0, 0, 0, ([] : List (Int × Int)), ([] : List (Int × (Int × Int)))), 2))
  else (
  rec2 (x2.1, (IntKind.wrap .i64 (x2.2.1 + 1)), x2.2.2.1, (x2.2.2.2.1 ++ ([(r7.1.1, (r7.1.2.1, r7.1.2.2))])), ((x2.2.2.2.2.1.1, (x2.2.2.2.2.1.2.1, (x2.2.2.2.2.1.2.2.1, (x2.2.2.2.2.1.2.2.2.1, (x2.2.2.2.2.1.2.2.2.2.1, (x2.2.2.2.2.1.2.2.2.2.2.1, (x2.2.2.2.2.1.2.2.2.2.2.2.1, (x2.2.2.2.2.1.2.2.2.2.2.2.2.1, x2.2.2.2.2.1.2.2.2.2.2.2.2.2)))))))), ((), ()))))
  else none))
  else (
  bif (bif (bif decide (32 ≤ (rd (.pair (.int .u64) (.slice 5 (.int .u8))) r1.1 x2.2.1).1) then decide (r3.2 = 0) else false) then decide ((r3.1.length : Int) = 2) else false) then (
  bif inb 0 r3.1.length then
  bif inb 1 r3.1.length then
  (both (
  (fun o => both o o) (
  bif decide ((x2.2.2.1.length + 1) * 16 ≤ LIM) then
  rec2 (x2.1, (IntKind.wrap .i64 (x2.2.1 + 1)), (x2.2.2.1 ++ ([((rd (.int .u64) r3.1 0), (rd (.int .u64) r3.1 1))])), x2.2.2.2.1, ((x2.2.2.2.2.1.1, (x2.2.2.2.2.1.2.1, (x2.2.2.2.2.1.2.2.1, (x2.2.2.2.2.1.2.2.2.1, (x2.2.2.2.2.1.2.2.2.2.1, (x2.2.2.2.2.1.2.2.2.2.2.1, (x2.2.2.2.2.1.2.2.2.2.2.2.1, (x2.2.2.2.2.1.2.2.2.2.2.2.2.1, x2.2.2.2.2.1.2.2.2.2.2.2.2.2)))))))), ((), ())))
  else none)) (both (
  (both (
  bif decide ((x2.2.2.1.length + 1) * 16 ≤ LIM) then
  rec2 (x2.1, (IntKind.wrap .i64 (x2.2.1 + 1)), (x2.2.2.1 ++ ([((rd (.int .u64) r3.1 0), (rd (.int .u64) r3.1 1))])), x2.2.2.2.1, ((x2.2.2.2.2.1.1, (x2.2.2.2.2.1.2.1, (x2.2.2.2.2.1.2.2.1, (x2.2.2.2.2.1.2.2.2.1, (x2.2.2.2.2.1.2.2.2.2.1, (x2.2.2.2.2.1.2.2.2.2.2.1, (x2.2.2.2.2.1.2.2.2.2.2.2.1, (x2.2.2.2.2.1.2.2.2.2.2.2.2.1, x2.2.2.2.2.1.2.2.2.2.2.2.2.2)))))))), ((), ())))
  else none) (
  (fun o => both o o) (
  bif decide ((x2.2.2.1.length + 1) * 16 ≤ LIM) then
  rec2 (x2.1, (IntKind.wrap .i64 (x2.2.1 + 1)), (x2.2.2.1 ++ ([((rd (.int .u64) r3.1 0), (rd (.int .u64) r3.1 1))])), x2.2.2.2.1, ((x2.2.2.2.2.1.1, (x2.2.2.2.2.1.2.1, (x2.2.2.2.2.1.2.2.1, (x2.2.2.2.2.1.2.2.2.1, (x2.2.2.2.2.1.2.2.2.2.1, (x2.2.2.2.2.1.2.2.2.2.2.1, (x2.2.2.2.2.1.2.2.2.2.2.2.1, (x2.2.2.2.2.1.2.2.2.2.2.2.2.1, x2.2.2.2.2.1.2.2.2.2.2.2.2.2)))))))), ((), ())))
  else none)))) (
  (both (
  bif decide ((x2.2.2.1.length + 1) * 16 ≤ LIM) then
  rec2 (x2.1, (IntKind.wrap .i64 (x2.2.1 + 1)), (x2.2.2.1 ++ ([((rd (.int .u64) r3.1 0), (rd (.int .u64) r3.1 1))])), x2.2.2.2.1, ((x2.2.2.2.2.1.1, (x2.2.2.2.2.1.2.1, (x2.2.2.2.2.1.2.2.1, (x2.2.2.2.2.1.2.2.2.1, (x2.2.2.2.2.1.2.2.2.2.1, (x2.2.2.2.2.1.2.2.2.2.2.1, (x2.2.2.2.2.1.2.2.2.2.2.2.1, (x2.2.2.2.2.1.2.2.2.2.2.2.2.1, x2.2.2.2.2.1.2.2.2.2.2.2.2.2)))))))), ((), ())))
  else none) (
  (fun o => both o o) (
  bif decide ((x2.2.2.1.length + 1) * 16 ≤ LIM) then
  rec2 (x2.1, (IntKind.wrap .i64 (x2.2.1 + 1)), (x2.2.2.1 ++ ([((rd (.int .u64) r3.1 0), (rd (.int .u64) r3.1 1))])), x2.2.2.2.1, ((x2.2.2.2.2.1.1, (x2.2.2.2.2.1.2.1, (x2.2.2.2.2.1.2.2.1, (x2.2.2.2.2.1.2.2.2.1, (x2.2.2.2.2.1.2.2.2.2.1, (x2.2.2.2.2.1.2.2.2.2.2.1, (x2.2.2.2.2.1.2.2.2.2.2.2.1, (x2.2.2.2.2.1.2.2.2.2.2.2.2.1, x2.2.2.2.2.1.2.2.2.2.2.2.2.2)))))))), ((), ())))
  else none))))))
  else none
  else none)
  else (
  some ((0, 0, 0, 0, ([] : List (Int × (Int × Int))), 0, 0, 0, 0, ([] : List (Int × Int)), ([] : List (Int × (Int × Int)))), 2)))))))
  else (
  bif decide ((rd (.pair (.int .u64) (.slice 5 (.int .u8))) r1.1 x2.2.1).1 = 6) then (
  bif (bif decide (r3.2 = 0) then decide ((r3.1.length : Int) = 1) else false) then (
  bif inb 0 r3.1.length then
  rec2 (x2.1, (IntKind.wrap .i64 (x2.2.1 + 1)), x2.2.2.1, x2.2.2.2.1, ((x2.2.2.2.2.1.1, (x2.2.2.2.2.1.2.1, (x2.2.2.2.2.1.2.2.1, (x2.2.2.2.2.1.2.2.2.1, (x2.2.2.2.2.1.2.2.2.2.1, (x2.2.2.2.2.1.2.2.2.2.2.1, (x2.2.2.2.2.1.2.2.2.2.2.2.1, ((rd (.int .u64) r3.1 0), x2.2.2.2.2.1.2.2.2.2.2.2.2.2)))))))), ((), ())))
  else none)
  else (
  bif ((bif decide ((rd (.pair (.int .u64) (.slice 5 (.int .u8))) r1.1 x2.2.1).1 = 2) then (bif decide (r3.2 = 0) then decide ((r3.1.length : Int) = 1) else false) else false) == true) then (
  bif inb 0 r3.1.length then
  bif decide ((rd (.int .u64) r3.1 0) < 16) then (
  bif inb 0 r3.1.length then
  rec2 (x2.1, (IntKind.wrap .i64 (x2.2.1 + 1)), x2.2.2.1, x2.2.2.2.1, ((x2.2.2.2.2.1.1, ((IntKind.wrap .i64 (rd (.int .u64) r3.1 0)), (x2.2.2.2.2.1.2.2.1, (x2.2.2.2.2.1.2.2.2.1, (x2.2.2.2.2.1.2.2.2.2.1, (x2.2.2.2.2.1.2.2.2.2.2.1, (x2.2.2.2.2.1.2.2.2.2.2.2.1, (x2.2.2.2.2.1.2.2.2.2.2.2.2.1, x2.2.2.2.2.1.2.2.2.2.2.2.2.2)))))))), ((), ())))
  else none)
  else (
  bif decide ((rd (.pair (.int .u64) (.slice 5 (.int .u8))) r1.1 x2.2.1).1 = 4) then (
  (F53 ((rd (.pair (.int .u64) (.slice 5 (.int .u8))) r1.1 x2.2.1).2)).bind fun r4 =>
  bif (!decide (r4.2 = 0)) then (
  some ((0, 0, 0, 0, ([] : List (Int × (Int × Int))), 0, 0, 0, 0, ([] : List (Int × Int)), ([] : List (Int × (Int × Int)))), 2))
  else (
  rec2 (x2.1, (IntKind.wrap .i64 (x2.2.1 + 1)), x2.2.2.1, x2.2.2.2.1, ((x2.2.2.2.2.1.1, (x2.2.2.2.2.1.2.1, (x2.2.2.2.2.1.2.2.1, (r4.1.1, (r4.1.2.1, (r4.1.2.2, (x2.2.2.2.2.1.2.2.2.2.2.2.1, (x2.2.2.2.2.1.2.2.2.2.2.2.2.1, x2.2.2.2.2.1.2.2.2.2.2.2.2.2)))))))), ((), ())))))
  else (
  bif decide (48 ≤ (rd (.pair (.int .u64) (.slice 5 (.int .u8))) r1.1 x2.2.1).1) then (
  (F54 ((rd (.pair (.int .u64) (.slice 5 (.int .u8))) r1.1 x2.2.1).2)).bind fun r5 =>
  (fun o => both o o) (
  bif decide ((x2.2.2.2.1.length + 1) * 24 ≤ LIM) then
  bif (!decide (r5.2 = 0)) then (
  some ((0, 0, 0, 0, ([] : List (Int × (Int × Int))), 0, 0, 0, 0, ([] : List (Int × Int)), ([] : List (Int × (Int × Int)))), 2))
  else (
  rec2 (x2.1, (IntKind.wrap .i64 (x2.2.1 + 1)), x2.2.2.1, (x2.2.2.2.1 ++ ([(r5.1.1, (r5.1.2.1, r5.1.2.2))])), ((x2.2.2.2.2.1.1, (x2.2.2.2.2.1.2.1, (x2.2.2.2.2.1.2.2.1, (x2.2.2.2.2.1.2.2.2.1, (x2.2.2.2.2.1.2.2.2.2.1, (x2.2.2.2.2.1.2.2.2.2.2.1, (x2.2.2.2.2.1.2.2.2.2.2.2.1, (x2.2.2.2.2.1.2.2.2.2.2.2.2.1, x2.2.2.2.2.1.2.2.2.2.2.2.2.2)))))))), ((), ()))))
  else none))
  else (
  bif (bif (bif decide (32 ≤ (rd (.pair (.int .u64) (.slice 5 (.int .u8))) r1.1 x2.2.1).1) then decide (r3.2 = 0) else false) then decide ((r3.1.length : Int) = 2) else false) then (
  bif inb 0 r3.1.length then
  bif inb 1 r3.1.length then
  (both (
  (fun o => both o o) (
  bif decide ((x2.2.2.1.length + 1) * 16 ≤ LIM) then
  rec2 (x2.1, (IntKind.wrap .i64 (x2.2.1 + 1)), (x2.2.2.1 ++ ([((rd (.int .u64) r3.1 0), (rd (.int .u64) r3.1 1))])), x2.2.2.2.1, ((x2.2.2.2.2.1.1, (x2.2.2.2.2.1.2.1, (x2.2.2.2.2.1.2.2.1, (x2.2.2.2.2.1.2.2.2.1, (x2.2.2.2.2.1.2.2.2.2.1, (x2.2.2.2.2.1.2.2.2.2.2.1, (x2.2.2.2.2.1.2.2.2.2.2.2.1, (x2.2.2.2.2.1.2.2.2.2.2.2.2.1, x2.2.2.2.2.1.2.2.2.2.2.2.2.2)))))))), ((), ())))
  else none)) (both (
  (both (
  bif decide ((x2.2.2.1.length + 1) * 16 ≤ LIM) then
  rec2 (x2.1, (IntKind.wrap .i64 (x2.2.1 + 1)), (x2.2.2.1 ++ ([((rd (.int .u64) r3.1 0), (rd (.int .u64) r3.1 1))])), x2.2.2.2.1, ((x2.2.2.2.2.1.1, (x2.2.2.2.2.1.2.1, (x2.2.2.2.2.1.2.2.1, (x2.2.2.2.2.1.2.2.2.1, (x2.2.2.2.2.1.2.2.2.2.1, (x2.2.2.2.2.1.2.2.2.2.2.1, (x2.2.2.2.2.1.2.2.2.2.2.2.1, (x2.2.2.2.2.1.2.2.2.2.2.2.2.1, x2.2.2.2.2.1.2.2.2.2.2.2.2.2)))))))), ((), ())))
  else none) (
  (fun o => both o o) (
  bif decide ((x2.2.2.1.length + 1) * 16 ≤ LIM) then
  rec2 (x2.1, (IntKind.wrap .i64 (x2.2.1 + 1)), (x2.2.2.1 ++ ([((rd (.int .u64) r3.1 0), (rd (.int .u64) r3.1 1))])), x2.2.2.2.1, ((x2.2.2.2.2.1.1, (x2.2.2.2.2.1.2.1, (x2.2.2.2.2.1.2.2.1, (x2.2.2.2.2.1.2.2.2.1, (x2.2.2.2.2.1.2.2.2.2.1, (x2.2.2.2.2.1.2.2.2.2.2.1, (x2.2.2.2.2.1.2.2.2.2.2.2.1, (x2.2.2.2.2.1.2.2.2.2.2.2.2.1, x2.2.2.2.2.1.2.2.2.2.2.2.2.2)))))))), ((), ())))
  else none)))) (
  (both (
  bif decide ((x2.2.2.1.length + 1) * 16 ≤ LIM) then
  rec2 (x2.1, (IntKind.wrap .i64 (x2.2.1 + 1)), (x2.2.2.1 ++ ([((rd (.int .u64) r3.1 0), (rd (.int .u64) r3.1 1))])), x2.2.2.2.1, ((x2.2.2.2.2.1.1, (x2.2.2.2.2.1.2.1, (x2.2.2.2.2.1.2.2.1, (x2.2.2.2.2.1.2.2.2.1, (x2.2.2.2.2.1.2.2.2.2.1, (x2.2.2.2.2.1.2.2.2.2.2.1, (x2.2.2.2.2.1.2.2.2.2.2.2.1, (x2.2.2.2.2.1.2.2.2.2.2.2.2.1, x2.2.2.2.2.1.2.2.2.2.2.2.2.2)))))))), ((), ())))
  else none) (
  (fun o => both o o) (
  bif decide ((x2.2.2.1.length + 1) * 16 ≤ LIM) then
  rec2 (x2.1, (IntKind.wrap .i64 (x2.2.1 + 1)), (x2.2.2.1 ++ ([((rd (.int .u64) r3.1 0), (rd (.int .u64) r3.1 1))])), x2.2.2.2.1, ((x2.2.2.2.2.1.1, (x2.2.2.2.2.1.2.1, (x2.2.2.2.2.1.2.2.1, (x2.2.2.2.2.1.2.2.2.1, (x2.2.2.2.2.1.2.2.2.2.1, (x2.2.2.2.2.1.2.2.2.2.2.1, (x2.2.2.2.2.1.2.2.2.2.2.2.1, (x2.2.2.2.2.1.2.2.2.2.2.2.2.1, x2.2.2.2.2.1.2.2.2.2.2.2.2.2)))))))), ((), ())))
  else none))))))
  else none
  else none)
  else (
  some ((0, 0, 0, 0, ([] : List (Int × (Int × Int))), 0, 0, 0, 0, ([] : List (Int × Int)), ([] : List (Int × (Int × Int)))), 2)))))
  else none)
  else (
  bif decide ((rd (.pair (.int .u64) (.slice 5 (.int .u8))) r1.1 x2.2.1).1 = 4) then (
  (F53 ((rd (.pair (.int .u64) (.slice 5 (.int .u8))) r1.1 x2.2.1).2)).bind fun r6 =>
  bif (!decide (r6.2 = 0)) then (
  some ((0, 0, 0, 0, ([] : List (Int × (Int × Int))), 0, 0, 0, 0, ([] : List (Int × Int)), ([] : List (Int × (Int × Int)))), 2))
  else (
  rec2 (x2.1, (IntKind.wrap .i64 (x2.2.1 + 1)), x2.2.2.1, x2.2.2.2.1, ((x2.2.2.2.2.1.1, (x2.2.2.2.2.1.2.1, (x2.2.2.2.2.1.2.2.1, (r6.1.1, (r6.1.2.1, (r6.1.2.2, (x2.2.2.2.2.1.2.2.2.2.2.2.1, (x2.2.2.2.2.1.2.2.2.2.2.2.2.1, x2.2.2.2.2.1.2.2.2.2.2.2.2.2)))))))), ((), ())))))
  else (
  bif decide (48 ≤ (rd (.pair (.int .u64) (.slice 5 (.int .u8))) r1.1 x2.2.1).1) then (
  (F54 ((rd (.pair (.int .u64) (.slice 5 (.int .u8))) r1.1 x2.2.1).2)).bind fun r7 =>
  (fun o => both o o) (
  bif decide ((x2.2.2.2.1.length + 1) * 24 ≤ LIM) then
  bif (!decide (r7.2 = 0)) then (
  some ((0, 0, 0, 0, ([] : List (Int × (Int × Int))), 0, 0, 0, 0, ([] : List (Int × Int)), ([] : List (Int × (Int × Int)))), 2))
  else (
  rec2 (x2.1, (IntKind.wrap .i64 (x2.2.1 + 1)), x2.2.2.1, (x2.2.2.2.1 ++ ([(r7.1.1, (r7.1.2.1, r7.1.2.2))])), ((x2.2.2.2.2.1.1, (x2.2.2.2.2.1.2.1, (x2.2.2.2.2.1.2.2.1, (x2.2.2.2.2.1.2.2.2.1, (x2.2.2.2.2.1.2.2.2.2.1, (x2.2.2.2.2.1.2.2.2.2.2.1, (x2.2.2.2.2.1.2.2.2.2.2.2.1, (x2.2.2.2.2.1.2.2.2.2.2.2.2.1, x2.2.2.2.2.1.2.2.2.2.2.2.2.2)))))))), ((), ()))))
  else none))
  else (
  bif (bif (bif decide (32 ≤ (rd (.pair (.int .u64) (.slice 5 (.int .u8))) r1.1 x2.2.1).1) then decide (r3.2 = 0) else false) then decide ((r3.1.length : Int) = 2) else false) then (
  bif inb 0 r3.1.length then
  bif inb 1 r3.1.length then
  (both (
  (fun o => both o o) (
  bif decide ((x2.2.2.1.length + 1) * 16 ≤ LIM) then
  rec2 (x2.1, (IntKind.wrap .i64 (x2.2.1 + 1)), (x2.2.2.1 ++ ([((rd (.int .u64) r3.1 0), (rd (.int .u64) r3.1 1))])), x2.2.2.2.1, ((x2.2.2.2.2.1.1, (x2.2.2.2.2.1.2.1, (x2.2.2.2.2.1.2.2.1, (x2.2.2.2.2.1.2.2.2.1, (x2.2.2.2.2.1.2.2.2.2.1, (x2.2.2.2.2.1.2.2.2.2.2.1, (x2.2.2.2.2.1.2.2.2.2.2.2.1, (x2.2.2.2.2.1.2.2.2.2.2.2.2.1, x2.2.2.2.2.1.2.2.2.2.2.2.2.2)))))))), ((), ())))
  else none)) (both (
  (both (
  bif decide ((x2.2.2.1.length + 1) * 16 ≤ LIM) then
  rec2 (x2.1, (IntKind.wrap .i64 (x2.2.1 + 1)), (x2.2.2.1 ++ ([((rd (.int .u64) r3.1 0), (rd (.int .u64) r3.1 1))])), x2.2.2.2.1, ((x2.2.2.2.2.1.1, (x2.2.2.2.2.1.2.1, (x2.2.2.2.2.1.2.2.1, (x2.2.2.2.2.1.2.2.2.1, (x2.2.2.2.2.1.2.2.2.2.1, (x2.2.2.2.2.1.2.2.2.2.2.1, (x2.2.2.2.2.1.2.2.2.2.2.2.1, (x2.2.2.2.2.1.2.2.2.2.2.2.2.1, x2.2.2.2.2.1.2.2.2.2.2.2.2.2)))))))), ((), ())))
  else none) (
  (fun o => both o o) (
  bif decide ((x2.2.2.1.length + 1) * 16 ≤ LIM) then
  rec2 (x2.1, (IntKind.wrap .i64 (x2.2.1 + 1)), (x2.2.2.1 ++ ([((rd (.int .u64) r3.1 0), (rd (.int .u64) r3.1 1))])), x2.2.2.2.1, ((x2.2.2.2.2.1.1, (x2.2.2.2.2.1.2.1, (x2.2.2.2.2.1.2.2.1, (x2.2.2.2.2.1.2.2.2.1, (x2.2.2.2.2.1.2.2.2.2.1, (x2.2.2.2.2.1.2.2.2.2.2.1, (x2.2.2.2.2.1.2.2.2.2.2.2.1, (x2.2.2.2.2.1.2.2.2.2.2.2.2.1, x2.2.2.2.2.1.2.2.2.2.2.2.2.2)))))))), ((), ())))
  else none)))) (
  (both (
  bif decide ((x2.2.2.1.length + 1) * 16 ≤ LIM) then
  rec2 (x2.1, (IntKind.wrap .i64 (x2.2.1 + 1)), (x2.2.2.1 ++ ([((rd (.int .u64) r3.1 0), (rd (.int .u64) r3.1 1))])), x2.2.2.2.1, ((x2.2.2.2.2.1.1, (x2.2.2.2.2.1.2.1, (x2.2.2.2.2.1.2.2.1, (x2.2.2.2.2.1.2.2.2.1, (x2.2.2.2.2.1.2.2.2.2.1, (x2.2.2.2.2.1.2.2.2.2.2.1, (x2.2.2.2.2.1.2.2.2.2.2.2.1, (x2.2.2.2.2.1.2.2.2.2.2.2.2.1, x2.2.2.2.2.1.2.2.2.2.2.2.2.2)))))))), ((), ())))
  else none) (
  (fun o => both o o) (
  bif decide ((x2.2.2.1.length + 1) * 16 ≤ LIM) then
  rec2 (x2.1, (IntKind.wrap .i64 (x2.2.1 + 1)), (x2.2.2.1 ++ ([((rd (.int .u64) r3.1 0), (rd (.int .u64) r3.1 1))])), x2.2.2.2.1, ((x2.2.2.2.2.1.1, (x2.2.2.2.2.1.2.1, (x2.2.2.2.2.1.2.2.1, (x2.2.2.2.2.1.2.2.2.1, (x2.2.2.2.2.1.2.2.2.2.1, (x2.2.2.2.2.1.2.2.2.2.2.1, (x2.2.2.2.2.1.2.2.2.2.2.2.1, (x2.2.2.2.2.1.2.2.2.2.2.2.2.1, x2.2.2.2.2.1.2.2.2.2.2.2.2.2)))))))), ((), ())))
  else none))))))
  else none
  else none)
  else (
  some ((0, 0, 0, 0, ([] : List (Int × (Int × Int))), 0, 0, 0, 0, ([] : List (Int × Int)), ([] : List (Int × (Int × Int)))), 2)))))))
  else (
  bif decide ((rd (.pair (.int .u64) (.slice 5 (.int .u8))) r1.1 x2.2.1).1 = 7) then (
  bif (bif decide (r3.2 = 0) then decide ((r3.1.length : Int) = 1) else false) then (
  bif inb 0 r3.1.length then
  rec2 (x2.1, (IntKind.wrap .i64 (x2.2.1 + 1)), x2.2.2.1, x2.2.2.2.1, ((x2.2.2.2.2.1.1, (x2.2.2.2.2.1.2.1, (x2.2.2.2.2.1.2.2.1, (x2.2.2.2.2.1.2.2.2.1, (x2.2.2.2.2.1.2.2.2.2.1, (x2.2.2.2.2.1.2.2.2.2.2.1, (x2.2.2.2.2.1.2.2.2.2.2.2.1, (x2.2.2.2.2.1.2.2.2.2.2.2.2.1, (rd (.int .u64) r3.1 0))))))))), ((), ())))
  else none)
  else (
  bif ((bif decide ((rd (.pair (.int .u64) (.slice 5 (.int .u8))) r1.1 x2.2.1).1 = 2) then (bif decide (r3.2 = 0) then decide ((r3.1.length : Int) = 1) else false) else false) == true) then (
  bif inb 0 r3.1.length then
  bif decide ((rd (.int .u64) r3.1 0) < 16) then (
  bif inb 0 r3.1.length then
  rec2 (x2.1, (IntKind.wrap .i64 (x2.2.1 + 1)), x2.2.2.1, x2.2.2.2.1, ((x2.2.2.2.2.1.1, ((IntKind.wrap .i64 (rd (.int .u64) r3.1 0)), (x2.2.2.2.2.1.2.2.1, (x2.2.2.2.2.1.2.2.2.1, (x2.2.2.2.2.1.2.2.2.2.1, (x2.2.2.2.2.1.2.2.2.2.2.1, (x2.2.2.2.2.1.2.2.2.2.2.2.1, (x2.2.2.2.2.1.2.2.2.2.2.2.2.1, x2.2.2.2.2.1.2.2.2.2.2.2.2.2)))))))), ((), ())))
  else none)
  else (
  bif decide ((rd (.pair (.int .u64) (.slice 5 (.int .u8))) r1.1 x2.2.1).1 = 4) then (
  (F53 ((rd (.pair (.int .u64) (.slice 5 (.int .u8))) r1.1 x2.2.1).2)).bind fun r4 =>
  bif (!decide (r4.2 = 0)) then (
  some ((0, 0, 0, 0, ([] : List (Int × (Int × Int))), 0, 0, 0, 0, ([] : List (Int × Int)), ([] : List (Int × (Int × Int)))), 2))
  else (
  rec2 (x2.1, (IntKind.wrap .i64 (x2.2.1 + 1)), x2.2.2.1, x2.2.2.2.1, ((x2.2.2.2.2.1.1, (x2.2.2.2.2.1.2.1, (x2.2.2.2.2.1.2.2.1, (r4.1.1, (r4.1.2.1, (r4.1.2.2, (x2.2.2.2.2.1.2.2.2.2.2.2.1, (x2.2.2.2.2.1.2.2.2.2.2.2.2.1, x2.2.2.2.2.1.2.2.2.2.2.2.2.2)))))))), ((), ())))))
  else (
  bif decide (48 ≤ (rd (.pair (.int .u64) (.slice 5 (.int .u8))) r1.1 x2.2.1).1) then (
  (F54 ((rd (.pair (.int .u64) (.slice 5 (.int .u8))) r1.1 x2.2.1).2)).bind fun r5 =>
  (fun o => both o o) (
  bif decide ((x2.2.2.2.1.length + 1) * 24 ≤ LIM) then
  bif (!decide (r5.2 = 0)) then (
  some ((0, 0, 0, 0, ([] : List (Int × (Int × Int))), 0, 0, 0, 0, ([] : List (Int × Int)), ([] : List (Int × (Int × Int)))), 2))
  else (
  rec2 (x2.1, (IntKind.wrap .i64 (x2.2.1 + 1)), x2.2.2.1, (x2.2.2.2.1 ++ ([(r5.1.1, (r5.1.2.1, r5.1.2.2))])), ((x2.2.2.2.2.1.1, (x2.2.2.2.2.1.2.1, (x2.2.2.2.2.1.2.2.1, (x2.2.2.2.2.1.2.2.2.1, (x2.2.2.2.2.1.2.2.2.2.1, (x2.2.2.2.2.1.2.2.2.2.2.1, (x2.2.2.2.2.1.2.2.2.2.2.2.1, (x2.2.2.2.2.1.2.2.2.2.2.2.2.1, x2.2.2.2.2.1.2.2.2.2.2.2.2.2)))))))), ((), ()))))
  else none))
  else (
  bif (bif (bif decide (32 ≤ (rd (.pair (.int .u64) (.slice 5 (.int .u8))) r1.1 x2.2.1).1) then decide (r3.2 = 0) else false) then decide ((r3.1.length : Int) = 2) else false) then (
  bif inb 0 r3.1.length then
  bif inb 1 r3.1.length then
  (both (
  (fun o => both o o) (
  bif decide ((x2.2.2.1.length + 1) * 16 ≤ LIM) then
  rec2 (x2.1, (IntKind.wrap .i64 (x2.2.1 + 1)), (x2.2.2.1 ++ ([((rd (.int .u64) r3.1 0), (rd (.int .u64) r3.1 1))])), x2.2.2.2.1, ((x2.2.2.2.2.1.1, (x2.2.2.2.2.1.2.1, (x2.2.2.2.2.1.2.2.1, (x2.2.2.2.2.1.2.2.2.1, (x2.2.2.2.2.1.2.2.2.2.1, (x2.2.2.2.2.1.2.2.2.2.2.1, (x2.2.2.2.2.1.2.2.2.2.2.2.1, (x2.2.2.2.2.1.2.2.2.2.2.2.2.1, x2.2.2.2.2.1.2.2.2.2.2.2.2.2)))))))), ((), ())))
  else none)) (both (
  (both (
  bif decide ((x2.2.2.1.length + 1) * 16 ≤ LIM) then
  rec2 (x2.1, (IntKind.wrap .i64 (x2.2.1 + 1)), (x2.2.2.1 ++ ([((rd (.int .u64) r3.1 0), (rd (.int .u64) r3.1 1))])), x2.2.2.2.1, ((x2.2.2.2.2.1.1, (x2.2.2.2.2.1.2.1, (x2.2.2.2.2.1.2.2.1, (x2.2.2.2.2.1.2.2.2.1, (x2.2.2.2.2.1.2.2.2.2.1, (x2.2.2.2.2.1.2.2.2.2.2.1, (x2.2.2.2.2.1.2.2.2.2.2.2.1, (x2.2.2.2.2.1.2.2.2.2.2.2.2.1, x2.2.2.2.2.1.2.2.2.2.2.2.2.2)))))))), ((), ())))
  else none) (
  (fun o => both o o) (
  bif decide ((x2.2.2.1.length + 1) * 16 ≤ LIM) then
  rec2 (x2.1, (IntKind.wrap .i64 (x2.2.1 + 1)), (x2.2.2.1 ++ ([((rd (.int .u64) r3.1 0), (rd (.int .u64) r3.1 1))])), x2.2.2.2.1, ((x2.2.2.2.2.1.1, (x2.2.2.2.2.1.2.1, (x2.2.2.2.2.1.2.2.1, (x2.2.2.2.2.1.2.2.2.1, (x2.2.2.2.2.1.2.2.2.2.1, (x2.2.2.2.2.1.2.2.2.2.2.1, (x2.2.2.2.2.1.2.2.2.2.2.2.1, (x2.2.2.2.2.1.2.2.2.2.2.2.2.1, x2.2.2.2.2.1.2.2.2.2.2.2.2.2)))))))), ((), ())))
  else none)))) (
  (both (
  bif decide ((x2.2.2.1.length + 1) * 16 ≤ LIM) then
  rec2 (x2.1, (IntKind.wrap .i64 (x2.2.1 + 1)), (x2.2.2.1 ++ ([((rd (.int .u64) r3.1 0), (rd (.int .u64) r3.1 1))])), x2.2.2.2.1, ((x2.2.2.2.2.1.1, (x2.2.2.2.2.1.2.1, (x2.2.2.2.2.1.2.2.1, (x2.2.2.2.2.1.2.2.2.1, (x2.2.2.2.2.1.2.2.2.2.1, (x2.2.2.2.2.1.2.2.2.2.2.1, (x2.2.2.2.2.1.2.2.2.2.2.2.1, (x2.2.2.2.2.1.2.2.2.2.2.2.2.1, x2.2.2.2.2.1.2.2.2.2.2.2.2.2)))))))), ((), ())))
  else none) (
  (fun o => both o o) (
  bif decide ((x2.2.2.1.length + 1) * 16 ≤ LIM) then
  rec2 (x2.1, (IntKind.wrap .i64 (x2.2.1 + 1)), (x2.2.2.1 ++ ([((rd (.int .u64) r3.1 0), (rd (.int .u64) r3.1 1))])), x2.2.2.2.1, ((x2.2.2.2.2.1.1, (x2.2.2.2.2.1.2.1, (x2.2.2.2.2.1.2.2.1, (x2.2.2.2.2.1.2.2.2.1, (x2.2.2.2.2.1.2.2.2.2.1, (x2.2.2.2.2.1.2.2.2.2.2.1, (x2.2.2.2.2.1.2.2.2.2.2.2.1, (x2.2.2.2.2.1.2.2.2.2.2.2.2.1, x2.2.2.2.2.1.2.2.2.2.2.2.2.2)))))))), ((), ())))
  else none))))))
  else none
  else none)
  else (
  some ((0, 0, 0, 0, ([] : List (Int × (Int × Int))), 0, 0, 0, 0, ([] : List (Int × Int)), ([] : List (Int × (Int × Int)))), 2)))))
  else none)
  else (
  bif decide ((rd (.pair (.int .u64) (.slice 5 (.int .u8))) r1.1 x2.2.1).1 = 4) then (
  (F53 ((rd (.pair (.int .u64) (.slice 5 (.int .u8))) r1.1 x2.2.1).2)).bind fun r6 =>
  bif (!decide (r6.2 = 0)) then (
  some ((0, 0, 0, 0, ([] : List (Int × (Int × Int))), 0, 0, 0, 0, ([] : List (Int × Int)), ([] : List (Int × (Int × Int)))), 2))
  else (
  rec2 (x2.1, (IntKind.wrap .i64 (x2.2.1 + 1)), x2.2.2.1, x2.2.2.2.1, ((x2.2.2.2.2.1.1, (x2.2.2.2.2.1.2.1, (x2.2.2.2.2.1.2.2.1, (r6.1.1, (r6.1.2.1, (r6.1.2.2, (x2.2.2.2.2.1.2.2.2.2.2.2.1, (x2.2.2.2.2.1.2.2.2.2.2.2.2.1, x2.2.2.2.2.1.2.2.2.2.2.2.2.2)))))))), ((), ())))))
  else (
  bif decide (48 ≤ (rd (.pair (.int .u64) (.slice 5 (.int .u8))) r1.1 x2.2.1).1) then (
  (F54 ((rd (.pair (.int .u64) (.slice 5 (.int .u8))) r1.1 x2.2.1).2)).bind fun r7 =>
  (fun o => both o o) (
  bif decide ((x2.2.2.2.1.length + 1) * 24 ≤ LIM) then
  bif (!decide (r7.2 = 0)) then (
  some ((0, 0, 0, 0, ([] : List (Int × (Int × Int))), 0, 0, 0, 0, ([] : List (Int × Int)), ([] : List (Int × (Int × Int)))), 2))
  else (
  rec2 (x2.1, (IntKind.wrap .i64 (x2.2.1 + 1)), x2.2.2.1, (x2.2.2.2.1 ++ ([(r7.1.1, (r7.1.2.1, r7.1.2.2))])), ((x2.2.2.2.2.1.1, (x2.2.2.2.2.1.2.1, (x2.2.2.2.2.1.2.2.1, (x2.2.2.2.2.1.2.2.2.1, (x2.2.2.2.2.1.2.2.2.2.1, (x2.2.2.2.2.1.2.2.2.2.2.1, (x2.2.2.2.2.1.2.2.2.2.2.2.1, (x2.2.2.2.2.1.2.2.2.2.2.2.2.1, x2.2.2.2.2.1.2.2.2.2.2.2.2.2)))))))), ((), ()))))
  else none))
  else (
  bif (bif (bif decide (32 ≤ (rd (.pair (.int .u64) (.slice 5 (.int .u8))) r1.1 x2.2.1).1) then decide (r3.2 = 0) else false) then decide ((r3.1.length : Int) = 2) else false) then (
  bif inb 0 r3.1.length then
  bif inb 1 r3.1.length then
  (both (
  (fun o => both o o) (
  bif decide ((x2.2.2.1.length + 1) * 16 ≤ LIM) then
  rec2 (x2.1, (IntKind.wrap .i64 (x2.2.1 + 1)), (x2.2.2.1 ++ ([((rd (.int .u64) r3.1 0), (rd (.int .u64) r3.1 1))])), x2.2.2.2.1, ((x2.2.2.2.2.1.1, (x2.2.2.2.2.1.2.1, (x2.2.2.2.2.1.2.2.1, (x2.2.2.2.2.1.2.2.2.1, (x2.2.2.2.2.1.2.2.2.2.1, (x2.2.2.2.2.1.2.2.2.2.2.1, (x2.2.2.2.2.1.2.2.2.2.2.2.1, (x2.2.2.2.2.1.2.2.2.2.2.2.2.1, x2.2.2.2.2.1.2.2.2.2.2.2.2.2)))))))), ((), ())))
  else none)) (both (
  (both (
  bif decide ((x2.2.2.1.length + 1) * 16 ≤ LIM) then
  rec2 (x2.1, (IntKind.wrap .i64 (x2.2.1 + 1)), (x2.2.2.1 ++ ([((rd (.int .u64) r3.1 0), (rd (.int .u64) r3.1 1))])), x2.2.2.2.1, ((x2.2.2.2.2.1.1, (x2.2.2.2.2.1.2.1, (x2.2.2.2.2.1.2.2.1, (x2.2.2.2.2.1.2.2.2.1, (x2.2.2.2.2.1.2.2.2.2.1, (x2.2.2.2.2.1.2.2.2.2.2.1, (x2.2.2.2.2.1.2.2.2.2.2.2.1, (x2.2.2.2.2.1.2.2.2.2.2.2.2.1, x2.2.2.2.2.1.2.2.2.2.2.2.2.2)))))))), ((), ())))
  else none) (
  (fun o => both o o) (
  bif decide ((x2.2.2.1.length + 1) * 16 ≤ LIM) then
  rec2 (x2.1, (IntKind.wrap .i64 (x2.2.1 + 1)), (x2.2.2.1 ++ ([((rd (.int .u64) r3.1 0), (rd (.int .u64) r3.1 1))])), x2.2.2.2.1, ((x2.2.2.2.2.1.1, (x2.2.2.2.2.1.2.1, (x2.2.2.2.2.1.2.2.1, (x2.2.2.2.2.1.2.2.2.1, (x2.2.2.2.2.1.2.2.2.2.1, (x2.2.2.2.2.1.2.2.2.2.2.1, (x2.2.2.2.2.1.2.2.2.2.2.2.1, (x2.2.2.2.2.1.2.2.2.2.2.2.2.1, x2.2.2.2.2.1.2.2.2.2.2.2.2.2)))))))), ((), ())))
  else none)))) (
  (both (
  bif decide ((x2.2.2.1.length + 1) * 16 ≤ LIM) then
  rec2 (x2.1, (IntKind.wrap .i64 (x2.2.1 + 1)), (x2.2.2.1 ++ ([((rd (.int .u64) r3.1 0), (rd (.int .u64) r3.1 1))])), x2.2.2.2.1, ((x2.2.2.2.2.1.1, (x2.2.2.2.2.1.2.1, (x2.2.2.2.2.1.2.2.1, (x2.2.2.2.2.1.2.2.2.1, (x2.2.2.2.2.1.2.2.2.2.1, (x2.2.2.2.2.1.2.2.2.2.2.1, (x2.2.2.2.2.1.2.2.2.2.2.2.1, (x2.2.2.2.2.1.2.2.2.2.2.2.2.1, x2.2.2.2.2.1.2.2.2.2.2.2.2.2)))))))), ((), ())))
  else none) (
  (fun o => both o o) (
  bif decide ((x2.2.2.1.length + 1) * 16 ≤ LIM) then
  rec2 (x2.1, (IntKind.wrap .i64 (x2.2.1 + 1)), (x2.2.2.1 ++ ([((rd (.int .u64) r3.1 0), (rd (.int .u64) r3.1 1))])), x2.2.2.2.1, ((x2.2.2.2.2.1.1, (x2.2.2.2.2.1.2.1, (x2.2.2.2.2.1.2.2.1, (x2.2.2.2.2.1.2.2.2.1, (x2.2.2.2.2.1.2.2.2.2.1, (x2.2.2.2.2.1.2.2.2.2.2.1, (x2.2.2.2.2.1.2.2.2.2.2.2.1, (x2.2.2.2.2.1.2.2.2.2.2.2.2.1, x2.2.2.2.2.1.2.2.2.2.2.2.2.2)))))))), ((), ())))
  else none))))))
  else none
  else none)
  else (
  some ((0, 0, 0, 0, ([] : List (Int × (Int × Int))), 0, 0, 0, 0, ([] : List (Int × Int)), ([] : List (Int × (Int × Int)))), 2)))))))
  else (
  bif ((bif decide ((rd (.pair (.int .u64) (.slice 5 (.int .u8))) r1.1 x2.2.1).1 = 2) then (bif decide (r3.2 = 0) then decide ((r3.1.length : Int) = 1) else false) else false) == true) then (
  bif inb 0 r3.1.length then
  bif decide ((rd (.int .u64) r3.1 0) < 16) then (
  bif inb 0 r3.1.length then
  rec2 (x2.1, (IntKind.wrap .i64 (x2.2.1 + 1)), x2.2.2.1, x2.2.2.2.1, ((x2.2.2.2.2.1.1, ((IntKind.wrap .i64 (rd (.int .u64) r3.1 0)), (x2.2.2.2.2.1.2.2.1, (x2.2.2.2.2.1.2.2.2.1, (x2.2.2.2.2.1.2.2.2.2.1, (x2.2.2.2.2.1.2.2.2.2.2.1, (x2.2.2.2.2.1.2.2.2.2.2.2.1, (x2.2.2.2.2.1.2.2.2.2.2.2.2.1, x2.2.2.2.2.1.2.2.2.2.2.2.2.2)))))))), ((), ())))
  else none)
  else (
  bif decide ((rd (.pair (.int .u64) (.slice 5 (.int .u8))) r1.1 x2.2.1).1 = 4) then (
  (F53 ((rd (.pair (.int .u64) (.slice 5 (.int .u8))) r1.1 x2.2.1).2)).bind fun r4 =>
  bif (!decide (r4.2 = 0)) then (
  some ((0, 0, 0, 0, ([] : List (Int × (Int × Int))), 0, 0, 0, 0, ([] : List (Int × Int)), ([] : List (Int × (Int × Int)))), 2))
  else (
  rec2 (x2.1, (IntKind.wrap .i64 (x2.2.1 + 1)), x2.2.2.1, x2.2.2.2.1, ((x2.2.2.2.2.1.1, (x2.2.2.2.2.1.2.1, (x2.2.2.2.2.1.2.2.1, (r4.1.1, (r4.1.2.1, (r4.1.2.2, (x2.2.2.2.2.1.2.2.2.2.2.2.1, (x2.2.2.2.2.1.2.2.2.2.2.2.2.1, x2.2.2.2.2.1.2.2.2.2.2.2.2.2)))))))), ((), ())))))
  else (
  bif decide (48 ≤ (rd (.pair (.int .u64) (.slice 5 (.int .u8))) r1.1 x2.2.1).1) then (
  (F54 ((rd (.pair (.int .u64) (.slice 5 (.int .u8))) r1.1 x2.2.1).2)).bind fun r5 =>
  (fun o => both o o) (
  bif decide ((x2.2.2.2.1.length + 1) * 24 ≤ LIM) then
  bif (!decide (r5.2 = 0)) then (
  some ((0, 0, 0, 0, ([] : List (Int × (Int × Int))), 0, 0, 0, 0, ([] : List (Int × Int)), ([] : List (Int × (Int × Int)))), 2))
  else (
  rec2 (x2.1, (IntKind.wrap .i64 (x2.2.1 + 1)), x2.2.2.1, (x2.2.2.2.1 ++ ([(r5.1.1, (r5.1.2.1, r5.1.2.2))])), ((x2.2.2.2.2.1.1, (x2.2.2.2.2.1.2.1, (x2.2.2.2.2.1.2.2.1, (x2.2.2.2.2.1.2.2.2.1, (x2.2.2.2.2.1.2.2.2.2.1, (x2.2.2.2.2.1.2.2.2.2.2.1, (x2.2.2.2.2.1.2.2.2.2.2.2.1, (x2.2.2.2.2.1.2.2.2.2.2.2.2.1, x2.2.2.2.2.1.2.2.2.2.2.2.2.2)))))))), ((), ()))))
  else none))
  else (
  bif (bif (bif decide (32 ≤ (rd (.pair (.int .u64) (.slice 5 (.int .u8))) r1.1 x2.2.1).1) then decide (r3.2 = 0) else false) then decide ((r3.1.length : Int) = 2) else false) then (
  bif inb 0 r3.1.length then
  bif inb 1 r3.1.length then
  (both (
  (fun o => both o o) (
  bif decide ((x2.2.2.1.length + 1) * 16 ≤ LIM) then
  rec2 (x2.1, (IntKind.wrap .i64 (x2.2.1 + 1)), (x2.2.2.1 ++ ([((rd (.int .u64) r3.1 0), (rd (.int .u64) r3.1 1))])), x2.2.2.2.1, ((x2.2.2.2.2.1.1, (x2.2.2.2.2.1.2.1, (x2.2.2.2.2.1.2.2.1, (x2.2.2.2.2.1.2.2.2.1, (x2.2.2.2.2.1.2.2.2.2.1, (x2.2.2.2.2.1.2.2.2.2.2.1, (x2.2.2.2.2.1.2.2.2.2.2.2.1, (x2.2.2.2.2.1.2.2.2.2.2.2.2.1, x2.2.2.2.2.1.2.2.2.2.2.2.2.2)))))))), ((), ())))
  else none)) (both (
  (both (
  bif decide ((x2.2.2.1.length + 1) * 16 ≤ LIM) then
  rec2 (x2.1, (IntKind.wrap .i64 (x2.2.1 + 1)), (x2.2.2.1 ++ ([((rd (.int .u64) r3.1 0), (rd (.int .u64) r3.1 1))])), x2.2.2.2.1, ((x2.2.2.2.2.1.1, (x2.2.2.2.2.1.2.1, (x2.2.2.2.2.1.2.2.1, (x2.2.2.2.2.1.2.2.2.1, (x2.2.2.2.2.1.2.2.2.2.1, (x2.2.2.2.2.1.2.2.2.2.2.1, (x2.2.2.2.2.1.2.2.2.2.2.2.1, (x2.2.2.2.2.1.2.2.2.2.2.2.2.1, x2.2.2.2.2.1.2.2.2.2.2.2.2.2)))))))), ((), ())))
  else none) (
  (fun o => both o o) (
  bif decide ((x2.2.2.1.length + 1) * 16 ≤ LIM) then
  rec2 (x2.1, (IntKind.wrap .i64 (x2.2.1 + 1)), (x2.2.2.1 ++ ([((rd (.int .u64) r3.1 0), (rd (.int .u64) r3.1 1))])), x2.2.2.2.1, ((x2.2.2.2.2.1.1, (x2.2.2.2.2.1.2.1, (x2.2.2.2.2.1.2.2.1, (x2.2.2.2.2.1.2.2.2.1, (x2.2.2.2.2.1.2.2.2.2.1, (x2.2.2.2.2.1.2.2.2.2.2.1, (x2.2.2.2.2.1.2.2.2.2.2.2.1, (x2.2.2.2.2.1.2.2.2.2.2.2.2.1, x2.2.2.2.2.1.2.2.2.2.2.2.2.2)))))))), ((), ())))
  else none)))) (
  (both (
  bif decide ((x2.2.2.1.length + 1) * 16 ≤ LIM) then
  rec2 (x2.1, (IntKind.wrap .i64 (x2.2.1 + 1)), (x2.2.2.1 ++ ([((rd (.int .u64) r3.1 0), (rd (.int .u64) r3.1 1))])), x2.2.2.2.1, ((x2.2.2.2.2.1.1, (x2.2.2.2.2.1.2.1, (x2.2.2.2.2.1.2.2.1, (x2.2.2.2.2.1.2.2.2.1, (x2.2.2.2.2.1.2.2.2.2.1, (x2.2.2.2.2.1.2.2.2.2.2.1, (x2.2.2.2.2.1.2.2.2.2.2.2.1, (x2.2.2.2.2.1.2.2.2.2.2.2.2.1, x2.2.2.2.2.1.2.2.2.2.2.2.2.2)))))))), ((), ())))
  else none) (
  (fun o => both o o) (
  bif decide ((x2.2.2.1.length + 1) * 16 ≤ LIM) then
  rec2 (x2.1, (IntKind.wrap .i64 (x2.2.1 + 1)), (x2.2.2.1 ++ ([((rd (.int .u64) r3.1 0), (rd (.int .u64) r3.1 1))])), x2.2.2.2.1, ((x2.2.2.2.2.1.1, (x2.2.2.2.2.1.2.1, (x2.2.2.2.2.1.2.2.1, (x2.2.2.2.2.1.2.2.2.1, (x2.2.2.2.2.1.2.2.2.2.1, (x2.2.2.2.2.1.2.2.2.2.2.1, (x2.2.2.2.2.1.2.2.2.2.2.2.1, (x2.2.2.2.2.1.2.2.2.2.2.2.2.1, x2.2.2.2.2.1.2.2.2.2.2.2.2.2)))))))), ((), ())))
  else none))))))
  else none
  else none)
  else (
  some ((0, 0, 0, 0, ([] : List (Int × (Int × Int))), 0, 0, 0, 0, ([] : List (Int × Int)), ([] : List (Int × (Int × Int)))), 2)))))
  else none)
  else (
  bif decide ((rd (.pair (.int .u64) (.slice 5 (.int .u8))) r1.1 x2.2.1).1 = 4) then (
  (F53 ((rd (.pair (.int .u64) (.slice 5 (.int .u8))) r1.1 x2.2.1).2)).bind fun r6 =>
  bif (!decide (r6.2 = 0)) then (
  some ((0, 0, 0, 0, ([] : List (Int × (Int × Int))), 0, 0, 0, 0, ([] : List (Int × Int)), ([] : List (Int × (Int × Int)))), 2))
  else (
  rec2 (x2.1, (IntKind.wrap .i64 (x2.2.1 + 1)), x2.2.2.1, x2.2.2.2.1, ((x2.2.2.2.2.1.1, (x2.2.2.2.2.1.2.1, (x2.2.2.2.2.1.2.2.1, (r6.1.1, (r6.1.2.1, (r6.1.2.2, (x2.2.2.2.2.1.2.2.2.2.2.2.1, (x2.2.2.2.2.1.2.2.2.2.2.2.2.1, x2.2.2.2.2.1.2.2.2.2.2.2.2.2)))))))), ((), ())))))
  else (
  bif decide (48 ≤ (rd (.pair (.int .u64) (.slice 5 (.int .u8))) r1.1 x2.2.1).1) then (
  (F54 ((rd (.pair (.int .u64) (.slice 5 (.int .u8))) r1.1 x2.2.1).2)).bind fun r7 =>
  (fun o => both o o) (
  bif decide ((x2.2.2.2.1.length + 1) * 24 ≤ LIM) then
  bif (!decide (r7.2 = 0)) then (
  some ((0, 0, 0, 0, ([] : List (Int × (Int × Int))), 0, 0, 0, 0, ([] : List (Int × Int)), ([] : List (Int × (Int × Int)))), 2))
  else (
  rec2 (x2.1, (IntKind.wrap .i64 (x2.2.1 + 1)), x2.2.2.1, (x2.2.2.2.1 ++ ([(r7.1.1, (r7.1.2.1, r7.1.2.2))])), ((x2.2.2.2.2.1.1, (x2.2.2.2.2.1.2.1, (x2.2.2.2.2.1.2.2.1, (x2.2.2.2.2.1.2.2.2.1, (x2.2.2.2.2.1.2.2.2.2.1, (x2.2.2.2.2.1.2.2.2.2.2.1, (x2.2.2.2.2.1.2.2.2.2.2.2.1, (x2.2.2.2.2.1.2.2.2.2.2.2.2.1, x2.2.2.2.2.1.2.2.2.2.2.2.2.2)))))))), ((), ()))))
  else none))
  else (
  bif (bif (bif decide (32 ≤ (rd (.pair (.int .u64) (.slice 5 (.int .u8))) r1.1 x2.2.1).1) then decide (r3.2 = 0) else false) then decide ((r3.1.length : Int) = 2) else false) then (
  bif inb 0 r3.1.length then
  bif inb 1 r3.1.length then
  (both (
  (fun o => both o o) (
  bif decide ((x2.2.2.1.length + 1) * 16 ≤ LIM) then
  rec2 (x2.1, (IntKind.wrap .i64 (x2.2.1 + 1)), (x2.2.2.1 ++ ([((rd (.int .u64) r3.1 0), (rd (.int .u64) r3.1 1))])), x2.2.2.2.1, ((x2.2.2.2.2.1.1, (x2.2.2.2.2.1.2.1, (x2.2.2.2.2.1.2.2.1, (x2.2.2.2.2.1.2.2.2.1, (x2.2.2.2.2.1.2.2.2.2.1, (x2.2.2.2.2.1.2.2.2.2.2.1, (x2.2.2.2.2.1.2.2.2.2.2.2.1, (x2.2.2.2.2.1.2.2.2.2.2.2.2.1, x2.2.2.2.2.1.2.2.2.2.2.2.2.2)))))))), ((), ())))
  else none)) (both (
  (both (
  bif decide ((x2.2.2.1.length + 1) * 16 ≤ LIM) then
  rec2 (x2.1, (IntKind.wrap .i64 (x2.2.1 + 1)), (x2.2.2.1 ++ ([((rd (.int .u64) r3.1 0), (rd (.int .u64) r3.1 1))])), x2.2.2.2.1, ((x2.2.2.2.2.1.1, (x2.2.2.2.2.1.2.1, (x2.2.2.2.2.1.2.2.1, (x2.2.2.2.2.1.2.2.2.1, (x2.2.2.2.2.1.2.2.2.2.1, (x2.2.2.2.2.1.2.2.2.2.2.1, (x2.2.2.2.2.1.2.2.2.2.2.2.1, (x2.2.2.2.2.1.2.2.2.2.2.2.2.1, x2.2.2.2.2.1.2.2.2.2.2.2.2.2)))))))), ((), ())))
  else none) (
  (fun o => both o o) (
  bif decide ((x2.2.2.1.length + 1) * 16 ≤ LIM) then
  rec2 (x2.1, (IntKind.wrap .i64 (x2.2.1 + 1)), (x2.2.2.1 ++ ([((rd (.int .u64) r3.1 0), (rd (.int .u64) r3.1 1))])), x2.2.2.2.1, ((x2.2.2.2.2.1.1, (x2.2.2.2.2.1.2.1, (x2.2.2.2.2.1.2.2.1, (x2.2.2.2.2.1.2.2.2.1, (x2.2.2.2.2.1.2.2.2.2.1, (x2.2.2.2.2.1.2.2.2.2.2.1, (x2.2.2.2.2.1.2.2.2.2.2.2.1, (x2.2.2.2.2.1.2.2.2.2.2.2.2.1, x2.2.2.2.2.1.2.2.2.2.2.2.2.2)))))))), ((), ())))
  else none)))) (
  (both (
  bif decide ((x2.2.2.1.length + 1) * 16 ≤ LIM) then
  rec2 (x2.1, (IntKind.wrap .i64 (x2.2.1 + 1)), (x2.2.2.1 ++ ([((rd (.int .u64) r3.1 0), (rd (.int .u64) r3.1 1))])), x2.2.2.2.1, ((x2.2.2.2.2.1.1, (x2.2.2.2.2.1.2.1, (x2.2.2.2.2.1.2.2.1, (x2.2.2.2.2.1.2.2.2.1, (x2.2.2.2.2.1.2.2.2.2.1, (x2.2.2.2.2.1.2.2.2.2.2.1, (x2.2.2.2.2.1.2.2.2.2.2.2.1, (x2.2.2.2.2.1.2.2.2.2.2.2.2.1, x2.2.2.2.2.1.2.2.2.2.2.2.2.2)))))))), ((), ())))
  else none) (
  (fun o => both o o) (
  bif decide ((x2.2.2.1.length + 1) * 16 ≤ LIM) then
  rec2 (x2.1, (IntKind.wrap .i64 (x2.2.1 + 1)), (x2.2.2.1 ++ ([((rd (.int .u64) r3.1 0), (rd (.int .u64) r3.1 1))])), x2.2.2.2.1, ((x2.2.2.2.2.1.1, (x2.2.2.2.2.1.2.1, (x2.2.2.2.2.1.2.2.1, (x2.2.2.2.2.1.2.2.2.1, (x2.2.2.2.2.1.2.2.2.2.1, (x2.2.2.2.2.1.2.2.2.2.2.1, (x2.2.2.2.2.1.2.2.2.2.2.2.1, (x2.2.2.2.2.1.2.2.2.2.2.2.2.1, x2.2.2.2.2.1.2.2.2.2.2.2.2.2)))))))), ((), ())))
  else none))))))
  else none
  else none)
  else (
  some ((0, 0, 0, 0, ([] : List (Int × (Int × Int))), 0, 0, 0, 0, ([] : List (Int × Int)), ([] : List (Int × (Int × Int)))), 2))))))))))
  else none)
  else (
  (F16 (x2.2.2.2.2.1.1, (x2.2.2.2.2.1.2.1, (x2.2.2.2.2.1.2.2.1, (x2.2.2.2.2.1.2.2.2.1, (x2.2.2.2.2.1.2.2.2.2.1, (x2.2.2.2.2.1.2.2.2.2.2.1, (x2.2.2.2.2.1.2.2.2.2.2.2.1, (x2.2.2.2.2.1.2.2.2.2.2.2.2.1, (x2.2.2.2.2.1.2.2.2.2.2.2.2.2, (x2.2.2.1, x2.2.2.2.1))))))))))).bind fun r8 =>
  bif ((bif (!decide (r1.2 = 0)) then true else (!decide (r8.2 = 0))) == false) then (
  (F35 (r8.1, b)).bind fun r9 =>
  bif (!r9) then (
  some ((0, 0, 0, 0, ([] : List (Int × (Int × Int))), 0, 0, 0, 0, ([] : List (Int × Int)), ([] : List (Int × (Int × Int)))), 2))
  else (
  some ((x2.2.2.2.2.1.1, x2.2.2.2.2.1.2.1, x2.2.2.2.2.1.2.2.1, x2.2.2.2.2.1.2.2.2.1, x2.2.2.2.2.1.2.2.2.2.1, x2.2.2.2.2.1.2.2.2.2.2.1, x2.2.2.2.2.1.2.2.2.2.2.2.1, x2.2.2.2.2.1.2.2.2.2.2.2.2.1, x2.2.2.2.2.1.2.2.2.2.2.2.2.2, x2.2.2.1, x2.2.2.2.1), 0)))
  else (
  some ((0, 0, 0, 0, ([] : List (Int × (Int × Int))), 0, 0, 0, 0, ([] : List (Int × Int)), ([] : List (Int × (Int × Int)))), 2)))) (0, 0, ([] : List (Int × Int)), ([] : List (Int × (Int × Int))), ((0, (0, (0, (0, ([], (0, (0, (0, 0)))))))), ((), ()))))
theorem ev15 (b : List Int) : evF C34 H15 Tryd.f15 (encs [.oneA (.slice 5 (.int .u8))] b) (RT.dec (.tup [.agg [.int .u64, .int .i64, .int .u64, .int .u64, .sl 48 (.pair (.int .i64) (.pair (.int .u64) (.int .u64))), .int .i64, .int .u64, .int .u64, .int .u64, .fresh 57 (.pair (.int .u64) (.int .u64)), .fresh 48 (.pair (.int .i64) (.pair (.int .u64) (.int .u64)))], .leaf (.int .i64)])) = F15 b := by kernel_rfl
noncomputable def C15 : Ctx := Ctx.addA C34 15 [.oneA (.slice 5 (.int .u8))] (.tup [.agg [.int .u64, .int .i64, .int .u64, .int .u64, .sl 48 (.pair (.int .i64) (.pair (.int .u64) (.int .u64))), .int .i64, .int .u64, .int .u64, .int .u64, .fresh 57 (.pair (.int .u64) (.int .u64)), .fresh 48 (.pair (.int .i64) (.pair (.int .u64) (.int .u64)))], .leaf (.int .i64)]) F15
theorem s15 : C15.Sound := Ctx.Sound.addA (C := C34) mixed s34 Tryd.func15 ev15
/-! damson/damsonlaw19.RequestBack -/
def H5 : Nat → Head := fun _ => ⟨[], []⟩
noncomputable def F5 (b : (Int × (Int × (Int × (Int × (List (Int × (Int × Int)) × (Int × (Int × (Int × (Int × (List (Int × Int) × List (Int × (Int × Int)))))))))))) × List Int) : Option Bool :=
 (F7 ()).bind fun r1 =>
 bif (!r1) then (
 some false)
 else (
 (F8 (b.1.1, (b.1.2.1, (b.1.2.2.1, (b.1.2.2.2.1, (b.1.2.2.2.2.1, (b.1.2.2.2.2.2.1, (b.1.2.2.2.2.2.2.1, (b.1.2.2.2.2.2.2.2.1, (b.1.2.2.2.2.2.2.2.2.1, (b.1.2.2.2.2.2.2.2.2.2.1, b.1.2.2.2.2.2.2.2.2.2.2))))))))))).bind fun r2 =>
 bif (bif (!r2) then true else decide (1500 < (b.2.length : Int))) then (
 some true)
 else (
 (F15 b.2).bind fun r3 =>
 bif decide (r3.2 = 0) then (
 (F16 (r3.1.1, (r3.1.2.1, (r3.1.2.2.1, (r3.1.2.2.2.1, (r3.1.2.2.2.2.1, (r3.1.2.2.2.2.2.1, (r3.1.2.2.2.2.2.2.1, (r3.1.2.2.2.2.2.2.2.1, (r3.1.2.2.2.2.2.2.2.2.1, (r3.1.2.2.2.2.2.2.2.2.2.1, r3.1.2.2.2.2.2.2.2.2.2.2))))))))))).bind fun r4 =>
 bif ((!decide (r4.2 = 0)) == false) then (
 (F13 (r4.1, b.2)).bind fun r5 =>
 bif ((!r5) == false) then (
 (F10 (r3.1.1, (r3.1.2.1, (r3.1.2.2.1, (r3.1.2.2.2.1, (r3.1.2.2.2.2.1, (r3.1.2.2.2.2.2.1, (r3.1.2.2.2.2.2.2.1, (r3.1.2.2.2.2.2.2.2.1, (r3.1.2.2.2.2.2.2.2.2.1, (r3.1.2.2.2.2.2.2.2.2.2.1, r3.1.2.2.2.2.2.2.2.2.2.2))))))))))).bind fun r6 =>
 bif (!decide (r6 = 0)) then (
 some false)
 else (
 (F16 (b.1.1, (b.1.2.1, (b.1.2.2.1, (b.1.2.2.2.1, (b.1.2.2.2.2.1, (b.1.2.2.2.2.2.1, (b.1.2.2.2.2.2.2.1, (b.1.2.2.2.2.2.2.2.1, (b.1.2.2.2.2.2.2.2.2.1, (b.1.2.2.2.2.2.2.2.2.2.1, b.1.2.2.2.2.2.2.2.2.2.2))))))))))).bind fun r7 =>
 bif (!decide (r7.2 = 0)) then (
 some (decide ((r7.1.length : Int) = 0)))
 else (
 (F15 r7.1).bind fun r8 =>
 bif inb (IntKind.wrap .i64 ((r7.1.length : Int) - 1)) (r7.1.length + 1) then
 (F15 (r7.1.take ((IntKind.wrap .i64 ((r7.1.length : Int) - 1)).toNat))).bind fun r9 =>
 bif (decide (r8.2 = 0) == true) then (
 (F14 ((r8.1.1, (r8.1.2.1, (r8.1.2.2.1, (r8.1.2.2.2.1, (r8.1.2.2.2.2.1, (r8.1.2.2.2.2.2.1, (r8.1.2.2.2.2.2.2.1, (r8.1.2.2.2.2.2.2.2.1, (r8.1.2.2.2.2.2.2.2.2.1, (r8.1.2.2.2.2.2.2.2.2.2.1, r8.1.2.2.2.2.2.2.2.2.2.2)))))))))), (b.1.1, (b.1.2.1, (b.1.2.2.1, (b.1.2.2.2.1, (b.1.2.2.2.2.1, (b.1.2.2.2.2.2.1, (b.1.2.2.2.2.2.2.1, (b.1.2.2.2.2.2.2.2.1, (b.1.2.2.2.2.2.2.2.2.1, (b.1.2.2.2.2.2.2.2.2.2.1, b.1.2.2.2.2.2.2.2.2.2.2)))))))))))).bind fun r10 =>
 some (bif r10 then decide (r9.2 = 2) else false))
 else (
 some false)
 else none)))
 else (
 some false))
 else (
 some false))
 else (
 bif ((!decide (r3.2 = 2)) == false) then (
 (F14 ((r3.1.1, (r3.1.2.1, (r3.1.2.2.1, (r3.1.2.2.2.1, (r3.1.2.2.2.2.1, (r3.1.2.2.2.2.2.1, (r3.1.2.2.2.2.2.2.1, (r3.1.2.2.2.2.2.2.2.1, (r3.1.2.2.2.2.2.2.2.2.1, (r3.1.2.2.2.2.2.2.2.2.2.1, r3.1.2.2.2.2.2.2.2.2.2.2)))))))))), (0, (0, (0, (0, ([], (0, (0, (0, (0, ([], [])))))))))))).bind fun r11 =>
 bif (!r11) then (
 some false)
 else (
 (F16 (b.1.1, (b.1.2.1, (b.1.2.2.1, (b.1.2.2.2.1, (b.1.2.2.2.2.1, (b.1.2.2.2.2.2.1, (b.1.2.2.2.2.2.2.1, (b.1.2.2.2.2.2.2.2.1, (b.1.2.2.2.2.2.2.2.2.1, (b.1.2.2.2.2.2.2.2.2.2.1, b.1.2.2.2.2.2.2.2.2.2.2))))))))))).bind fun r12 =>
 bif (!decide (r12.2 = 0)) then (
 some (decide ((r12.1.length : Int) = 0)))
 else (
 (F15 r12.1).bind fun r13 =>
 bif inb (IntKind.wrap .i64 ((r12.1.length : Int) - 1)) (r12.1.length + 1) then
 (F15 (r12.1.take ((IntKind.wrap .i64 ((r12.1.length : Int) - 1)).toNat))).bind fun r14 =>
 bif (decide (r13.2 = 0) == true) then (
 (F14 ((r13.1.1, (r13.1.2.1, (r13.1.2.2.1, (r13.1.2.2.2.1, (r13.1.2.2.2.2.1, (r13.1.2.2.2.2.2.1, (r13.1.2.2.2.2.2.2.1, (r13.1.2.2.2.2.2.2.2.1, (r13.1.2.2.2.2.2.2.2.2.1, (r13.1.2.2.2.2.2.2.2.2.2.1, r13.1.2.2.2.2.2.2.2.2.2.2)))))))))), (b.1.1, (b.1.2.1, (b.1.2.2.1, (b.1.2.2.2.1, (b.1.2.2.2.2.1, (b.1.2.2.2.2.2.1, (b.1.2.2.2.2.2.2.1, (b.1.2.2.2.2.2.2.2.1, (b.1.2.2.2.2.2.2.2.2.1, (b.1.2.2.2.2.2.2.2.2.2.1, b.1.2.2.2.2.2.2.2.2.2.2)))))))))))).bind fun r15 =>
 some (bif r15 then decide (r14.2 = 2) else false))
 else (
 some false)
 else none)))
 else (
 some false))))
theorem ev5 (b : (Int × (Int × (Int × (Int × (List (Int × (Int × Int)) × (Int × (Int × (Int × (Int × (List (Int × Int) × List (Int × (Int × Int)))))))))))) × List Int) : evF C15 H5 Tryd.f5 (encs [.agg (.pair (.int .u64) (.pair (.int .i64) (.pair (.int .u64) (.pair (.int .u64) (.pair (.slice 48 (.pair (.int .i64) (.pair (.int .u64) (.int .u64)))) (.pair (.int .i64) (.pair (.int .u64) (.pair (.int .u64) (.pair (.int .u64) (.pair (.slice 57 (.pair (.int .u64) (.int .u64))) (.slice 48 (.pair (.int .i64) (.pair (.int .u64) (.int .u64)))))))))))))), .one (.slice 5 (.int .u8))] b) (RT.dec (.one (.leaf (.bool)))) = F5 b := by kernel_rfl
noncomputable def C5 : Ctx := Ctx.add C15 5 [.agg (.pair (.int .u64) (.pair (.int .i64) (.pair (.int .u64) (.pair (.int .u64) (.pair (.slice 48 (.pair (.int .i64) (.pair (.int .u64) (.int .u64)))) (.pair (.int .i64) (.pair (.int .u64) (.pair (.int .u64) (.pair (.int .u64) (.pair (.slice 57 (.pair (.int .u64) (.int .u64))) (.slice 48 (.pair (.int .i64) (.pair (.int .u64) (.int .u64)))))))))))))), .one (.slice 5 (.int .u8))] (.one (.leaf (.bool))) F5
theorem s5 : C5.Sound := Ctx.Sound.add (C := C15) mixed s15 Tryd.func5 ev5
/-! damson/damsonlaw19.RequestToken -/
def H6 : Nat → Head
  | 5000015 => ⟨[], [0, 0, 1, 1, 2, 2, 4, 4, 12, 12, 20, 20, 36, 32, 64, 64, 64, 64, 448, 448, 576, 576, 1536, 1024, 2048, 2048, 6144, 6144, 10240, 10240, 18432, 16384, 32768, 32768, 98304, 98304, 32768, 32768, 425984, 425984, 557056, 557056, 1081344, 1048576, 2097152, 2097152, 2097152, 2097152, 14680064, 14680064, 18874368, 18874368, 50331648, 33554432, 67108864, 67108864, 67108864, 67108864, 469762048, 469762048, 67108864, 67108864, 67108864, 67108864, 3825205248, 3288334336, 4898947072, 4898947072, 8657043456, 8657043456, 34359738367, 17179869184]⟩
  | _ => ⟨[], []⟩
noncomputable def F6 (b : (Int × (Int × (Int × (Int × (List (Int × (Int × Int)) × (Int × (Int × (Int × (Int × (List (Int × Int) × List (Int × (Int × Int)))))))))))) × (Int × (List (Int × (Int × Int)) × Int)) × Int) : Option Bool :=
 (F7 ()).bind fun r1 =>
 bif (!r1) then (
 some false)
 else (
 (F8 (b.1.1, (b.1.2.1, (b.1.2.2.1, (b.1.2.2.2.1, (b.1.2.2.2.2.1, (b.1.2.2.2.2.2.1, (b.1.2.2.2.2.2.2.1, (b.1.2.2.2.2.2.2.2.1, (b.1.2.2.2.2.2.2.2.2.1, (b.1.2.2.2.2.2.2.2.2.2.1, b.1.2.2.2.2.2.2.2.2.2.2))))))))))).bind fun r2 =>
 bif (bif (!r2) then true else decide (20 < (b.2.1.2.1.length : Int))) then (
 some true)
 else (
 (F16 (b.1.1, (b.1.2.1, (b.1.2.2.1, (b.1.2.2.2.1, (b.1.2.2.2.2.1, (b.1.2.2.2.2.2.1, (b.1.2.2.2.2.2.2.1, (b.1.2.2.2.2.2.2.2.1, (b.1.2.2.2.2.2.2.2.2.1, (b.1.2.2.2.2.2.2.2.2.2.1, b.1.2.2.2.2.2.2.2.2.2.2))))))))))).bind fun r3 =>
 (F16 (b.2.2, (b.1.2.1, (b.1.2.2.1, (b.2.1.1, (b.2.1.2.1, (b.2.1.2.2, (b.1.2.2.2.2.2.2.1, (b.1.2.2.2.2.2.2.2.1, (b.1.2.2.2.2.2.2.2.2.1, (b.1.2.2.2.2.2.2.2.2.2.1, b.1.2.2.2.2.2.2.2.2.2.2))))))))))).bind fun r4 =>
 bif (bif (!decide (r3.2 = 0)) then true else (!decide (r4.2 = 0))) then (
 some true)
 else (
 (F12 (b.1.1, (b.1.2.1, (b.1.2.2.1, (b.1.2.2.2.1, (b.1.2.2.2.2.1, (b.1.2.2.2.2.2.1, (b.1.2.2.2.2.2.2.1, (b.1.2.2.2.2.2.2.2.1, (b.1.2.2.2.2.2.2.2.2.1, (b.1.2.2.2.2.2.2.2.2.2.1, b.1.2.2.2.2.2.2.2.2.2.2))))))))))).bind fun r5 =>
 (F12 (b.2.2, (b.1.2.1, (b.1.2.2.1, (b.2.1.1, (b.2.1.2.1, (b.2.1.2.2, (b.1.2.2.2.2.2.2.1, (b.1.2.2.2.2.2.2.2.1, (b.1.2.2.2.2.2.2.2.2.1, (b.1.2.2.2.2.2.2.2.2.2.1, b.1.2.2.2.2.2.2.2.2.2.2))))))))))).bind fun r6 =>
 (F15 r4.1).bind fun r7 =>
 bif ((bif decide (r5.2 = 0) then decide (r6.2 = 0) else false) == true) then (
 (F13 (r5.1, r6.1)).bind fun r8 =>
 (fun o => both o o) (
 bif ((bif (bif r8 then decide (r7.2 = 0) else false) then decide (r7.1.1 = b.2.2) else false) == true) then (
 (F14 ((r7.1.1, (r7.1.2.1, (r7.1.2.2.1, (r7.1.2.2.2.1, (r7.1.2.2.2.2.1, (r7.1.2.2.2.2.2.1, (r7.1.2.2.2.2.2.2.1, (r7.1.2.2.2.2.2.2.2.1, (r7.1.2.2.2.2.2.2.2.2.1, (r7.1.2.2.2.2.2.2.2.2.2.1, r7.1.2.2.2.2.2.2.2.2.2.2)))))))))), (b.2.2, (b.1.2.1, (b.1.2.2.1, (b.2.1.1, (b.2.1.2.1, (b.2.1.2.2, (b.1.2.2.2.2.2.2.1, (b.1.2.2.2.2.2.2.2.1, (b.1.2.2.2.2.2.2.2.2.1, (b.1.2.2.2.2.2.2.2.2.2.1, b.1.2.2.2.2.2.2.2.2.2.2)))))))))))).bind fun r9 =>
 (both (
 bif (r9 == true) then (
 (F13 (r3.1, r4.1)).bind fun r10 =>
 (fun o => both o o) (
 (F14 ((b.1.1, (b.1.2.1, (b.1.2.2.1, (b.1.2.2.2.1, (b.1.2.2.2.2.1, (b.1.2.2.2.2.2.1, (b.1.2.2.2.2.2.2.1, (b.1.2.2.2.2.2.2.2.1, (b.1.2.2.2.2.2.2.2.2.1, (b.1.2.2.2.2.2.2.2.2.2.1, b.1.2.2.2.2.2.2.2.2.2.2)))))))))), (b.2.2, (b.1.2.1, (b.1.2.2.1, (b.2.1.1, (b.2.1.2.1, (b.2.1.2.2, (b.1.2.2.2.2.2.2.1, (b.1.2.2.2.2.2.2.2.1, (b.1.2.2.2.2.2.2.2.2.1, (b.1.2.2.2.2.2.2.2.2.2.1, b.1.2.2.2.2.2.2.2.2.2.2)))))))))))).bind fun r11 =>
 some (r10 == r11)))
 else (
 (fun o => both o o) (
 some false))) (both (
 (fun o => both o o) (
 bif (r9 == true) then (
 (F13 (r3.1, r4.1)).bind fun r10 =>
 (F14 ((b.1.1, (b.1.2.1, (b.1.2.2.1, (b.1.2.2.2.1, (b.1.2.2.2.2.1, (b.1.2.2.2.2.2.1, (b.1.2.2.2.2.2.2.1, (b.1.2.2.2.2.2.2.2.1, (b.1.2.2.2.2.2.2.2.2.1, (b.1.2.2.2.2.2.2.2.2.2.1, b.1.2.2.2.2.2.2.2.2.2.2)))))))))), (b.2.2, (b.1.2.1, (b.1.2.2.1, (b.2.1.1, (b.2.1.2.1, (b.2.1.2.2, (b.1.2.2.2.2.2.2.1, (b.1.2.2.2.2.2.2.2.1, (b.1.2.2.2.2.2.2.2.2.1, (b.1.2.2.2.2.2.2.2.2.2.1, b.1.2.2.2.2.2.2.2.2.2.2)))))))))))).bind fun r11 =>
 some (r10 == r11))
 else (
 some false))) (
 (fun o => both o o) (
 bif (r9 == true) then (
 (F13 (r3.1, r4.1)).bind fun r10 =>
 (F14 ((b.1.1, (b.1.2.1, (b.1.2.2.1, (b.1.2.2.2.1, (b.1.2.2.2.2.1, (b.1.2.2.2.2.2.1, (b.1.2.2.2.2.2.2.1, (b.1.2.2.2.2.2.2.2.1, (b.1.2.2.2.2.2.2.2.2.1, (b.1.2.2.2.2.2.2.2.2.2.1, b.1.2.2.2.2.2.2.2.2.2.2)))))))))), (b.2.2, (b.1.2.1, (b.1.2.2.1, (b.2.1.1, (b.2.1.2.1, (b.2.1.2.2, (b.1.2.2.2.2.2.2.1, (b.1.2.2.2.2.2.2.2.1, (b.1.2.2.2.2.2.2.2.2.1, (b.1.2.2.2.2.2.2.2.2.2.1, b.1.2.2.2.2.2.2.2.2.2.2)))))))))))).bind fun r11 =>
 some (r10 == r11))
 else (
 some false))))))
 else (
 (fun o => both o (both o o)) (
 (fun o => both o o) (
 some false)))))
 else (
 (fun o => both o o) (
 (fun o => both o (both o o)) (
 (fun o => both o o) (
 some false)))))))
theorem ev6 (b : (Int × (Int × (Int × (Int × (List (Int × (Int × Int)) × (Int × (Int × (Int × (Int × (List (Int × Int) × List (Int × (Int × Int)))))))))))) × (Int × (List (Int × (Int × Int)) × Int)) × Int) : evF C5 H6 Tryd.f6 (encs [.agg (.pair (.int .u64) (.pair (.int .i64) (.pair (.int .u64) (.pair (.int .u64) (.pair (.slice 48 (.pair (.int .i64) (.pair (.int .u64) (.int .u64)))) (.pair (.int .i64) (.pair (.int .u64) (.pair (.int .u64) (.pair (.int .u64) (.pair (.slice 57 (.pair (.int .u64) (.int .u64))) (.slice 48 (.pair (.int .i64) (.pair (.int .u64) (.int .u64)))))))))))))), .agg (.pair (.int .u64) (.pair (.slice 48 (.pair (.int .i64) (.pair (.int .u64) (.int .u64)))) (.int .i64))), .one (.int .u64)] b) (RT.dec (.one (.leaf (.bool)))) = F6 b := by kernel_rfl
noncomputable def C6 : Ctx := Ctx.add C5 6 [.agg (.pair (.int .u64) (.pair (.int .i64) (.pair (.int .u64) (.pair (.int .u64) (.pair (.slice 48 (.pair (.int .i64) (.pair (.int .u64) (.int .u64)))) (.pair (.int .i64) (.pair (.int .u64) (.pair (.int .u64) (.pair (.int .u64) (.pair (.slice 57 (.pair (.int .u64) (.int .u64))) (.slice 48 (.pair (.int .i64) (.pair (.int .u64) (.int .u64)))))))))))))), .agg (.pair (.int .u64) (.pair (.slice 48 (.pair (.int .i64) (.pair (.int .u64) (.int .u64)))) (.int .i64))), .one (.int .u64)] (.one (.leaf (.bool))) F6
theorem s6 : C6.Sound := Ctx.Sound.add (C := C5) mixed s5 Tryd.func6 ev6
end Go.Proofs.YtgdfhijgjjcnjaaDoor.R5
