/- Part of a proof: what the program's functions come to. -/
import Derived.Test.YtcpcbeeghjigkaaFwCtx
import Derived.Test.YtcpcbeeghjigkaaProg
import Derived.KernelRfl
set_option linter.unusedVariables false
set_option linter.unusedSimpArgs false
set_option maxRecDepth 100000
namespace Go.Proofs.Ytcpcbeeghjigkaa.R3
open Go Go.Fw Go.Proofs
noncomputable def C_ : Ctx := Ctx.nil Try.prog
theorem s_ : C_.Sound := Ctx.nil_sound _
theorem mixed : Try.prog.follows .mixedOrders = true := by kernel_rfl
/-! damson/token.Get$1 -/
def H78 : Nat → Head := fun _ => ⟨[], []⟩
noncomputable def F78 (b : Int) : Option Int :=
 bif decide (b < 2) then (
 some (IntKind.wrap .u64 (1 + (IntKind.wrap .u64 b))))
 else (
 some (IntKind.wrap .u64 (16 + (IntKind.wrap .u64 (IntKind.wrap .i64 (b - 2))))))
theorem ev78 (b : Int) : evF C_ H78 Try.f78 (encs [.one (.int .i64)] b) (RT.dec (.one (.leaf (.int .u64)))) = F78 b := by kernel_rfl
noncomputable def C78 : Ctx := Ctx.add C_ 78 [.one (.int .i64)] (.one (.leaf (.int .u64))) F78
theorem s78 : C78.Sound := Ctx.Sound.add (C := C_) mixed s_ Try.func78 ev78
/-! slices.Max[[]uint64,uint64] -/
def H104 : Nat → Head
  | 5 => ⟨[.data 3 (.int .u64), .data 4 (.int .i64)], []⟩
  | _ => ⟨[], []⟩
noncomputable def F104 (b : List Int) : Option Int :=
 bif decide ((b.length : Int) < 1) then (
 none)
 else (
 bif inb 0 b.length then
 lfp (fun (rec1 : (Int × Int) → Option Int) (x1 : Int × Int) =>
  bif decide (x1.2 < (b.length : Int)) then (
  bif inb x1.2 b.length then
  rec1 ((if x1.1 < (rd (.int .u64) b x1.2) then (rd (.int .u64) b x1.2) else x1.1), (IntKind.wrap .i64 (x1.2 + 1)))
  else none)
  else (
  some x1.1)) ((rd (.int .u64) b 0), 1)
 else none)
theorem ev104 (b : List Int) : evF C78 H104 Try.f104 (encs [.one (.slice 25 (.int .u64))] b) (RT.dec (.one (.leaf (.int .u64)))) = F104 b := by kernel_rfl
noncomputable def C104 : Ctx := Ctx.add C78 104 [.one (.slice 25 (.int .u64))] (.one (.leaf (.int .u64))) F104
theorem s104 : C104.Sound := Ctx.Sound.add (C := C78) mixed s78 Try.func104 ev104
/-! damson/money.Check -/
def H93 : Nat → Head := fun _ => ⟨[], []⟩
noncomputable def F93 (b : List Int) : Option Int :=
 bif (decide (0 < (b.length : Int)) == true) then (
 (F104 b).bind fun r1 =>
 bif decide (4611686018427387904 < r1) then (
 some 1)
 else (
 some 0))
 else (
 some 0)
theorem ev93 (b : List Int) : evF C104 H93 Try.f93 (encs [.one (.slice 25 (.int .u64))] b) (RT.dec (.one (.leaf (.int .i64)))) = F93 b := by kernel_rfl
noncomputable def C93 : Ctx := Ctx.add C104 93 [.one (.slice 25 (.int .u64))] (.one (.leaf (.int .i64))) F93
theorem s93 : C93.Sound := Ctx.Sound.add (C := C104) mixed s104 Try.func93 ev93
/-! damson/caveat.Check -/
def H69 : Nat → Head := fun _ => ⟨[], []⟩
noncomputable def F69 (b : (Int × (Int × Int))) : Option Int :=
 bif decide (b.1 = 4) then (
 (F93 ([b.2.1])).bind fun r1 =>
 some r1)
 else (
 bif decide (b.1 = 3) then (
 (F93 ([b.2.1])).bind fun r2 =>
 bif (!decide (r2 = 0)) then (
 some 1)
 else (
 bif (!decide (b.2.2 = 0)) then (
 some 1)
 else (
 some 0)))
 else (
 bif decide (b.1 = 2) then (
 bif decide (0 < (b.2.1 / 2 ^ (min (16 : Int).toNat 64))) then (
 some 1)
 else (
 bif (!decide (b.2.2 = 0)) then (
 some 1)
 else (
 some 0)))
 else (
 bif decide (b.1 = 1) then (
 bif decide (b.1 = 1) then (
 bif (!decide (b.2.2 = 0)) then (
 some 1)
 else (
 some 0))
 else (
 some 1))
 else (
 bif decide (b.1 = 5) then (
 bif (!decide (b.2.2 = 0)) then (
 some 1)
 else (
 some 0))
 else (
 some 1)))))
theorem ev69 (b : (Int × (Int × Int))) : evF C93 H69 Try.f69 (encs [.agg (.pair (.int .i64) (.pair (.int .u64) (.int .u64)))] b) (RT.dec (.one (.leaf (.int .i64)))) = F69 b := by kernel_rfl
noncomputable def C69 : Ctx := Ctx.add C93 69 [.agg (.pair (.int .i64) (.pair (.int .u64) (.int .u64)))] (.one (.leaf (.int .i64))) F69
theorem s69 : C69.Sound := Ctx.Sound.add (C := C93) mixed s93 Try.func69 ev69
/-! damson/token.Check$1 -/
def H68 : Nat → Head := fun _ => ⟨[], []⟩
noncomputable def F68 (b : (Int × (Int × Int))) : Option Bool :=
 (F69 (b.1, (b.2.1, b.2.2))).bind fun r1 =>
 some (!decide (r1 = 0))
theorem ev68 (b : (Int × (Int × Int))) : evF C69 H68 Try.f68 (encs [.agg (.pair (.int .i64) (.pair (.int .u64) (.int .u64)))] b) (RT.dec (.one (.leaf (.bool)))) = F68 b := by kernel_rfl
noncomputable def C68 : Ctx := Ctx.add C69 68 [.agg (.pair (.int .i64) (.pair (.int .u64) (.int .u64)))] (.one (.leaf (.bool))) F68
theorem s68 : C68.Sound := Ctx.Sound.add (C := C69) mixed s69 Try.func68 ev68
/-! damson/arena.Find$1 -/
def H58 : Nat → Head := fun _ => ⟨[], []⟩
noncomputable def F58 (b : List Int) : Option Bool :=
 some (decide (4096 < (b.length : Int)))
theorem ev58 (b : List Int) : evF C68 H58 Try.f58 (encs [.one (.slice 5 (.int .u8))] b) (RT.dec (.one (.leaf (.bool)))) = F58 b := by kernel_rfl
noncomputable def C58 : Ctx := Ctx.add C68 58 [.one (.slice 5 (.int .u8))] (.one (.leaf (.bool))) F58
theorem s58 : C58.Sound := Ctx.Sound.add (C := C68) mixed s68 Try.func58 ev58
/-! damson/arena.of -/
def H84 : Nat → Head := fun _ => ⟨[], []⟩
noncomputable def F84 (b : (Int × (Int × List Int))) : Option (Int × Int × List Int) :=
 some (b.1, b.2.1, b.2.2)
theorem ev84 (b : (Int × (Int × List Int))) : evF C58 H84 Try.f84 (encs [.agg (.pair (.int .u64) (.pair (.int .i64) (.slice 5 (.int .u8))))] b) (RT.dec (.one (.agg [.int .u64, .int .i64, .str]))) = F84 b := by kernel_rfl
noncomputable def C84 : Ctx := Ctx.add C58 84 [.agg (.pair (.int .u64) (.pair (.int .i64) (.slice 5 (.int .u8))))] (.one (.agg [.int .u64, .int .i64, .str])) F84
theorem s84 : C84.Sound := Ctx.Sound.add (C := C58) mixed s58 Try.func84 ev84
/-! damson/arena.read -/
def H54 : Nat → Head
  | 5 => ⟨[.data 3 (.int .i64), .data 17 (.int .i64), .mpk 36864 ⟨(.pair (.int .u64) (.pair (.int .i64) .str)), (.int .i64)⟩], [4096]⟩
  | 1000000 => ⟨[], [2]⟩
  | 1000003 => ⟨[], [2]⟩
  | 1000009 => ⟨[], [2]⟩
  | 1000012 => ⟨[], [2]⟩
  | _ => ⟨[], []⟩
noncomputable def F54 (b : List (Int × (Int × List Int))) : Option ((List ((Int × (Int × List Int)) × Int)) × Int) :=
 bif decide (1048576 < (b.length : Int)) then (
 some (([] : List ((Int × (Int × List Int)) × Int)), 1))
 else (
 lfp (fun (rec1 : (Int × Int × List ((Int × (Int × List Int)) × Int)) → Option ((List ((Int × (Int × List Int)) × Int)) × Int)) (x1 : Int × Int × List ((Int × (Int × List Int)) × Int)) =>
  bif decide (x1.2.1 < (b.length : Int)) then (
  bif inb x1.2.1 b.length then
  (F84 ((rd (.pair (.int .u64) (.pair (.int .i64) (.slice 5 (.int .u8)))) b x1.2.1).1, (((rd (.pair (.int .u64) (.pair (.int .i64) (.slice 5 (.int .u8)))) b x1.2.1).2).1, ((rd (.pair (.int .u64) (.pair (.int .i64) (.slice 5 (.int .u8)))) b x1.2.1).2).2))).bind fun r2 =>
  bif ((bif (bif (mhas (.pair (.int .u64) (.pair (.int .i64) .str)) (.int .i64) x1.2.2 (r2.1, (r2.2.1, r2.2.2))) then true else decide (((rd (.pair (.int .u64) (.pair (.int .i64) (.slice 5 (.int .u8)))) b x1.2.1).2).1 < (-1))) then true else decide (x1.2.1 ≤ ((rd (.pair (.int .u64) (.pair (.int .i64) (.slice 5 (.int .u8)))) b x1.2.1).2).1)) == false) then (
  bif (bif (bif decide ((-1) < ((rd (.pair (.int .u64) (.pair (.int .i64) (.slice 5 (.int .u8)))) b x1.2.1).2).1) then (!decide ((rd (.pair (.int .u64) (.pair (.int .i64) (.slice 5 (.int .u8)))) b x1.2.1).1 = 0)) else false) then true else decide (4096 < ((((rd (.pair (.int .u64) (.pair (.int .i64) (.slice 5 (.int .u8)))) b x1.2.1).2).2).length : Int))) then (
  some (([] : List ((Int × (Int × List Int)) × Int)), 1))
  else (
  (F84 ((rd (.pair (.int .u64) (.pair (.int .i64) (.slice 5 (.int .u8)))) b x1.2.1).1, (((rd (.pair (.int .u64) (.pair (.int .i64) (.slice 5 (.int .u8)))) b x1.2.1).2).1, ((rd (.pair (.int .u64) (.pair (.int .i64) (.slice 5 (.int .u8)))) b x1.2.1).2).2))).bind fun r3 =>
  rec1 (x1.1, (IntKind.wrap .i64 (x1.2.1 + 1)), (mput (.pair (.int .u64) (.pair (.int .i64) .str)) (.int .i64) x1.2.2 (r3.1, (r3.2.1, r3.2.2)) x1.2.1))))
  else (
  some (([] : List ((Int × (Int × List Int)) × Int)), 1))
  else none)
  else (
  some (x1.2.2, 0))) (0, 0, ([] : List ((Int × (Int × List Int)) × Int))))
theorem ev54 (b : List (Int × (Int × List Int))) : evF C84 H54 Try.f54 (encs [.agg (.slice 39 (.pair (.int .u64) (.pair (.int .i64) (.slice 5 (.int .u8)))))] b) (RT.dec (.tup [.leaf (.mp ⟨(.pair (.int .u64) (.pair (.int .i64) .str)), (.int .i64)⟩), .leaf (.int .i64)])) = F54 b := by kernel_rfl
noncomputable def C54 : Ctx := Ctx.add C84 54 [.agg (.slice 39 (.pair (.int .u64) (.pair (.int .i64) (.slice 5 (.int .u8)))))] (.tup [.leaf (.mp ⟨(.pair (.int .u64) (.pair (.int .i64) .str)), (.int .i64)⟩), .leaf (.int .i64)]) F54
theorem s54 : C54.Sound := Ctx.Sound.add (C := C84) mixed s84 Try.func54 ev54
/-! slices.Clone[[]byte,byte] -/
def H60 : Nat → Head := fun _ => ⟨[], []⟩
noncomputable def F60 (b : List Int) : Option (List Int) :=
 bif b.isEmpty then (
 (both (
 some ([] : List Int)) (
 bif decide ((([] : List Int).length + b.length) * 1 ≤ LIM) then
 some (([] : List Int) ++ b)
 else none)))
 else (
 bif decide ((([] : List Int).length + b.length) * 1 ≤ LIM) then
 some (([] : List Int) ++ b)
 else none)
theorem ev60 (b : List Int) : evF C54 H60 Try.f60 (encs [.one (.slice 5 (.int .u8))] b) (RT.dec (.one (.leaf (.fresh 5 (.int .u8))))) = F60 b := by kernel_rfl
noncomputable def C60 : Ctx := Ctx.add C54 60 [.one (.slice 5 (.int .u8))] (.one (.leaf (.fresh 5 (.int .u8)))) F60
theorem s60 : C60.Sound := Ctx.Sound.add (C := C54) mixed s54 Try.func60 ev60
/-! slices.Clone[[]damson/api.Term,damson/api.Term] -/
def H86 : Nat → Head := fun _ => ⟨[], []⟩
noncomputable def F86 (b : List (Int × (Int × List Int))) : Option (List (Int × (Int × List Int))) :=
 bif b.isEmpty then (
 (both (
 some ([] : List (Int × (Int × List Int)))) (
 bif decide ((([] : List (Int × (Int × List Int))).length + b.length) * 40 ≤ LIM) then
 some (([] : List (Int × (Int × List Int))) ++ b)
 else none)))
 else (
 bif decide ((([] : List (Int × (Int × List Int))).length + b.length) * 40 ≤ LIM) then
 some (([] : List (Int × (Int × List Int))) ++ b)
 else none)
theorem ev86 (b : List (Int × (Int × List Int))) : evF C60 H86 Try.f86 (encs [.one (.slice 39 (.pair (.int .u64) (.pair (.int .i64) (.slice 5 (.int .u8)))))] b) (RT.dec (.one (.leaf (.fresh 39 (.pair (.int .u64) (.pair (.int .i64) (.slice 5 (.int .u8)))))))) = F86 b := by kernel_rfl
noncomputable def C86 : Ctx := Ctx.add C60 86 [.one (.slice 39 (.pair (.int .u64) (.pair (.int .i64) (.slice 5 (.int .u8)))))] (.one (.leaf (.fresh 39 (.pair (.int .u64) (.pair (.int .i64) (.slice 5 (.int .u8))))))) F86
theorem s86 : C86.Sound := Ctx.Sound.add (C := C60) mixed s60 Try.func86 ev86
/-! slices.Clip[[]damson/api.Term,damson/api.Term]: carried out where it is called -/
def H85 : Nat → Head := fun _ => ⟨[], []⟩
noncomputable def C85 : Ctx := Ctx.addI C86 85 H85 9000085 Try.f85
theorem s85 : C85.Sound := Ctx.Sound.addI (C := C86) mixed s86 Try.func85
/-! damson/arena.put -/
def H51 : Nat → Head
  | 14 => ⟨[.data 65 (.int .i64), .rowk 245760 39 (.pair (.int .u64) (.pair (.int .i64) (.slice 5 (.int .u8))))], [229376, 225280, 16384, 12288, 8192]⟩
  | 5000011 => ⟨[], [0, 0, 1, 1, 2, 2, 0, 0, 8, 8, 20, 20, 63, 0, 127, 96]⟩
  | 5000016 => ⟨[], [0, 0, 1, 1, 0, 0, 0, 0, 8, 8, 16, 16, 63, 6, 127, 64, 191, 160]⟩
  | _ => ⟨[], []⟩
noncomputable def F51 (b : List (Int × (Int × List Int)) × (Int × (Int × List Int))) : Option ((List (Int × (Int × List Int))) × Int × Int) :=
 (F54 b.1).bind fun r1 =>
 bif (bif (!decide (r1.2 = 0)) then true else decide ((b.1.length : Int) ≤ b.2.2.1)) then (
 some (([] : List (Int × (Int × List Int))), 0, 1))
 else (
 bif decide (4096 < (b.2.2.2.length : Int)) then (
 some (([] : List (Int × (Int × List Int))), 0, 4))
 else (
 (F84 (b.2.1, (b.2.2.1, b.2.2.2))).bind fun r2 =>
 bif (!(mhas (.pair (.int .u64) (.pair (.int .i64) .str)) (.int .i64) r1.1 (r2.1, (r2.2.1, r2.2.2)))) then (
 bif decide ((b.1.length : Int) = 1048576) then (
 some (([] : List (Int × (Int × List Int))), 0, 7))
 else (
 (both (
 (both (
 bif (inb (b.1.length : Int) (b.1.length + 1) && decide ((b.1.length : Int) = (b.1.length : Int))) then
 bif decide (((b.1.take ((b.1.length : Int).toNat)).length + 1) * 40 ≤ LIM) then
 (F86 ((b.1.take ((b.1.length : Int).toNat)) ++ ([(b.2.1, (b.2.2.1, b.2.2.2))]))).bind fun r3 =>
 lfp (fun (rec4 : (Int × List (Int × (Int × List Int))) → Option ((List (Int × (Int × List Int))) × Int × Int)) (x4 : Int × List (Int × (Int × List Int))) =>
  bif decide (x4.1 < (r3.length : Int)) then (
  bif inb x4.1 x4.2.length then
  (both (
  (F60 (((rd (.pair (.int .u64) (.pair (.int .i64) (.slice 5 (.int .u8)))) x4.2 x4.1).2).2)).bind fun r5 =>
  bif inb x4.1 x4.2.length then
  rec4 ((IntKind.wrap .i64 (x4.1 + 1)), (x4.2.set x4.1.toNat ((rd (.pair (.int .u64) (.pair (.int .i64) (.slice 5 (.int .u8)))) x4.2 x4.1).1, (((rd (.pair (.int .u64) (.pair (.int .i64) (.slice 5 (.int .u8)))) x4.2 x4.1).2).1, r5))))
  else none) (
  (fun o => both o o) (
  (F60 (((rd (.pair (.int .u64) (.pair (.int .i64) (.slice 5 (.int .u8)))) x4.2 x4.1).2).2)).bind fun r5 =>
  bif inb x4.1 x4.2.length then
  rec4 ((IntKind.wrap .i64 (x4.1 + 1)), (x4.2.set x4.1.toNat ((rd (.pair (.int .u64) (.pair (.int .i64) (.slice 5 (.int .u8)))) x4.2 x4.1).1, (((rd (.pair (.int .u64) (.pair (.int .i64) (.slice 5 (.int .u8)))) x4.2 x4.1).2).1, r5))))
  else none)))
  else none)
  else (
  some (x4.2, (b.1.length : Int), 0))) (0, r3)
 else none
 else none) (
 (fun o => both o o) (
 bif (inb (b.1.length : Int) (b.1.length + 1) && decide ((b.1.length : Int) = (b.1.length : Int))) then
 bif decide (((b.1.take ((b.1.length : Int).toNat)).length + 1) * 40 ≤ LIM) then
 (F86 ((b.1.take ((b.1.length : Int).toNat)) ++ ([(b.2.1, (b.2.2.1, b.2.2.2))]))).bind fun r3 =>
 lfp (fun (rec4 : (Int × List (Int × (Int × List Int))) → Option ((List (Int × (Int × List Int))) × Int × Int)) (x4 : Int × List (Int × (Int × List Int))) =>
  bif decide (x4.1 < (r3.length : Int)) then (
  bif inb x4.1 x4.2.length then
  (both (
  (F60 (((rd (.pair (.int .u64) (.pair (.int .i64) (.slice 5 (.int .u8)))) x4.2 x4.1).2).2)).bind fun r5 =>
  bif inb x4.1 x4.2.length then
  rec4 ((IntKind.wrap .i64 (x4.1 + 1)), (x4.2.set x4.1.toNat ((rd (.pair (.int .u64) (.pair (.int .i64) (.slice 5 (.int .u8)))) x4.2 x4.1).1, (((rd (.pair (.int .u64) (.pair (.int .i64) (.slice 5 (.int .u8)))) x4.2 x4.1).2).1, r5))))
  else none) (
  (fun o => both o o) (
  (F60 (((rd (.pair (.int .u64) (.pair (.int .i64) (.slice 5 (.int .u8)))) x4.2 x4.1).2).2)).bind fun r5 =>
  bif inb x4.1 x4.2.length then
  rec4 ((IntKind.wrap .i64 (x4.1 + 1)), (x4.2.set x4.1.toNat ((rd (.pair (.int .u64) (.pair (.int .i64) (.slice 5 (.int .u8)))) x4.2 x4.1).1, (((rd (.pair (.int .u64) (.pair (.int .i64) (.slice 5 (.int .u8)))) x4.2 x4.1).2).1, r5))))
  else none)))
  else none)
  else (
  some (x4.2, (b.1.length : Int), 0))) (0, r3)
 else none
 else none)))) (
 (both (
 (fun o => both o o) (
 bif (inb (b.1.length : Int) (b.1.length + 1) && decide ((b.1.length : Int) = (b.1.length : Int))) then
 bif decide (((b.1.take ((b.1.length : Int).toNat)).length + 1) * 40 ≤ LIM) then
 (F86 ((b.1.take ((b.1.length : Int).toNat)) ++ ([(b.2.1, (b.2.2.1, b.2.2.2))]))).bind fun r3 =>
 lfp (fun (rec4 : (Int × List (Int × (Int × List Int))) → Option ((List (Int × (Int × List Int))) × Int × Int)) (x4 : Int × List (Int × (Int × List Int))) =>
  bif decide (x4.1 < (r3.length : Int)) then (
  bif inb x4.1 x4.2.length then
  (both (
  (F60 (((rd (.pair (.int .u64) (.pair (.int .i64) (.slice 5 (.int .u8)))) x4.2 x4.1).2).2)).bind fun r5 =>
  bif inb x4.1 x4.2.length then
  rec4 ((IntKind.wrap .i64 (x4.1 + 1)), (x4.2.set x4.1.toNat ((rd (.pair (.int .u64) (.pair (.int .i64) (.slice 5 (.int .u8)))) x4.2 x4.1).1, (((rd (.pair (.int .u64) (.pair (.int .i64) (.slice 5 (.int .u8)))) x4.2 x4.1).2).1, r5))))
  else none) (
  (fun o => both o o) (
  (F60 (((rd (.pair (.int .u64) (.pair (.int .i64) (.slice 5 (.int .u8)))) x4.2 x4.1).2).2)).bind fun r5 =>
  bif inb x4.1 x4.2.length then
  rec4 ((IntKind.wrap .i64 (x4.1 + 1)), (x4.2.set x4.1.toNat ((rd (.pair (.int .u64) (.pair (.int .i64) (.slice 5 (.int .u8)))) x4.2 x4.1).1, (((rd (.pair (.int .u64) (.pair (.int .i64) (.slice 5 (.int .u8)))) x4.2 x4.1).2).1, r5))))
  else none)))
  else none)
  else (
  some (x4.2, (b.1.length : Int), 0))) (0, r3)
 else none
 else none)) (
 bif (inb (b.1.length : Int) (b.1.length + 1) && decide ((b.1.length : Int) = (b.1.length : Int))) then
 bif decide (((b.1.take ((b.1.length : Int).toNat)).length + 1) * 40 ≤ LIM) then
 (F86 ((b.1.take ((b.1.length : Int).toNat)) ++ ([(b.2.1, (b.2.2.1, b.2.2.2))]))).bind fun r3 =>
 lfp (fun (rec4 : (Int × List (Int × (Int × List Int))) → Option ((List (Int × (Int × List Int))) × Int × Int)) (x4 : Int × List (Int × (Int × List Int))) =>
  bif decide (x4.1 < (r3.length : Int)) then (
  bif inb x4.1 x4.2.length then
  (both (
  (F60 (((rd (.pair (.int .u64) (.pair (.int .i64) (.slice 5 (.int .u8)))) x4.2 x4.1).2).2)).bind fun r5 =>
  bif inb x4.1 x4.2.length then
  rec4 ((IntKind.wrap .i64 (x4.1 + 1)), (x4.2.set x4.1.toNat ((rd (.pair (.int .u64) (.pair (.int .i64) (.slice 5 (.int .u8)))) x4.2 x4.1).1, (((rd (.pair (.int .u64) (.pair (.int .i64) (.slice 5 (.int .u8)))) x4.2 x4.1).2).1, r5))))
  else none) (
  (fun o => both o o) (
  (F60 (((rd (.pair (.int .u64) (.pair (.int .i64) (.slice 5 (.int .u8)))) x4.2 x4.1).2).2)).bind fun r5 =>
  bif inb x4.1 x4.2.length then
  rec4 ((IntKind.wrap .i64 (x4.1 + 1)), (x4.2.set x4.1.toNat ((rd (.pair (.int .u64) (.pair (.int .i64) (.slice 5 (.int .u8)))) x4.2 x4.1).1, (((rd (.pair (.int .u64) (.pair (.int .i64) (.slice 5 (.int .u8)))) x4.2 x4.1).2).1, r5))))
  else none)))
  else none)
  else (
  some (x4.2, (b.1.length : Int), 0))) (0, r3)
 else none
 else none))))))
 else (
 (F86 b.1).bind fun r6 =>
 lfp (fun (rec7 : (Int × List (Int × (Int × List Int))) → Option ((List (Int × (Int × List Int))) × Int × Int)) (x7 : Int × List (Int × (Int × List Int))) =>
  bif decide (x7.1 < (r6.length : Int)) then (
  bif inb x7.1 x7.2.length then
  (both (
  (F60 (((rd (.pair (.int .u64) (.pair (.int .i64) (.slice 5 (.int .u8)))) x7.2 x7.1).2).2)).bind fun r8 =>
  bif inb x7.1 x7.2.length then
  rec7 ((IntKind.wrap .i64 (x7.1 + 1)), (x7.2.set x7.1.toNat ((rd (.pair (.int .u64) (.pair (.int .i64) (.slice 5 (.int .u8)))) x7.2 x7.1).1, (((rd (.pair (.int .u64) (.pair (.int .i64) (.slice 5 (.int .u8)))) x7.2 x7.1).2).1, r8))))
  else none) (
  (fun o => both o o) (
  (F60 (((rd (.pair (.int .u64) (.pair (.int .i64) (.slice 5 (.int .u8)))) x7.2 x7.1).2).2)).bind fun r8 =>
  bif inb x7.1 x7.2.length then
  rec7 ((IntKind.wrap .i64 (x7.1 + 1)), (x7.2.set x7.1.toNat ((rd (.pair (.int .u64) (.pair (.int .i64) (.slice 5 (.int .u8)))) x7.2 x7.1).1, (((rd (.pair (.int .u64) (.pair (.int .i64) (.slice 5 (.int .u8)))) x7.2 x7.1).2).1, r8))))
  else none)))
  else none)
  else (
  some (x7.2, (mget (.pair (.int .u64) (.pair (.int .i64) .str)) (.int .i64) 0 r1.1 (r2.1, (r2.2.1, r2.2.2))), 0))) (0, r6))))
theorem ev51 (b : List (Int × (Int × List Int)) × (Int × (Int × List Int))) : evF C85 H51 Try.f51 (encs [.agg (.slice 39 (.pair (.int .u64) (.pair (.int .i64) (.slice 5 (.int .u8))))), .agg (.pair (.int .u64) (.pair (.int .i64) (.slice 5 (.int .u8))))] b) (RT.dec (.tup [.agg [.fresh 39 (.pair (.int .u64) (.pair (.int .i64) (.slice 5 (.int .u8))))], .leaf (.int .i64), .leaf (.int .i64)])) = F51 b := by kernel_rfl
noncomputable def C51 : Ctx := Ctx.add C85 51 [.agg (.slice 39 (.pair (.int .u64) (.pair (.int .i64) (.slice 5 (.int .u8))))), .agg (.pair (.int .u64) (.pair (.int .i64) (.slice 5 (.int .u8))))] (.tup [.agg [.fresh 39 (.pair (.int .u64) (.pair (.int .i64) (.slice 5 (.int .u8))))], .leaf (.int .i64), .leaf (.int .i64)]) F51
theorem s51 : C51.Sound := Ctx.Sound.add (C := C85) mixed s85 Try.func51 ev51
/-! damson/arena.Root -/
def H18 : Nat → Head := fun _ => ⟨[], []⟩
noncomputable def F18 (b : List (Int × (Int × List Int)) × Int × List Int) : Option ((List (Int × (Int × List Int))) × Int × Int) :=
 (F51 (b.1, (b.2.1, ((-1), b.2.2)))).bind fun r1 =>
 some (r1.1, r1.2.1, r1.2.2)
theorem ev18 (b : List (Int × (Int × List Int)) × Int × List Int) : evF C51 H18 Try.f18 (encs [.agg (.slice 39 (.pair (.int .u64) (.pair (.int .i64) (.slice 5 (.int .u8))))), .one (.int .u64), .one (.slice 5 (.int .u8))] b) (RT.dec (.tup [.agg [.fresh 39 (.pair (.int .u64) (.pair (.int .i64) (.slice 5 (.int .u8))))], .leaf (.int .i64), .leaf (.int .i64)])) = F18 b := by kernel_rfl
noncomputable def C18 : Ctx := Ctx.add C51 18 [.agg (.slice 39 (.pair (.int .u64) (.pair (.int .i64) (.slice 5 (.int .u8))))), .one (.int .u64), .one (.slice 5 (.int .u8))] (.tup [.agg [.fresh 39 (.pair (.int .u64) (.pair (.int .i64) (.slice 5 (.int .u8))))], .leaf (.int .i64), .leaf (.int .i64)]) F18
theorem s18 : C18.Sound := Ctx.Sound.add (C := C51) mixed s51 Try.func18 ev18
/-! damson/damsonlaw05.live -/
def H14 : Nat → Head := fun _ => ⟨[], []⟩
noncomputable def F14 (b : Unit) : Option Bool :=
 (F18 ([], 7, [])).bind fun r1 =>
 (F18 (r1.1, 7, [])).bind fun r2 =>
 some (bif (bif (bif (bif decide (r1.2.2 = 0) then decide (r2.2.2 = 0) else false) then decide (r1.2.1 = 0) else false) then decide (r2.2.1 = 0) else false) then decide ((r2.1.length : Int) = 1) else false)
theorem ev14 (b : Unit) : evF C18 H14 Try.f14 (encs [] b) (RT.dec (.one (.leaf (.bool)))) = F14 b := by kernel_rfl
noncomputable def C14 : Ctx := Ctx.add C18 14 [] (.one (.leaf (.bool))) F14
theorem s14 : C14.Sound := Ctx.Sound.add (C := C18) mixed s18 Try.func14 ev14
/-! damson/damsonref05.Few -/
def H15 : Nat → Head
  | 2 => ⟨[.data 2 .bool, .data 8 (.int .i64)], [4096]⟩
  | _ => ⟨[], []⟩
noncomputable def F15 (b : List (Int × (Int × List Int))) : Option Bool :=
 lfp (fun (rec1 : (Bool × Int) → Option Bool) (x1 : Bool × Int) =>
  bif decide (x1.2 < (b.length : Int)) then (
  bif inb x1.2 b.length then
  bif decide (200 < ((((rd (.pair (.int .u64) (.pair (.int .i64) (.slice 5 (.int .u8)))) b x1.2).2).2).length : Int)) then (
  some false)
  else (
  rec1 (x1.1, (IntKind.wrap .i64 (x1.2 + 1))))
  else none)
  else (
  some (decide ((b.length : Int) ≤ 80)))) (false, 0)
theorem ev15 (b : List (Int × (Int × List Int))) : evF C14 H15 Try.f15 (encs [.agg (.slice 39 (.pair (.int .u64) (.pair (.int .i64) (.slice 5 (.int .u8)))))] b) (RT.dec (.one (.leaf (.bool)))) = F15 b := by kernel_rfl
noncomputable def C15 : Ctx := Ctx.add C14 15 [.agg (.slice 39 (.pair (.int .u64) (.pair (.int .i64) (.slice 5 (.int .u8)))))] (.one (.leaf (.bool))) F15
theorem s15 : C15.Sound := Ctx.Sound.add (C := C14) mixed s14 Try.func15 ev15
/-! damson/damsonlaw05.few -/
def H16 : Nat → Head
  | 2 => ⟨[.data 2 .bool, .data 7 (.int .i64)], []⟩
  | _ => ⟨[], []⟩
noncomputable def F16 (b : List (List Int)) : Option Bool :=
 lfp (fun (rec1 : (Bool × Int) → Option Bool) (x1 : Bool × Int) =>
  bif decide (x1.2 < (b.length : Int)) then (
  bif inb x1.2 b.length then
  bif (bif (bif decide (200 < ((rd (.slice 5 (.int .u8)) b x1.2).length : Int)) then decide (((rd (.slice 5 (.int .u8)) b x1.2).length : Int) ≤ 4096) else false) then true else decide (4100 < ((rd (.slice 5 (.int .u8)) b x1.2).length : Int))) then (
  some false)
  else (
  rec1 (x1.1, (IntKind.wrap .i64 (x1.2 + 1))))
  else none)
  else (
  some (decide ((b.length : Int) ≤ 12)))) (false, 0)
theorem ev16 (b : List (List Int)) : evF C15 H16 Try.f16 (encs [.one (.slice 26 (.slice 5 (.int .u8)))] b) (RT.dec (.one (.leaf (.bool)))) = F16 b := by kernel_rfl
noncomputable def C16 : Ctx := Ctx.add C15 16 [.one (.slice 26 (.slice 5 (.int .u8)))] (.one (.leaf (.bool))) F16
theorem s16 : C16.Sound := Ctx.Sound.add (C := C15) mixed s15 Try.func16 ev16
/-! damson/damsonref05.Copy -/
def H17 : Nat → Head
  | 3 => ⟨[.data 10 (.int .i64), .crow 12288 0 10014339 39 (.pair (.int .u64) (.pair (.int .i64) (.slice 5 (.int .u8)))), .boxr 12288 10014339 .unit .unit], [8192, 4096]⟩
  | 5000005 => ⟨[], [0, 0, 1, 1, 0, 0, 4, 4, 0, 0, 16, 16, 0, 0, 64, 64, 128, 128, 296, 296, 512, 512, 1282, 1026, 4095, 0, 8191, 6144]⟩
  | _ => ⟨[], []⟩
noncomputable def F17 (b : List (Int × (Int × List Int))) : Option (List (Int × (Int × List Int))) :=
 lfp (fun (rec1 : (Int × List (Int × (Int × List Int)) × (Unit × Unit)) → Option (List (Int × (Int × List Int)))) (x1 : Int × List (Int × (Int × List Int)) × (Unit × Unit)) =>
  bif decide (x1.1 < (b.length : Int)) then (
  bif inb x1.1 b.length then
  (both (
  (both (
  (both (
  bif (!(((rd (.pair (.int .u64) (.pair (.int .i64) (.slice 5 (.int .u8)))) b x1.1).2).2).isEmpty || true) then
  bif decide ((([] : List Int).length + (((rd (.pair (.int .u64) (.pair (.int .i64) (.slice 5 (.int .u8)))) b x1.1).2).2).length) * 1 ≤ LIM) then
  bif decide ((x1.2.1.length + 1) * 40 ≤ LIM) then
  rec1 ((IntKind.wrap .i64 (x1.1 + 1)), (x1.2.1 ++ ([((rd (.pair (.int .u64) (.pair (.int .i64) (.slice 5 (.int .u8)))) b x1.1).1, (((rd (.pair (.int .u64) (.pair (.int .i64) (.slice 5 (.int .u8)))) b x1.1).2).1, ([] : List Int) ++ (((rd (.pair (.int .u64) (.pair (.int .i64) (.slice 5 (.int .u8)))) b x1.1).2).2)))])), ((), ()))
  else none
  else none
  else none) (
  (fun o => both o o) (
  bif (!(((rd (.pair (.int .u64) (.pair (.int .i64) (.slice 5 (.int .u8)))) b x1.1).2).2).isEmpty || true) then
  bif decide ((([] : List Int).length + (((rd (.pair (.int .u64) (.pair (.int .i64) (.slice 5 (.int .u8)))) b x1.1).2).2).length) * 1 ≤ LIM) then
  bif decide ((x1.2.1.length + 1) * 40 ≤ LIM) then
  rec1 ((IntKind.wrap .i64 (x1.1 + 1)), (x1.2.1 ++ ([((rd (.pair (.int .u64) (.pair (.int .i64) (.slice 5 (.int .u8)))) b x1.1).1, (((rd (.pair (.int .u64) (.pair (.int .i64) (.slice 5 (.int .u8)))) b x1.1).2).1, ([] : List Int) ++ (((rd (.pair (.int .u64) (.pair (.int .i64) (.slice 5 (.int .u8)))) b x1.1).2).2)))])), ((), ()))
  else none
  else none
  else none)))) (both (
  (both (
  bif (!(((rd (.pair (.int .u64) (.pair (.int .i64) (.slice 5 (.int .u8)))) b x1.1).2).2).isEmpty || true) then
  bif decide ((([] : List Int).length + (((rd (.pair (.int .u64) (.pair (.int .i64) (.slice 5 (.int .u8)))) b x1.1).2).2).length) * 1 ≤ LIM) then
  bif decide ((x1.2.1.length + 1) * 40 ≤ LIM) then
  rec1 ((IntKind.wrap .i64 (x1.1 + 1)), (x1.2.1 ++ ([((rd (.pair (.int .u64) (.pair (.int .i64) (.slice 5 (.int .u8)))) b x1.1).1, (((rd (.pair (.int .u64) (.pair (.int .i64) (.slice 5 (.int .u8)))) b x1.1).2).1, ([] : List Int) ++ (((rd (.pair (.int .u64) (.pair (.int .i64) (.slice 5 (.int .u8)))) b x1.1).2).2)))])), ((), ()))
  else none
  else none
  else none) (
  (fun o => both o o) (
  bif (!(((rd (.pair (.int .u64) (.pair (.int .i64) (.slice 5 (.int .u8)))) b x1.1).2).2).isEmpty || true) then
  bif decide ((([] : List Int).length + (((rd (.pair (.int .u64) (.pair (.int .i64) (.slice 5 (.int .u8)))) b x1.1).2).2).length) * 1 ≤ LIM) then
  bif decide ((x1.2.1.length + 1) * 40 ≤ LIM) then
  rec1 ((IntKind.wrap .i64 (x1.1 + 1)), (x1.2.1 ++ ([((rd (.pair (.int .u64) (.pair (.int .i64) (.slice 5 (.int .u8)))) b x1.1).1, (((rd (.pair (.int .u64) (.pair (.int .i64) (.slice 5 (.int .u8)))) b x1.1).2).1, ([] : List Int) ++ (((rd (.pair (.int .u64) (.pair (.int .i64) (.slice 5 (.int .u8)))) b x1.1).2).2)))])), ((), ()))
  else none
  else none
  else none)))) (
  (both (
  (fun o => both o o) (
  bif (!(((rd (.pair (.int .u64) (.pair (.int .i64) (.slice 5 (.int .u8)))) b x1.1).2).2).isEmpty || true) then
  bif decide ((([] : List Int).length + (((rd (.pair (.int .u64) (.pair (.int .i64) (.slice 5 (.int .u8)))) b x1.1).2).2).length) * 1 ≤ LIM) then
  bif decide ((x1.2.1.length + 1) * 40 ≤ LIM) then
  rec1 ((IntKind.wrap .i64 (x1.1 + 1)), (x1.2.1 ++ ([((rd (.pair (.int .u64) (.pair (.int .i64) (.slice 5 (.int .u8)))) b x1.1).1, (((rd (.pair (.int .u64) (.pair (.int .i64) (.slice 5 (.int .u8)))) b x1.1).2).1, ([] : List Int) ++ (((rd (.pair (.int .u64) (.pair (.int .i64) (.slice 5 (.int .u8)))) b x1.1).2).2)))])), ((), ()))
  else none
  else none
  else none)) (both (
  (fun o => both o o) (
  bif (!(((rd (.pair (.int .u64) (.pair (.int .i64) (.slice 5 (.int .u8)))) b x1.1).2).2).isEmpty || true) then
  bif decide ((([] : List Int).length + (((rd (.pair (.int .u64) (.pair (.int .i64) (.slice 5 (.int .u8)))) b x1.1).2).2).length) * 1 ≤ LIM) then
  bif decide ((x1.2.1.length + 1) * 40 ≤ LIM) then
  rec1 ((IntKind.wrap .i64 (x1.1 + 1)), (x1.2.1 ++ ([((rd (.pair (.int .u64) (.pair (.int .i64) (.slice 5 (.int .u8)))) b x1.1).1, (((rd (.pair (.int .u64) (.pair (.int .i64) (.slice 5 (.int .u8)))) b x1.1).2).1, ([] : List Int) ++ (((rd (.pair (.int .u64) (.pair (.int .i64) (.slice 5 (.int .u8)))) b x1.1).2).2)))])), ((), ()))
  else none
  else none
  else none)) (
  bif (!(((rd (.pair (.int .u64) (.pair (.int .i64) (.slice 5 (.int .u8)))) b x1.1).2).2).isEmpty || true) then
  bif decide ((([] : List Int).length + (((rd (.pair (.int .u64) (.pair (.int .i64) (.slice 5 (.int .u8)))) b x1.1).2).2).length) * 1 ≤ LIM) then
  (fun o => both o o) (
  bif decide ((x1.2.1.length + 1) * 40 ≤ LIM) then
  rec1 ((IntKind.wrap .i64 (x1.1 + 1)), (x1.2.1 ++ ([((rd (.pair (.int .u64) (.pair (.int .i64) (.slice 5 (.int .u8)))) b x1.1).1, (((rd (.pair (.int .u64) (.pair (.int .i64) (.slice 5 (.int .u8)))) b x1.1).2).1, ([] : List Int) ++ (((rd (.pair (.int .u64) (.pair (.int .i64) (.slice 5 (.int .u8)))) b x1.1).2).2)))])), ((), ()))
  else none)
  else none
  else none))))))) (both (
  (both (
  (both (
  bif (!(((rd (.pair (.int .u64) (.pair (.int .i64) (.slice 5 (.int .u8)))) b x1.1).2).2).isEmpty || true) then
  bif decide ((([] : List Int).length + (((rd (.pair (.int .u64) (.pair (.int .i64) (.slice 5 (.int .u8)))) b x1.1).2).2).length) * 1 ≤ LIM) then
  bif decide ((x1.2.1.length + 1) * 40 ≤ LIM) then
  rec1 ((IntKind.wrap .i64 (x1.1 + 1)), (x1.2.1 ++ ([((rd (.pair (.int .u64) (.pair (.int .i64) (.slice 5 (.int .u8)))) b x1.1).1, (((rd (.pair (.int .u64) (.pair (.int .i64) (.slice 5 (.int .u8)))) b x1.1).2).1, ([] : List Int) ++ (((rd (.pair (.int .u64) (.pair (.int .i64) (.slice 5 (.int .u8)))) b x1.1).2).2)))])), ((), ()))
  else none
  else none
  else none) (
  (fun o => both o o) (
  bif (!(((rd (.pair (.int .u64) (.pair (.int .i64) (.slice 5 (.int .u8)))) b x1.1).2).2).isEmpty || true) then
  bif decide ((([] : List Int).length + (((rd (.pair (.int .u64) (.pair (.int .i64) (.slice 5 (.int .u8)))) b x1.1).2).2).length) * 1 ≤ LIM) then
  bif decide ((x1.2.1.length + 1) * 40 ≤ LIM) then
  rec1 ((IntKind.wrap .i64 (x1.1 + 1)), (x1.2.1 ++ ([((rd (.pair (.int .u64) (.pair (.int .i64) (.slice 5 (.int .u8)))) b x1.1).1, (((rd (.pair (.int .u64) (.pair (.int .i64) (.slice 5 (.int .u8)))) b x1.1).2).1, ([] : List Int) ++ (((rd (.pair (.int .u64) (.pair (.int .i64) (.slice 5 (.int .u8)))) b x1.1).2).2)))])), ((), ()))
  else none
  else none
  else none)))) (both (
  (both (
  bif (!(((rd (.pair (.int .u64) (.pair (.int .i64) (.slice 5 (.int .u8)))) b x1.1).2).2).isEmpty || true) then
  bif decide ((([] : List Int).length + (((rd (.pair (.int .u64) (.pair (.int .i64) (.slice 5 (.int .u8)))) b x1.1).2).2).length) * 1 ≤ LIM) then
  bif decide ((x1.2.1.length + 1) * 40 ≤ LIM) then
  rec1 ((IntKind.wrap .i64 (x1.1 + 1)), (x1.2.1 ++ ([((rd (.pair (.int .u64) (.pair (.int .i64) (.slice 5 (.int .u8)))) b x1.1).1, (((rd (.pair (.int .u64) (.pair (.int .i64) (.slice 5 (.int .u8)))) b x1.1).2).1, ([] : List Int) ++ (((rd (.pair (.int .u64) (.pair (.int .i64) (.slice 5 (.int .u8)))) b x1.1).2).2)))])), ((), ()))
  else none
  else none
  else none) (
  (both (
  bif (!(((rd (.pair (.int .u64) (.pair (.int .i64) (.slice 5 (.int .u8)))) b x1.1).2).2).isEmpty || true) then
  bif decide ((([] : List Int).length + (((rd (.pair (.int .u64) (.pair (.int .i64) (.slice 5 (.int .u8)))) b x1.1).2).2).length) * 1 ≤ LIM) then
  bif decide ((x1.2.1.length + 1) * 40 ≤ LIM) then
  rec1 ((IntKind.wrap .i64 (x1.1 + 1)), (x1.2.1 ++ ([((rd (.pair (.int .u64) (.pair (.int .i64) (.slice 5 (.int .u8)))) b x1.1).1, (((rd (.pair (.int .u64) (.pair (.int .i64) (.slice 5 (.int .u8)))) b x1.1).2).1, ([] : List Int) ++ (((rd (.pair (.int .u64) (.pair (.int .i64) (.slice 5 (.int .u8)))) b x1.1).2).2)))])), ((), ()))
  else none
  else none
  else none) (
  bif (!(((rd (.pair (.int .u64) (.pair (.int .i64) (.slice 5 (.int .u8)))) b x1.1).2).2).isEmpty || true) then
  bif decide ((([] : List Int).length + (((rd (.pair (.int .u64) (.pair (.int .i64) (.slice 5 (.int .u8)))) b x1.1).2).2).length) * 1 ≤ LIM) then
  (both (
  bif decide ((x1.2.1.length + 1) * 40 ≤ LIM) then
  rec1 ((IntKind.wrap .i64 (x1.1 + 1)), (x1.2.1 ++ ([((rd (.pair (.int .u64) (.pair (.int .i64) (.slice 5 (.int .u8)))) b x1.1).1, (((rd (.pair (.int .u64) (.pair (.int .i64) (.slice 5 (.int .u8)))) b x1.1).2).1, ([] : List Int) ++ (((rd (.pair (.int .u64) (.pair (.int .i64) (.slice 5 (.int .u8)))) b x1.1).2).2)))])), ((), ()))
  else none) (
  (fun o => both o o) (
  bif decide ((x1.2.1.length + 1) * 40 ≤ LIM) then
  rec1 ((IntKind.wrap .i64 (x1.1 + 1)), (x1.2.1 ++ ([((rd (.pair (.int .u64) (.pair (.int .i64) (.slice 5 (.int .u8)))) b x1.1).1, (((rd (.pair (.int .u64) (.pair (.int .i64) (.slice 5 (.int .u8)))) b x1.1).2).1, ([] : List Int) ++ (((rd (.pair (.int .u64) (.pair (.int .i64) (.slice 5 (.int .u8)))) b x1.1).2).2)))])), ((), ()))
  else none)))
  else none
  else none))))) (
  (both (
  (fun o => both o o) (
  bif (!(((rd (.pair (.int .u64) (.pair (.int .i64) (.slice 5 (.int .u8)))) b x1.1).2).2).isEmpty || true) then
  bif decide ((([] : List Int).length + (((rd (.pair (.int .u64) (.pair (.int .i64) (.slice 5 (.int .u8)))) b x1.1).2).2).length) * 1 ≤ LIM) then
  bif decide ((x1.2.1.length + 1) * 40 ≤ LIM) then
  rec1 ((IntKind.wrap .i64 (x1.1 + 1)), (x1.2.1 ++ ([((rd (.pair (.int .u64) (.pair (.int .i64) (.slice 5 (.int .u8)))) b x1.1).1, (((rd (.pair (.int .u64) (.pair (.int .i64) (.slice 5 (.int .u8)))) b x1.1).2).1, ([] : List Int) ++ (((rd (.pair (.int .u64) (.pair (.int .i64) (.slice 5 (.int .u8)))) b x1.1).2).2)))])), ((), ()))
  else none
  else none
  else none)) (both (
  (both (
  bif (!(((rd (.pair (.int .u64) (.pair (.int .i64) (.slice 5 (.int .u8)))) b x1.1).2).2).isEmpty || true) then
  bif decide ((([] : List Int).length + (((rd (.pair (.int .u64) (.pair (.int .i64) (.slice 5 (.int .u8)))) b x1.1).2).2).length) * 1 ≤ LIM) then
  bif decide ((x1.2.1.length + 1) * 40 ≤ LIM) then
  rec1 ((IntKind.wrap .i64 (x1.1 + 1)), (x1.2.1 ++ ([((rd (.pair (.int .u64) (.pair (.int .i64) (.slice 5 (.int .u8)))) b x1.1).1, (((rd (.pair (.int .u64) (.pair (.int .i64) (.slice 5 (.int .u8)))) b x1.1).2).1, ([] : List Int) ++ (((rd (.pair (.int .u64) (.pair (.int .i64) (.slice 5 (.int .u8)))) b x1.1).2).2)))])), ((), ()))
  else none
  else none
  else none) (
  bif (!(((rd (.pair (.int .u64) (.pair (.int .i64) (.slice 5 (.int .u8)))) b x1.1).2).2).isEmpty || true) then
  bif decide ((([] : List Int).length + (((rd (.pair (.int .u64) (.pair (.int .i64) (.slice 5 (.int .u8)))) b x1.1).2).2).length) * 1 ≤ LIM) then
  (both (
  bif decide ((x1.2.1.length + 1) * 40 ≤ LIM) then
  rec1 ((IntKind.wrap .i64 (x1.1 + 1)), (x1.2.1 ++ ([((rd (.pair (.int .u64) (.pair (.int .i64) (.slice 5 (.int .u8)))) b x1.1).1, (((rd (.pair (.int .u64) (.pair (.int .i64) (.slice 5 (.int .u8)))) b x1.1).2).1, ([] : List Int) ++ (((rd (.pair (.int .u64) (.pair (.int .i64) (.slice 5 (.int .u8)))) b x1.1).2).2)))])), ((), ()))
  else none) (
  (fun o => both o o) (
  bif decide ((x1.2.1.length + 1) * 40 ≤ LIM) then
  rec1 ((IntKind.wrap .i64 (x1.1 + 1)), (x1.2.1 ++ ([((rd (.pair (.int .u64) (.pair (.int .i64) (.slice 5 (.int .u8)))) b x1.1).1, (((rd (.pair (.int .u64) (.pair (.int .i64) (.slice 5 (.int .u8)))) b x1.1).2).1, ([] : List Int) ++ (((rd (.pair (.int .u64) (.pair (.int .i64) (.slice 5 (.int .u8)))) b x1.1).2).2)))])), ((), ()))
  else none)))
  else none
  else none))) (
  bif (!(((rd (.pair (.int .u64) (.pair (.int .i64) (.slice 5 (.int .u8)))) b x1.1).2).2).isEmpty || true) then
  bif decide ((([] : List Int).length + (((rd (.pair (.int .u64) (.pair (.int .i64) (.slice 5 (.int .u8)))) b x1.1).2).2).length) * 1 ≤ LIM) then
  (both (
  bif decide ((x1.2.1.length + 1) * 40 ≤ LIM) then
  rec1 ((IntKind.wrap .i64 (x1.1 + 1)), (x1.2.1 ++ ([((rd (.pair (.int .u64) (.pair (.int .i64) (.slice 5 (.int .u8)))) b x1.1).1, (((rd (.pair (.int .u64) (.pair (.int .i64) (.slice 5 (.int .u8)))) b x1.1).2).1, ([] : List Int) ++ (((rd (.pair (.int .u64) (.pair (.int .i64) (.slice 5 (.int .u8)))) b x1.1).2).2)))])), ((), ()))
  else none) (
  (both (
  bif decide ((x1.2.1.length + 1) * 40 ≤ LIM) then
  rec1 ((IntKind.wrap .i64 (x1.1 + 1)), (x1.2.1 ++ ([((rd (.pair (.int .u64) (.pair (.int .i64) (.slice 5 (.int .u8)))) b x1.1).1, (((rd (.pair (.int .u64) (.pair (.int .i64) (.slice 5 (.int .u8)))) b x1.1).2).1, ([] : List Int) ++ (((rd (.pair (.int .u64) (.pair (.int .i64) (.slice 5 (.int .u8)))) b x1.1).2).2)))])), ((), ()))
  else none) (
  (fun o => both o o) (
  bif decide ((x1.2.1.length + 1) * 40 ≤ LIM) then
  rec1 ((IntKind.wrap .i64 (x1.1 + 1)), (x1.2.1 ++ ([((rd (.pair (.int .u64) (.pair (.int .i64) (.slice 5 (.int .u8)))) b x1.1).1, (((rd (.pair (.int .u64) (.pair (.int .i64) (.slice 5 (.int .u8)))) b x1.1).2).1, ([] : List Int) ++ (((rd (.pair (.int .u64) (.pair (.int .i64) (.slice 5 (.int .u8)))) b x1.1).2).2)))])), ((), ()))
  else none)))))
  else none
  else none))))))) (both (
  (both (
  (both (
  bif (!(((rd (.pair (.int .u64) (.pair (.int .i64) (.slice 5 (.int .u8)))) b x1.1).2).2).isEmpty || true) then
  bif decide ((([] : List Int).length + (((rd (.pair (.int .u64) (.pair (.int .i64) (.slice 5 (.int .u8)))) b x1.1).2).2).length) * 1 ≤ LIM) then
  bif decide ((x1.2.1.length + 1) * 40 ≤ LIM) then
  rec1 ((IntKind.wrap .i64 (x1.1 + 1)), (x1.2.1 ++ ([((rd (.pair (.int .u64) (.pair (.int .i64) (.slice 5 (.int .u8)))) b x1.1).1, (((rd (.pair (.int .u64) (.pair (.int .i64) (.slice 5 (.int .u8)))) b x1.1).2).1, ([] : List Int) ++ (((rd (.pair (.int .u64) (.pair (.int .i64) (.slice 5 (.int .u8)))) b x1.1).2).2)))])), ((), ()))
  else none
  else none
  else none) (
  (fun o => both o o) (
  bif (!(((rd (.pair (.int .u64) (.pair (.int .i64) (.slice 5 (.int .u8)))) b x1.1).2).2).isEmpty || true) then
  bif decide ((([] : List Int).length + (((rd (.pair (.int .u64) (.pair (.int .i64) (.slice 5 (.int .u8)))) b x1.1).2).2).length) * 1 ≤ LIM) then
  bif decide ((x1.2.1.length + 1) * 40 ≤ LIM) then
  rec1 ((IntKind.wrap .i64 (x1.1 + 1)), (x1.2.1 ++ ([((rd (.pair (.int .u64) (.pair (.int .i64) (.slice 5 (.int .u8)))) b x1.1).1, (((rd (.pair (.int .u64) (.pair (.int .i64) (.slice 5 (.int .u8)))) b x1.1).2).1, ([] : List Int) ++ (((rd (.pair (.int .u64) (.pair (.int .i64) (.slice 5 (.int .u8)))) b x1.1).2).2)))])), ((), ()))
  else none
  else none
  else none)))) (both (
  (both (
  bif (!(((rd (.pair (.int .u64) (.pair (.int .i64) (.slice 5 (.int .u8)))) b x1.1).2).2).isEmpty || true) then
  bif decide ((([] : List Int).length + (((rd (.pair (.int .u64) (.pair (.int .i64) (.slice 5 (.int .u8)))) b x1.1).2).2).length) * 1 ≤ LIM) then
  bif decide ((x1.2.1.length + 1) * 40 ≤ LIM) then
  rec1 ((IntKind.wrap .i64 (x1.1 + 1)), (x1.2.1 ++ ([((rd (.pair (.int .u64) (.pair (.int .i64) (.slice 5 (.int .u8)))) b x1.1).1, (((rd (.pair (.int .u64) (.pair (.int .i64) (.slice 5 (.int .u8)))) b x1.1).2).1, ([] : List Int) ++ (((rd (.pair (.int .u64) (.pair (.int .i64) (.slice 5 (.int .u8)))) b x1.1).2).2)))])), ((), ()))
  else none
  else none
  else none) (
  (both (
  bif (!(((rd (.pair (.int .u64) (.pair (.int .i64) (.slice 5 (.int .u8)))) b x1.1).2).2).isEmpty || true) then
  bif decide ((([] : List Int).length + (((rd (.pair (.int .u64) (.pair (.int .i64) (.slice 5 (.int .u8)))) b x1.1).2).2).length) * 1 ≤ LIM) then
  bif decide ((x1.2.1.length + 1) * 40 ≤ LIM) then
  rec1 ((IntKind.wrap .i64 (x1.1 + 1)), (x1.2.1 ++ ([((rd (.pair (.int .u64) (.pair (.int .i64) (.slice 5 (.int .u8)))) b x1.1).1, (((rd (.pair (.int .u64) (.pair (.int .i64) (.slice 5 (.int .u8)))) b x1.1).2).1, ([] : List Int) ++ (((rd (.pair (.int .u64) (.pair (.int .i64) (.slice 5 (.int .u8)))) b x1.1).2).2)))])), ((), ()))
  else none
  else none
  else none) (
  bif (!(((rd (.pair (.int .u64) (.pair (.int .i64) (.slice 5 (.int .u8)))) b x1.1).2).2).isEmpty || true) then
  bif decide ((([] : List Int).length + (((rd (.pair (.int .u64) (.pair (.int .i64) (.slice 5 (.int .u8)))) b x1.1).2).2).length) * 1 ≤ LIM) then
  (both (
  bif decide ((x1.2.1.length + 1) * 40 ≤ LIM) then
  rec1 ((IntKind.wrap .i64 (x1.1 + 1)), (x1.2.1 ++ ([((rd (.pair (.int .u64) (.pair (.int .i64) (.slice 5 (.int .u8)))) b x1.1).1, (((rd (.pair (.int .u64) (.pair (.int .i64) (.slice 5 (.int .u8)))) b x1.1).2).1, ([] : List Int) ++ (((rd (.pair (.int .u64) (.pair (.int .i64) (.slice 5 (.int .u8)))) b x1.1).2).2)))])), ((), ()))
  else none) (
  (fun o => both o o) (
  bif decide ((x1.2.1.length + 1) * 40 ≤ LIM) then
  rec1 ((IntKind.wrap .i64 (x1.1 + 1)), (x1.2.1 ++ ([((rd (.pair (.int .u64) (.pair (.int .i64) (.slice 5 (.int .u8)))) b x1.1).1, (((rd (.pair (.int .u64) (.pair (.int .i64) (.slice 5 (.int .u8)))) b x1.1).2).1, ([] : List Int) ++ (((rd (.pair (.int .u64) (.pair (.int .i64) (.slice 5 (.int .u8)))) b x1.1).2).2)))])), ((), ()))
  else none)))
  else none
  else none))))) (
  (both (
  (fun o => both o o) (
  bif (!(((rd (.pair (.int .u64) (.pair (.int .i64) (.slice 5 (.int .u8)))) b x1.1).2).2).isEmpty || true) then
  bif decide ((([] : List Int).length + (((rd (.pair (.int .u64) (.pair (.int .i64) (.slice 5 (.int .u8)))) b x1.1).2).2).length) * 1 ≤ LIM) then
  bif decide ((x1.2.1.length + 1) * 40 ≤ LIM) then
  rec1 ((IntKind.wrap .i64 (x1.1 + 1)), (x1.2.1 ++ ([((rd (.pair (.int .u64) (.pair (.int .i64) (.slice 5 (.int .u8)))) b x1.1).1, (((rd (.pair (.int .u64) (.pair (.int .i64) (.slice 5 (.int .u8)))) b x1.1).2).1, ([] : List Int) ++ (((rd (.pair (.int .u64) (.pair (.int .i64) (.slice 5 (.int .u8)))) b x1.1).2).2)))])), ((), ()))
  else none
  else none
  else none)) (both (
  (both (
  bif (!(((rd (.pair (.int .u64) (.pair (.int .i64) (.slice 5 (.int .u8)))) b x1.1).2).2).isEmpty || true) then
  bif decide ((([] : List Int).length + (((rd (.pair (.int .u64) (.pair (.int .i64) (.slice 5 (.int .u8)))) b x1.1).2).2).length) * 1 ≤ LIM) then
  bif decide ((x1.2.1.length + 1) * 40 ≤ LIM) then
  rec1 ((IntKind.wrap .i64 (x1.1 + 1)), (x1.2.1 ++ ([((rd (.pair (.int .u64) (.pair (.int .i64) (.slice 5 (.int .u8)))) b x1.1).1, (((rd (.pair (.int .u64) (.pair (.int .i64) (.slice 5 (.int .u8)))) b x1.1).2).1, ([] : List Int) ++ (((rd (.pair (.int .u64) (.pair (.int .i64) (.slice 5 (.int .u8)))) b x1.1).2).2)))])), ((), ()))
  else none
  else none
  else none) (
  bif (!(((rd (.pair (.int .u64) (.pair (.int .i64) (.slice 5 (.int .u8)))) b x1.1).2).2).isEmpty || true) then
  bif decide ((([] : List Int).length + (((rd (.pair (.int .u64) (.pair (.int .i64) (.slice 5 (.int .u8)))) b x1.1).2).2).length) * 1 ≤ LIM) then
  (both (
  bif decide ((x1.2.1.length + 1) * 40 ≤ LIM) then
  rec1 ((IntKind.wrap .i64 (x1.1 + 1)), (x1.2.1 ++ ([((rd (.pair (.int .u64) (.pair (.int .i64) (.slice 5 (.int .u8)))) b x1.1).1, (((rd (.pair (.int .u64) (.pair (.int .i64) (.slice 5 (.int .u8)))) b x1.1).2).1, ([] : List Int) ++ (((rd (.pair (.int .u64) (.pair (.int .i64) (.slice 5 (.int .u8)))) b x1.1).2).2)))])), ((), ()))
  else none) (
  (fun o => both o o) (
  bif decide ((x1.2.1.length + 1) * 40 ≤ LIM) then
  rec1 ((IntKind.wrap .i64 (x1.1 + 1)), (x1.2.1 ++ ([((rd (.pair (.int .u64) (.pair (.int .i64) (.slice 5 (.int .u8)))) b x1.1).1, (((rd (.pair (.int .u64) (.pair (.int .i64) (.slice 5 (.int .u8)))) b x1.1).2).1, ([] : List Int) ++ (((rd (.pair (.int .u64) (.pair (.int .i64) (.slice 5 (.int .u8)))) b x1.1).2).2)))])), ((), ()))
  else none)))
  else none
  else none))) (
  bif (!(((rd (.pair (.int .u64) (.pair (.int .i64) (.slice 5 (.int .u8)))) b x1.1).2).2).isEmpty || true) then
  bif decide ((([] : List Int).length + (((rd (.pair (.int .u64) (.pair (.int .i64) (.slice 5 (.int .u8)))) b x1.1).2).2).length) * 1 ≤ LIM) then
  (both (
  bif decide ((x1.2.1.length + 1) * 40 ≤ LIM) then
  rec1 ((IntKind.wrap .i64 (x1.1 + 1)), (x1.2.1 ++ ([((rd (.pair (.int .u64) (.pair (.int .i64) (.slice 5 (.int .u8)))) b x1.1).1, (((rd (.pair (.int .u64) (.pair (.int .i64) (.slice 5 (.int .u8)))) b x1.1).2).1, ([] : List Int) ++ (((rd (.pair (.int .u64) (.pair (.int .i64) (.slice 5 (.int .u8)))) b x1.1).2).2)))])), ((), ()))
  else none) (
  (both (
  bif decide ((x1.2.1.length + 1) * 40 ≤ LIM) then
  rec1 ((IntKind.wrap .i64 (x1.1 + 1)), (x1.2.1 ++ ([((rd (.pair (.int .u64) (.pair (.int .i64) (.slice 5 (.int .u8)))) b x1.1).1, (((rd (.pair (.int .u64) (.pair (.int .i64) (.slice 5 (.int .u8)))) b x1.1).2).1, ([] : List Int) ++ (((rd (.pair (.int .u64) (.pair (.int .i64) (.slice 5 (.int .u8)))) b x1.1).2).2)))])), ((), ()))
  else none) (
  (fun o => both o o) (
  bif decide ((x1.2.1.length + 1) * 40 ≤ LIM) then
  rec1 ((IntKind.wrap .i64 (x1.1 + 1)), (x1.2.1 ++ ([((rd (.pair (.int .u64) (.pair (.int .i64) (.slice 5 (.int .u8)))) b x1.1).1, (((rd (.pair (.int .u64) (.pair (.int .i64) (.slice 5 (.int .u8)))) b x1.1).2).1, ([] : List Int) ++ (((rd (.pair (.int .u64) (.pair (.int .i64) (.slice 5 (.int .u8)))) b x1.1).2).2)))])), ((), ()))
  else none)))))
  else none
  else none))))))) (
  (both (
  (both (
  (fun o => both o o) (
  bif (!(((rd (.pair (.int .u64) (.pair (.int .i64) (.slice 5 (.int .u8)))) b x1.1).2).2).isEmpty || true) then
  bif decide ((([] : List Int).length + (((rd (.pair (.int .u64) (.pair (.int .i64) (.slice 5 (.int .u8)))) b x1.1).2).2).length) * 1 ≤ LIM) then
  bif decide ((x1.2.1.length + 1) * 40 ≤ LIM) then
  rec1 ((IntKind.wrap .i64 (x1.1 + 1)), (x1.2.1 ++ ([((rd (.pair (.int .u64) (.pair (.int .i64) (.slice 5 (.int .u8)))) b x1.1).1, (((rd (.pair (.int .u64) (.pair (.int .i64) (.slice 5 (.int .u8)))) b x1.1).2).1, ([] : List Int) ++ (((rd (.pair (.int .u64) (.pair (.int .i64) (.slice 5 (.int .u8)))) b x1.1).2).2)))])), ((), ()))
  else none
  else none
  else none)) (both (
  (fun o => both o o) (
  bif (!(((rd (.pair (.int .u64) (.pair (.int .i64) (.slice 5 (.int .u8)))) b x1.1).2).2).isEmpty || true) then
  bif decide ((([] : List Int).length + (((rd (.pair (.int .u64) (.pair (.int .i64) (.slice 5 (.int .u8)))) b x1.1).2).2).length) * 1 ≤ LIM) then
  bif decide ((x1.2.1.length + 1) * 40 ≤ LIM) then
  rec1 ((IntKind.wrap .i64 (x1.1 + 1)), (x1.2.1 ++ ([((rd (.pair (.int .u64) (.pair (.int .i64) (.slice 5 (.int .u8)))) b x1.1).1, (((rd (.pair (.int .u64) (.pair (.int .i64) (.slice 5 (.int .u8)))) b x1.1).2).1, ([] : List Int) ++ (((rd (.pair (.int .u64) (.pair (.int .i64) (.slice 5 (.int .u8)))) b x1.1).2).2)))])), ((), ()))
  else none
  else none
  else none)) (
  bif (!(((rd (.pair (.int .u64) (.pair (.int .i64) (.slice 5 (.int .u8)))) b x1.1).2).2).isEmpty || true) then
  bif decide ((([] : List Int).length + (((rd (.pair (.int .u64) (.pair (.int .i64) (.slice 5 (.int .u8)))) b x1.1).2).2).length) * 1 ≤ LIM) then
  (fun o => both o o) (
  bif decide ((x1.2.1.length + 1) * 40 ≤ LIM) then
  rec1 ((IntKind.wrap .i64 (x1.1 + 1)), (x1.2.1 ++ ([((rd (.pair (.int .u64) (.pair (.int .i64) (.slice 5 (.int .u8)))) b x1.1).1, (((rd (.pair (.int .u64) (.pair (.int .i64) (.slice 5 (.int .u8)))) b x1.1).2).1, ([] : List Int) ++ (((rd (.pair (.int .u64) (.pair (.int .i64) (.slice 5 (.int .u8)))) b x1.1).2).2)))])), ((), ()))
  else none)
  else none
  else none)))) (both (
  (both (
  (fun o => both o o) (
  bif (!(((rd (.pair (.int .u64) (.pair (.int .i64) (.slice 5 (.int .u8)))) b x1.1).2).2).isEmpty || true) then
  bif decide ((([] : List Int).length + (((rd (.pair (.int .u64) (.pair (.int .i64) (.slice 5 (.int .u8)))) b x1.1).2).2).length) * 1 ≤ LIM) then
  bif decide ((x1.2.1.length + 1) * 40 ≤ LIM) then
  rec1 ((IntKind.wrap .i64 (x1.1 + 1)), (x1.2.1 ++ ([((rd (.pair (.int .u64) (.pair (.int .i64) (.slice 5 (.int .u8)))) b x1.1).1, (((rd (.pair (.int .u64) (.pair (.int .i64) (.slice 5 (.int .u8)))) b x1.1).2).1, ([] : List Int) ++ (((rd (.pair (.int .u64) (.pair (.int .i64) (.slice 5 (.int .u8)))) b x1.1).2).2)))])), ((), ()))
  else none
  else none
  else none)) (both (
  (both (
  bif (!(((rd (.pair (.int .u64) (.pair (.int .i64) (.slice 5 (.int .u8)))) b x1.1).2).2).isEmpty || true) then
  bif decide ((([] : List Int).length + (((rd (.pair (.int .u64) (.pair (.int .i64) (.slice 5 (.int .u8)))) b x1.1).2).2).length) * 1 ≤ LIM) then
  bif decide ((x1.2.1.length + 1) * 40 ≤ LIM) then
  rec1 ((IntKind.wrap .i64 (x1.1 + 1)), (x1.2.1 ++ ([((rd (.pair (.int .u64) (.pair (.int .i64) (.slice 5 (.int .u8)))) b x1.1).1, (((rd (.pair (.int .u64) (.pair (.int .i64) (.slice 5 (.int .u8)))) b x1.1).2).1, ([] : List Int) ++ (((rd (.pair (.int .u64) (.pair (.int .i64) (.slice 5 (.int .u8)))) b x1.1).2).2)))])), ((), ()))
  else none
  else none
  else none) (
  bif (!(((rd (.pair (.int .u64) (.pair (.int .i64) (.slice 5 (.int .u8)))) b x1.1).2).2).isEmpty || true) then
  bif decide ((([] : List Int).length + (((rd (.pair (.int .u64) (.pair (.int .i64) (.slice 5 (.int .u8)))) b x1.1).2).2).length) * 1 ≤ LIM) then
  (both (
  bif decide ((x1.2.1.length + 1) * 40 ≤ LIM) then
  rec1 ((IntKind.wrap .i64 (x1.1 + 1)), (x1.2.1 ++ ([((rd (.pair (.int .u64) (.pair (.int .i64) (.slice 5 (.int .u8)))) b x1.1).1, (((rd (.pair (.int .u64) (.pair (.int .i64) (.slice 5 (.int .u8)))) b x1.1).2).1, ([] : List Int) ++ (((rd (.pair (.int .u64) (.pair (.int .i64) (.slice 5 (.int .u8)))) b x1.1).2).2)))])), ((), ()))
  else none) (
  (fun o => both o o) (
  bif decide ((x1.2.1.length + 1) * 40 ≤ LIM) then
  rec1 ((IntKind.wrap .i64 (x1.1 + 1)), (x1.2.1 ++ ([((rd (.pair (.int .u64) (.pair (.int .i64) (.slice 5 (.int .u8)))) b x1.1).1, (((rd (.pair (.int .u64) (.pair (.int .i64) (.slice 5 (.int .u8)))) b x1.1).2).1, ([] : List Int) ++ (((rd (.pair (.int .u64) (.pair (.int .i64) (.slice 5 (.int .u8)))) b x1.1).2).2)))])), ((), ()))
  else none)))
  else none
  else none))) (
  bif (!(((rd (.pair (.int .u64) (.pair (.int .i64) (.slice 5 (.int .u8)))) b x1.1).2).2).isEmpty || true) then
  bif decide ((([] : List Int).length + (((rd (.pair (.int .u64) (.pair (.int .i64) (.slice 5 (.int .u8)))) b x1.1).2).2).length) * 1 ≤ LIM) then
  (both (
  bif decide ((x1.2.1.length + 1) * 40 ≤ LIM) then
  rec1 ((IntKind.wrap .i64 (x1.1 + 1)), (x1.2.1 ++ ([((rd (.pair (.int .u64) (.pair (.int .i64) (.slice 5 (.int .u8)))) b x1.1).1, (((rd (.pair (.int .u64) (.pair (.int .i64) (.slice 5 (.int .u8)))) b x1.1).2).1, ([] : List Int) ++ (((rd (.pair (.int .u64) (.pair (.int .i64) (.slice 5 (.int .u8)))) b x1.1).2).2)))])), ((), ()))
  else none) (
  (both (
  bif decide ((x1.2.1.length + 1) * 40 ≤ LIM) then
  rec1 ((IntKind.wrap .i64 (x1.1 + 1)), (x1.2.1 ++ ([((rd (.pair (.int .u64) (.pair (.int .i64) (.slice 5 (.int .u8)))) b x1.1).1, (((rd (.pair (.int .u64) (.pair (.int .i64) (.slice 5 (.int .u8)))) b x1.1).2).1, ([] : List Int) ++ (((rd (.pair (.int .u64) (.pair (.int .i64) (.slice 5 (.int .u8)))) b x1.1).2).2)))])), ((), ()))
  else none) (
  (fun o => both o o) (
  bif decide ((x1.2.1.length + 1) * 40 ≤ LIM) then
  rec1 ((IntKind.wrap .i64 (x1.1 + 1)), (x1.2.1 ++ ([((rd (.pair (.int .u64) (.pair (.int .i64) (.slice 5 (.int .u8)))) b x1.1).1, (((rd (.pair (.int .u64) (.pair (.int .i64) (.slice 5 (.int .u8)))) b x1.1).2).1, ([] : List Int) ++ (((rd (.pair (.int .u64) (.pair (.int .i64) (.slice 5 (.int .u8)))) b x1.1).2).2)))])), ((), ()))
  else none)))))
  else none
  else none)))) (both (
  (both (
  (fun o => both o o) (
  bif (!(((rd (.pair (.int .u64) (.pair (.int .i64) (.slice 5 (.int .u8)))) b x1.1).2).2).isEmpty || true) then
  bif decide ((([] : List Int).length + (((rd (.pair (.int .u64) (.pair (.int .i64) (.slice 5 (.int .u8)))) b x1.1).2).2).length) * 1 ≤ LIM) then
  bif decide ((x1.2.1.length + 1) * 40 ≤ LIM) then
  rec1 ((IntKind.wrap .i64 (x1.1 + 1)), (x1.2.1 ++ ([((rd (.pair (.int .u64) (.pair (.int .i64) (.slice 5 (.int .u8)))) b x1.1).1, (((rd (.pair (.int .u64) (.pair (.int .i64) (.slice 5 (.int .u8)))) b x1.1).2).1, ([] : List Int) ++ (((rd (.pair (.int .u64) (.pair (.int .i64) (.slice 5 (.int .u8)))) b x1.1).2).2)))])), ((), ()))
  else none
  else none
  else none)) (both (
  (both (
  bif (!(((rd (.pair (.int .u64) (.pair (.int .i64) (.slice 5 (.int .u8)))) b x1.1).2).2).isEmpty || true) then
  bif decide ((([] : List Int).length + (((rd (.pair (.int .u64) (.pair (.int .i64) (.slice 5 (.int .u8)))) b x1.1).2).2).length) * 1 ≤ LIM) then
  bif decide ((x1.2.1.length + 1) * 40 ≤ LIM) then
  rec1 ((IntKind.wrap .i64 (x1.1 + 1)), (x1.2.1 ++ ([((rd (.pair (.int .u64) (.pair (.int .i64) (.slice 5 (.int .u8)))) b x1.1).1, (((rd (.pair (.int .u64) (.pair (.int .i64) (.slice 5 (.int .u8)))) b x1.1).2).1, ([] : List Int) ++ (((rd (.pair (.int .u64) (.pair (.int .i64) (.slice 5 (.int .u8)))) b x1.1).2).2)))])), ((), ()))
  else none
  else none
  else none) (
  bif (!(((rd (.pair (.int .u64) (.pair (.int .i64) (.slice 5 (.int .u8)))) b x1.1).2).2).isEmpty || true) then
  bif decide ((([] : List Int).length + (((rd (.pair (.int .u64) (.pair (.int .i64) (.slice 5 (.int .u8)))) b x1.1).2).2).length) * 1 ≤ LIM) then
  (both (
  bif decide ((x1.2.1.length + 1) * 40 ≤ LIM) then
  rec1 ((IntKind.wrap .i64 (x1.1 + 1)), (x1.2.1 ++ ([((rd (.pair (.int .u64) (.pair (.int .i64) (.slice 5 (.int .u8)))) b x1.1).1, (((rd (.pair (.int .u64) (.pair (.int .i64) (.slice 5 (.int .u8)))) b x1.1).2).1, ([] : List Int) ++ (((rd (.pair (.int .u64) (.pair (.int .i64) (.slice 5 (.int .u8)))) b x1.1).2).2)))])), ((), ()))
  else none) (
  (fun o => both o o) (
  bif decide ((x1.2.1.length + 1) * 40 ≤ LIM) then
  rec1 ((IntKind.wrap .i64 (x1.1 + 1)), (x1.2.1 ++ ([((rd (.pair (.int .u64) (.pair (.int .i64) (.slice 5 (.int .u8)))) b x1.1).1, (((rd (.pair (.int .u64) (.pair (.int .i64) (.slice 5 (.int .u8)))) b x1.1).2).1, ([] : List Int) ++ (((rd (.pair (.int .u64) (.pair (.int .i64) (.slice 5 (.int .u8)))) b x1.1).2).2)))])), ((), ()))
  else none)))
  else none
  else none))) (
  bif (!(((rd (.pair (.int .u64) (.pair (.int .i64) (.slice 5 (.int .u8)))) b x1.1).2).2).isEmpty || true) then
  bif decide ((([] : List Int).length + (((rd (.pair (.int .u64) (.pair (.int .i64) (.slice 5 (.int .u8)))) b x1.1).2).2).length) * 1 ≤ LIM) then
  (both (
  bif decide ((x1.2.1.length + 1) * 40 ≤ LIM) then
  rec1 ((IntKind.wrap .i64 (x1.1 + 1)), (x1.2.1 ++ ([((rd (.pair (.int .u64) (.pair (.int .i64) (.slice 5 (.int .u8)))) b x1.1).1, (((rd (.pair (.int .u64) (.pair (.int .i64) (.slice 5 (.int .u8)))) b x1.1).2).1, ([] : List Int) ++ (((rd (.pair (.int .u64) (.pair (.int .i64) (.slice 5 (.int .u8)))) b x1.1).2).2)))])), ((), ()))
  else none) (
  (both (
  bif decide ((x1.2.1.length + 1) * 40 ≤ LIM) then
  rec1 ((IntKind.wrap .i64 (x1.1 + 1)), (x1.2.1 ++ ([((rd (.pair (.int .u64) (.pair (.int .i64) (.slice 5 (.int .u8)))) b x1.1).1, (((rd (.pair (.int .u64) (.pair (.int .i64) (.slice 5 (.int .u8)))) b x1.1).2).1, ([] : List Int) ++ (((rd (.pair (.int .u64) (.pair (.int .i64) (.slice 5 (.int .u8)))) b x1.1).2).2)))])), ((), ()))
  else none) (
  (fun o => both o o) (
  bif decide ((x1.2.1.length + 1) * 40 ≤ LIM) then
  rec1 ((IntKind.wrap .i64 (x1.1 + 1)), (x1.2.1 ++ ([((rd (.pair (.int .u64) (.pair (.int .i64) (.slice 5 (.int .u8)))) b x1.1).1, (((rd (.pair (.int .u64) (.pair (.int .i64) (.slice 5 (.int .u8)))) b x1.1).2).1, ([] : List Int) ++ (((rd (.pair (.int .u64) (.pair (.int .i64) (.slice 5 (.int .u8)))) b x1.1).2).2)))])), ((), ()))
  else none)))))
  else none
  else none)))) (
  bif (!(((rd (.pair (.int .u64) (.pair (.int .i64) (.slice 5 (.int .u8)))) b x1.1).2).2).isEmpty || true) then
  bif decide ((([] : List Int).length + (((rd (.pair (.int .u64) (.pair (.int .i64) (.slice 5 (.int .u8)))) b x1.1).2).2).length) * 1 ≤ LIM) then
  (both (
  (fun o => both o o) (
  bif decide ((x1.2.1.length + 1) * 40 ≤ LIM) then
  rec1 ((IntKind.wrap .i64 (x1.1 + 1)), (x1.2.1 ++ ([((rd (.pair (.int .u64) (.pair (.int .i64) (.slice 5 (.int .u8)))) b x1.1).1, (((rd (.pair (.int .u64) (.pair (.int .i64) (.slice 5 (.int .u8)))) b x1.1).2).1, ([] : List Int) ++ (((rd (.pair (.int .u64) (.pair (.int .i64) (.slice 5 (.int .u8)))) b x1.1).2).2)))])), ((), ()))
  else none)) (both (
  (both (
  bif decide ((x1.2.1.length + 1) * 40 ≤ LIM) then
  rec1 ((IntKind.wrap .i64 (x1.1 + 1)), (x1.2.1 ++ ([((rd (.pair (.int .u64) (.pair (.int .i64) (.slice 5 (.int .u8)))) b x1.1).1, (((rd (.pair (.int .u64) (.pair (.int .i64) (.slice 5 (.int .u8)))) b x1.1).2).1, ([] : List Int) ++ (((rd (.pair (.int .u64) (.pair (.int .i64) (.slice 5 (.int .u8)))) b x1.1).2).2)))])), ((), ()))
  else none) (
  (both (
  bif decide ((x1.2.1.length + 1) * 40 ≤ LIM) then
  rec1 ((IntKind.wrap .i64 (x1.1 + 1)), (x1.2.1 ++ ([((rd (.pair (.int .u64) (.pair (.int .i64) (.slice 5 (.int .u8)))) b x1.1).1, (((rd (.pair (.int .u64) (.pair (.int .i64) (.slice 5 (.int .u8)))) b x1.1).2).1, ([] : List Int) ++ (((rd (.pair (.int .u64) (.pair (.int .i64) (.slice 5 (.int .u8)))) b x1.1).2).2)))])), ((), ()))
  else none) (
  (fun o => both o o) (
  bif decide ((x1.2.1.length + 1) * 40 ≤ LIM) then
  rec1 ((IntKind.wrap .i64 (x1.1 + 1)), (x1.2.1 ++ ([((rd (.pair (.int .u64) (.pair (.int .i64) (.slice 5 (.int .u8)))) b x1.1).1, (((rd (.pair (.int .u64) (.pair (.int .i64) (.slice 5 (.int .u8)))) b x1.1).2).1, ([] : List Int) ++ (((rd (.pair (.int .u64) (.pair (.int .i64) (.slice 5 (.int .u8)))) b x1.1).2).2)))])), ((), ()))
  else none)))))) (
  (both (
  bif decide ((x1.2.1.length + 1) * 40 ≤ LIM) then
  rec1 ((IntKind.wrap .i64 (x1.1 + 1)), (x1.2.1 ++ ([((rd (.pair (.int .u64) (.pair (.int .i64) (.slice 5 (.int .u8)))) b x1.1).1, (((rd (.pair (.int .u64) (.pair (.int .i64) (.slice 5 (.int .u8)))) b x1.1).2).1, ([] : List Int) ++ (((rd (.pair (.int .u64) (.pair (.int .i64) (.slice 5 (.int .u8)))) b x1.1).2).2)))])), ((), ()))
  else none) (
  (both (
  bif decide ((x1.2.1.length + 1) * 40 ≤ LIM) then
  rec1 ((IntKind.wrap .i64 (x1.1 + 1)), (x1.2.1 ++ ([((rd (.pair (.int .u64) (.pair (.int .i64) (.slice 5 (.int .u8)))) b x1.1).1, (((rd (.pair (.int .u64) (.pair (.int .i64) (.slice 5 (.int .u8)))) b x1.1).2).1, ([] : List Int) ++ (((rd (.pair (.int .u64) (.pair (.int .i64) (.slice 5 (.int .u8)))) b x1.1).2).2)))])), ((), ()))
  else none) (
  (fun o => both o o) (
  bif decide ((x1.2.1.length + 1) * 40 ≤ LIM) then
  rec1 ((IntKind.wrap .i64 (x1.1 + 1)), (x1.2.1 ++ ([((rd (.pair (.int .u64) (.pair (.int .i64) (.slice 5 (.int .u8)))) b x1.1).1, (((rd (.pair (.int .u64) (.pair (.int .i64) (.slice 5 (.int .u8)))) b x1.1).2).1, ([] : List Int) ++ (((rd (.pair (.int .u64) (.pair (.int .i64) (.slice 5 (.int .u8)))) b x1.1).2).2)))])), ((), ()))
  else none))))))))
  else none
  else none))))))))
  else none)
  else (
  some x1.2.1)) (0, ([] : List (Int × (Int × List Int))), ((), ()))
theorem ev17 (b : List (Int × (Int × List Int))) : evF C16 H17 Try.f17 (encs [.agg (.slice 39 (.pair (.int .u64) (.pair (.int .i64) (.slice 5 (.int .u8)))))] b) (RT.dec (.one (.agg [.fresh 39 (.pair (.int .u64) (.pair (.int .i64) (.slice 5 (.int .u8))))]))) = F17 b := by kernel_rfl
noncomputable def C17 : Ctx := Ctx.add C16 17 [.agg (.slice 39 (.pair (.int .u64) (.pair (.int .i64) (.slice 5 (.int .u8)))))] (.one (.agg [.fresh 39 (.pair (.int .u64) (.pair (.int .i64) (.slice 5 (.int .u8))))])) F17
theorem s17 : C17.Sound := Ctx.Sound.add (C := C16) mixed s16 Try.func17 ev17
/-! damson/damsonref01.SameBytes -/
def H50 : Nat → Head := fun _ => ⟨[], []⟩
noncomputable def F50 (b : List Int × List Int) : Option Bool :=
 some (decide (b.1 = b.2))
theorem ev50 (b : List Int × List Int) : evF C17 H50 Try.f50 (encs [.one (.slice 5 (.int .u8)), .one (.slice 5 (.int .u8))] b) (RT.dec (.one (.leaf (.bool)))) = F50 b := by kernel_rfl
noncomputable def C50 : Ctx := Ctx.add C17 50 [.one (.slice 5 (.int .u8)), .one (.slice 5 (.int .u8))] (.one (.leaf (.bool))) F50
theorem s50 : C50.Sound := Ctx.Sound.add (C := C17) mixed s17 Try.func50 ev50
/-! damson/damsonref05.one -/
def H53 : Nat → Head := fun _ => ⟨[], []⟩
noncomputable def F53 (b : (Int × (Int × List Int)) × (Int × (Int × List Int))) : Option Bool :=
 bif ((bif decide (b.1.1 = b.2.1) then decide (b.1.2.1 = b.2.2.1) else false) == true) then (
 (F50 (b.1.2.2, b.2.2.2)).bind fun r1 =>
 some r1)
 else (
 some false)
theorem ev53 (b : (Int × (Int × List Int)) × (Int × (Int × List Int))) : evF C50 H53 Try.f53 (encs [.agg (.pair (.int .u64) (.pair (.int .i64) (.slice 5 (.int .u8)))), .agg (.pair (.int .u64) (.pair (.int .i64) (.slice 5 (.int .u8))))] b) (RT.dec (.one (.leaf (.bool)))) = F53 b := by kernel_rfl
noncomputable def C53 : Ctx := Ctx.add C50 53 [.agg (.pair (.int .u64) (.pair (.int .i64) (.slice 5 (.int .u8)))), .agg (.pair (.int .u64) (.pair (.int .i64) (.slice 5 (.int .u8))))] (.one (.leaf (.bool))) F53
theorem s53 : C53.Sound := Ctx.Sound.add (C := C50) mixed s50 Try.func53 ev53
/-! damson/damsonref05.place -/
def H55 : Nat → Head
  | 2 => ⟨[.data 4 (.int .i64), .data 9 (.int .i64)], [12288]⟩
  | _ => ⟨[], []⟩
noncomputable def F55 (b : List (Int × (Int × List Int)) × (Int × (Int × List Int))) : Option Int :=
 lfp (fun (rec1 : (Int × Int) → Option Int) (x1 : Int × Int) =>
  bif decide (x1.2 < (b.1.length : Int)) then (
  bif inb x1.2 b.1.length then
  (F53 (((rd (.pair (.int .u64) (.pair (.int .i64) (.slice 5 (.int .u8)))) b.1 x1.2).1, (((rd (.pair (.int .u64) (.pair (.int .i64) (.slice 5 (.int .u8)))) b.1 x1.2).2).1, ((rd (.pair (.int .u64) (.pair (.int .i64) (.slice 5 (.int .u8)))) b.1 x1.2).2).2)), (b.2.1, (b.2.2.1, b.2.2.2)))).bind fun r2 =>
  bif r2 then (
  some x1.2)
  else (
  rec1 (x1.1, (IntKind.wrap .i64 (x1.2 + 1))))
  else none)
  else (
  some (-1))) (0, 0)
theorem ev55 (b : List (Int × (Int × List Int)) × (Int × (Int × List Int))) : evF C53 H55 Try.f55 (encs [.one (.slice 39 (.pair (.int .u64) (.pair (.int .i64) (.slice 5 (.int .u8))))), .agg (.pair (.int .u64) (.pair (.int .i64) (.slice 5 (.int .u8))))] b) (RT.dec (.one (.leaf (.int .i64)))) = F55 b := by kernel_rfl
noncomputable def C55 : Ctx := Ctx.add C53 55 [.one (.slice 39 (.pair (.int .u64) (.pair (.int .i64) (.slice 5 (.int .u8))))), .agg (.pair (.int .u64) (.pair (.int .i64) (.slice 5 (.int .u8))))] (.one (.leaf (.int .i64))) F55
theorem s55 : C55.Sound := Ctx.Sound.add (C := C53) mixed s53 Try.func55 ev55
/-! damson/damsonref05.Check -/
def H24 : Nat → Head
  | 4 => ⟨[.data 2 (.int .i64), .data 12 (.int .i64)], [4096]⟩
  | _ => ⟨[], []⟩
noncomputable def F24 (b : List (Int × (Int × List Int))) : Option Int :=
 bif decide (1048576 < (b.length : Int)) then (
 some 1)
 else (
 lfp (fun (rec1 : (Int × Int) → Option Int) (x1 : Int × Int) =>
  bif decide (x1.2 < (b.length : Int)) then (
  bif inb x1.2 b.length then
  bif ((bif decide (((rd (.pair (.int .u64) (.pair (.int .i64) (.slice 5 (.int .u8)))) b x1.2).2).1 < (-1)) then true else decide (x1.2 ≤ ((rd (.pair (.int .u64) (.pair (.int .i64) (.slice 5 (.int .u8)))) b x1.2).2).1)) == false) then (
  bif ((bif (bif decide (0 ≤ ((rd (.pair (.int .u64) (.pair (.int .i64) (.slice 5 (.int .u8)))) b x1.2).2).1) then (!decide ((rd (.pair (.int .u64) (.pair (.int .i64) (.slice 5 (.int .u8)))) b x1.2).1 = 0)) else false) then true else decide (4096 < ((((rd (.pair (.int .u64) (.pair (.int .i64) (.slice 5 (.int .u8)))) b x1.2).2).2).length : Int))) == false) then (
  (F55 (b, ((rd (.pair (.int .u64) (.pair (.int .i64) (.slice 5 (.int .u8)))) b x1.2).1, (((rd (.pair (.int .u64) (.pair (.int .i64) (.slice 5 (.int .u8)))) b x1.2).2).1, ((rd (.pair (.int .u64) (.pair (.int .i64) (.slice 5 (.int .u8)))) b x1.2).2).2)))).bind fun r2 =>
  bif decide (r2 < x1.2) then (
  some 1)
  else (
  rec1 (x1.1, (IntKind.wrap .i64 (x1.2 + 1)))))
  else (
  some 1))
  else (
  some 1)
  else none)
  else (
  some 0)) (0, 0))
theorem ev24 (b : List (Int × (Int × List Int))) : evF C55 H24 Try.f24 (encs [.agg (.slice 39 (.pair (.int .u64) (.pair (.int .i64) (.slice 5 (.int .u8)))))] b) (RT.dec (.one (.leaf (.int .i64)))) = F24 b := by kernel_rfl
noncomputable def C24 : Ctx := Ctx.add C55 24 [.agg (.slice 39 (.pair (.int .u64) (.pair (.int .i64) (.slice 5 (.int .u8)))))] (.one (.leaf (.int .i64))) F24
theorem s24 : C24.Sound := Ctx.Sound.add (C := C55) mixed s55 Try.func24 ev24
/-! damson/damsonref05.with -/
def H52 : Nat → Head
  | 5000013 => ⟨[], [0, 0, 0, 0, 2, 2, 4, 4, 8, 8, 1, 1, 63, 16, 127, 0]⟩
  | _ => ⟨[], []⟩
noncomputable def F52 (b : List (Int × (Int × List Int)) × (Int × (Int × List Int))) : Option ((List (Int × (Int × List Int))) × Int × Int) :=
 (F24 b.1).bind fun r1 =>
 bif (bif (bif (!decide (r1 = 0)) then true else decide ((b.1.length : Int) ≤ b.2.2.1)) then true else decide (b.2.2.1 < (-1))) then (
 some (([] : List (Int × (Int × List Int))), 0, 1))
 else (
 bif decide (4096 < (b.2.2.2.length : Int)) then (
 some (([] : List (Int × (Int × List Int))), 0, 4))
 else (
 (F17 b.1).bind fun r2 =>
 (F55 (r2, (b.2.1, (b.2.2.1, b.2.2.2)))).bind fun r3 =>
 bif decide (0 ≤ r3) then (
 some (r2, r3, 0))
 else (
 bif decide ((r2.length : Int) = 1048576) then (
 some (([] : List (Int × (Int × List Int))), 0, 7))
 else (
 bif (!b.2.2.2.isEmpty || true) then
 bif decide ((([] : List Int).length + b.2.2.2.length) * 1 ≤ LIM) then
 bif decide ((r2.length + 1) * 40 ≤ LIM) then
 (fun o => both o o) (
 (both (
 (fun o => both o o) (
 some (r2 ++ ([(b.2.1, (b.2.2.1, ([] : List Int) ++ b.2.2.2))]), (IntKind.wrap .i64 (((r2 ++ ([(b.2.1, (b.2.2.1, ([] : List Int) ++ b.2.2.2))])).length : Int) - 1)), 0))) (
 some (r2 ++ ([(b.2.1, (b.2.2.1, ([] : List Int) ++ b.2.2.2))]), (IntKind.wrap .i64 (((r2 ++ ([(b.2.1, (b.2.2.1, ([] : List Int) ++ b.2.2.2))])).length : Int) - 1)), 0))))
 else none
 else none
 else none))))
theorem ev52 (b : List (Int × (Int × List Int)) × (Int × (Int × List Int))) : evF C24 H52 Try.f52 (encs [.agg (.slice 39 (.pair (.int .u64) (.pair (.int .i64) (.slice 5 (.int .u8))))), .agg (.pair (.int .u64) (.pair (.int .i64) (.slice 5 (.int .u8))))] b) (RT.dec (.tup [.agg [.fresh 39 (.pair (.int .u64) (.pair (.int .i64) (.slice 5 (.int .u8))))], .leaf (.int .i64), .leaf (.int .i64)])) = F52 b := by kernel_rfl
noncomputable def C52 : Ctx := Ctx.add C24 52 [.agg (.slice 39 (.pair (.int .u64) (.pair (.int .i64) (.slice 5 (.int .u8))))), .agg (.pair (.int .u64) (.pair (.int .i64) (.slice 5 (.int .u8))))] (.tup [.agg [.fresh 39 (.pair (.int .u64) (.pair (.int .i64) (.slice 5 (.int .u8))))], .leaf (.int .i64), .leaf (.int .i64)]) F52
theorem s52 : C52.Sound := Ctx.Sound.add (C := C24) mixed s24 Try.func52 ev52
/-! damson/damsonref05.Root -/
def H19 : Nat → Head := fun _ => ⟨[], []⟩
noncomputable def F19 (b : List (Int × (Int × List Int)) × Int × List Int) : Option ((List (Int × (Int × List Int))) × Int × Int) :=
 (F52 (b.1, (b.2.1, ((-1), b.2.2)))).bind fun r1 =>
 some (r1.1, r1.2.1, r1.2.2)
theorem ev19 (b : List (Int × (Int × List Int)) × Int × List Int) : evF C52 H19 Try.f19 (encs [.agg (.slice 39 (.pair (.int .u64) (.pair (.int .i64) (.slice 5 (.int .u8))))), .one (.int .u64), .one (.slice 5 (.int .u8))] b) (RT.dec (.tup [.agg [.fresh 39 (.pair (.int .u64) (.pair (.int .i64) (.slice 5 (.int .u8))))], .leaf (.int .i64), .leaf (.int .i64)])) = F19 b := by kernel_rfl
noncomputable def C19 : Ctx := Ctx.add C52 19 [.agg (.slice 39 (.pair (.int .u64) (.pair (.int .i64) (.slice 5 (.int .u8))))), .one (.int .u64), .one (.slice 5 (.int .u8))] (.tup [.agg [.fresh 39 (.pair (.int .u64) (.pair (.int .i64) (.slice 5 (.int .u8))))], .leaf (.int .i64), .leaf (.int .i64)]) F19
theorem s19 : C19.Sound := Ctx.Sound.add (C := C52) mixed s52 Try.func19 ev19
/-! damson/arena.Next -/
def H20 : Nat → Head := fun _ => ⟨[], []⟩
noncomputable def F20 (b : List (Int × (Int × List Int)) × Int × List Int) : Option ((List (Int × (Int × List Int))) × Int × Int) :=
 bif decide (b.2.1 < 0) then (
 some (([] : List (Int × (Int × List Int))), 0, 1))
 else (
 (F51 (b.1, (0, (b.2.1, b.2.2)))).bind fun r1 =>
 some (r1.1, r1.2.1, r1.2.2))
theorem ev20 (b : List (Int × (Int × List Int)) × Int × List Int) : evF C19 H20 Try.f20 (encs [.agg (.slice 39 (.pair (.int .u64) (.pair (.int .i64) (.slice 5 (.int .u8))))), .one (.int .i64), .one (.slice 5 (.int .u8))] b) (RT.dec (.tup [.agg [.fresh 39 (.pair (.int .u64) (.pair (.int .i64) (.slice 5 (.int .u8))))], .leaf (.int .i64), .leaf (.int .i64)])) = F20 b := by kernel_rfl
noncomputable def C20 : Ctx := Ctx.add C19 20 [.agg (.slice 39 (.pair (.int .u64) (.pair (.int .i64) (.slice 5 (.int .u8))))), .one (.int .i64), .one (.slice 5 (.int .u8))] (.tup [.agg [.fresh 39 (.pair (.int .u64) (.pair (.int .i64) (.slice 5 (.int .u8))))], .leaf (.int .i64), .leaf (.int .i64)]) F20
theorem s20 : C20.Sound := Ctx.Sound.add (C := C19) mixed s19 Try.func20 ev20
/-! damson/damsonref05.Next -/
def H21 : Nat → Head := fun _ => ⟨[], []⟩
noncomputable def F21 (b : List (Int × (Int × List Int)) × Int × List Int) : Option ((List (Int × (Int × List Int))) × Int × Int) :=
 bif decide (b.2.1 < 0) then (
 some (([] : List (Int × (Int × List Int))), 0, 1))
 else (
 (F52 (b.1, (0, (b.2.1, b.2.2)))).bind fun r1 =>
 some (r1.1, r1.2.1, r1.2.2))
theorem ev21 (b : List (Int × (Int × List Int)) × Int × List Int) : evF C20 H21 Try.f21 (encs [.agg (.slice 39 (.pair (.int .u64) (.pair (.int .i64) (.slice 5 (.int .u8))))), .one (.int .i64), .one (.slice 5 (.int .u8))] b) (RT.dec (.tup [.agg [.fresh 39 (.pair (.int .u64) (.pair (.int .i64) (.slice 5 (.int .u8))))], .leaf (.int .i64), .leaf (.int .i64)])) = F21 b := by kernel_rfl
noncomputable def C21 : Ctx := Ctx.add C20 21 [.agg (.slice 39 (.pair (.int .u64) (.pair (.int .i64) (.slice 5 (.int .u8))))), .one (.int .i64), .one (.slice 5 (.int .u8))] (.tup [.agg [.fresh 39 (.pair (.int .u64) (.pair (.int .i64) (.slice 5 (.int .u8))))], .leaf (.int .i64), .leaf (.int .i64)]) F21
theorem s21 : C21.Sound := Ctx.Sound.add (C := C20) mixed s20 Try.func21 ev21
/-! damson/damsonref05.Same -/
def H22 : Nat → Head
  | 4 => ⟨[.data 4 .bool, .data 16 (.int .i64)], [12288, 8192]⟩
  | 5000006 => ⟨[], [0, 0, 1, 1, 0, 0, 6, 6, 8, 8, 0, 0, 32, 32, 0, 0, 192, 192, 256, 256, 528, 528, 1024, 1024]⟩
  | _ => ⟨[], []⟩
noncomputable def F22 (b : List (Int × (Int × List Int)) × List (Int × (Int × List Int))) : Option Bool :=
 bif (!decide ((b.1.length : Int) = (b.2.length : Int))) then (
 some false)
 else (
 lfp (fun (rec1 : (Bool × Int) → Option Bool) (x1 : Bool × Int) =>
  bif decide (x1.2 < (b.1.length : Int)) then (
  (both (
  bif inb x1.2 b.1.length then
  bif inb x1.2 b.2.length then
  (F53 (((rd (.pair (.int .u64) (.pair (.int .i64) (.slice 5 (.int .u8)))) b.1 x1.2).1, (((rd (.pair (.int .u64) (.pair (.int .i64) (.slice 5 (.int .u8)))) b.1 x1.2).2).1, ((rd (.pair (.int .u64) (.pair (.int .i64) (.slice 5 (.int .u8)))) b.1 x1.2).2).2)), ((rd (.pair (.int .u64) (.pair (.int .i64) (.slice 5 (.int .u8)))) b.2 x1.2).1, (((rd (.pair (.int .u64) (.pair (.int .i64) (.slice 5 (.int .u8)))) b.2 x1.2).2).1, ((rd (.pair (.int .u64) (.pair (.int .i64) (.slice 5 (.int .u8)))) b.2 x1.2).2).2)))).bind fun r2 =>
  bif (!r2) then (
  some false)
  else (
  rec1 (x1.1, (IntKind.wrap .i64 (x1.2 + 1))))
  else none
  else none) (
  bif inb x1.2 b.2.length then
  bif inb x1.2 b.1.length then
  (F53 (((rd (.pair (.int .u64) (.pair (.int .i64) (.slice 5 (.int .u8)))) b.1 x1.2).1, (((rd (.pair (.int .u64) (.pair (.int .i64) (.slice 5 (.int .u8)))) b.1 x1.2).2).1, ((rd (.pair (.int .u64) (.pair (.int .i64) (.slice 5 (.int .u8)))) b.1 x1.2).2).2)), ((rd (.pair (.int .u64) (.pair (.int .i64) (.slice 5 (.int .u8)))) b.2 x1.2).1, (((rd (.pair (.int .u64) (.pair (.int .i64) (.slice 5 (.int .u8)))) b.2 x1.2).2).1, ((rd (.pair (.int .u64) (.pair (.int .i64) (.slice 5 (.int .u8)))) b.2 x1.2).2).2)))).bind fun r2 =>
  bif (!r2) then (
  some false)
  else (
  rec1 (x1.1, (IntKind.wrap .i64 (x1.2 + 1))))
  else none
  else none)))
  else (
  some true)) (false, 0))
theorem ev22 (b : List (Int × (Int × List Int)) × List (Int × (Int × List Int))) : evF C21 H22 Try.f22 (encs [.agg (.slice 39 (.pair (.int .u64) (.pair (.int .i64) (.slice 5 (.int .u8))))), .agg (.slice 39 (.pair (.int .u64) (.pair (.int .i64) (.slice 5 (.int .u8)))))] b) (RT.dec (.one (.leaf (.bool)))) = F22 b := by kernel_rfl
noncomputable def C22 : Ctx := Ctx.add C21 22 [.agg (.slice 39 (.pair (.int .u64) (.pair (.int .i64) (.slice 5 (.int .u8))))), .agg (.slice 39 (.pair (.int .u64) (.pair (.int .i64) (.slice 5 (.int .u8)))))] (.one (.leaf (.bool))) F22
theorem s22 : C22.Sound := Ctx.Sound.add (C := C21) mixed s21 Try.func22 ev22
/-! damson/arena.Check -/
def H23 : Nat → Head := fun _ => ⟨[], []⟩
noncomputable def F23 (b : List (Int × (Int × List Int))) : Option Int :=
 (F54 b).bind fun r1 =>
 some r1.2
theorem ev23 (b : List (Int × (Int × List Int))) : evF C22 H23 Try.f23 (encs [.agg (.slice 39 (.pair (.int .u64) (.pair (.int .i64) (.slice 5 (.int .u8)))))] b) (RT.dec (.one (.leaf (.int .i64)))) = F23 b := by kernel_rfl
noncomputable def C23 : Ctx := Ctx.add C22 23 [.agg (.slice 39 (.pair (.int .u64) (.pair (.int .i64) (.slice 5 (.int .u8)))))] (.one (.leaf (.int .i64))) F23
theorem s23 : C23.Sound := Ctx.Sound.add (C := C22) mixed s22 Try.func23 ev23
/-! bytes.Equal -/
def H87 : Nat → Head := fun _ => ⟨[], []⟩
noncomputable def F87 (b : List Int × List Int) : Option Bool :=
 some (decide (b.1 = b.2))
theorem ev87 (b : List Int × List Int) : evF C23 H87 Try.f87 (encs [.one (.slice 5 (.int .u8)), .one (.slice 5 (.int .u8))] b) (RT.dec (.one (.leaf (.bool)))) = F87 b := by kernel_rfl
noncomputable def C87 : Ctx := Ctx.add C23 87 [.one (.slice 5 (.int .u8)), .one (.slice 5 (.int .u8))] (.one (.leaf (.bool))) F87
theorem s87 : C87.Sound := Ctx.Sound.add (C := C23) mixed s23 Try.func87 ev87
/-! damson/arena.one -/
def H57 : Nat → Head := fun _ => ⟨[], []⟩
noncomputable def F57 (b : (Int × (Int × List Int)) × (Int × (Int × List Int))) : Option Bool :=
 bif ((bif decide (b.1.1 = b.2.1) then decide (b.1.2.1 = b.2.2.1) else false) == true) then (
 (F87 (b.1.2.2, b.2.2.2)).bind fun r1 =>
 some r1)
 else (
 some false)
theorem ev57 (b : (Int × (Int × List Int)) × (Int × (Int × List Int))) : evF C87 H57 Try.f57 (encs [.agg (.pair (.int .u64) (.pair (.int .i64) (.slice 5 (.int .u8)))), .agg (.pair (.int .u64) (.pair (.int .i64) (.slice 5 (.int .u8))))] b) (RT.dec (.one (.leaf (.bool)))) = F57 b := by kernel_rfl
noncomputable def C57 : Ctx := Ctx.add C87 57 [.agg (.pair (.int .u64) (.pair (.int .i64) (.slice 5 (.int .u8)))), .agg (.pair (.int .u64) (.pair (.int .i64) (.slice 5 (.int .u8))))] (.one (.leaf (.bool))) F57
theorem s57 : C57.Sound := Ctx.Sound.add (C := C87) mixed s87 Try.func57 ev57
/-! slices.EqualFunc[[]damson/api.Term,[]damson/api.Term,damson/api.Term,damson/api.Term] -/
def H56057 : Nat → Head
  | 4 => ⟨[.data 6 .bool, .data 17 (.int .i64)], []⟩
  | _ => ⟨[], []⟩
noncomputable def F56057 (b : List (Int × (Int × List Int)) × List (Int × (Int × List Int)) × Unit) : Option Bool :=
 bif (!decide ((b.1.length : Int) = (b.2.1.length : Int))) then (
 some false)
 else (
 lfp (fun (rec1 : (Bool × Int) → Option Bool) (x1 : Bool × Int) =>
  bif decide (x1.2 < (b.1.length : Int)) then (
  bif inb x1.2 b.1.length then
  bif inb x1.2 b.2.1.length then
  (F57 (((rd (.pair (.int .u64) (.pair (.int .i64) (.slice 5 (.int .u8)))) b.1 x1.2).1, (((rd (.pair (.int .u64) (.pair (.int .i64) (.slice 5 (.int .u8)))) b.1 x1.2).2).1, ((rd (.pair (.int .u64) (.pair (.int .i64) (.slice 5 (.int .u8)))) b.1 x1.2).2).2)), ((rd (.pair (.int .u64) (.pair (.int .i64) (.slice 5 (.int .u8)))) b.2.1 x1.2).1, (((rd (.pair (.int .u64) (.pair (.int .i64) (.slice 5 (.int .u8)))) b.2.1 x1.2).2).1, ((rd (.pair (.int .u64) (.pair (.int .i64) (.slice 5 (.int .u8)))) b.2.1 x1.2).2).2)))).bind fun r2 =>
  bif (!r2) then (
  some false)
  else (
  rec1 (x1.1, (IntKind.wrap .i64 (x1.2 + 1))))
  else none
  else none)
  else (
  some true)) (false, 0))
theorem ev56057 (b : List (Int × (Int × List Int)) × List (Int × (Int × List Int)) × Unit) : evF C57 H56057 Try.f56 (encs [.one (.slice 39 (.pair (.int .u64) (.pair (.int .i64) (.slice 5 (.int .u8))))), .one (.slice 39 (.pair (.int .u64) (.pair (.int .i64) (.slice 5 (.int .u8))))), .fn 57] b) (RT.dec (.one (.leaf (.bool)))) = F56057 b := by kernel_rfl
noncomputable def C56057 : Ctx := Ctx.add C57 56 [.one (.slice 39 (.pair (.int .u64) (.pair (.int .i64) (.slice 5 (.int .u8))))), .one (.slice 39 (.pair (.int .u64) (.pair (.int .i64) (.slice 5 (.int .u8))))), .fn 57] (.one (.leaf (.bool))) F56057
theorem s56057 : C56057.Sound := Ctx.Sound.add (C := C57) mixed s57 Try.func56 ev56057
/-! damson/arena.Same -/
def H25 : Nat → Head := fun _ => ⟨[], []⟩
noncomputable def F25 (b : List (Int × (Int × List Int)) × List (Int × (Int × List Int))) : Option Bool :=
 (F56057 (b.1, b.2, ())).bind fun r1 =>
 some r1
theorem ev25 (b : List (Int × (Int × List Int)) × List (Int × (Int × List Int))) : evF C56057 H25 Try.f25 (encs [.agg (.slice 39 (.pair (.int .u64) (.pair (.int .i64) (.slice 5 (.int .u8))))), .agg (.slice 39 (.pair (.int .u64) (.pair (.int .i64) (.slice 5 (.int .u8)))))] b) (RT.dec (.one (.leaf (.bool)))) = F25 b := by kernel_rfl
noncomputable def C25 : Ctx := Ctx.add C56057 25 [.agg (.slice 39 (.pair (.int .u64) (.pair (.int .i64) (.slice 5 (.int .u8))))), .agg (.slice 39 (.pair (.int .u64) (.pair (.int .i64) (.slice 5 (.int .u8)))))] (.one (.leaf (.bool))) F25
theorem s25 : C25.Sound := Ctx.Sound.add (C := C56057) mixed s56057 Try.func25 ev25
/-! damson/damsonlaw05.made -/
def H26 : Nat → Head
  | 3 => ⟨[.data 11 (.int .i64), .data 12 (.int .i64), .data 25 (.int .i64), .box 16384 (.slice 39 (.pair (.int .u64) (.pair (.int .i64) (.slice 5 (.int .u8)))))], [77824, 32768]⟩
  | 3000000 => ⟨[], [16384]⟩
  | 3000001 => ⟨[], [16384]⟩
  | 3000002 => ⟨[], [16384]⟩
  | 3000003 => ⟨[], [16384]⟩
  | 3000004 => ⟨[], [16384]⟩
  | 3000005 => ⟨[], [16384]⟩
  | 3000006 => ⟨[], [16384]⟩
  | 3000007 => ⟨[], [16384]⟩
  | 3000008 => ⟨[], [16384]⟩
  | _ => ⟨[], []⟩
noncomputable def F26 (b : List (Int × (Int × List Int)) × Int × List Int × List (List Int)) : Option ((List (Int × (Int × List Int))) × Int × Bool) :=
 (F18 (b.1, b.2.1, b.2.2.1)).bind fun r1 =>
 lfp (fun (rec2 : (Int × Int × Int × List (Int × (Int × List Int))) → Option ((List (Int × (Int × List Int))) × Int × Bool)) (x2 : Int × Int × Int × List (Int × (Int × List Int))) =>
  bif decide (x2.2.2.1 < (b.2.2.2.length : Int)) then (
  bif inb x2.2.2.1 b.2.2.2.length then
  bif decide (x2.2.1 = 0) then (
  (F20 (x2.2.2.2, x2.1, (rd (.slice 5 (.int .u8)) b.2.2.2 x2.2.2.1))).bind fun r3 =>
  rec2 (r3.2.1, r3.2.2, (IntKind.wrap .i64 (x2.2.2.1 + 1)), r3.1))
  else (
  rec2 (x2.1, x2.2.1, (IntKind.wrap .i64 (x2.2.2.1 + 1)), x2.2.2.2))
  else none)
  else (
  some (x2.2.2.2, x2.1, decide (x2.2.1 = 0)))) (r1.2.1, r1.2.2, 0, r1.1)
theorem ev26 (b : List (Int × (Int × List Int)) × Int × List Int × List (List Int)) : evF C25 H26 Try.f26 (encs [.agg (.slice 39 (.pair (.int .u64) (.pair (.int .i64) (.slice 5 (.int .u8))))), .one (.int .u64), .one (.slice 5 (.int .u8)), .one (.slice 26 (.slice 5 (.int .u8)))] b) (RT.dec (.tup [.agg [.sl 39 (.pair (.int .u64) (.pair (.int .i64) (.slice 5 (.int .u8))))], .leaf (.int .i64), .leaf (.bool)])) = F26 b := by kernel_rfl
noncomputable def C26 : Ctx := Ctx.add C25 26 [.agg (.slice 39 (.pair (.int .u64) (.pair (.int .i64) (.slice 5 (.int .u8))))), .one (.int .u64), .one (.slice 5 (.int .u8)), .one (.slice 26 (.slice 5 (.int .u8)))] (.tup [.agg [.sl 39 (.pair (.int .u64) (.pair (.int .i64) (.slice 5 (.int .u8))))], .leaf (.int .i64), .leaf (.bool)]) F26
theorem s26 : C26.Sound := Ctx.Sound.add (C := C25) mixed s25 Try.func26 ev26
/-! damson/damsonref03.SameTexts -/
def H27 : Nat → Head
  | 4 => ⟨[.data 4 .bool, .data 13 (.int .i64)], []⟩
  | 5000006 => ⟨[], [0, 0, 0, 0, 3, 3, 4, 4, 0, 0, 0, 0, 48, 48, 64, 64, 136, 136, 256, 256]⟩
  | _ => ⟨[], []⟩
noncomputable def F27 (b : List (List Int) × List (List Int)) : Option Bool :=
 bif (!decide ((b.1.length : Int) = (b.2.length : Int))) then (
 some false)
 else (
 lfp (fun (rec1 : (Bool × Int) → Option Bool) (x1 : Bool × Int) =>
  bif decide (x1.2 < (b.1.length : Int)) then (
  bif inb x1.2 b.1.length then
  bif inb x1.2 b.2.length then
  (F50 ((rd (.slice 5 (.int .u8)) b.1 x1.2), (rd (.slice 5 (.int .u8)) b.2 x1.2))).bind fun r2 =>
  bif (!r2) then (
  some false)
  else (
  rec1 (x1.1, (IntKind.wrap .i64 (x1.2 + 1))))
  else none
  else none)
  else (
  some true)) (false, 0))
theorem ev27 (b : List (List Int) × List (List Int)) : evF C26 H27 Try.f27 (encs [.one (.slice 26 (.slice 5 (.int .u8))), .one (.slice 26 (.slice 5 (.int .u8)))] b) (RT.dec (.one (.leaf (.bool)))) = F27 b := by kernel_rfl
noncomputable def C27 : Ctx := Ctx.add C26 27 [.one (.slice 26 (.slice 5 (.int .u8))), .one (.slice 26 (.slice 5 (.int .u8)))] (.one (.leaf (.bool))) F27
theorem s27 : C27.Sound := Ctx.Sound.add (C := C26) mixed s26 Try.func27 ev27
/-! damson/damsonlaw05.ArenaFree -/
def H4 : Nat → Head := fun _ => ⟨[], []⟩
noncomputable def F4 (b : List (Int × (Int × List Int)) × Int × Int × List Int × List Int × List (List Int) × List (List Int)) : Option Bool :=
 (F14 ()).bind fun r1 =>
 bif (!r1) then (
 some false)
 else (
 (F15 b.1).bind fun r2 =>
 bif ((!r2) == false) then (
 (F16 b.2.2.2.2.2.1).bind fun r3 =>
 bif ((!r3) == false) then (
 (F16 b.2.2.2.2.2.2).bind fun r4 =>
 bif ((!r4) == false) then (
 (F16 ([b.2.2.2.1, b.2.2.2.2.1])).bind fun r5 =>
 bif (!r5) then (
 some true)
 else (
 (F26 (b.1, b.2.1, b.2.2.2.1, b.2.2.2.2.2.1)).bind fun r6 =>
 bif (!r6.2.2) then (
 some true)
 else (
 (F26 (r6.1, b.2.2.1, b.2.2.2.2.1, b.2.2.2.2.2.2)).bind fun r7 =>
 bif (!r7.2.2) then (
 some true)
 else (
 (F26 (r7.1, b.2.1, b.2.2.2.1, b.2.2.2.2.2.1)).bind fun r8 =>
 bif ((bif (!r8.2.2) then true else (!decide (r8.2.1 = r6.2.1))) == false) then (
 (F25 (r7.1, r8.1)).bind fun r9 =>
 bif ((!r9) == false) then (
 (F23 r7.1).bind fun r10 =>
 bif (bif (!decide (r10 = 0)) then true else decide ((IntKind.wrap .i64 ((IntKind.wrap .i64 ((IntKind.wrap .i64 ((b.1.length : Int) + 2)) + (b.2.2.2.2.2.1.length : Int))) + (b.2.2.2.2.2.2.length : Int))) < (r7.1.length : Int))) then (
 some false)
 else (
 bif (decide (b.2.1 = b.2.2.1) == true) then (
 bif (decide (b.2.2.2.1 = b.2.2.2.2.1) == true) then (
 (F27 (b.2.2.2.2.2.1, b.2.2.2.2.2.2)).bind fun r11 =>
 some (decide (r6.2.1 = r7.2.1) == r11))
 else (
 some (decide (r6.2.1 = r7.2.1) == false)))
 else (
 some (decide (r6.2.1 = r7.2.1) == false))))
 else (
 some false))
 else (
 some false)))))
 else (
 some true))
 else (
 some true))
 else (
 some true))
theorem ev4 (b : List (Int × (Int × List Int)) × Int × Int × List Int × List Int × List (List Int) × List (List Int)) : evF C27 H4 Try.f4 (encs [.agg (.slice 39 (.pair (.int .u64) (.pair (.int .i64) (.slice 5 (.int .u8))))), .one (.int .u64), .one (.int .u64), .one (.slice 5 (.int .u8)), .one (.slice 5 (.int .u8)), .one (.slice 26 (.slice 5 (.int .u8))), .one (.slice 26 (.slice 5 (.int .u8)))] b) (RT.dec (.one (.leaf (.bool)))) = F4 b := by kernel_rfl
noncomputable def C4 : Ctx := Ctx.add C27 4 [.agg (.slice 39 (.pair (.int .u64) (.pair (.int .i64) (.slice 5 (.int .u8))))), .one (.int .u64), .one (.int .u64), .one (.slice 5 (.int .u8)), .one (.slice 5 (.int .u8)), .one (.slice 26 (.slice 5 (.int .u8))), .one (.slice 26 (.slice 5 (.int .u8)))] (.one (.leaf (.bool))) F4
theorem s4 : C4.Sound := Ctx.Sound.add (C := C27) mixed s27 Try.func4 ev4
/-! slices.IndexFunc[[][]byte,[]byte] -/
def H88058 : Nat → Head
  | 2 => ⟨[.data 4 (.int .i64), .data 8 (.int .i64)], []⟩
  | _ => ⟨[], []⟩
noncomputable def F88058 (b : List (List Int) × Unit) : Option Int :=
 lfp (fun (rec1 : (Int × Int) → Option Int) (x1 : Int × Int) =>
  bif decide (x1.2 < (b.1.length : Int)) then (
  bif inb x1.2 b.1.length then
  (F58 (rd (.slice 5 (.int .u8)) b.1 x1.2)).bind fun r2 =>
  bif r2 then (
  some x1.2)
  else (
  rec1 (x1.1, (IntKind.wrap .i64 (x1.2 + 1))))
  else none)
  else (
  some (-1))) (0, 0)
theorem ev88058 (b : List (List Int) × Unit) : evF C4 H88058 Try.f88 (encs [.one (.slice 26 (.slice 5 (.int .u8))), .fn 58] b) (RT.dec (.one (.leaf (.int .i64)))) = F88058 b := by kernel_rfl
noncomputable def C88058 : Ctx := Ctx.add C4 88 [.one (.slice 26 (.slice 5 (.int .u8))), .fn 58] (.one (.leaf (.int .i64))) F88058
theorem s88058 : C88058.Sound := Ctx.Sound.add (C := C4) mixed s4 Try.func88 ev88058
/-! slices.ContainsFunc[[][]byte,[]byte] -/
def H59058 : Nat → Head := fun _ => ⟨[], []⟩
noncomputable def F59058 (b : List (List Int) × Unit) : Option Bool :=
 (F88058 (b.1, ())).bind fun r1 =>
 some (decide (0 ≤ r1))
theorem ev59058 (b : List (List Int) × Unit) : evF C88058 H59058 Try.f59 (encs [.one (.slice 26 (.slice 5 (.int .u8))), .fn 58] b) (RT.dec (.one (.leaf (.bool)))) = F59058 b := by kernel_rfl
noncomputable def C59058 : Ctx := Ctx.add C88058 59 [.one (.slice 26 (.slice 5 (.int .u8))), .fn 58] (.one (.leaf (.bool))) F59058
theorem s59058 : C59058.Sound := Ctx.Sound.add (C := C88058) mixed s88058 Try.func59 ev59058
/-! damson/arena.Find -/
def H28 : Nat → Head
  | 9 => ⟨[.data 13 (.int .i64), .data 14 .bool, .data 44 (.int .i64)], [16384]⟩
  | _ => ⟨[], []⟩
noncomputable def F28 (b : List (Int × (Int × List Int)) × Int × List Int × List (List Int)) : Option (Int × Int) :=
 (F54 b.1).bind fun r1 =>
 bif (!decide (r1.2 = 0)) then (
 some (0, r1.2))
 else (
 (F58 b.2.2.1).bind fun r2 =>
 bif (r2 == false) then (
 (F59058 (b.2.2.2, ())).bind fun r3 =>
 bif r3 then (
 some (0, 4))
 else (
 lfp (fun (rec4 : (Int × Bool × Int) → Option (Int × Int)) (x4 : Int × Bool × Int) =>
  bif decide (x4.2.2 < (b.2.2.2.length : Int)) then (
  bif inb x4.2.2 b.2.2.2.length then
  bif (!x4.2.1) then (
  bif (!x4.2.1) then (
  some (0, 5))
  else (
  some (x4.1, 0)))
  else (
  rec4 ((mget (.pair (.int .u64) (.pair (.int .i64) .str)) (.int .i64) 0 r1.1 (0, (x4.1, (rd (.slice 5 (.int .u8)) b.2.2.2 x4.2.2)))), (mhas (.pair (.int .u64) (.pair (.int .i64) .str)) (.int .i64) r1.1 (0, (x4.1, (rd (.slice 5 (.int .u8)) b.2.2.2 x4.2.2)))), (IntKind.wrap .i64 (x4.2.2 + 1))))
  else none)
  else (
  bif (!x4.2.1) then (
  some (0, 5))
  else (
  some (x4.1, 0)))) ((mget (.pair (.int .u64) (.pair (.int .i64) .str)) (.int .i64) 0 r1.1 (b.2.1, ((-1), b.2.2.1))), (mhas (.pair (.int .u64) (.pair (.int .i64) .str)) (.int .i64) r1.1 (b.2.1, ((-1), b.2.2.1))), 0)))
 else (
 some (0, 4)))
theorem ev28 (b : List (Int × (Int × List Int)) × Int × List Int × List (List Int)) : evF C59058 H28 Try.f28 (encs [.agg (.slice 39 (.pair (.int .u64) (.pair (.int .i64) (.slice 5 (.int .u8))))), .one (.int .u64), .one (.slice 5 (.int .u8)), .one (.slice 26 (.slice 5 (.int .u8)))] b) (RT.dec (.tup [.leaf (.int .i64), .leaf (.int .i64)])) = F28 b := by kernel_rfl
noncomputable def C28 : Ctx := Ctx.add C59058 28 [.agg (.slice 39 (.pair (.int .u64) (.pair (.int .i64) (.slice 5 (.int .u8))))), .one (.int .u64), .one (.slice 5 (.int .u8)), .one (.slice 26 (.slice 5 (.int .u8)))] (.tup [.leaf (.int .i64), .leaf (.int .i64)]) F28
theorem s28 : C28.Sound := Ctx.Sound.add (C := C59058) mixed s59058 Try.func28 ev28
/-! damson/damsonref05.Find -/
def H29 : Nat → Head
  | 4 => ⟨[.data 8 (.int .i64), .data 9 (.int .i64), .data 23 (.int .i64)], [86016, 16384]⟩
  | 11 => ⟨[.data 12 (.int .i64), .data 39 (.int .i64)], [86016, 16384]⟩
  | _ => ⟨[], []⟩
noncomputable def F29 (b : List (Int × (Int × List Int)) × Int × List Int × List (List Int)) : Option (Int × Int) :=
 (F24 b.1).bind fun r1 =>
 bif (!decide (r1 = 0)) then (
 some (0, 1))
 else (
 bif decide ((([b.2.2.1]).length + b.2.2.2.length) * 24 ≤ LIM) then
 lfp (fun (rec2 : (Int × Int × Int) → Option (Int × Int)) (x2 : Int × Int × Int) =>
  bif decide (x2.2.2 < ((([b.2.2.1]) ++ b.2.2.2).length : Int)) then (
  bif inb x2.2.2 (([b.2.2.1]) ++ b.2.2.2).length then
  bif decide (4096 < ((rd (.slice 5 (.int .u8)) (([b.2.2.1]) ++ b.2.2.2) x2.2.2).length : Int)) then (
  some (0, 4))
  else (
  rec2 (x2.1, x2.2.1, (IntKind.wrap .i64 (x2.2.2 + 1))))
  else none)
  else (
  (F55 (b.1, (b.2.1, ((-1), b.2.2.1)))).bind fun r3 =>
  lfp (fun (rec4 : (Int × Int) → Option (Int × Int)) (x4 : Int × Int) =>
   bif decide (x4.2 < (b.2.2.2.length : Int)) then (
   bif inb x4.2 b.2.2.2.length then
   bif decide (0 ≤ x4.1) then (
   (F55 (b.1, (0, (x4.1, (rd (.slice 5 (.int .u8)) b.2.2.2 x4.2))))).bind fun r5 =>
   rec4 (r5, (IntKind.wrap .i64 (x4.2 + 1))))
   else (
   rec4 (x4.1, (IntKind.wrap .i64 (x4.2 + 1))))
   else none)
   else (
   bif decide (x4.1 < 0) then (
   some (0, 5))
   else (
   some (x4.1, 0)))) (r3, 0))) (0, 0, 0)
 else none)
theorem ev29 (b : List (Int × (Int × List Int)) × Int × List Int × List (List Int)) : evF C28 H29 Try.f29 (encs [.agg (.slice 39 (.pair (.int .u64) (.pair (.int .i64) (.slice 5 (.int .u8))))), .one (.int .u64), .one (.slice 5 (.int .u8)), .one (.slice 26 (.slice 5 (.int .u8)))] b) (RT.dec (.tup [.leaf (.int .i64), .leaf (.int .i64)])) = F29 b := by kernel_rfl
noncomputable def C29 : Ctx := Ctx.add C28 29 [.agg (.slice 39 (.pair (.int .u64) (.pair (.int .i64) (.slice 5 (.int .u8))))), .one (.int .u64), .one (.slice 5 (.int .u8)), .one (.slice 26 (.slice 5 (.int .u8)))] (.tup [.leaf (.int .i64), .leaf (.int .i64)]) F29
theorem s29 : C29.Sound := Ctx.Sound.add (C := C28) mixed s28 Try.func29 ev29
/-! slices.Reverse[[][]byte,[]byte]: carried out where it is called -/
def H61 : Nat → Head
  | 1 => ⟨[.data 2 (.int .i64), .data 3 (.int .i64), .rowk 22532 26 (.slice 5 (.int .u8))], [9000061, 8192]⟩
  | 5000003 => ⟨[], [0, 0, 0, 0, 0, 0, 0, 0, 0, 0, 0, 0, 48, 48, 64, 64, 0, 0, 0, 0, 768, 768, 1024, 1024, 2291, 3, 6387, 4224, 16383, 12, 32767, 18432]⟩
  | _ => ⟨[], []⟩
noncomputable def C61 : Ctx := Ctx.addI C29 61 H61 9000061 Try.f61
theorem s61 : C61.Sound := Ctx.Sound.addI (C := C29) mixed s29 Try.func61
/-! damson/arena.Path -/
def H30 : Nat → Head
  | 4 => ⟨[.data 1 (.int .i64), .data 4 (.int .u64), .row 5 22532 26 (.slice 5 (.int .u8))], [8192]⟩
  | _ => ⟨[], []⟩
noncomputable def F30 (b : List (Int × (Int × List Int)) × Int) : Option (Int × List (List Int) × Int) :=
 (F54 b.1).bind fun r1 =>
 bif (bif (bif (!decide (r1.2 = 0)) then true else decide (b.2 < 0)) then true else decide ((b.1.length : Int) ≤ b.2)) then (
 some (0, ([] : List (List Int)), 1))
 else (
 lfp (fun (rec2 : (Int × Int × List (List Int)) → Option (Int × List (List Int) × Int)) (x2 : Int × Int × List (List Int)) =>
  bif (!decide (x2.1 = (-1))) then (
  bif inb x2.1 b.1.length then
  bif inb x2.1 b.1.length then
  (F60 (((rd (.pair (.int .u64) (.pair (.int .i64) (.slice 5 (.int .u8)))) b.1 x2.1).2).2)).bind fun r3 =>
  bif decide ((x2.2.2.length + 1) * 24 ≤ LIM) then
  bif inb x2.1 b.1.length then
  rec2 (((rd (.pair (.int .u64) (.pair (.int .i64) (.slice 5 (.int .u8)))) b.1 x2.1).2).1, (rd (.pair (.int .u64) (.pair (.int .i64) (.slice 5 (.int .u8)))) b.1 x2.1).1, (x2.2.2 ++ ([r3])))
  else none
  else none
  else none
  else none)
  else (
  lfp (fun (rec4 : (Int × Int × List (List Int)) → Option (Int × List (List Int) × Int)) (x4 : Int × Int × List (List Int)) =>
   bif decide (x4.1 < x4.2.1) then (
   bif inb x4.2.1 x4.2.2.length then
   bif inb x4.1 x4.2.2.length then
   (fun o => both o o) (
   bif inb x4.1 x4.2.2.length then
   bif inb x4.2.1 (x4.2.2.set x4.1.toNat (rd (.slice 5 (.int .u8)) x4.2.2 x4.2.1)).length then
   rec4 ((IntKind.wrap .i64 (x4.1 + 1)), (IntKind.wrap .i64 (x4.2.1 - 1)), ((x4.2.2.set x4.1.toNat (rd (.slice 5 (.int .u8)) x4.2.2 x4.2.1)).set x4.2.1.toNat (rd (.slice 5 (.int .u8)) x4.2.2 x4.1)))
   else none
   else none)
   else none
   else none)
   else (
   some (x2.2.1, x4.2.2, 0))) (0, (IntKind.wrap .i64 ((x2.2.2.length : Int) - 1)), x2.2.2))) (b.2, 0, ([] : List (List Int))))
theorem ev30 (b : List (Int × (Int × List Int)) × Int) : evF C61 H30 Try.f30 (encs [.agg (.slice 39 (.pair (.int .u64) (.pair (.int .i64) (.slice 5 (.int .u8))))), .one (.int .i64)] b) (RT.dec (.tup [.leaf (.int .u64), .leaf (.fresh 26 (.slice 5 (.int .u8))), .leaf (.int .i64)])) = F30 b := by kernel_rfl
noncomputable def C30 : Ctx := Ctx.add C61 30 [.agg (.slice 39 (.pair (.int .u64) (.pair (.int .i64) (.slice 5 (.int .u8))))), .one (.int .i64)] (.tup [.leaf (.int .u64), .leaf (.fresh 26 (.slice 5 (.int .u8))), .leaf (.int .i64)]) F30
theorem s30 : C30.Sound := Ctx.Sound.add (C := C61) mixed s61 Try.func30 ev30
/-! damson/damsonref05.Path -/
def H31 : Nat → Head := fun _ => ⟨[], []⟩
noncomputable def B31 (recF : (List (Int × (Int × List Int)) × Int) → Option (Int × List (List Int) × Int)) (b : List (Int × (Int × List Int)) × Int) : Option (Int × List (List Int) × Int) :=
 (F24 b.1).bind fun r1 =>
 bif (bif (bif (!decide (r1 = 0)) then true else decide (b.2 < 0)) then true else decide ((b.1.length : Int) ≤ b.2)) then (
 some (0, ([] : List (List Int)), 1))
 else (
 bif inb b.2 b.1.length then
 bif (!(((rd (.pair (.int .u64) (.pair (.int .i64) (.slice 5 (.int .u8)))) b.1 b.2).2).2).isEmpty || true) then
 bif decide ((([] : List Int).length + (((rd (.pair (.int .u64) (.pair (.int .i64) (.slice 5 (.int .u8)))) b.1 b.2).2).2).length) * 1 ≤ LIM) then
 bif decide (((rd (.pair (.int .u64) (.pair (.int .i64) (.slice 5 (.int .u8)))) b.1 b.2).2).1 < 0) then (
 some ((rd (.pair (.int .u64) (.pair (.int .i64) (.slice 5 (.int .u8)))) b.1 b.2).1, [([] : List Int) ++ (((rd (.pair (.int .u64) (.pair (.int .i64) (.slice 5 (.int .u8)))) b.1 b.2).2).2)], 0))
 else (
 (recF (b.1, ((rd (.pair (.int .u64) (.pair (.int .i64) (.slice 5 (.int .u8)))) b.1 b.2).2).1)).bind fun r2 =>
 bif decide ((r2.2.1.length + 1) * 24 ≤ LIM) then
 some (r2.1, r2.2.1 ++ ([([] : List Int) ++ (((rd (.pair (.int .u64) (.pair (.int .i64) (.slice 5 (.int .u8)))) b.1 b.2).2).2)]), 0)
 else none)
 else none
 else none
 else none)
noncomputable def F31 : (List (Int × (Int × List Int)) × Int) → Option (Int × List (List Int) × Int) := lfp B31
theorem ev31 (F : (List (Int × (Int × List Int)) × Int) → Option (Int × List (List Int) × Int)) (b : List (Int × (Int × List Int)) × Int) : evF (Ctx.add C30 31 [.agg (.slice 39 (.pair (.int .u64) (.pair (.int .i64) (.slice 5 (.int .u8))))), .one (.int .i64)] (.tup [.leaf (.int .u64), .leaf (.fresh 26 (.slice 5 (.int .u8))), .leaf (.int .i64)]) F) H31 Try.f31 (encs [.agg (.slice 39 (.pair (.int .u64) (.pair (.int .i64) (.slice 5 (.int .u8))))), .one (.int .i64)] b) (RT.dec (.tup [.leaf (.int .u64), .leaf (.fresh 26 (.slice 5 (.int .u8))), .leaf (.int .i64)])) = B31 F b := by kernel_rfl
noncomputable def C31 : Ctx := Ctx.add C30 31 [.agg (.slice 39 (.pair (.int .u64) (.pair (.int .i64) (.slice 5 (.int .u8))))), .one (.int .i64)] (.tup [.leaf (.int .u64), .leaf (.fresh 26 (.slice 5 (.int .u8))), .leaf (.int .i64)]) F31
theorem s31 : C31.Sound := Ctx.Sound.fix (C := C30) mixed s30 Try.func31 ev31
/-! damson/damsonlaw05.ArenaTells -/
def H5 : Nat → Head := fun _ => ⟨[], []⟩
noncomputable def F5 (b : List (Int × (Int × List Int)) × Int × List Int × List (List Int) × Int) : Option Bool :=
 (F14 ()).bind fun r1 =>
 bif (!r1) then (
 some false)
 else (
 (F15 b.1).bind fun r2 =>
 bif ((!r2) == false) then (
 (F16 b.2.2.2.1).bind fun r3 =>
 bif ((!r3) == false) then (
 (F16 ([b.2.2.1])).bind fun r4 =>
 bif (!r4) then (
 some true)
 else (
 (F28 (b.1, b.2.1, b.2.2.1, b.2.2.2.1)).bind fun r5 =>
 (F29 (b.1, b.2.1, b.2.2.1, b.2.2.2.1)).bind fun r6 =>
 (F30 (b.1, b.2.2.2.2)).bind fun r7 =>
 (F31 (b.1, b.2.2.2.2)).bind fun r8 =>
 bif ((bif (bif decide (r5.1 = r6.1) then decide (r5.2 = r6.2) else false) then decide (r7.1 = r8.1) else false) == true) then (
 (F27 (r7.2.1, r8.2.1)).bind fun r9 =>
 some (bif r9 then decide (r7.2.2 = r8.2.2) else false))
 else (
 some false)))
 else (
 some true))
 else (
 some true))
theorem ev5 (b : List (Int × (Int × List Int)) × Int × List Int × List (List Int) × Int) : evF C31 H5 Try.f5 (encs [.agg (.slice 39 (.pair (.int .u64) (.pair (.int .i64) (.slice 5 (.int .u8))))), .one (.int .u64), .one (.slice 5 (.int .u8)), .one (.slice 26 (.slice 5 (.int .u8))), .one (.int .i64)] b) (RT.dec (.one (.leaf (.bool)))) = F5 b := by kernel_rfl
noncomputable def C5 : Ctx := Ctx.add C31 5 [.agg (.slice 39 (.pair (.int .u64) (.pair (.int .i64) (.slice 5 (.int .u8))))), .one (.int .u64), .one (.slice 5 (.int .u8)), .one (.slice 26 (.slice 5 (.int .u8))), .one (.int .i64)] (.one (.leaf (.bool))) F5
theorem s5 : C5.Sound := Ctx.Sound.add (C := C31) mixed s31 Try.func5 ev5
/-! damson/damsonlaw05.ArenaGrows -/
def H7 : Nat → Head
  | 1000010 => ⟨[], [11]⟩
  | 5000013 => ⟨[], [0, 0, 0, 0, 0, 0, 4, 4, 8, 8, 0, 0, 32, 32, 64, 64, 0, 0, 256, 256, 640, 640, 1043, 1043, 2048, 2048, 4096, 4096, 4096, 4096, 16383, 8192, 65535, 16384]⟩
  | 5000014 => ⟨[], [0, 0, 1, 1, 2, 2, 4, 4, 4, 4, 28, 28, 36, 36, 68, 64, 128, 128, 384, 384, 128, 128, 1152, 1152, 2176, 2176, 4736, 4736, 8320, 8320, 128, 128, 49280, 49280, 65664, 65664, 262143, 131072]⟩
  | _ => ⟨[], []⟩
noncomputable def F7 (b : List (Int × (Int × List Int)) × Int × List Int) : Option Bool :=
 (F14 ()).bind fun r1 =>
 bif (!r1) then (
 some false)
 else (
 (F15 b.1).bind fun r2 =>
 bif ((!r2) == false) then (
 (F16 ([b.2.2])).bind fun r3 =>
 bif (!r3) then (
 some true)
 else (
 (F20 (b.1, b.2.1, b.2.2)).bind fun r4 =>
 bif (!decide (r4.2.2 = 0)) then (
 some (bif decide (r4.2.1 = 0) then decide ((r4.1.length : Int) = 0) else false))
 else (
 bif ((bif (bif (bif (bif decide ((r4.1.length : Int) < (b.1.length : Int)) then true else decide ((IntKind.wrap .i64 ((b.1.length : Int) + 1)) < (r4.1.length : Int))) then true else decide (r4.2.1 < 0)) then true else decide ((r4.1.length : Int) ≤ r4.2.1)) then true else decide (r4.2.1 ≤ b.2.1)) == false) then (
 bif (bif decide ((r4.1.length : Int) = (IntKind.wrap .i64 ((b.1.length : Int) + 1))) then (!decide (r4.2.1 = (b.1.length : Int))) else false) then (
 some false)
 else (
 (F30 (b.1, b.2.1)).bind fun r5 =>
 bif (bif (!decide (r5.2.2 = 0)) then true else decide ((r5.2.1.length : Int) = 0)) then (
 some false)
 else (
 bif inb 0 r5.2.1.length then
 bif inb 1 (r5.2.1.length + 1) then
 (both (
 (fun o => both o o) (
 bif (!(r5.2.1.drop ((1 : Int).toNat)).isEmpty || true) then
 bif decide ((([] : List (List Int)).length + (r5.2.1.drop ((1 : Int).toNat)).length) * 24 ≤ LIM) then
 bif decide (((([] : List (List Int)) ++ (r5.2.1.drop ((1 : Int).toNat))).length + 1) * 24 ≤ LIM) then
 (F28 (r4.1, r5.1, (rd (.slice 5 (.int .u8)) r5.2.1 0), (([] : List (List Int)) ++ (r5.2.1.drop ((1 : Int).toNat))) ++ ([b.2.2]))).bind fun r6 =>
 (both (
 (both (
 bif ((bif decide (r6.2 = 0) then decide (r6.1 = r4.2.1) else false) == true) then (
 bif inb (b.1.length : Int) (r4.1.length + 1) then
 (fun o => both o o) (
 (F25 (r4.1.take ((b.1.length : Int).toNat), b.1)).bind fun r7 =>
 some r7)
 else none)
 else (
 (fun o => both o o) (
 some false))) (
 bif ((bif decide (r6.2 = 0) then decide (r6.1 = r4.2.1) else false) == true) then (
 bif inb (b.1.length : Int) (r4.1.length + 1) then
 (F25 (r4.1.take ((b.1.length : Int).toNat), b.1)).bind fun r7 =>
 some r7
 else none)
 else (
 some false)))) (both (
 (both (
 bif ((bif decide (r6.2 = 0) then decide (r6.1 = r4.2.1) else false) == true) then (
 bif inb (b.1.length : Int) (r4.1.length + 1) then
 (fun o => both o o) (
 (F25 (r4.1.take ((b.1.length : Int).toNat), b.1)).bind fun r7 =>
 some r7)
 else none)
 else (
 (fun o => both o o) (
 some false))) (
 bif ((bif decide (r6.2 = 0) then decide (r6.1 = r4.2.1) else false) == true) then (
 bif inb (b.1.length : Int) (r4.1.length + 1) then
 (F25 (r4.1.take ((b.1.length : Int).toNat), b.1)).bind fun r7 =>
 some r7
 else none)
 else (
 some false)))) (
 (fun o => both o o) (
 bif ((bif decide (r6.2 = 0) then decide (r6.1 = r4.2.1) else false) == true) then (
 bif inb (b.1.length : Int) (r4.1.length + 1) then
 (F25 (r4.1.take ((b.1.length : Int).toNat), b.1)).bind fun r7 =>
 some r7
 else none)
 else (
 some false)))))
 else none
 else none
 else none)) (both (
 bif (!(r5.2.1.drop ((1 : Int).toNat)).isEmpty || true) then
 bif decide ((([] : List (List Int)).length + (r5.2.1.drop ((1 : Int).toNat)).length) * 24 ≤ LIM) then
 (both (
 bif decide (((([] : List (List Int)) ++ (r5.2.1.drop ((1 : Int).toNat))).length + 1) * 24 ≤ LIM) then
 (F28 (r4.1, r5.1, (rd (.slice 5 (.int .u8)) r5.2.1 0), (([] : List (List Int)) ++ (r5.2.1.drop ((1 : Int).toNat))) ++ ([b.2.2]))).bind fun r6 =>
 (both (
 (both (
 bif ((bif decide (r6.2 = 0) then decide (r6.1 = r4.2.1) else false) == true) then (
 bif inb (b.1.length : Int) (r4.1.length + 1) then
 (fun o => both o o) (
 (F25 (r4.1.take ((b.1.length : Int).toNat), b.1)).bind fun r7 =>
 some r7)
 else none)
 else (
 (fun o => both o o) (
 some false))) (
 bif ((bif decide (r6.2 = 0) then decide (r6.1 = r4.2.1) else false) == true) then (
 bif inb (b.1.length : Int) (r4.1.length + 1) then
 (F25 (r4.1.take ((b.1.length : Int).toNat), b.1)).bind fun r7 =>
 some r7
 else none)
 else (
 some false)))) (both (
 (both (
 bif ((bif decide (r6.2 = 0) then decide (r6.1 = r4.2.1) else false) == true) then (
 bif inb (b.1.length : Int) (r4.1.length + 1) then
 (fun o => both o o) (
 (F25 (r4.1.take ((b.1.length : Int).toNat), b.1)).bind fun r7 =>
 some r7)
 else none)
 else (
 (fun o => both o o) (
 some false))) (
 bif ((bif decide (r6.2 = 0) then decide (r6.1 = r4.2.1) else false) == true) then (
 bif inb (b.1.length : Int) (r4.1.length + 1) then
 (F25 (r4.1.take ((b.1.length : Int).toNat), b.1)).bind fun r7 =>
 some r7
 else none)
 else (
 some false)))) (
 (fun o => both o o) (
 bif ((bif decide (r6.2 = 0) then decide (r6.1 = r4.2.1) else false) == true) then (
 bif inb (b.1.length : Int) (r4.1.length + 1) then
 (F25 (r4.1.take ((b.1.length : Int).toNat), b.1)).bind fun r7 =>
 some r7
 else none)
 else (
 some false)))))
 else none) (
 (fun o => both o o) (
 bif decide (((([] : List (List Int)) ++ (r5.2.1.drop ((1 : Int).toNat))).length + 1) * 24 ≤ LIM) then
 (F28 (r4.1, r5.1, (rd (.slice 5 (.int .u8)) r5.2.1 0), (([] : List (List Int)) ++ (r5.2.1.drop ((1 : Int).toNat))) ++ ([b.2.2]))).bind fun r6 =>
 (both (
 (both (
 bif ((bif decide (r6.2 = 0) then decide (r6.1 = r4.2.1) else false) == true) then (
 bif inb (b.1.length : Int) (r4.1.length + 1) then
 (fun o => both o o) (
 (F25 (r4.1.take ((b.1.length : Int).toNat), b.1)).bind fun r7 =>
 some r7)
 else none)
 else (
 (fun o => both o o) (
 some false))) (
 bif ((bif decide (r6.2 = 0) then decide (r6.1 = r4.2.1) else false) == true) then (
 bif inb (b.1.length : Int) (r4.1.length + 1) then
 (F25 (r4.1.take ((b.1.length : Int).toNat), b.1)).bind fun r7 =>
 some r7
 else none)
 else (
 some false)))) (both (
 (both (
 bif ((bif decide (r6.2 = 0) then decide (r6.1 = r4.2.1) else false) == true) then (
 bif inb (b.1.length : Int) (r4.1.length + 1) then
 (fun o => both o o) (
 (F25 (r4.1.take ((b.1.length : Int).toNat), b.1)).bind fun r7 =>
 some r7)
 else none)
 else (
 (fun o => both o o) (
 some false))) (
 bif ((bif decide (r6.2 = 0) then decide (r6.1 = r4.2.1) else false) == true) then (
 bif inb (b.1.length : Int) (r4.1.length + 1) then
 (F25 (r4.1.take ((b.1.length : Int).toNat), b.1)).bind fun r7 =>
 some r7
 else none)
 else (
 some false)))) (
 (fun o => both o o) (
 bif ((bif decide (r6.2 = 0) then decide (r6.1 = r4.2.1) else false) == true) then (
 bif inb (b.1.length : Int) (r4.1.length + 1) then
 (F25 (r4.1.take ((b.1.length : Int).toNat), b.1)).bind fun r7 =>
 some r7
 else none)
 else (
 some false)))))
 else none)))
 else none
 else none) (
 (both (
 bif (!(r5.2.1.drop ((1 : Int).toNat)).isEmpty || true) then
 bif decide ((([] : List (List Int)).length + (r5.2.1.drop ((1 : Int).toNat)).length) * 24 ≤ LIM) then
 bif decide (((([] : List (List Int)) ++ (r5.2.1.drop ((1 : Int).toNat))).length + 1) * 24 ≤ LIM) then
 (F28 (r4.1, r5.1, (rd (.slice 5 (.int .u8)) r5.2.1 0), (([] : List (List Int)) ++ (r5.2.1.drop ((1 : Int).toNat))) ++ ([b.2.2]))).bind fun r6 =>
 (both (
 (both (
 bif ((bif decide (r6.2 = 0) then decide (r6.1 = r4.2.1) else false) == true) then (
 bif inb (b.1.length : Int) (r4.1.length + 1) then
 (fun o => both o o) (
 (F25 (r4.1.take ((b.1.length : Int).toNat), b.1)).bind fun r7 =>
 some r7)
 else none)
 else (
 (fun o => both o o) (
 some false))) (
 bif ((bif decide (r6.2 = 0) then decide (r6.1 = r4.2.1) else false) == true) then (
 bif inb (b.1.length : Int) (r4.1.length + 1) then
 (F25 (r4.1.take ((b.1.length : Int).toNat), b.1)).bind fun r7 =>
 some r7
 else none)
 else (
 some false)))) (both (
 (both (
 bif ((bif decide (r6.2 = 0) then decide (r6.1 = r4.2.1) else false) == true) then (
 bif inb (b.1.length : Int) (r4.1.length + 1) then
 (fun o => both o o) (
 (F25 (r4.1.take ((b.1.length : Int).toNat), b.1)).bind fun r7 =>
 some r7)
 else none)
 else (
 (fun o => both o o) (
 some false))) (
 bif ((bif decide (r6.2 = 0) then decide (r6.1 = r4.2.1) else false) == true) then (
 bif inb (b.1.length : Int) (r4.1.length + 1) then
 (F25 (r4.1.take ((b.1.length : Int).toNat), b.1)).bind fun r7 =>
 some r7
 else none)
 else (
 some false)))) (
 (fun o => both o o) (
 bif ((bif decide (r6.2 = 0) then decide (r6.1 = r4.2.1) else false) == true) then (
 bif inb (b.1.length : Int) (r4.1.length + 1) then
 (F25 (r4.1.take ((b.1.length : Int).toNat), b.1)).bind fun r7 =>
 some r7
 else none)
 else (
 some false)))))
 else none
 else none
 else none) (
 bif (!(r5.2.1.drop ((1 : Int).toNat)).isEmpty || true) then
 bif decide ((([] : List (List Int)).length + (r5.2.1.drop ((1 : Int).toNat)).length) * 24 ≤ LIM) then
 (fun o => both o o) (
 bif decide (((([] : List (List Int)) ++ (r5.2.1.drop ((1 : Int).toNat))).length + 1) * 24 ≤ LIM) then
 (F28 (r4.1, r5.1, (rd (.slice 5 (.int .u8)) r5.2.1 0), (([] : List (List Int)) ++ (r5.2.1.drop ((1 : Int).toNat))) ++ ([b.2.2]))).bind fun r6 =>
 (both (
 (both (
 bif ((bif decide (r6.2 = 0) then decide (r6.1 = r4.2.1) else false) == true) then (
 bif inb (b.1.length : Int) (r4.1.length + 1) then
 (fun o => both o o) (
 (F25 (r4.1.take ((b.1.length : Int).toNat), b.1)).bind fun r7 =>
 some r7)
 else none)
 else (
 (fun o => both o o) (
 some false))) (
 bif ((bif decide (r6.2 = 0) then decide (r6.1 = r4.2.1) else false) == true) then (
 bif inb (b.1.length : Int) (r4.1.length + 1) then
 (F25 (r4.1.take ((b.1.length : Int).toNat), b.1)).bind fun r7 =>
 some r7
 else none)
 else (
 some false)))) (both (
 (both (
 bif ((bif decide (r6.2 = 0) then decide (r6.1 = r4.2.1) else false) == true) then (
 bif inb (b.1.length : Int) (r4.1.length + 1) then
 (fun o => both o o) (
 (F25 (r4.1.take ((b.1.length : Int).toNat), b.1)).bind fun r7 =>
 some r7)
 else none)
 else (
 (fun o => both o o) (
 some false))) (
 bif ((bif decide (r6.2 = 0) then decide (r6.1 = r4.2.1) else false) == true) then (
 bif inb (b.1.length : Int) (r4.1.length + 1) then
 (F25 (r4.1.take ((b.1.length : Int).toNat), b.1)).bind fun r7 =>
 some r7
 else none)
 else (
 some false)))) (
 (fun o => both o o) (
 bif ((bif decide (r6.2 = 0) then decide (r6.1 = r4.2.1) else false) == true) then (
 bif inb (b.1.length : Int) (r4.1.length + 1) then
 (F25 (r4.1.take ((b.1.length : Int).toNat), b.1)).bind fun r7 =>
 some r7
 else none)
 else (
 some false)))))
 else none)
 else none
 else none)))))
 else none
 else none)))
 else (
 some false))))
 else (
 some true))
theorem ev7 (b : List (Int × (Int × List Int)) × Int × List Int) : evF C5 H7 Try.f7 (encs [.agg (.slice 39 (.pair (.int .u64) (.pair (.int .i64) (.slice 5 (.int .u8))))), .one (.int .i64), .one (.slice 5 (.int .u8))] b) (RT.dec (.one (.leaf (.bool)))) = F7 b := by kernel_rfl
noncomputable def C7 : Ctx := Ctx.add C5 7 [.agg (.slice 39 (.pair (.int .u64) (.pair (.int .i64) (.slice 5 (.int .u8))))), .one (.int .i64), .one (.slice 5 (.int .u8))] (.one (.leaf (.bool))) F7
theorem s7 : C7.Sound := Ctx.Sound.add (C := C5) mixed s5 Try.func7 ev7
/-! slices.IndexFunc[[]damson/api.Caveat,damson/api.Caveat] -/
def H94068 : Nat → Head
  | 2 => ⟨[.data 4 (.int .i64), .data 8 (.int .i64)], []⟩
  | _ => ⟨[], []⟩
noncomputable def F94068 (b : List (Int × (Int × Int)) × Unit) : Option Int :=
 lfp (fun (rec1 : (Int × Int) → Option Int) (x1 : Int × Int) =>
  bif decide (x1.2 < (b.1.length : Int)) then (
  bif inb x1.2 b.1.length then
  (F68 ((rd (.pair (.int .i64) (.pair (.int .u64) (.int .u64))) b.1 x1.2).1, (((rd (.pair (.int .i64) (.pair (.int .u64) (.int .u64))) b.1 x1.2).2).1, ((rd (.pair (.int .i64) (.pair (.int .u64) (.int .u64))) b.1 x1.2).2).2))).bind fun r2 =>
  bif r2 then (
  some x1.2)
  else (
  rec1 (x1.1, (IntKind.wrap .i64 (x1.2 + 1))))
  else none)
  else (
  some (-1))) (0, 0)
theorem ev94068 (b : List (Int × (Int × Int)) × Unit) : evF C7 H94068 Try.f94 (encs [.one (.slice 62 (.pair (.int .i64) (.pair (.int .u64) (.int .u64)))), .fn 68] b) (RT.dec (.one (.leaf (.int .i64)))) = F94068 b := by kernel_rfl
noncomputable def C94068 : Ctx := Ctx.add C7 94 [.one (.slice 62 (.pair (.int .i64) (.pair (.int .u64) (.int .u64)))), .fn 68] (.one (.leaf (.int .i64))) F94068
theorem s94068 : C94068.Sound := Ctx.Sound.add (C := C7) mixed s7 Try.func94 ev94068
/-! slices.ContainsFunc[[]damson/api.Caveat,damson/api.Caveat] -/
def H70068 : Nat → Head := fun _ => ⟨[], []⟩
noncomputable def F70068 (b : List (Int × (Int × Int)) × Unit) : Option Bool :=
 (F94068 (b.1, ())).bind fun r1 =>
 some (decide (0 ≤ r1))
theorem ev70068 (b : List (Int × (Int × Int)) × Unit) : evF C94068 H70068 Try.f70 (encs [.one (.slice 62 (.pair (.int .i64) (.pair (.int .u64) (.int .u64)))), .fn 68] b) (RT.dec (.one (.leaf (.bool)))) = F70068 b := by kernel_rfl
noncomputable def C70068 : Ctx := Ctx.add C94068 70 [.one (.slice 62 (.pair (.int .i64) (.pair (.int .u64) (.int .u64)))), .fn 68] (.one (.leaf (.bool))) F70068
theorem s70068 : C70068.Sound := Ctx.Sound.add (C := C94068) mixed s94068 Try.func70 ev70068
/-! damson/token.Check -/
def H43 : Nat → Head := fun _ => ⟨[], []⟩
noncomputable def F43 (b : (Int × (List (Int × (Int × Int)) × Int))) : Option Int :=
 bif ((bif (bif decide (16 < (b.2.1.length : Int)) then true else decide (b.2.2 < 0)) then true else decide (1048576 < b.2.2)) == false) then (
 (F70068 (b.2.1, ())).bind fun r1 =>
 bif r1 then (
 some 1)
 else (
 some 0))
 else (
 some 1)
theorem ev43 (b : (Int × (List (Int × (Int × Int)) × Int))) : evF C70068 H43 Try.f43 (encs [.agg (.pair (.int .u64) (.pair (.slice 62 (.pair (.int .i64) (.pair (.int .u64) (.int .u64)))) (.int .i64)))] b) (RT.dec (.one (.leaf (.int .i64)))) = F43 b := by kernel_rfl
noncomputable def C43 : Ctx := Ctx.add C70068 43 [.agg (.pair (.int .u64) (.pair (.slice 62 (.pair (.int .i64) (.pair (.int .u64) (.int .u64)))) (.int .i64)))] (.one (.leaf (.int .i64))) F43
theorem s43 : C43.Sound := Ctx.Sound.add (C := C70068) mixed s70068 Try.func43 ev43
/-! damson/bigsize.first -/
def H89 : Nat → Head := fun _ => ⟨[], []⟩
noncomputable def F89 (b : Int) : Option Int :=
 bif decide (b < 253) then (
 some (IntKind.wrap .u8 b))
 else (
 bif decide (b < 65536) then (
 some 253)
 else (
 bif decide (b < 4294967296) then (
 some 254)
 else (
 some 255)))
theorem ev89 (b : Int) : evF C43 H89 Try.f89 (encs [.one (.int .u64)] b) (RT.dec (.one (.leaf (.int .u8)))) = F89 b := by kernel_rfl
noncomputable def C89 : Ctx := Ctx.add C43 89 [.one (.int .u64)] (.one (.leaf (.int .u8))) F89
theorem s89 : C89.Sound := Ctx.Sound.add (C := C43) mixed s43 Try.func89 ev89
/-! damson/bigsize.wide -/
def H90 : Nat → Head := fun _ => ⟨[], []⟩
noncomputable def F90 (b : Int) : Option Int :=
 bif decide (b < 253) then (
 some 0)
 else (
 some (IntKind.wrap .i64 (2 * 2 ^ (min (IntKind.wrap .u8 (b - 253)).toNat 64))))
theorem ev90 (b : Int) : evF C89 H90 Try.f90 (encs [.one (.int .u8)] b) (RT.dec (.one (.leaf (.int .i64)))) = F90 b := by kernel_rfl
noncomputable def C90 : Ctx := Ctx.add C89 90 [.one (.int .u8)] (.one (.leaf (.int .i64))) F90
theorem s90 : C90.Sound := Ctx.Sound.add (C := C89) mixed s89 Try.func90 ev90
/-! damson/bigsize.Put -/
def H62 : Nat → Head
  | 3 => ⟨[.row 3 14339 5 (.int .u8), .data 10 (.int .i64)], []⟩
  | 8 => ⟨[.row 3 14344 5 (.int .u8), .data 22 (.int .i64)], [73728]⟩
  | _ => ⟨[], []⟩
noncomputable def F62 (b : List Int) : Option (List Int) :=
 lfp (fun (rec1 : (List Int × Int) → Option (List Int)) (x1 : List Int × Int) =>
  bif decide (x1.2 < (b.length : Int)) then (
  bif inb x1.2 b.length then
  (F89 (rd (.int .u64) b x1.2)).bind fun r2 =>
  bif decide ((x1.1.length + 1) * 1 ≤ LIM) then
  (F90 r2).bind fun r3 =>
  lfp (fun (rec4 : (List Int × Int) → Option (List Int)) (x4 : List Int × Int) =>
   bif decide (x4.2 < r3) then (
   (F90 r2).bind fun r5 =>
   bif decide (0 ≤ (IntKind.wrap .i64 (8 * (IntKind.wrap .i64 ((IntKind.wrap .i64 (r5 - 1)) - x4.2))))) then
   bif decide ((x4.1.length + 1) * 1 ≤ LIM) then
   rec4 ((x4.1 ++ ([(IntKind.wrap .u8 ((rd (.int .u64) b x1.2) / 2 ^ (min (IntKind.wrap .i64 (8 * (IntKind.wrap .i64 ((IntKind.wrap .i64 (r5 - 1)) - x4.2)))).toNat 64)))])), (IntKind.wrap .i64 (x4.2 + 1)))
   else none
   else none)
   else (
   rec1 (x4.1, (IntKind.wrap .i64 (x1.2 + 1))))) ((x1.1 ++ ([r2])), 0)
  else none
  else none)
  else (
  some x1.1)) (([] : List Int), 0)
theorem ev62 (b : List Int) : evF C90 H62 Try.f62 (encs [.one (.slice 25 (.int .u64))] b) (RT.dec (.one (.leaf (.fresh 5 (.int .u8))))) = F62 b := by kernel_rfl
noncomputable def C62 : Ctx := Ctx.add C90 62 [.one (.slice 25 (.int .u64))] (.one (.leaf (.fresh 5 (.int .u8)))) F62
theorem s62 : C62.Sound := Ctx.Sound.add (C := C90) mixed s90 Try.func62 ev62
/-! damson/caveat.Put -/
def H65 : Nat → Head := fun _ => ⟨[], []⟩
noncomputable def F65 (b : (Int × (Int × Int))) : Option (List Int × Int) :=
 (F69 (b.1, (b.2.1, b.2.2))).bind fun r1 =>
 bif (!decide (r1 = 0)) then (
 some (([] : List Int), r1))
 else (
 bif (!decide (b.1 = 4)) then (
 bif inb 2 (([(IntKind.wrap .u64 b.1), b.2.1, b.2.2]).length + 1) then
 (F62 (([(IntKind.wrap .u64 b.1), b.2.1, b.2.2]).take ((2 : Int).toNat))).bind fun r2 =>
 some (r2, 0)
 else none)
 else (
 (F62 ([(IntKind.wrap .u64 b.1), b.2.1, b.2.2])).bind fun r3 =>
 some (r3, 0)))
theorem ev65 (b : (Int × (Int × Int))) : evF C62 H65 Try.f65 (encs [.agg (.pair (.int .i64) (.pair (.int .u64) (.int .u64)))] b) (RT.dec (.tup [.leaf (.fresh 5 (.int .u8)), .leaf (.int .i64)])) = F65 b := by kernel_rfl
noncomputable def C65 : Ctx := Ctx.add C62 65 [.agg (.pair (.int .i64) (.pair (.int .u64) (.int .u64)))] (.tup [.leaf (.fresh 5 (.int .u8)), .leaf (.int .i64)]) F65
theorem s65 : C65.Sound := Ctx.Sound.add (C := C62) mixed s62 Try.func65 ev65
/-! damson/token.texts -/
def H63 : Nat → Head
  | 3 => ⟨[.data 13 (.int .i64), .rowk 36864 26 (.slice 5 (.int .u8))], [4096]⟩
  | _ => ⟨[], []⟩
noncomputable def F63 (b : (Int × (List (Int × (Int × Int)) × Int))) : Option (List (List Int)) :=
 bif (decide (0 ≤ (b.2.1.length : Int)) && decide ((b.2.1.length : Int) = (b.2.1.length : Int)) && decide ((b.2.1.length : Int).toNat * 24 ≤ LIM)) then
 lfp (fun (rec1 : (Int × List (List Int)) → Option (List (List Int))) (x1 : Int × List (List Int)) =>
  bif decide (x1.1 < (b.2.1.length : Int)) then (
  bif inb x1.1 b.2.1.length then
  (F65 ((rd (.pair (.int .i64) (.pair (.int .u64) (.int .u64))) b.2.1 x1.1).1, (((rd (.pair (.int .i64) (.pair (.int .u64) (.int .u64))) b.2.1 x1.1).2).1, ((rd (.pair (.int .i64) (.pair (.int .u64) (.int .u64))) b.2.1 x1.1).2).2))).bind fun r2 =>
  bif inb x1.1 x1.2.length then
  rec1 ((IntKind.wrap .i64 (x1.1 + 1)), (x1.2.set x1.1.toNat r2.1))
  else none
  else none)
  else (
  some x1.2)) (0, (List.replicate ((b.2.1.length : Int).toNat) [] : List (List Int)))
 else none
theorem ev63 (b : (Int × (List (Int × (Int × Int)) × Int))) : evF C65 H63 Try.f63 (encs [.agg (.pair (.int .u64) (.pair (.slice 62 (.pair (.int .i64) (.pair (.int .u64) (.int .u64)))) (.int .i64)))] b) (RT.dec (.one (.leaf (.fresh 26 (.slice 5 (.int .u8)))))) = F63 b := by kernel_rfl
noncomputable def C63 : Ctx := Ctx.add C65 63 [.agg (.pair (.int .u64) (.pair (.slice 62 (.pair (.int .i64) (.pair (.int .u64) (.int .u64)))) (.int .i64)))] (.one (.leaf (.fresh 26 (.slice 5 (.int .u8))))) F63
theorem s63 : C63.Sound := Ctx.Sound.add (C := C65) mixed s65 Try.func63 ev63
/-! damson/token.Verify -/
def H35 : Nat → Head
  | 5000003 => ⟨[], [0, 0, 0, 0, 0, 0, 4, 4, 8, 8, 16, 16, 0, 0, 96, 64, 163, 163, 256, 256, 512, 512, 512, 512, 2047, 1024, 8191, 2048]⟩
  | _ => ⟨[], []⟩
noncomputable def F35 (b : List (Int × (Int × List Int)) × Int × (Int × (List (Int × (Int × Int)) × Int))) : Option (Bool × Int) :=
 (F43 (b.2.2.1, (b.2.2.2.1, b.2.2.2.2))).bind fun r1 =>
 bif ((!decide (r1 = 0)) == false) then (
 (F23 b.1).bind fun r2 =>
 bif (!decide (r2 = 0)) then (
 some (false, 1))
 else (
 (both (
 (both (
 (both (
 (fun o => both o o) (
 (F62 ([b.2.2.1])).bind fun r3 =>
 (F63 (b.2.2.1, (b.2.2.2.1, b.2.2.2.2))).bind fun r4 =>
 (F28 (b.1, b.2.1, r3, r4)).bind fun r5 =>
 some ((bif decide (r5.2 = 0) then decide (r5.1 = b.2.2.2.2) else false), 0))) (
 (F62 ([b.2.2.1])).bind fun r3 =>
 (F63 (b.2.2.1, (b.2.2.2.1, b.2.2.2.2))).bind fun r4 =>
 (F28 (b.1, b.2.1, r3, r4)).bind fun r5 =>
 some ((bif decide (r5.2 = 0) then decide (r5.1 = b.2.2.2.2) else false), 0)))) (
 (F62 ([b.2.2.1])).bind fun r3 =>
 (F63 (b.2.2.1, (b.2.2.2.1, b.2.2.2.2))).bind fun r4 =>
 (F28 (b.1, b.2.1, r3, r4)).bind fun r5 =>
 some ((bif decide (r5.2 = 0) then decide (r5.1 = b.2.2.2.2) else false), 0)))) (both (
 (both (
 (both (
 (fun o => both o o) (
 (F62 ([b.2.2.1])).bind fun r3 =>
 (F63 (b.2.2.1, (b.2.2.2.1, b.2.2.2.2))).bind fun r4 =>
 (F28 (b.1, b.2.1, r3, r4)).bind fun r5 =>
 some ((bif decide (r5.2 = 0) then decide (r5.1 = b.2.2.2.2) else false), 0))) (
 (F62 ([b.2.2.1])).bind fun r3 =>
 (F63 (b.2.2.1, (b.2.2.2.1, b.2.2.2.2))).bind fun r4 =>
 (F28 (b.1, b.2.1, r3, r4)).bind fun r5 =>
 some ((bif decide (r5.2 = 0) then decide (r5.1 = b.2.2.2.2) else false), 0)))) (both (
 (both (
 (fun o => both o o) (
 (F62 ([b.2.2.1])).bind fun r3 =>
 (F63 (b.2.2.1, (b.2.2.2.1, b.2.2.2.2))).bind fun r4 =>
 (F28 (b.1, b.2.1, r3, r4)).bind fun r5 =>
 some ((bif decide (r5.2 = 0) then decide (r5.1 = b.2.2.2.2) else false), 0))) (both (
 (F62 ([b.2.2.1])).bind fun r3 =>
 (both (
 (F63 (b.2.2.1, (b.2.2.2.1, b.2.2.2.2))).bind fun r4 =>
 (F28 (b.1, b.2.1, r3, r4)).bind fun r5 =>
 some ((bif decide (r5.2 = 0) then decide (r5.1 = b.2.2.2.2) else false), 0)) (
 (fun o => both o o) (
 (F63 (b.2.2.1, (b.2.2.2.1, b.2.2.2.2))).bind fun r4 =>
 (F28 (b.1, b.2.1, r3, r4)).bind fun r5 =>
 some ((bif decide (r5.2 = 0) then decide (r5.1 = b.2.2.2.2) else false), 0))))) (
 (both (
 (F62 ([b.2.2.1])).bind fun r3 =>
 (F63 (b.2.2.1, (b.2.2.2.1, b.2.2.2.2))).bind fun r4 =>
 (F28 (b.1, b.2.1, r3, r4)).bind fun r5 =>
 some ((bif decide (r5.2 = 0) then decide (r5.1 = b.2.2.2.2) else false), 0)) (
 (F62 ([b.2.2.1])).bind fun r3 =>
 (fun o => both o o) (
 (F63 (b.2.2.1, (b.2.2.2.1, b.2.2.2.2))).bind fun r4 =>
 (F28 (b.1, b.2.1, r3, r4)).bind fun r5 =>
 some ((bif decide (r5.2 = 0) then decide (r5.1 = b.2.2.2.2) else false), 0)))))))) (
 (both (
 (F62 ([b.2.2.1])).bind fun r3 =>
 (F63 (b.2.2.1, (b.2.2.2.1, b.2.2.2.2))).bind fun r4 =>
 (F28 (b.1, b.2.1, r3, r4)).bind fun r5 =>
 some ((bif decide (r5.2 = 0) then decide (r5.1 = b.2.2.2.2) else false), 0)) (
 (both (
 (F62 ([b.2.2.1])).bind fun r3 =>
 (F63 (b.2.2.1, (b.2.2.2.1, b.2.2.2.2))).bind fun r4 =>
 (F28 (b.1, b.2.1, r3, r4)).bind fun r5 =>
 some ((bif decide (r5.2 = 0) then decide (r5.1 = b.2.2.2.2) else false), 0)) (
 (F62 ([b.2.2.1])).bind fun r3 =>
 (fun o => both o o) (
 (F63 (b.2.2.1, (b.2.2.2.1, b.2.2.2.2))).bind fun r4 =>
 (F28 (b.1, b.2.1, r3, r4)).bind fun r5 =>
 some ((bif decide (r5.2 = 0) then decide (r5.1 = b.2.2.2.2) else false), 0)))))))))) (
 (both (
 (F62 ([b.2.2.1])).bind fun r3 =>
 (F63 (b.2.2.1, (b.2.2.2.1, b.2.2.2.2))).bind fun r4 =>
 (F28 (b.1, b.2.1, r3, r4)).bind fun r5 =>
 some ((bif decide (r5.2 = 0) then decide (r5.1 = b.2.2.2.2) else false), 0)) (
 (both (
 (F62 ([b.2.2.1])).bind fun r3 =>
 (F63 (b.2.2.1, (b.2.2.2.1, b.2.2.2.2))).bind fun r4 =>
 (F28 (b.1, b.2.1, r3, r4)).bind fun r5 =>
 some ((bif decide (r5.2 = 0) then decide (r5.1 = b.2.2.2.2) else false), 0)) (
 (both (
 (F62 ([b.2.2.1])).bind fun r3 =>
 (F63 (b.2.2.1, (b.2.2.2.1, b.2.2.2.2))).bind fun r4 =>
 (F28 (b.1, b.2.1, r3, r4)).bind fun r5 =>
 some ((bif decide (r5.2 = 0) then decide (r5.1 = b.2.2.2.2) else false), 0)) (
 (F62 ([b.2.2.1])).bind fun r3 =>
 (fun o => both o o) (
 (F63 (b.2.2.1, (b.2.2.2.1, b.2.2.2.2))).bind fun r4 =>
 (F28 (b.1, b.2.1, r3, r4)).bind fun r5 =>
 some ((bif decide (r5.2 = 0) then decide (r5.1 = b.2.2.2.2) else false), 0)))))))))))))
 else (
 some (false, 1))
theorem ev35 (b : List (Int × (Int × List Int)) × Int × (Int × (List (Int × (Int × Int)) × Int))) : evF C63 H35 Try.f35 (encs [.agg (.slice 39 (.pair (.int .u64) (.pair (.int .i64) (.slice 5 (.int .u8))))), .one (.int .u64), .agg (.pair (.int .u64) (.pair (.slice 62 (.pair (.int .i64) (.pair (.int .u64) (.int .u64)))) (.int .i64)))] b) (RT.dec (.tup [.leaf (.bool), .leaf (.int .i64)])) = F35 b := by kernel_rfl
noncomputable def C35 : Ctx := Ctx.add C63 35 [.agg (.slice 39 (.pair (.int .u64) (.pair (.int .i64) (.slice 5 (.int .u8))))), .one (.int .u64), .agg (.pair (.int .u64) (.pair (.slice 62 (.pair (.int .i64) (.pair (.int .u64) (.int .u64)))) (.int .i64)))] (.tup [.leaf (.bool), .leaf (.int .i64)]) F35
theorem s35 : C35.Sound := Ctx.Sound.add (C := C63) mixed s63 Try.func35 ev35
/-! damson/token.Mint -/
def H37 : Nat → Head
  | 5000001 => ⟨[], [0, 0, 0, 0, 0, 0, 4, 4, 8, 8, 19, 19, 32, 32, 64, 64, 64, 64, 64, 64, 255, 128, 1535, 256, 4095, 512]⟩
  | _ => ⟨[], []⟩
noncomputable def F37 (b : List (Int × (Int × List Int)) × Int × Int) : Option ((List (Int × (Int × List Int))) × (Int × (List (Int × (Int × Int))) × Int) × Int) :=
 (both (
 (F62 ([b.2.1])).bind fun r1 =>
 (F18 (b.1, b.2.2, r1)).bind fun r2 =>
 bif (!decide (r2.2.2 = 0)) then (
 some (([] : List (Int × (Int × List Int))), (0, ([] : List (Int × (Int × Int))), 0), r2.2.2))
 else (
 some (r2.1, (b.2.1, ([] : List (Int × (Int × Int))), r2.2.1), 0))) (
 (fun o => both o o) (
 (F62 ([b.2.1])).bind fun r1 =>
 (F18 (b.1, b.2.2, r1)).bind fun r2 =>
 bif (!decide (r2.2.2 = 0)) then (
 some (([] : List (Int × (Int × List Int))), (0, ([] : List (Int × (Int × Int))), 0), r2.2.2))
 else (
 some (r2.1, (b.2.1, ([] : List (Int × (Int × Int))), r2.2.1), 0)))))
theorem ev37 (b : List (Int × (Int × List Int)) × Int × Int) : evF C35 H37 Try.f37 (encs [.agg (.slice 39 (.pair (.int .u64) (.pair (.int .i64) (.slice 5 (.int .u8))))), .one (.int .u64), .one (.int .u64)] b) (RT.dec (.tup [.agg [.fresh 39 (.pair (.int .u64) (.pair (.int .i64) (.slice 5 (.int .u8))))], .agg [.int .u64, .fresh 62 (.pair (.int .i64) (.pair (.int .u64) (.int .u64))), .int .i64], .leaf (.int .i64)])) = F37 b := by kernel_rfl
noncomputable def C37 : Ctx := Ctx.add C35 37 [.agg (.slice 39 (.pair (.int .u64) (.pair (.int .i64) (.slice 5 (.int .u8))))), .one (.int .u64), .one (.int .u64)] (.tup [.agg [.fresh 39 (.pair (.int .u64) (.pair (.int .i64) (.slice 5 (.int .u8))))], .agg [.int .u64, .fresh 62 (.pair (.int .i64) (.pair (.int .u64) (.int .u64))), .int .i64], .leaf (.int .i64)]) F37
theorem s37 : C37.Sound := Ctx.Sound.add (C := C35) mixed s35 Try.func37 ev37
/-! damson/damsonlaw07.live -/
def H32 : Nat → Head := fun _ => ⟨[], []⟩
noncomputable def F32 (b : Unit) : Option Bool :=
 (F37 ([], 5, 9)).bind fun r1 =>
 (F35 (r1.1, 9, (r1.2.1.1, (r1.2.1.2.1, r1.2.1.2.2)))).bind fun r2 =>
 (F35 (r1.1, 8, (r1.2.1.1, (r1.2.1.2.1, r1.2.1.2.2)))).bind fun r3 =>
 some (bif (bif (bif (bif decide (r1.2.2 = 0) then decide (r2.2 = 0) else false) then decide (r3.2 = 0) else false) then r2.1 else false) then (!r3.1) else false)
theorem ev32 (b : Unit) : evF C37 H32 Try.f32 (encs [] b) (RT.dec (.one (.leaf (.bool)))) = F32 b := by kernel_rfl
noncomputable def C32 : Ctx := Ctx.add C37 32 [] (.one (.leaf (.bool))) F32
theorem s32 : C32.Sound := Ctx.Sound.add (C := C37) mixed s37 Try.func32 ev32
/-! damson/damsonlaw07.few -/
def H33 : Nat → Head
  | 2 => ⟨[.data 2 .bool, .data 7 (.int .i64)], []⟩
  | _ => ⟨[], []⟩
noncomputable def F33 (b : List (Int × (List (Int × (Int × Int)) × Int))) : Option Bool :=
 lfp (fun (rec1 : (Bool × Int) → Option Bool) (x1 : Bool × Int) =>
  bif decide (x1.2 < (b.length : Int)) then (
  bif inb x1.2 b.length then
  bif decide (20 < ((((rd (.pair (.int .u64) (.pair (.slice 62 (.pair (.int .i64) (.pair (.int .u64) (.int .u64)))) (.int .i64))) b x1.2).2).1).length : Int)) then (
  some false)
  else (
  rec1 (x1.1, (IntKind.wrap .i64 (x1.2 + 1))))
  else none)
  else (
  some true)) (false, 0)
theorem ev33 (b : List (Int × (List (Int × (Int × Int)) × Int))) : evF C32 H33 Try.f33 (encs [.one (.slice 53 (.pair (.int .u64) (.pair (.slice 62 (.pair (.int .i64) (.pair (.int .u64) (.int .u64)))) (.int .i64))))] b) (RT.dec (.one (.leaf (.bool)))) = F33 b := by kernel_rfl
noncomputable def C33 : Ctx := Ctx.add C32 33 [.one (.slice 53 (.pair (.int .u64) (.pair (.slice 62 (.pair (.int .i64) (.pair (.int .u64) (.int .u64)))) (.int .i64))))] (.one (.leaf (.bool))) F33
theorem s33 : C33.Sound := Ctx.Sound.add (C := C32) mixed s32 Try.func33 ev33
/-! slices.Clip[[]damson/api.Caveat,damson/api.Caveat]: carried out where it is called -/
def H66 : Nat → Head := fun _ => ⟨[], []⟩
noncomputable def C66 : Ctx := Ctx.addI C33 66 H66 9000066 Try.f66
theorem s66 : C66.Sound := Ctx.Sound.addI (C := C33) mixed s33 Try.func66
/-! damson/token.Bind -/
def H39 : Nat → Head
  | 5000009 => ⟨[], [0, 0, 1, 1, 2, 2, 0, 0, 8, 8, 20, 20, 0, 0, 63, 0, 191, 160, 511, 0, 1023, 576]⟩
  | 5000010 => ⟨[], [0, 0, 0, 0, 1, 1, 7, 2, 15, 0]⟩
  | _ => ⟨[], []⟩
noncomputable def F39 (b : List (Int × (Int × List Int)) × (Int × (List (Int × (Int × Int)) × Int)) × (Int × (Int × Int))) : Option ((List (Int × (Int × List Int))) × (Int × (List (Int × (Int × Int))) × Int) × Int) :=
 (F65 (b.2.2.1, (b.2.2.2.1, b.2.2.2.2))).bind fun r1 =>
 bif ((!decide (r1.2 = 0)) == false) then (
 (F43 (b.2.1.1, (b.2.1.2.1, b.2.1.2.2))).bind fun r2 =>
 bif ((!decide (r2 = 0)) == false) then (
 (F23 b.1).bind fun r3 =>
 bif (!decide (r3 = 0)) then (
 some (([] : List (Int × (Int × List Int))), (0, ([] : List (Int × (Int × Int))), 0), 1))
 else (
 bif decide ((b.2.1.2.1.length : Int) = 16) then (
 some (([] : List (Int × (Int × List Int))), (0, ([] : List (Int × (Int × Int))), 0), 7))
 else (
 (F20 (b.1, b.2.1.2.2, r1.1)).bind fun r4 =>
 bif (!decide (r4.2.2 = 0)) then (
 some (([] : List (Int × (Int × List Int))), (0, ([] : List (Int × (Int × Int))), 0), r4.2.2))
 else (
 (both (
 (both (
 bif (inb (b.2.1.2.1.length : Int) (b.2.1.2.1.length + 1) && decide ((b.2.1.2.1.length : Int) = (b.2.1.2.1.length : Int))) then
 bif decide (((b.2.1.2.1.take ((b.2.1.2.1.length : Int).toNat)).length + 1) * 24 ≤ LIM) then
 (both (
 (fun o => both o o) (
 some (r4.1, (b.2.1.1, (b.2.1.2.1.take ((b.2.1.2.1.length : Int).toNat)) ++ ([(b.2.2.1, (b.2.2.2.1, b.2.2.2.2))]), r4.2.1), 0))) (
 some (r4.1, (b.2.1.1, (b.2.1.2.1.take ((b.2.1.2.1.length : Int).toNat)) ++ ([(b.2.2.1, (b.2.2.2.1, b.2.2.2.2))]), r4.2.1), 0)))
 else none
 else none) (
 (fun o => both o o) (
 bif (inb (b.2.1.2.1.length : Int) (b.2.1.2.1.length + 1) && decide ((b.2.1.2.1.length : Int) = (b.2.1.2.1.length : Int))) then
 bif decide (((b.2.1.2.1.take ((b.2.1.2.1.length : Int).toNat)).length + 1) * 24 ≤ LIM) then
 (both (
 (fun o => both o o) (
 some (r4.1, (b.2.1.1, (b.2.1.2.1.take ((b.2.1.2.1.length : Int).toNat)) ++ ([(b.2.2.1, (b.2.2.2.1, b.2.2.2.2))]), r4.2.1), 0))) (
 some (r4.1, (b.2.1.1, (b.2.1.2.1.take ((b.2.1.2.1.length : Int).toNat)) ++ ([(b.2.2.1, (b.2.2.2.1, b.2.2.2.2))]), r4.2.1), 0)))
 else none
 else none)))) (
 (both (
 (fun o => both o o) (
 bif (inb (b.2.1.2.1.length : Int) (b.2.1.2.1.length + 1) && decide ((b.2.1.2.1.length : Int) = (b.2.1.2.1.length : Int))) then
 bif decide (((b.2.1.2.1.take ((b.2.1.2.1.length : Int).toNat)).length + 1) * 24 ≤ LIM) then
 (both (
 (fun o => both o o) (
 some (r4.1, (b.2.1.1, (b.2.1.2.1.take ((b.2.1.2.1.length : Int).toNat)) ++ ([(b.2.2.1, (b.2.2.2.1, b.2.2.2.2))]), r4.2.1), 0))) (
 some (r4.1, (b.2.1.1, (b.2.1.2.1.take ((b.2.1.2.1.length : Int).toNat)) ++ ([(b.2.2.1, (b.2.2.2.1, b.2.2.2.2))]), r4.2.1), 0)))
 else none
 else none)) (
 bif (inb (b.2.1.2.1.length : Int) (b.2.1.2.1.length + 1) && decide ((b.2.1.2.1.length : Int) = (b.2.1.2.1.length : Int))) then
 bif decide (((b.2.1.2.1.take ((b.2.1.2.1.length : Int).toNat)).length + 1) * 24 ≤ LIM) then
 (both (
 (fun o => both o o) (
 some (r4.1, (b.2.1.1, (b.2.1.2.1.take ((b.2.1.2.1.length : Int).toNat)) ++ ([(b.2.2.1, (b.2.2.2.1, b.2.2.2.2))]), r4.2.1), 0))) (
 some (r4.1, (b.2.1.1, (b.2.1.2.1.take ((b.2.1.2.1.length : Int).toNat)) ++ ([(b.2.2.1, (b.2.2.2.1, b.2.2.2.2))]), r4.2.1), 0)))
 else none
 else none))))))))
 else (
 some (([] : List (Int × (Int × List Int))), (0, ([] : List (Int × (Int × Int))), 0), 1)))
 else (
 some (([] : List (Int × (Int × List Int))), (0, ([] : List (Int × (Int × Int))), 0), 1))
theorem ev39 (b : List (Int × (Int × List Int)) × (Int × (List (Int × (Int × Int)) × Int)) × (Int × (Int × Int))) : evF C66 H39 Try.f39 (encs [.agg (.slice 39 (.pair (.int .u64) (.pair (.int .i64) (.slice 5 (.int .u8))))), .agg (.pair (.int .u64) (.pair (.slice 62 (.pair (.int .i64) (.pair (.int .u64) (.int .u64)))) (.int .i64))), .agg (.pair (.int .i64) (.pair (.int .u64) (.int .u64)))] b) (RT.dec (.tup [.agg [.fresh 39 (.pair (.int .u64) (.pair (.int .i64) (.slice 5 (.int .u8))))], .agg [.int .u64, .fresh 62 (.pair (.int .i64) (.pair (.int .u64) (.int .u64))), .int .i64], .leaf (.int .i64)])) = F39 b := by kernel_rfl
noncomputable def C39 : Ctx := Ctx.add C66 39 [.agg (.slice 39 (.pair (.int .u64) (.pair (.int .i64) (.slice 5 (.int .u8))))), .agg (.pair (.int .u64) (.pair (.slice 62 (.pair (.int .i64) (.pair (.int .u64) (.int .u64)))) (.int .i64))), .agg (.pair (.int .i64) (.pair (.int .u64) (.int .u64)))] (.tup [.agg [.fresh 39 (.pair (.int .u64) (.pair (.int .i64) (.slice 5 (.int .u8))))], .agg [.int .u64, .fresh 62 (.pair (.int .i64) (.pair (.int .u64) (.int .u64))), .int .i64], .leaf (.int .i64)]) F39
theorem s39 : C39.Sound := Ctx.Sound.add (C := C66) mixed s66 Try.func39 ev39
/-! damson/damsonref07.SameCaveats -/
def H36 : Nat → Head
  | 4 => ⟨[.data 4 .bool, .data 13 (.int .i64)], []⟩
  | 5000006 => ⟨[], [0, 0, 0, 0, 3, 3, 4, 4, 0, 0, 0, 0, 48, 48, 64, 64, 136, 136]⟩
  | _ => ⟨[], []⟩
noncomputable def F36 (b : List (Int × (Int × Int)) × List (Int × (Int × Int))) : Option Bool :=
 bif (!decide ((b.1.length : Int) = (b.2.length : Int))) then (
 some false)
 else (
 lfp (fun (rec1 : (Bool × Int) → Option Bool) (x1 : Bool × Int) =>
  bif decide (x1.2 < (b.1.length : Int)) then (
  bif inb x1.2 b.1.length then
  bif inb x1.2 b.2.length then
  bif (!(decide ((rd (.pair (.int .i64) (.pair (.int .u64) (.int .u64))) b.1 x1.2).1 = (rd (.pair (.int .i64) (.pair (.int .u64) (.int .u64))) b.2 x1.2).1) && (decide (((rd (.pair (.int .i64) (.pair (.int .u64) (.int .u64))) b.1 x1.2).2).1 = ((rd (.pair (.int .i64) (.pair (.int .u64) (.int .u64))) b.2 x1.2).2).1) && decide (((rd (.pair (.int .i64) (.pair (.int .u64) (.int .u64))) b.1 x1.2).2).2 = ((rd (.pair (.int .i64) (.pair (.int .u64) (.int .u64))) b.2 x1.2).2).2)))) then (
  some false)
  else (
  rec1 (x1.1, (IntKind.wrap .i64 (x1.2 + 1))))
  else none
  else none)
  else (
  some true)) (false, 0))
theorem ev36 (b : List (Int × (Int × Int)) × List (Int × (Int × Int))) : evF C39 H36 Try.f36 (encs [.one (.slice 62 (.pair (.int .i64) (.pair (.int .u64) (.int .u64)))), .one (.slice 62 (.pair (.int .i64) (.pair (.int .u64) (.int .u64))))] b) (RT.dec (.one (.leaf (.bool)))) = F36 b := by kernel_rfl
noncomputable def C36 : Ctx := Ctx.add C39 36 [.one (.slice 62 (.pair (.int .i64) (.pair (.int .u64) (.int .u64)))), .one (.slice 62 (.pair (.int .i64) (.pair (.int .u64) (.int .u64))))] (.one (.leaf (.bool))) F36
theorem s36 : C36.Sound := Ctx.Sound.add (C := C39) mixed s39 Try.func36 ev36
/-! damson/damsonref01.high -/
def H103 : Nat → Head := fun _ => ⟨[], []⟩
noncomputable def B103 (recF : (Int × Int) → Option (List Int)) (b : Int × Int) : Option (List Int) :=
 bif decide (b.2 = 0) then (
 some ([] : List Int))
 else (
 (recF ((IntKind.wrap .u64 (Int.tdiv b.1 256)), (IntKind.wrap .i64 (b.2 - 1)))).bind fun r1 =>
 bif decide ((r1.length + 1) * 1 ≤ LIM) then
 some (r1 ++ ([(IntKind.wrap .u8 (Int.tmod b.1 256))]))
 else none)
noncomputable def F103 : (Int × Int) → Option (List Int) := lfp B103
theorem ev103 (F : (Int × Int) → Option (List Int)) (b : Int × Int) : evF (Ctx.add C36 103 [.one (.int .u64), .one (.int .i64)] (.one (.leaf (.fresh 5 (.int .u8)))) F) H103 Try.f103 (encs [.one (.int .u64), .one (.int .i64)] b) (RT.dec (.one (.leaf (.fresh 5 (.int .u8))))) = B103 F b := by kernel_rfl
noncomputable def C103 : Ctx := Ctx.add C36 103 [.one (.int .u64), .one (.int .i64)] (.one (.leaf (.fresh 5 (.int .u8)))) F103
theorem s103 : C103.Sound := Ctx.Sound.fix (C := C36) mixed s36 Try.func103 ev103
/-! damson/damsonref01.one -/
def H91 : Nat → Head := fun _ => ⟨[], []⟩
noncomputable def F91 (b : Int) : Option (List Int) :=
 bif decide (b < 253) then (
 some ([(IntKind.wrap .u8 b)]))
 else (
 bif decide (b < 65536) then (
 (F103 (b, 2)).bind fun r1 =>
 bif decide ((([253]).length + r1.length) * 1 ≤ LIM) then
 some (([253]) ++ r1)
 else none)
 else (
 bif decide (b < 4294967296) then (
 (F103 (b, 4)).bind fun r2 =>
 bif decide ((([254]).length + r2.length) * 1 ≤ LIM) then
 some (([254]) ++ r2)
 else none)
 else (
 (F103 (b, 8)).bind fun r3 =>
 bif decide ((([255]).length + r3.length) * 1 ≤ LIM) then
 some (([255]) ++ r3)
 else none)))
theorem ev91 (b : Int) : evF C103 H91 Try.f91 (encs [.one (.int .u64)] b) (RT.dec (.one (.leaf (.fresh 5 (.int .u8))))) = F91 b := by kernel_rfl
noncomputable def C91 : Ctx := Ctx.add C103 91 [.one (.int .u64)] (.one (.leaf (.fresh 5 (.int .u8)))) F91
theorem s91 : C91.Sound := Ctx.Sound.add (C := C103) mixed s103 Try.func91 ev91
/-! damson/damsonref01.Put -/
def H64 : Nat → Head
  | 3 => ⟨[.row 3 14339 5 (.int .u8), .data 8 (.int .i64)], []⟩
  | _ => ⟨[], []⟩
noncomputable def F64 (b : List Int) : Option (List Int) :=
 lfp (fun (rec1 : (List Int × Int) → Option (List Int)) (x1 : List Int × Int) =>
  bif decide (x1.2 < (b.length : Int)) then (
  bif inb x1.2 b.length then
  (F91 (rd (.int .u64) b x1.2)).bind fun r2 =>
  bif decide ((x1.1.length + r2.length) * 1 ≤ LIM) then
  rec1 ((x1.1 ++ r2), (IntKind.wrap .i64 (x1.2 + 1)))
  else none
  else none)
  else (
  some x1.1)) (([] : List Int), 0)
theorem ev64 (b : List Int) : evF C91 H64 Try.f64 (encs [.one (.slice 25 (.int .u64))] b) (RT.dec (.one (.leaf (.fresh 5 (.int .u8))))) = F64 b := by kernel_rfl
noncomputable def C64 : Ctx := Ctx.add C91 64 [.one (.slice 25 (.int .u64))] (.one (.leaf (.fresh 5 (.int .u8)))) F64
theorem s64 : C64.Sound := Ctx.Sound.add (C := C91) mixed s91 Try.func64 ev64
/-! damson/damsonref07.Mint -/
def H38 : Nat → Head
  | 5000001 => ⟨[], [0, 0, 0, 0, 0, 0, 4, 4, 8, 8, 19, 19, 32, 32, 64, 64, 64, 64, 64, 64, 0, 0, 1279, 1152, 3583, 256, 8191, 512]⟩
  | _ => ⟨[], []⟩
noncomputable def F38 (b : List (Int × (Int × List Int)) × Int × Int) : Option ((List (Int × (Int × List Int))) × (Int × (List (Int × (Int × Int))) × Int) × Int) :=
 (both (
 (both (
 (both (
 (F64 ([b.2.1])).bind fun r1 =>
 (fun o => both o o) (
 (F19 (b.1, b.2.2, r1)).bind fun r2 =>
 bif (!decide (r2.2.2 = 0)) then (
 some (([] : List (Int × (Int × List Int))), (0, ([] : List (Int × (Int × Int))), 0), r2.2.2))
 else (
 some (r2.1, (b.2.1, ([] : List (Int × (Int × Int))), r2.2.1), 0)))) (
 (F64 ([b.2.1])).bind fun r1 =>
 (F19 (b.1, b.2.2, r1)).bind fun r2 =>
 bif (!decide (r2.2.2 = 0)) then (
 some (([] : List (Int × (Int × List Int))), (0, ([] : List (Int × (Int × Int))), 0), r2.2.2))
 else (
 some (r2.1, (b.2.1, ([] : List (Int × (Int × Int))), r2.2.1), 0))))) (
 (F64 ([b.2.1])).bind fun r1 =>
 (F19 (b.1, b.2.2, r1)).bind fun r2 =>
 bif (!decide (r2.2.2 = 0)) then (
 some (([] : List (Int × (Int × List Int))), (0, ([] : List (Int × (Int × Int))), 0), r2.2.2))
 else (
 some (r2.1, (b.2.1, ([] : List (Int × (Int × Int))), r2.2.1), 0))))) (both (
 (both (
 (both (
 (F64 ([b.2.1])).bind fun r1 =>
 (fun o => both o o) (
 (F19 (b.1, b.2.2, r1)).bind fun r2 =>
 bif (!decide (r2.2.2 = 0)) then (
 some (([] : List (Int × (Int × List Int))), (0, ([] : List (Int × (Int × Int))), 0), r2.2.2))
 else (
 some (r2.1, (b.2.1, ([] : List (Int × (Int × Int))), r2.2.1), 0)))) (
 (F64 ([b.2.1])).bind fun r1 =>
 (F19 (b.1, b.2.2, r1)).bind fun r2 =>
 bif (!decide (r2.2.2 = 0)) then (
 some (([] : List (Int × (Int × List Int))), (0, ([] : List (Int × (Int × Int))), 0), r2.2.2))
 else (
 some (r2.1, (b.2.1, ([] : List (Int × (Int × Int))), r2.2.1), 0))))) (both (
 (F64 ([b.2.1])).bind fun r1 =>
 (both (
 (fun o => both o o) (
 (F19 (b.1, b.2.2, r1)).bind fun r2 =>
 bif (!decide (r2.2.2 = 0)) then (
 some (([] : List (Int × (Int × List Int))), (0, ([] : List (Int × (Int × Int))), 0), r2.2.2))
 else (
 some (r2.1, (b.2.1, ([] : List (Int × (Int × Int))), r2.2.1), 0)))) (
 (F19 (b.1, b.2.2, r1)).bind fun r2 =>
 bif (!decide (r2.2.2 = 0)) then (
 some (([] : List (Int × (Int × List Int))), (0, ([] : List (Int × (Int × Int))), 0), r2.2.2))
 else (
 some (r2.1, (b.2.1, ([] : List (Int × (Int × Int))), r2.2.1), 0))))) (
 (fun o => both o o) (
 (F64 ([b.2.1])).bind fun r1 =>
 (F19 (b.1, b.2.2, r1)).bind fun r2 =>
 bif (!decide (r2.2.2 = 0)) then (
 some (([] : List (Int × (Int × List Int))), (0, ([] : List (Int × (Int × Int))), 0), r2.2.2))
 else (
 some (r2.1, (b.2.1, ([] : List (Int × (Int × Int))), r2.2.1), 0))))))) (
 (both (
 (F64 ([b.2.1])).bind fun r1 =>
 (F19 (b.1, b.2.2, r1)).bind fun r2 =>
 bif (!decide (r2.2.2 = 0)) then (
 some (([] : List (Int × (Int × List Int))), (0, ([] : List (Int × (Int × Int))), 0), r2.2.2))
 else (
 some (r2.1, (b.2.1, ([] : List (Int × (Int × Int))), r2.2.1), 0))) (
 (fun o => both o o) (
 (F64 ([b.2.1])).bind fun r1 =>
 (F19 (b.1, b.2.2, r1)).bind fun r2 =>
 bif (!decide (r2.2.2 = 0)) then (
 some (([] : List (Int × (Int × List Int))), (0, ([] : List (Int × (Int × Int))), 0), r2.2.2))
 else (
 some (r2.1, (b.2.1, ([] : List (Int × (Int × Int))), r2.2.1), 0))))))))
theorem ev38 (b : List (Int × (Int × List Int)) × Int × Int) : evF C64 H38 Try.f38 (encs [.agg (.slice 39 (.pair (.int .u64) (.pair (.int .i64) (.slice 5 (.int .u8))))), .one (.int .u64), .one (.int .u64)] b) (RT.dec (.tup [.agg [.fresh 39 (.pair (.int .u64) (.pair (.int .i64) (.slice 5 (.int .u8))))], .agg [.int .u64, .fresh 62 (.pair (.int .i64) (.pair (.int .u64) (.int .u64))), .int .i64], .leaf (.int .i64)])) = F38 b := by kernel_rfl
noncomputable def C38 : Ctx := Ctx.add C64 38 [.agg (.slice 39 (.pair (.int .u64) (.pair (.int .i64) (.slice 5 (.int .u8))))), .one (.int .u64), .one (.int .u64)] (.tup [.agg [.fresh 39 (.pair (.int .u64) (.pair (.int .i64) (.slice 5 (.int .u8))))], .agg [.int .u64, .fresh 62 (.pair (.int .i64) (.pair (.int .u64) (.int .u64))), .int .i64], .leaf (.int .i64)]) F38
theorem s38 : C38.Sound := Ctx.Sound.add (C := C64) mixed s64 Try.func38 ev38
/-! damson/damsonref06.Check -/
def H92 : Nat → Head := fun _ => ⟨[], []⟩
noncomputable def F92 (b : (Int × (Int × Int))) : Option Int :=
 bif ((bif decide (b.1 < 1) then true else decide (5 < b.1)) == false) then (
 bif ((bif decide (b.1 = 2) then decide (65535 < b.2.1) else false) == false) then (
 bif ((bif (bif decide (b.1 = 3) then true else decide (b.1 = 4)) then decide (4611686018427387904 < b.2.1) else false) == false) then (
 bif (bif (!decide (b.1 = 4)) then (!decide (b.2.2 = 0)) else false) then (
 some 1)
 else (
 some 0))
 else (
 some 1))
 else (
 some 1))
 else (
 some 1)
theorem ev92 (b : (Int × (Int × Int))) : evF C38 H92 Try.f92 (encs [.agg (.pair (.int .i64) (.pair (.int .u64) (.int .u64)))] b) (RT.dec (.one (.leaf (.int .i64)))) = F92 b := by kernel_rfl
noncomputable def C92 : Ctx := Ctx.add C38 92 [.agg (.pair (.int .i64) (.pair (.int .u64) (.int .u64)))] (.one (.leaf (.int .i64))) F92
theorem s92 : C92.Sound := Ctx.Sound.add (C := C38) mixed s38 Try.func92 ev92
/-! damson/damsonref06.Few -/
def H71 : Nat → Head
  | 2 => ⟨[.data 2 .bool, .data 7 (.int .i64)], []⟩
  | _ => ⟨[], []⟩
noncomputable def F71 (b : List (Int × (Int × Int))) : Option Bool :=
 lfp (fun (rec1 : (Bool × Int) → Option Bool) (x1 : Bool × Int) =>
  bif decide (x1.2 < (b.length : Int)) then (
  bif inb x1.2 b.length then
  (F92 ((rd (.pair (.int .i64) (.pair (.int .u64) (.int .u64))) b x1.2).1, (((rd (.pair (.int .i64) (.pair (.int .u64) (.int .u64))) b x1.2).2).1, ((rd (.pair (.int .i64) (.pair (.int .u64) (.int .u64))) b x1.2).2).2))).bind fun r2 =>
  bif (!decide (r2 = 0)) then (
  some false)
  else (
  rec1 (x1.1, (IntKind.wrap .i64 (x1.2 + 1))))
  else none)
  else (
  some (decide ((b.length : Int) ≤ 16)))) (false, 0)
theorem ev71 (b : List (Int × (Int × Int))) : evF C92 H71 Try.f71 (encs [.one (.slice 62 (.pair (.int .i64) (.pair (.int .u64) (.int .u64))))] b) (RT.dec (.one (.leaf (.bool)))) = F71 b := by kernel_rfl
noncomputable def C71 : Ctx := Ctx.add C92 71 [.one (.slice 62 (.pair (.int .i64) (.pair (.int .u64) (.int .u64))))] (.one (.leaf (.bool))) F71
theorem s71 : C71.Sound := Ctx.Sound.add (C := C92) mixed s92 Try.func71 ev71
/-! damson/damsonref07.Check -/
def H44 : Nat → Head := fun _ => ⟨[], []⟩
noncomputable def F44 (b : (Int × (List (Int × (Int × Int)) × Int))) : Option Int :=
 (F71 b.2.1).bind fun r1 =>
 bif (bif (bif (!r1) then true else decide (b.2.2 < 0)) then true else decide (1048576 < b.2.2)) then (
 some 1)
 else (
 some 0)
theorem ev44 (b : (Int × (List (Int × (Int × Int)) × Int))) : evF C71 H44 Try.f44 (encs [.agg (.pair (.int .u64) (.pair (.slice 62 (.pair (.int .i64) (.pair (.int .u64) (.int .u64)))) (.int .i64)))] b) (RT.dec (.one (.leaf (.int .i64)))) = F44 b := by kernel_rfl
noncomputable def C44 : Ctx := Ctx.add C71 44 [.agg (.pair (.int .u64) (.pair (.slice 62 (.pair (.int .i64) (.pair (.int .u64) (.int .u64)))) (.int .i64)))] (.one (.leaf (.int .i64))) F44
theorem s44 : C44.Sound := Ctx.Sound.add (C := C71) mixed s71 Try.func44 ev44
/-! damson/damsonref06.Put -/
def H67 : Nat → Head := fun _ => ⟨[], []⟩
noncomputable def F67 (b : (Int × (Int × Int))) : Option (List Int × Int) :=
 (F92 (b.1, (b.2.1, b.2.2))).bind fun r1 =>
 bif (!decide (r1 = 0)) then (
 some (([] : List Int), 1))
 else (
 bif decide (b.1 = 4) then (
 (F64 ([4, b.2.1, b.2.2])).bind fun r2 =>
 some (r2, 0))
 else (
 (F64 ([(IntKind.wrap .u64 b.1), b.2.1])).bind fun r3 =>
 some (r3, 0)))
theorem ev67 (b : (Int × (Int × Int))) : evF C44 H67 Try.f67 (encs [.agg (.pair (.int .i64) (.pair (.int .u64) (.int .u64)))] b) (RT.dec (.tup [.leaf (.fresh 5 (.int .u8)), .leaf (.int .i64)])) = F67 b := by kernel_rfl
noncomputable def C67 : Ctx := Ctx.add C44 67 [.agg (.pair (.int .i64) (.pair (.int .u64) (.int .u64)))] (.tup [.leaf (.fresh 5 (.int .u8)), .leaf (.int .i64)]) F67
theorem s67 : C67.Sound := Ctx.Sound.add (C := C44) mixed s44 Try.func67 ev67
/-! damson/damsonref07.Bind -/
def H40 : Nat → Head
  | 1000000 => ⟨[], [3, 4, 5]⟩
  | 1000006 => ⟨[], [11]⟩
  | 5000009 => ⟨[], [0, 0, 0, 0, 2, 2, 0, 0, 8, 8, 16, 16, 0, 0, 64, 64, 160, 160, 0, 0, 772, 772, 257, 1, 4095, 1024, 8191, 0]⟩
  | _ => ⟨[], []⟩
noncomputable def F40 (b : List (Int × (Int × List Int)) × (Int × (List (Int × (Int × Int)) × Int)) × (Int × (Int × Int))) : Option ((List (Int × (Int × List Int))) × (Int × (List (Int × (Int × Int))) × Int) × Int) :=
 (F67 (b.2.2.1, (b.2.2.2.1, b.2.2.2.2))).bind fun r1 =>
 bif ((!decide (r1.2 = 0)) == false) then (
 (F44 (b.2.1.1, (b.2.1.2.1, b.2.1.2.2))).bind fun r2 =>
 bif ((!decide (r2 = 0)) == false) then (
 (F24 b.1).bind fun r3 =>
 bif (!decide (r3 = 0)) then (
 some (([] : List (Int × (Int × List Int))), (0, ([] : List (Int × (Int × Int))), 0), 1))
 else (
 bif decide ((b.2.1.2.1.length : Int) = 16) then (
 some (([] : List (Int × (Int × List Int))), (0, ([] : List (Int × (Int × Int))), 0), 7))
 else (
 (F21 (b.1, b.2.1.2.2, r1.1)).bind fun r4 =>
 bif (!decide (r4.2.2 = 0)) then (
 some (([] : List (Int × (Int × List Int))), (0, ([] : List (Int × (Int × Int))), 0), r4.2.2))
 else (
 (fun o => both o o) (
 bif (!b.2.1.2.1.isEmpty || true) then
 bif decide ((([] : List (Int × (Int × Int))).length + b.2.1.2.1.length) * 24 ≤ LIM) then
 bif decide (((([] : List (Int × (Int × Int))) ++ b.2.1.2.1).length + 1) * 24 ≤ LIM) then
 (fun o => both o o) (
 some (r4.1, (b.2.1.1, (([] : List (Int × (Int × Int))) ++ b.2.1.2.1) ++ ([(b.2.2.1, (b.2.2.2.1, b.2.2.2.2))]), r4.2.1), 0))
 else none
 else none
 else none)))))
 else (
 some (([] : List (Int × (Int × List Int))), (0, ([] : List (Int × (Int × Int))), 0), 1)))
 else (
 some (([] : List (Int × (Int × List Int))), (0, ([] : List (Int × (Int × Int))), 0), 1))
theorem ev40 (b : List (Int × (Int × List Int)) × (Int × (List (Int × (Int × Int)) × Int)) × (Int × (Int × Int))) : evF C67 H40 Try.f40 (encs [.agg (.slice 39 (.pair (.int .u64) (.pair (.int .i64) (.slice 5 (.int .u8))))), .agg (.pair (.int .u64) (.pair (.slice 62 (.pair (.int .i64) (.pair (.int .u64) (.int .u64)))) (.int .i64))), .agg (.pair (.int .i64) (.pair (.int .u64) (.int .u64)))] b) (RT.dec (.tup [.agg [.fresh 39 (.pair (.int .u64) (.pair (.int .i64) (.slice 5 (.int .u8))))], .agg [.int .u64, .fresh 62 (.pair (.int .i64) (.pair (.int .u64) (.int .u64))), .int .i64], .leaf (.int .i64)])) = F40 b := by kernel_rfl
noncomputable def C40 : Ctx := Ctx.add C67 40 [.agg (.slice 39 (.pair (.int .u64) (.pair (.int .i64) (.slice 5 (.int .u8))))), .agg (.pair (.int .u64) (.pair (.slice 62 (.pair (.int .i64) (.pair (.int .u64) (.int .u64)))) (.int .i64))), .agg (.pair (.int .i64) (.pair (.int .u64) (.int .u64)))] (.tup [.agg [.fresh 39 (.pair (.int .u64) (.pair (.int .i64) (.slice 5 (.int .u8))))], .agg [.int .u64, .fresh 62 (.pair (.int .i64) (.pair (.int .u64) (.int .u64))), .int .i64], .leaf (.int .i64)]) F40
theorem s40 : C40.Sound := Ctx.Sound.add (C := C67) mixed s67 Try.func40 ev40
/-! damson/damsonref07.Verify -/
def H41 : Nat → Head
  | 5 => ⟨[.row 8 34821 26 (.slice 5 (.int .u8)), .data 26 (.int .i64)], [20480, 12288]⟩
  | 5000010 => ⟨[], [0, 0, 0, 0, 0, 0, 4, 4, 8, 8, 16, 16, 0, 0, 99, 99, 128, 128, 256, 256, 256, 256, 1023, 512, 4095, 1024]⟩
  | _ => ⟨[], []⟩
noncomputable def F41 (b : List (Int × (Int × List Int)) × Int × (Int × (List (Int × (Int × Int)) × Int))) : Option (Bool × Int) :=
 (F44 (b.2.2.1, (b.2.2.2.1, b.2.2.2.2))).bind fun r1 =>
 bif ((!decide (r1 = 0)) == false) then (
 (F24 b.1).bind fun r2 =>
 bif (!decide (r2 = 0)) then (
 some (false, 1))
 else (
 lfp (fun (rec3 : (List (List Int) × Int) → Option (Bool × Int)) (x3 : List (List Int) × Int) =>
  bif decide (x3.2 < (b.2.2.2.1.length : Int)) then (
  bif inb x3.2 b.2.2.2.1.length then
  (F67 ((rd (.pair (.int .i64) (.pair (.int .u64) (.int .u64))) b.2.2.2.1 x3.2).1, (((rd (.pair (.int .i64) (.pair (.int .u64) (.int .u64))) b.2.2.2.1 x3.2).2).1, ((rd (.pair (.int .i64) (.pair (.int .u64) (.int .u64))) b.2.2.2.1 x3.2).2).2))).bind fun r4 =>
  bif decide ((x3.1.length + 1) * 24 ≤ LIM) then
  rec3 ((x3.1 ++ ([r4.1])), (IntKind.wrap .i64 (x3.2 + 1)))
  else none
  else none)
  else (
  (both (
  (F64 ([b.2.2.1])).bind fun r5 =>
  (F29 (b.1, b.2.1, r5, x3.1)).bind fun r6 =>
  some ((bif decide (r6.2 = 0) then decide (r6.1 = b.2.2.2.2) else false), 0)) (
  (both (
  (F64 ([b.2.2.1])).bind fun r5 =>
  (F29 (b.1, b.2.1, r5, x3.1)).bind fun r6 =>
  some ((bif decide (r6.2 = 0) then decide (r6.1 = b.2.2.2.2) else false), 0)) (
  (fun o => both o o) (
  (F64 ([b.2.2.1])).bind fun r5 =>
  (F29 (b.1, b.2.1, r5, x3.1)).bind fun r6 =>
  some ((bif decide (r6.2 = 0) then decide (r6.1 = b.2.2.2.2) else false), 0)))))))) (([] : List (List Int)), 0)))
 else (
 some (false, 1))
theorem ev41 (b : List (Int × (Int × List Int)) × Int × (Int × (List (Int × (Int × Int)) × Int))) : evF C40 H41 Try.f41 (encs [.agg (.slice 39 (.pair (.int .u64) (.pair (.int .i64) (.slice 5 (.int .u8))))), .one (.int .u64), .agg (.pair (.int .u64) (.pair (.slice 62 (.pair (.int .i64) (.pair (.int .u64) (.int .u64)))) (.int .i64)))] b) (RT.dec (.tup [.leaf (.bool), .leaf (.int .i64)])) = F41 b := by kernel_rfl
noncomputable def C41 : Ctx := Ctx.add C40 41 [.agg (.slice 39 (.pair (.int .u64) (.pair (.int .i64) (.slice 5 (.int .u8))))), .one (.int .u64), .agg (.pair (.int .u64) (.pair (.slice 62 (.pair (.int .i64) (.pair (.int .u64) (.int .u64)))) (.int .i64)))] (.tup [.leaf (.bool), .leaf (.int .i64)]) F41
theorem s41 : C41.Sound := Ctx.Sound.add (C := C40) mixed s40 Try.func41 ev41
/-! damson/damsonref07.Same -/
def H42 : Nat → Head := fun _ => ⟨[], []⟩
noncomputable def F42 (b : (Int × (List (Int × (Int × Int)) × Int)) × (Int × (List (Int × (Int × Int)) × Int))) : Option Bool :=
 bif ((bif decide (b.1.1 = b.2.1) then decide (b.1.2.2 = b.2.2.2) else false) == true) then (
 (F36 (b.1.2.1, b.2.2.1)).bind fun r1 =>
 some r1)
 else (
 some false)
theorem ev42 (b : (Int × (List (Int × (Int × Int)) × Int)) × (Int × (List (Int × (Int × Int)) × Int))) : evF C41 H42 Try.f42 (encs [.agg (.pair (.int .u64) (.pair (.slice 62 (.pair (.int .i64) (.pair (.int .u64) (.int .u64)))) (.int .i64))), .agg (.pair (.int .u64) (.pair (.slice 62 (.pair (.int .i64) (.pair (.int .u64) (.int .u64)))) (.int .i64)))] b) (RT.dec (.one (.leaf (.bool)))) = F42 b := by kernel_rfl
noncomputable def C42 : Ctx := Ctx.add C41 42 [.agg (.pair (.int .u64) (.pair (.slice 62 (.pair (.int .i64) (.pair (.int .u64) (.int .u64)))) (.int .i64))), .agg (.pair (.int .u64) (.pair (.slice 62 (.pair (.int .i64) (.pair (.int .u64) (.int .u64)))) (.int .i64)))] (.one (.leaf (.bool))) F42
theorem s42 : C42.Sound := Ctx.Sound.add (C := C41) mixed s41 Try.func42 ev42
/-! slices.Equal[[]damson/api.Caveat,damson/api.Caveat] -/
def H72 : Nat → Head
  | 4 => ⟨[.data 4 .bool, .data 13 (.int .i64)], []⟩
  | 5000006 => ⟨[], [0, 0, 0, 0, 3, 3, 4, 4, 0, 0, 0, 0, 48, 48, 64, 64, 136, 136]⟩
  | _ => ⟨[], []⟩
noncomputable def F72 (b : List (Int × (Int × Int)) × List (Int × (Int × Int))) : Option Bool :=
 bif (!decide ((b.1.length : Int) = (b.2.length : Int))) then (
 some false)
 else (
 lfp (fun (rec1 : (Bool × Int) → Option Bool) (x1 : Bool × Int) =>
  bif decide (x1.2 < (b.1.length : Int)) then (
  bif inb x1.2 b.1.length then
  bif inb x1.2 b.2.length then
  bif (!(decide ((rd (.pair (.int .i64) (.pair (.int .u64) (.int .u64))) b.1 x1.2).1 = (rd (.pair (.int .i64) (.pair (.int .u64) (.int .u64))) b.2 x1.2).1) && (decide (((rd (.pair (.int .i64) (.pair (.int .u64) (.int .u64))) b.1 x1.2).2).1 = ((rd (.pair (.int .i64) (.pair (.int .u64) (.int .u64))) b.2 x1.2).2).1) && decide (((rd (.pair (.int .i64) (.pair (.int .u64) (.int .u64))) b.1 x1.2).2).2 = ((rd (.pair (.int .i64) (.pair (.int .u64) (.int .u64))) b.2 x1.2).2).2)))) then (
  some false)
  else (
  rec1 (x1.1, (IntKind.wrap .i64 (x1.2 + 1))))
  else none
  else none)
  else (
  some true)) (false, 0))
theorem ev72 (b : List (Int × (Int × Int)) × List (Int × (Int × Int))) : evF C42 H72 Try.f72 (encs [.one (.slice 62 (.pair (.int .i64) (.pair (.int .u64) (.int .u64)))), .one (.slice 62 (.pair (.int .i64) (.pair (.int .u64) (.int .u64))))] b) (RT.dec (.one (.leaf (.bool)))) = F72 b := by kernel_rfl
noncomputable def C72 : Ctx := Ctx.add C42 72 [.one (.slice 62 (.pair (.int .i64) (.pair (.int .u64) (.int .u64)))), .one (.slice 62 (.pair (.int .i64) (.pair (.int .u64) (.int .u64))))] (.one (.leaf (.bool))) F72
theorem s72 : C72.Sound := Ctx.Sound.add (C := C42) mixed s42 Try.func72 ev72
/-! damson/token.Same -/
def H45 : Nat → Head := fun _ => ⟨[], []⟩
noncomputable def F45 (b : (Int × (List (Int × (Int × Int)) × Int)) × (Int × (List (Int × (Int × Int)) × Int))) : Option Bool :=
 bif ((bif decide (b.1.1 = b.2.1) then decide (b.1.2.2 = b.2.2.2) else false) == true) then (
 (F72 (b.1.2.1, b.2.2.1)).bind fun r1 =>
 some r1)
 else (
 some false)
theorem ev45 (b : (Int × (List (Int × (Int × Int)) × Int)) × (Int × (List (Int × (Int × Int)) × Int))) : evF C72 H45 Try.f45 (encs [.agg (.pair (.int .u64) (.pair (.slice 62 (.pair (.int .i64) (.pair (.int .u64) (.int .u64)))) (.int .i64))), .agg (.pair (.int .u64) (.pair (.slice 62 (.pair (.int .i64) (.pair (.int .u64) (.int .u64)))) (.int .i64)))] b) (RT.dec (.one (.leaf (.bool)))) = F45 b := by kernel_rfl
noncomputable def C45 : Ctx := Ctx.add C72 45 [.agg (.pair (.int .u64) (.pair (.slice 62 (.pair (.int .i64) (.pair (.int .u64) (.int .u64)))) (.int .i64))), .agg (.pair (.int .u64) (.pair (.slice 62 (.pair (.int .i64) (.pair (.int .u64) (.int .u64)))) (.int .i64)))] (.one (.leaf (.bool))) F45
theorem s45 : C45.Sound := Ctx.Sound.add (C := C72) mixed s72 Try.func45 ev45
/-! damson/damsonlaw07.TokenDoes -/
def H9 : Nat → Head
  | 15 => ⟨[.data 153 (.int .i64), .rowk 286785 62 (.pair (.int .i64) (.pair (.int .u64) (.int .u64)))], [319553, 319488, 286720, 254017, 253952, 221249, 221184, 200704, 188416, 167936]⟩
  | 1000000 => ⟨[], [6, 7, 8, 11]⟩
  | 1000005 => ⟨[], [13]⟩
  | 1000007 => ⟨[], [15, 16]⟩
  | 1000008 => ⟨[], [18, 19]⟩
  | 1000009 => ⟨[], [21, 22]⟩
  | 1000010 => ⟨[], [24, 25]⟩
  | 5000013 => ⟨[], [0, 0, 0, 0, 3, 3, 4, 4, 8, 8, 8, 8, 56, 56, 72, 72, 192, 128, 256, 256, 256, 256, 1792, 1792, 2304, 2304, 4352, 4096, 8192, 8192, 8192, 8192, 57344, 57344, 73728, 73728, 196608, 131072, 262144, 262144, 262144, 262144, 1835008, 1835008, 2359296, 2359296, 6291456, 4194304, 8388608, 8388608, 8388608, 8388608, 58720256, 58720256, 75497472, 75497472, 142606336, 134217728, 268435456, 268435456, 268435456, 268435456, 1879048192, 1879048192, 2415919104, 2415919104, 4563402752, 4294967296, 8589934592, 8589934592, 8589934592, 8589934592, 60129542144, 60129542144, 77309411328, 77309411328, 146028888064, 137438953472, 274877906944, 274877906944, 824633720832, 824633720832, 274877906944, 274877906944, 3573412790272, 2473901162496, 5772436045824, 5772436045824, 9070970929152, 9070970929152, 21990232555520, 17592186044416, 35184372088832, 35184372088832, 35184372088832, 35184372088832, 246290604621824, 246290604621824, 35184372088832, 35184372088832, 35184372088832, 35184372088832, 2005509209063424, 1724034232352768, 2568459162484736, 2568459162484736, 4538783999459328, 4538783999459328, 18014398509481983, 9007199254740992]⟩
  | _ => ⟨[], []⟩
noncomputable def F9 (b : List (Int × (Int × List Int)) × (Int × (List (Int × (Int × Int)) × Int)) × (Int × (List (Int × (Int × Int)) × Int)) × Int × Int × (Int × (Int × Int))) : Option Bool :=
 (F32 ()).bind fun r1 =>
 bif (!r1) then (
 some false)
 else (
 (F15 b.1).bind fun r2 =>
 bif ((!r2) == false) then (
 (F33 ([(b.2.1.1, (b.2.1.2.1, b.2.1.2.2)), (b.2.2.1.1, (b.2.2.1.2.1, b.2.2.1.2.2))])).bind fun r3 =>
 bif (!r3) then (
 some true)
 else (
 (F17 b.1).bind fun r4 =>
 bif (!b.2.1.2.1.isEmpty || true) then
 bif decide ((([] : List (Int × (Int × Int))).length + b.2.1.2.1.length) * 24 ≤ LIM) then
 (F37 (b.1, b.2.2.2.1, b.2.2.2.2.1)).bind fun r5 =>
 (F38 (b.1, b.2.2.2.1, b.2.2.2.2.1)).bind fun r6 =>
 (F39 (b.1, (b.2.1.1, (b.2.1.2.1, b.2.1.2.2)), (b.2.2.2.2.2.1, (b.2.2.2.2.2.2.1, b.2.2.2.2.2.2.2)))).bind fun r7 =>
 (F40 (b.1, (b.2.1.1, (b.2.1.2.1, b.2.1.2.2)), (b.2.2.2.2.2.1, (b.2.2.2.2.2.2.1, b.2.2.2.2.2.2.2)))).bind fun r8 =>
 (F35 (b.1, b.2.2.2.2.1, (b.2.1.1, (b.2.1.2.1, b.2.1.2.2)))).bind fun r9 =>
 (F41 (b.1, b.2.2.2.2.1, (b.2.1.1, (b.2.1.2.1, b.2.1.2.2)))).bind fun r10 =>
 (F22 (r5.1, r6.1)).bind fun r11 =>
 bif (r11 == true) then (
 (F42 ((r5.2.1.1, (r5.2.1.2.1, r5.2.1.2.2)), (r6.2.1.1, (r6.2.1.2.1, r6.2.1.2.2)))).bind fun r12 =>
 bif ((bif r12 then decide (r5.2.2 = r6.2.2) else false) == true) then (
 (F22 (r7.1, r8.1)).bind fun r13 =>
 bif (r13 == true) then (
 (F42 ((r7.2.1.1, (r7.2.1.2.1, r7.2.1.2.2)), (r8.2.1.1, (r8.2.1.2.1, r8.2.1.2.2)))).bind fun r14 =>
 bif ((bif (bif (bif r14 then decide (r7.2.2 = r8.2.2) else false) then (r9.1 == r10.1) else false) then decide (r9.2 = r10.2) else false) == true) then (
 (F43 (b.2.1.1, (b.2.1.2.1, b.2.1.2.2))).bind fun r15 =>
 (F44 (b.2.1.1, (b.2.1.2.1, b.2.1.2.2))).bind fun r16 =>
 bif (decide (r15 = r16) == true) then (
 (F45 ((b.2.1.1, (b.2.1.2.1, b.2.1.2.2)), (b.2.2.1.1, (b.2.2.1.2.1, b.2.2.1.2.2)))).bind fun r17 =>
 (F42 ((b.2.1.1, (b.2.1.2.1, b.2.1.2.2)), (b.2.2.1.1, (b.2.2.1.2.1, b.2.2.1.2.2)))).bind fun r18 =>
 lfp (fun (rec19 : (Int × List (Int × (Int × Int))) → Option Bool) (x19 : Int × List (Int × (Int × Int))) =>
  bif decide (x19.1 < (r7.2.1.2.1.length : Int)) then (
  bif inb x19.1 x19.2.length then
  bif inb x19.1 x19.2.length then
  rec19 ((IntKind.wrap .i64 (x19.1 + 1)), (x19.2.set x19.1.toNat ((rd (.pair (.int .i64) (.pair (.int .u64) (.int .u64))) x19.2 x19.1).1, ((IntKind.wrap .u64 (((rd (.pair (.int .i64) (.pair (.int .u64) (.int .u64))) x19.2 x19.1).2).1 + 1)), ((rd (.pair (.int .i64) (.pair (.int .u64) (.int .u64))) x19.2 x19.1).2).2))))
  else none
  else none)
  else (
  bif ((r17 == r18) == true) then (
  (F22 (b.1, r4)).bind fun r20 =>
  bif (r20 == true) then (
  (F36 (b.2.1.2.1, ([] : List (Int × (Int × Int))) ++ b.2.1.2.1)).bind fun r21 =>
  some r21)
  else (
  some false))
  else (
  some false))) (0, r7.2.1.2.1))
 else (
 lfp (fun (rec22 : (Int × List (Int × (Int × Int))) → Option Bool) (x22 : Int × List (Int × (Int × Int))) =>
  bif decide (x22.1 < (r7.2.1.2.1.length : Int)) then (
  bif inb x22.1 x22.2.length then
  bif inb x22.1 x22.2.length then
  rec22 ((IntKind.wrap .i64 (x22.1 + 1)), (x22.2.set x22.1.toNat ((rd (.pair (.int .i64) (.pair (.int .u64) (.int .u64))) x22.2 x22.1).1, ((IntKind.wrap .u64 (((rd (.pair (.int .i64) (.pair (.int .u64) (.int .u64))) x22.2 x22.1).2).1 + 1)), ((rd (.pair (.int .i64) (.pair (.int .u64) (.int .u64))) x22.2 x22.1).2).2))))
  else none
  else none)
  else (
  some false)) (0, r7.2.1.2.1)))
 else (
 lfp (fun (rec23 : (Int × List (Int × (Int × Int))) → Option Bool) (x23 : Int × List (Int × (Int × Int))) =>
  bif decide (x23.1 < (r7.2.1.2.1.length : Int)) then (
  bif inb x23.1 x23.2.length then
  bif inb x23.1 x23.2.length then
  rec23 ((IntKind.wrap .i64 (x23.1 + 1)), (x23.2.set x23.1.toNat ((rd (.pair (.int .i64) (.pair (.int .u64) (.int .u64))) x23.2 x23.1).1, ((IntKind.wrap .u64 (((rd (.pair (.int .i64) (.pair (.int .u64) (.int .u64))) x23.2 x23.1).2).1 + 1)), ((rd (.pair (.int .i64) (.pair (.int .u64) (.int .u64))) x23.2 x23.1).2).2))))
  else none
  else none)
  else (
  some false)) (0, r7.2.1.2.1)))
 else (
 lfp (fun (rec24 : (Int × List (Int × (Int × Int))) → Option Bool) (x24 : Int × List (Int × (Int × Int))) =>
  bif decide (x24.1 < (r7.2.1.2.1.length : Int)) then (
  bif inb x24.1 x24.2.length then
  bif inb x24.1 x24.2.length then
  rec24 ((IntKind.wrap .i64 (x24.1 + 1)), (x24.2.set x24.1.toNat ((rd (.pair (.int .i64) (.pair (.int .u64) (.int .u64))) x24.2 x24.1).1, ((IntKind.wrap .u64 (((rd (.pair (.int .i64) (.pair (.int .u64) (.int .u64))) x24.2 x24.1).2).1 + 1)), ((rd (.pair (.int .i64) (.pair (.int .u64) (.int .u64))) x24.2 x24.1).2).2))))
  else none
  else none)
  else (
  some false)) (0, r7.2.1.2.1)))
 else (
 lfp (fun (rec25 : (Int × List (Int × (Int × Int))) → Option Bool) (x25 : Int × List (Int × (Int × Int))) =>
  bif decide (x25.1 < (r7.2.1.2.1.length : Int)) then (
  bif inb x25.1 x25.2.length then
  bif inb x25.1 x25.2.length then
  rec25 ((IntKind.wrap .i64 (x25.1 + 1)), (x25.2.set x25.1.toNat ((rd (.pair (.int .i64) (.pair (.int .u64) (.int .u64))) x25.2 x25.1).1, ((IntKind.wrap .u64 (((rd (.pair (.int .i64) (.pair (.int .u64) (.int .u64))) x25.2 x25.1).2).1 + 1)), ((rd (.pair (.int .i64) (.pair (.int .u64) (.int .u64))) x25.2 x25.1).2).2))))
  else none
  else none)
  else (
  some false)) (0, r7.2.1.2.1)))
 else (
 lfp (fun (rec26 : (Int × List (Int × (Int × Int))) → Option Bool) (x26 : Int × List (Int × (Int × Int))) =>
  bif decide (x26.1 < (r7.2.1.2.1.length : Int)) then (
  bif inb x26.1 x26.2.length then
  bif inb x26.1 x26.2.length then
  rec26 ((IntKind.wrap .i64 (x26.1 + 1)), (x26.2.set x26.1.toNat ((rd (.pair (.int .i64) (.pair (.int .u64) (.int .u64))) x26.2 x26.1).1, ((IntKind.wrap .u64 (((rd (.pair (.int .i64) (.pair (.int .u64) (.int .u64))) x26.2 x26.1).2).1 + 1)), ((rd (.pair (.int .i64) (.pair (.int .u64) (.int .u64))) x26.2 x26.1).2).2))))
  else none
  else none)
  else (
  some false)) (0, r7.2.1.2.1))
 else none
 else none))
 else (
 some true))
theorem ev9 (b : List (Int × (Int × List Int)) × (Int × (List (Int × (Int × Int)) × Int)) × (Int × (List (Int × (Int × Int)) × Int)) × Int × Int × (Int × (Int × Int))) : evF C45 H9 Try.f9 (encs [.agg (.slice 39 (.pair (.int .u64) (.pair (.int .i64) (.slice 5 (.int .u8))))), .agg (.pair (.int .u64) (.pair (.slice 62 (.pair (.int .i64) (.pair (.int .u64) (.int .u64)))) (.int .i64))), .agg (.pair (.int .u64) (.pair (.slice 62 (.pair (.int .i64) (.pair (.int .u64) (.int .u64)))) (.int .i64))), .one (.int .u64), .one (.int .u64), .agg (.pair (.int .i64) (.pair (.int .u64) (.int .u64)))] b) (RT.dec (.one (.leaf (.bool)))) = F9 b := by kernel_rfl
noncomputable def C9 : Ctx := Ctx.add C45 9 [.agg (.slice 39 (.pair (.int .u64) (.pair (.int .i64) (.slice 5 (.int .u8))))), .agg (.pair (.int .u64) (.pair (.slice 62 (.pair (.int .i64) (.pair (.int .u64) (.int .u64)))) (.int .i64))), .agg (.pair (.int .u64) (.pair (.slice 62 (.pair (.int .i64) (.pair (.int .u64) (.int .u64)))) (.int .i64))), .one (.int .u64), .one (.int .u64), .agg (.pair (.int .i64) (.pair (.int .u64) (.int .u64)))] (.one (.leaf (.bool))) F9
theorem s9 : C9.Sound := Ctx.Sound.add (C := C45) mixed s45 Try.func9 ev9
/-! cmp.isNaN[uint64] -/
def H107 : Nat → Head := fun _ => ⟨[], []⟩
noncomputable def F107 (b : Int) : Option Bool :=
 some (!decide (b = b))
theorem ev107 (b : Int) : evF C9 H107 Try.f107 (encs [.one (.int .u64)] b) (RT.dec (.one (.leaf (.bool)))) = F107 b := by kernel_rfl
noncomputable def C107 : Ctx := Ctx.add C9 107 [.one (.int .u64)] (.one (.leaf (.bool))) F107
theorem s107 : C107.Sound := Ctx.Sound.add (C := C9) mixed s9 Try.func107 ev107
/-! cmp.Compare[uint64] -/
def H105 : Nat → Head := fun _ => ⟨[], []⟩
noncomputable def F105 (b : Int × Int) : Option Int :=
 (F107 b.1).bind fun r1 =>
 (F107 b.2).bind fun r2 =>
 bif r1 then (
 bif r2 then (
 some 0)
 else (
 some (-1)))
 else (
 bif r2 then (
 some 1)
 else (
 bif decide (b.1 < b.2) then (
 some (-1))
 else (
 bif decide (b.2 < b.1) then (
 some 1)
 else (
 some 0))))
theorem ev105 (b : Int × Int) : evF C107 H105 Try.f105 (encs [.one (.int .u64), .one (.int .u64)] b) (RT.dec (.one (.leaf (.int .i64)))) = F105 b := by kernel_rfl
noncomputable def C105 : Ctx := Ctx.add C107 105 [.one (.int .u64), .one (.int .u64)] (.one (.leaf (.int .i64))) F105
theorem s105 : C105.Sound := Ctx.Sound.add (C := C107) mixed s107 Try.func105 ev105
/-! damson/tlv.order -/
def H99 : Nat → Head := fun _ => ⟨[], []⟩
noncomputable def F99 (b : (Int × List Int) × Int) : Option Int :=
 (F105 (b.1.1, b.2)).bind fun r1 =>
 some r1
theorem ev99 (b : (Int × List Int) × Int) : evF C105 H99 Try.f99 (encs [.agg (.pair (.int .u64) (.slice 5 (.int .u8))), .one (.int .u64)] b) (RT.dec (.one (.leaf (.int .i64)))) = F99 b := by kernel_rfl
noncomputable def C99 : Ctx := Ctx.add C105 99 [.agg (.pair (.int .u64) (.slice 5 (.int .u8))), .one (.int .u64)] (.one (.leaf (.int .i64))) F99
theorem s99 : C99.Sound := Ctx.Sound.add (C := C105) mixed s105 Try.func99 ev99
/-! damson/tlv.Check -/
def H95 : Nat → Head
  | 4 => ⟨[.data 2 (.int .i64), .data 10 (.int .i64)], []⟩
  | 5000006 => ⟨[], [0, 0, 1, 1, 2, 2, 4, 4, 8, 8, 16, 16, 48, 48, 80, 80, 128, 128, 128, 128, 640, 640, 1408, 1408, 2176, 2176, 128, 128, 8320, 8320, 20608, 20608, 32896, 32896, 65680, 65680, 131088, 131088]⟩
  | _ => ⟨[], []⟩
noncomputable def F95 (b : List (Int × List Int)) : Option Int :=
 bif decide (64 < (b.length : Int)) then (
 some 1)
 else (
 lfp (fun (rec1 : (Int × Int) → Option Int) (x1 : Int × Int) =>
  bif decide (x1.2 < (b.length : Int)) then (
  bif inb x1.2 b.length then
  bif (decide (4096 < (((rd (.pair (.int .u64) (.slice 5 (.int .u8))) b x1.2).2).length : Int)) == false) then (
  bif (decide (0 < x1.2) == true) then (
  bif inb (IntKind.wrap .i64 (x1.2 - 1)) b.length then
  (F99 (((rd (.pair (.int .u64) (.slice 5 (.int .u8))) b (IntKind.wrap .i64 (x1.2 - 1))).1, (rd (.pair (.int .u64) (.slice 5 (.int .u8))) b (IntKind.wrap .i64 (x1.2 - 1))).2), (rd (.pair (.int .u64) (.slice 5 (.int .u8))) b x1.2).1)).bind fun r2 =>
  bif decide (0 ≤ r2) then (
  some 1)
  else (
  rec1 (x1.1, (IntKind.wrap .i64 (x1.2 + 1))))
  else none)
  else (
  (fun o => both o o) (
  rec1 (x1.1, (IntKind.wrap .i64 (x1.2 + 1))))))
  else (
  (fun o => both o o) (
  some 1))
  else none)
  else (
  some 0)) (0, 0))
theorem ev95 (b : List (Int × List Int)) : evF C99 H95 Try.f95 (encs [.one (.slice 102 (.pair (.int .u64) (.slice 5 (.int .u8))))] b) (RT.dec (.one (.leaf (.int .i64)))) = F95 b := by kernel_rfl
noncomputable def C95 : Ctx := Ctx.add C99 95 [.one (.slice 102 (.pair (.int .u64) (.slice 5 (.int .u8))))] (.one (.leaf (.int .i64))) F95
theorem s95 : C95.Sound := Ctx.Sound.add (C := C99) mixed s99 Try.func95 ev95
/-! damson/tlv.Put -/
def H73 : Nat → Head
  | 5 => ⟨[.row 2 10245 5 (.int .u8), .data 13 (.int .i64)], []⟩
  | 5000007 => ⟨[], [0, 0, 0, 0, 2, 2, 0, 0, 8, 8, 16, 16, 32, 32, 68, 68, 128, 128, 257, 257, 0, 0, 1024, 1024, 2560, 2560, 8191, 4097]⟩
  | _ => ⟨[], []⟩
noncomputable def F73 (b : List (Int × List Int)) : Option (List Int × Int) :=
 (F95 b).bind fun r1 =>
 bif (!decide (r1 = 0)) then (
 some (([] : List Int), r1))
 else (
 lfp (fun (rec2 : (List Int × Int) → Option (List Int × Int)) (x2 : List Int × Int) =>
  bif decide (x2.2 < (b.length : Int)) then (
  bif inb x2.2 b.length then
  (both (
  (both (
  (both (
  (both (
  (F62 ([(rd (.pair (.int .u64) (.slice 5 (.int .u8))) b x2.2).1, (IntKind.wrap .u64 (((rd (.pair (.int .u64) (.slice 5 (.int .u8))) b x2.2).2).length : Int))])).bind fun r3 =>
  (fun o => both o o) (
  bif decide ((x2.1.length + r3.length) * 1 ≤ LIM) then
  bif decide (((x2.1 ++ r3).length + ((rd (.pair (.int .u64) (.slice 5 (.int .u8))) b x2.2).2).length) * 1 ≤ LIM) then
  rec2 (((x2.1 ++ r3) ++ ((rd (.pair (.int .u64) (.slice 5 (.int .u8))) b x2.2).2)), (IntKind.wrap .i64 (x2.2 + 1)))
  else none
  else none)) (
  (F62 ([(rd (.pair (.int .u64) (.slice 5 (.int .u8))) b x2.2).1, (IntKind.wrap .u64 (((rd (.pair (.int .u64) (.slice 5 (.int .u8))) b x2.2).2).length : Int))])).bind fun r3 =>
  bif decide ((x2.1.length + r3.length) * 1 ≤ LIM) then
  bif decide (((x2.1 ++ r3).length + ((rd (.pair (.int .u64) (.slice 5 (.int .u8))) b x2.2).2).length) * 1 ≤ LIM) then
  rec2 (((x2.1 ++ r3) ++ ((rd (.pair (.int .u64) (.slice 5 (.int .u8))) b x2.2).2)), (IntKind.wrap .i64 (x2.2 + 1)))
  else none
  else none))) (
  (F62 ([(rd (.pair (.int .u64) (.slice 5 (.int .u8))) b x2.2).1, (IntKind.wrap .u64 (((rd (.pair (.int .u64) (.slice 5 (.int .u8))) b x2.2).2).length : Int))])).bind fun r3 =>
  bif decide ((x2.1.length + r3.length) * 1 ≤ LIM) then
  bif decide (((x2.1 ++ r3).length + ((rd (.pair (.int .u64) (.slice 5 (.int .u8))) b x2.2).2).length) * 1 ≤ LIM) then
  rec2 (((x2.1 ++ r3) ++ ((rd (.pair (.int .u64) (.slice 5 (.int .u8))) b x2.2).2)), (IntKind.wrap .i64 (x2.2 + 1)))
  else none
  else none))) (
  (F62 ([(rd (.pair (.int .u64) (.slice 5 (.int .u8))) b x2.2).1, (IntKind.wrap .u64 (((rd (.pair (.int .u64) (.slice 5 (.int .u8))) b x2.2).2).length : Int))])).bind fun r3 =>
  bif decide ((x2.1.length + r3.length) * 1 ≤ LIM) then
  bif decide (((x2.1 ++ r3).length + ((rd (.pair (.int .u64) (.slice 5 (.int .u8))) b x2.2).2).length) * 1 ≤ LIM) then
  rec2 (((x2.1 ++ r3) ++ ((rd (.pair (.int .u64) (.slice 5 (.int .u8))) b x2.2).2)), (IntKind.wrap .i64 (x2.2 + 1)))
  else none
  else none))) (both (
  (both (
  (both (
  (both (
  (F62 ([(rd (.pair (.int .u64) (.slice 5 (.int .u8))) b x2.2).1, (IntKind.wrap .u64 (((rd (.pair (.int .u64) (.slice 5 (.int .u8))) b x2.2).2).length : Int))])).bind fun r3 =>
  (fun o => both o o) (
  bif decide ((x2.1.length + r3.length) * 1 ≤ LIM) then
  bif decide (((x2.1 ++ r3).length + ((rd (.pair (.int .u64) (.slice 5 (.int .u8))) b x2.2).2).length) * 1 ≤ LIM) then
  rec2 (((x2.1 ++ r3) ++ ((rd (.pair (.int .u64) (.slice 5 (.int .u8))) b x2.2).2)), (IntKind.wrap .i64 (x2.2 + 1)))
  else none
  else none)) (
  (F62 ([(rd (.pair (.int .u64) (.slice 5 (.int .u8))) b x2.2).1, (IntKind.wrap .u64 (((rd (.pair (.int .u64) (.slice 5 (.int .u8))) b x2.2).2).length : Int))])).bind fun r3 =>
  bif decide ((x2.1.length + r3.length) * 1 ≤ LIM) then
  bif decide (((x2.1 ++ r3).length + ((rd (.pair (.int .u64) (.slice 5 (.int .u8))) b x2.2).2).length) * 1 ≤ LIM) then
  rec2 (((x2.1 ++ r3) ++ ((rd (.pair (.int .u64) (.slice 5 (.int .u8))) b x2.2).2)), (IntKind.wrap .i64 (x2.2 + 1)))
  else none
  else none))) (
  (F62 ([(rd (.pair (.int .u64) (.slice 5 (.int .u8))) b x2.2).1, (IntKind.wrap .u64 (((rd (.pair (.int .u64) (.slice 5 (.int .u8))) b x2.2).2).length : Int))])).bind fun r3 =>
  bif decide ((x2.1.length + r3.length) * 1 ≤ LIM) then
  bif decide (((x2.1 ++ r3).length + ((rd (.pair (.int .u64) (.slice 5 (.int .u8))) b x2.2).2).length) * 1 ≤ LIM) then
  rec2 (((x2.1 ++ r3) ++ ((rd (.pair (.int .u64) (.slice 5 (.int .u8))) b x2.2).2)), (IntKind.wrap .i64 (x2.2 + 1)))
  else none
  else none))) (
  (F62 ([(rd (.pair (.int .u64) (.slice 5 (.int .u8))) b x2.2).1, (IntKind.wrap .u64 (((rd (.pair (.int .u64) (.slice 5 (.int .u8))) b x2.2).2).length : Int))])).bind fun r3 =>
  bif decide ((x2.1.length + r3.length) * 1 ≤ LIM) then
  bif decide (((x2.1 ++ r3).length + ((rd (.pair (.int .u64) (.slice 5 (.int .u8))) b x2.2).2).length) * 1 ≤ LIM) then
  rec2 (((x2.1 ++ r3) ++ ((rd (.pair (.int .u64) (.slice 5 (.int .u8))) b x2.2).2)), (IntKind.wrap .i64 (x2.2 + 1)))
  else none
  else none))) (
  (fun o => both o o) (
  (F62 ([(rd (.pair (.int .u64) (.slice 5 (.int .u8))) b x2.2).1, (IntKind.wrap .u64 (((rd (.pair (.int .u64) (.slice 5 (.int .u8))) b x2.2).2).length : Int))])).bind fun r3 =>
  bif decide ((x2.1.length + r3.length) * 1 ≤ LIM) then
  bif decide (((x2.1 ++ r3).length + ((rd (.pair (.int .u64) (.slice 5 (.int .u8))) b x2.2).2).length) * 1 ≤ LIM) then
  rec2 (((x2.1 ++ r3) ++ ((rd (.pair (.int .u64) (.slice 5 (.int .u8))) b x2.2).2)), (IntKind.wrap .i64 (x2.2 + 1)))
  else none
  else none))))
  else none)
  else (
  bif decide (65535 < (x2.1.length : Int)) then (
  some (([] : List Int), 4))
  else (
  some (x2.1, 0)))) (([] : List Int), 0))
theorem ev73 (b : List (Int × List Int)) : evF C95 H73 Try.f73 (encs [.one (.slice 102 (.pair (.int .u64) (.slice 5 (.int .u8))))] b) (RT.dec (.tup [.leaf (.fresh 5 (.int .u8)), .leaf (.int .i64)])) = F73 b := by kernel_rfl
noncomputable def C73 : Ctx := Ctx.add C95 73 [.one (.slice 102 (.pair (.int .u64) (.slice 5 (.int .u8))))] (.tup [.leaf (.fresh 5 (.int .u8)), .leaf (.int .i64)]) F73
theorem s73 : C73.Sound := Ctx.Sound.add (C := C95) mixed s95 Try.func73 ev73
/-! damson/token.Put -/
def H46 : Nat → Head
  | 6 => ⟨[.row 5 22534 102 (.pair (.int .u64) (.slice 5 (.int .u8))), .data 28 (.int .i64)], [106496, 90112, 86016, 65536, 61440, 4096]⟩
  | 5000004 => ⟨[], [0, 0, 1, 1, 2, 2, 4, 4, 8, 8, 0, 0, 32, 32, 64, 64, 128, 128, 264, 256, 512, 512, 1040, 1040, 4095, 2048]⟩
  | _ => ⟨[], []⟩
noncomputable def F46 (b : (Int × (List (Int × (Int × Int)) × Int))) : Option (List Int × Int) :=
 (F43 (b.1, (b.2.1, b.2.2))).bind fun r1 =>
 bif (!decide (r1 = 0)) then (
 some (([] : List Int), r1))
 else (
 (both (
 (both (
 (both (
 (F62 ([b.1])).bind fun r2 =>
 (both (
 (F62 ([(IntKind.wrap .u64 b.2.2)])).bind fun r3 =>
 (F63 (b.1, (b.2.1, b.2.2))).bind fun r4 =>
 lfp (fun (rec5 : (List (Int × List Int) × Int) → Option (List Int × Int)) (x5 : List (Int × List Int) × Int) =>
  bif decide (x5.2 < (r4.length : Int)) then (
  bif inb x5.2 r4.length then
  bif decide ((x5.1.length + 1) * 32 ≤ LIM) then
  rec5 ((x5.1 ++ ([((IntKind.wrap .u64 (16 + (IntKind.wrap .u64 x5.2))), (rd (.slice 5 (.int .u8)) r4 x5.2))])), (IntKind.wrap .i64 (x5.2 + 1)))
  else none
  else none)
  else (
  (F73 x5.1).bind fun r6 =>
  some (r6.1, r6.2))) (([(1, r2), (2, r3)]), 0)) (
 (both (
 (F62 ([(IntKind.wrap .u64 b.2.2)])).bind fun r3 =>
 (F63 (b.1, (b.2.1, b.2.2))).bind fun r4 =>
 lfp (fun (rec5 : (List (Int × List Int) × Int) → Option (List Int × Int)) (x5 : List (Int × List Int) × Int) =>
  bif decide (x5.2 < (r4.length : Int)) then (
  bif inb x5.2 r4.length then
  bif decide ((x5.1.length + 1) * 32 ≤ LIM) then
  rec5 ((x5.1 ++ ([((IntKind.wrap .u64 (16 + (IntKind.wrap .u64 x5.2))), (rd (.slice 5 (.int .u8)) r4 x5.2))])), (IntKind.wrap .i64 (x5.2 + 1)))
  else none
  else none)
  else (
  (F73 x5.1).bind fun r6 =>
  some (r6.1, r6.2))) (([(1, r2), (2, r3)]), 0)) (
 (both (
 (F62 ([(IntKind.wrap .u64 b.2.2)])).bind fun r3 =>
 (F63 (b.1, (b.2.1, b.2.2))).bind fun r4 =>
 lfp (fun (rec5 : (List (Int × List Int) × Int) → Option (List Int × Int)) (x5 : List (Int × List Int) × Int) =>
  bif decide (x5.2 < (r4.length : Int)) then (
  bif inb x5.2 r4.length then
  bif decide ((x5.1.length + 1) * 32 ≤ LIM) then
  rec5 ((x5.1 ++ ([((IntKind.wrap .u64 (16 + (IntKind.wrap .u64 x5.2))), (rd (.slice 5 (.int .u8)) r4 x5.2))])), (IntKind.wrap .i64 (x5.2 + 1)))
  else none
  else none)
  else (
  (F73 x5.1).bind fun r6 =>
  some (r6.1, r6.2))) (([(1, r2), (2, r3)]), 0)) (
 (F62 ([(IntKind.wrap .u64 b.2.2)])).bind fun r3 =>
 (fun o => both o o) (
 (F63 (b.1, (b.2.1, b.2.2))).bind fun r4 =>
 lfp (fun (rec5 : (List (Int × List Int) × Int) → Option (List Int × Int)) (x5 : List (Int × List Int) × Int) =>
  bif decide (x5.2 < (r4.length : Int)) then (
  bif inb x5.2 r4.length then
  bif decide ((x5.1.length + 1) * 32 ≤ LIM) then
  rec5 ((x5.1 ++ ([((IntKind.wrap .u64 (16 + (IntKind.wrap .u64 x5.2))), (rd (.slice 5 (.int .u8)) r4 x5.2))])), (IntKind.wrap .i64 (x5.2 + 1)))
  else none
  else none)
  else (
  (F73 x5.1).bind fun r6 =>
  some (r6.1, r6.2))) (([(1, r2), (2, r3)]), 0))))))))) (
 (both (
 (F62 ([b.1])).bind fun r2 =>
 (both (
 (F62 ([(IntKind.wrap .u64 b.2.2)])).bind fun r3 =>
 (F63 (b.1, (b.2.1, b.2.2))).bind fun r4 =>
 lfp (fun (rec5 : (List (Int × List Int) × Int) → Option (List Int × Int)) (x5 : List (Int × List Int) × Int) =>
  bif decide (x5.2 < (r4.length : Int)) then (
  bif inb x5.2 r4.length then
  bif decide ((x5.1.length + 1) * 32 ≤ LIM) then
  rec5 ((x5.1 ++ ([((IntKind.wrap .u64 (16 + (IntKind.wrap .u64 x5.2))), (rd (.slice 5 (.int .u8)) r4 x5.2))])), (IntKind.wrap .i64 (x5.2 + 1)))
  else none
  else none)
  else (
  (F73 x5.1).bind fun r6 =>
  some (r6.1, r6.2))) (([(1, r2), (2, r3)]), 0)) (
 (both (
 (F62 ([(IntKind.wrap .u64 b.2.2)])).bind fun r3 =>
 (F63 (b.1, (b.2.1, b.2.2))).bind fun r4 =>
 lfp (fun (rec5 : (List (Int × List Int) × Int) → Option (List Int × Int)) (x5 : List (Int × List Int) × Int) =>
  bif decide (x5.2 < (r4.length : Int)) then (
  bif inb x5.2 r4.length then
  bif decide ((x5.1.length + 1) * 32 ≤ LIM) then
  rec5 ((x5.1 ++ ([((IntKind.wrap .u64 (16 + (IntKind.wrap .u64 x5.2))), (rd (.slice 5 (.int .u8)) r4 x5.2))])), (IntKind.wrap .i64 (x5.2 + 1)))
  else none
  else none)
  else (
  (F73 x5.1).bind fun r6 =>
  some (r6.1, r6.2))) (([(1, r2), (2, r3)]), 0)) (
 (F62 ([(IntKind.wrap .u64 b.2.2)])).bind fun r3 =>
 (fun o => both o o) (
 (F63 (b.1, (b.2.1, b.2.2))).bind fun r4 =>
 lfp (fun (rec5 : (List (Int × List Int) × Int) → Option (List Int × Int)) (x5 : List (Int × List Int) × Int) =>
  bif decide (x5.2 < (r4.length : Int)) then (
  bif inb x5.2 r4.length then
  bif decide ((x5.1.length + 1) * 32 ≤ LIM) then
  rec5 ((x5.1 ++ ([((IntKind.wrap .u64 (16 + (IntKind.wrap .u64 x5.2))), (rd (.slice 5 (.int .u8)) r4 x5.2))])), (IntKind.wrap .i64 (x5.2 + 1)))
  else none
  else none)
  else (
  (F73 x5.1).bind fun r6 =>
  some (r6.1, r6.2))) (([(1, r2), (2, r3)]), 0))))))) (
 (F62 ([b.1])).bind fun r2 =>
 (both (
 (F62 ([(IntKind.wrap .u64 b.2.2)])).bind fun r3 =>
 (F63 (b.1, (b.2.1, b.2.2))).bind fun r4 =>
 lfp (fun (rec5 : (List (Int × List Int) × Int) → Option (List Int × Int)) (x5 : List (Int × List Int) × Int) =>
  bif decide (x5.2 < (r4.length : Int)) then (
  bif inb x5.2 r4.length then
  bif decide ((x5.1.length + 1) * 32 ≤ LIM) then
  rec5 ((x5.1 ++ ([((IntKind.wrap .u64 (16 + (IntKind.wrap .u64 x5.2))), (rd (.slice 5 (.int .u8)) r4 x5.2))])), (IntKind.wrap .i64 (x5.2 + 1)))
  else none
  else none)
  else (
  (F73 x5.1).bind fun r6 =>
  some (r6.1, r6.2))) (([(1, r2), (2, r3)]), 0)) (
 (F62 ([(IntKind.wrap .u64 b.2.2)])).bind fun r3 =>
 (fun o => both o o) (
 (F63 (b.1, (b.2.1, b.2.2))).bind fun r4 =>
 lfp (fun (rec5 : (List (Int × List Int) × Int) → Option (List Int × Int)) (x5 : List (Int × List Int) × Int) =>
  bif decide (x5.2 < (r4.length : Int)) then (
  bif inb x5.2 r4.length then
  bif decide ((x5.1.length + 1) * 32 ≤ LIM) then
  rec5 ((x5.1 ++ ([((IntKind.wrap .u64 (16 + (IntKind.wrap .u64 x5.2))), (rd (.slice 5 (.int .u8)) r4 x5.2))])), (IntKind.wrap .i64 (x5.2 + 1)))
  else none
  else none)
  else (
  (F73 x5.1).bind fun r6 =>
  some (r6.1, r6.2))) (([(1, r2), (2, r3)]), 0))))))))) (
 (both (
 (both (
 (F62 ([b.1])).bind fun r2 =>
 (both (
 (F62 ([(IntKind.wrap .u64 b.2.2)])).bind fun r3 =>
 (F63 (b.1, (b.2.1, b.2.2))).bind fun r4 =>
 lfp (fun (rec5 : (List (Int × List Int) × Int) → Option (List Int × Int)) (x5 : List (Int × List Int) × Int) =>
  bif decide (x5.2 < (r4.length : Int)) then (
  bif inb x5.2 r4.length then
  bif decide ((x5.1.length + 1) * 32 ≤ LIM) then
  rec5 ((x5.1 ++ ([((IntKind.wrap .u64 (16 + (IntKind.wrap .u64 x5.2))), (rd (.slice 5 (.int .u8)) r4 x5.2))])), (IntKind.wrap .i64 (x5.2 + 1)))
  else none
  else none)
  else (
  (F73 x5.1).bind fun r6 =>
  some (r6.1, r6.2))) (([(1, r2), (2, r3)]), 0)) (
 (both (
 (F62 ([(IntKind.wrap .u64 b.2.2)])).bind fun r3 =>
 (F63 (b.1, (b.2.1, b.2.2))).bind fun r4 =>
 lfp (fun (rec5 : (List (Int × List Int) × Int) → Option (List Int × Int)) (x5 : List (Int × List Int) × Int) =>
  bif decide (x5.2 < (r4.length : Int)) then (
  bif inb x5.2 r4.length then
  bif decide ((x5.1.length + 1) * 32 ≤ LIM) then
  rec5 ((x5.1 ++ ([((IntKind.wrap .u64 (16 + (IntKind.wrap .u64 x5.2))), (rd (.slice 5 (.int .u8)) r4 x5.2))])), (IntKind.wrap .i64 (x5.2 + 1)))
  else none
  else none)
  else (
  (F73 x5.1).bind fun r6 =>
  some (r6.1, r6.2))) (([(1, r2), (2, r3)]), 0)) (
 (F62 ([(IntKind.wrap .u64 b.2.2)])).bind fun r3 =>
 (fun o => both o o) (
 (F63 (b.1, (b.2.1, b.2.2))).bind fun r4 =>
 lfp (fun (rec5 : (List (Int × List Int) × Int) → Option (List Int × Int)) (x5 : List (Int × List Int) × Int) =>
  bif decide (x5.2 < (r4.length : Int)) then (
  bif inb x5.2 r4.length then
  bif decide ((x5.1.length + 1) * 32 ≤ LIM) then
  rec5 ((x5.1 ++ ([((IntKind.wrap .u64 (16 + (IntKind.wrap .u64 x5.2))), (rd (.slice 5 (.int .u8)) r4 x5.2))])), (IntKind.wrap .i64 (x5.2 + 1)))
  else none
  else none)
  else (
  (F73 x5.1).bind fun r6 =>
  some (r6.1, r6.2))) (([(1, r2), (2, r3)]), 0))))))) (
 (F62 ([b.1])).bind fun r2 =>
 (both (
 (F62 ([(IntKind.wrap .u64 b.2.2)])).bind fun r3 =>
 (F63 (b.1, (b.2.1, b.2.2))).bind fun r4 =>
 lfp (fun (rec5 : (List (Int × List Int) × Int) → Option (List Int × Int)) (x5 : List (Int × List Int) × Int) =>
  bif decide (x5.2 < (r4.length : Int)) then (
  bif inb x5.2 r4.length then
  bif decide ((x5.1.length + 1) * 32 ≤ LIM) then
  rec5 ((x5.1 ++ ([((IntKind.wrap .u64 (16 + (IntKind.wrap .u64 x5.2))), (rd (.slice 5 (.int .u8)) r4 x5.2))])), (IntKind.wrap .i64 (x5.2 + 1)))
  else none
  else none)
  else (
  (F73 x5.1).bind fun r6 =>
  some (r6.1, r6.2))) (([(1, r2), (2, r3)]), 0)) (
 (F62 ([(IntKind.wrap .u64 b.2.2)])).bind fun r3 =>
 (fun o => both o o) (
 (F63 (b.1, (b.2.1, b.2.2))).bind fun r4 =>
 lfp (fun (rec5 : (List (Int × List Int) × Int) → Option (List Int × Int)) (x5 : List (Int × List Int) × Int) =>
  bif decide (x5.2 < (r4.length : Int)) then (
  bif inb x5.2 r4.length then
  bif decide ((x5.1.length + 1) * 32 ≤ LIM) then
  rec5 ((x5.1 ++ ([((IntKind.wrap .u64 (16 + (IntKind.wrap .u64 x5.2))), (rd (.slice 5 (.int .u8)) r4 x5.2))])), (IntKind.wrap .i64 (x5.2 + 1)))
  else none
  else none)
  else (
  (F73 x5.1).bind fun r6 =>
  some (r6.1, r6.2))) (([(1, r2), (2, r3)]), 0))))))) (
 (F62 ([b.1])).bind fun r2 =>
 (both (
 (F62 ([(IntKind.wrap .u64 b.2.2)])).bind fun r3 =>
 (F63 (b.1, (b.2.1, b.2.2))).bind fun r4 =>
 lfp (fun (rec5 : (List (Int × List Int) × Int) → Option (List Int × Int)) (x5 : List (Int × List Int) × Int) =>
  bif decide (x5.2 < (r4.length : Int)) then (
  bif inb x5.2 r4.length then
  bif decide ((x5.1.length + 1) * 32 ≤ LIM) then
  rec5 ((x5.1 ++ ([((IntKind.wrap .u64 (16 + (IntKind.wrap .u64 x5.2))), (rd (.slice 5 (.int .u8)) r4 x5.2))])), (IntKind.wrap .i64 (x5.2 + 1)))
  else none
  else none)
  else (
  (F73 x5.1).bind fun r6 =>
  some (r6.1, r6.2))) (([(1, r2), (2, r3)]), 0)) (
 (F62 ([(IntKind.wrap .u64 b.2.2)])).bind fun r3 =>
 (fun o => both o o) (
 (F63 (b.1, (b.2.1, b.2.2))).bind fun r4 =>
 lfp (fun (rec5 : (List (Int × List Int) × Int) → Option (List Int × Int)) (x5 : List (Int × List Int) × Int) =>
  bif decide (x5.2 < (r4.length : Int)) then (
  bif inb x5.2 r4.length then
  bif decide ((x5.1.length + 1) * 32 ≤ LIM) then
  rec5 ((x5.1 ++ ([((IntKind.wrap .u64 (16 + (IntKind.wrap .u64 x5.2))), (rd (.slice 5 (.int .u8)) r4 x5.2))])), (IntKind.wrap .i64 (x5.2 + 1)))
  else none
  else none)
  else (
  (F73 x5.1).bind fun r6 =>
  some (r6.1, r6.2))) (([(1, r2), (2, r3)]), 0))))))))) (
 (both (
 (both (
 (both (
 (F62 ([b.1])).bind fun r2 =>
 (both (
 (F62 ([(IntKind.wrap .u64 b.2.2)])).bind fun r3 =>
 (F63 (b.1, (b.2.1, b.2.2))).bind fun r4 =>
 lfp (fun (rec5 : (List (Int × List Int) × Int) → Option (List Int × Int)) (x5 : List (Int × List Int) × Int) =>
  bif decide (x5.2 < (r4.length : Int)) then (
  bif inb x5.2 r4.length then
  bif decide ((x5.1.length + 1) * 32 ≤ LIM) then
  rec5 ((x5.1 ++ ([((IntKind.wrap .u64 (16 + (IntKind.wrap .u64 x5.2))), (rd (.slice 5 (.int .u8)) r4 x5.2))])), (IntKind.wrap .i64 (x5.2 + 1)))
  else none
  else none)
  else (
  (F73 x5.1).bind fun r6 =>
  some (r6.1, r6.2))) (([(1, r2), (2, r3)]), 0)) (
 (both (
 (F62 ([(IntKind.wrap .u64 b.2.2)])).bind fun r3 =>
 (F63 (b.1, (b.2.1, b.2.2))).bind fun r4 =>
 lfp (fun (rec5 : (List (Int × List Int) × Int) → Option (List Int × Int)) (x5 : List (Int × List Int) × Int) =>
  bif decide (x5.2 < (r4.length : Int)) then (
  bif inb x5.2 r4.length then
  bif decide ((x5.1.length + 1) * 32 ≤ LIM) then
  rec5 ((x5.1 ++ ([((IntKind.wrap .u64 (16 + (IntKind.wrap .u64 x5.2))), (rd (.slice 5 (.int .u8)) r4 x5.2))])), (IntKind.wrap .i64 (x5.2 + 1)))
  else none
  else none)
  else (
  (F73 x5.1).bind fun r6 =>
  some (r6.1, r6.2))) (([(1, r2), (2, r3)]), 0)) (
 (F62 ([(IntKind.wrap .u64 b.2.2)])).bind fun r3 =>
 (fun o => both o o) (
 (F63 (b.1, (b.2.1, b.2.2))).bind fun r4 =>
 lfp (fun (rec5 : (List (Int × List Int) × Int) → Option (List Int × Int)) (x5 : List (Int × List Int) × Int) =>
  bif decide (x5.2 < (r4.length : Int)) then (
  bif inb x5.2 r4.length then
  bif decide ((x5.1.length + 1) * 32 ≤ LIM) then
  rec5 ((x5.1 ++ ([((IntKind.wrap .u64 (16 + (IntKind.wrap .u64 x5.2))), (rd (.slice 5 (.int .u8)) r4 x5.2))])), (IntKind.wrap .i64 (x5.2 + 1)))
  else none
  else none)
  else (
  (F73 x5.1).bind fun r6 =>
  some (r6.1, r6.2))) (([(1, r2), (2, r3)]), 0))))))) (
 (F62 ([b.1])).bind fun r2 =>
 (both (
 (F62 ([(IntKind.wrap .u64 b.2.2)])).bind fun r3 =>
 (F63 (b.1, (b.2.1, b.2.2))).bind fun r4 =>
 lfp (fun (rec5 : (List (Int × List Int) × Int) → Option (List Int × Int)) (x5 : List (Int × List Int) × Int) =>
  bif decide (x5.2 < (r4.length : Int)) then (
  bif inb x5.2 r4.length then
  bif decide ((x5.1.length + 1) * 32 ≤ LIM) then
  rec5 ((x5.1 ++ ([((IntKind.wrap .u64 (16 + (IntKind.wrap .u64 x5.2))), (rd (.slice 5 (.int .u8)) r4 x5.2))])), (IntKind.wrap .i64 (x5.2 + 1)))
  else none
  else none)
  else (
  (F73 x5.1).bind fun r6 =>
  some (r6.1, r6.2))) (([(1, r2), (2, r3)]), 0)) (
 (F62 ([(IntKind.wrap .u64 b.2.2)])).bind fun r3 =>
 (fun o => both o o) (
 (F63 (b.1, (b.2.1, b.2.2))).bind fun r4 =>
 lfp (fun (rec5 : (List (Int × List Int) × Int) → Option (List Int × Int)) (x5 : List (Int × List Int) × Int) =>
  bif decide (x5.2 < (r4.length : Int)) then (
  bif inb x5.2 r4.length then
  bif decide ((x5.1.length + 1) * 32 ≤ LIM) then
  rec5 ((x5.1 ++ ([((IntKind.wrap .u64 (16 + (IntKind.wrap .u64 x5.2))), (rd (.slice 5 (.int .u8)) r4 x5.2))])), (IntKind.wrap .i64 (x5.2 + 1)))
  else none
  else none)
  else (
  (F73 x5.1).bind fun r6 =>
  some (r6.1, r6.2))) (([(1, r2), (2, r3)]), 0))))))) (
 (F62 ([b.1])).bind fun r2 =>
 (both (
 (F62 ([(IntKind.wrap .u64 b.2.2)])).bind fun r3 =>
 (F63 (b.1, (b.2.1, b.2.2))).bind fun r4 =>
 lfp (fun (rec5 : (List (Int × List Int) × Int) → Option (List Int × Int)) (x5 : List (Int × List Int) × Int) =>
  bif decide (x5.2 < (r4.length : Int)) then (
  bif inb x5.2 r4.length then
  bif decide ((x5.1.length + 1) * 32 ≤ LIM) then
  rec5 ((x5.1 ++ ([((IntKind.wrap .u64 (16 + (IntKind.wrap .u64 x5.2))), (rd (.slice 5 (.int .u8)) r4 x5.2))])), (IntKind.wrap .i64 (x5.2 + 1)))
  else none
  else none)
  else (
  (F73 x5.1).bind fun r6 =>
  some (r6.1, r6.2))) (([(1, r2), (2, r3)]), 0)) (
 (F62 ([(IntKind.wrap .u64 b.2.2)])).bind fun r3 =>
 (fun o => both o o) (
 (F63 (b.1, (b.2.1, b.2.2))).bind fun r4 =>
 lfp (fun (rec5 : (List (Int × List Int) × Int) → Option (List Int × Int)) (x5 : List (Int × List Int) × Int) =>
  bif decide (x5.2 < (r4.length : Int)) then (
  bif inb x5.2 r4.length then
  bif decide ((x5.1.length + 1) * 32 ≤ LIM) then
  rec5 ((x5.1 ++ ([((IntKind.wrap .u64 (16 + (IntKind.wrap .u64 x5.2))), (rd (.slice 5 (.int .u8)) r4 x5.2))])), (IntKind.wrap .i64 (x5.2 + 1)))
  else none
  else none)
  else (
  (F73 x5.1).bind fun r6 =>
  some (r6.1, r6.2))) (([(1, r2), (2, r3)]), 0))))))) (
 (F62 ([b.1])).bind fun r2 =>
 (both (
 (F62 ([(IntKind.wrap .u64 b.2.2)])).bind fun r3 =>
 (F63 (b.1, (b.2.1, b.2.2))).bind fun r4 =>
 lfp (fun (rec5 : (List (Int × List Int) × Int) → Option (List Int × Int)) (x5 : List (Int × List Int) × Int) =>
  bif decide (x5.2 < (r4.length : Int)) then (
  bif inb x5.2 r4.length then
  bif decide ((x5.1.length + 1) * 32 ≤ LIM) then
  rec5 ((x5.1 ++ ([((IntKind.wrap .u64 (16 + (IntKind.wrap .u64 x5.2))), (rd (.slice 5 (.int .u8)) r4 x5.2))])), (IntKind.wrap .i64 (x5.2 + 1)))
  else none
  else none)
  else (
  (F73 x5.1).bind fun r6 =>
  some (r6.1, r6.2))) (([(1, r2), (2, r3)]), 0)) (
 (F62 ([(IntKind.wrap .u64 b.2.2)])).bind fun r3 =>
 (fun o => both o o) (
 (F63 (b.1, (b.2.1, b.2.2))).bind fun r4 =>
 lfp (fun (rec5 : (List (Int × List Int) × Int) → Option (List Int × Int)) (x5 : List (Int × List Int) × Int) =>
  bif decide (x5.2 < (r4.length : Int)) then (
  bif inb x5.2 r4.length then
  bif decide ((x5.1.length + 1) * 32 ≤ LIM) then
  rec5 ((x5.1 ++ ([((IntKind.wrap .u64 (16 + (IntKind.wrap .u64 x5.2))), (rd (.slice 5 (.int .u8)) r4 x5.2))])), (IntKind.wrap .i64 (x5.2 + 1)))
  else none
  else none)
  else (
  (F73 x5.1).bind fun r6 =>
  some (r6.1, r6.2))) (([(1, r2), (2, r3)]), 0)))))))))
theorem ev46 (b : (Int × (List (Int × (Int × Int)) × Int))) : evF C73 H46 Try.f46 (encs [.agg (.pair (.int .u64) (.pair (.slice 62 (.pair (.int .i64) (.pair (.int .u64) (.int .u64)))) (.int .i64)))] b) (RT.dec (.tup [.leaf (.fresh 5 (.int .u8)), .leaf (.int .i64)])) = F46 b := by kernel_rfl
noncomputable def C46 : Ctx := Ctx.add C73 46 [.agg (.pair (.int .u64) (.pair (.slice 62 (.pair (.int .i64) (.pair (.int .u64) (.int .u64)))) (.int .i64)))] (.tup [.leaf (.fresh 5 (.int .u8)), .leaf (.int .i64)]) F46
theorem s46 : C46.Sound := Ctx.Sound.add (C := C73) mixed s73 Try.func46 ev46
/-! damson/damsonref02.Check -/
def H96 : Nat → Head
  | 4 => ⟨[.data 2 (.int .i64), .data 10 (.int .i64)], []⟩
  | 5000006 => ⟨[], [0, 0, 1, 1, 2, 2, 4, 4, 8, 8, 16, 16, 48, 48, 80, 80, 128, 128, 128, 128, 640, 640, 1408, 1408, 2176, 2176, 4224, 4224, 128, 128, 16512, 16512, 41088, 41088, 65680, 65680, 131088, 131088]⟩
  | _ => ⟨[], []⟩
noncomputable def F96 (b : List (Int × List Int)) : Option Int :=
 bif decide (64 < (b.length : Int)) then (
 some 1)
 else (
 lfp (fun (rec1 : (Int × Int) → Option Int) (x1 : Int × Int) =>
  bif decide (x1.2 < (b.length : Int)) then (
  bif inb x1.2 b.length then
  bif (decide (4096 < (((rd (.pair (.int .u64) (.slice 5 (.int .u8))) b x1.2).2).length : Int)) == false) then (
  bif (decide (0 < x1.2) == true) then (
  bif inb (IntKind.wrap .i64 (x1.2 - 1)) b.length then
  bif decide ((rd (.pair (.int .u64) (.slice 5 (.int .u8))) b x1.2).1 ≤ (rd (.pair (.int .u64) (.slice 5 (.int .u8))) b (IntKind.wrap .i64 (x1.2 - 1))).1) then (
  some 1)
  else (
  rec1 (x1.1, (IntKind.wrap .i64 (x1.2 + 1))))
  else none)
  else (
  (both (
  (fun o => both o o) (
  rec1 (x1.1, (IntKind.wrap .i64 (x1.2 + 1))))) (
  rec1 (x1.1, (IntKind.wrap .i64 (x1.2 + 1)))))))
  else (
  (both (
  (fun o => both o o) (
  some 1)) (
  some 1)))
  else none)
  else (
  some 0)) (0, 0))
theorem ev96 (b : List (Int × List Int)) : evF C46 H96 Try.f96 (encs [.one (.slice 102 (.pair (.int .u64) (.slice 5 (.int .u8))))] b) (RT.dec (.one (.leaf (.int .i64)))) = F96 b := by kernel_rfl
noncomputable def C96 : Ctx := Ctx.add C46 96 [.one (.slice 102 (.pair (.int .u64) (.slice 5 (.int .u8))))] (.one (.leaf (.int .i64))) F96
theorem s96 : C96.Sound := Ctx.Sound.add (C := C46) mixed s46 Try.func96 ev96
/-! damson/damsonref02.Put -/
def H74 : Nat → Head
  | 5 => ⟨[.row 4 18437 5 (.int .u8), .data 12 (.int .i64)], []⟩
  | _ => ⟨[], []⟩
noncomputable def F74 (b : List (Int × List Int)) : Option (List Int × Int) :=
 (F96 b).bind fun r1 =>
 bif (!decide (r1 = 0)) then (
 some (([] : List Int), 1))
 else (
 lfp (fun (rec2 : (List Int × Int) → Option (List Int × Int)) (x2 : List Int × Int) =>
  bif decide (x2.2 < (b.length : Int)) then (
  bif inb x2.2 b.length then
  (F64 ([(rd (.pair (.int .u64) (.slice 5 (.int .u8))) b x2.2).1, (IntKind.wrap .u64 (((rd (.pair (.int .u64) (.slice 5 (.int .u8))) b x2.2).2).length : Int))])).bind fun r3 =>
  bif decide ((x2.1.length + r3.length) * 1 ≤ LIM) then
  bif decide (((x2.1 ++ r3).length + ((rd (.pair (.int .u64) (.slice 5 (.int .u8))) b x2.2).2).length) * 1 ≤ LIM) then
  rec2 (((x2.1 ++ r3) ++ ((rd (.pair (.int .u64) (.slice 5 (.int .u8))) b x2.2).2)), (IntKind.wrap .i64 (x2.2 + 1)))
  else none
  else none
  else none)
  else (
  bif decide (65535 < (x2.1.length : Int)) then (
  some (([] : List Int), 4))
  else (
  some (x2.1, 0)))) (([] : List Int), 0))
theorem ev74 (b : List (Int × List Int)) : evF C96 H74 Try.f74 (encs [.one (.slice 102 (.pair (.int .u64) (.slice 5 (.int .u8))))] b) (RT.dec (.tup [.leaf (.fresh 5 (.int .u8)), .leaf (.int .i64)])) = F74 b := by kernel_rfl
noncomputable def C74 : Ctx := Ctx.add C96 74 [.one (.slice 102 (.pair (.int .u64) (.slice 5 (.int .u8))))] (.tup [.leaf (.fresh 5 (.int .u8)), .leaf (.int .i64)]) F74
theorem s74 : C74.Sound := Ctx.Sound.add (C := C96) mixed s96 Try.func74 ev74
/-! damson/damsonref07.Put -/
def H47 : Nat → Head
  | 5 => ⟨[.row 4 18437 102 (.pair (.int .u64) (.slice 5 (.int .u8))), .data 27 (.int .i64)], [86016, 81920, 61440, 57344, 4096]⟩
  | 5000003 => ⟨[], [0, 0, 1, 1, 2, 2, 4, 4, 8, 8, 0, 0, 32, 32, 64, 64, 128, 128, 264, 256, 512, 512, 1040, 1040, 4095, 2048]⟩
  | _ => ⟨[], []⟩
noncomputable def F47 (b : (Int × (List (Int × (Int × Int)) × Int))) : Option (List Int × Int) :=
 (F44 (b.1, (b.2.1, b.2.2))).bind fun r1 =>
 bif (!decide (r1 = 0)) then (
 some (([] : List Int), 1))
 else (
 (both (
 (both (
 (both (
 (F64 ([b.1])).bind fun r2 =>
 (both (
 (F64 ([(IntKind.wrap .u64 b.2.2)])).bind fun r3 =>
 lfp (fun (rec4 : (List (Int × List Int) × Int) → Option (List Int × Int)) (x4 : List (Int × List Int) × Int) =>
  bif decide (x4.2 < (b.2.1.length : Int)) then (
  bif inb x4.2 b.2.1.length then
  (F67 ((rd (.pair (.int .i64) (.pair (.int .u64) (.int .u64))) b.2.1 x4.2).1, (((rd (.pair (.int .i64) (.pair (.int .u64) (.int .u64))) b.2.1 x4.2).2).1, ((rd (.pair (.int .i64) (.pair (.int .u64) (.int .u64))) b.2.1 x4.2).2).2))).bind fun r5 =>
  bif decide ((x4.1.length + 1) * 32 ≤ LIM) then
  rec4 ((x4.1 ++ ([((IntKind.wrap .u64 (IntKind.wrap .i64 (16 + x4.2))), r5.1)])), (IntKind.wrap .i64 (x4.2 + 1)))
  else none
  else none)
  else (
  (F74 x4.1).bind fun r6 =>
  some (r6.1, r6.2))) (([(1, r2), (2, r3)]), 0)) (
 (both (
 (F64 ([(IntKind.wrap .u64 b.2.2)])).bind fun r3 =>
 lfp (fun (rec4 : (List (Int × List Int) × Int) → Option (List Int × Int)) (x4 : List (Int × List Int) × Int) =>
  bif decide (x4.2 < (b.2.1.length : Int)) then (
  bif inb x4.2 b.2.1.length then
  (F67 ((rd (.pair (.int .i64) (.pair (.int .u64) (.int .u64))) b.2.1 x4.2).1, (((rd (.pair (.int .i64) (.pair (.int .u64) (.int .u64))) b.2.1 x4.2).2).1, ((rd (.pair (.int .i64) (.pair (.int .u64) (.int .u64))) b.2.1 x4.2).2).2))).bind fun r5 =>
  bif decide ((x4.1.length + 1) * 32 ≤ LIM) then
  rec4 ((x4.1 ++ ([((IntKind.wrap .u64 (IntKind.wrap .i64 (16 + x4.2))), r5.1)])), (IntKind.wrap .i64 (x4.2 + 1)))
  else none
  else none)
  else (
  (F74 x4.1).bind fun r6 =>
  some (r6.1, r6.2))) (([(1, r2), (2, r3)]), 0)) (
 (both (
 (F64 ([(IntKind.wrap .u64 b.2.2)])).bind fun r3 =>
 lfp (fun (rec4 : (List (Int × List Int) × Int) → Option (List Int × Int)) (x4 : List (Int × List Int) × Int) =>
  bif decide (x4.2 < (b.2.1.length : Int)) then (
  bif inb x4.2 b.2.1.length then
  (F67 ((rd (.pair (.int .i64) (.pair (.int .u64) (.int .u64))) b.2.1 x4.2).1, (((rd (.pair (.int .i64) (.pair (.int .u64) (.int .u64))) b.2.1 x4.2).2).1, ((rd (.pair (.int .i64) (.pair (.int .u64) (.int .u64))) b.2.1 x4.2).2).2))).bind fun r5 =>
  bif decide ((x4.1.length + 1) * 32 ≤ LIM) then
  rec4 ((x4.1 ++ ([((IntKind.wrap .u64 (IntKind.wrap .i64 (16 + x4.2))), r5.1)])), (IntKind.wrap .i64 (x4.2 + 1)))
  else none
  else none)
  else (
  (F74 x4.1).bind fun r6 =>
  some (r6.1, r6.2))) (([(1, r2), (2, r3)]), 0)) (
 (F64 ([(IntKind.wrap .u64 b.2.2)])).bind fun r3 =>
 (fun o => both o o) (
 lfp (fun (rec4 : (List (Int × List Int) × Int) → Option (List Int × Int)) (x4 : List (Int × List Int) × Int) =>
  bif decide (x4.2 < (b.2.1.length : Int)) then (
  bif inb x4.2 b.2.1.length then
  (F67 ((rd (.pair (.int .i64) (.pair (.int .u64) (.int .u64))) b.2.1 x4.2).1, (((rd (.pair (.int .i64) (.pair (.int .u64) (.int .u64))) b.2.1 x4.2).2).1, ((rd (.pair (.int .i64) (.pair (.int .u64) (.int .u64))) b.2.1 x4.2).2).2))).bind fun r5 =>
  bif decide ((x4.1.length + 1) * 32 ≤ LIM) then
  rec4 ((x4.1 ++ ([((IntKind.wrap .u64 (IntKind.wrap .i64 (16 + x4.2))), r5.1)])), (IntKind.wrap .i64 (x4.2 + 1)))
  else none
  else none)
  else (
  (F74 x4.1).bind fun r6 =>
  some (r6.1, r6.2))) (([(1, r2), (2, r3)]), 0))))))))) (
 (both (
 (F64 ([b.1])).bind fun r2 =>
 (both (
 (F64 ([(IntKind.wrap .u64 b.2.2)])).bind fun r3 =>
 lfp (fun (rec4 : (List (Int × List Int) × Int) → Option (List Int × Int)) (x4 : List (Int × List Int) × Int) =>
  bif decide (x4.2 < (b.2.1.length : Int)) then (
  bif inb x4.2 b.2.1.length then
  (F67 ((rd (.pair (.int .i64) (.pair (.int .u64) (.int .u64))) b.2.1 x4.2).1, (((rd (.pair (.int .i64) (.pair (.int .u64) (.int .u64))) b.2.1 x4.2).2).1, ((rd (.pair (.int .i64) (.pair (.int .u64) (.int .u64))) b.2.1 x4.2).2).2))).bind fun r5 =>
  bif decide ((x4.1.length + 1) * 32 ≤ LIM) then
  rec4 ((x4.1 ++ ([((IntKind.wrap .u64 (IntKind.wrap .i64 (16 + x4.2))), r5.1)])), (IntKind.wrap .i64 (x4.2 + 1)))
  else none
  else none)
  else (
  (F74 x4.1).bind fun r6 =>
  some (r6.1, r6.2))) (([(1, r2), (2, r3)]), 0)) (
 (both (
 (F64 ([(IntKind.wrap .u64 b.2.2)])).bind fun r3 =>
 lfp (fun (rec4 : (List (Int × List Int) × Int) → Option (List Int × Int)) (x4 : List (Int × List Int) × Int) =>
  bif decide (x4.2 < (b.2.1.length : Int)) then (
  bif inb x4.2 b.2.1.length then
  (F67 ((rd (.pair (.int .i64) (.pair (.int .u64) (.int .u64))) b.2.1 x4.2).1, (((rd (.pair (.int .i64) (.pair (.int .u64) (.int .u64))) b.2.1 x4.2).2).1, ((rd (.pair (.int .i64) (.pair (.int .u64) (.int .u64))) b.2.1 x4.2).2).2))).bind fun r5 =>
  bif decide ((x4.1.length + 1) * 32 ≤ LIM) then
  rec4 ((x4.1 ++ ([((IntKind.wrap .u64 (IntKind.wrap .i64 (16 + x4.2))), r5.1)])), (IntKind.wrap .i64 (x4.2 + 1)))
  else none
  else none)
  else (
  (F74 x4.1).bind fun r6 =>
  some (r6.1, r6.2))) (([(1, r2), (2, r3)]), 0)) (
 (F64 ([(IntKind.wrap .u64 b.2.2)])).bind fun r3 =>
 (fun o => both o o) (
 lfp (fun (rec4 : (List (Int × List Int) × Int) → Option (List Int × Int)) (x4 : List (Int × List Int) × Int) =>
  bif decide (x4.2 < (b.2.1.length : Int)) then (
  bif inb x4.2 b.2.1.length then
  (F67 ((rd (.pair (.int .i64) (.pair (.int .u64) (.int .u64))) b.2.1 x4.2).1, (((rd (.pair (.int .i64) (.pair (.int .u64) (.int .u64))) b.2.1 x4.2).2).1, ((rd (.pair (.int .i64) (.pair (.int .u64) (.int .u64))) b.2.1 x4.2).2).2))).bind fun r5 =>
  bif decide ((x4.1.length + 1) * 32 ≤ LIM) then
  rec4 ((x4.1 ++ ([((IntKind.wrap .u64 (IntKind.wrap .i64 (16 + x4.2))), r5.1)])), (IntKind.wrap .i64 (x4.2 + 1)))
  else none
  else none)
  else (
  (F74 x4.1).bind fun r6 =>
  some (r6.1, r6.2))) (([(1, r2), (2, r3)]), 0))))))) (
 (F64 ([b.1])).bind fun r2 =>
 (both (
 (F64 ([(IntKind.wrap .u64 b.2.2)])).bind fun r3 =>
 lfp (fun (rec4 : (List (Int × List Int) × Int) → Option (List Int × Int)) (x4 : List (Int × List Int) × Int) =>
  bif decide (x4.2 < (b.2.1.length : Int)) then (
  bif inb x4.2 b.2.1.length then
  (F67 ((rd (.pair (.int .i64) (.pair (.int .u64) (.int .u64))) b.2.1 x4.2).1, (((rd (.pair (.int .i64) (.pair (.int .u64) (.int .u64))) b.2.1 x4.2).2).1, ((rd (.pair (.int .i64) (.pair (.int .u64) (.int .u64))) b.2.1 x4.2).2).2))).bind fun r5 =>
  bif decide ((x4.1.length + 1) * 32 ≤ LIM) then
  rec4 ((x4.1 ++ ([((IntKind.wrap .u64 (IntKind.wrap .i64 (16 + x4.2))), r5.1)])), (IntKind.wrap .i64 (x4.2 + 1)))
  else none
  else none)
  else (
  (F74 x4.1).bind fun r6 =>
  some (r6.1, r6.2))) (([(1, r2), (2, r3)]), 0)) (
 (F64 ([(IntKind.wrap .u64 b.2.2)])).bind fun r3 =>
 (fun o => both o o) (
 lfp (fun (rec4 : (List (Int × List Int) × Int) → Option (List Int × Int)) (x4 : List (Int × List Int) × Int) =>
  bif decide (x4.2 < (b.2.1.length : Int)) then (
  bif inb x4.2 b.2.1.length then
  (F67 ((rd (.pair (.int .i64) (.pair (.int .u64) (.int .u64))) b.2.1 x4.2).1, (((rd (.pair (.int .i64) (.pair (.int .u64) (.int .u64))) b.2.1 x4.2).2).1, ((rd (.pair (.int .i64) (.pair (.int .u64) (.int .u64))) b.2.1 x4.2).2).2))).bind fun r5 =>
  bif decide ((x4.1.length + 1) * 32 ≤ LIM) then
  rec4 ((x4.1 ++ ([((IntKind.wrap .u64 (IntKind.wrap .i64 (16 + x4.2))), r5.1)])), (IntKind.wrap .i64 (x4.2 + 1)))
  else none
  else none)
  else (
  (F74 x4.1).bind fun r6 =>
  some (r6.1, r6.2))) (([(1, r2), (2, r3)]), 0))))))))) (
 (both (
 (both (
 (F64 ([b.1])).bind fun r2 =>
 (both (
 (F64 ([(IntKind.wrap .u64 b.2.2)])).bind fun r3 =>
 lfp (fun (rec4 : (List (Int × List Int) × Int) → Option (List Int × Int)) (x4 : List (Int × List Int) × Int) =>
  bif decide (x4.2 < (b.2.1.length : Int)) then (
  bif inb x4.2 b.2.1.length then
  (F67 ((rd (.pair (.int .i64) (.pair (.int .u64) (.int .u64))) b.2.1 x4.2).1, (((rd (.pair (.int .i64) (.pair (.int .u64) (.int .u64))) b.2.1 x4.2).2).1, ((rd (.pair (.int .i64) (.pair (.int .u64) (.int .u64))) b.2.1 x4.2).2).2))).bind fun r5 =>
  bif decide ((x4.1.length + 1) * 32 ≤ LIM) then
  rec4 ((x4.1 ++ ([((IntKind.wrap .u64 (IntKind.wrap .i64 (16 + x4.2))), r5.1)])), (IntKind.wrap .i64 (x4.2 + 1)))
  else none
  else none)
  else (
  (F74 x4.1).bind fun r6 =>
  some (r6.1, r6.2))) (([(1, r2), (2, r3)]), 0)) (
 (both (
 (F64 ([(IntKind.wrap .u64 b.2.2)])).bind fun r3 =>
 lfp (fun (rec4 : (List (Int × List Int) × Int) → Option (List Int × Int)) (x4 : List (Int × List Int) × Int) =>
  bif decide (x4.2 < (b.2.1.length : Int)) then (
  bif inb x4.2 b.2.1.length then
  (F67 ((rd (.pair (.int .i64) (.pair (.int .u64) (.int .u64))) b.2.1 x4.2).1, (((rd (.pair (.int .i64) (.pair (.int .u64) (.int .u64))) b.2.1 x4.2).2).1, ((rd (.pair (.int .i64) (.pair (.int .u64) (.int .u64))) b.2.1 x4.2).2).2))).bind fun r5 =>
  bif decide ((x4.1.length + 1) * 32 ≤ LIM) then
  rec4 ((x4.1 ++ ([((IntKind.wrap .u64 (IntKind.wrap .i64 (16 + x4.2))), r5.1)])), (IntKind.wrap .i64 (x4.2 + 1)))
  else none
  else none)
  else (
  (F74 x4.1).bind fun r6 =>
  some (r6.1, r6.2))) (([(1, r2), (2, r3)]), 0)) (
 (F64 ([(IntKind.wrap .u64 b.2.2)])).bind fun r3 =>
 (fun o => both o o) (
 lfp (fun (rec4 : (List (Int × List Int) × Int) → Option (List Int × Int)) (x4 : List (Int × List Int) × Int) =>
  bif decide (x4.2 < (b.2.1.length : Int)) then (
  bif inb x4.2 b.2.1.length then
  (F67 ((rd (.pair (.int .i64) (.pair (.int .u64) (.int .u64))) b.2.1 x4.2).1, (((rd (.pair (.int .i64) (.pair (.int .u64) (.int .u64))) b.2.1 x4.2).2).1, ((rd (.pair (.int .i64) (.pair (.int .u64) (.int .u64))) b.2.1 x4.2).2).2))).bind fun r5 =>
  bif decide ((x4.1.length + 1) * 32 ≤ LIM) then
  rec4 ((x4.1 ++ ([((IntKind.wrap .u64 (IntKind.wrap .i64 (16 + x4.2))), r5.1)])), (IntKind.wrap .i64 (x4.2 + 1)))
  else none
  else none)
  else (
  (F74 x4.1).bind fun r6 =>
  some (r6.1, r6.2))) (([(1, r2), (2, r3)]), 0))))))) (
 (F64 ([b.1])).bind fun r2 =>
 (both (
 (F64 ([(IntKind.wrap .u64 b.2.2)])).bind fun r3 =>
 lfp (fun (rec4 : (List (Int × List Int) × Int) → Option (List Int × Int)) (x4 : List (Int × List Int) × Int) =>
  bif decide (x4.2 < (b.2.1.length : Int)) then (
  bif inb x4.2 b.2.1.length then
  (F67 ((rd (.pair (.int .i64) (.pair (.int .u64) (.int .u64))) b.2.1 x4.2).1, (((rd (.pair (.int .i64) (.pair (.int .u64) (.int .u64))) b.2.1 x4.2).2).1, ((rd (.pair (.int .i64) (.pair (.int .u64) (.int .u64))) b.2.1 x4.2).2).2))).bind fun r5 =>
  bif decide ((x4.1.length + 1) * 32 ≤ LIM) then
  rec4 ((x4.1 ++ ([((IntKind.wrap .u64 (IntKind.wrap .i64 (16 + x4.2))), r5.1)])), (IntKind.wrap .i64 (x4.2 + 1)))
  else none
  else none)
  else (
  (F74 x4.1).bind fun r6 =>
  some (r6.1, r6.2))) (([(1, r2), (2, r3)]), 0)) (
 (F64 ([(IntKind.wrap .u64 b.2.2)])).bind fun r3 =>
 (fun o => both o o) (
 lfp (fun (rec4 : (List (Int × List Int) × Int) → Option (List Int × Int)) (x4 : List (Int × List Int) × Int) =>
  bif decide (x4.2 < (b.2.1.length : Int)) then (
  bif inb x4.2 b.2.1.length then
  (F67 ((rd (.pair (.int .i64) (.pair (.int .u64) (.int .u64))) b.2.1 x4.2).1, (((rd (.pair (.int .i64) (.pair (.int .u64) (.int .u64))) b.2.1 x4.2).2).1, ((rd (.pair (.int .i64) (.pair (.int .u64) (.int .u64))) b.2.1 x4.2).2).2))).bind fun r5 =>
  bif decide ((x4.1.length + 1) * 32 ≤ LIM) then
  rec4 ((x4.1 ++ ([((IntKind.wrap .u64 (IntKind.wrap .i64 (16 + x4.2))), r5.1)])), (IntKind.wrap .i64 (x4.2 + 1)))
  else none
  else none)
  else (
  (F74 x4.1).bind fun r6 =>
  some (r6.1, r6.2))) (([(1, r2), (2, r3)]), 0))))))) (
 (F64 ([b.1])).bind fun r2 =>
 (both (
 (F64 ([(IntKind.wrap .u64 b.2.2)])).bind fun r3 =>
 lfp (fun (rec4 : (List (Int × List Int) × Int) → Option (List Int × Int)) (x4 : List (Int × List Int) × Int) =>
  bif decide (x4.2 < (b.2.1.length : Int)) then (
  bif inb x4.2 b.2.1.length then
  (F67 ((rd (.pair (.int .i64) (.pair (.int .u64) (.int .u64))) b.2.1 x4.2).1, (((rd (.pair (.int .i64) (.pair (.int .u64) (.int .u64))) b.2.1 x4.2).2).1, ((rd (.pair (.int .i64) (.pair (.int .u64) (.int .u64))) b.2.1 x4.2).2).2))).bind fun r5 =>
  bif decide ((x4.1.length + 1) * 32 ≤ LIM) then
  rec4 ((x4.1 ++ ([((IntKind.wrap .u64 (IntKind.wrap .i64 (16 + x4.2))), r5.1)])), (IntKind.wrap .i64 (x4.2 + 1)))
  else none
  else none)
  else (
  (F74 x4.1).bind fun r6 =>
  some (r6.1, r6.2))) (([(1, r2), (2, r3)]), 0)) (
 (F64 ([(IntKind.wrap .u64 b.2.2)])).bind fun r3 =>
 (fun o => both o o) (
 lfp (fun (rec4 : (List (Int × List Int) × Int) → Option (List Int × Int)) (x4 : List (Int × List Int) × Int) =>
  bif decide (x4.2 < (b.2.1.length : Int)) then (
  bif inb x4.2 b.2.1.length then
  (F67 ((rd (.pair (.int .i64) (.pair (.int .u64) (.int .u64))) b.2.1 x4.2).1, (((rd (.pair (.int .i64) (.pair (.int .u64) (.int .u64))) b.2.1 x4.2).2).1, ((rd (.pair (.int .i64) (.pair (.int .u64) (.int .u64))) b.2.1 x4.2).2).2))).bind fun r5 =>
  bif decide ((x4.1.length + 1) * 32 ≤ LIM) then
  rec4 ((x4.1 ++ ([((IntKind.wrap .u64 (IntKind.wrap .i64 (16 + x4.2))), r5.1)])), (IntKind.wrap .i64 (x4.2 + 1)))
  else none
  else none)
  else (
  (F74 x4.1).bind fun r6 =>
  some (r6.1, r6.2))) (([(1, r2), (2, r3)]), 0))))))))) (
 (both (
 (both (
 (both (
 (F64 ([b.1])).bind fun r2 =>
 (both (
 (F64 ([(IntKind.wrap .u64 b.2.2)])).bind fun r3 =>
 lfp (fun (rec4 : (List (Int × List Int) × Int) → Option (List Int × Int)) (x4 : List (Int × List Int) × Int) =>
  bif decide (x4.2 < (b.2.1.length : Int)) then (
  bif inb x4.2 b.2.1.length then
  (F67 ((rd (.pair (.int .i64) (.pair (.int .u64) (.int .u64))) b.2.1 x4.2).1, (((rd (.pair (.int .i64) (.pair (.int .u64) (.int .u64))) b.2.1 x4.2).2).1, ((rd (.pair (.int .i64) (.pair (.int .u64) (.int .u64))) b.2.1 x4.2).2).2))).bind fun r5 =>
  bif decide ((x4.1.length + 1) * 32 ≤ LIM) then
  rec4 ((x4.1 ++ ([((IntKind.wrap .u64 (IntKind.wrap .i64 (16 + x4.2))), r5.1)])), (IntKind.wrap .i64 (x4.2 + 1)))
  else none
  else none)
  else (
  (F74 x4.1).bind fun r6 =>
  some (r6.1, r6.2))) (([(1, r2), (2, r3)]), 0)) (
 (both (
 (F64 ([(IntKind.wrap .u64 b.2.2)])).bind fun r3 =>
 lfp (fun (rec4 : (List (Int × List Int) × Int) → Option (List Int × Int)) (x4 : List (Int × List Int) × Int) =>
  bif decide (x4.2 < (b.2.1.length : Int)) then (
  bif inb x4.2 b.2.1.length then
  (F67 ((rd (.pair (.int .i64) (.pair (.int .u64) (.int .u64))) b.2.1 x4.2).1, (((rd (.pair (.int .i64) (.pair (.int .u64) (.int .u64))) b.2.1 x4.2).2).1, ((rd (.pair (.int .i64) (.pair (.int .u64) (.int .u64))) b.2.1 x4.2).2).2))).bind fun r5 =>
  bif decide ((x4.1.length + 1) * 32 ≤ LIM) then
  rec4 ((x4.1 ++ ([((IntKind.wrap .u64 (IntKind.wrap .i64 (16 + x4.2))), r5.1)])), (IntKind.wrap .i64 (x4.2 + 1)))
  else none
  else none)
  else (
  (F74 x4.1).bind fun r6 =>
  some (r6.1, r6.2))) (([(1, r2), (2, r3)]), 0)) (
 (F64 ([(IntKind.wrap .u64 b.2.2)])).bind fun r3 =>
 (fun o => both o o) (
 lfp (fun (rec4 : (List (Int × List Int) × Int) → Option (List Int × Int)) (x4 : List (Int × List Int) × Int) =>
  bif decide (x4.2 < (b.2.1.length : Int)) then (
  bif inb x4.2 b.2.1.length then
  (F67 ((rd (.pair (.int .i64) (.pair (.int .u64) (.int .u64))) b.2.1 x4.2).1, (((rd (.pair (.int .i64) (.pair (.int .u64) (.int .u64))) b.2.1 x4.2).2).1, ((rd (.pair (.int .i64) (.pair (.int .u64) (.int .u64))) b.2.1 x4.2).2).2))).bind fun r5 =>
  bif decide ((x4.1.length + 1) * 32 ≤ LIM) then
  rec4 ((x4.1 ++ ([((IntKind.wrap .u64 (IntKind.wrap .i64 (16 + x4.2))), r5.1)])), (IntKind.wrap .i64 (x4.2 + 1)))
  else none
  else none)
  else (
  (F74 x4.1).bind fun r6 =>
  some (r6.1, r6.2))) (([(1, r2), (2, r3)]), 0))))))) (
 (F64 ([b.1])).bind fun r2 =>
 (both (
 (F64 ([(IntKind.wrap .u64 b.2.2)])).bind fun r3 =>
 lfp (fun (rec4 : (List (Int × List Int) × Int) → Option (List Int × Int)) (x4 : List (Int × List Int) × Int) =>
  bif decide (x4.2 < (b.2.1.length : Int)) then (
  bif inb x4.2 b.2.1.length then
  (F67 ((rd (.pair (.int .i64) (.pair (.int .u64) (.int .u64))) b.2.1 x4.2).1, (((rd (.pair (.int .i64) (.pair (.int .u64) (.int .u64))) b.2.1 x4.2).2).1, ((rd (.pair (.int .i64) (.pair (.int .u64) (.int .u64))) b.2.1 x4.2).2).2))).bind fun r5 =>
  bif decide ((x4.1.length + 1) * 32 ≤ LIM) then
  rec4 ((x4.1 ++ ([((IntKind.wrap .u64 (IntKind.wrap .i64 (16 + x4.2))), r5.1)])), (IntKind.wrap .i64 (x4.2 + 1)))
  else none
  else none)
  else (
  (F74 x4.1).bind fun r6 =>
  some (r6.1, r6.2))) (([(1, r2), (2, r3)]), 0)) (
 (F64 ([(IntKind.wrap .u64 b.2.2)])).bind fun r3 =>
 (fun o => both o o) (
 lfp (fun (rec4 : (List (Int × List Int) × Int) → Option (List Int × Int)) (x4 : List (Int × List Int) × Int) =>
  bif decide (x4.2 < (b.2.1.length : Int)) then (
  bif inb x4.2 b.2.1.length then
  (F67 ((rd (.pair (.int .i64) (.pair (.int .u64) (.int .u64))) b.2.1 x4.2).1, (((rd (.pair (.int .i64) (.pair (.int .u64) (.int .u64))) b.2.1 x4.2).2).1, ((rd (.pair (.int .i64) (.pair (.int .u64) (.int .u64))) b.2.1 x4.2).2).2))).bind fun r5 =>
  bif decide ((x4.1.length + 1) * 32 ≤ LIM) then
  rec4 ((x4.1 ++ ([((IntKind.wrap .u64 (IntKind.wrap .i64 (16 + x4.2))), r5.1)])), (IntKind.wrap .i64 (x4.2 + 1)))
  else none
  else none)
  else (
  (F74 x4.1).bind fun r6 =>
  some (r6.1, r6.2))) (([(1, r2), (2, r3)]), 0))))))) (
 (F64 ([b.1])).bind fun r2 =>
 (both (
 (F64 ([(IntKind.wrap .u64 b.2.2)])).bind fun r3 =>
 lfp (fun (rec4 : (List (Int × List Int) × Int) → Option (List Int × Int)) (x4 : List (Int × List Int) × Int) =>
  bif decide (x4.2 < (b.2.1.length : Int)) then (
  bif inb x4.2 b.2.1.length then
  (F67 ((rd (.pair (.int .i64) (.pair (.int .u64) (.int .u64))) b.2.1 x4.2).1, (((rd (.pair (.int .i64) (.pair (.int .u64) (.int .u64))) b.2.1 x4.2).2).1, ((rd (.pair (.int .i64) (.pair (.int .u64) (.int .u64))) b.2.1 x4.2).2).2))).bind fun r5 =>
  bif decide ((x4.1.length + 1) * 32 ≤ LIM) then
  rec4 ((x4.1 ++ ([((IntKind.wrap .u64 (IntKind.wrap .i64 (16 + x4.2))), r5.1)])), (IntKind.wrap .i64 (x4.2 + 1)))
  else none
  else none)
  else (
  (F74 x4.1).bind fun r6 =>
  some (r6.1, r6.2))) (([(1, r2), (2, r3)]), 0)) (
 (F64 ([(IntKind.wrap .u64 b.2.2)])).bind fun r3 =>
 (fun o => both o o) (
 lfp (fun (rec4 : (List (Int × List Int) × Int) → Option (List Int × Int)) (x4 : List (Int × List Int) × Int) =>
  bif decide (x4.2 < (b.2.1.length : Int)) then (
  bif inb x4.2 b.2.1.length then
  (F67 ((rd (.pair (.int .i64) (.pair (.int .u64) (.int .u64))) b.2.1 x4.2).1, (((rd (.pair (.int .i64) (.pair (.int .u64) (.int .u64))) b.2.1 x4.2).2).1, ((rd (.pair (.int .i64) (.pair (.int .u64) (.int .u64))) b.2.1 x4.2).2).2))).bind fun r5 =>
  bif decide ((x4.1.length + 1) * 32 ≤ LIM) then
  rec4 ((x4.1 ++ ([((IntKind.wrap .u64 (IntKind.wrap .i64 (16 + x4.2))), r5.1)])), (IntKind.wrap .i64 (x4.2 + 1)))
  else none
  else none)
  else (
  (F74 x4.1).bind fun r6 =>
  some (r6.1, r6.2))) (([(1, r2), (2, r3)]), 0))))))) (
 (F64 ([b.1])).bind fun r2 =>
 (both (
 (F64 ([(IntKind.wrap .u64 b.2.2)])).bind fun r3 =>
 lfp (fun (rec4 : (List (Int × List Int) × Int) → Option (List Int × Int)) (x4 : List (Int × List Int) × Int) =>
  bif decide (x4.2 < (b.2.1.length : Int)) then (
  bif inb x4.2 b.2.1.length then
  (F67 ((rd (.pair (.int .i64) (.pair (.int .u64) (.int .u64))) b.2.1 x4.2).1, (((rd (.pair (.int .i64) (.pair (.int .u64) (.int .u64))) b.2.1 x4.2).2).1, ((rd (.pair (.int .i64) (.pair (.int .u64) (.int .u64))) b.2.1 x4.2).2).2))).bind fun r5 =>
  bif decide ((x4.1.length + 1) * 32 ≤ LIM) then
  rec4 ((x4.1 ++ ([((IntKind.wrap .u64 (IntKind.wrap .i64 (16 + x4.2))), r5.1)])), (IntKind.wrap .i64 (x4.2 + 1)))
  else none
  else none)
  else (
  (F74 x4.1).bind fun r6 =>
  some (r6.1, r6.2))) (([(1, r2), (2, r3)]), 0)) (
 (F64 ([(IntKind.wrap .u64 b.2.2)])).bind fun r3 =>
 (fun o => both o o) (
 lfp (fun (rec4 : (List (Int × List Int) × Int) → Option (List Int × Int)) (x4 : List (Int × List Int) × Int) =>
  bif decide (x4.2 < (b.2.1.length : Int)) then (
  bif inb x4.2 b.2.1.length then
  (F67 ((rd (.pair (.int .i64) (.pair (.int .u64) (.int .u64))) b.2.1 x4.2).1, (((rd (.pair (.int .i64) (.pair (.int .u64) (.int .u64))) b.2.1 x4.2).2).1, ((rd (.pair (.int .i64) (.pair (.int .u64) (.int .u64))) b.2.1 x4.2).2).2))).bind fun r5 =>
  bif decide ((x4.1.length + 1) * 32 ≤ LIM) then
  rec4 ((x4.1 ++ ([((IntKind.wrap .u64 (IntKind.wrap .i64 (16 + x4.2))), r5.1)])), (IntKind.wrap .i64 (x4.2 + 1)))
  else none
  else none)
  else (
  (F74 x4.1).bind fun r6 =>
  some (r6.1, r6.2))) (([(1, r2), (2, r3)]), 0)))))))))
theorem ev47 (b : (Int × (List (Int × (Int × Int)) × Int))) : evF C74 H47 Try.f47 (encs [.agg (.pair (.int .u64) (.pair (.slice 62 (.pair (.int .i64) (.pair (.int .u64) (.int .u64)))) (.int .i64)))] b) (RT.dec (.tup [.leaf (.fresh 5 (.int .u8)), .leaf (.int .i64)])) = F47 b := by kernel_rfl
noncomputable def C47 : Ctx := Ctx.add C74 47 [.agg (.pair (.int .u64) (.pair (.slice 62 (.pair (.int .i64) (.pair (.int .u64) (.int .u64)))) (.int .i64)))] (.tup [.leaf (.fresh 5 (.int .u8)), .leaf (.int .i64)]) F47
theorem s47 : C47.Sound := Ctx.Sound.add (C := C74) mixed s74 Try.func47 ev47
/-! damson/bigsize.Get -/
def H101 : Nat → Head
  | 7 => ⟨[.data 2 (.int .u64), .data 35 (.int .i64)], []⟩
  | 5000011 => ⟨[], [0, 0, 1, 1, 0, 0, 4, 4, 8, 8, 18, 18]⟩
  | _ => ⟨[], []⟩
noncomputable def F101 (b : List Int) : Option (Int × Int × Int) :=
 bif (decide ((b.length : Int) = 0) == false) then (
 bif inb 0 b.length then
 (F90 (rd (.int .u8) b 0)).bind fun r1 =>
 bif decide ((b.length : Int) ≤ r1) then (
 some (0, 0, 3))
 else (
 bif inb 0 b.length then
 (F90 (rd (.int .u8) b 0)).bind fun r2 =>
 bif decide (r2 = 0) then (
 bif inb 0 b.length then
 some ((IntKind.wrap .u64 (rd (.int .u8) b 0)), 1, 0)
 else none)
 else (
 bif (inb (IntKind.wrap .i64 (r2 + 1)) (b.length + 1) && (decide (0 ≤ 1) && decide (1 ≤ (IntKind.wrap .i64 (r2 + 1))))) then
 lfp (fun (rec3 : (Int × Int) → Option (Int × Int × Int)) (x3 : Int × Int) =>
  bif decide (x3.2 < (((b.take ((IntKind.wrap .i64 (r2 + 1)).toNat)).drop ((1 : Int).toNat)).length : Int)) then (
  bif inb x3.2 ((b.take ((IntKind.wrap .i64 (r2 + 1)).toNat)).drop ((1 : Int).toNat)).length then
  rec3 ((bitOp .or .u64 (IntKind.wrap .u64 (x3.1 * 2 ^ (min (8 : Int).toNat 64))) (IntKind.wrap .u64 (rd (.int .u8) ((b.take ((IntKind.wrap .i64 (r2 + 1)).toNat)).drop ((1 : Int).toNat)) x3.2))), (IntKind.wrap .i64 (x3.2 + 1)))
  else none)
  else (
  bif inb 0 b.length then
  (F89 x3.1).bind fun r4 =>
  bif (!decide (r4 = (rd (.int .u8) b 0))) then (
  some (0, 0, 2))
  else (
  some (x3.1, (IntKind.wrap .i64 (r2 + 1)), 0))
  else none)) (0, 0)
 else none)
 else none)
 else none)
 else (
 some (0, 0, 3))
theorem ev101 (b : List Int) : evF C47 H101 Try.f101 (encs [.one (.slice 5 (.int .u8))] b) (RT.dec (.tup [.leaf (.int .u64), .leaf (.int .i64), .leaf (.int .i64)])) = F101 b := by kernel_rfl
noncomputable def C101 : Ctx := Ctx.add C47 101 [.one (.slice 5 (.int .u8))] (.tup [.leaf (.int .u64), .leaf (.int .i64), .leaf (.int .i64)]) F101
theorem s101 : C101.Sound := Ctx.Sound.add (C := C47) mixed s47 Try.func101 ev101
/-! (*damson/tlv.reader).wrong: carried out where it is called -/
def H97 : Nat → Head := fun _ => ⟨[], []⟩
noncomputable def C97 : Ctx := Ctx.addI C101 97 H97 9000097 Try.f97
theorem s97 : C97.Sound := Ctx.Sound.addI (C := C101) mixed s101 Try.func97
/-! (*damson/tlv.reader).number: carried out where it is called -/
def H98 : Nat → Head := fun _ => ⟨[], []⟩
noncomputable def C98 : Ctx := Ctx.addI C97 98 H98 9000098 Try.f98
theorem s98 : C98.Sound := Ctx.Sound.addI (C := C97) mixed s97 Try.func98
/-! damson/tlv.Get -/
def H75 : Nat → Head
  | 3 => ⟨[.row 2 10243 102 (.pair (.int .u64) (.slice 5 (.int .u8))), .box 36864 (.pair (.slice 5 (.int .u8)) (.int .i64))], []⟩
  | 5000014 => ⟨[], [0, 0, 1, 1, 2, 2, 4, 4, 0, 0, 31, 8]⟩
  | _ => ⟨[], []⟩
noncomputable def F75 (b : List Int) : Option ((List (Int × List Int)) × Int) :=
 bif (bif decide (65535 < (b.length : Int)) then true else false) then (
 lfp (fun (rec1 : (List (Int × List Int) × (List Int × Int)) → Option ((List (Int × List Int)) × Int)) (x1 : List (Int × List Int) × (List Int × Int)) =>
  bif (bif decide (x1.2.2 = 0) then decide (0 < (x1.2.1.length : Int)) else false) then (
  bif (bif decide ((x1.1.length : Int) = 64) then decide (x1.2.2 = 0) else false) then (
  bif (decide (0 < (x1.1.length : Int)) == true) then (
  bif inb (if (IntKind.wrap .i64 ((x1.1.length : Int) - 1)) < 0 then 0 else (IntKind.wrap .i64 ((x1.1.length : Int) - 1))) x1.1.length then
  (F99 (((rd (.pair (.int .u64) (.slice 5 (.int .u8))) x1.1 (if (IntKind.wrap .i64 ((x1.1.length : Int) - 1)) < 0 then 0 else (IntKind.wrap .i64 ((x1.1.length : Int) - 1)))).1, (rd (.pair (.int .u64) (.slice 5 (.int .u8))) x1.1 (if (IntKind.wrap .i64 ((x1.1.length : Int) - 1)) < 0 then 0 else (IntKind.wrap .i64 ((x1.1.length : Int) - 1)))).2), 0)).bind fun r2 =>
  bif (bif decide (0 ≤ r2) then false else false) then (
  bif (bif decide ((IntKind.wrap .u64 (x1.2.1.length : Int)) < 0) then false else false) then (
  rec1 (x1.1, (x1.2.1, 3)))
  else (
  rec1 (x1.1, (x1.2.1, 2))))
  else (
  bif (bif decide ((IntKind.wrap .u64 (x1.2.1.length : Int)) < 0) then false else false) then (
  rec1 (x1.1, (x1.2.1, 3)))
  else (
  rec1 (x1.1, (x1.2.1, 4))))
  else none)
  else (
  bif (bif decide ((IntKind.wrap .u64 (x1.2.1.length : Int)) < 0) then false else false) then (
  rec1 (x1.1, (x1.2.1, 3)))
  else (
  rec1 (x1.1, (x1.2.1, 4)))))
  else (
  bif (!decide (x1.2.2 = 0)) then (
  bif (decide (0 < (x1.1.length : Int)) == true) then (
  bif inb (if (IntKind.wrap .i64 ((x1.1.length : Int) - 1)) < 0 then 0 else (IntKind.wrap .i64 ((x1.1.length : Int) - 1))) x1.1.length then
  (F99 (((rd (.pair (.int .u64) (.slice 5 (.int .u8))) x1.1 (if (IntKind.wrap .i64 ((x1.1.length : Int) - 1)) < 0 then 0 else (IntKind.wrap .i64 ((x1.1.length : Int) - 1)))).1, (rd (.pair (.int .u64) (.slice 5 (.int .u8))) x1.1 (if (IntKind.wrap .i64 ((x1.1.length : Int) - 1)) < 0 then 0 else (IntKind.wrap .i64 ((x1.1.length : Int) - 1)))).2), 0)).bind fun r3 =>
  bif (bif decide (0 ≤ r3) then decide (x1.2.2 = 0) else false) then (
  bif (bif decide ((IntKind.wrap .u64 (x1.2.1.length : Int)) < 0) then false else false) then (
  rec1 (x1.1, (x1.2.1, 3)))
  else (
  rec1 (x1.1, (x1.2.1, 2))))
  else (
  bif (!decide (x1.2.2 = 0)) then (
  bif (bif decide ((IntKind.wrap .u64 (x1.2.1.length : Int)) < 0) then decide (x1.2.2 = 0) else false) then (
  rec1 (x1.1, (x1.2.1, 3)))
  else (
  bif decide (x1.2.2 = 0) then (
  bif inb 0 (x1.2.1.length + 1) then
  (F60 (x1.2.1.take ((0 : Int).toNat))).bind fun r4 =>
  bif decide ((x1.1.length + 1) * 32 ≤ LIM) then
  bif inb 0 (x1.2.1.length + 1) then
  rec1 ((x1.1 ++ ([(0, r4)])), (x1.2.1.drop ((0 : Int).toNat), x1.2.2))
  else none
  else none
  else none)
  else (
  rec1 (x1.1, (x1.2.1, x1.2.2)))))
  else (
  (F101 x1.2.1).bind fun r5 =>
  bif inb r5.2.1 (x1.2.1.length + 1) then
  bif (bif decide (4096 < r5.1) then decide (r5.2.2 = 0) else false) then (
  bif (bif decide ((IntKind.wrap .u64 ((x1.2.1.drop r5.2.1.toNat).length : Int)) < r5.1) then false else false) then (
  rec1 (x1.1, (x1.2.1.drop r5.2.1.toNat, 3)))
  else (
  rec1 (x1.1, (x1.2.1.drop r5.2.1.toNat, 4))))
  else (
  bif (bif decide ((IntKind.wrap .u64 ((x1.2.1.drop r5.2.1.toNat).length : Int)) < r5.1) then decide (r5.2.2 = 0) else false) then (
  rec1 (x1.1, (x1.2.1.drop r5.2.1.toNat, 3)))
  else (
  bif decide (r5.2.2 = 0) then (
  bif inb r5.1 ((x1.2.1.drop r5.2.1.toNat).length + 1) then
  (F60 ((x1.2.1.drop r5.2.1.toNat).take r5.1.toNat)).bind fun r6 =>
  bif decide ((x1.1.length + 1) * 32 ≤ LIM) then
  bif inb r5.1 ((x1.2.1.drop r5.2.1.toNat).length + 1) then
  rec1 ((x1.1 ++ ([(0, r6)])), ((x1.2.1.drop r5.2.1.toNat).drop r5.1.toNat, r5.2.2))
  else none
  else none
  else none)
  else (
  rec1 (x1.1, (x1.2.1.drop r5.2.1.toNat, r5.2.2)))))
  else none))
  else none)
  else (
  bif (!decide (x1.2.2 = 0)) then (
  bif (bif decide ((IntKind.wrap .u64 (x1.2.1.length : Int)) < 0) then decide (x1.2.2 = 0) else false) then (
  rec1 (x1.1, (x1.2.1, 3)))
  else (
  bif decide (x1.2.2 = 0) then (
  bif inb 0 (x1.2.1.length + 1) then
  (F60 (x1.2.1.take ((0 : Int).toNat))).bind fun r7 =>
  bif decide ((x1.1.length + 1) * 32 ≤ LIM) then
  bif inb 0 (x1.2.1.length + 1) then
  rec1 ((x1.1 ++ ([(0, r7)])), (x1.2.1.drop ((0 : Int).toNat), x1.2.2))
  else none
  else none
  else none)
  else (
  rec1 (x1.1, (x1.2.1, x1.2.2)))))
  else (
  (F101 x1.2.1).bind fun r8 =>
  bif inb r8.2.1 (x1.2.1.length + 1) then
  bif (bif decide (4096 < r8.1) then decide (r8.2.2 = 0) else false) then (
  bif (bif decide ((IntKind.wrap .u64 ((x1.2.1.drop r8.2.1.toNat).length : Int)) < r8.1) then false else false) then (
  rec1 (x1.1, (x1.2.1.drop r8.2.1.toNat, 3)))
  else (
  rec1 (x1.1, (x1.2.1.drop r8.2.1.toNat, 4))))
  else (
  bif (bif decide ((IntKind.wrap .u64 ((x1.2.1.drop r8.2.1.toNat).length : Int)) < r8.1) then decide (r8.2.2 = 0) else false) then (
  rec1 (x1.1, (x1.2.1.drop r8.2.1.toNat, 3)))
  else (
  bif decide (r8.2.2 = 0) then (
  bif inb r8.1 ((x1.2.1.drop r8.2.1.toNat).length + 1) then
  (F60 ((x1.2.1.drop r8.2.1.toNat).take r8.1.toNat)).bind fun r9 =>
  bif decide ((x1.1.length + 1) * 32 ≤ LIM) then
  bif inb r8.1 ((x1.2.1.drop r8.2.1.toNat).length + 1) then
  rec1 ((x1.1 ++ ([(0, r9)])), ((x1.2.1.drop r8.2.1.toNat).drop r8.1.toNat, r8.2.2))
  else none
  else none
  else none)
  else (
  rec1 (x1.1, (x1.2.1.drop r8.2.1.toNat, r8.2.2)))))
  else none)))
  else (
  (F101 x1.2.1).bind fun r10 =>
  bif inb r10.2.1 (x1.2.1.length + 1) then
  bif (decide (0 < (x1.1.length : Int)) == true) then (
  bif inb (if (IntKind.wrap .i64 ((x1.1.length : Int) - 1)) < 0 then 0 else (IntKind.wrap .i64 ((x1.1.length : Int) - 1))) x1.1.length then
  (F99 (((rd (.pair (.int .u64) (.slice 5 (.int .u8))) x1.1 (if (IntKind.wrap .i64 ((x1.1.length : Int) - 1)) < 0 then 0 else (IntKind.wrap .i64 ((x1.1.length : Int) - 1)))).1, (rd (.pair (.int .u64) (.slice 5 (.int .u8))) x1.1 (if (IntKind.wrap .i64 ((x1.1.length : Int) - 1)) < 0 then 0 else (IntKind.wrap .i64 ((x1.1.length : Int) - 1)))).2), r10.1)).bind fun r11 =>
  bif (bif decide (0 ≤ r11) then decide (r10.2.2 = 0) else false) then (
  bif (bif decide ((IntKind.wrap .u64 ((x1.2.1.drop r10.2.1.toNat).length : Int)) < 0) then false else false) then (
  rec1 (x1.1, (x1.2.1.drop r10.2.1.toNat, 3)))
  else (
  rec1 (x1.1, (x1.2.1.drop r10.2.1.toNat, 2))))
  else (
  bif (!decide (r10.2.2 = 0)) then (
  bif (bif decide ((IntKind.wrap .u64 ((x1.2.1.drop r10.2.1.toNat).length : Int)) < 0) then decide (r10.2.2 = 0) else false) then (
  rec1 (x1.1, (x1.2.1.drop r10.2.1.toNat, 3)))
  else (
  bif decide (r10.2.2 = 0) then (
  bif inb 0 ((x1.2.1.drop r10.2.1.toNat).length + 1) then
  (F60 ((x1.2.1.drop r10.2.1.toNat).take ((0 : Int).toNat))).bind fun r12 =>
  bif decide ((x1.1.length + 1) * 32 ≤ LIM) then
  bif inb 0 ((x1.2.1.drop r10.2.1.toNat).length + 1) then
  rec1 ((x1.1 ++ ([(r10.1, r12)])), ((x1.2.1.drop r10.2.1.toNat).drop ((0 : Int).toNat), r10.2.2))
  else none
  else none
  else none)
  else (
  rec1 (x1.1, (x1.2.1.drop r10.2.1.toNat, r10.2.2)))))
  else (
  (F101 (x1.2.1.drop r10.2.1.toNat)).bind fun r13 =>
  bif inb r13.2.1 ((x1.2.1.drop r10.2.1.toNat).length + 1) then
  bif (bif decide (4096 < r13.1) then decide (r13.2.2 = 0) else false) then (
  bif (bif decide ((IntKind.wrap .u64 (((x1.2.1.drop r10.2.1.toNat).drop r13.2.1.toNat).length : Int)) < r13.1) then false else false) then (
  rec1 (x1.1, ((x1.2.1.drop r10.2.1.toNat).drop r13.2.1.toNat, 3)))
  else (
  rec1 (x1.1, ((x1.2.1.drop r10.2.1.toNat).drop r13.2.1.toNat, 4))))
  else (
  bif (bif decide ((IntKind.wrap .u64 (((x1.2.1.drop r10.2.1.toNat).drop r13.2.1.toNat).length : Int)) < r13.1) then decide (r13.2.2 = 0) else false) then (
  rec1 (x1.1, ((x1.2.1.drop r10.2.1.toNat).drop r13.2.1.toNat, 3)))
  else (
  bif decide (r13.2.2 = 0) then (
  bif inb r13.1 (((x1.2.1.drop r10.2.1.toNat).drop r13.2.1.toNat).length + 1) then
  (F60 (((x1.2.1.drop r10.2.1.toNat).drop r13.2.1.toNat).take r13.1.toNat)).bind fun r14 =>
  bif decide ((x1.1.length + 1) * 32 ≤ LIM) then
  bif inb r13.1 (((x1.2.1.drop r10.2.1.toNat).drop r13.2.1.toNat).length + 1) then
  rec1 ((x1.1 ++ ([(r10.1, r14)])), (((x1.2.1.drop r10.2.1.toNat).drop r13.2.1.toNat).drop r13.1.toNat, r13.2.2))
  else none
  else none
  else none)
  else (
  rec1 (x1.1, ((x1.2.1.drop r10.2.1.toNat).drop r13.2.1.toNat, r13.2.2)))))
  else none))
  else none)
  else (
  bif (!decide (r10.2.2 = 0)) then (
  bif (bif decide ((IntKind.wrap .u64 ((x1.2.1.drop r10.2.1.toNat).length : Int)) < 0) then decide (r10.2.2 = 0) else false) then (
  rec1 (x1.1, (x1.2.1.drop r10.2.1.toNat, 3)))
  else (
  bif decide (r10.2.2 = 0) then (
  bif inb 0 ((x1.2.1.drop r10.2.1.toNat).length + 1) then
  (F60 ((x1.2.1.drop r10.2.1.toNat).take ((0 : Int).toNat))).bind fun r15 =>
  bif decide ((x1.1.length + 1) * 32 ≤ LIM) then
  bif inb 0 ((x1.2.1.drop r10.2.1.toNat).length + 1) then
  rec1 ((x1.1 ++ ([(r10.1, r15)])), ((x1.2.1.drop r10.2.1.toNat).drop ((0 : Int).toNat), r10.2.2))
  else none
  else none
  else none)
  else (
  rec1 (x1.1, (x1.2.1.drop r10.2.1.toNat, r10.2.2)))))
  else (
  (F101 (x1.2.1.drop r10.2.1.toNat)).bind fun r16 =>
  bif inb r16.2.1 ((x1.2.1.drop r10.2.1.toNat).length + 1) then
  bif (bif decide (4096 < r16.1) then decide (r16.2.2 = 0) else false) then (
  bif (bif decide ((IntKind.wrap .u64 (((x1.2.1.drop r10.2.1.toNat).drop r16.2.1.toNat).length : Int)) < r16.1) then false else false) then (
  rec1 (x1.1, ((x1.2.1.drop r10.2.1.toNat).drop r16.2.1.toNat, 3)))
  else (
  rec1 (x1.1, ((x1.2.1.drop r10.2.1.toNat).drop r16.2.1.toNat, 4))))
  else (
  bif (bif decide ((IntKind.wrap .u64 (((x1.2.1.drop r10.2.1.toNat).drop r16.2.1.toNat).length : Int)) < r16.1) then decide (r16.2.2 = 0) else false) then (
  rec1 (x1.1, ((x1.2.1.drop r10.2.1.toNat).drop r16.2.1.toNat, 3)))
  else (
  bif decide (r16.2.2 = 0) then (
  bif inb r16.1 (((x1.2.1.drop r10.2.1.toNat).drop r16.2.1.toNat).length + 1) then
  (F60 (((x1.2.1.drop r10.2.1.toNat).drop r16.2.1.toNat).take r16.1.toNat)).bind fun r17 =>
  bif decide ((x1.1.length + 1) * 32 ≤ LIM) then
  bif inb r16.1 (((x1.2.1.drop r10.2.1.toNat).drop r16.2.1.toNat).length + 1) then
  rec1 ((x1.1 ++ ([(r10.1, r17)])), (((x1.2.1.drop r10.2.1.toNat).drop r16.2.1.toNat).drop r16.1.toNat, r16.2.2))
  else none
  else none
  else none)
  else (
  rec1 (x1.1, ((x1.2.1.drop r10.2.1.toNat).drop r16.2.1.toNat, r16.2.2)))))
  else none))
  else none)))
  else (
  bif (!decide (x1.2.2 = 0)) then (
  some (([] : List (Int × List Int)), x1.2.2))
  else (
  some (x1.1, 0)))) (([] : List (Int × List Int)), (b, 4)))
 else (
 lfp (fun (rec18 : (List (Int × List Int) × (List Int × Int)) → Option ((List (Int × List Int)) × Int)) (x18 : List (Int × List Int) × (List Int × Int)) =>
  bif (bif decide (x18.2.2 = 0) then decide (0 < (x18.2.1.length : Int)) else false) then (
  bif (bif decide ((x18.1.length : Int) = 64) then decide (x18.2.2 = 0) else false) then (
  bif (decide (0 < (x18.1.length : Int)) == true) then (
  bif inb (if (IntKind.wrap .i64 ((x18.1.length : Int) - 1)) < 0 then 0 else (IntKind.wrap .i64 ((x18.1.length : Int) - 1))) x18.1.length then
  (F99 (((rd (.pair (.int .u64) (.slice 5 (.int .u8))) x18.1 (if (IntKind.wrap .i64 ((x18.1.length : Int) - 1)) < 0 then 0 else (IntKind.wrap .i64 ((x18.1.length : Int) - 1)))).1, (rd (.pair (.int .u64) (.slice 5 (.int .u8))) x18.1 (if (IntKind.wrap .i64 ((x18.1.length : Int) - 1)) < 0 then 0 else (IntKind.wrap .i64 ((x18.1.length : Int) - 1)))).2), 0)).bind fun r19 =>
  bif (bif decide (0 ≤ r19) then false else false) then (
  bif (bif decide ((IntKind.wrap .u64 (x18.2.1.length : Int)) < 0) then false else false) then (
  rec18 (x18.1, (x18.2.1, 3)))
  else (
  rec18 (x18.1, (x18.2.1, 2))))
  else (
  bif (bif decide ((IntKind.wrap .u64 (x18.2.1.length : Int)) < 0) then false else false) then (
  rec18 (x18.1, (x18.2.1, 3)))
  else (
  rec18 (x18.1, (x18.2.1, 4))))
  else none)
  else (
  bif (bif decide ((IntKind.wrap .u64 (x18.2.1.length : Int)) < 0) then false else false) then (
  rec18 (x18.1, (x18.2.1, 3)))
  else (
  rec18 (x18.1, (x18.2.1, 4)))))
  else (
  bif (!decide (x18.2.2 = 0)) then (
  bif (decide (0 < (x18.1.length : Int)) == true) then (
  bif inb (if (IntKind.wrap .i64 ((x18.1.length : Int) - 1)) < 0 then 0 else (IntKind.wrap .i64 ((x18.1.length : Int) - 1))) x18.1.length then
  (F99 (((rd (.pair (.int .u64) (.slice 5 (.int .u8))) x18.1 (if (IntKind.wrap .i64 ((x18.1.length : Int) - 1)) < 0 then 0 else (IntKind.wrap .i64 ((x18.1.length : Int) - 1)))).1, (rd (.pair (.int .u64) (.slice 5 (.int .u8))) x18.1 (if (IntKind.wrap .i64 ((x18.1.length : Int) - 1)) < 0 then 0 else (IntKind.wrap .i64 ((x18.1.length : Int) - 1)))).2), 0)).bind fun r20 =>
  bif (bif decide (0 ≤ r20) then decide (x18.2.2 = 0) else false) then (
  bif (bif decide ((IntKind.wrap .u64 (x18.2.1.length : Int)) < 0) then false else false) then (
  rec18 (x18.1, (x18.2.1, 3)))
  else (
  rec18 (x18.1, (x18.2.1, 2))))
  else (
  bif (!decide (x18.2.2 = 0)) then (
  bif (bif decide ((IntKind.wrap .u64 (x18.2.1.length : Int)) < 0) then decide (x18.2.2 = 0) else false) then (
  rec18 (x18.1, (x18.2.1, 3)))
  else (
  bif decide (x18.2.2 = 0) then (
  bif inb 0 (x18.2.1.length + 1) then
  (F60 (x18.2.1.take ((0 : Int).toNat))).bind fun r21 =>
  bif decide ((x18.1.length + 1) * 32 ≤ LIM) then
  bif inb 0 (x18.2.1.length + 1) then
  rec18 ((x18.1 ++ ([(0, r21)])), (x18.2.1.drop ((0 : Int).toNat), x18.2.2))
  else none
  else none
  else none)
  else (
  rec18 (x18.1, (x18.2.1, x18.2.2)))))
  else (
  (F101 x18.2.1).bind fun r22 =>
  bif inb r22.2.1 (x18.2.1.length + 1) then
  bif (bif decide (4096 < r22.1) then decide (r22.2.2 = 0) else false) then (
  bif (bif decide ((IntKind.wrap .u64 ((x18.2.1.drop r22.2.1.toNat).length : Int)) < r22.1) then false else false) then (
  rec18 (x18.1, (x18.2.1.drop r22.2.1.toNat, 3)))
  else (
  rec18 (x18.1, (x18.2.1.drop r22.2.1.toNat, 4))))
  else (
  bif (bif decide ((IntKind.wrap .u64 ((x18.2.1.drop r22.2.1.toNat).length : Int)) < r22.1) then decide (r22.2.2 = 0) else false) then (
  rec18 (x18.1, (x18.2.1.drop r22.2.1.toNat, 3)))
  else (
  bif decide (r22.2.2 = 0) then (
  bif inb r22.1 ((x18.2.1.drop r22.2.1.toNat).length + 1) then
  (F60 ((x18.2.1.drop r22.2.1.toNat).take r22.1.toNat)).bind fun r23 =>
  bif decide ((x18.1.length + 1) * 32 ≤ LIM) then
  bif inb r22.1 ((x18.2.1.drop r22.2.1.toNat).length + 1) then
  rec18 ((x18.1 ++ ([(0, r23)])), ((x18.2.1.drop r22.2.1.toNat).drop r22.1.toNat, r22.2.2))
  else none
  else none
  else none)
  else (
  rec18 (x18.1, (x18.2.1.drop r22.2.1.toNat, r22.2.2)))))
  else none))
  else none)
  else (
  bif (!decide (x18.2.2 = 0)) then (
  bif (bif decide ((IntKind.wrap .u64 (x18.2.1.length : Int)) < 0) then decide (x18.2.2 = 0) else false) then (
  rec18 (x18.1, (x18.2.1, 3)))
  else (
  bif decide (x18.2.2 = 0) then (
  bif inb 0 (x18.2.1.length + 1) then
  (F60 (x18.2.1.take ((0 : Int).toNat))).bind fun r24 =>
  bif decide ((x18.1.length + 1) * 32 ≤ LIM) then
  bif inb 0 (x18.2.1.length + 1) then
  rec18 ((x18.1 ++ ([(0, r24)])), (x18.2.1.drop ((0 : Int).toNat), x18.2.2))
  else none
  else none
  else none)
  else (
  rec18 (x18.1, (x18.2.1, x18.2.2)))))
  else (
  (F101 x18.2.1).bind fun r25 =>
  bif inb r25.2.1 (x18.2.1.length + 1) then
  bif (bif decide (4096 < r25.1) then decide (r25.2.2 = 0) else false) then (
  bif (bif decide ((IntKind.wrap .u64 ((x18.2.1.drop r25.2.1.toNat).length : Int)) < r25.1) then false else false) then (
  rec18 (x18.1, (x18.2.1.drop r25.2.1.toNat, 3)))
  else (
  rec18 (x18.1, (x18.2.1.drop r25.2.1.toNat, 4))))
  else (
  bif (bif decide ((IntKind.wrap .u64 ((x18.2.1.drop r25.2.1.toNat).length : Int)) < r25.1) then decide (r25.2.2 = 0) else false) then (
  rec18 (x18.1, (x18.2.1.drop r25.2.1.toNat, 3)))
  else (
  bif decide (r25.2.2 = 0) then (
  bif inb r25.1 ((x18.2.1.drop r25.2.1.toNat).length + 1) then
  (F60 ((x18.2.1.drop r25.2.1.toNat).take r25.1.toNat)).bind fun r26 =>
  bif decide ((x18.1.length + 1) * 32 ≤ LIM) then
  bif inb r25.1 ((x18.2.1.drop r25.2.1.toNat).length + 1) then
  rec18 ((x18.1 ++ ([(0, r26)])), ((x18.2.1.drop r25.2.1.toNat).drop r25.1.toNat, r25.2.2))
  else none
  else none
  else none)
  else (
  rec18 (x18.1, (x18.2.1.drop r25.2.1.toNat, r25.2.2)))))
  else none)))
  else (
  (F101 x18.2.1).bind fun r27 =>
  bif inb r27.2.1 (x18.2.1.length + 1) then
  bif (decide (0 < (x18.1.length : Int)) == true) then (
  bif inb (if (IntKind.wrap .i64 ((x18.1.length : Int) - 1)) < 0 then 0 else (IntKind.wrap .i64 ((x18.1.length : Int) - 1))) x18.1.length then
  (F99 (((rd (.pair (.int .u64) (.slice 5 (.int .u8))) x18.1 (if (IntKind.wrap .i64 ((x18.1.length : Int) - 1)) < 0 then 0 else (IntKind.wrap .i64 ((x18.1.length : Int) - 1)))).1, (rd (.pair (.int .u64) (.slice 5 (.int .u8))) x18.1 (if (IntKind.wrap .i64 ((x18.1.length : Int) - 1)) < 0 then 0 else (IntKind.wrap .i64 ((x18.1.length : Int) - 1)))).2), r27.1)).bind fun r28 =>
  bif (bif decide (0 ≤ r28) then decide (r27.2.2 = 0) else false) then (
  bif (bif decide ((IntKind.wrap .u64 ((x18.2.1.drop r27.2.1.toNat).length : Int)) < 0) then false else false) then (
  rec18 (x18.1, (x18.2.1.drop r27.2.1.toNat, 3)))
  else (
  rec18 (x18.1, (x18.2.1.drop r27.2.1.toNat, 2))))
  else (
  bif (!decide (r27.2.2 = 0)) then (
  bif (bif decide ((IntKind.wrap .u64 ((x18.2.1.drop r27.2.1.toNat).length : Int)) < 0) then decide (r27.2.2 = 0) else false) then (
  rec18 (x18.1, (x18.2.1.drop r27.2.1.toNat, 3)))
  else (
  bif decide (r27.2.2 = 0) then (
  bif inb 0 ((x18.2.1.drop r27.2.1.toNat).length + 1) then
  (F60 ((x18.2.1.drop r27.2.1.toNat).take ((0 : Int).toNat))).bind fun r29 =>
  bif decide ((x18.1.length + 1) * 32 ≤ LIM) then
  bif inb 0 ((x18.2.1.drop r27.2.1.toNat).length + 1) then
  rec18 ((x18.1 ++ ([(r27.1, r29)])), ((x18.2.1.drop r27.2.1.toNat).drop ((0 : Int).toNat), r27.2.2))
  else none
  else none
  else none)
  else (
  rec18 (x18.1, (x18.2.1.drop r27.2.1.toNat, r27.2.2)))))
  else (
  (F101 (x18.2.1.drop r27.2.1.toNat)).bind fun r30 =>
  bif inb r30.2.1 ((x18.2.1.drop r27.2.1.toNat).length + 1) then
  bif (bif decide (4096 < r30.1) then decide (r30.2.2 = 0) else false) then (
  bif (bif decide ((IntKind.wrap .u64 (((x18.2.1.drop r27.2.1.toNat).drop r30.2.1.toNat).length : Int)) < r30.1) then false else false) then (
  rec18 (x18.1, ((x18.2.1.drop r27.2.1.toNat).drop r30.2.1.toNat, 3)))
  else (
  rec18 (x18.1, ((x18.2.1.drop r27.2.1.toNat).drop r30.2.1.toNat, 4))))
  else (
  bif (bif decide ((IntKind.wrap .u64 (((x18.2.1.drop r27.2.1.toNat).drop r30.2.1.toNat).length : Int)) < r30.1) then decide (r30.2.2 = 0) else false) then (
  rec18 (x18.1, ((x18.2.1.drop r27.2.1.toNat).drop r30.2.1.toNat, 3)))
  else (
  bif decide (r30.2.2 = 0) then (
  bif inb r30.1 (((x18.2.1.drop r27.2.1.toNat).drop r30.2.1.toNat).length + 1) then
  (F60 (((x18.2.1.drop r27.2.1.toNat).drop r30.2.1.toNat).take r30.1.toNat)).bind fun r31 =>
  bif decide ((x18.1.length + 1) * 32 ≤ LIM) then
  bif inb r30.1 (((x18.2.1.drop r27.2.1.toNat).drop r30.2.1.toNat).length + 1) then
  rec18 ((x18.1 ++ ([(r27.1, r31)])), (((x18.2.1.drop r27.2.1.toNat).drop r30.2.1.toNat).drop r30.1.toNat, r30.2.2))
  else none
  else none
  else none)
  else (
  rec18 (x18.1, ((x18.2.1.drop r27.2.1.toNat).drop r30.2.1.toNat, r30.2.2)))))
  else none))
  else none)
  else (
  bif (!decide (r27.2.2 = 0)) then (
  bif (bif decide ((IntKind.wrap .u64 ((x18.2.1.drop r27.2.1.toNat).length : Int)) < 0) then decide (r27.2.2 = 0) else false) then (
  rec18 (x18.1, (x18.2.1.drop r27.2.1.toNat, 3)))
  else (
  bif decide (r27.2.2 = 0) then (
  bif inb 0 ((x18.2.1.drop r27.2.1.toNat).length + 1) then
  (F60 ((x18.2.1.drop r27.2.1.toNat).take ((0 : Int).toNat))).bind fun r32 =>
  bif decide ((x18.1.length + 1) * 32 ≤ LIM) then
  bif inb 0 ((x18.2.1.drop r27.2.1.toNat).length + 1) then
  rec18 ((x18.1 ++ ([(r27.1, r32)])), ((x18.2.1.drop r27.2.1.toNat).drop ((0 : Int).toNat), r27.2.2))
  else none
  else none
  else none)
  else (
  rec18 (x18.1, (x18.2.1.drop r27.2.1.toNat, r27.2.2)))))
  else (
  (F101 (x18.2.1.drop r27.2.1.toNat)).bind fun r33 =>
  bif inb r33.2.1 ((x18.2.1.drop r27.2.1.toNat).length + 1) then
  bif (bif decide (4096 < r33.1) then decide (r33.2.2 = 0) else false) then (
  bif (bif decide ((IntKind.wrap .u64 (((x18.2.1.drop r27.2.1.toNat).drop r33.2.1.toNat).length : Int)) < r33.1) then false else false) then (
  rec18 (x18.1, ((x18.2.1.drop r27.2.1.toNat).drop r33.2.1.toNat, 3)))
  else (
  rec18 (x18.1, ((x18.2.1.drop r27.2.1.toNat).drop r33.2.1.toNat, 4))))
  else (
  bif (bif decide ((IntKind.wrap .u64 (((x18.2.1.drop r27.2.1.toNat).drop r33.2.1.toNat).length : Int)) < r33.1) then decide (r33.2.2 = 0) else false) then (
  rec18 (x18.1, ((x18.2.1.drop r27.2.1.toNat).drop r33.2.1.toNat, 3)))
  else (
  bif decide (r33.2.2 = 0) then (
  bif inb r33.1 (((x18.2.1.drop r27.2.1.toNat).drop r33.2.1.toNat).length + 1) then
  (F60 (((x18.2.1.drop r27.2.1.toNat).drop r33.2.1.toNat).take r33.1.toNat)).bind fun r34 =>
  bif decide ((x18.1.length + 1) * 32 ≤ LIM) then
  bif inb r33.1 (((x18.2.1.drop r27.2.1.toNat).drop r33.2.1.toNat).length + 1) then
  rec18 ((x18.1 ++ ([(r27.1, r34)])), (((x18.2.1.drop r27.2.1.toNat).drop r33.2.1.toNat).drop r33.1.toNat, r33.2.2))
  else none
  else none
  else none)
  else (
  rec18 (x18.1, ((x18.2.1.drop r27.2.1.toNat).drop r33.2.1.toNat, r33.2.2)))))
  else none))
  else none)))
  else (
  bif (!decide (x18.2.2 = 0)) then (
  some (([] : List (Int × List Int)), x18.2.2))
  else (
  some (x18.1, 0)))) (([] : List (Int × List Int)), (b, 0)))
theorem ev75 (b : List Int) : evF C98 H75 Try.f75 (encs [.one (.slice 5 (.int .u8))] b) (RT.dec (.tup [.leaf (.fresh 102 (.pair (.int .u64) (.slice 5 (.int .u8)))), .leaf (.int .i64)])) = F75 b := by kernel_rfl
noncomputable def C75 : Ctx := Ctx.add C98 75 [.one (.slice 5 (.int .u8))] (.tup [.leaf (.fresh 102 (.pair (.int .u64) (.slice 5 (.int .u8)))), .leaf (.int .i64)]) F75
theorem s75 : C75.Sound := Ctx.Sound.add (C := C98) mixed s98 Try.func75 ev75
/-! slices.BinarySearchFunc[[]damson/api.Record,damson/api.Record,uint64] -/
def H100099 : Nat → Head
  | 3 => ⟨[.data 9 (.int .i64), .data 10 (.int .i64)], []⟩
  | _ => ⟨[], []⟩
noncomputable def F100099 (b : List (Int × List Int) × Int × Unit) : Option (Int × Bool) :=
 lfp (fun (rec1 : (Int × Int) → Option (Int × Bool)) (x1 : Int × Int) =>
  bif decide (x1.1 < x1.2) then (
  bif inb (IntKind.wrap .i64 ((IntKind.wrap .u64 (IntKind.wrap .i64 (x1.1 + x1.2))) / 2 ^ (min (1 : Int).toNat 64))) b.1.length then
  (F99 (((rd (.pair (.int .u64) (.slice 5 (.int .u8))) b.1 (IntKind.wrap .i64 ((IntKind.wrap .u64 (IntKind.wrap .i64 (x1.1 + x1.2))) / 2 ^ (min (1 : Int).toNat 64)))).1, (rd (.pair (.int .u64) (.slice 5 (.int .u8))) b.1 (IntKind.wrap .i64 ((IntKind.wrap .u64 (IntKind.wrap .i64 (x1.1 + x1.2))) / 2 ^ (min (1 : Int).toNat 64)))).2), b.2.1)).bind fun r2 =>
  bif decide (r2 < 0) then (
  rec1 ((IntKind.wrap .i64 ((IntKind.wrap .i64 ((IntKind.wrap .u64 (IntKind.wrap .i64 (x1.1 + x1.2))) / 2 ^ (min (1 : Int).toNat 64))) + 1)), x1.2))
  else (
  rec1 (x1.1, (IntKind.wrap .i64 ((IntKind.wrap .u64 (IntKind.wrap .i64 (x1.1 + x1.2))) / 2 ^ (min (1 : Int).toNat 64)))))
  else none)
  else (
  bif (decide (x1.1 < (b.1.length : Int)) == true) then (
  bif inb x1.1 b.1.length then
  (F99 (((rd (.pair (.int .u64) (.slice 5 (.int .u8))) b.1 x1.1).1, (rd (.pair (.int .u64) (.slice 5 (.int .u8))) b.1 x1.1).2), b.2.1)).bind fun r3 =>
  some (x1.1, decide (r3 = 0))
  else none)
  else (
  some (x1.1, false)))) (0, (b.1.length : Int))
theorem ev100099 (b : List (Int × List Int) × Int × Unit) : evF C75 H100099 Try.f100 (encs [.one (.slice 102 (.pair (.int .u64) (.slice 5 (.int .u8)))), .one (.int .u64), .fn 99] b) (RT.dec (.tup [.leaf (.int .i64), .leaf (.bool)])) = F100099 b := by kernel_rfl
noncomputable def C100099 : Ctx := Ctx.add C75 100 [.one (.slice 102 (.pair (.int .u64) (.slice 5 (.int .u8)))), .one (.int .u64), .fn 99] (.tup [.leaf (.int .i64), .leaf (.bool)]) F100099
theorem s100099 : C100099.Sound := Ctx.Sound.add (C := C75) mixed s75 Try.func100 ev100099
/-! damson/tlv.Find -/
def H76 : Nat → Head := fun _ => ⟨[], []⟩
noncomputable def F76 (b : List (Int × List Int) × Int) : Option (List Int × Int) :=
 (F95 b.1).bind fun r1 =>
 bif (!decide (r1 = 0)) then (
 some (([] : List Int), r1))
 else (
 (F100099 (b.1, b.2, ())).bind fun r2 =>
 bif (!r2.2) then (
 some (([] : List Int), 5))
 else (
 bif inb r2.1 b.1.length then
 (F60 ((rd (.pair (.int .u64) (.slice 5 (.int .u8))) b.1 r2.1).2)).bind fun r3 =>
 some (r3, 0)
 else none))
theorem ev76 (b : List (Int × List Int) × Int) : evF C100099 H76 Try.f76 (encs [.one (.slice 102 (.pair (.int .u64) (.slice 5 (.int .u8)))), .one (.int .u64)] b) (RT.dec (.tup [.leaf (.fresh 5 (.int .u8)), .leaf (.int .i64)])) = F76 b := by kernel_rfl
noncomputable def C76 : Ctx := Ctx.add C100099 76 [.one (.slice 102 (.pair (.int .u64) (.slice 5 (.int .u8)))), .one (.int .u64)] (.tup [.leaf (.fresh 5 (.int .u8)), .leaf (.int .i64)]) F76
theorem s76 : C76.Sound := Ctx.Sound.add (C := C100099) mixed s100099 Try.func76 ev76
/-! damson/tlv.Number -/
def H77 : Nat → Head := fun _ => ⟨[], []⟩
noncomputable def F77 (b : List (Int × List Int) × Int) : Option (Int × Int) :=
 (F76 (b.1, b.2)).bind fun r1 =>
 bif (!decide (r1.2 = 0)) then (
 some (0, r1.2))
 else (
 (F101 r1.1).bind fun r2 =>
 bif (!decide (r2.2.2 = 0)) then (
 some (0, r2.2.2))
 else (
 bif decide (r2.2.1 < (r1.1.length : Int)) then (
 some (0, 2))
 else (
 some (r2.1, 0))))
theorem ev77 (b : List (Int × List Int) × Int) : evF C76 H77 Try.f77 (encs [.one (.slice 102 (.pair (.int .u64) (.slice 5 (.int .u8)))), .one (.int .u64)] b) (RT.dec (.tup [.leaf (.int .u64), .leaf (.int .i64)])) = F77 b := by kernel_rfl
noncomputable def C77 : Ctx := Ctx.add C76 77 [.one (.slice 102 (.pair (.int .u64) (.slice 5 (.int .u8)))), .one (.int .u64)] (.tup [.leaf (.int .u64), .leaf (.int .i64)]) F77
theorem s77 : C77.Sound := Ctx.Sound.add (C := C76) mixed s76 Try.func77 ev77
/-! damson/caveat.Get -/
def H79 : Nat → Head
  | 4 => ⟨[.data 0 (.slice 5 (.int .u8)), .data 3 (.int .i64), .data 5 (.int .i64), .data 6 (.int .i64), .arr 16384 25 (.int .u64) 3], [8192]⟩
  | 5000013 => ⟨[], [0, 0, 0, 0, 0, 0, 0, 0, 12, 12, 3, 1, 35, 34, 127, 20]⟩
  | _ => ⟨[], []⟩
noncomputable def F79 (b : List Int) : Option ((Int × Int × Int) × Int) :=
 lfp (fun (rec1 : (List Int × Int × Int × Int × List Int) → Option ((Int × Int × Int) × Int)) (x1 : List Int × Int × Int × Int × List Int) =>
  bif decide (x1.2.2.2.1 < x1.2.2.1) then (
  (F101 x1.1).bind fun r2 =>
  bif (!decide (r2.2.2 = 0)) then (
  some ((0, 0, 0), r2.2.2))
  else (
  bif (decide (x1.2.2.2.1 = 0) == true) then (
  bif (bif decide (r2.1 < 1) then true else decide (5 < r2.1)) then (
  some ((0, 0, 0), 2))
  else (
  bif (bif decide (x1.2.2.2.1 = 0) then decide (r2.1 = 4) else false) then (
  bif inb r2.2.1 (x1.1.length + 1) then
  bif inb x1.2.2.2.1 3 then
  rec1 (x1.1.drop r2.2.1.toNat, x1.2.1, (IntKind.wrap .i64 (x1.2.2.1 + 1)), (IntKind.wrap .i64 (x1.2.2.2.1 + 1)), x1.2.2.2.2.set x1.2.2.2.1.toNat r2.1)
  else none
  else none)
  else (
  bif inb r2.2.1 (x1.1.length + 1) then
  bif inb x1.2.2.2.1 3 then
  rec1 (x1.1.drop r2.2.1.toNat, x1.2.1, x1.2.2.1, (IntKind.wrap .i64 (x1.2.2.2.1 + 1)), x1.2.2.2.2.set x1.2.2.2.1.toNat r2.1)
  else none
  else none)))
  else (
  bif (bif decide (x1.2.2.2.1 = 0) then decide (r2.1 = 4) else false) then (
  bif inb r2.2.1 (x1.1.length + 1) then
  bif inb x1.2.2.2.1 3 then
  rec1 (x1.1.drop r2.2.1.toNat, x1.2.1, (IntKind.wrap .i64 (x1.2.2.1 + 1)), (IntKind.wrap .i64 (x1.2.2.2.1 + 1)), x1.2.2.2.2.set x1.2.2.2.1.toNat r2.1)
  else none
  else none)
  else (
  bif inb r2.2.1 (x1.1.length + 1) then
  bif inb x1.2.2.2.1 3 then
  rec1 (x1.1.drop r2.2.1.toNat, x1.2.1, x1.2.2.1, (IntKind.wrap .i64 (x1.2.2.2.1 + 1)), x1.2.2.2.2.set x1.2.2.2.1.toNat r2.1)
  else none
  else none))))
  else (
  bif inb 0 3 then
  bif inb 1 3 then
  bif inb 2 3 then
  bif (decide (0 < (x1.1.length : Int)) == false) then (
  (F69 ((IntKind.wrap .i64 (rd (.int .u64) x1.2.2.2.2 0)), ((rd (.int .u64) x1.2.2.2.2 1), (rd (.int .u64) x1.2.2.2.2 2)))).bind fun r3 =>
  bif (!decide (r3 = 0)) then (
  some ((0, 0, 0), 2))
  else (
  some (((IntKind.wrap .i64 (rd (.int .u64) x1.2.2.2.2 0)), (rd (.int .u64) x1.2.2.2.2 1), (rd (.int .u64) x1.2.2.2.2 2)), 0)))
  else (
  some ((0, 0, 0), 2))
  else none
  else none
  else none)) (b, 0, 2, 0, [0, 0, 0])
theorem ev79 (b : List Int) : evF C77 H79 Try.f79 (encs [.one (.slice 5 (.int .u8))] b) (RT.dec (.tup [.agg [.int .i64, .int .u64, .int .u64], .leaf (.int .i64)])) = F79 b := by kernel_rfl
noncomputable def C79 : Ctx := Ctx.add C77 79 [.one (.slice 5 (.int .u8))] (.tup [.agg [.int .i64, .int .u64, .int .u64], .leaf (.int .i64)]) F79
theorem s79 : C79.Sound := Ctx.Sound.add (C := C77) mixed s77 Try.func79 ev79
/-! damson/token.Get -/
def H48 : Nat → Head
  | 6 => ⟨[.data 3 (.int .i64), .data 29 (.int .i64)], [24576, 90112, 8192]⟩
  | 13 => ⟨[.data 3 (.int .i64), .data 44 (.int .i64), .arr 24576 25 (.int .u64) 2], [90112, 8192]⟩
  | 22 => ⟨[.data 12 .bool, .data 72 (.int .i64)], [24576, 90112, 8192]⟩
  | 30 => ⟨[.data 3 (.int .i64), .data 98 (.int .i64), .crow 61440 1 10063518 62 (.pair (.int .i64) (.pair (.int .u64) (.int .u64))), .boxr 61440 10063518 (.int .u64) (.int .i64)], [24576, 90112, 8192]⟩
  | 1000001 => ⟨[], [4]⟩
  | 5000024 => ⟨[], [0, 0, 1, 1, 2, 2, 6, 6, 2, 2, 2, 2, 50, 50, 74, 74, 130, 130, 511, 257]⟩
  | _ => ⟨[], []⟩
noncomputable def F48 (b : List Int) : Option ((Int × (List (Int × (Int × Int))) × Int) × Int) :=
 (F75 b).bind fun r1 =>
 bif (!decide (r1.2 = 0)) then (
 some ((0, ([] : List (Int × (Int × Int))), 0), r1.2))
 else (
 lfp (fun (rec2 : (Int × Int) → Option ((Int × (List (Int × (Int × Int))) × Int) × Int)) (x2 : Int × Int) =>
  bif decide (x2.2 < 2) then (
  (F76 (r1.1, (IntKind.wrap .u64 (1 + (IntKind.wrap .u64 x2.2))))).bind fun r3 =>
  bif (!decide (r3.2 = 0)) then (
  some ((0, ([] : List (Int × (Int × Int))), 0), 5))
  else (
  rec2 (x2.1, (IntKind.wrap .i64 (x2.2 + 1)))))
  else (
  lfp (fun (rec4 : (Int × Int × List Int) → Option ((Int × (List (Int × (Int × Int))) × Int) × Int)) (x4 : Int × Int × List Int) =>
   bif decide (x4.2.1 < 2) then (
   (F77 (r1.1, (IntKind.wrap .u64 (1 + (IntKind.wrap .u64 x4.2.1))))).bind fun r5 =>
   bif inb x4.2.1 2 then
   bif (!decide (r5.2 = 0)) then (
   some ((0, ([] : List (Int × (Int × Int))), 0), r5.2))
   else (
   rec4 (x4.1, (IntKind.wrap .i64 (x4.2.1 + 1)), x4.2.2.set x4.2.1.toNat r5.1))
   else none)
   else (
   bif inb 1 2 then
   lfp (fun (rec6 : (Bool × Int) → Option ((Int × (List (Int × (Int × Int))) × Int) × Int)) (x6 : Bool × Int) =>
    bif decide (x6.2 < (r1.1.length : Int)) then (
    bif inb x6.2 r1.1.length then
    (fun o => both o o) (
    bif (x6.1 == false) then (
    (F78 x6.2).bind fun r7 =>
    rec6 ((!decide ((rd (.pair (.int .u64) (.slice 5 (.int .u8))) r1.1 x6.2).1 = r7)), (IntKind.wrap .i64 (x6.2 + 1))))
    else (
    rec6 (true, (IntKind.wrap .i64 (x6.2 + 1)))))
    else none)
    else (
    bif x6.1 then (
    some ((0, ([] : List (Int × (Int × Int))), 0), 2))
    else (
    bif inb 0 2 then
    bif inb 1 2 then
    bif inb 2 (r1.1.length + 1) then
    lfp (fun (rec8 : (Int × Int × List (Int × (Int × Int)) × (Int × Int)) → Option ((Int × (List (Int × (Int × Int))) × Int) × Int)) (x8 : Int × Int × List (Int × (Int × Int)) × (Int × Int)) =>
     bif decide (x8.2.1 < ((r1.1.drop ((2 : Int).toNat)).length : Int)) then (
     bif inb x8.2.1 (r1.1.drop ((2 : Int).toNat)).length then
     (F79 ((rd (.pair (.int .u64) (.slice 5 (.int .u8))) (r1.1.drop ((2 : Int).toNat)) x8.2.1).2)).bind fun r9 =>
     bif (!decide (r9.2 = 0)) then (
     some ((0, ([] : List (Int × (Int × Int))), 0), r9.2))
     else (
     bif decide ((x8.2.2.1.length + 1) * 24 ≤ LIM) then
     rec8 (x8.1, (IntKind.wrap .i64 (x8.2.1 + 1)), (x8.2.2.1 ++ ([(r9.1.1, (r9.1.2.1, r9.1.2.2))])), (x8.2.2.2.1, x8.2.2.2.2))
     else none)
     else none)
     else (
     some ((x8.2.2.2.1, x8.2.2.1, x8.2.2.2.2), 0))) (x4.1, 0, ([] : List (Int × (Int × Int))), ((rd (.int .u64) x4.2.2 0), (IntKind.wrap .i64 (rd (.int .u64) x4.2.2 1))))
    else none
    else none
    else none))) ((bif decide (1048576 < (rd (.int .u64) x4.2.2 1)) then true else decide (18 < (r1.1.length : Int))), 0)
   else none)) (x2.1, 0, [0, 0]))) (0, 0))
theorem ev48 (b : List Int) : evF C79 H48 Try.f48 (encs [.one (.slice 5 (.int .u8))] b) (RT.dec (.tup [.agg [.int .u64, .fresh 62 (.pair (.int .i64) (.pair (.int .u64) (.int .u64))), .int .i64], .leaf (.int .i64)])) = F48 b := by kernel_rfl
noncomputable def C48 : Ctx := Ctx.add C79 48 [.one (.slice 5 (.int .u8))] (.tup [.agg [.int .u64, .fresh 62 (.pair (.int .i64) (.pair (.int .u64) (.int .u64))), .int .i64], .leaf (.int .i64)]) F48
theorem s48 : C48.Sound := Ctx.Sound.add (C := C79) mixed s79 Try.func48 ev48
/-! damson/damsonref01.long -/
def H106 : Nat → Head := fun _ => ⟨[], []⟩
noncomputable def F106 (b : Int) : Option Int :=
 bif decide (b < 253) then (
 some 1)
 else (
 bif decide (b = 253) then (
 some 3)
 else (
 bif decide (b = 254) then (
 some 5)
 else (
 some 9)))
theorem ev106 (b : Int) : evF C48 H106 Try.f106 (encs [.one (.int .u8)] b) (RT.dec (.one (.leaf (.int .i64)))) = F106 b := by kernel_rfl
noncomputable def C106 : Ctx := Ctx.add C48 106 [.one (.int .u8)] (.one (.leaf (.int .i64))) F106
theorem s106 : C106.Sound := Ctx.Sound.add (C := C48) mixed s48 Try.func106 ev106
/-! damson/damsonref01.Get -/
def H102 : Nat → Head
  | 8 => ⟨[.data 6 (.int .u64), .data 35 (.int .i64)], []⟩
  | 5000012 => ⟨[], [0, 0, 1, 1, 2, 2, 0, 0, 0, 0, 24, 24, 32, 32, 68, 68]⟩
  | _ => ⟨[], []⟩
noncomputable def F102 (b : List Int) : Option (Int × Int × Int) :=
 bif (decide ((b.length : Int) = 0) == false) then (
 bif inb 0 b.length then
 (F106 (rd (.int .u8) b 0)).bind fun r1 =>
 bif decide ((b.length : Int) < r1) then (
 some (0, 0, 3))
 else (
 bif inb 0 b.length then
 (F106 (rd (.int .u8) b 0)).bind fun r2 =>
 bif decide (r2 = 1) then (
 bif inb 0 b.length then
 bif (inb r2 (b.length + 1) && (decide (0 ≤ 1) && decide (1 ≤ r2))) then
 lfp (fun (rec3 : (Int × Int) → Option (Int × Int × Int)) (x3 : Int × Int) =>
  bif decide (x3.2 < (((b.take r2.toNat).drop ((1 : Int).toNat)).length : Int)) then (
  bif inb x3.2 ((b.take r2.toNat).drop ((1 : Int).toNat)).length then
  rec3 ((IntKind.wrap .u64 ((IntKind.wrap .u64 (256 * x3.1)) + (IntKind.wrap .u64 (rd (.int .u8) ((b.take r2.toNat).drop ((1 : Int).toNat)) x3.2)))), (IntKind.wrap .i64 (x3.2 + 1)))
  else none)
  else (
  bif inb r2 (b.length + 1) then
  (both (
  (F91 x3.1).bind fun r4 =>
  (fun o => both o o) (
  bif (!decide (r4 = (b.take r2.toNat))) then (
  some (0, 0, 2))
  else (
  some (x3.1, r2, 0)))) (
  (F91 x3.1).bind fun r4 =>
  bif (!decide (r4 = (b.take r2.toNat))) then (
  some (0, 0, 2))
  else (
  some (x3.1, r2, 0))))
  else none)) ((IntKind.wrap .u64 (rd (.int .u8) b 0)), 0)
 else none
 else none)
 else (
 bif (inb r2 (b.length + 1) && (decide (0 ≤ 1) && decide (1 ≤ r2))) then
 lfp (fun (rec5 : (Int × Int) → Option (Int × Int × Int)) (x5 : Int × Int) =>
  bif decide (x5.2 < (((b.take r2.toNat).drop ((1 : Int).toNat)).length : Int)) then (
  bif inb x5.2 ((b.take r2.toNat).drop ((1 : Int).toNat)).length then
  rec5 ((IntKind.wrap .u64 ((IntKind.wrap .u64 (256 * x5.1)) + (IntKind.wrap .u64 (rd (.int .u8) ((b.take r2.toNat).drop ((1 : Int).toNat)) x5.2)))), (IntKind.wrap .i64 (x5.2 + 1)))
  else none)
  else (
  bif inb r2 (b.length + 1) then
  (both (
  (F91 x5.1).bind fun r6 =>
  (fun o => both o o) (
  bif (!decide (r6 = (b.take r2.toNat))) then (
  some (0, 0, 2))
  else (
  some (x5.1, r2, 0)))) (
  (F91 x5.1).bind fun r6 =>
  bif (!decide (r6 = (b.take r2.toNat))) then (
  some (0, 0, 2))
  else (
  some (x5.1, r2, 0))))
  else none)) (0, 0)
 else none)
 else none)
 else none)
 else (
 some (0, 0, 3))
theorem ev102 (b : List Int) : evF C106 H102 Try.f102 (encs [.one (.slice 5 (.int .u8))] b) (RT.dec (.tup [.leaf (.int .u64), .leaf (.int .i64), .leaf (.int .i64)])) = F102 b := by kernel_rfl
noncomputable def C102 : Ctx := Ctx.add C106 102 [.one (.slice 5 (.int .u8))] (.tup [.leaf (.int .u64), .leaf (.int .i64), .leaf (.int .i64)]) F102
theorem s102 : C102.Sound := Ctx.Sound.add (C := C106) mixed s106 Try.func102 ev102
/-! damson/damsonref02.Get -/
def H80 : Nat → Head
  | 4 => ⟨[.data 0 (.slice 5 (.int .u8)), .row 2 10244 102 (.pair (.int .u64) (.slice 5 (.int .u8))), .data 3 (.int .i64), .row 4 18436 102 (.pair (.int .u64) (.slice 5 (.int .u8)))], []⟩
  | _ => ⟨[], []⟩
noncomputable def F80 (b : List Int) : Option ((List (Int × List Int)) × Int) :=
 bif decide (65535 < (b.length : Int)) then (
 some (([] : List (Int × List Int)), 4))
 else (
 lfp (fun (rec1 : (List Int × List (Int × List Int) × Int × List (Int × List Int)) → Option ((List (Int × List Int)) × Int)) (x1 : List Int × List (Int × List Int) × Int × List (Int × List Int)) =>
  bif decide (0 < (x1.1.length : Int)) then (
  bif decide ((x1.2.2.2.length : Int) = 64) then (
  some (([] : List (Int × List Int)), 4))
  else (
  (F102 x1.1).bind fun r2 =>
  bif (!decide (r2.2.2 = 0)) then (
  some (([] : List (Int × List Int)), r2.2.2))
  else (
  bif (decide (0 < (x1.2.2.2.length : Int)) == true) then (
  bif inb (IntKind.wrap .i64 ((x1.2.2.2.length : Int) - 1)) x1.2.2.2.length then
  bif decide (r2.1 ≤ (rd (.pair (.int .u64) (.slice 5 (.int .u8))) x1.2.2.2 (IntKind.wrap .i64 ((x1.2.2.2.length : Int) - 1))).1) then (
  some (([] : List (Int × List Int)), 2))
  else (
  bif inb r2.2.1 (x1.1.length + 1) then
  (F102 (x1.1.drop r2.2.1.toNat)).bind fun r3 =>
  bif (!decide (r3.2.2 = 0)) then (
  some (([] : List (Int × List Int)), r3.2.2))
  else (
  bif decide (4096 < r3.1) then (
  some (([] : List (Int × List Int)), 4))
  else (
  bif inb r3.2.1 ((x1.1.drop r2.2.1.toNat).length + 1) then
  bif decide ((((x1.1.drop r2.2.1.toNat).drop r3.2.1.toNat).length : Int) < (IntKind.wrap .i64 r3.1)) then (
  some (([] : List (Int × List Int)), 3))
  else (
  bif inb r3.1 (((x1.1.drop r2.2.1.toNat).drop r3.2.1.toNat).length + 1) then
  bif (!(((x1.1.drop r2.2.1.toNat).drop r3.2.1.toNat).take r3.1.toNat).isEmpty || true) then
  bif decide ((([] : List Int).length + (((x1.1.drop r2.2.1.toNat).drop r3.2.1.toNat).take r3.1.toNat).length) * 1 ≤ LIM) then
  bif decide ((x1.2.2.2.length + 1) * 32 ≤ LIM) then
  bif inb r3.1 (((x1.1.drop r2.2.1.toNat).drop r3.2.1.toNat).length + 1) then
  rec1 (((x1.1.drop r2.2.1.toNat).drop r3.2.1.toNat).drop r3.1.toNat, x1.2.1, x1.2.2.1, (x1.2.2.2 ++ ([(r2.1, ([] : List Int) ++ (((x1.1.drop r2.2.1.toNat).drop r3.2.1.toNat).take r3.1.toNat))])))
  else none
  else none
  else none
  else none
  else none)
  else none))
  else none)
  else none)
  else (
  bif inb r2.2.1 (x1.1.length + 1) then
  (F102 (x1.1.drop r2.2.1.toNat)).bind fun r4 =>
  bif (!decide (r4.2.2 = 0)) then (
  some (([] : List (Int × List Int)), r4.2.2))
  else (
  bif decide (4096 < r4.1) then (
  some (([] : List (Int × List Int)), 4))
  else (
  bif inb r4.2.1 ((x1.1.drop r2.2.1.toNat).length + 1) then
  bif decide ((((x1.1.drop r2.2.1.toNat).drop r4.2.1.toNat).length : Int) < (IntKind.wrap .i64 r4.1)) then (
  some (([] : List (Int × List Int)), 3))
  else (
  bif inb r4.1 (((x1.1.drop r2.2.1.toNat).drop r4.2.1.toNat).length + 1) then
  bif (!(((x1.1.drop r2.2.1.toNat).drop r4.2.1.toNat).take r4.1.toNat).isEmpty || true) then
  bif decide ((([] : List Int).length + (((x1.1.drop r2.2.1.toNat).drop r4.2.1.toNat).take r4.1.toNat).length) * 1 ≤ LIM) then
  bif decide ((x1.2.2.2.length + 1) * 32 ≤ LIM) then
  bif inb r4.1 (((x1.1.drop r2.2.1.toNat).drop r4.2.1.toNat).length + 1) then
  rec1 (((x1.1.drop r2.2.1.toNat).drop r4.2.1.toNat).drop r4.1.toNat, x1.2.1, x1.2.2.1, (x1.2.2.2 ++ ([(r2.1, ([] : List Int) ++ (((x1.1.drop r2.2.1.toNat).drop r4.2.1.toNat).take r4.1.toNat))])))
  else none
  else none
  else none
  else none
  else none)
  else none))
  else none))))
  else (
  some (x1.2.2.2, 0))) (b, ([] : List (Int × List Int)), 0, ([] : List (Int × List Int))))
theorem ev80 (b : List Int) : evF C102 H80 Try.f80 (encs [.one (.slice 5 (.int .u8))] b) (RT.dec (.tup [.leaf (.fresh 102 (.pair (.int .u64) (.slice 5 (.int .u8)))), .leaf (.int .i64)])) = F80 b := by kernel_rfl
noncomputable def C80 : Ctx := Ctx.add C102 80 [.one (.slice 5 (.int .u8))] (.tup [.leaf (.fresh 102 (.pair (.int .u64) (.slice 5 (.int .u8)))), .leaf (.int .i64)]) F80
theorem s80 : C80.Sound := Ctx.Sound.add (C := C102) mixed s102 Try.func80 ev80
/-! damson/damsonref02.Find -/
def H81 : Nat → Head
  | 4 => ⟨[.row 4 18436 5 (.int .u8), .data 5 (.int .i64), .data 13 (.int .i64)], []⟩
  | _ => ⟨[], []⟩
noncomputable def F81 (b : List (Int × List Int) × Int) : Option (List Int × Int) :=
 (F96 b.1).bind fun r1 =>
 bif (!decide (r1 = 0)) then (
 some (([] : List Int), 1))
 else (
 lfp (fun (rec2 : (List Int × Int × Int) → Option (List Int × Int)) (x2 : List Int × Int × Int) =>
  bif decide (x2.2.2 < (b.1.length : Int)) then (
  bif inb x2.2.2 b.1.length then
  bif decide ((rd (.pair (.int .u64) (.slice 5 (.int .u8))) b.1 x2.2.2).1 = b.2) then (
  bif (!((rd (.pair (.int .u64) (.slice 5 (.int .u8))) b.1 x2.2.2).2).isEmpty || true) then
  bif decide ((([] : List Int).length + ((rd (.pair (.int .u64) (.slice 5 (.int .u8))) b.1 x2.2.2).2).length) * 1 ≤ LIM) then
  some (([] : List Int) ++ ((rd (.pair (.int .u64) (.slice 5 (.int .u8))) b.1 x2.2.2).2), 0)
  else none
  else none)
  else (
  rec2 (x2.1, x2.2.1, (IntKind.wrap .i64 (x2.2.2 + 1))))
  else none)
  else (
  some (([] : List Int), 5))) (([] : List Int), 0, 0))
theorem ev81 (b : List (Int × List Int) × Int) : evF C80 H81 Try.f81 (encs [.one (.slice 102 (.pair (.int .u64) (.slice 5 (.int .u8)))), .one (.int .u64)] b) (RT.dec (.tup [.leaf (.fresh 5 (.int .u8)), .leaf (.int .i64)])) = F81 b := by kernel_rfl
noncomputable def C81 : Ctx := Ctx.add C80 81 [.one (.slice 102 (.pair (.int .u64) (.slice 5 (.int .u8)))), .one (.int .u64)] (.tup [.leaf (.fresh 5 (.int .u8)), .leaf (.int .i64)]) F81
theorem s81 : C81.Sound := Ctx.Sound.add (C := C80) mixed s80 Try.func81 ev81
/-! damson/damsonref02.Number -/
def H82 : Nat → Head := fun _ => ⟨[], []⟩
noncomputable def F82 (b : List (Int × List Int) × Int) : Option (Int × Int) :=
 (F81 (b.1, b.2)).bind fun r1 =>
 bif (!decide (r1.2 = 0)) then (
 some (0, r1.2))
 else (
 (F102 r1.1).bind fun r2 =>
 bif (!decide (r2.2.2 = 0)) then (
 some (0, r2.2.2))
 else (
 bif (!decide (r2.2.1 = (r1.1.length : Int))) then (
 some (0, 2))
 else (
 some (r2.1, 0))))
theorem ev82 (b : List (Int × List Int) × Int) : evF C81 H82 Try.f82 (encs [.one (.slice 102 (.pair (.int .u64) (.slice 5 (.int .u8)))), .one (.int .u64)] b) (RT.dec (.tup [.leaf (.int .u64), .leaf (.int .i64)])) = F82 b := by kernel_rfl
noncomputable def C82 : Ctx := Ctx.add C81 82 [.one (.slice 102 (.pair (.int .u64) (.slice 5 (.int .u8)))), .one (.int .u64)] (.tup [.leaf (.int .u64), .leaf (.int .i64)]) F82
theorem s82 : C82.Sound := Ctx.Sound.add (C := C81) mixed s81 Try.func82 ev82
/-! damson/damsonref06.Get -/
def H83 : Nat → Head := fun _ => ⟨[], []⟩
noncomputable def F83 (b : List Int) : Option ((Int × Int × Int) × Int) :=
 (F102 b).bind fun r1 =>
 bif (!decide (r1.2.2 = 0)) then (
 some ((0, 0, 0), r1.2.2))
 else (
 bif (bif decide (r1.1 < 1) then true else decide (5 < r1.1)) then (
 some ((0, 0, 0), 2))
 else (
 bif inb r1.2.1 (b.length + 1) then
 (F102 (b.drop r1.2.1.toNat)).bind fun r2 =>
 bif (!decide (r2.2.2 = 0)) then (
 some ((0, 0, 0), r2.2.2))
 else (
 bif inb r2.2.1 ((b.drop r1.2.1.toNat).length + 1) then
 bif decide (r1.1 = 4) then (
 (F102 ((b.drop r1.2.1.toNat).drop r2.2.1.toNat)).bind fun r3 =>
 bif (!decide (r3.2.2 = 0)) then (
 some ((0, 0, 0), r3.2.2))
 else (
 bif inb r3.2.1 (((b.drop r1.2.1.toNat).drop r2.2.1.toNat).length + 1) then
 bif (decide (0 < ((((b.drop r1.2.1.toNat).drop r2.2.1.toNat).drop r3.2.1.toNat).length : Int)) == false) then (
 (F92 ((IntKind.wrap .i64 r1.1), (r2.1, r3.1))).bind fun r4 =>
 bif (!decide (r4 = 0)) then (
 some ((0, 0, 0), 2))
 else (
 some (((IntKind.wrap .i64 r1.1), r2.1, r3.1), 0)))
 else (
 some ((0, 0, 0), 2))
 else none))
 else (
 bif (decide (0 < (((b.drop r1.2.1.toNat).drop r2.2.1.toNat).length : Int)) == false) then (
 (F92 ((IntKind.wrap .i64 r1.1), (r2.1, 0))).bind fun r5 =>
 bif (!decide (r5 = 0)) then (
 some ((0, 0, 0), 2))
 else (
 some (((IntKind.wrap .i64 r1.1), r2.1, 0), 0)))
 else (
 some ((0, 0, 0), 2)))
 else none)
 else none))
theorem ev83 (b : List Int) : evF C82 H83 Try.f83 (encs [.one (.slice 5 (.int .u8))] b) (RT.dec (.tup [.agg [.int .i64, .int .u64, .int .u64], .leaf (.int .i64)])) = F83 b := by kernel_rfl
noncomputable def C83 : Ctx := Ctx.add C82 83 [.one (.slice 5 (.int .u8))] (.tup [.agg [.int .i64, .int .u64, .int .u64], .leaf (.int .i64)]) F83
theorem s83 : C83.Sound := Ctx.Sound.add (C := C82) mixed s82 Try.func83 ev83
/-! damson/damsonref07.Get -/
def H49 : Nat → Head
  | 5 => ⟨[.data 3 (.int .i64), .data 30 (.int .i64)], [114688, 86016, 8192]⟩
  | 20 => ⟨[.data 3 (.int .i64), .data 73 (.int .i64)], [114688, 86016, 8192]⟩
  | 29 => ⟨[.data 3 (.int .i64), .data 99 (.int .i64), .crow 57344 1 10059421 62 (.pair (.int .i64) (.pair (.int .u64) (.int .u64))), .boxr 57344 10059421 (.int .u64) (.int .i64)], [114688, 86016, 8192]⟩
  | 1000001 => ⟨[], [4]⟩
  | _ => ⟨[], []⟩
noncomputable def F49 (b : List Int) : Option ((Int × (List (Int × (Int × Int))) × Int) × Int) :=
 (F80 b).bind fun r1 =>
 bif (!decide (r1.2 = 0)) then (
 some ((0, ([] : List (Int × (Int × Int))), 0), r1.2))
 else (
 lfp (fun (rec2 : (Int × Int) → Option ((Int × (List (Int × (Int × Int))) × Int) × Int)) (x2 : Int × Int) =>
  bif decide (x2.2 < (([1, 2]).length : Int)) then (
  bif inb x2.2 ([1, 2]).length then
  (F81 (r1.1, (rd (.int .u64) ([1, 2]) x2.2))).bind fun r3 =>
  bif (!decide (r3.2 = 0)) then (
  some ((0, ([] : List (Int × (Int × Int))), 0), 5))
  else (
  rec2 (x2.1, (IntKind.wrap .i64 (x2.2 + 1))))
  else none)
  else (
  (F82 (r1.1, 1)).bind fun r4 =>
  bif (!decide (r4.2 = 0)) then (
  some ((0, ([] : List (Int × (Int × Int))), 0), r4.2))
  else (
  (F82 (r1.1, 2)).bind fun r5 =>
  bif (!decide (r5.2 = 0)) then (
  some ((0, ([] : List (Int × (Int × Int))), 0), r5.2))
  else (
  bif (bif decide (1048576 < r5.1) then true else decide (18 < (r1.1.length : Int))) then (
  some ((0, ([] : List (Int × (Int × Int))), 0), 2))
  else (
  bif inb 2 (r1.1.length + 1) then
  lfp (fun (rec6 : (Int × Int) → Option ((Int × (List (Int × (Int × Int))) × Int) × Int)) (x6 : Int × Int) =>
   bif decide (x6.2 < ((r1.1.drop ((2 : Int).toNat)).length : Int)) then (
   bif inb x6.2 (r1.1.drop ((2 : Int).toNat)).length then
   bif (!decide ((rd (.pair (.int .u64) (.slice 5 (.int .u8))) (r1.1.drop ((2 : Int).toNat)) x6.2).1 = (IntKind.wrap .u64 (IntKind.wrap .i64 (16 + x6.2))))) then (
   some ((0, ([] : List (Int × (Int × Int))), 0), 2))
   else (
   rec6 (x6.1, (IntKind.wrap .i64 (x6.2 + 1))))
   else none)
   else (
   bif inb 0 r1.1.length then
   bif (!decide ((rd (.pair (.int .u64) (.slice 5 (.int .u8))) r1.1 0).1 = 1)) then (
   some ((0, ([] : List (Int × (Int × Int))), 0), 2))
   else (
   bif inb 2 (r1.1.length + 1) then
   lfp (fun (rec7 : (Int × Int × List (Int × (Int × Int)) × (Int × Int)) → Option ((Int × (List (Int × (Int × Int))) × Int) × Int)) (x7 : Int × Int × List (Int × (Int × Int)) × (Int × Int)) =>
    bif decide (x7.2.1 < ((r1.1.drop ((2 : Int).toNat)).length : Int)) then (
    bif inb x7.2.1 (r1.1.drop ((2 : Int).toNat)).length then
    (F83 ((rd (.pair (.int .u64) (.slice 5 (.int .u8))) (r1.1.drop ((2 : Int).toNat)) x7.2.1).2)).bind fun r8 =>
    bif (!decide (r8.2 = 0)) then (
    some ((0, ([] : List (Int × (Int × Int))), 0), r8.2))
    else (
    bif decide ((x7.2.2.1.length + 1) * 24 ≤ LIM) then
    rec7 (x7.1, (IntKind.wrap .i64 (x7.2.1 + 1)), (x7.2.2.1 ++ ([(r8.1.1, (r8.1.2.1, r8.1.2.2))])), (x7.2.2.2.1, x7.2.2.2.2))
    else none)
    else none)
    else (
    some ((x7.2.2.2.1, x7.2.2.1, x7.2.2.2.2), 0))) (x6.1, 0, ([] : List (Int × (Int × Int))), (r4.1, (IntKind.wrap .i64 r5.1)))
   else none)
   else none)) (x2.1, 0)
  else none))))) (0, 0))
theorem ev49 (b : List Int) : evF C83 H49 Try.f49 (encs [.one (.slice 5 (.int .u8))] b) (RT.dec (.tup [.agg [.int .u64, .fresh 62 (.pair (.int .i64) (.pair (.int .u64) (.int .u64))), .int .i64], .leaf (.int .i64)])) = F49 b := by kernel_rfl
noncomputable def C49 : Ctx := Ctx.add C83 49 [.one (.slice 5 (.int .u8))] (.tup [.agg [.int .u64, .fresh 62 (.pair (.int .i64) (.pair (.int .u64) (.int .u64))), .int .i64], .leaf (.int .i64)]) F49
theorem s49 : C49.Sound := Ctx.Sound.add (C := C83) mixed s83 Try.func49 ev49
/-! damson/damsonlaw07.TokenWrites -/
def H12 : Nat → Head := fun _ => ⟨[], []⟩
noncomputable def F12 (b : (Int × (List (Int × (Int × Int)) × Int)) × List Int) : Option Bool :=
 (F32 ()).bind fun r1 =>
 bif (!r1) then (
 some false)
 else (
 (F33 ([(b.1.1, (b.1.2.1, b.1.2.2))])).bind fun r2 =>
 bif (bif (!r2) then true else decide (2000 < (b.2.length : Int))) then (
 some true)
 else (
 (F46 (b.1.1, (b.1.2.1, b.1.2.2))).bind fun r3 =>
 (F47 (b.1.1, (b.1.2.1, b.1.2.2))).bind fun r4 =>
 (F48 b.2).bind fun r5 =>
 (F49 b.2).bind fun r6 =>
 (F50 (r3.1, r4.1)).bind fun r7 =>
 bif ((bif r7 then decide (r3.2 = r4.2) else false) == true) then (
 (F42 ((r5.1.1, (r5.1.2.1, r5.1.2.2)), (r6.1.1, (r6.1.2.1, r6.1.2.2)))).bind fun r8 =>
 some (bif r8 then decide (r5.2 = r6.2) else false))
 else (
 some false)))
theorem ev12 (b : (Int × (List (Int × (Int × Int)) × Int)) × List Int) : evF C49 H12 Try.f12 (encs [.agg (.pair (.int .u64) (.pair (.slice 62 (.pair (.int .i64) (.pair (.int .u64) (.int .u64)))) (.int .i64))), .one (.slice 5 (.int .u8))] b) (RT.dec (.one (.leaf (.bool)))) = F12 b := by kernel_rfl
noncomputable def C12 : Ctx := Ctx.add C49 12 [.agg (.pair (.int .u64) (.pair (.slice 62 (.pair (.int .i64) (.pair (.int .u64) (.int .u64)))) (.int .i64))), .one (.slice 5 (.int .u8))] (.one (.leaf (.bool))) F12
theorem s12 : C12.Sound := Ctx.Sound.add (C := C49) mixed s49 Try.func12 ev12
/-! damson/damsonlaw07.TokenBack -/
def H13 : Nat → Head := fun _ => ⟨[], []⟩
noncomputable def F13 (b : (Int × (List (Int × (Int × Int)) × Int)) × List Int) : Option Bool :=
 (F32 ()).bind fun r1 =>
 bif (!r1) then (
 some false)
 else (
 (F33 ([(b.1.1, (b.1.2.1, b.1.2.2))])).bind fun r2 =>
 bif (bif (!r2) then true else decide (2000 < (b.2.length : Int))) then (
 some true)
 else (
 (F48 b.2).bind fun r3 =>
 bif decide (r3.2 = 0) then (
 (F46 (r3.1.1, (r3.1.2.1, r3.1.2.2))).bind fun r4 =>
 bif ((!decide (r4.2 = 0)) == false) then (
 (F50 (r4.1, b.2)).bind fun r5 =>
 bif ((!r5) == false) then (
 (F43 (r3.1.1, (r3.1.2.1, r3.1.2.2))).bind fun r6 =>
 bif (!decide (r6 = 0)) then (
 some false)
 else (
 (F46 (b.1.1, (b.1.2.1, b.1.2.2))).bind fun r7 =>
 bif (!decide (r7.2 = 0)) then (
 bif (decide ((r7.1.length : Int) = 0) == true) then (
 (F43 (b.1.1, (b.1.2.1, b.1.2.2))).bind fun r8 =>
 some (decide (r8 = r7.2)))
 else (
 some false))
 else (
 (F48 r7.1).bind fun r9 =>
 bif (decide (r9.2 = 0) == true) then (
 (F45 ((r9.1.1, (r9.1.2.1, r9.1.2.2)), (b.1.1, (b.1.2.1, b.1.2.2)))).bind fun r10 =>
 some r10)
 else (
 some false))))
 else (
 some false))
 else (
 some false))
 else (
 (F46 (b.1.1, (b.1.2.1, b.1.2.2))).bind fun r11 =>
 bif (!decide (r11.2 = 0)) then (
 bif (decide ((r11.1.length : Int) = 0) == true) then (
 (F43 (b.1.1, (b.1.2.1, b.1.2.2))).bind fun r12 =>
 some (decide (r12 = r11.2)))
 else (
 some false))
 else (
 (F48 r11.1).bind fun r13 =>
 bif (decide (r13.2 = 0) == true) then (
 (F45 ((r13.1.1, (r13.1.2.1, r13.1.2.2)), (b.1.1, (b.1.2.1, b.1.2.2)))).bind fun r14 =>
 some r14)
 else (
 some false)))))
theorem ev13 (b : (Int × (List (Int × (Int × Int)) × Int)) × List Int) : evF C12 H13 Try.f13 (encs [.agg (.pair (.int .u64) (.pair (.slice 62 (.pair (.int .i64) (.pair (.int .u64) (.int .u64)))) (.int .i64))), .one (.slice 5 (.int .u8))] b) (RT.dec (.one (.leaf (.bool)))) = F13 b := by kernel_rfl
noncomputable def C13 : Ctx := Ctx.add C12 13 [.agg (.pair (.int .u64) (.pair (.slice 62 (.pair (.int .i64) (.pair (.int .u64) (.int .u64)))) (.int .i64))), .one (.slice 5 (.int .u8))] (.one (.leaf (.bool))) F13
theorem s13 : C13.Sound := Ctx.Sound.add (C := C12) mixed s12 Try.func13 ev13
end Go.Proofs.Ytcpcbeeghjigkaa.R3
