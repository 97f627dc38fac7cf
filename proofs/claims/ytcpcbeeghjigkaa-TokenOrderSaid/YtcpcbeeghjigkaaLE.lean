/- Part of a proof: what the program's functions come to. -/
import Derived.Test.YtcpcbeeghjigkaaFwCtx
import Derived.Test.YtcpcbeeghjigkaaProg
import Derived.KernelRfl
set_option linter.unusedVariables false
set_option linter.unusedSimpArgs false
set_option maxRecDepth 100000
namespace Go.Proofs.Ytcpcbeeghjigkaa.R3
open Go Go.Fw Go.Proofs
noncomputable def C_ : Ctx := Ctx.nil Try.prog
theorem s_ : C_.Sound := Ctx.nil_sound _
theorem mixed : Try.prog.follows .mixedOrders = true := by kernel_rfl
/-! slices.Max[[]uint64,uint64] -/
def H104 : Nat → Head
  | 5 => ⟨[.data 3 (.int .u64), .data 4 (.int .i64)], []⟩
  | _ => ⟨[], []⟩
noncomputable def F104 (b : List Int) : Option Int :=
 bif decide ((b.length : Int) < 1) then (
 none)
 else (
 bif inb 0 b.length then
 lfp (fun (rec1 : (Int × Int) → Option Int) (x1 : Int × Int) =>
  bif decide (x1.2 < (b.length : Int)) then (
  bif inb x1.2 b.length then
  rec1 ((if x1.1 < (rd (.int .u64) b x1.2) then (rd (.int .u64) b x1.2) else x1.1), (IntKind.wrap .i64 (x1.2 + 1)))
  else none)
  else (
  some x1.1)) ((rd (.int .u64) b 0), 1)
 else none)
theorem ev104 (b : List Int) : evF C_ H104 Try.f104 (encs [.one (.slice 25 (.int .u64))] b) (RT.dec (.one (.leaf (.int .u64)))) = F104 b := by kernel_rfl
noncomputable def C104 : Ctx := Ctx.add C_ 104 [.one (.slice 25 (.int .u64))] (.one (.leaf (.int .u64))) F104
theorem s104 : C104.Sound := Ctx.Sound.add (C := C_) mixed s_ Try.func104 ev104
/-! damson/money.Check -/
def H93 : Nat → Head := fun _ => ⟨[], []⟩
noncomputable def F93 (b : List Int) : Option Int :=
 bif (decide (0 < (b.length : Int)) == true) then (
 (F104 b).bind fun r1 =>
 bif decide (4611686018427387904 < r1) then (
 some 1)
 else (
 some 0))
 else (
 some 0)
theorem ev93 (b : List Int) : evF C104 H93 Try.f93 (encs [.one (.slice 25 (.int .u64))] b) (RT.dec (.one (.leaf (.int .i64)))) = F93 b := by kernel_rfl
noncomputable def C93 : Ctx := Ctx.add C104 93 [.one (.slice 25 (.int .u64))] (.one (.leaf (.int .i64))) F93
theorem s93 : C93.Sound := Ctx.Sound.add (C := C104) mixed s104 Try.func93 ev93
/-! damson/caveat.Check -/
def H69 : Nat → Head := fun _ => ⟨[], []⟩
noncomputable def F69 (b : (Int × (Int × Int))) : Option Int :=
 bif decide (b.1 = 4) then (
 (F93 ([b.2.1])).bind fun r1 =>
 some r1)
 else (
 bif decide (b.1 = 3) then (
 (F93 ([b.2.1])).bind fun r2 =>
 bif (!decide (r2 = 0)) then (
 some 1)
 else (
 bif (!decide (b.2.2 = 0)) then (
 some 1)
 else (
 some 0)))
 else (
 bif decide (b.1 = 2) then (
 bif decide (0 < (b.2.1 / 2 ^ (min (16 : Int).toNat 64))) then (
 some 1)
 else (
 bif (!decide (b.2.2 = 0)) then (
 some 1)
 else (
 some 0)))
 else (
 bif decide (b.1 = 1) then (
 bif decide (b.1 = 1) then (
 bif (!decide (b.2.2 = 0)) then (
 some 1)
 else (
 some 0))
 else (
 some 1))
 else (
 bif decide (b.1 = 5) then (
 bif (!decide (b.2.2 = 0)) then (
 some 1)
 else (
 some 0))
 else (
 some 1)))))
theorem ev69 (b : (Int × (Int × Int))) : evF C93 H69 Try.f69 (encs [.agg (.pair (.int .i64) (.pair (.int .u64) (.int .u64)))] b) (RT.dec (.one (.leaf (.int .i64)))) = F69 b := by kernel_rfl
noncomputable def C69 : Ctx := Ctx.add C93 69 [.agg (.pair (.int .i64) (.pair (.int .u64) (.int .u64)))] (.one (.leaf (.int .i64))) F69
theorem s69 : C69.Sound := Ctx.Sound.add (C := C93) mixed s93 Try.func69 ev69
/-! damson/token.Check$1 -/
def H68 : Nat → Head := fun _ => ⟨[], []⟩
noncomputable def F68 (b : (Int × (Int × Int))) : Option Bool :=
 (F69 (b.1, (b.2.1, b.2.2))).bind fun r1 =>
 some (!decide (r1 = 0))
theorem ev68 (b : (Int × (Int × Int))) : evF C69 H68 Try.f68 (encs [.agg (.pair (.int .i64) (.pair (.int .u64) (.int .u64)))] b) (RT.dec (.one (.leaf (.bool)))) = F68 b := by kernel_rfl
noncomputable def C68 : Ctx := Ctx.add C69 68 [.agg (.pair (.int .i64) (.pair (.int .u64) (.int .u64)))] (.one (.leaf (.bool))) F68
theorem s68 : C68.Sound := Ctx.Sound.add (C := C69) mixed s69 Try.func68 ev68
/-! damson/arena.Find$1 -/
def H58 : Nat → Head := fun _ => ⟨[], []⟩
noncomputable def F58 (b : List Int) : Option Bool :=
 some (decide (4096 < (b.length : Int)))
theorem ev58 (b : List Int) : evF C68 H58 Try.f58 (encs [.one (.slice 5 (.int .u8))] b) (RT.dec (.one (.leaf (.bool)))) = F58 b := by kernel_rfl
noncomputable def C58 : Ctx := Ctx.add C68 58 [.one (.slice 5 (.int .u8))] (.one (.leaf (.bool))) F58
theorem s58 : C58.Sound := Ctx.Sound.add (C := C68) mixed s68 Try.func58 ev58
/-! damson/arena.of -/
def H84 : Nat → Head := fun _ => ⟨[], []⟩
noncomputable def F84 (b : (Int × (Int × List Int))) : Option (Int × Int × List Int) :=
 some (b.1, b.2.1, b.2.2)
theorem ev84 (b : (Int × (Int × List Int))) : evF C58 H84 Try.f84 (encs [.agg (.pair (.int .u64) (.pair (.int .i64) (.slice 5 (.int .u8))))] b) (RT.dec (.one (.agg [.int .u64, .int .i64, .str]))) = F84 b := by kernel_rfl
noncomputable def C84 : Ctx := Ctx.add C58 84 [.agg (.pair (.int .u64) (.pair (.int .i64) (.slice 5 (.int .u8))))] (.one (.agg [.int .u64, .int .i64, .str])) F84
theorem s84 : C84.Sound := Ctx.Sound.add (C := C58) mixed s58 Try.func84 ev84
/-! damson/arena.read -/
def H54 : Nat → Head
  | 5 => ⟨[.data 3 (.int .i64), .data 17 (.int .i64), .mpk 36864 ⟨(.pair (.int .u64) (.pair (.int .i64) .str)), (.int .i64)⟩], [4096]⟩
  | 1000000 => ⟨[], [2]⟩
  | 1000003 => ⟨[], [2]⟩
  | 1000009 => ⟨[], [2]⟩
  | 1000012 => ⟨[], [2]⟩
  | _ => ⟨[], []⟩
noncomputable def F54 (b : List (Int × (Int × List Int))) : Option ((List ((Int × (Int × List Int)) × Int)) × Int) :=
 bif decide (1048576 < (b.length : Int)) then (
 some (([] : List ((Int × (Int × List Int)) × Int)), 1))
 else (
 lfp (fun (rec1 : (Int × Int × List ((Int × (Int × List Int)) × Int)) → Option ((List ((Int × (Int × List Int)) × Int)) × Int)) (x1 : Int × Int × List ((Int × (Int × List Int)) × Int)) =>
  bif decide (x1.2.1 < (b.length : Int)) then (
  bif inb x1.2.1 b.length then
  (F84 ((rd (.pair (.int .u64) (.pair (.int .i64) (.slice 5 (.int .u8)))) b x1.2.1).1, (((rd (.pair (.int .u64) (.pair (.int .i64) (.slice 5 (.int .u8)))) b x1.2.1).2).1, ((rd (.pair (.int .u64) (.pair (.int .i64) (.slice 5 (.int .u8)))) b x1.2.1).2).2))).bind fun r2 =>
  bif ((bif (bif (mhas (.pair (.int .u64) (.pair (.int .i64) .str)) (.int .i64) x1.2.2 (r2.1, (r2.2.1, r2.2.2))) then true else decide (((rd (.pair (.int .u64) (.pair (.int .i64) (.slice 5 (.int .u8)))) b x1.2.1).2).1 < (-1))) then true else decide (x1.2.1 ≤ ((rd (.pair (.int .u64) (.pair (.int .i64) (.slice 5 (.int .u8)))) b x1.2.1).2).1)) == false) then (
  bif (bif (bif decide ((-1) < ((rd (.pair (.int .u64) (.pair (.int .i64) (.slice 5 (.int .u8)))) b x1.2.1).2).1) then (!decide ((rd (.pair (.int .u64) (.pair (.int .i64) (.slice 5 (.int .u8)))) b x1.2.1).1 = 0)) else false) then true else decide (4096 < ((((rd (.pair (.int .u64) (.pair (.int .i64) (.slice 5 (.int .u8)))) b x1.2.1).2).2).length : Int))) then (
  some (([] : List ((Int × (Int × List Int)) × Int)), 1))
  else (
  (F84 ((rd (.pair (.int .u64) (.pair (.int .i64) (.slice 5 (.int .u8)))) b x1.2.1).1, (((rd (.pair (.int .u64) (.pair (.int .i64) (.slice 5 (.int .u8)))) b x1.2.1).2).1, ((rd (.pair (.int .u64) (.pair (.int .i64) (.slice 5 (.int .u8)))) b x1.2.1).2).2))).bind fun r3 =>
  rec1 (x1.1, (IntKind.wrap .i64 (x1.2.1 + 1)), (mput (.pair (.int .u64) (.pair (.int .i64) .str)) (.int .i64) x1.2.2 (r3.1, (r3.2.1, r3.2.2)) x1.2.1))))
  else (
  some (([] : List ((Int × (Int × List Int)) × Int)), 1))
  else none)
  else (
  some (x1.2.2, 0))) (0, 0, ([] : List ((Int × (Int × List Int)) × Int))))
theorem ev54 (b : List (Int × (Int × List Int))) : evF C84 H54 Try.f54 (encs [.agg (.slice 39 (.pair (.int .u64) (.pair (.int .i64) (.slice 5 (.int .u8)))))] b) (RT.dec (.tup [.leaf (.mp ⟨(.pair (.int .u64) (.pair (.int .i64) .str)), (.int .i64)⟩), .leaf (.int .i64)])) = F54 b := by kernel_rfl
noncomputable def C54 : Ctx := Ctx.add C84 54 [.agg (.slice 39 (.pair (.int .u64) (.pair (.int .i64) (.slice 5 (.int .u8)))))] (.tup [.leaf (.mp ⟨(.pair (.int .u64) (.pair (.int .i64) .str)), (.int .i64)⟩), .leaf (.int .i64)]) F54
theorem s54 : C54.Sound := Ctx.Sound.add (C := C84) mixed s84 Try.func54 ev54
/-! slices.Clone[[]byte,byte] -/
def H60 : Nat → Head := fun _ => ⟨[], []⟩
noncomputable def F60 (b : List Int) : Option (List Int) :=
 bif b.isEmpty then (
 (both (
 some ([] : List Int)) (
 bif decide ((([] : List Int).length + b.length) * 1 ≤ LIM) then
 some (([] : List Int) ++ b)
 else none)))
 else (
 bif decide ((([] : List Int).length + b.length) * 1 ≤ LIM) then
 some (([] : List Int) ++ b)
 else none)
theorem ev60 (b : List Int) : evF C54 H60 Try.f60 (encs [.one (.slice 5 (.int .u8))] b) (RT.dec (.one (.leaf (.fresh 5 (.int .u8))))) = F60 b := by kernel_rfl
noncomputable def C60 : Ctx := Ctx.add C54 60 [.one (.slice 5 (.int .u8))] (.one (.leaf (.fresh 5 (.int .u8)))) F60
theorem s60 : C60.Sound := Ctx.Sound.add (C := C54) mixed s54 Try.func60 ev60
/-! slices.Clone[[]damson/api.Term,damson/api.Term] -/
def H86 : Nat → Head := fun _ => ⟨[], []⟩
noncomputable def F86 (b : List (Int × (Int × List Int))) : Option (List (Int × (Int × List Int))) :=
 bif b.isEmpty then (
 (both (
 some ([] : List (Int × (Int × List Int)))) (
 bif decide ((([] : List (Int × (Int × List Int))).length + b.length) * 40 ≤ LIM) then
 some (([] : List (Int × (Int × List Int))) ++ b)
 else none)))
 else (
 bif decide ((([] : List (Int × (Int × List Int))).length + b.length) * 40 ≤ LIM) then
 some (([] : List (Int × (Int × List Int))) ++ b)
 else none)
theorem ev86 (b : List (Int × (Int × List Int))) : evF C60 H86 Try.f86 (encs [.one (.slice 39 (.pair (.int .u64) (.pair (.int .i64) (.slice 5 (.int .u8)))))] b) (RT.dec (.one (.leaf (.fresh 39 (.pair (.int .u64) (.pair (.int .i64) (.slice 5 (.int .u8)))))))) = F86 b := by kernel_rfl
noncomputable def C86 : Ctx := Ctx.add C60 86 [.one (.slice 39 (.pair (.int .u64) (.pair (.int .i64) (.slice 5 (.int .u8)))))] (.one (.leaf (.fresh 39 (.pair (.int .u64) (.pair (.int .i64) (.slice 5 (.int .u8))))))) F86
theorem s86 : C86.Sound := Ctx.Sound.add (C := C60) mixed s60 Try.func86 ev86
/-! slices.Clip[[]damson/api.Term,damson/api.Term]: carried out where it is called -/
def H85 : Nat → Head := fun _ => ⟨[], []⟩
noncomputable def C85 : Ctx := Ctx.addI C86 85 H85 9000085 Try.f85
theorem s85 : C85.Sound := Ctx.Sound.addI (C := C86) mixed s86 Try.func85
/-! damson/arena.put -/
def H51 : Nat → Head
  | 14 => ⟨[.data 65 (.int .i64), .rowk 245760 39 (.pair (.int .u64) (.pair (.int .i64) (.slice 5 (.int .u8))))], [229376, 225280, 16384, 12288, 8192]⟩
  | 5000011 => ⟨[], [0, 0, 1, 1, 2, 2, 0, 0, 8, 8, 20, 20, 63, 0, 127, 96]⟩
  | 5000016 => ⟨[], [0, 0, 1, 1, 0, 0, 0, 0, 8, 8, 16, 16, 63, 6, 127, 64, 191, 160]⟩
  | _ => ⟨[], []⟩
noncomputable def F51 (b : List (Int × (Int × List Int)) × (Int × (Int × List Int))) : Option ((List (Int × (Int × List Int))) × Int × Int) :=
 (F54 b.1).bind fun r1 =>
 bif (bif (!decide (r1.2 = 0)) then true else decide ((b.1.length : Int) ≤ b.2.2.1)) then (
 some (([] : List (Int × (Int × List Int))), 0, 1))
 else (
 bif decide (4096 < (b.2.2.2.length : Int)) then (
 some (([] : List (Int × (Int × List Int))), 0, 4))
 else (
 (F84 (b.2.1, (b.2.2.1, b.2.2.2))).bind fun r2 =>
 bif (!(mhas (.pair (.int .u64) (.pair (.int .i64) .str)) (.int .i64) r1.1 (r2.1, (r2.2.1, r2.2.2)))) then (
 bif decide ((b.1.length : Int) = 1048576) then (
 some (([] : List (Int × (Int × List Int))), 0, 7))
 else (
 (both (
 (both (
 bif (inb (b.1.length : Int) (b.1.length + 1) && decide ((b.1.length : Int) = (b.1.length : Int))) then
 bif decide (((b.1.take ((b.1.length : Int).toNat)).length + 1) * 40 ≤ LIM) then
 (F86 ((b.1.take ((b.1.length : Int).toNat)) ++ ([(b.2.1, (b.2.2.1, b.2.2.2))]))).bind fun r3 =>
 lfp (fun (rec4 : (Int × List (Int × (Int × List Int))) → Option ((List (Int × (Int × List Int))) × Int × Int)) (x4 : Int × List (Int × (Int × List Int))) =>
  bif decide (x4.1 < (r3.length : Int)) then (
  bif inb x4.1 x4.2.length then
  (both (
  (F60 (((rd (.pair (.int .u64) (.pair (.int .i64) (.slice 5 (.int .u8)))) x4.2 x4.1).2).2)).bind fun r5 =>
  bif inb x4.1 x4.2.length then
  rec4 ((IntKind.wrap .i64 (x4.1 + 1)), (x4.2.set x4.1.toNat ((rd (.pair (.int .u64) (.pair (.int .i64) (.slice 5 (.int .u8)))) x4.2 x4.1).1, (((rd (.pair (.int .u64) (.pair (.int .i64) (.slice 5 (.int .u8)))) x4.2 x4.1).2).1, r5))))
  else none) (
  (fun o => both o o) (
  (F60 (((rd (.pair (.int .u64) (.pair (.int .i64) (.slice 5 (.int .u8)))) x4.2 x4.1).2).2)).bind fun r5 =>
  bif inb x4.1 x4.2.length then
  rec4 ((IntKind.wrap .i64 (x4.1 + 1)), (x4.2.set x4.1.toNat ((rd (.pair (.int .u64) (.pair (.int .i64) (.slice 5 (.int .u8)))) x4.2 x4.1).1, (((rd (.pair (.int .u64) (.pair (.int .i64) (.slice 5 (.int .u8)))) x4.2 x4.1).2).1, r5))))
  else none)))
  else none)
  else (
  some (x4.2, (b.1.length : Int), 0))) (0, r3)
 else none
 else none) (
 (fun o => both o o) (
 bif (inb (b.1.length : Int) (b.1.length + 1) && decide ((b.1.length : Int) = (b.1.length : Int))) then
 bif decide (((b.1.take ((b.1.length : Int).toNat)).length + 1) * 40 ≤ LIM) then
 (F86 ((b.1.take ((b.1.length : Int).toNat)) ++ ([(b.2.1, (b.2.2.1, b.2.2.2))]))).bind fun r3 =>
 lfp (fun (rec4 : (Int × List (Int × (Int × List Int))) → Option ((List (Int × (Int × List Int))) × Int × Int)) (x4 : Int × List (Int × (Int × List Int))) =>
  bif decide (x4.1 < (r3.length : Int)) then (
  bif inb x4.1 x4.2.length then
  (both (
  (F60 (((rd (.pair (.int .u64) (.pair (.int .i64) (.slice 5 (.int .u8)))) x4.2 x4.1).2).2)).bind fun r5 =>
  bif inb x4.1 x4.2.length then
  rec4 ((IntKind.wrap .i64 (x4.1 + 1)), (x4.2.set x4.1.toNat ((rd (.pair (.int .u64) (.pair (.int .i64) (.slice 5 (.int .u8)))) x4.2 x4.1).1, (((rd (.pair (.int .u64) (.pair (.int .i64) (.slice 5 (.int .u8)))) x4.2 x4.1).2).1, r5))))
  else none) (
  (fun o => both o o) (
  (F60 (((rd (.pair (.int .u64) (.pair (.int .i64) (.slice 5 (.int .u8)))) x4.2 x4.1).2).2)).bind fun r5 =>
  bif inb x4.1 x4.2.length then
  rec4 ((IntKind.wrap .i64 (x4.1 + 1)), (x4.2.set x4.1.toNat ((rd (.pair (.int .u64) (.pair (.int .i64) (.slice 5 (.int .u8)))) x4.2 x4.1).1, (((rd (.pair (.int .u64) (.pair (.int .i64) (.slice 5 (.int .u8)))) x4.2 x4.1).2).1, r5))))
  else none)))
  else none)
  else (
  some (x4.2, (b.1.length : Int), 0))) (0, r3)
 else none
 else none)))) (
 (both (
 (fun o => both o o) (
 bif (inb (b.1.length : Int) (b.1.length + 1) && decide ((b.1.length : Int) = (b.1.length : Int))) then
 bif decide (((b.1.take ((b.1.length : Int).toNat)).length + 1) * 40 ≤ LIM) then
 (F86 ((b.1.take ((b.1.length : Int).toNat)) ++ ([(b.2.1, (b.2.2.1, b.2.2.2))]))).bind fun r3 =>
 lfp (fun (rec4 : (Int × List (Int × (Int × List Int))) → Option ((List (Int × (Int × List Int))) × Int × Int)) (x4 : Int × List (Int × (Int × List Int))) =>
  bif decide (x4.1 < (r3.length : Int)) then (
  bif inb x4.1 x4.2.length then
  (both (
  (F60 (((rd (.pair (.int .u64) (.pair (.int .i64) (.slice 5 (.int .u8)))) x4.2 x4.1).2).2)).bind fun r5 =>
  bif inb x4.1 x4.2.length then
  rec4 ((IntKind.wrap .i64 (x4.1 + 1)), (x4.2.set x4.1.toNat ((rd (.pair (.int .u64) (.pair (.int .i64) (.slice 5 (.int .u8)))) x4.2 x4.1).1, (((rd (.pair (.int .u64) (.pair (.int .i64) (.slice 5 (.int .u8)))) x4.2 x4.1).2).1, r5))))
  else none) (
  (fun o => both o o) (
  (F60 (((rd (.pair (.int .u64) (.pair (.int .i64) (.slice 5 (.int .u8)))) x4.2 x4.1).2).2)).bind fun r5 =>
  bif inb x4.1 x4.2.length then
  rec4 ((IntKind.wrap .i64 (x4.1 + 1)), (x4.2.set x4.1.toNat ((rd (.pair (.int .u64) (.pair (.int .i64) (.slice 5 (.int .u8)))) x4.2 x4.1).1, (((rd (.pair (.int .u64) (.pair (.int .i64) (.slice 5 (.int .u8)))) x4.2 x4.1).2).1, r5))))
  else none)))
  else none)
  else (
  some (x4.2, (b.1.length : Int), 0))) (0, r3)
 else none
 else none)) (
 bif (inb (b.1.length : Int) (b.1.length + 1) && decide ((b.1.length : Int) = (b.1.length : Int))) then
 bif decide (((b.1.take ((b.1.length : Int).toNat)).length + 1) * 40 ≤ LIM) then
 (F86 ((b.1.take ((b.1.length : Int).toNat)) ++ ([(b.2.1, (b.2.2.1, b.2.2.2))]))).bind fun r3 =>
 lfp (fun (rec4 : (Int × List (Int × (Int × List Int))) → Option ((List (Int × (Int × List Int))) × Int × Int)) (x4 : Int × List (Int × (Int × List Int))) =>
  bif decide (x4.1 < (r3.length : Int)) then (
  bif inb x4.1 x4.2.length then
  (both (
  (F60 (((rd (.pair (.int .u64) (.pair (.int .i64) (.slice 5 (.int .u8)))) x4.2 x4.1).2).2)).bind fun r5 =>
  bif inb x4.1 x4.2.length then
  rec4 ((IntKind.wrap .i64 (x4.1 + 1)), (x4.2.set x4.1.toNat ((rd (.pair (.int .u64) (.pair (.int .i64) (.slice 5 (.int .u8)))) x4.2 x4.1).1, (((rd (.pair (.int .u64) (.pair (.int .i64) (.slice 5 (.int .u8)))) x4.2 x4.1).2).1, r5))))
  else none) (
  (fun o => both o o) (
  (F60 (((rd (.pair (.int .u64) (.pair (.int .i64) (.slice 5 (.int .u8)))) x4.2 x4.1).2).2)).bind fun r5 =>
  bif inb x4.1 x4.2.length then
  rec4 ((IntKind.wrap .i64 (x4.1 + 1)), (x4.2.set x4.1.toNat ((rd (.pair (.int .u64) (.pair (.int .i64) (.slice 5 (.int .u8)))) x4.2 x4.1).1, (((rd (.pair (.int .u64) (.pair (.int .i64) (.slice 5 (.int .u8)))) x4.2 x4.1).2).1, r5))))
  else none)))
  else none)
  else (
  some (x4.2, (b.1.length : Int), 0))) (0, r3)
 else none
 else none))))))
 else (
 (F86 b.1).bind fun r6 =>
 lfp (fun (rec7 : (Int × List (Int × (Int × List Int))) → Option ((List (Int × (Int × List Int))) × Int × Int)) (x7 : Int × List (Int × (Int × List Int))) =>
  bif decide (x7.1 < (r6.length : Int)) then (
  bif inb x7.1 x7.2.length then
  (both (
  (F60 (((rd (.pair (.int .u64) (.pair (.int .i64) (.slice 5 (.int .u8)))) x7.2 x7.1).2).2)).bind fun r8 =>
  bif inb x7.1 x7.2.length then
  rec7 ((IntKind.wrap .i64 (x7.1 + 1)), (x7.2.set x7.1.toNat ((rd (.pair (.int .u64) (.pair (.int .i64) (.slice 5 (.int .u8)))) x7.2 x7.1).1, (((rd (.pair (.int .u64) (.pair (.int .i64) (.slice 5 (.int .u8)))) x7.2 x7.1).2).1, r8))))
  else none) (
  (fun o => both o o) (
  (F60 (((rd (.pair (.int .u64) (.pair (.int .i64) (.slice 5 (.int .u8)))) x7.2 x7.1).2).2)).bind fun r8 =>
  bif inb x7.1 x7.2.length then
  rec7 ((IntKind.wrap .i64 (x7.1 + 1)), (x7.2.set x7.1.toNat ((rd (.pair (.int .u64) (.pair (.int .i64) (.slice 5 (.int .u8)))) x7.2 x7.1).1, (((rd (.pair (.int .u64) (.pair (.int .i64) (.slice 5 (.int .u8)))) x7.2 x7.1).2).1, r8))))
  else none)))
  else none)
  else (
  some (x7.2, (mget (.pair (.int .u64) (.pair (.int .i64) .str)) (.int .i64) 0 r1.1 (r2.1, (r2.2.1, r2.2.2))), 0))) (0, r6))))
theorem ev51 (b : List (Int × (Int × List Int)) × (Int × (Int × List Int))) : evF C85 H51 Try.f51 (encs [.agg (.slice 39 (.pair (.int .u64) (.pair (.int .i64) (.slice 5 (.int .u8))))), .agg (.pair (.int .u64) (.pair (.int .i64) (.slice 5 (.int .u8))))] b) (RT.dec (.tup [.agg [.fresh 39 (.pair (.int .u64) (.pair (.int .i64) (.slice 5 (.int .u8))))], .leaf (.int .i64), .leaf (.int .i64)])) = F51 b := by kernel_rfl
noncomputable def C51 : Ctx := Ctx.add C85 51 [.agg (.slice 39 (.pair (.int .u64) (.pair (.int .i64) (.slice 5 (.int .u8))))), .agg (.pair (.int .u64) (.pair (.int .i64) (.slice 5 (.int .u8))))] (.tup [.agg [.fresh 39 (.pair (.int .u64) (.pair (.int .i64) (.slice 5 (.int .u8))))], .leaf (.int .i64), .leaf (.int .i64)]) F51
theorem s51 : C51.Sound := Ctx.Sound.add (C := C85) mixed s85 Try.func51 ev51
/-! damson/arena.Root -/
def H18 : Nat → Head := fun _ => ⟨[], []⟩
noncomputable def F18 (b : List (Int × (Int × List Int)) × Int × List Int) : Option ((List (Int × (Int × List Int))) × Int × Int) :=
 (F51 (b.1, (b.2.1, ((-1), b.2.2)))).bind fun r1 =>
 some (r1.1, r1.2.1, r1.2.2)
theorem ev18 (b : List (Int × (Int × List Int)) × Int × List Int) : evF C51 H18 Try.f18 (encs [.agg (.slice 39 (.pair (.int .u64) (.pair (.int .i64) (.slice 5 (.int .u8))))), .one (.int .u64), .one (.slice 5 (.int .u8))] b) (RT.dec (.tup [.agg [.fresh 39 (.pair (.int .u64) (.pair (.int .i64) (.slice 5 (.int .u8))))], .leaf (.int .i64), .leaf (.int .i64)])) = F18 b := by kernel_rfl
noncomputable def C18 : Ctx := Ctx.add C51 18 [.agg (.slice 39 (.pair (.int .u64) (.pair (.int .i64) (.slice 5 (.int .u8))))), .one (.int .u64), .one (.slice 5 (.int .u8))] (.tup [.agg [.fresh 39 (.pair (.int .u64) (.pair (.int .i64) (.slice 5 (.int .u8))))], .leaf (.int .i64), .leaf (.int .i64)]) F18
theorem s18 : C18.Sound := Ctx.Sound.add (C := C51) mixed s51 Try.func18 ev18
/-! damson/damsonlaw05.live -/
def H14 : Nat → Head := fun _ => ⟨[], []⟩
noncomputable def F14 (b : Unit) : Option Bool :=
 (F18 ([], 7, [])).bind fun r1 =>
 (F18 (r1.1, 7, [])).bind fun r2 =>
 some (bif (bif (bif (bif decide (r1.2.2 = 0) then decide (r2.2.2 = 0) else false) then decide (r1.2.1 = 0) else false) then decide (r2.2.1 = 0) else false) then decide ((r2.1.length : Int) = 1) else false)
theorem ev14 (b : Unit) : evF C18 H14 Try.f14 (encs [] b) (RT.dec (.one (.leaf (.bool)))) = F14 b := by kernel_rfl
noncomputable def C14 : Ctx := Ctx.add C18 14 [] (.one (.leaf (.bool))) F14
theorem s14 : C14.Sound := Ctx.Sound.add (C := C18) mixed s18 Try.func14 ev14
/-! damson/damsonref05.Few -/
def H15 : Nat → Head
  | 2 => ⟨[.data 2 .bool, .data 8 (.int .i64)], [4096]⟩
  | _ => ⟨[], []⟩
noncomputable def F15 (b : List (Int × (Int × List Int))) : Option Bool :=
 lfp (fun (rec1 : (Bool × Int) → Option Bool) (x1 : Bool × Int) =>
  bif decide (x1.2 < (b.length : Int)) then (
  bif inb x1.2 b.length then
  bif decide (200 < ((((rd (.pair (.int .u64) (.pair (.int .i64) (.slice 5 (.int .u8)))) b x1.2).2).2).length : Int)) then (
  some false)
  else (
  rec1 (x1.1, (IntKind.wrap .i64 (x1.2 + 1))))
  else none)
  else (
  some (decide ((b.length : Int) ≤ 80)))) (false, 0)
theorem ev15 (b : List (Int × (Int × List Int))) : evF C14 H15 Try.f15 (encs [.agg (.slice 39 (.pair (.int .u64) (.pair (.int .i64) (.slice 5 (.int .u8)))))] b) (RT.dec (.one (.leaf (.bool)))) = F15 b := by kernel_rfl
noncomputable def C15 : Ctx := Ctx.add C14 15 [.agg (.slice 39 (.pair (.int .u64) (.pair (.int .i64) (.slice 5 (.int .u8)))))] (.one (.leaf (.bool))) F15
theorem s15 : C15.Sound := Ctx.Sound.add (C := C14) mixed s14 Try.func15 ev15
/-! damson/damsonlaw05.few -/
def H16 : Nat → Head
  | 2 => ⟨[.data 2 .bool, .data 7 (.int .i64)], []⟩
  | _ => ⟨[], []⟩
noncomputable def F16 (b : List (List Int)) : Option Bool :=
 lfp (fun (rec1 : (Bool × Int) → Option Bool) (x1 : Bool × Int) =>
  bif decide (x1.2 < (b.length : Int)) then (
  bif inb x1.2 b.length then
  bif (bif (bif decide (200 < ((rd (.slice 5 (.int .u8)) b x1.2).length : Int)) then decide (((rd (.slice 5 (.int .u8)) b x1.2).length : Int) ≤ 4096) else false) then true else decide (4100 < ((rd (.slice 5 (.int .u8)) b x1.2).length : Int))) then (
  some false)
  else (
  rec1 (x1.1, (IntKind.wrap .i64 (x1.2 + 1))))
  else none)
  else (
  some (decide ((b.length : Int) ≤ 12)))) (false, 0)
theorem ev16 (b : List (List Int)) : evF C15 H16 Try.f16 (encs [.one (.slice 26 (.slice 5 (.int .u8)))] b) (RT.dec (.one (.leaf (.bool)))) = F16 b := by kernel_rfl
noncomputable def C16 : Ctx := Ctx.add C15 16 [.one (.slice 26 (.slice 5 (.int .u8)))] (.one (.leaf (.bool))) F16
theorem s16 : C16.Sound := Ctx.Sound.add (C := C15) mixed s15 Try.func16 ev16
/-! damson/damsonref01.SameBytes -/
def H50 : Nat → Head := fun _ => ⟨[], []⟩
noncomputable def F50 (b : List Int × List Int) : Option Bool :=
 some (decide (b.1 = b.2))
theorem ev50 (b : List Int × List Int) : evF C16 H50 Try.f50 (encs [.one (.slice 5 (.int .u8)), .one (.slice 5 (.int .u8))] b) (RT.dec (.one (.leaf (.bool)))) = F50 b := by kernel_rfl
noncomputable def C50 : Ctx := Ctx.add C16 50 [.one (.slice 5 (.int .u8)), .one (.slice 5 (.int .u8))] (.one (.leaf (.bool))) F50
theorem s50 : C50.Sound := Ctx.Sound.add (C := C16) mixed s16 Try.func50 ev50
/-! damson/arena.Next -/
def H20 : Nat → Head := fun _ => ⟨[], []⟩
noncomputable def F20 (b : List (Int × (Int × List Int)) × Int × List Int) : Option ((List (Int × (Int × List Int))) × Int × Int) :=
 bif decide (b.2.1 < 0) then (
 some (([] : List (Int × (Int × List Int))), 0, 1))
 else (
 (F51 (b.1, (0, (b.2.1, b.2.2)))).bind fun r1 =>
 some (r1.1, r1.2.1, r1.2.2))
theorem ev20 (b : List (Int × (Int × List Int)) × Int × List Int) : evF C50 H20 Try.f20 (encs [.agg (.slice 39 (.pair (.int .u64) (.pair (.int .i64) (.slice 5 (.int .u8))))), .one (.int .i64), .one (.slice 5 (.int .u8))] b) (RT.dec (.tup [.agg [.fresh 39 (.pair (.int .u64) (.pair (.int .i64) (.slice 5 (.int .u8))))], .leaf (.int .i64), .leaf (.int .i64)])) = F20 b := by kernel_rfl
noncomputable def C20 : Ctx := Ctx.add C50 20 [.agg (.slice 39 (.pair (.int .u64) (.pair (.int .i64) (.slice 5 (.int .u8))))), .one (.int .i64), .one (.slice 5 (.int .u8))] (.tup [.agg [.fresh 39 (.pair (.int .u64) (.pair (.int .i64) (.slice 5 (.int .u8))))], .leaf (.int .i64), .leaf (.int .i64)]) F20
theorem s20 : C20.Sound := Ctx.Sound.add (C := C50) mixed s50 Try.func20 ev20
/-! damson/arena.Check -/
def H23 : Nat → Head := fun _ => ⟨[], []⟩
noncomputable def F23 (b : List (Int × (Int × List Int))) : Option Int :=
 (F54 b).bind fun r1 =>
 some r1.2
theorem ev23 (b : List (Int × (Int × List Int))) : evF C20 H23 Try.f23 (encs [.agg (.slice 39 (.pair (.int .u64) (.pair (.int .i64) (.slice 5 (.int .u8)))))] b) (RT.dec (.one (.leaf (.int .i64)))) = F23 b := by kernel_rfl
noncomputable def C23 : Ctx := Ctx.add C20 23 [.agg (.slice 39 (.pair (.int .u64) (.pair (.int .i64) (.slice 5 (.int .u8)))))] (.one (.leaf (.int .i64))) F23
theorem s23 : C23.Sound := Ctx.Sound.add (C := C20) mixed s20 Try.func23 ev23
/-! bytes.Equal -/
def H87 : Nat → Head := fun _ => ⟨[], []⟩
noncomputable def F87 (b : List Int × List Int) : Option Bool :=
 some (decide (b.1 = b.2))
theorem ev87 (b : List Int × List Int) : evF C23 H87 Try.f87 (encs [.one (.slice 5 (.int .u8)), .one (.slice 5 (.int .u8))] b) (RT.dec (.one (.leaf (.bool)))) = F87 b := by kernel_rfl
noncomputable def C87 : Ctx := Ctx.add C23 87 [.one (.slice 5 (.int .u8)), .one (.slice 5 (.int .u8))] (.one (.leaf (.bool))) F87
theorem s87 : C87.Sound := Ctx.Sound.add (C := C23) mixed s23 Try.func87 ev87
/-! damson/arena.one -/
def H57 : Nat → Head := fun _ => ⟨[], []⟩
noncomputable def F57 (b : (Int × (Int × List Int)) × (Int × (Int × List Int))) : Option Bool :=
 bif ((bif decide (b.1.1 = b.2.1) then decide (b.1.2.1 = b.2.2.1) else false) == true) then (
 (F87 (b.1.2.2, b.2.2.2)).bind fun r1 =>
 some r1)
 else (
 some false)
theorem ev57 (b : (Int × (Int × List Int)) × (Int × (Int × List Int))) : evF C87 H57 Try.f57 (encs [.agg (.pair (.int .u64) (.pair (.int .i64) (.slice 5 (.int .u8)))), .agg (.pair (.int .u64) (.pair (.int .i64) (.slice 5 (.int .u8))))] b) (RT.dec (.one (.leaf (.bool)))) = F57 b := by kernel_rfl
noncomputable def C57 : Ctx := Ctx.add C87 57 [.agg (.pair (.int .u64) (.pair (.int .i64) (.slice 5 (.int .u8)))), .agg (.pair (.int .u64) (.pair (.int .i64) (.slice 5 (.int .u8))))] (.one (.leaf (.bool))) F57
theorem s57 : C57.Sound := Ctx.Sound.add (C := C87) mixed s87 Try.func57 ev57
/-! slices.EqualFunc[[]damson/api.Term,[]damson/api.Term,damson/api.Term,damson/api.Term] -/
def H56057 : Nat → Head
  | 4 => ⟨[.data 6 .bool, .data 17 (.int .i64)], []⟩
  | _ => ⟨[], []⟩
noncomputable def F56057 (b : List (Int × (Int × List Int)) × List (Int × (Int × List Int)) × Unit) : Option Bool :=
 bif (!decide ((b.1.length : Int) = (b.2.1.length : Int))) then (
 some false)
 else (
 lfp (fun (rec1 : (Bool × Int) → Option Bool) (x1 : Bool × Int) =>
  bif decide (x1.2 < (b.1.length : Int)) then (
  bif inb x1.2 b.1.length then
  bif inb x1.2 b.2.1.length then
  (F57 (((rd (.pair (.int .u64) (.pair (.int .i64) (.slice 5 (.int .u8)))) b.1 x1.2).1, (((rd (.pair (.int .u64) (.pair (.int .i64) (.slice 5 (.int .u8)))) b.1 x1.2).2).1, ((rd (.pair (.int .u64) (.pair (.int .i64) (.slice 5 (.int .u8)))) b.1 x1.2).2).2)), ((rd (.pair (.int .u64) (.pair (.int .i64) (.slice 5 (.int .u8)))) b.2.1 x1.2).1, (((rd (.pair (.int .u64) (.pair (.int .i64) (.slice 5 (.int .u8)))) b.2.1 x1.2).2).1, ((rd (.pair (.int .u64) (.pair (.int .i64) (.slice 5 (.int .u8)))) b.2.1 x1.2).2).2)))).bind fun r2 =>
  bif (!r2) then (
  some false)
  else (
  rec1 (x1.1, (IntKind.wrap .i64 (x1.2 + 1))))
  else none
  else none)
  else (
  some true)) (false, 0))
theorem ev56057 (b : List (Int × (Int × List Int)) × List (Int × (Int × List Int)) × Unit) : evF C57 H56057 Try.f56 (encs [.one (.slice 39 (.pair (.int .u64) (.pair (.int .i64) (.slice 5 (.int .u8))))), .one (.slice 39 (.pair (.int .u64) (.pair (.int .i64) (.slice 5 (.int .u8))))), .fn 57] b) (RT.dec (.one (.leaf (.bool)))) = F56057 b := by kernel_rfl
noncomputable def C56057 : Ctx := Ctx.add C57 56 [.one (.slice 39 (.pair (.int .u64) (.pair (.int .i64) (.slice 5 (.int .u8))))), .one (.slice 39 (.pair (.int .u64) (.pair (.int .i64) (.slice 5 (.int .u8))))), .fn 57] (.one (.leaf (.bool))) F56057
theorem s56057 : C56057.Sound := Ctx.Sound.add (C := C57) mixed s57 Try.func56 ev56057
/-! damson/arena.Same -/
def H25 : Nat → Head := fun _ => ⟨[], []⟩
noncomputable def F25 (b : List (Int × (Int × List Int)) × List (Int × (Int × List Int))) : Option Bool :=
 (F56057 (b.1, b.2, ())).bind fun r1 =>
 some r1
theorem ev25 (b : List (Int × (Int × List Int)) × List (Int × (Int × List Int))) : evF C56057 H25 Try.f25 (encs [.agg (.slice 39 (.pair (.int .u64) (.pair (.int .i64) (.slice 5 (.int .u8))))), .agg (.slice 39 (.pair (.int .u64) (.pair (.int .i64) (.slice 5 (.int .u8)))))] b) (RT.dec (.one (.leaf (.bool)))) = F25 b := by kernel_rfl
noncomputable def C25 : Ctx := Ctx.add C56057 25 [.agg (.slice 39 (.pair (.int .u64) (.pair (.int .i64) (.slice 5 (.int .u8))))), .agg (.slice 39 (.pair (.int .u64) (.pair (.int .i64) (.slice 5 (.int .u8)))))] (.one (.leaf (.bool))) F25
theorem s25 : C25.Sound := Ctx.Sound.add (C := C56057) mixed s56057 Try.func25 ev25
/-! damson/damsonlaw05.made -/
def H26 : Nat → Head
  | 3 => ⟨[.data 11 (.int .i64), .data 12 (.int .i64), .data 25 (.int .i64), .box 16384 (.slice 39 (.pair (.int .u64) (.pair (.int .i64) (.slice 5 (.int .u8)))))], [77824, 32768]⟩
  | 3000000 => ⟨[], [16384]⟩
  | 3000001 => ⟨[], [16384]⟩
  | 3000002 => ⟨[], [16384]⟩
  | 3000003 => ⟨[], [16384]⟩
  | 3000004 => ⟨[], [16384]⟩
  | 3000005 => ⟨[], [16384]⟩
  | 3000006 => ⟨[], [16384]⟩
  | 3000007 => ⟨[], [16384]⟩
  | 3000008 => ⟨[], [16384]⟩
  | _ => ⟨[], []⟩
noncomputable def F26 (b : List (Int × (Int × List Int)) × Int × List Int × List (List Int)) : Option ((List (Int × (Int × List Int))) × Int × Bool) :=
 (F18 (b.1, b.2.1, b.2.2.1)).bind fun r1 =>
 lfp (fun (rec2 : (Int × Int × Int × List (Int × (Int × List Int))) → Option ((List (Int × (Int × List Int))) × Int × Bool)) (x2 : Int × Int × Int × List (Int × (Int × List Int))) =>
  bif decide (x2.2.2.1 < (b.2.2.2.length : Int)) then (
  bif inb x2.2.2.1 b.2.2.2.length then
  bif decide (x2.2.1 = 0) then (
  (F20 (x2.2.2.2, x2.1, (rd (.slice 5 (.int .u8)) b.2.2.2 x2.2.2.1))).bind fun r3 =>
  rec2 (r3.2.1, r3.2.2, (IntKind.wrap .i64 (x2.2.2.1 + 1)), r3.1))
  else (
  rec2 (x2.1, x2.2.1, (IntKind.wrap .i64 (x2.2.2.1 + 1)), x2.2.2.2))
  else none)
  else (
  some (x2.2.2.2, x2.1, decide (x2.2.1 = 0)))) (r1.2.1, r1.2.2, 0, r1.1)
theorem ev26 (b : List (Int × (Int × List Int)) × Int × List Int × List (List Int)) : evF C25 H26 Try.f26 (encs [.agg (.slice 39 (.pair (.int .u64) (.pair (.int .i64) (.slice 5 (.int .u8))))), .one (.int .u64), .one (.slice 5 (.int .u8)), .one (.slice 26 (.slice 5 (.int .u8)))] b) (RT.dec (.tup [.agg [.sl 39 (.pair (.int .u64) (.pair (.int .i64) (.slice 5 (.int .u8))))], .leaf (.int .i64), .leaf (.bool)])) = F26 b := by kernel_rfl
noncomputable def C26 : Ctx := Ctx.add C25 26 [.agg (.slice 39 (.pair (.int .u64) (.pair (.int .i64) (.slice 5 (.int .u8))))), .one (.int .u64), .one (.slice 5 (.int .u8)), .one (.slice 26 (.slice 5 (.int .u8)))] (.tup [.agg [.sl 39 (.pair (.int .u64) (.pair (.int .i64) (.slice 5 (.int .u8))))], .leaf (.int .i64), .leaf (.bool)]) F26
theorem s26 : C26.Sound := Ctx.Sound.add (C := C25) mixed s25 Try.func26 ev26
/-! damson/damsonref03.SameTexts -/
def H27 : Nat → Head
  | 4 => ⟨[.data 4 .bool, .data 13 (.int .i64)], []⟩
  | 5000006 => ⟨[], [0, 0, 0, 0, 3, 3, 4, 4, 0, 0, 0, 0, 48, 48, 64, 64, 136, 136, 256, 256]⟩
  | _ => ⟨[], []⟩
noncomputable def F27 (b : List (List Int) × List (List Int)) : Option Bool :=
 bif (!decide ((b.1.length : Int) = (b.2.length : Int))) then (
 some false)
 else (
 lfp (fun (rec1 : (Bool × Int) → Option Bool) (x1 : Bool × Int) =>
  bif decide (x1.2 < (b.1.length : Int)) then (
  bif inb x1.2 b.1.length then
  bif inb x1.2 b.2.length then
  (F50 ((rd (.slice 5 (.int .u8)) b.1 x1.2), (rd (.slice 5 (.int .u8)) b.2 x1.2))).bind fun r2 =>
  bif (!r2) then (
  some false)
  else (
  rec1 (x1.1, (IntKind.wrap .i64 (x1.2 + 1))))
  else none
  else none)
  else (
  some true)) (false, 0))
theorem ev27 (b : List (List Int) × List (List Int)) : evF C26 H27 Try.f27 (encs [.one (.slice 26 (.slice 5 (.int .u8))), .one (.slice 26 (.slice 5 (.int .u8)))] b) (RT.dec (.one (.leaf (.bool)))) = F27 b := by kernel_rfl
noncomputable def C27 : Ctx := Ctx.add C26 27 [.one (.slice 26 (.slice 5 (.int .u8))), .one (.slice 26 (.slice 5 (.int .u8)))] (.one (.leaf (.bool))) F27
theorem s27 : C27.Sound := Ctx.Sound.add (C := C26) mixed s26 Try.func27 ev27
/-! damson/damsonlaw05.ArenaFree -/
def H4 : Nat → Head := fun _ => ⟨[], []⟩
noncomputable def F4 (b : List (Int × (Int × List Int)) × Int × Int × List Int × List Int × List (List Int) × List (List Int)) : Option Bool :=
 (F14 ()).bind fun r1 =>
 bif (!r1) then (
 some false)
 else (
 (F15 b.1).bind fun r2 =>
 bif ((!r2) == false) then (
 (F16 b.2.2.2.2.2.1).bind fun r3 =>
 bif ((!r3) == false) then (
 (F16 b.2.2.2.2.2.2).bind fun r4 =>
 bif ((!r4) == false) then (
 (F16 ([b.2.2.2.1, b.2.2.2.2.1])).bind fun r5 =>
 bif (!r5) then (
 some true)
 else (
 (F26 (b.1, b.2.1, b.2.2.2.1, b.2.2.2.2.2.1)).bind fun r6 =>
 bif (!r6.2.2) then (
 some true)
 else (
 (F26 (r6.1, b.2.2.1, b.2.2.2.2.1, b.2.2.2.2.2.2)).bind fun r7 =>
 bif (!r7.2.2) then (
 some true)
 else (
 (F26 (r7.1, b.2.1, b.2.2.2.1, b.2.2.2.2.2.1)).bind fun r8 =>
 bif ((bif (!r8.2.2) then true else (!decide (r8.2.1 = r6.2.1))) == false) then (
 (F25 (r7.1, r8.1)).bind fun r9 =>
 bif ((!r9) == false) then (
 (F23 r7.1).bind fun r10 =>
 bif (bif (!decide (r10 = 0)) then true else decide ((IntKind.wrap .i64 ((IntKind.wrap .i64 ((IntKind.wrap .i64 ((b.1.length : Int) + 2)) + (b.2.2.2.2.2.1.length : Int))) + (b.2.2.2.2.2.2.length : Int))) < (r7.1.length : Int))) then (
 some false)
 else (
 bif (decide (b.2.1 = b.2.2.1) == true) then (
 bif (decide (b.2.2.2.1 = b.2.2.2.2.1) == true) then (
 (F27 (b.2.2.2.2.2.1, b.2.2.2.2.2.2)).bind fun r11 =>
 some (decide (r6.2.1 = r7.2.1) == r11))
 else (
 some (decide (r6.2.1 = r7.2.1) == false)))
 else (
 some (decide (r6.2.1 = r7.2.1) == false))))
 else (
 some false))
 else (
 some false)))))
 else (
 some true))
 else (
 some true))
 else (
 some true))
theorem ev4 (b : List (Int × (Int × List Int)) × Int × Int × List Int × List Int × List (List Int) × List (List Int)) : evF C27 H4 Try.f4 (encs [.agg (.slice 39 (.pair (.int .u64) (.pair (.int .i64) (.slice 5 (.int .u8))))), .one (.int .u64), .one (.int .u64), .one (.slice 5 (.int .u8)), .one (.slice 5 (.int .u8)), .one (.slice 26 (.slice 5 (.int .u8))), .one (.slice 26 (.slice 5 (.int .u8)))] b) (RT.dec (.one (.leaf (.bool)))) = F4 b := by kernel_rfl
noncomputable def C4 : Ctx := Ctx.add C27 4 [.agg (.slice 39 (.pair (.int .u64) (.pair (.int .i64) (.slice 5 (.int .u8))))), .one (.int .u64), .one (.int .u64), .one (.slice 5 (.int .u8)), .one (.slice 5 (.int .u8)), .one (.slice 26 (.slice 5 (.int .u8))), .one (.slice 26 (.slice 5 (.int .u8)))] (.one (.leaf (.bool))) F4
theorem s4 : C4.Sound := Ctx.Sound.add (C := C27) mixed s27 Try.func4 ev4
/-! slices.IndexFunc[[][]byte,[]byte] -/
def H88058 : Nat → Head
  | 2 => ⟨[.data 4 (.int .i64), .data 8 (.int .i64)], []⟩
  | _ => ⟨[], []⟩
noncomputable def F88058 (b : List (List Int) × Unit) : Option Int :=
 lfp (fun (rec1 : (Int × Int) → Option Int) (x1 : Int × Int) =>
  bif decide (x1.2 < (b.1.length : Int)) then (
  bif inb x1.2 b.1.length then
  (F58 (rd (.slice 5 (.int .u8)) b.1 x1.2)).bind fun r2 =>
  bif r2 then (
  some x1.2)
  else (
  rec1 (x1.1, (IntKind.wrap .i64 (x1.2 + 1))))
  else none)
  else (
  some (-1))) (0, 0)
theorem ev88058 (b : List (List Int) × Unit) : evF C4 H88058 Try.f88 (encs [.one (.slice 26 (.slice 5 (.int .u8))), .fn 58] b) (RT.dec (.one (.leaf (.int .i64)))) = F88058 b := by kernel_rfl
noncomputable def C88058 : Ctx := Ctx.add C4 88 [.one (.slice 26 (.slice 5 (.int .u8))), .fn 58] (.one (.leaf (.int .i64))) F88058
theorem s88058 : C88058.Sound := Ctx.Sound.add (C := C4) mixed s4 Try.func88 ev88058
/-! slices.ContainsFunc[[][]byte,[]byte] -/
def H59058 : Nat → Head := fun _ => ⟨[], []⟩
noncomputable def F59058 (b : List (List Int) × Unit) : Option Bool :=
 (F88058 (b.1, ())).bind fun r1 =>
 some (decide (0 ≤ r1))
theorem ev59058 (b : List (List Int) × Unit) : evF C88058 H59058 Try.f59 (encs [.one (.slice 26 (.slice 5 (.int .u8))), .fn 58] b) (RT.dec (.one (.leaf (.bool)))) = F59058 b := by kernel_rfl
noncomputable def C59058 : Ctx := Ctx.add C88058 59 [.one (.slice 26 (.slice 5 (.int .u8))), .fn 58] (.one (.leaf (.bool))) F59058
theorem s59058 : C59058.Sound := Ctx.Sound.add (C := C88058) mixed s88058 Try.func59 ev59058
/-! damson/arena.Find -/
def H28 : Nat → Head
  | 9 => ⟨[.data 13 (.int .i64), .data 14 .bool, .data 44 (.int .i64)], [16384]⟩
  | _ => ⟨[], []⟩
noncomputable def F28 (b : List (Int × (Int × List Int)) × Int × List Int × List (List Int)) : Option (Int × Int) :=
 (F54 b.1).bind fun r1 =>
 bif (!decide (r1.2 = 0)) then (
 some (0, r1.2))
 else (
 (F58 b.2.2.1).bind fun r2 =>
 bif (r2 == false) then (
 (F59058 (b.2.2.2, ())).bind fun r3 =>
 bif r3 then (
 some (0, 4))
 else (
 lfp (fun (rec4 : (Int × Bool × Int) → Option (Int × Int)) (x4 : Int × Bool × Int) =>
  bif decide (x4.2.2 < (b.2.2.2.length : Int)) then (
  bif inb x4.2.2 b.2.2.2.length then
  bif (!x4.2.1) then (
  bif (!x4.2.1) then (
  some (0, 5))
  else (
  some (x4.1, 0)))
  else (
  rec4 ((mget (.pair (.int .u64) (.pair (.int .i64) .str)) (.int .i64) 0 r1.1 (0, (x4.1, (rd (.slice 5 (.int .u8)) b.2.2.2 x4.2.2)))), (mhas (.pair (.int .u64) (.pair (.int .i64) .str)) (.int .i64) r1.1 (0, (x4.1, (rd (.slice 5 (.int .u8)) b.2.2.2 x4.2.2)))), (IntKind.wrap .i64 (x4.2.2 + 1))))
  else none)
  else (
  bif (!x4.2.1) then (
  some (0, 5))
  else (
  some (x4.1, 0)))) ((mget (.pair (.int .u64) (.pair (.int .i64) .str)) (.int .i64) 0 r1.1 (b.2.1, ((-1), b.2.2.1))), (mhas (.pair (.int .u64) (.pair (.int .i64) .str)) (.int .i64) r1.1 (b.2.1, ((-1), b.2.2.1))), 0)))
 else (
 some (0, 4)))
theorem ev28 (b : List (Int × (Int × List Int)) × Int × List Int × List (List Int)) : evF C59058 H28 Try.f28 (encs [.agg (.slice 39 (.pair (.int .u64) (.pair (.int .i64) (.slice 5 (.int .u8))))), .one (.int .u64), .one (.slice 5 (.int .u8)), .one (.slice 26 (.slice 5 (.int .u8)))] b) (RT.dec (.tup [.leaf (.int .i64), .leaf (.int .i64)])) = F28 b := by kernel_rfl
noncomputable def C28 : Ctx := Ctx.add C59058 28 [.agg (.slice 39 (.pair (.int .u64) (.pair (.int .i64) (.slice 5 (.int .u8))))), .one (.int .u64), .one (.slice 5 (.int .u8)), .one (.slice 26 (.slice 5 (.int .u8)))] (.tup [.leaf (.int .i64), .leaf (.int .i64)]) F28
theorem s28 : C28.Sound := Ctx.Sound.add (C := C59058) mixed s59058 Try.func28 ev28
/-! slices.Reverse[[][]byte,[]byte]: carried out where it is called -/
def H61 : Nat → Head
  | 1 => ⟨[.data 2 (.int .i64), .data 3 (.int .i64), .rowk 22532 26 (.slice 5 (.int .u8))], [9000061, 8192]⟩
  | 5000003 => ⟨[], [0, 0, 0, 0, 0, 0, 0, 0, 0, 0, 0, 0, 48, 48, 64, 64, 0, 0, 0, 0, 768, 768, 1024, 1024, 2291, 3, 6387, 4224, 16383, 12, 32767, 18432]⟩
  | _ => ⟨[], []⟩
noncomputable def C61 : Ctx := Ctx.addI C28 61 H61 9000061 Try.f61
theorem s61 : C61.Sound := Ctx.Sound.addI (C := C28) mixed s28 Try.func61
/-! damson/arena.Path -/
def H30 : Nat → Head
  | 4 => ⟨[.data 1 (.int .i64), .data 4 (.int .u64), .row 5 22532 26 (.slice 5 (.int .u8))], [8192]⟩
  | _ => ⟨[], []⟩
noncomputable def F30 (b : List (Int × (Int × List Int)) × Int) : Option (Int × List (List Int) × Int) :=
 (F54 b.1).bind fun r1 =>
 bif (bif (bif (!decide (r1.2 = 0)) then true else decide (b.2 < 0)) then true else decide ((b.1.length : Int) ≤ b.2)) then (
 some (0, ([] : List (List Int)), 1))
 else (
 lfp (fun (rec2 : (Int × Int × List (List Int)) → Option (Int × List (List Int) × Int)) (x2 : Int × Int × List (List Int)) =>
  bif (!decide (x2.1 = (-1))) then (
  bif inb x2.1 b.1.length then
  bif inb x2.1 b.1.length then
  (F60 (((rd (.pair (.int .u64) (.pair (.int .i64) (.slice 5 (.int .u8)))) b.1 x2.1).2).2)).bind fun r3 =>
  bif decide ((x2.2.2.length + 1) * 24 ≤ LIM) then
  bif inb x2.1 b.1.length then
  rec2 (((rd (.pair (.int .u64) (.pair (.int .i64) (.slice 5 (.int .u8)))) b.1 x2.1).2).1, (rd (.pair (.int .u64) (.pair (.int .i64) (.slice 5 (.int .u8)))) b.1 x2.1).1, (x2.2.2 ++ ([r3])))
  else none
  else none
  else none
  else none)
  else (
  lfp (fun (rec4 : (Int × Int × List (List Int)) → Option (Int × List (List Int) × Int)) (x4 : Int × Int × List (List Int)) =>
   bif decide (x4.1 < x4.2.1) then (
   bif inb x4.2.1 x4.2.2.length then
   bif inb x4.1 x4.2.2.length then
   (fun o => both o o) (
   bif inb x4.1 x4.2.2.length then
   bif inb x4.2.1 (x4.2.2.set x4.1.toNat (rd (.slice 5 (.int .u8)) x4.2.2 x4.2.1)).length then
   rec4 ((IntKind.wrap .i64 (x4.1 + 1)), (IntKind.wrap .i64 (x4.2.1 - 1)), ((x4.2.2.set x4.1.toNat (rd (.slice 5 (.int .u8)) x4.2.2 x4.2.1)).set x4.2.1.toNat (rd (.slice 5 (.int .u8)) x4.2.2 x4.1)))
   else none
   else none)
   else none
   else none)
   else (
   some (x2.2.1, x4.2.2, 0))) (0, (IntKind.wrap .i64 ((x2.2.2.length : Int) - 1)), x2.2.2))) (b.2, 0, ([] : List (List Int))))
theorem ev30 (b : List (Int × (Int × List Int)) × Int) : evF C61 H30 Try.f30 (encs [.agg (.slice 39 (.pair (.int .u64) (.pair (.int .i64) (.slice 5 (.int .u8))))), .one (.int .i64)] b) (RT.dec (.tup [.leaf (.int .u64), .leaf (.fresh 26 (.slice 5 (.int .u8))), .leaf (.int .i64)])) = F30 b := by kernel_rfl
noncomputable def C30 : Ctx := Ctx.add C61 30 [.agg (.slice 39 (.pair (.int .u64) (.pair (.int .i64) (.slice 5 (.int .u8))))), .one (.int .i64)] (.tup [.leaf (.int .u64), .leaf (.fresh 26 (.slice 5 (.int .u8))), .leaf (.int .i64)]) F30
theorem s30 : C30.Sound := Ctx.Sound.add (C := C61) mixed s61 Try.func30 ev30
/-! damson/damsonlaw05.ArenaGrows -/
def H7 : Nat → Head
  | 1000010 => ⟨[], [11]⟩
  | 5000013 => ⟨[], [0, 0, 0, 0, 0, 0, 4, 4, 8, 8, 0, 0, 32, 32, 64, 64, 0, 0, 256, 256, 640, 640, 1043, 1043, 2048, 2048, 4096, 4096, 4096, 4096, 16383, 8192, 65535, 16384]⟩
  | 5000014 => ⟨[], [0, 0, 1, 1, 2, 2, 4, 4, 4, 4, 28, 28, 36, 36, 68, 64, 128, 128, 384, 384, 128, 128, 1152, 1152, 2176, 2176, 4736, 4736, 8320, 8320, 128, 128, 49280, 49280, 65664, 65664, 262143, 131072]⟩
  | _ => ⟨[], []⟩
noncomputable def F7 (b : List (Int × (Int × List Int)) × Int × List Int) : Option Bool :=
 (F14 ()).bind fun r1 =>
 bif (!r1) then (
 some false)
 else (
 (F15 b.1).bind fun r2 =>
 bif ((!r2) == false) then (
 (F16 ([b.2.2])).bind fun r3 =>
 bif (!r3) then (
 some true)
 else (
 (F20 (b.1, b.2.1, b.2.2)).bind fun r4 =>
 bif (!decide (r4.2.2 = 0)) then (
 some (bif decide (r4.2.1 = 0) then decide ((r4.1.length : Int) = 0) else false))
 else (
 bif ((bif (bif (bif (bif decide ((r4.1.length : Int) < (b.1.length : Int)) then true else decide ((IntKind.wrap .i64 ((b.1.length : Int) + 1)) < (r4.1.length : Int))) then true else decide (r4.2.1 < 0)) then true else decide ((r4.1.length : Int) ≤ r4.2.1)) then true else decide (r4.2.1 ≤ b.2.1)) == false) then (
 bif (bif decide ((r4.1.length : Int) = (IntKind.wrap .i64 ((b.1.length : Int) + 1))) then (!decide (r4.2.1 = (b.1.length : Int))) else false) then (
 some false)
 else (
 (F30 (b.1, b.2.1)).bind fun r5 =>
 bif (bif (!decide (r5.2.2 = 0)) then true else decide ((r5.2.1.length : Int) = 0)) then (
 some false)
 else (
 bif inb 0 r5.2.1.length then
 bif inb 1 (r5.2.1.length + 1) then
 (both (
 (fun o => both o o) (
 bif (!(r5.2.1.drop ((1 : Int).toNat)).isEmpty || true) then
 bif decide ((([] : List (List Int)).length + (r5.2.1.drop ((1 : Int).toNat)).length) * 24 ≤ LIM) then
 bif decide (((([] : List (List Int)) ++ (r5.2.1.drop ((1 : Int).toNat))).length + 1) * 24 ≤ LIM) then
 (F28 (r4.1, r5.1, (rd (.slice 5 (.int .u8)) r5.2.1 0), (([] : List (List Int)) ++ (r5.2.1.drop ((1 : Int).toNat))) ++ ([b.2.2]))).bind fun r6 =>
 (both (
 (both (
 bif ((bif decide (r6.2 = 0) then decide (r6.1 = r4.2.1) else false) == true) then (
 bif inb (b.1.length : Int) (r4.1.length + 1) then
 (fun o => both o o) (
 (F25 (r4.1.take ((b.1.length : Int).toNat), b.1)).bind fun r7 =>
 some r7)
 else none)
 else (
 (fun o => both o o) (
 some false))) (
 bif ((bif decide (r6.2 = 0) then decide (r6.1 = r4.2.1) else false) == true) then (
 bif inb (b.1.length : Int) (r4.1.length + 1) then
 (F25 (r4.1.take ((b.1.length : Int).toNat), b.1)).bind fun r7 =>
 some r7
 else none)
 else (
 some false)))) (both (
 (both (
 bif ((bif decide (r6.2 = 0) then decide (r6.1 = r4.2.1) else false) == true) then (
 bif inb (b.1.length : Int) (r4.1.length + 1) then
 (fun o => both o o) (
 (F25 (r4.1.take ((b.1.length : Int).toNat), b.1)).bind fun r7 =>
 some r7)
 else none)
 else (
 (fun o => both o o) (
 some false))) (
 bif ((bif decide (r6.2 = 0) then decide (r6.1 = r4.2.1) else false) == true) then (
 bif inb (b.1.length : Int) (r4.1.length + 1) then
 (F25 (r4.1.take ((b.1.length : Int).toNat), b.1)).bind fun r7 =>
 some r7
 else none)
 else (
 some false)))) (
 (fun o => both o o) (
 bif ((bif decide (r6.2 = 0) then decide (r6.1 = r4.2.1) else false) == true) then (
 bif inb (b.1.length : Int) (r4.1.length + 1) then
 (F25 (r4.1.take ((b.1.length : Int).toNat), b.1)).bind fun r7 =>
 some r7
 else none)
 else (
 some false)))))
 else none
 else none
 else none)) (both (
 bif (!(r5.2.1.drop ((1 : Int).toNat)).isEmpty || true) then
 bif decide ((([] : List (List Int)).length + (r5.2.1.drop ((1 : Int).toNat)).length) * 24 ≤ LIM) then
 (both (
 bif decide (((([] : List (List Int)) ++ (r5.2.1.drop ((1 : Int).toNat))).length + 1) * 24 ≤ LIM) then
 (F28 (r4.1, r5.1, (rd (.slice 5 (.int .u8)) r5.2.1 0), (([] : List (List Int)) ++ (r5.2.1.drop ((1 : Int).toNat))) ++ ([b.2.2]))).bind fun r6 =>
 (both (
 (both (
 bif ((bif decide (r6.2 = 0) then decide (r6.1 = r4.2.1) else false) == true) then (
 bif inb (b.1.length : Int) (r4.1.length + 1) then
 (fun o => both o o) (
 (F25 (r4.1.take ((b.1.length : Int).toNat), b.1)).bind fun r7 =>
 some r7)
 else none)
 else (
 (fun o => both o o) (
 some false))) (
 bif ((bif decide (r6.2 = 0) then decide (r6.1 = r4.2.1) else false) == true) then (
 bif inb (b.1.length : Int) (r4.1.length + 1) then
 (F25 (r4.1.take ((b.1.length : Int).toNat), b.1)).bind fun r7 =>
 some r7
 else none)
 else (
 some false)))) (both (
 (both (
 bif ((bif decide (r6.2 = 0) then decide (r6.1 = r4.2.1) else false) == true) then (
 bif inb (b.1.length : Int) (r4.1.length + 1) then
 (fun o => both o o) (
 (F25 (r4.1.take ((b.1.length : Int).toNat), b.1)).bind fun r7 =>
 some r7)
 else none)
 else (
 (fun o => both o o) (
 some false))) (
 bif ((bif decide (r6.2 = 0) then decide (r6.1 = r4.2.1) else false) == true) then (
 bif inb (b.1.length : Int) (r4.1.length + 1) then
 (F25 (r4.1.take ((b.1.length : Int).toNat), b.1)).bind fun r7 =>
 some r7
 else none)
 else (
 some false)))) (
 (fun o => both o o) (
 bif ((bif decide (r6.2 = 0) then decide (r6.1 = r4.2.1) else false) == true) then (
 bif inb (b.1.length : Int) (r4.1.length + 1) then
 (F25 (r4.1.take ((b.1.length : Int).toNat), b.1)).bind fun r7 =>
 some r7
 else none)
 else (
 some false)))))
 else none) (
 (fun o => both o o) (
 bif decide (((([] : List (List Int)) ++ (r5.2.1.drop ((1 : Int).toNat))).length + 1) * 24 ≤ LIM) then
 (F28 (r4.1, r5.1, (rd (.slice 5 (.int .u8)) r5.2.1 0), (([] : List (List Int)) ++ (r5.2.1.drop ((1 : Int).toNat))) ++ ([b.2.2]))).bind fun r6 =>
 (both (
 (both (
 bif ((bif decide (r6.2 = 0) then decide (r6.1 = r4.2.1) else false) == true) then (
 bif inb (b.1.length : Int) (r4.1.length + 1) then
 (fun o => both o o) (
 (F25 (r4.1.take ((b.1.length : Int).toNat), b.1)).bind fun r7 =>
 some r7)
 else none)
 else (
 (fun o => both o o) (
 some false))) (
 bif ((bif decide (r6.2 = 0) then decide (r6.1 = r4.2.1) else false) == true) then (
 bif inb (b.1.length : Int) (r4.1.length + 1) then
 (F25 (r4.1.take ((b.1.length : Int).toNat), b.1)).bind fun r7 =>
 some r7
 else none)
 else (
 some false)))) (both (
 (both (
 bif ((bif decide (r6.2 = 0) then decide (r6.1 = r4.2.1) else false) == true) then (
 bif inb (b.1.length : Int) (r4.1.length + 1) then
 (fun o => both o o) (
 (F25 (r4.1.take ((b.1.length : Int).toNat), b.1)).bind fun r7 =>
 some r7)
 else none)
 else (
 (fun o => both o o) (
 some false))) (
 bif ((bif decide (r6.2 = 0) then decide (r6.1 = r4.2.1) else false) == true) then (
 bif inb (b.1.length : Int) (r4.1.length + 1) then
 (F25 (r4.1.take ((b.1.length : Int).toNat), b.1)).bind fun r7 =>
 some r7
 else none)
 else (
 some false)))) (
 (fun o => both o o) (
 bif ((bif decide (r6.2 = 0) then decide (r6.1 = r4.2.1) else false) == true) then (
 bif inb (b.1.length : Int) (r4.1.length + 1) then
 (F25 (r4.1.take ((b.1.length : Int).toNat), b.1)).bind fun r7 =>
 some r7
 else none)
 else (
 some false)))))
 else none)))
 else none
 else none) (
 (both (
 bif (!(r5.2.1.drop ((1 : Int).toNat)).isEmpty || true) then
 bif decide ((([] : List (List Int)).length + (r5.2.1.drop ((1 : Int).toNat)).length) * 24 ≤ LIM) then
 bif decide (((([] : List (List Int)) ++ (r5.2.1.drop ((1 : Int).toNat))).length + 1) * 24 ≤ LIM) then
 (F28 (r4.1, r5.1, (rd (.slice 5 (.int .u8)) r5.2.1 0), (([] : List (List Int)) ++ (r5.2.1.drop ((1 : Int).toNat))) ++ ([b.2.2]))).bind fun r6 =>
 (both (
 (both (
 bif ((bif decide (r6.2 = 0) then decide (r6.1 = r4.2.1) else false) == true) then (
 bif inb (b.1.length : Int) (r4.1.length + 1) then
 (fun o => both o o) (
 (F25 (r4.1.take ((b.1.length : Int).toNat), b.1)).bind fun r7 =>
 some r7)
 else none)
 else (
 (fun o => both o o) (
 some false))) (
 bif ((bif decide (r6.2 = 0) then decide (r6.1 = r4.2.1) else false) == true) then (
 bif inb (b.1.length : Int) (r4.1.length + 1) then
 (F25 (r4.1.take ((b.1.length : Int).toNat), b.1)).bind fun r7 =>
 some r7
 else none)
 else (
 some false)))) (both (
 (both (
 bif ((bif decide (r6.2 = 0) then decide (r6.1 = r4.2.1) else false) == true) then (
 bif inb (b.1.length : Int) (r4.1.length + 1) then
 (fun o => both o o) (
 (F25 (r4.1.take ((b.1.length : Int).toNat), b.1)).bind fun r7 =>
 some r7)
 else none)
 else (
 (fun o => both o o) (
 some false))) (
 bif ((bif decide (r6.2 = 0) then decide (r6.1 = r4.2.1) else false) == true) then (
 bif inb (b.1.length : Int) (r4.1.length + 1) then
 (F25 (r4.1.take ((b.1.length : Int).toNat), b.1)).bind fun r7 =>
 some r7
 else none)
 else (
 some false)))) (
 (fun o => both o o) (
 bif ((bif decide (r6.2 = 0) then decide (r6.1 = r4.2.1) else false) == true) then (
 bif inb (b.1.length : Int) (r4.1.length + 1) then
 (F25 (r4.1.take ((b.1.length : Int).toNat), b.1)).bind fun r7 =>
 some r7
 else none)
 else (
 some false)))))
 else none
 else none
 else none) (
 bif (!(r5.2.1.drop ((1 : Int).toNat)).isEmpty || true) then
 bif decide ((([] : List (List Int)).length + (r5.2.1.drop ((1 : Int).toNat)).length) * 24 ≤ LIM) then
 (fun o => both o o) (
 bif decide (((([] : List (List Int)) ++ (r5.2.1.drop ((1 : Int).toNat))).length + 1) * 24 ≤ LIM) then
 (F28 (r4.1, r5.1, (rd (.slice 5 (.int .u8)) r5.2.1 0), (([] : List (List Int)) ++ (r5.2.1.drop ((1 : Int).toNat))) ++ ([b.2.2]))).bind fun r6 =>
 (both (
 (both (
 bif ((bif decide (r6.2 = 0) then decide (r6.1 = r4.2.1) else false) == true) then (
 bif inb (b.1.length : Int) (r4.1.length + 1) then
 (fun o => both o o) (
 (F25 (r4.1.take ((b.1.length : Int).toNat), b.1)).bind fun r7 =>
 some r7)
 else none)
 else (
 (fun o => both o o) (
 some false))) (
 bif ((bif decide (r6.2 = 0) then decide (r6.1 = r4.2.1) else false) == true) then (
 bif inb (b.1.length : Int) (r4.1.length + 1) then
 (F25 (r4.1.take ((b.1.length : Int).toNat), b.1)).bind fun r7 =>
 some r7
 else none)
 else (
 some false)))) (both (
 (both (
 bif ((bif decide (r6.2 = 0) then decide (r6.1 = r4.2.1) else false) == true) then (
 bif inb (b.1.length : Int) (r4.1.length + 1) then
 (fun o => both o o) (
 (F25 (r4.1.take ((b.1.length : Int).toNat), b.1)).bind fun r7 =>
 some r7)
 else none)
 else (
 (fun o => both o o) (
 some false))) (
 bif ((bif decide (r6.2 = 0) then decide (r6.1 = r4.2.1) else false) == true) then (
 bif inb (b.1.length : Int) (r4.1.length + 1) then
 (F25 (r4.1.take ((b.1.length : Int).toNat), b.1)).bind fun r7 =>
 some r7
 else none)
 else (
 some false)))) (
 (fun o => both o o) (
 bif ((bif decide (r6.2 = 0) then decide (r6.1 = r4.2.1) else false) == true) then (
 bif inb (b.1.length : Int) (r4.1.length + 1) then
 (F25 (r4.1.take ((b.1.length : Int).toNat), b.1)).bind fun r7 =>
 some r7
 else none)
 else (
 some false)))))
 else none)
 else none
 else none)))))
 else none
 else none)))
 else (
 some false))))
 else (
 some true))
theorem ev7 (b : List (Int × (Int × List Int)) × Int × List Int) : evF C30 H7 Try.f7 (encs [.agg (.slice 39 (.pair (.int .u64) (.pair (.int .i64) (.slice 5 (.int .u8))))), .one (.int .i64), .one (.slice 5 (.int .u8))] b) (RT.dec (.one (.leaf (.bool)))) = F7 b := by kernel_rfl
noncomputable def C7 : Ctx := Ctx.add C30 7 [.agg (.slice 39 (.pair (.int .u64) (.pair (.int .i64) (.slice 5 (.int .u8))))), .one (.int .i64), .one (.slice 5 (.int .u8))] (.one (.leaf (.bool))) F7
theorem s7 : C7.Sound := Ctx.Sound.add (C := C30) mixed s30 Try.func7 ev7
/-! slices.IndexFunc[[]damson/api.Caveat,damson/api.Caveat] -/
def H94068 : Nat → Head
  | 2 => ⟨[.data 4 (.int .i64), .data 8 (.int .i64)], []⟩
  | _ => ⟨[], []⟩
noncomputable def F94068 (b : List (Int × (Int × Int)) × Unit) : Option Int :=
 lfp (fun (rec1 : (Int × Int) → Option Int) (x1 : Int × Int) =>
  bif decide (x1.2 < (b.1.length : Int)) then (
  bif inb x1.2 b.1.length then
  (F68 ((rd (.pair (.int .i64) (.pair (.int .u64) (.int .u64))) b.1 x1.2).1, (((rd (.pair (.int .i64) (.pair (.int .u64) (.int .u64))) b.1 x1.2).2).1, ((rd (.pair (.int .i64) (.pair (.int .u64) (.int .u64))) b.1 x1.2).2).2))).bind fun r2 =>
  bif r2 then (
  some x1.2)
  else (
  rec1 (x1.1, (IntKind.wrap .i64 (x1.2 + 1))))
  else none)
  else (
  some (-1))) (0, 0)
theorem ev94068 (b : List (Int × (Int × Int)) × Unit) : evF C7 H94068 Try.f94 (encs [.one (.slice 62 (.pair (.int .i64) (.pair (.int .u64) (.int .u64)))), .fn 68] b) (RT.dec (.one (.leaf (.int .i64)))) = F94068 b := by kernel_rfl
noncomputable def C94068 : Ctx := Ctx.add C7 94 [.one (.slice 62 (.pair (.int .i64) (.pair (.int .u64) (.int .u64)))), .fn 68] (.one (.leaf (.int .i64))) F94068
theorem s94068 : C94068.Sound := Ctx.Sound.add (C := C7) mixed s7 Try.func94 ev94068
/-! slices.ContainsFunc[[]damson/api.Caveat,damson/api.Caveat] -/
def H70068 : Nat → Head := fun _ => ⟨[], []⟩
noncomputable def F70068 (b : List (Int × (Int × Int)) × Unit) : Option Bool :=
 (F94068 (b.1, ())).bind fun r1 =>
 some (decide (0 ≤ r1))
theorem ev70068 (b : List (Int × (Int × Int)) × Unit) : evF C94068 H70068 Try.f70 (encs [.one (.slice 62 (.pair (.int .i64) (.pair (.int .u64) (.int .u64)))), .fn 68] b) (RT.dec (.one (.leaf (.bool)))) = F70068 b := by kernel_rfl
noncomputable def C70068 : Ctx := Ctx.add C94068 70 [.one (.slice 62 (.pair (.int .i64) (.pair (.int .u64) (.int .u64)))), .fn 68] (.one (.leaf (.bool))) F70068
theorem s70068 : C70068.Sound := Ctx.Sound.add (C := C94068) mixed s94068 Try.func70 ev70068
/-! damson/token.Check -/
def H43 : Nat → Head := fun _ => ⟨[], []⟩
noncomputable def F43 (b : (Int × (List (Int × (Int × Int)) × Int))) : Option Int :=
 bif ((bif (bif decide (16 < (b.2.1.length : Int)) then true else decide (b.2.2 < 0)) then true else decide (1048576 < b.2.2)) == false) then (
 (F70068 (b.2.1, ())).bind fun r1 =>
 bif r1 then (
 some 1)
 else (
 some 0))
 else (
 some 1)
theorem ev43 (b : (Int × (List (Int × (Int × Int)) × Int))) : evF C70068 H43 Try.f43 (encs [.agg (.pair (.int .u64) (.pair (.slice 62 (.pair (.int .i64) (.pair (.int .u64) (.int .u64)))) (.int .i64)))] b) (RT.dec (.one (.leaf (.int .i64)))) = F43 b := by kernel_rfl
noncomputable def C43 : Ctx := Ctx.add C70068 43 [.agg (.pair (.int .u64) (.pair (.slice 62 (.pair (.int .i64) (.pair (.int .u64) (.int .u64)))) (.int .i64)))] (.one (.leaf (.int .i64))) F43
theorem s43 : C43.Sound := Ctx.Sound.add (C := C70068) mixed s70068 Try.func43 ev43
/-! damson/bigsize.first -/
def H89 : Nat → Head := fun _ => ⟨[], []⟩
noncomputable def F89 (b : Int) : Option Int :=
 bif decide (b < 253) then (
 some (IntKind.wrap .u8 b))
 else (
 bif decide (b < 65536) then (
 some 253)
 else (
 bif decide (b < 4294967296) then (
 some 254)
 else (
 some 255)))
theorem ev89 (b : Int) : evF C43 H89 Try.f89 (encs [.one (.int .u64)] b) (RT.dec (.one (.leaf (.int .u8)))) = F89 b := by kernel_rfl
noncomputable def C89 : Ctx := Ctx.add C43 89 [.one (.int .u64)] (.one (.leaf (.int .u8))) F89
theorem s89 : C89.Sound := Ctx.Sound.add (C := C43) mixed s43 Try.func89 ev89
/-! damson/bigsize.wide -/
def H90 : Nat → Head := fun _ => ⟨[], []⟩
noncomputable def F90 (b : Int) : Option Int :=
 bif decide (b < 253) then (
 some 0)
 else (
 some (IntKind.wrap .i64 (2 * 2 ^ (min (IntKind.wrap .u8 (b - 253)).toNat 64))))
theorem ev90 (b : Int) : evF C89 H90 Try.f90 (encs [.one (.int .u8)] b) (RT.dec (.one (.leaf (.int .i64)))) = F90 b := by kernel_rfl
noncomputable def C90 : Ctx := Ctx.add C89 90 [.one (.int .u8)] (.one (.leaf (.int .i64))) F90
theorem s90 : C90.Sound := Ctx.Sound.add (C := C89) mixed s89 Try.func90 ev90
/-! damson/bigsize.Put -/
def H62 : Nat → Head
  | 3 => ⟨[.row 3 14339 5 (.int .u8), .data 10 (.int .i64)], []⟩
  | 8 => ⟨[.row 3 14344 5 (.int .u8), .data 22 (.int .i64)], [73728]⟩
  | _ => ⟨[], []⟩
noncomputable def F62 (b : List Int) : Option (List Int) :=
 lfp (fun (rec1 : (List Int × Int) → Option (List Int)) (x1 : List Int × Int) =>
  bif decide (x1.2 < (b.length : Int)) then (
  bif inb x1.2 b.length then
  (F89 (rd (.int .u64) b x1.2)).bind fun r2 =>
  bif decide ((x1.1.length + 1) * 1 ≤ LIM) then
  (F90 r2).bind fun r3 =>
  lfp (fun (rec4 : (List Int × Int) → Option (List Int)) (x4 : List Int × Int) =>
   bif decide (x4.2 < r3) then (
   (F90 r2).bind fun r5 =>
   bif decide (0 ≤ (IntKind.wrap .i64 (8 * (IntKind.wrap .i64 ((IntKind.wrap .i64 (r5 - 1)) - x4.2))))) then
   bif decide ((x4.1.length + 1) * 1 ≤ LIM) then
   rec4 ((x4.1 ++ ([(IntKind.wrap .u8 ((rd (.int .u64) b x1.2) / 2 ^ (min (IntKind.wrap .i64 (8 * (IntKind.wrap .i64 ((IntKind.wrap .i64 (r5 - 1)) - x4.2)))).toNat 64)))])), (IntKind.wrap .i64 (x4.2 + 1)))
   else none
   else none)
   else (
   rec1 (x4.1, (IntKind.wrap .i64 (x1.2 + 1))))) ((x1.1 ++ ([r2])), 0)
  else none
  else none)
  else (
  some x1.1)) (([] : List Int), 0)
theorem ev62 (b : List Int) : evF C90 H62 Try.f62 (encs [.one (.slice 25 (.int .u64))] b) (RT.dec (.one (.leaf (.fresh 5 (.int .u8))))) = F62 b := by kernel_rfl
noncomputable def C62 : Ctx := Ctx.add C90 62 [.one (.slice 25 (.int .u64))] (.one (.leaf (.fresh 5 (.int .u8)))) F62
theorem s62 : C62.Sound := Ctx.Sound.add (C := C90) mixed s90 Try.func62 ev62
/-! damson/caveat.Put -/
def H65 : Nat → Head := fun _ => ⟨[], []⟩
noncomputable def F65 (b : (Int × (Int × Int))) : Option (List Int × Int) :=
 (F69 (b.1, (b.2.1, b.2.2))).bind fun r1 =>
 bif (!decide (r1 = 0)) then (
 some (([] : List Int), r1))
 else (
 bif (!decide (b.1 = 4)) then (
 bif inb 2 (([(IntKind.wrap .u64 b.1), b.2.1, b.2.2]).length + 1) then
 (F62 (([(IntKind.wrap .u64 b.1), b.2.1, b.2.2]).take ((2 : Int).toNat))).bind fun r2 =>
 some (r2, 0)
 else none)
 else (
 (F62 ([(IntKind.wrap .u64 b.1), b.2.1, b.2.2])).bind fun r3 =>
 some (r3, 0)))
theorem ev65 (b : (Int × (Int × Int))) : evF C62 H65 Try.f65 (encs [.agg (.pair (.int .i64) (.pair (.int .u64) (.int .u64)))] b) (RT.dec (.tup [.leaf (.fresh 5 (.int .u8)), .leaf (.int .i64)])) = F65 b := by kernel_rfl
noncomputable def C65 : Ctx := Ctx.add C62 65 [.agg (.pair (.int .i64) (.pair (.int .u64) (.int .u64)))] (.tup [.leaf (.fresh 5 (.int .u8)), .leaf (.int .i64)]) F65
theorem s65 : C65.Sound := Ctx.Sound.add (C := C62) mixed s62 Try.func65 ev65
/-! damson/token.texts -/
def H63 : Nat → Head
  | 3 => ⟨[.data 13 (.int .i64), .rowk 36864 26 (.slice 5 (.int .u8))], [4096]⟩
  | _ => ⟨[], []⟩
noncomputable def F63 (b : (Int × (List (Int × (Int × Int)) × Int))) : Option (List (List Int)) :=
 bif (decide (0 ≤ (b.2.1.length : Int)) && decide ((b.2.1.length : Int) = (b.2.1.length : Int)) && decide ((b.2.1.length : Int).toNat * 24 ≤ LIM)) then
 lfp (fun (rec1 : (Int × List (List Int)) → Option (List (List Int))) (x1 : Int × List (List Int)) =>
  bif decide (x1.1 < (b.2.1.length : Int)) then (
  bif inb x1.1 b.2.1.length then
  (F65 ((rd (.pair (.int .i64) (.pair (.int .u64) (.int .u64))) b.2.1 x1.1).1, (((rd (.pair (.int .i64) (.pair (.int .u64) (.int .u64))) b.2.1 x1.1).2).1, ((rd (.pair (.int .i64) (.pair (.int .u64) (.int .u64))) b.2.1 x1.1).2).2))).bind fun r2 =>
  bif inb x1.1 x1.2.length then
  rec1 ((IntKind.wrap .i64 (x1.1 + 1)), (x1.2.set x1.1.toNat r2.1))
  else none
  else none)
  else (
  some x1.2)) (0, (List.replicate ((b.2.1.length : Int).toNat) [] : List (List Int)))
 else none
theorem ev63 (b : (Int × (List (Int × (Int × Int)) × Int))) : evF C65 H63 Try.f63 (encs [.agg (.pair (.int .u64) (.pair (.slice 62 (.pair (.int .i64) (.pair (.int .u64) (.int .u64)))) (.int .i64)))] b) (RT.dec (.one (.leaf (.fresh 26 (.slice 5 (.int .u8)))))) = F63 b := by kernel_rfl
noncomputable def C63 : Ctx := Ctx.add C65 63 [.agg (.pair (.int .u64) (.pair (.slice 62 (.pair (.int .i64) (.pair (.int .u64) (.int .u64)))) (.int .i64)))] (.one (.leaf (.fresh 26 (.slice 5 (.int .u8))))) F63
theorem s63 : C63.Sound := Ctx.Sound.add (C := C65) mixed s65 Try.func63 ev63
/-! damson/token.Verify -/
def H35 : Nat → Head
  | 5000003 => ⟨[], [0, 0, 0, 0, 0, 0, 4, 4, 8, 8, 16, 16, 0, 0, 96, 64, 163, 163, 256, 256, 512, 512, 512, 512, 2047, 1024, 8191, 2048]⟩
  | _ => ⟨[], []⟩
noncomputable def F35 (b : List (Int × (Int × List Int)) × Int × (Int × (List (Int × (Int × Int)) × Int))) : Option (Bool × Int) :=
 (F43 (b.2.2.1, (b.2.2.2.1, b.2.2.2.2))).bind fun r1 =>
 bif ((!decide (r1 = 0)) == false) then (
 (F23 b.1).bind fun r2 =>
 bif (!decide (r2 = 0)) then (
 some (false, 1))
 else (
 (both (
 (both (
 (both (
 (fun o => both o o) (
 (F62 ([b.2.2.1])).bind fun r3 =>
 (F63 (b.2.2.1, (b.2.2.2.1, b.2.2.2.2))).bind fun r4 =>
 (F28 (b.1, b.2.1, r3, r4)).bind fun r5 =>
 some ((bif decide (r5.2 = 0) then decide (r5.1 = b.2.2.2.2) else false), 0))) (
 (F62 ([b.2.2.1])).bind fun r3 =>
 (F63 (b.2.2.1, (b.2.2.2.1, b.2.2.2.2))).bind fun r4 =>
 (F28 (b.1, b.2.1, r3, r4)).bind fun r5 =>
 some ((bif decide (r5.2 = 0) then decide (r5.1 = b.2.2.2.2) else false), 0)))) (
 (F62 ([b.2.2.1])).bind fun r3 =>
 (F63 (b.2.2.1, (b.2.2.2.1, b.2.2.2.2))).bind fun r4 =>
 (F28 (b.1, b.2.1, r3, r4)).bind fun r5 =>
 some ((bif decide (r5.2 = 0) then decide (r5.1 = b.2.2.2.2) else false), 0)))) (both (
 (both (
 (both (
 (fun o => both o o) (
 (F62 ([b.2.2.1])).bind fun r3 =>
 (F63 (b.2.2.1, (b.2.2.2.1, b.2.2.2.2))).bind fun r4 =>
 (F28 (b.1, b.2.1, r3, r4)).bind fun r5 =>
 some ((bif decide (r5.2 = 0) then decide (r5.1 = b.2.2.2.2) else false), 0))) (
 (F62 ([b.2.2.1])).bind fun r3 =>
 (F63 (b.2.2.1, (b.2.2.2.1, b.2.2.2.2))).bind fun r4 =>
 (F28 (b.1, b.2.1, r3, r4)).bind fun r5 =>
 some ((bif decide (r5.2 = 0) then decide (r5.1 = b.2.2.2.2) else false), 0)))) (both (
 (both (
 (fun o => both o o) (
 (F62 ([b.2.2.1])).bind fun r3 =>
 (F63 (b.2.2.1, (b.2.2.2.1, b.2.2.2.2))).bind fun r4 =>
 (F28 (b.1, b.2.1, r3, r4)).bind fun r5 =>
 some ((bif decide (r5.2 = 0) then decide (r5.1 = b.2.2.2.2) else false), 0))) (both (
 (F62 ([b.2.2.1])).bind fun r3 =>
 (both (
 (F63 (b.2.2.1, (b.2.2.2.1, b.2.2.2.2))).bind fun r4 =>
 (F28 (b.1, b.2.1, r3, r4)).bind fun r5 =>
 some ((bif decide (r5.2 = 0) then decide (r5.1 = b.2.2.2.2) else false), 0)) (
 (fun o => both o o) (
 (F63 (b.2.2.1, (b.2.2.2.1, b.2.2.2.2))).bind fun r4 =>
 (F28 (b.1, b.2.1, r3, r4)).bind fun r5 =>
 some ((bif decide (r5.2 = 0) then decide (r5.1 = b.2.2.2.2) else false), 0))))) (
 (both (
 (F62 ([b.2.2.1])).bind fun r3 =>
 (F63 (b.2.2.1, (b.2.2.2.1, b.2.2.2.2))).bind fun r4 =>
 (F28 (b.1, b.2.1, r3, r4)).bind fun r5 =>
 some ((bif decide (r5.2 = 0) then decide (r5.1 = b.2.2.2.2) else false), 0)) (
 (F62 ([b.2.2.1])).bind fun r3 =>
 (fun o => both o o) (
 (F63 (b.2.2.1, (b.2.2.2.1, b.2.2.2.2))).bind fun r4 =>
 (F28 (b.1, b.2.1, r3, r4)).bind fun r5 =>
 some ((bif decide (r5.2 = 0) then decide (r5.1 = b.2.2.2.2) else false), 0)))))))) (
 (both (
 (F62 ([b.2.2.1])).bind fun r3 =>
 (F63 (b.2.2.1, (b.2.2.2.1, b.2.2.2.2))).bind fun r4 =>
 (F28 (b.1, b.2.1, r3, r4)).bind fun r5 =>
 some ((bif decide (r5.2 = 0) then decide (r5.1 = b.2.2.2.2) else false), 0)) (
 (both (
 (F62 ([b.2.2.1])).bind fun r3 =>
 (F63 (b.2.2.1, (b.2.2.2.1, b.2.2.2.2))).bind fun r4 =>
 (F28 (b.1, b.2.1, r3, r4)).bind fun r5 =>
 some ((bif decide (r5.2 = 0) then decide (r5.1 = b.2.2.2.2) else false), 0)) (
 (F62 ([b.2.2.1])).bind fun r3 =>
 (fun o => both o o) (
 (F63 (b.2.2.1, (b.2.2.2.1, b.2.2.2.2))).bind fun r4 =>
 (F28 (b.1, b.2.1, r3, r4)).bind fun r5 =>
 some ((bif decide (r5.2 = 0) then decide (r5.1 = b.2.2.2.2) else false), 0)))))))))) (
 (both (
 (F62 ([b.2.2.1])).bind fun r3 =>
 (F63 (b.2.2.1, (b.2.2.2.1, b.2.2.2.2))).bind fun r4 =>
 (F28 (b.1, b.2.1, r3, r4)).bind fun r5 =>
 some ((bif decide (r5.2 = 0) then decide (r5.1 = b.2.2.2.2) else false), 0)) (
 (both (
 (F62 ([b.2.2.1])).bind fun r3 =>
 (F63 (b.2.2.1, (b.2.2.2.1, b.2.2.2.2))).bind fun r4 =>
 (F28 (b.1, b.2.1, r3, r4)).bind fun r5 =>
 some ((bif decide (r5.2 = 0) then decide (r5.1 = b.2.2.2.2) else false), 0)) (
 (both (
 (F62 ([b.2.2.1])).bind fun r3 =>
 (F63 (b.2.2.1, (b.2.2.2.1, b.2.2.2.2))).bind fun r4 =>
 (F28 (b.1, b.2.1, r3, r4)).bind fun r5 =>
 some ((bif decide (r5.2 = 0) then decide (r5.1 = b.2.2.2.2) else false), 0)) (
 (F62 ([b.2.2.1])).bind fun r3 =>
 (fun o => both o o) (
 (F63 (b.2.2.1, (b.2.2.2.1, b.2.2.2.2))).bind fun r4 =>
 (F28 (b.1, b.2.1, r3, r4)).bind fun r5 =>
 some ((bif decide (r5.2 = 0) then decide (r5.1 = b.2.2.2.2) else false), 0)))))))))))))
 else (
 some (false, 1))
theorem ev35 (b : List (Int × (Int × List Int)) × Int × (Int × (List (Int × (Int × Int)) × Int))) : evF C63 H35 Try.f35 (encs [.agg (.slice 39 (.pair (.int .u64) (.pair (.int .i64) (.slice 5 (.int .u8))))), .one (.int .u64), .agg (.pair (.int .u64) (.pair (.slice 62 (.pair (.int .i64) (.pair (.int .u64) (.int .u64)))) (.int .i64)))] b) (RT.dec (.tup [.leaf (.bool), .leaf (.int .i64)])) = F35 b := by kernel_rfl
noncomputable def C35 : Ctx := Ctx.add C63 35 [.agg (.slice 39 (.pair (.int .u64) (.pair (.int .i64) (.slice 5 (.int .u8))))), .one (.int .u64), .agg (.pair (.int .u64) (.pair (.slice 62 (.pair (.int .i64) (.pair (.int .u64) (.int .u64)))) (.int .i64)))] (.tup [.leaf (.bool), .leaf (.int .i64)]) F35
theorem s35 : C35.Sound := Ctx.Sound.add (C := C63) mixed s63 Try.func35 ev35
/-! damson/token.Mint -/
def H37 : Nat → Head
  | 5000001 => ⟨[], [0, 0, 0, 0, 0, 0, 4, 4, 8, 8, 19, 19, 32, 32, 64, 64, 64, 64, 64, 64, 255, 128, 1535, 256, 4095, 512]⟩
  | _ => ⟨[], []⟩
noncomputable def F37 (b : List (Int × (Int × List Int)) × Int × Int) : Option ((List (Int × (Int × List Int))) × (Int × (List (Int × (Int × Int))) × Int) × Int) :=
 (both (
 (F62 ([b.2.1])).bind fun r1 =>
 (F18 (b.1, b.2.2, r1)).bind fun r2 =>
 bif (!decide (r2.2.2 = 0)) then (
 some (([] : List (Int × (Int × List Int))), (0, ([] : List (Int × (Int × Int))), 0), r2.2.2))
 else (
 some (r2.1, (b.2.1, ([] : List (Int × (Int × Int))), r2.2.1), 0))) (
 (fun o => both o o) (
 (F62 ([b.2.1])).bind fun r1 =>
 (F18 (b.1, b.2.2, r1)).bind fun r2 =>
 bif (!decide (r2.2.2 = 0)) then (
 some (([] : List (Int × (Int × List Int))), (0, ([] : List (Int × (Int × Int))), 0), r2.2.2))
 else (
 some (r2.1, (b.2.1, ([] : List (Int × (Int × Int))), r2.2.1), 0)))))
theorem ev37 (b : List (Int × (Int × List Int)) × Int × Int) : evF C35 H37 Try.f37 (encs [.agg (.slice 39 (.pair (.int .u64) (.pair (.int .i64) (.slice 5 (.int .u8))))), .one (.int .u64), .one (.int .u64)] b) (RT.dec (.tup [.agg [.fresh 39 (.pair (.int .u64) (.pair (.int .i64) (.slice 5 (.int .u8))))], .agg [.int .u64, .fresh 62 (.pair (.int .i64) (.pair (.int .u64) (.int .u64))), .int .i64], .leaf (.int .i64)])) = F37 b := by kernel_rfl
noncomputable def C37 : Ctx := Ctx.add C35 37 [.agg (.slice 39 (.pair (.int .u64) (.pair (.int .i64) (.slice 5 (.int .u8))))), .one (.int .u64), .one (.int .u64)] (.tup [.agg [.fresh 39 (.pair (.int .u64) (.pair (.int .i64) (.slice 5 (.int .u8))))], .agg [.int .u64, .fresh 62 (.pair (.int .i64) (.pair (.int .u64) (.int .u64))), .int .i64], .leaf (.int .i64)]) F37
theorem s37 : C37.Sound := Ctx.Sound.add (C := C35) mixed s35 Try.func37 ev37
/-! damson/damsonlaw07.live -/
def H32 : Nat → Head := fun _ => ⟨[], []⟩
noncomputable def F32 (b : Unit) : Option Bool :=
 (F37 ([], 5, 9)).bind fun r1 =>
 (F35 (r1.1, 9, (r1.2.1.1, (r1.2.1.2.1, r1.2.1.2.2)))).bind fun r2 =>
 (F35 (r1.1, 8, (r1.2.1.1, (r1.2.1.2.1, r1.2.1.2.2)))).bind fun r3 =>
 some (bif (bif (bif (bif decide (r1.2.2 = 0) then decide (r2.2 = 0) else false) then decide (r3.2 = 0) else false) then r2.1 else false) then (!r3.1) else false)
theorem ev32 (b : Unit) : evF C37 H32 Try.f32 (encs [] b) (RT.dec (.one (.leaf (.bool)))) = F32 b := by kernel_rfl
noncomputable def C32 : Ctx := Ctx.add C37 32 [] (.one (.leaf (.bool))) F32
theorem s32 : C32.Sound := Ctx.Sound.add (C := C37) mixed s37 Try.func32 ev32
/-! damson/damsonlaw07.few -/
def H33 : Nat → Head
  | 2 => ⟨[.data 2 .bool, .data 7 (.int .i64)], []⟩
  | _ => ⟨[], []⟩
noncomputable def F33 (b : List (Int × (List (Int × (Int × Int)) × Int))) : Option Bool :=
 lfp (fun (rec1 : (Bool × Int) → Option Bool) (x1 : Bool × Int) =>
  bif decide (x1.2 < (b.length : Int)) then (
  bif inb x1.2 b.length then
  bif decide (20 < ((((rd (.pair (.int .u64) (.pair (.slice 62 (.pair (.int .i64) (.pair (.int .u64) (.int .u64)))) (.int .i64))) b x1.2).2).1).length : Int)) then (
  some false)
  else (
  rec1 (x1.1, (IntKind.wrap .i64 (x1.2 + 1))))
  else none)
  else (
  some true)) (false, 0)
theorem ev33 (b : List (Int × (List (Int × (Int × Int)) × Int))) : evF C32 H33 Try.f33 (encs [.one (.slice 53 (.pair (.int .u64) (.pair (.slice 62 (.pair (.int .i64) (.pair (.int .u64) (.int .u64)))) (.int .i64))))] b) (RT.dec (.one (.leaf (.bool)))) = F33 b := by kernel_rfl
noncomputable def C33 : Ctx := Ctx.add C32 33 [.one (.slice 53 (.pair (.int .u64) (.pair (.slice 62 (.pair (.int .i64) (.pair (.int .u64) (.int .u64)))) (.int .i64))))] (.one (.leaf (.bool))) F33
theorem s33 : C33.Sound := Ctx.Sound.add (C := C32) mixed s32 Try.func33 ev33
/-! slices.Clip[[]damson/api.Caveat,damson/api.Caveat]: carried out where it is called -/
def H66 : Nat → Head := fun _ => ⟨[], []⟩
noncomputable def C66 : Ctx := Ctx.addI C33 66 H66 9000066 Try.f66
theorem s66 : C66.Sound := Ctx.Sound.addI (C := C33) mixed s33 Try.func66
/-! damson/token.Bind -/
def H39 : Nat → Head
  | 5000009 => ⟨[], [0, 0, 1, 1, 2, 2, 0, 0, 8, 8, 20, 20, 0, 0, 63, 0, 191, 160, 511, 0, 1023, 576]⟩
  | 5000010 => ⟨[], [0, 0, 0, 0, 1, 1, 7, 2, 15, 0]⟩
  | _ => ⟨[], []⟩
noncomputable def F39 (b : List (Int × (Int × List Int)) × (Int × (List (Int × (Int × Int)) × Int)) × (Int × (Int × Int))) : Option ((List (Int × (Int × List Int))) × (Int × (List (Int × (Int × Int))) × Int) × Int) :=
 (F65 (b.2.2.1, (b.2.2.2.1, b.2.2.2.2))).bind fun r1 =>
 bif ((!decide (r1.2 = 0)) == false) then (
 (F43 (b.2.1.1, (b.2.1.2.1, b.2.1.2.2))).bind fun r2 =>
 bif ((!decide (r2 = 0)) == false) then (
 (F23 b.1).bind fun r3 =>
 bif (!decide (r3 = 0)) then (
 some (([] : List (Int × (Int × List Int))), (0, ([] : List (Int × (Int × Int))), 0), 1))
 else (
 bif decide ((b.2.1.2.1.length : Int) = 16) then (
 some (([] : List (Int × (Int × List Int))), (0, ([] : List (Int × (Int × Int))), 0), 7))
 else (
 (F20 (b.1, b.2.1.2.2, r1.1)).bind fun r4 =>
 bif (!decide (r4.2.2 = 0)) then (
 some (([] : List (Int × (Int × List Int))), (0, ([] : List (Int × (Int × Int))), 0), r4.2.2))
 else (
 (both (
 (both (
 bif (inb (b.2.1.2.1.length : Int) (b.2.1.2.1.length + 1) && decide ((b.2.1.2.1.length : Int) = (b.2.1.2.1.length : Int))) then
 bif decide (((b.2.1.2.1.take ((b.2.1.2.1.length : Int).toNat)).length + 1) * 24 ≤ LIM) then
 (both (
 (fun o => both o o) (
 some (r4.1, (b.2.1.1, (b.2.1.2.1.take ((b.2.1.2.1.length : Int).toNat)) ++ ([(b.2.2.1, (b.2.2.2.1, b.2.2.2.2))]), r4.2.1), 0))) (
 some (r4.1, (b.2.1.1, (b.2.1.2.1.take ((b.2.1.2.1.length : Int).toNat)) ++ ([(b.2.2.1, (b.2.2.2.1, b.2.2.2.2))]), r4.2.1), 0)))
 else none
 else none) (
 (fun o => both o o) (
 bif (inb (b.2.1.2.1.length : Int) (b.2.1.2.1.length + 1) && decide ((b.2.1.2.1.length : Int) = (b.2.1.2.1.length : Int))) then
 bif decide (((b.2.1.2.1.take ((b.2.1.2.1.length : Int).toNat)).length + 1) * 24 ≤ LIM) then
 (both (
 (fun o => both o o) (
 some (r4.1, (b.2.1.1, (b.2.1.2.1.take ((b.2.1.2.1.length : Int).toNat)) ++ ([(b.2.2.1, (b.2.2.2.1, b.2.2.2.2))]), r4.2.1), 0))) (
 some (r4.1, (b.2.1.1, (b.2.1.2.1.take ((b.2.1.2.1.length : Int).toNat)) ++ ([(b.2.2.1, (b.2.2.2.1, b.2.2.2.2))]), r4.2.1), 0)))
 else none
 else none)))) (
 (both (
 (fun o => both o o) (
 bif (inb (b.2.1.2.1.length : Int) (b.2.1.2.1.length + 1) && decide ((b.2.1.2.1.length : Int) = (b.2.1.2.1.length : Int))) then
 bif decide (((b.2.1.2.1.take ((b.2.1.2.1.length : Int).toNat)).length + 1) * 24 ≤ LIM) then
 (both (
 (fun o => both o o) (
 some (r4.1, (b.2.1.1, (b.2.1.2.1.take ((b.2.1.2.1.length : Int).toNat)) ++ ([(b.2.2.1, (b.2.2.2.1, b.2.2.2.2))]), r4.2.1), 0))) (
 some (r4.1, (b.2.1.1, (b.2.1.2.1.take ((b.2.1.2.1.length : Int).toNat)) ++ ([(b.2.2.1, (b.2.2.2.1, b.2.2.2.2))]), r4.2.1), 0)))
 else none
 else none)) (
 bif (inb (b.2.1.2.1.length : Int) (b.2.1.2.1.length + 1) && decide ((b.2.1.2.1.length : Int) = (b.2.1.2.1.length : Int))) then
 bif decide (((b.2.1.2.1.take ((b.2.1.2.1.length : Int).toNat)).length + 1) * 24 ≤ LIM) then
 (both (
 (fun o => both o o) (
 some (r4.1, (b.2.1.1, (b.2.1.2.1.take ((b.2.1.2.1.length : Int).toNat)) ++ ([(b.2.2.1, (b.2.2.2.1, b.2.2.2.2))]), r4.2.1), 0))) (
 some (r4.1, (b.2.1.1, (b.2.1.2.1.take ((b.2.1.2.1.length : Int).toNat)) ++ ([(b.2.2.1, (b.2.2.2.1, b.2.2.2.2))]), r4.2.1), 0)))
 else none
 else none))))))))
 else (
 some (([] : List (Int × (Int × List Int))), (0, ([] : List (Int × (Int × Int))), 0), 1)))
 else (
 some (([] : List (Int × (Int × List Int))), (0, ([] : List (Int × (Int × Int))), 0), 1))
theorem ev39 (b : List (Int × (Int × List Int)) × (Int × (List (Int × (Int × Int)) × Int)) × (Int × (Int × Int))) : evF C66 H39 Try.f39 (encs [.agg (.slice 39 (.pair (.int .u64) (.pair (.int .i64) (.slice 5 (.int .u8))))), .agg (.pair (.int .u64) (.pair (.slice 62 (.pair (.int .i64) (.pair (.int .u64) (.int .u64)))) (.int .i64))), .agg (.pair (.int .i64) (.pair (.int .u64) (.int .u64)))] b) (RT.dec (.tup [.agg [.fresh 39 (.pair (.int .u64) (.pair (.int .i64) (.slice 5 (.int .u8))))], .agg [.int .u64, .fresh 62 (.pair (.int .i64) (.pair (.int .u64) (.int .u64))), .int .i64], .leaf (.int .i64)])) = F39 b := by kernel_rfl
noncomputable def C39 : Ctx := Ctx.add C66 39 [.agg (.slice 39 (.pair (.int .u64) (.pair (.int .i64) (.slice 5 (.int .u8))))), .agg (.pair (.int .u64) (.pair (.slice 62 (.pair (.int .i64) (.pair (.int .u64) (.int .u64)))) (.int .i64))), .agg (.pair (.int .i64) (.pair (.int .u64) (.int .u64)))] (.tup [.agg [.fresh 39 (.pair (.int .u64) (.pair (.int .i64) (.slice 5 (.int .u8))))], .agg [.int .u64, .fresh 62 (.pair (.int .i64) (.pair (.int .u64) (.int .u64))), .int .i64], .leaf (.int .i64)]) F39
theorem s39 : C39.Sound := Ctx.Sound.add (C := C66) mixed s66 Try.func39 ev39
/-! damson/damsonlaw07.bound -/
def H34 : Nat → Head
  | 3 => ⟨[.data 12 (.int .i64), .data 25 (.int .i64), .box 45056 (.pair (.int .u64) (.pair (.slice 62 (.pair (.int .i64) (.pair (.int .u64) (.int .u64)))) (.int .i64))), .box 16384 (.slice 39 (.pair (.int .u64) (.pair (.int .i64) (.slice 5 (.int .u8)))))], [77889, 77824, 36864, 32768]⟩
  | 3000000 => ⟨[], [16384, 45056]⟩
  | 3000001 => ⟨[], [16384, 45056]⟩
  | 3000002 => ⟨[], [16384, 45056]⟩
  | 3000003 => ⟨[], [16384, 45056]⟩
  | 3000004 => ⟨[], [16384, 45056]⟩
  | 3000005 => ⟨[], [16384, 45056]⟩
  | 3000006 => ⟨[], [16384, 45056]⟩
  | 3000007 => ⟨[], [16384, 45056]⟩
  | 3000008 => ⟨[], [16384, 45056]⟩
  | 5000008 => ⟨[], [0, 0, 0, 0, 0, 0, 4, 4, 1, 1, 19, 2, 63, 8]⟩
  | _ => ⟨[], []⟩
noncomputable def F34 (b : List (Int × (Int × List Int)) × Int × Int × List (Int × (Int × Int))) : Option ((List (Int × (Int × List Int))) × (Int × (List (Int × (Int × Int))) × Int) × Bool) :=
 (F37 (b.1, b.2.1, b.2.2.1)).bind fun r1 =>
 lfp (fun (rec2 : (Int × Int × (Int × (List (Int × (Int × Int)) × Int)) × List (Int × (Int × List Int))) → Option ((List (Int × (Int × List Int))) × (Int × (List (Int × (Int × Int))) × Int) × Bool)) (x2 : Int × Int × (Int × (List (Int × (Int × Int)) × Int)) × List (Int × (Int × List Int))) =>
  bif decide (x2.2.1 < (b.2.2.2.length : Int)) then (
  bif inb x2.2.1 b.2.2.2.length then
  bif decide (x2.1 = 0) then (
  (F39 (x2.2.2.2, (x2.2.2.1.1, (x2.2.2.1.2.1, x2.2.2.1.2.2)), ((rd (.pair (.int .i64) (.pair (.int .u64) (.int .u64))) b.2.2.2 x2.2.1).1, (((rd (.pair (.int .i64) (.pair (.int .u64) (.int .u64))) b.2.2.2 x2.2.1).2).1, ((rd (.pair (.int .i64) (.pair (.int .u64) (.int .u64))) b.2.2.2 x2.2.1).2).2)))).bind fun r3 =>
  rec2 (r3.2.2, (IntKind.wrap .i64 (x2.2.1 + 1)), (r3.2.1.1, (r3.2.1.2.1, r3.2.1.2.2)), r3.1))
  else (
  rec2 (x2.1, (IntKind.wrap .i64 (x2.2.1 + 1)), (x2.2.2.1.1, (x2.2.2.1.2.1, x2.2.2.1.2.2)), x2.2.2.2))
  else none)
  else (
  (both (
  (fun o => both o o) (
  some (x2.2.2.2, (x2.2.2.1.1, x2.2.2.1.2.1, x2.2.2.1.2.2), decide (x2.1 = 0)))) (
  some (x2.2.2.2, (x2.2.2.1.1, x2.2.2.1.2.1, x2.2.2.1.2.2), decide (x2.1 = 0)))))) (r1.2.2, 0, (r1.2.1.1, (r1.2.1.2.1, r1.2.1.2.2)), r1.1)
theorem ev34 (b : List (Int × (Int × List Int)) × Int × Int × List (Int × (Int × Int))) : evF C39 H34 Try.f34 (encs [.agg (.slice 39 (.pair (.int .u64) (.pair (.int .i64) (.slice 5 (.int .u8))))), .one (.int .u64), .one (.int .u64), .one (.slice 62 (.pair (.int .i64) (.pair (.int .u64) (.int .u64))))] b) (RT.dec (.tup [.agg [.sl 39 (.pair (.int .u64) (.pair (.int .i64) (.slice 5 (.int .u8))))], .agg [.int .u64, .sl 62 (.pair (.int .i64) (.pair (.int .u64) (.int .u64))), .int .i64], .leaf (.bool)])) = F34 b := by kernel_rfl
noncomputable def C34 : Ctx := Ctx.add C39 34 [.agg (.slice 39 (.pair (.int .u64) (.pair (.int .i64) (.slice 5 (.int .u8))))), .one (.int .u64), .one (.int .u64), .one (.slice 62 (.pair (.int .i64) (.pair (.int .u64) (.int .u64))))] (.tup [.agg [.sl 39 (.pair (.int .u64) (.pair (.int .i64) (.slice 5 (.int .u8))))], .agg [.int .u64, .sl 62 (.pair (.int .i64) (.pair (.int .u64) (.int .u64))), .int .i64], .leaf (.bool)]) F34
theorem s34 : C34.Sound := Ctx.Sound.add (C := C39) mixed s39 Try.func34 ev34
/-! damson/damsonref07.SameCaveats -/
def H36 : Nat → Head
  | 4 => ⟨[.data 4 .bool, .data 13 (.int .i64)], []⟩
  | 5000006 => ⟨[], [0, 0, 0, 0, 3, 3, 4, 4, 0, 0, 0, 0, 48, 48, 64, 64, 136, 136]⟩
  | _ => ⟨[], []⟩
noncomputable def F36 (b : List (Int × (Int × Int)) × List (Int × (Int × Int))) : Option Bool :=
 bif (!decide ((b.1.length : Int) = (b.2.length : Int))) then (
 some false)
 else (
 lfp (fun (rec1 : (Bool × Int) → Option Bool) (x1 : Bool × Int) =>
  bif decide (x1.2 < (b.1.length : Int)) then (
  bif inb x1.2 b.1.length then
  bif inb x1.2 b.2.length then
  bif (!(decide ((rd (.pair (.int .i64) (.pair (.int .u64) (.int .u64))) b.1 x1.2).1 = (rd (.pair (.int .i64) (.pair (.int .u64) (.int .u64))) b.2 x1.2).1) && (decide (((rd (.pair (.int .i64) (.pair (.int .u64) (.int .u64))) b.1 x1.2).2).1 = ((rd (.pair (.int .i64) (.pair (.int .u64) (.int .u64))) b.2 x1.2).2).1) && decide (((rd (.pair (.int .i64) (.pair (.int .u64) (.int .u64))) b.1 x1.2).2).2 = ((rd (.pair (.int .i64) (.pair (.int .u64) (.int .u64))) b.2 x1.2).2).2)))) then (
  some false)
  else (
  rec1 (x1.1, (IntKind.wrap .i64 (x1.2 + 1))))
  else none
  else none)
  else (
  some true)) (false, 0))
theorem ev36 (b : List (Int × (Int × Int)) × List (Int × (Int × Int))) : evF C34 H36 Try.f36 (encs [.one (.slice 62 (.pair (.int .i64) (.pair (.int .u64) (.int .u64)))), .one (.slice 62 (.pair (.int .i64) (.pair (.int .u64) (.int .u64))))] b) (RT.dec (.one (.leaf (.bool)))) = F36 b := by kernel_rfl
noncomputable def C36 : Ctx := Ctx.add C34 36 [.one (.slice 62 (.pair (.int .i64) (.pair (.int .u64) (.int .u64)))), .one (.slice 62 (.pair (.int .i64) (.pair (.int .u64) (.int .u64))))] (.one (.leaf (.bool))) F36
theorem s36 : C36.Sound := Ctx.Sound.add (C := C34) mixed s34 Try.func36 ev36
/-! slices.Equal[[]damson/api.Caveat,damson/api.Caveat] -/
def H72 : Nat → Head
  | 4 => ⟨[.data 4 .bool, .data 13 (.int .i64)], []⟩
  | 5000006 => ⟨[], [0, 0, 0, 0, 3, 3, 4, 4, 0, 0, 0, 0, 48, 48, 64, 64, 136, 136]⟩
  | _ => ⟨[], []⟩
noncomputable def F72 (b : List (Int × (Int × Int)) × List (Int × (Int × Int))) : Option Bool :=
 bif (!decide ((b.1.length : Int) = (b.2.length : Int))) then (
 some false)
 else (
 lfp (fun (rec1 : (Bool × Int) → Option Bool) (x1 : Bool × Int) =>
  bif decide (x1.2 < (b.1.length : Int)) then (
  bif inb x1.2 b.1.length then
  bif inb x1.2 b.2.length then
  bif (!(decide ((rd (.pair (.int .i64) (.pair (.int .u64) (.int .u64))) b.1 x1.2).1 = (rd (.pair (.int .i64) (.pair (.int .u64) (.int .u64))) b.2 x1.2).1) && (decide (((rd (.pair (.int .i64) (.pair (.int .u64) (.int .u64))) b.1 x1.2).2).1 = ((rd (.pair (.int .i64) (.pair (.int .u64) (.int .u64))) b.2 x1.2).2).1) && decide (((rd (.pair (.int .i64) (.pair (.int .u64) (.int .u64))) b.1 x1.2).2).2 = ((rd (.pair (.int .i64) (.pair (.int .u64) (.int .u64))) b.2 x1.2).2).2)))) then (
  some false)
  else (
  rec1 (x1.1, (IntKind.wrap .i64 (x1.2 + 1))))
  else none
  else none)
  else (
  some true)) (false, 0))
theorem ev72 (b : List (Int × (Int × Int)) × List (Int × (Int × Int))) : evF C36 H72 Try.f72 (encs [.one (.slice 62 (.pair (.int .i64) (.pair (.int .u64) (.int .u64)))), .one (.slice 62 (.pair (.int .i64) (.pair (.int .u64) (.int .u64))))] b) (RT.dec (.one (.leaf (.bool)))) = F72 b := by kernel_rfl
noncomputable def C72 : Ctx := Ctx.add C36 72 [.one (.slice 62 (.pair (.int .i64) (.pair (.int .u64) (.int .u64)))), .one (.slice 62 (.pair (.int .i64) (.pair (.int .u64) (.int .u64))))] (.one (.leaf (.bool))) F72
theorem s72 : C72.Sound := Ctx.Sound.add (C := C36) mixed s36 Try.func72 ev72
/-! damson/token.Same -/
def H45 : Nat → Head := fun _ => ⟨[], []⟩
noncomputable def F45 (b : (Int × (List (Int × (Int × Int)) × Int)) × (Int × (List (Int × (Int × Int)) × Int))) : Option Bool :=
 bif ((bif decide (b.1.1 = b.2.1) then decide (b.1.2.2 = b.2.2.2) else false) == true) then (
 (F72 (b.1.2.1, b.2.2.1)).bind fun r1 =>
 some r1)
 else (
 some false)
theorem ev45 (b : (Int × (List (Int × (Int × Int)) × Int)) × (Int × (List (Int × (Int × Int)) × Int))) : evF C72 H45 Try.f45 (encs [.agg (.pair (.int .u64) (.pair (.slice 62 (.pair (.int .i64) (.pair (.int .u64) (.int .u64)))) (.int .i64))), .agg (.pair (.int .u64) (.pair (.slice 62 (.pair (.int .i64) (.pair (.int .u64) (.int .u64)))) (.int .i64)))] b) (RT.dec (.one (.leaf (.bool)))) = F45 b := by kernel_rfl
noncomputable def C45 : Ctx := Ctx.add C72 45 [.agg (.pair (.int .u64) (.pair (.slice 62 (.pair (.int .i64) (.pair (.int .u64) (.int .u64)))) (.int .i64))), .agg (.pair (.int .u64) (.pair (.slice 62 (.pair (.int .i64) (.pair (.int .u64) (.int .u64)))) (.int .i64)))] (.one (.leaf (.bool))) F45
theorem s45 : C45.Sound := Ctx.Sound.add (C := C72) mixed s72 Try.func45 ev45
/-! damson/damsonlaw07.TokenFewer -/
def H10 : Nat → Head
  | 5000011 => ⟨[], [0, 0, 0, 0, 0, 0, 0, 0, 0, 0, 16, 16, 32, 32, 72, 72, 0, 0, 256, 256, 644, 644, 1027, 1027, 2048, 2048, 4096, 4096, 4096, 4096, 16383, 8192, 65535, 16384]⟩
  | _ => ⟨[], []⟩
noncomputable def F10 (b : List (Int × (Int × List Int)) × Int × Int × List (Int × (Int × Int))) : Option Bool :=
 (F32 ()).bind fun r1 =>
 bif (!r1) then (
 some false)
 else (
 (F15 b.1).bind fun r2 =>
 bif (bif (bif (!r2) then true else decide (16 < (b.2.2.2.length : Int))) then true else decide ((b.2.2.2.length : Int) = 0)) then (
 some true)
 else (
 (F34 (b.1, b.2.1, b.2.2.1, b.2.2.2)).bind fun r3 =>
 bif (!r3.2.2) then (
 some true)
 else (
 (F30 (r3.1, r3.2.1.2.2)).bind fun r4 =>
 bif (bif (bif (!decide (r4.2.2 = 0)) then true else (!decide (r4.1 = b.2.2.1))) then true else (!decide ((r4.2.1.length : Int) = (IntKind.wrap .i64 ((b.2.2.2.length : Int) + 1))))) then (
 some false)
 else (
 bif inb (IntKind.wrap .i64 ((b.2.2.2.length : Int) - 1)) (b.2.2.2.length + 1) then
 (both (
 (F35 (r3.1, b.2.2.1, (b.2.1, (b.2.2.2.take ((IntKind.wrap .i64 ((b.2.2.2.length : Int) - 1)).toNat), r3.2.1.2.2)))).bind fun r5 =>
 some (bif decide (r5.2 = 0) then (!r5.1) else false)) (
 (fun o => both o o) (
 (F35 (r3.1, b.2.2.1, (b.2.1, (b.2.2.2.take ((IntKind.wrap .i64 ((b.2.2.2.length : Int) - 1)).toNat), r3.2.1.2.2)))).bind fun r5 =>
 some (bif decide (r5.2 = 0) then (!r5.1) else false))))
 else none))))
theorem ev10 (b : List (Int × (Int × List Int)) × Int × Int × List (Int × (Int × Int))) : evF C45 H10 Try.f10 (encs [.agg (.slice 39 (.pair (.int .u64) (.pair (.int .i64) (.slice 5 (.int .u8))))), .one (.int .u64), .one (.int .u64), .one (.slice 62 (.pair (.int .i64) (.pair (.int .u64) (.int .u64))))] b) (RT.dec (.one (.leaf (.bool)))) = F10 b := by kernel_rfl
noncomputable def C10 : Ctx := Ctx.add C45 10 [.agg (.slice 39 (.pair (.int .u64) (.pair (.int .i64) (.slice 5 (.int .u8))))), .one (.int .u64), .one (.int .u64), .one (.slice 62 (.pair (.int .i64) (.pair (.int .u64) (.int .u64))))] (.one (.leaf (.bool))) F10
theorem s10 : C10.Sound := Ctx.Sound.add (C := C45) mixed s45 Try.func10 ev10
/-! damson/damsonlaw07.TokenOrder -/
def H11 : Nat → Head
  | 5000016 => ⟨[], [0, 0, 0, 0, 3, 3, 0, 0, 0, 0, 24, 24, 36, 36, 68, 64, 128, 128, 384, 384, 128, 128, 1152, 1152, 2688, 2688, 128, 128, 128, 128, 24704, 24704, 36992, 36992, 65664, 65664, 262143, 131072]⟩
  | _ => ⟨[], []⟩
noncomputable def F11 (b : List (Int × (Int × List Int)) × Int × Int × (Int × (Int × Int)) × (Int × (Int × Int))) : Option Bool :=
 (F32 ()).bind fun r1 =>
 bif (!r1) then (
 some false)
 else (
 (F15 b.1).bind fun r2 =>
 bif (!r2) then (
 some true)
 else (
 (F34 (b.1, b.2.1, b.2.2.1, [(b.2.2.2.1.1, (b.2.2.2.1.2.1, b.2.2.2.1.2.2)), (b.2.2.2.2.1, (b.2.2.2.2.2.1, b.2.2.2.2.2.2))])).bind fun r3 =>
 bif (!r3.2.2) then (
 some true)
 else (
 (F34 (r3.1, b.2.1, b.2.2.1, [(b.2.2.2.2.1, (b.2.2.2.2.2.1, b.2.2.2.2.2.2)), (b.2.2.2.1.1, (b.2.2.2.1.2.1, b.2.2.2.1.2.2))])).bind fun r4 =>
 bif (!r4.2.2) then (
 some false)
 else (
 (F37 (r4.1, b.2.1, b.2.2.1)).bind fun r5 =>
 (F39 (r5.1, (r5.2.1.1, (r5.2.1.2.1, r5.2.1.2.2)), (b.2.2.2.1.1, (b.2.2.2.1.2.1, b.2.2.2.1.2.2)))).bind fun r6 =>
 (F39 (r6.1, (r6.2.1.1, (r6.2.1.2.1, r6.2.1.2.2)), (b.2.2.2.2.1, (b.2.2.2.2.2.1, b.2.2.2.2.2.2)))).bind fun r7 =>
 bif ((bif (bif (!decide (r5.2.2 = 0)) then true else (!decide (r6.2.2 = 0))) then true else (!decide (r7.2.2 = 0))) == false) then (
 (F45 ((r7.2.1.1, (r7.2.1.2.1, r7.2.1.2.2)), (r3.2.1.1, (r3.2.1.2.1, r3.2.1.2.2)))).bind fun r8 =>
 bif ((!r8) == false) then (
 (F25 (r4.1, r7.1)).bind fun r9 =>
 bif (!r9) then (
 some false)
 else (
 (both (
 (both (
 (both (
 (F45 ((r3.2.1.1, (r3.2.1.2.1, r3.2.1.2.2)), (r4.2.1.1, (r4.2.1.2.1, r4.2.1.2.2)))).bind fun r10 =>
 (fun o => both o o) (
 (fun o => both o (both o (both o o))) (
 (fun o => both o (both o o)) (
 (fun o => both o o) (
 some (bif (r10 == (decide (b.2.2.2.1.1 = b.2.2.2.2.1) && (decide (b.2.2.2.1.2.1 = b.2.2.2.2.2.1) && decide (b.2.2.2.1.2.2 = b.2.2.2.2.2.2)))) then (decide (r3.2.1.2.2 = r4.2.1.2.2) == (decide (b.2.2.2.1.1 = b.2.2.2.2.1) && (decide (b.2.2.2.1.2.1 = b.2.2.2.2.2.1) && decide (b.2.2.2.1.2.2 = b.2.2.2.2.2.2)))) else false)))))) (both (
 (fun o => both o o) (
 (F45 ((r3.2.1.1, (r3.2.1.2.1, r3.2.1.2.2)), (r4.2.1.1, (r4.2.1.2.1, r4.2.1.2.2)))).bind fun r10 =>
 (fun o => both o (both o (both o o))) (
 (fun o => both o (both o o)) (
 (fun o => both o o) (
 some (bif (r10 == (decide (b.2.2.2.1.1 = b.2.2.2.2.1) && (decide (b.2.2.2.1.2.1 = b.2.2.2.2.2.1) && decide (b.2.2.2.1.2.2 = b.2.2.2.2.2.2)))) then (decide (r3.2.1.2.2 = r4.2.1.2.2) == (decide (b.2.2.2.1.1 = b.2.2.2.2.1) && (decide (b.2.2.2.1.2.1 = b.2.2.2.2.2.1) && decide (b.2.2.2.1.2.2 = b.2.2.2.2.2.2)))) else false)))))) (
 (fun o => both o o) (
 (F45 ((r3.2.1.1, (r3.2.1.2.1, r3.2.1.2.2)), (r4.2.1.1, (r4.2.1.2.1, r4.2.1.2.2)))).bind fun r10 =>
 (fun o => both o (both o (both o o))) (
 (fun o => both o (both o o)) (
 (fun o => both o o) (
 some (bif (r10 == (decide (b.2.2.2.1.1 = b.2.2.2.2.1) && (decide (b.2.2.2.1.2.1 = b.2.2.2.2.2.1) && decide (b.2.2.2.1.2.2 = b.2.2.2.2.2.2)))) then (decide (r3.2.1.2.2 = r4.2.1.2.2) == (decide (b.2.2.2.1.1 = b.2.2.2.2.1) && (decide (b.2.2.2.1.2.1 = b.2.2.2.2.2.1) && decide (b.2.2.2.1.2.2 = b.2.2.2.2.2.2)))) else false))))))))) (both (
 (both (
 (fun o => both o o) (
 (F45 ((r3.2.1.1, (r3.2.1.2.1, r3.2.1.2.2)), (r4.2.1.1, (r4.2.1.2.1, r4.2.1.2.2)))).bind fun r10 =>
 (fun o => both o (both o (both o o))) (
 (fun o => both o (both o o)) (
 (fun o => both o o) (
 some (bif (r10 == (decide (b.2.2.2.1.1 = b.2.2.2.2.1) && (decide (b.2.2.2.1.2.1 = b.2.2.2.2.2.1) && decide (b.2.2.2.1.2.2 = b.2.2.2.2.2.2)))) then (decide (r3.2.1.2.2 = r4.2.1.2.2) == (decide (b.2.2.2.1.1 = b.2.2.2.2.1) && (decide (b.2.2.2.1.2.1 = b.2.2.2.2.2.1) && decide (b.2.2.2.1.2.2 = b.2.2.2.2.2.2)))) else false)))))) (
 (F45 ((r3.2.1.1, (r3.2.1.2.1, r3.2.1.2.2)), (r4.2.1.1, (r4.2.1.2.1, r4.2.1.2.2)))).bind fun r10 =>
 (fun o => both o (both o (both o o))) (
 (fun o => both o (both o o)) (
 (fun o => both o o) (
 some (bif (r10 == (decide (b.2.2.2.1.1 = b.2.2.2.2.1) && (decide (b.2.2.2.1.2.1 = b.2.2.2.2.2.1) && decide (b.2.2.2.1.2.2 = b.2.2.2.2.2.2)))) then (decide (r3.2.1.2.2 = r4.2.1.2.2) == (decide (b.2.2.2.1.1 = b.2.2.2.2.1) && (decide (b.2.2.2.1.2.1 = b.2.2.2.2.2.1) && decide (b.2.2.2.1.2.2 = b.2.2.2.2.2.2)))) else false))))))) (
 (both (
 (fun o => both o o) (
 (F45 ((r3.2.1.1, (r3.2.1.2.1, r3.2.1.2.2)), (r4.2.1.1, (r4.2.1.2.1, r4.2.1.2.2)))).bind fun r10 =>
 (fun o => both o (both o (both o o))) (
 (fun o => both o (both o o)) (
 (fun o => both o o) (
 some (bif (r10 == (decide (b.2.2.2.1.1 = b.2.2.2.2.1) && (decide (b.2.2.2.1.2.1 = b.2.2.2.2.2.1) && decide (b.2.2.2.1.2.2 = b.2.2.2.2.2.2)))) then (decide (r3.2.1.2.2 = r4.2.1.2.2) == (decide (b.2.2.2.1.1 = b.2.2.2.2.1) && (decide (b.2.2.2.1.2.1 = b.2.2.2.2.2.1) && decide (b.2.2.2.1.2.2 = b.2.2.2.2.2.2)))) else false)))))) (
 (F45 ((r3.2.1.1, (r3.2.1.2.1, r3.2.1.2.2)), (r4.2.1.1, (r4.2.1.2.1, r4.2.1.2.2)))).bind fun r10 =>
 (fun o => both o (both o (both o o))) (
 (fun o => both o (both o o)) (
 (fun o => both o o) (
 some (bif (r10 == (decide (b.2.2.2.1.1 = b.2.2.2.2.1) && (decide (b.2.2.2.1.2.1 = b.2.2.2.2.2.1) && decide (b.2.2.2.1.2.2 = b.2.2.2.2.2.2)))) then (decide (r3.2.1.2.2 = r4.2.1.2.2) == (decide (b.2.2.2.1.1 = b.2.2.2.2.1) && (decide (b.2.2.2.1.2.1 = b.2.2.2.2.2.1) && decide (b.2.2.2.1.2.2 = b.2.2.2.2.2.2)))) else false)))))))))) (both (
 (both (
 (both (
 (F45 ((r3.2.1.1, (r3.2.1.2.1, r3.2.1.2.2)), (r4.2.1.1, (r4.2.1.2.1, r4.2.1.2.2)))).bind fun r10 =>
 (fun o => both o o) (
 (fun o => both o (both o (both o o))) (
 (fun o => both o (both o o)) (
 (fun o => both o o) (
 some (bif (r10 == (decide (b.2.2.2.1.1 = b.2.2.2.2.1) && (decide (b.2.2.2.1.2.1 = b.2.2.2.2.2.1) && decide (b.2.2.2.1.2.2 = b.2.2.2.2.2.2)))) then (decide (r3.2.1.2.2 = r4.2.1.2.2) == (decide (b.2.2.2.1.1 = b.2.2.2.2.1) && (decide (b.2.2.2.1.2.1 = b.2.2.2.2.2.1) && decide (b.2.2.2.1.2.2 = b.2.2.2.2.2.2)))) else false)))))) (both (
 (fun o => both o o) (
 (F45 ((r3.2.1.1, (r3.2.1.2.1, r3.2.1.2.2)), (r4.2.1.1, (r4.2.1.2.1, r4.2.1.2.2)))).bind fun r10 =>
 (fun o => both o (both o (both o o))) (
 (fun o => both o (both o o)) (
 (fun o => both o o) (
 some (bif (r10 == (decide (b.2.2.2.1.1 = b.2.2.2.2.1) && (decide (b.2.2.2.1.2.1 = b.2.2.2.2.2.1) && decide (b.2.2.2.1.2.2 = b.2.2.2.2.2.2)))) then (decide (r3.2.1.2.2 = r4.2.1.2.2) == (decide (b.2.2.2.1.1 = b.2.2.2.2.1) && (decide (b.2.2.2.1.2.1 = b.2.2.2.2.2.1) && decide (b.2.2.2.1.2.2 = b.2.2.2.2.2.2)))) else false)))))) (
 (fun o => both o o) (
 (F45 ((r3.2.1.1, (r3.2.1.2.1, r3.2.1.2.2)), (r4.2.1.1, (r4.2.1.2.1, r4.2.1.2.2)))).bind fun r10 =>
 (fun o => both o (both o (both o o))) (
 (fun o => both o (both o o)) (
 (fun o => both o o) (
 some (bif (r10 == (decide (b.2.2.2.1.1 = b.2.2.2.2.1) && (decide (b.2.2.2.1.2.1 = b.2.2.2.2.2.1) && decide (b.2.2.2.1.2.2 = b.2.2.2.2.2.2)))) then (decide (r3.2.1.2.2 = r4.2.1.2.2) == (decide (b.2.2.2.1.1 = b.2.2.2.2.1) && (decide (b.2.2.2.1.2.1 = b.2.2.2.2.2.1) && decide (b.2.2.2.1.2.2 = b.2.2.2.2.2.2)))) else false))))))))) (both (
 (both (
 (fun o => both o o) (
 (F45 ((r3.2.1.1, (r3.2.1.2.1, r3.2.1.2.2)), (r4.2.1.1, (r4.2.1.2.1, r4.2.1.2.2)))).bind fun r10 =>
 (fun o => both o (both o (both o o))) (
 (fun o => both o (both o o)) (
 (fun o => both o o) (
 some (bif (r10 == (decide (b.2.2.2.1.1 = b.2.2.2.2.1) && (decide (b.2.2.2.1.2.1 = b.2.2.2.2.2.1) && decide (b.2.2.2.1.2.2 = b.2.2.2.2.2.2)))) then (decide (r3.2.1.2.2 = r4.2.1.2.2) == (decide (b.2.2.2.1.1 = b.2.2.2.2.1) && (decide (b.2.2.2.1.2.1 = b.2.2.2.2.2.1) && decide (b.2.2.2.1.2.2 = b.2.2.2.2.2.2)))) else false)))))) (
 (F45 ((r3.2.1.1, (r3.2.1.2.1, r3.2.1.2.2)), (r4.2.1.1, (r4.2.1.2.1, r4.2.1.2.2)))).bind fun r10 =>
 (fun o => both o (both o (both o o))) (
 (fun o => both o (both o o)) (
 (fun o => both o o) (
 some (bif (r10 == (decide (b.2.2.2.1.1 = b.2.2.2.2.1) && (decide (b.2.2.2.1.2.1 = b.2.2.2.2.2.1) && decide (b.2.2.2.1.2.2 = b.2.2.2.2.2.2)))) then (decide (r3.2.1.2.2 = r4.2.1.2.2) == (decide (b.2.2.2.1.1 = b.2.2.2.2.1) && (decide (b.2.2.2.1.2.1 = b.2.2.2.2.2.1) && decide (b.2.2.2.1.2.2 = b.2.2.2.2.2.2)))) else false))))))) (
 (both (
 (fun o => both o o) (
 (F45 ((r3.2.1.1, (r3.2.1.2.1, r3.2.1.2.2)), (r4.2.1.1, (r4.2.1.2.1, r4.2.1.2.2)))).bind fun r10 =>
 (fun o => both o (both o (both o o))) (
 (fun o => both o (both o o)) (
 (fun o => both o o) (
 some (bif (r10 == (decide (b.2.2.2.1.1 = b.2.2.2.2.1) && (decide (b.2.2.2.1.2.1 = b.2.2.2.2.2.1) && decide (b.2.2.2.1.2.2 = b.2.2.2.2.2.2)))) then (decide (r3.2.1.2.2 = r4.2.1.2.2) == (decide (b.2.2.2.1.1 = b.2.2.2.2.1) && (decide (b.2.2.2.1.2.1 = b.2.2.2.2.2.1) && decide (b.2.2.2.1.2.2 = b.2.2.2.2.2.2)))) else false)))))) (
 (F45 ((r3.2.1.1, (r3.2.1.2.1, r3.2.1.2.2)), (r4.2.1.1, (r4.2.1.2.1, r4.2.1.2.2)))).bind fun r10 =>
 (fun o => both o (both o (both o o))) (
 (fun o => both o (both o o)) (
 (fun o => both o o) (
 some (bif (r10 == (decide (b.2.2.2.1.1 = b.2.2.2.2.1) && (decide (b.2.2.2.1.2.1 = b.2.2.2.2.2.1) && decide (b.2.2.2.1.2.2 = b.2.2.2.2.2.2)))) then (decide (r3.2.1.2.2 = r4.2.1.2.2) == (decide (b.2.2.2.1.1 = b.2.2.2.2.1) && (decide (b.2.2.2.1.2.1 = b.2.2.2.2.2.1) && decide (b.2.2.2.1.2.2 = b.2.2.2.2.2.2)))) else false)))))))))) (both (
 (both (
 (both (
 (fun o => both o o) (
 (F45 ((r3.2.1.1, (r3.2.1.2.1, r3.2.1.2.2)), (r4.2.1.1, (r4.2.1.2.1, r4.2.1.2.2)))).bind fun r10 =>
 (fun o => both o (both o (both o o))) (
 (fun o => both o (both o o)) (
 (fun o => both o o) (
 some (bif (r10 == (decide (b.2.2.2.1.1 = b.2.2.2.2.1) && (decide (b.2.2.2.1.2.1 = b.2.2.2.2.2.1) && decide (b.2.2.2.1.2.2 = b.2.2.2.2.2.2)))) then (decide (r3.2.1.2.2 = r4.2.1.2.2) == (decide (b.2.2.2.1.1 = b.2.2.2.2.1) && (decide (b.2.2.2.1.2.1 = b.2.2.2.2.2.1) && decide (b.2.2.2.1.2.2 = b.2.2.2.2.2.2)))) else false)))))) (
 (F45 ((r3.2.1.1, (r3.2.1.2.1, r3.2.1.2.2)), (r4.2.1.1, (r4.2.1.2.1, r4.2.1.2.2)))).bind fun r10 =>
 (fun o => both o (both o (both o o))) (
 (fun o => both o (both o o)) (
 (fun o => both o o) (
 some (bif (r10 == (decide (b.2.2.2.1.1 = b.2.2.2.2.1) && (decide (b.2.2.2.1.2.1 = b.2.2.2.2.2.1) && decide (b.2.2.2.1.2.2 = b.2.2.2.2.2.2)))) then (decide (r3.2.1.2.2 = r4.2.1.2.2) == (decide (b.2.2.2.1.1 = b.2.2.2.2.1) && (decide (b.2.2.2.1.2.1 = b.2.2.2.2.2.1) && decide (b.2.2.2.1.2.2 = b.2.2.2.2.2.2)))) else false))))))) (both (
 (both (
 (fun o => both o o) (
 (F45 ((r3.2.1.1, (r3.2.1.2.1, r3.2.1.2.2)), (r4.2.1.1, (r4.2.1.2.1, r4.2.1.2.2)))).bind fun r10 =>
 (fun o => both o (both o (both o o))) (
 (fun o => both o (both o o)) (
 (fun o => both o o) (
 some (bif (r10 == (decide (b.2.2.2.1.1 = b.2.2.2.2.1) && (decide (b.2.2.2.1.2.1 = b.2.2.2.2.2.1) && decide (b.2.2.2.1.2.2 = b.2.2.2.2.2.2)))) then (decide (r3.2.1.2.2 = r4.2.1.2.2) == (decide (b.2.2.2.1.1 = b.2.2.2.2.1) && (decide (b.2.2.2.1.2.1 = b.2.2.2.2.2.1) && decide (b.2.2.2.1.2.2 = b.2.2.2.2.2.2)))) else false)))))) (
 (F45 ((r3.2.1.1, (r3.2.1.2.1, r3.2.1.2.2)), (r4.2.1.1, (r4.2.1.2.1, r4.2.1.2.2)))).bind fun r10 =>
 (fun o => both o (both o (both o o))) (
 (fun o => both o (both o o)) (
 (fun o => both o o) (
 some (bif (r10 == (decide (b.2.2.2.1.1 = b.2.2.2.2.1) && (decide (b.2.2.2.1.2.1 = b.2.2.2.2.2.1) && decide (b.2.2.2.1.2.2 = b.2.2.2.2.2.2)))) then (decide (r3.2.1.2.2 = r4.2.1.2.2) == (decide (b.2.2.2.1.1 = b.2.2.2.2.1) && (decide (b.2.2.2.1.2.1 = b.2.2.2.2.2.1) && decide (b.2.2.2.1.2.2 = b.2.2.2.2.2.2)))) else false))))))) (
 (fun o => both o o) (
 (F45 ((r3.2.1.1, (r3.2.1.2.1, r3.2.1.2.2)), (r4.2.1.1, (r4.2.1.2.1, r4.2.1.2.2)))).bind fun r10 =>
 (fun o => both o (both o (both o o))) (
 (fun o => both o (both o o)) (
 (fun o => both o o) (
 some (bif (r10 == (decide (b.2.2.2.1.1 = b.2.2.2.2.1) && (decide (b.2.2.2.1.2.1 = b.2.2.2.2.2.1) && decide (b.2.2.2.1.2.2 = b.2.2.2.2.2.2)))) then (decide (r3.2.1.2.2 = r4.2.1.2.2) == (decide (b.2.2.2.1.1 = b.2.2.2.2.1) && (decide (b.2.2.2.1.2.1 = b.2.2.2.2.2.1) && decide (b.2.2.2.1.2.2 = b.2.2.2.2.2.2)))) else false))))))))) (
 (both (
 (both (
 (fun o => both o o) (
 (F45 ((r3.2.1.1, (r3.2.1.2.1, r3.2.1.2.2)), (r4.2.1.1, (r4.2.1.2.1, r4.2.1.2.2)))).bind fun r10 =>
 (fun o => both o (both o (both o o))) (
 (fun o => both o (both o o)) (
 (fun o => both o o) (
 some (bif (r10 == (decide (b.2.2.2.1.1 = b.2.2.2.2.1) && (decide (b.2.2.2.1.2.1 = b.2.2.2.2.2.1) && decide (b.2.2.2.1.2.2 = b.2.2.2.2.2.2)))) then (decide (r3.2.1.2.2 = r4.2.1.2.2) == (decide (b.2.2.2.1.1 = b.2.2.2.2.1) && (decide (b.2.2.2.1.2.1 = b.2.2.2.2.2.1) && decide (b.2.2.2.1.2.2 = b.2.2.2.2.2.2)))) else false)))))) (
 (F45 ((r3.2.1.1, (r3.2.1.2.1, r3.2.1.2.2)), (r4.2.1.1, (r4.2.1.2.1, r4.2.1.2.2)))).bind fun r10 =>
 (fun o => both o (both o (both o o))) (
 (fun o => both o (both o o)) (
 (fun o => both o o) (
 some (bif (r10 == (decide (b.2.2.2.1.1 = b.2.2.2.2.1) && (decide (b.2.2.2.1.2.1 = b.2.2.2.2.2.1) && decide (b.2.2.2.1.2.2 = b.2.2.2.2.2.2)))) then (decide (r3.2.1.2.2 = r4.2.1.2.2) == (decide (b.2.2.2.1.1 = b.2.2.2.2.1) && (decide (b.2.2.2.1.2.1 = b.2.2.2.2.2.1) && decide (b.2.2.2.1.2.2 = b.2.2.2.2.2.2)))) else false))))))) (both (
 (both (
 (fun o => both o o) (
 (F45 ((r3.2.1.1, (r3.2.1.2.1, r3.2.1.2.2)), (r4.2.1.1, (r4.2.1.2.1, r4.2.1.2.2)))).bind fun r10 =>
 (fun o => both o (both o (both o o))) (
 (fun o => both o (both o o)) (
 (fun o => both o o) (
 some (bif (r10 == (decide (b.2.2.2.1.1 = b.2.2.2.2.1) && (decide (b.2.2.2.1.2.1 = b.2.2.2.2.2.1) && decide (b.2.2.2.1.2.2 = b.2.2.2.2.2.2)))) then (decide (r3.2.1.2.2 = r4.2.1.2.2) == (decide (b.2.2.2.1.1 = b.2.2.2.2.1) && (decide (b.2.2.2.1.2.1 = b.2.2.2.2.2.1) && decide (b.2.2.2.1.2.2 = b.2.2.2.2.2.2)))) else false)))))) (
 (F45 ((r3.2.1.1, (r3.2.1.2.1, r3.2.1.2.2)), (r4.2.1.1, (r4.2.1.2.1, r4.2.1.2.2)))).bind fun r10 =>
 (fun o => both o (both o (both o o))) (
 (fun o => both o (both o o)) (
 (fun o => both o o) (
 some (bif (r10 == (decide (b.2.2.2.1.1 = b.2.2.2.2.1) && (decide (b.2.2.2.1.2.1 = b.2.2.2.2.2.1) && decide (b.2.2.2.1.2.2 = b.2.2.2.2.2.2)))) then (decide (r3.2.1.2.2 = r4.2.1.2.2) == (decide (b.2.2.2.1.1 = b.2.2.2.2.1) && (decide (b.2.2.2.1.2.1 = b.2.2.2.2.2.1) && decide (b.2.2.2.1.2.2 = b.2.2.2.2.2.2)))) else false))))))) (
 (fun o => both o o) (
 (F45 ((r3.2.1.1, (r3.2.1.2.1, r3.2.1.2.2)), (r4.2.1.1, (r4.2.1.2.1, r4.2.1.2.2)))).bind fun r10 =>
 (fun o => both o (both o (both o o))) (
 (fun o => both o (both o o)) (
 (fun o => both o o) (
 some (bif (r10 == (decide (b.2.2.2.1.1 = b.2.2.2.2.1) && (decide (b.2.2.2.1.2.1 = b.2.2.2.2.2.1) && decide (b.2.2.2.1.2.2 = b.2.2.2.2.2.2)))) then (decide (r3.2.1.2.2 = r4.2.1.2.2) == (decide (b.2.2.2.1.1 = b.2.2.2.2.1) && (decide (b.2.2.2.1.2.1 = b.2.2.2.2.2.1) && decide (b.2.2.2.1.2.2 = b.2.2.2.2.2.2)))) else false))))))))))))))
 else (
 some false))
 else (
 some false)))))
theorem ev11 (b : List (Int × (Int × List Int)) × Int × Int × (Int × (Int × Int)) × (Int × (Int × Int))) : evF C10 H11 Try.f11 (encs [.agg (.slice 39 (.pair (.int .u64) (.pair (.int .i64) (.slice 5 (.int .u8))))), .one (.int .u64), .one (.int .u64), .agg (.pair (.int .i64) (.pair (.int .u64) (.int .u64))), .agg (.pair (.int .i64) (.pair (.int .u64) (.int .u64)))] b) (RT.dec (.one (.leaf (.bool)))) = F11 b := by kernel_rfl
noncomputable def C11 : Ctx := Ctx.add C10 11 [.agg (.slice 39 (.pair (.int .u64) (.pair (.int .i64) (.slice 5 (.int .u8))))), .one (.int .u64), .one (.int .u64), .agg (.pair (.int .i64) (.pair (.int .u64) (.int .u64))), .agg (.pair (.int .i64) (.pair (.int .u64) (.int .u64)))] (.one (.leaf (.bool))) F11
theorem s11 : C11.Sound := Ctx.Sound.add (C := C10) mixed s10 Try.func11 ev11
/-! damson/bigsize.Get -/
def H101 : Nat → Head
  | 7 => ⟨[.data 2 (.int .u64), .data 35 (.int .i64)], []⟩
  | 5000011 => ⟨[], [0, 0, 1, 1, 0, 0, 4, 4, 8, 8, 18, 18]⟩
  | _ => ⟨[], []⟩
noncomputable def F101 (b : List Int) : Option (Int × Int × Int) :=
 bif (decide ((b.length : Int) = 0) == false) then (
 bif inb 0 b.length then
 (F90 (rd (.int .u8) b 0)).bind fun r1 =>
 bif decide ((b.length : Int) ≤ r1) then (
 some (0, 0, 3))
 else (
 bif inb 0 b.length then
 (F90 (rd (.int .u8) b 0)).bind fun r2 =>
 bif decide (r2 = 0) then (
 bif inb 0 b.length then
 some ((IntKind.wrap .u64 (rd (.int .u8) b 0)), 1, 0)
 else none)
 else (
 bif (inb (IntKind.wrap .i64 (r2 + 1)) (b.length + 1) && (decide (0 ≤ 1) && decide (1 ≤ (IntKind.wrap .i64 (r2 + 1))))) then
 lfp (fun (rec3 : (Int × Int) → Option (Int × Int × Int)) (x3 : Int × Int) =>
  bif decide (x3.2 < (((b.take ((IntKind.wrap .i64 (r2 + 1)).toNat)).drop ((1 : Int).toNat)).length : Int)) then (
  bif inb x3.2 ((b.take ((IntKind.wrap .i64 (r2 + 1)).toNat)).drop ((1 : Int).toNat)).length then
  rec3 ((bitOp .or .u64 (IntKind.wrap .u64 (x3.1 * 2 ^ (min (8 : Int).toNat 64))) (IntKind.wrap .u64 (rd (.int .u8) ((b.take ((IntKind.wrap .i64 (r2 + 1)).toNat)).drop ((1 : Int).toNat)) x3.2))), (IntKind.wrap .i64 (x3.2 + 1)))
  else none)
  else (
  bif inb 0 b.length then
  (F89 x3.1).bind fun r4 =>
  bif (!decide (r4 = (rd (.int .u8) b 0))) then (
  some (0, 0, 2))
  else (
  some (x3.1, (IntKind.wrap .i64 (r2 + 1)), 0))
  else none)) (0, 0)
 else none)
 else none)
 else none)
 else (
 some (0, 0, 3))
theorem ev101 (b : List Int) : evF C11 H101 Try.f101 (encs [.one (.slice 5 (.int .u8))] b) (RT.dec (.tup [.leaf (.int .u64), .leaf (.int .i64), .leaf (.int .i64)])) = F101 b := by kernel_rfl
noncomputable def C101 : Ctx := Ctx.add C11 101 [.one (.slice 5 (.int .u8))] (.tup [.leaf (.int .u64), .leaf (.int .i64), .leaf (.int .i64)]) F101
theorem s101 : C101.Sound := Ctx.Sound.add (C := C11) mixed s11 Try.func101 ev101
end Go.Proofs.Ytcpcbeeghjigkaa.R3
