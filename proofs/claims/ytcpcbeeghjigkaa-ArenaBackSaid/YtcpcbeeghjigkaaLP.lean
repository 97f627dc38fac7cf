/- Part of a proof: what the program's functions come to. -/
import Derived.Test.YtcpcbeeghjigkaaFwCtx
import Derived.Test.YtcpcbeeghjigkaaProg
import Derived.KernelRfl
set_option linter.unusedVariables false
set_option linter.unusedSimpArgs false
set_option maxRecDepth 100000
namespace Go.Proofs.Ytcpcbeeghjigkaa.R3
open Go Go.Fw Go.Proofs
noncomputable def C_ : Ctx := Ctx.nil Try.prog
theorem s_ : C_.Sound := Ctx.nil_sound _
theorem mixed : Try.prog.follows .mixedOrders = true := by kernel_rfl
/-! damson/arena.Find$1 -/
def H58 : Nat → Head := fun _ => ⟨[], []⟩
noncomputable def F58 (b : List Int) : Option Bool :=
 some (decide (4096 < (b.length : Int)))
theorem ev58 (b : List Int) : evF C_ H58 Try.f58 (encs [.one (.slice 5 (.int .u8))] b) (RT.dec (.one (.leaf (.bool)))) = F58 b := by kernel_rfl
noncomputable def C58 : Ctx := Ctx.add C_ 58 [.one (.slice 5 (.int .u8))] (.one (.leaf (.bool))) F58
theorem s58 : C58.Sound := Ctx.Sound.add (C := C_) mixed s_ Try.func58 ev58
/-! damson/arena.of -/
def H84 : Nat → Head := fun _ => ⟨[], []⟩
noncomputable def F84 (b : (Int × (Int × List Int))) : Option (Int × Int × List Int) :=
 some (b.1, b.2.1, b.2.2)
theorem ev84 (b : (Int × (Int × List Int))) : evF C58 H84 Try.f84 (encs [.agg (.pair (.int .u64) (.pair (.int .i64) (.slice 5 (.int .u8))))] b) (RT.dec (.one (.agg [.int .u64, .int .i64, .str]))) = F84 b := by kernel_rfl
noncomputable def C84 : Ctx := Ctx.add C58 84 [.agg (.pair (.int .u64) (.pair (.int .i64) (.slice 5 (.int .u8))))] (.one (.agg [.int .u64, .int .i64, .str])) F84
theorem s84 : C84.Sound := Ctx.Sound.add (C := C58) mixed s58 Try.func84 ev84
/-! damson/arena.read -/
def H54 : Nat → Head
  | 5 => ⟨[.data 3 (.int .i64), .data 17 (.int .i64), .mpk 36864 ⟨(.pair (.int .u64) (.pair (.int .i64) .str)), (.int .i64)⟩], [4096]⟩
  | 1000000 => ⟨[], [2]⟩
  | 1000003 => ⟨[], [2]⟩
  | 1000009 => ⟨[], [2]⟩
  | 1000012 => ⟨[], [2]⟩
  | _ => ⟨[], []⟩
noncomputable def F54 (b : List (Int × (Int × List Int))) : Option ((List ((Int × (Int × List Int)) × Int)) × Int) :=
 bif decide (1048576 < (b.length : Int)) then (
 some (([] : List ((Int × (Int × List Int)) × Int)), 1))
 else (
 lfp (fun (rec1 : (Int × Int × List ((Int × (Int × List Int)) × Int)) → Option ((List ((Int × (Int × List Int)) × Int)) × Int)) (x1 : Int × Int × List ((Int × (Int × List Int)) × Int)) =>
  bif decide (x1.2.1 < (b.length : Int)) then (
  bif inb x1.2.1 b.length then
  (F84 ((rd (.pair (.int .u64) (.pair (.int .i64) (.slice 5 (.int .u8)))) b x1.2.1).1, (((rd (.pair (.int .u64) (.pair (.int .i64) (.slice 5 (.int .u8)))) b x1.2.1).2).1, ((rd (.pair (.int .u64) (.pair (.int .i64) (.slice 5 (.int .u8)))) b x1.2.1).2).2))).bind fun r2 =>
  bif ((bif (bif (mhas (.pair (.int .u64) (.pair (.int .i64) .str)) (.int .i64) x1.2.2 (r2.1, (r2.2.1, r2.2.2))) then true else decide (((rd (.pair (.int .u64) (.pair (.int .i64) (.slice 5 (.int .u8)))) b x1.2.1).2).1 < (-1))) then true else decide (x1.2.1 ≤ ((rd (.pair (.int .u64) (.pair (.int .i64) (.slice 5 (.int .u8)))) b x1.2.1).2).1)) == false) then (
  bif (bif (bif decide ((-1) < ((rd (.pair (.int .u64) (.pair (.int .i64) (.slice 5 (.int .u8)))) b x1.2.1).2).1) then (!decide ((rd (.pair (.int .u64) (.pair (.int .i64) (.slice 5 (.int .u8)))) b x1.2.1).1 = 0)) else false) then true else decide (4096 < ((((rd (.pair (.int .u64) (.pair (.int .i64) (.slice 5 (.int .u8)))) b x1.2.1).2).2).length : Int))) then (
  some (([] : List ((Int × (Int × List Int)) × Int)), 1))
  else (
  (F84 ((rd (.pair (.int .u64) (.pair (.int .i64) (.slice 5 (.int .u8)))) b x1.2.1).1, (((rd (.pair (.int .u64) (.pair (.int .i64) (.slice 5 (.int .u8)))) b x1.2.1).2).1, ((rd (.pair (.int .u64) (.pair (.int .i64) (.slice 5 (.int .u8)))) b x1.2.1).2).2))).bind fun r3 =>
  rec1 (x1.1, (IntKind.wrap .i64 (x1.2.1 + 1)), (mput (.pair (.int .u64) (.pair (.int .i64) .str)) (.int .i64) x1.2.2 (r3.1, (r3.2.1, r3.2.2)) x1.2.1))))
  else (
  some (([] : List ((Int × (Int × List Int)) × Int)), 1))
  else none)
  else (
  some (x1.2.2, 0))) (0, 0, ([] : List ((Int × (Int × List Int)) × Int))))
theorem ev54 (b : List (Int × (Int × List Int))) : evF C84 H54 Try.f54 (encs [.aggA (.slice 39 (.pair (.int .u64) (.pair (.int .i64) (.slice 5 (.int .u8)))))] b) (RT.dec (.tup [.leaf (.mp ⟨(.pair (.int .u64) (.pair (.int .i64) .str)), (.int .i64)⟩), .leaf (.int .i64)])) = F54 b := by kernel_rfl
noncomputable def C54 : Ctx := Ctx.addA C84 54 [.aggA (.slice 39 (.pair (.int .u64) (.pair (.int .i64) (.slice 5 (.int .u8)))))] (.tup [.leaf (.mp ⟨(.pair (.int .u64) (.pair (.int .i64) .str)), (.int .i64)⟩), .leaf (.int .i64)]) F54
theorem s54 : C54.Sound := Ctx.Sound.addA (C := C84) mixed s84 Try.func54 ev54
/-! slices.Clone[[]byte,byte] -/
def H60 : Nat → Head := fun _ => ⟨[], []⟩
noncomputable def F60 (b : List Int) : Option (List Int) :=
 bif b.isEmpty then (
 (both (
 some ([] : List Int)) (
 bif decide ((([] : List Int).length + b.length) * 1 ≤ LIM) then
 some (([] : List Int) ++ b)
 else none)))
 else (
 bif decide ((([] : List Int).length + b.length) * 1 ≤ LIM) then
 some (([] : List Int) ++ b)
 else none)
theorem ev60 (b : List Int) : evF C54 H60 Try.f60 (encs [.oneA (.slice 5 (.int .u8))] b) (RT.dec (.one (.leaf (.fresh 5 (.int .u8))))) = F60 b := by kernel_rfl
noncomputable def C60 : Ctx := Ctx.addA C54 60 [.oneA (.slice 5 (.int .u8))] (.one (.leaf (.fresh 5 (.int .u8)))) F60
theorem s60 : C60.Sound := Ctx.Sound.addA (C := C54) mixed s54 Try.func60 ev60
/-! slices.Clone[[]damson/api.Term,damson/api.Term] -/
def H86 : Nat → Head := fun _ => ⟨[], []⟩
noncomputable def F86 (b : List (Int × (Int × List Int))) : Option (List (Int × (Int × List Int))) :=
 bif b.isEmpty then (
 (both (
 some ([] : List (Int × (Int × List Int)))) (
 bif decide ((([] : List (Int × (Int × List Int))).length + b.length) * 40 ≤ LIM) then
 some (([] : List (Int × (Int × List Int))) ++ b)
 else none)))
 else (
 bif decide ((([] : List (Int × (Int × List Int))).length + b.length) * 40 ≤ LIM) then
 some (([] : List (Int × (Int × List Int))) ++ b)
 else none)
theorem ev86 (b : List (Int × (Int × List Int))) : evF C60 H86 Try.f86 (encs [.one (.slice 39 (.pair (.int .u64) (.pair (.int .i64) (.slice 5 (.int .u8)))))] b) (RT.dec (.one (.leaf (.fresh 39 (.pair (.int .u64) (.pair (.int .i64) (.slice 5 (.int .u8)))))))) = F86 b := by kernel_rfl
noncomputable def C86 : Ctx := Ctx.add C60 86 [.one (.slice 39 (.pair (.int .u64) (.pair (.int .i64) (.slice 5 (.int .u8)))))] (.one (.leaf (.fresh 39 (.pair (.int .u64) (.pair (.int .i64) (.slice 5 (.int .u8))))))) F86
theorem s86 : C86.Sound := Ctx.Sound.add (C := C60) mixed s60 Try.func86 ev86
/-! slices.Clip[[]damson/api.Term,damson/api.Term]: carried out where it is called -/
def H85 : Nat → Head
  | 4000000 => ⟨[], [2199023255560]⟩
  | _ => ⟨[], []⟩
noncomputable def C85 : Ctx := Ctx.addI C86 85 H85 9000085 Try.f85
theorem s85 : C85.Sound := Ctx.Sound.addI (C := C86) mixed s86 Try.func85
/-! damson/arena.put -/
def H51 : Nat → Head
  | 14 => ⟨[.data 65 (.int .i64), .mrowk 245760 39 (.pair (.int .u64) (.pair (.int .i64) (.slice 5 (.int .u8))))], [225280, 16384, 12288, 8192]⟩
  | 5000011 => ⟨[], [0, 0, 1, 1, 2, 2, 0, 0, 8, 8, 20, 20, 63, 0, 127, 96]⟩
  | 5000016 => ⟨[], [0, 0, 1, 1, 0, 0, 0, 0, 8, 8, 16, 16, 63, 6, 127, 64, 191, 160]⟩
  | 6000014 => ⟨[], [245760]⟩
  | _ => ⟨[], []⟩
noncomputable def F51 (b : List (Int × (Int × List Int)) × (Int × (Int × List Int))) : Option ((List (Int × (Int × List Int))) × Int × Int) :=
 (F54 b.1).bind fun r1 =>
 bif (bif (!decide (r1.2 = 0)) then true else decide ((b.1.length : Int) ≤ b.2.2.1)) then (
 some (([] : List (Int × (Int × List Int))), 0, 1))
 else (
 bif decide (4096 < (b.2.2.2.length : Int)) then (
 some (([] : List (Int × (Int × List Int))), 0, 4))
 else (
 (F84 (b.2.1, (b.2.2.1, b.2.2.2))).bind fun r2 =>
 bif (!(mhas (.pair (.int .u64) (.pair (.int .i64) .str)) (.int .i64) r1.1 (r2.1, (r2.2.1, r2.2.2)))) then (
 bif decide ((b.1.length : Int) = 1048576) then (
 some (([] : List (Int × (Int × List Int))), 0, 7))
 else (
 (both (
 (both (
 bif (inb (b.1.length : Int) (b.1.length + 1) && decide ((b.1.length : Int) = (b.1.length : Int))) then
 bif decide (((b.1.take ((b.1.length : Int).toNat)).length + 1) * 40 ≤ LIM) then
 (F86 ((b.1.take ((b.1.length : Int).toNat)) ++ ([(b.2.1, (b.2.2.1, b.2.2.2))]))).bind fun r3 =>
 lfp (fun (rec4 : (Int × (List (Int × (Int × List Int)) × Nat)) → Option ((List (Int × (Int × List Int))) × Int × Int)) (x4 : Int × (List (Int × (Int × List Int)) × Nat)) =>
  bif decide (x4.1 < (r3.length : Int)) then (
  bif inb x4.1 x4.2.1.length then
  (both (
  (F60 (((rd (.pair (.int .u64) (.pair (.int .i64) (.slice 5 (.int .u8)))) x4.2.1 x4.1).2).2)).bind fun r5 =>
  bif inb x4.1 x4.2.1.length then
  bif decide (x4.1.toNat = x4.2.2) then
  rec4 ((IntKind.wrap .i64 (x4.1 + 1)), ((x4.2.1.set x4.1.toNat ((rd (.pair (.int .u64) (.pair (.int .i64) (.slice 5 (.int .u8)))) x4.2.1 x4.1).1, (((rd (.pair (.int .u64) (.pair (.int .i64) (.slice 5 (.int .u8)))) x4.2.1 x4.1).2).1, r5))), x4.2.2 + 1))
  else none
  else none) (
  (fun o => both o o) (
  (F60 (((rd (.pair (.int .u64) (.pair (.int .i64) (.slice 5 (.int .u8)))) x4.2.1 x4.1).2).2)).bind fun r5 =>
  bif inb x4.1 x4.2.1.length then
  bif decide (x4.1.toNat = x4.2.2) then
  rec4 ((IntKind.wrap .i64 (x4.1 + 1)), ((x4.2.1.set x4.1.toNat ((rd (.pair (.int .u64) (.pair (.int .i64) (.slice 5 (.int .u8)))) x4.2.1 x4.1).1, (((rd (.pair (.int .u64) (.pair (.int .i64) (.slice 5 (.int .u8)))) x4.2.1 x4.1).2).1, r5))), x4.2.2 + 1))
  else none
  else none)))
  else none)
  else (
  bif decide (x4.2.1.length ≤ x4.2.2) then
  some (x4.2.1, (b.1.length : Int), 0)
  else none)) (0, (r3, 0))
 else none
 else none) (
 (fun o => both o o) (
 bif (inb (b.1.length : Int) (b.1.length + 1) && decide ((b.1.length : Int) = (b.1.length : Int))) then
 bif decide (((b.1.take ((b.1.length : Int).toNat)).length + 1) * 40 ≤ LIM) then
 (F86 ((b.1.take ((b.1.length : Int).toNat)) ++ ([(b.2.1, (b.2.2.1, b.2.2.2))]))).bind fun r3 =>
 lfp (fun (rec4 : (Int × (List (Int × (Int × List Int)) × Nat)) → Option ((List (Int × (Int × List Int))) × Int × Int)) (x4 : Int × (List (Int × (Int × List Int)) × Nat)) =>
  bif decide (x4.1 < (r3.length : Int)) then (
  bif inb x4.1 x4.2.1.length then
  (both (
  (F60 (((rd (.pair (.int .u64) (.pair (.int .i64) (.slice 5 (.int .u8)))) x4.2.1 x4.1).2).2)).bind fun r5 =>
  bif inb x4.1 x4.2.1.length then
  bif decide (x4.1.toNat = x4.2.2) then
  rec4 ((IntKind.wrap .i64 (x4.1 + 1)), ((x4.2.1.set x4.1.toNat ((rd (.pair (.int .u64) (.pair (.int .i64) (.slice 5 (.int .u8)))) x4.2.1 x4.1).1, (((rd (.pair (.int .u64) (.pair (.int .i64) (.slice 5 (.int .u8)))) x4.2.1 x4.1).2).1, r5))), x4.2.2 + 1))
  else none
  else none) (
  (fun o => both o o) (
  (F60 (((rd (.pair (.int .u64) (.pair (.int .i64) (.slice 5 (.int .u8)))) x4.2.1 x4.1).2).2)).bind fun r5 =>
  bif inb x4.1 x4.2.1.length then
  bif decide (x4.1.toNat = x4.2.2) then
  rec4 ((IntKind.wrap .i64 (x4.1 + 1)), ((x4.2.1.set x4.1.toNat ((rd (.pair (.int .u64) (.pair (.int .i64) (.slice 5 (.int .u8)))) x4.2.1 x4.1).1, (((rd (.pair (.int .u64) (.pair (.int .i64) (.slice 5 (.int .u8)))) x4.2.1 x4.1).2).1, r5))), x4.2.2 + 1))
  else none
  else none)))
  else none)
  else (
  bif decide (x4.2.1.length ≤ x4.2.2) then
  some (x4.2.1, (b.1.length : Int), 0)
  else none)) (0, (r3, 0))
 else none
 else none)))) (
 (both (
 (fun o => both o o) (
 bif (inb (b.1.length : Int) (b.1.length + 1) && decide ((b.1.length : Int) = (b.1.length : Int))) then
 bif decide (((b.1.take ((b.1.length : Int).toNat)).length + 1) * 40 ≤ LIM) then
 (F86 ((b.1.take ((b.1.length : Int).toNat)) ++ ([(b.2.1, (b.2.2.1, b.2.2.2))]))).bind fun r3 =>
 lfp (fun (rec4 : (Int × (List (Int × (Int × List Int)) × Nat)) → Option ((List (Int × (Int × List Int))) × Int × Int)) (x4 : Int × (List (Int × (Int × List Int)) × Nat)) =>
  bif decide (x4.1 < (r3.length : Int)) then (
  bif inb x4.1 x4.2.1.length then
  (both (
  (F60 (((rd (.pair (.int .u64) (.pair (.int .i64) (.slice 5 (.int .u8)))) x4.2.1 x4.1).2).2)).bind fun r5 =>
  bif inb x4.1 x4.2.1.length then
  bif decide (x4.1.toNat = x4.2.2) then
  rec4 ((IntKind.wrap .i64 (x4.1 + 1)), ((x4.2.1.set x4.1.toNat ((rd (.pair (.int .u64) (.pair (.int .i64) (.slice 5 (.int .u8)))) x4.2.1 x4.1).1, (((rd (.pair (.int .u64) (.pair (.int .i64) (.slice 5 (.int .u8)))) x4.2.1 x4.1).2).1, r5))), x4.2.2 + 1))
  else none
  else none) (
  (fun o => both o o) (
  (F60 (((rd (.pair (.int .u64) (.pair (.int .i64) (.slice 5 (.int .u8)))) x4.2.1 x4.1).2).2)).bind fun r5 =>
  bif inb x4.1 x4.2.1.length then
  bif decide (x4.1.toNat = x4.2.2) then
  rec4 ((IntKind.wrap .i64 (x4.1 + 1)), ((x4.2.1.set x4.1.toNat ((rd (.pair (.int .u64) (.pair (.int .i64) (.slice 5 (.int .u8)))) x4.2.1 x4.1).1, (((rd (.pair (.int .u64) (.pair (.int .i64) (.slice 5 (.int .u8)))) x4.2.1 x4.1).2).1, r5))), x4.2.2 + 1))
  else none
  else none)))
  else none)
  else (
  bif decide (x4.2.1.length ≤ x4.2.2) then
  some (x4.2.1, (b.1.length : Int), 0)
  else none)) (0, (r3, 0))
 else none
 else none)) (
 bif (inb (b.1.length : Int) (b.1.length + 1) && decide ((b.1.length : Int) = (b.1.length : Int))) then
 bif decide (((b.1.take ((b.1.length : Int).toNat)).length + 1) * 40 ≤ LIM) then
 (F86 ((b.1.take ((b.1.length : Int).toNat)) ++ ([(b.2.1, (b.2.2.1, b.2.2.2))]))).bind fun r3 =>
 lfp (fun (rec4 : (Int × (List (Int × (Int × List Int)) × Nat)) → Option ((List (Int × (Int × List Int))) × Int × Int)) (x4 : Int × (List (Int × (Int × List Int)) × Nat)) =>
  bif decide (x4.1 < (r3.length : Int)) then (
  bif inb x4.1 x4.2.1.length then
  (both (
  (F60 (((rd (.pair (.int .u64) (.pair (.int .i64) (.slice 5 (.int .u8)))) x4.2.1 x4.1).2).2)).bind fun r5 =>
  bif inb x4.1 x4.2.1.length then
  bif decide (x4.1.toNat = x4.2.2) then
  rec4 ((IntKind.wrap .i64 (x4.1 + 1)), ((x4.2.1.set x4.1.toNat ((rd (.pair (.int .u64) (.pair (.int .i64) (.slice 5 (.int .u8)))) x4.2.1 x4.1).1, (((rd (.pair (.int .u64) (.pair (.int .i64) (.slice 5 (.int .u8)))) x4.2.1 x4.1).2).1, r5))), x4.2.2 + 1))
  else none
  else none) (
  (fun o => both o o) (
  (F60 (((rd (.pair (.int .u64) (.pair (.int .i64) (.slice 5 (.int .u8)))) x4.2.1 x4.1).2).2)).bind fun r5 =>
  bif inb x4.1 x4.2.1.length then
  bif decide (x4.1.toNat = x4.2.2) then
  rec4 ((IntKind.wrap .i64 (x4.1 + 1)), ((x4.2.1.set x4.1.toNat ((rd (.pair (.int .u64) (.pair (.int .i64) (.slice 5 (.int .u8)))) x4.2.1 x4.1).1, (((rd (.pair (.int .u64) (.pair (.int .i64) (.slice 5 (.int .u8)))) x4.2.1 x4.1).2).1, r5))), x4.2.2 + 1))
  else none
  else none)))
  else none)
  else (
  bif decide (x4.2.1.length ≤ x4.2.2) then
  some (x4.2.1, (b.1.length : Int), 0)
  else none)) (0, (r3, 0))
 else none
 else none))))))
 else (
 (F86 b.1).bind fun r6 =>
 lfp (fun (rec7 : (Int × (List (Int × (Int × List Int)) × Nat)) → Option ((List (Int × (Int × List Int))) × Int × Int)) (x7 : Int × (List (Int × (Int × List Int)) × Nat)) =>
  bif decide (x7.1 < (r6.length : Int)) then (
  bif inb x7.1 x7.2.1.length then
  (both (
  (F60 (((rd (.pair (.int .u64) (.pair (.int .i64) (.slice 5 (.int .u8)))) x7.2.1 x7.1).2).2)).bind fun r8 =>
  bif inb x7.1 x7.2.1.length then
  bif decide (x7.1.toNat = x7.2.2) then
  rec7 ((IntKind.wrap .i64 (x7.1 + 1)), ((x7.2.1.set x7.1.toNat ((rd (.pair (.int .u64) (.pair (.int .i64) (.slice 5 (.int .u8)))) x7.2.1 x7.1).1, (((rd (.pair (.int .u64) (.pair (.int .i64) (.slice 5 (.int .u8)))) x7.2.1 x7.1).2).1, r8))), x7.2.2 + 1))
  else none
  else none) (
  (fun o => both o o) (
  (F60 (((rd (.pair (.int .u64) (.pair (.int .i64) (.slice 5 (.int .u8)))) x7.2.1 x7.1).2).2)).bind fun r8 =>
  bif inb x7.1 x7.2.1.length then
  bif decide (x7.1.toNat = x7.2.2) then
  rec7 ((IntKind.wrap .i64 (x7.1 + 1)), ((x7.2.1.set x7.1.toNat ((rd (.pair (.int .u64) (.pair (.int .i64) (.slice 5 (.int .u8)))) x7.2.1 x7.1).1, (((rd (.pair (.int .u64) (.pair (.int .i64) (.slice 5 (.int .u8)))) x7.2.1 x7.1).2).1, r8))), x7.2.2 + 1))
  else none
  else none)))
  else none)
  else (
  bif decide (x7.2.1.length ≤ x7.2.2) then
  some (x7.2.1, (mget (.pair (.int .u64) (.pair (.int .i64) .str)) (.int .i64) 0 r1.1 (r2.1, (r2.2.1, r2.2.2))), 0)
  else none)) (0, (r6, 0)))))
theorem ev51 (b : List (Int × (Int × List Int)) × (Int × (Int × List Int))) : evF C85 H51 Try.f51 (encs [.aggA (.slice 39 (.pair (.int .u64) (.pair (.int .i64) (.slice 5 (.int .u8))))), .aggA (.pair (.int .u64) (.pair (.int .i64) (.slice 5 (.int .u8))))] b) (RT.dec (.tup [.agg [.fresh 39 (.pair (.int .u64) (.pair (.int .i64) (.slice 5 (.int .u8))))], .leaf (.int .i64), .leaf (.int .i64)])) = F51 b := by kernel_rfl
noncomputable def C51 : Ctx := Ctx.addA C85 51 [.aggA (.slice 39 (.pair (.int .u64) (.pair (.int .i64) (.slice 5 (.int .u8))))), .aggA (.pair (.int .u64) (.pair (.int .i64) (.slice 5 (.int .u8))))] (.tup [.agg [.fresh 39 (.pair (.int .u64) (.pair (.int .i64) (.slice 5 (.int .u8))))], .leaf (.int .i64), .leaf (.int .i64)]) F51
theorem s51 : C51.Sound := Ctx.Sound.addA (C := C85) mixed s85 Try.func51 ev51
/-! damson/arena.Root -/
def H18 : Nat → Head := fun _ => ⟨[], []⟩
noncomputable def F18 (b : List (Int × (Int × List Int)) × Int × List Int) : Option ((List (Int × (Int × List Int))) × Int × Int) :=
 (F51 (b.1, (b.2.1, ((-1), b.2.2)))).bind fun r1 =>
 some (r1.1, r1.2.1, r1.2.2)
theorem ev18 (b : List (Int × (Int × List Int)) × Int × List Int) : evF C51 H18 Try.f18 (encs [.aggA (.slice 39 (.pair (.int .u64) (.pair (.int .i64) (.slice 5 (.int .u8))))), .one (.int .u64), .oneA (.slice 5 (.int .u8))] b) (RT.dec (.tup [.agg [.fresh 39 (.pair (.int .u64) (.pair (.int .i64) (.slice 5 (.int .u8))))], .leaf (.int .i64), .leaf (.int .i64)])) = F18 b := by kernel_rfl
noncomputable def C18 : Ctx := Ctx.addA C51 18 [.aggA (.slice 39 (.pair (.int .u64) (.pair (.int .i64) (.slice 5 (.int .u8))))), .one (.int .u64), .oneA (.slice 5 (.int .u8))] (.tup [.agg [.fresh 39 (.pair (.int .u64) (.pair (.int .i64) (.slice 5 (.int .u8))))], .leaf (.int .i64), .leaf (.int .i64)]) F18
theorem s18 : C18.Sound := Ctx.Sound.addA (C := C51) mixed s51 Try.func18 ev18
/-! damson/damsonlaw05.live -/
def H14 : Nat → Head := fun _ => ⟨[], []⟩
noncomputable def F14 (b : Unit) : Option Bool :=
 (F18 ([], 7, [])).bind fun r1 =>
 (F18 (r1.1, 7, [])).bind fun r2 =>
 some (bif (bif (bif (bif decide (r1.2.2 = 0) then decide (r2.2.2 = 0) else false) then decide (r1.2.1 = 0) else false) then decide (r2.2.1 = 0) else false) then decide ((r2.1.length : Int) = 1) else false)
theorem ev14 (b : Unit) : evF C18 H14 Try.f14 (encs [] b) (RT.dec (.one (.leaf (.bool)))) = F14 b := by kernel_rfl
noncomputable def C14 : Ctx := Ctx.add C18 14 [] (.one (.leaf (.bool))) F14
theorem s14 : C14.Sound := Ctx.Sound.add (C := C18) mixed s18 Try.func14 ev14
/-! damson/damsonref05.Few -/
def H15 : Nat → Head
  | 2 => ⟨[.data 2 .bool, .data 8 (.int .i64)], [4096]⟩
  | _ => ⟨[], []⟩
noncomputable def F15 (b : List (Int × (Int × List Int))) : Option Bool :=
 lfp (fun (rec1 : (Bool × Int) → Option Bool) (x1 : Bool × Int) =>
  bif decide (x1.2 < (b.length : Int)) then (
  bif inb x1.2 b.length then
  bif decide (200 < ((((rd (.pair (.int .u64) (.pair (.int .i64) (.slice 5 (.int .u8)))) b x1.2).2).2).length : Int)) then (
  some false)
  else (
  rec1 (x1.1, (IntKind.wrap .i64 (x1.2 + 1))))
  else none)
  else (
  some (decide ((b.length : Int) ≤ 80)))) (false, 0)
theorem ev15 (b : List (Int × (Int × List Int))) : evF C14 H15 Try.f15 (encs [.agg (.slice 39 (.pair (.int .u64) (.pair (.int .i64) (.slice 5 (.int .u8)))))] b) (RT.dec (.one (.leaf (.bool)))) = F15 b := by kernel_rfl
noncomputable def C15 : Ctx := Ctx.add C14 15 [.agg (.slice 39 (.pair (.int .u64) (.pair (.int .i64) (.slice 5 (.int .u8)))))] (.one (.leaf (.bool))) F15
theorem s15 : C15.Sound := Ctx.Sound.add (C := C14) mixed s14 Try.func15 ev15
/-! damson/damsonlaw05.few -/
def H16 : Nat → Head
  | 2 => ⟨[.data 2 .bool, .data 7 (.int .i64)], []⟩
  | _ => ⟨[], []⟩
noncomputable def F16 (b : List (List Int)) : Option Bool :=
 lfp (fun (rec1 : (Bool × Int) → Option Bool) (x1 : Bool × Int) =>
  bif decide (x1.2 < (b.length : Int)) then (
  bif inb x1.2 b.length then
  bif (bif (bif decide (200 < ((rd (.slice 5 (.int .u8)) b x1.2).length : Int)) then decide (((rd (.slice 5 (.int .u8)) b x1.2).length : Int) ≤ 4096) else false) then true else decide (4100 < ((rd (.slice 5 (.int .u8)) b x1.2).length : Int))) then (
  some false)
  else (
  rec1 (x1.1, (IntKind.wrap .i64 (x1.2 + 1))))
  else none)
  else (
  some (decide ((b.length : Int) ≤ 12)))) (false, 0)
theorem ev16 (b : List (List Int)) : evF C15 H16 Try.f16 (encs [.one (.slice 26 (.slice 5 (.int .u8)))] b) (RT.dec (.one (.leaf (.bool)))) = F16 b := by kernel_rfl
noncomputable def C16 : Ctx := Ctx.add C15 16 [.one (.slice 26 (.slice 5 (.int .u8)))] (.one (.leaf (.bool))) F16
theorem s16 : C16.Sound := Ctx.Sound.add (C := C15) mixed s15 Try.func16 ev16
/-! damson/damsonref01.SameBytes -/
def H50 : Nat → Head := fun _ => ⟨[], []⟩
noncomputable def F50 (b : List Int × List Int) : Option Bool :=
 some (decide (b.1 = b.2))
theorem ev50 (b : List Int × List Int) : evF C16 H50 Try.f50 (encs [.one (.slice 5 (.int .u8)), .one (.slice 5 (.int .u8))] b) (RT.dec (.one (.leaf (.bool)))) = F50 b := by kernel_rfl
noncomputable def C50 : Ctx := Ctx.add C16 50 [.one (.slice 5 (.int .u8)), .one (.slice 5 (.int .u8))] (.one (.leaf (.bool))) F50
theorem s50 : C50.Sound := Ctx.Sound.add (C := C16) mixed s16 Try.func50 ev50
/-! damson/arena.Next -/
def H20 : Nat → Head := fun _ => ⟨[], []⟩
noncomputable def F20 (b : List (Int × (Int × List Int)) × Int × List Int) : Option ((List (Int × (Int × List Int))) × Int × Int) :=
 bif decide (b.2.1 < 0) then (
 some (([] : List (Int × (Int × List Int))), 0, 1))
 else (
 (F51 (b.1, (0, (b.2.1, b.2.2)))).bind fun r1 =>
 some (r1.1, r1.2.1, r1.2.2))
theorem ev20 (b : List (Int × (Int × List Int)) × Int × List Int) : evF C50 H20 Try.f20 (encs [.aggA (.slice 39 (.pair (.int .u64) (.pair (.int .i64) (.slice 5 (.int .u8))))), .one (.int .i64), .oneA (.slice 5 (.int .u8))] b) (RT.dec (.tup [.agg [.fresh 39 (.pair (.int .u64) (.pair (.int .i64) (.slice 5 (.int .u8))))], .leaf (.int .i64), .leaf (.int .i64)])) = F20 b := by kernel_rfl
noncomputable def C20 : Ctx := Ctx.addA C50 20 [.aggA (.slice 39 (.pair (.int .u64) (.pair (.int .i64) (.slice 5 (.int .u8))))), .one (.int .i64), .oneA (.slice 5 (.int .u8))] (.tup [.agg [.fresh 39 (.pair (.int .u64) (.pair (.int .i64) (.slice 5 (.int .u8))))], .leaf (.int .i64), .leaf (.int .i64)]) F20
theorem s20 : C20.Sound := Ctx.Sound.addA (C := C50) mixed s50 Try.func20 ev20
/-! damson/arena.Check -/
def H23 : Nat → Head := fun _ => ⟨[], []⟩
noncomputable def F23 (b : List (Int × (Int × List Int))) : Option Int :=
 (F54 b).bind fun r1 =>
 some r1.2
theorem ev23 (b : List (Int × (Int × List Int))) : evF C20 H23 Try.f23 (encs [.agg (.slice 39 (.pair (.int .u64) (.pair (.int .i64) (.slice 5 (.int .u8)))))] b) (RT.dec (.one (.leaf (.int .i64)))) = F23 b := by kernel_rfl
noncomputable def C23 : Ctx := Ctx.add C20 23 [.agg (.slice 39 (.pair (.int .u64) (.pair (.int .i64) (.slice 5 (.int .u8)))))] (.one (.leaf (.int .i64))) F23
theorem s23 : C23.Sound := Ctx.Sound.add (C := C20) mixed s20 Try.func23 ev23
/-! bytes.Equal -/
def H87 : Nat → Head := fun _ => ⟨[], []⟩
noncomputable def F87 (b : List Int × List Int) : Option Bool :=
 some (decide (b.1 = b.2))
theorem ev87 (b : List Int × List Int) : evF C23 H87 Try.f87 (encs [.one (.slice 5 (.int .u8)), .one (.slice 5 (.int .u8))] b) (RT.dec (.one (.leaf (.bool)))) = F87 b := by kernel_rfl
noncomputable def C87 : Ctx := Ctx.add C23 87 [.one (.slice 5 (.int .u8)), .one (.slice 5 (.int .u8))] (.one (.leaf (.bool))) F87
theorem s87 : C87.Sound := Ctx.Sound.add (C := C23) mixed s23 Try.func87 ev87
/-! damson/arena.one -/
def H57 : Nat → Head := fun _ => ⟨[], []⟩
noncomputable def F57 (b : (Int × (Int × List Int)) × (Int × (Int × List Int))) : Option Bool :=
 bif ((bif decide (b.1.1 = b.2.1) then decide (b.1.2.1 = b.2.2.1) else false) == true) then (
 (F87 (b.1.2.2, b.2.2.2)).bind fun r1 =>
 some r1)
 else (
 some false)
theorem ev57 (b : (Int × (Int × List Int)) × (Int × (Int × List Int))) : evF C87 H57 Try.f57 (encs [.agg (.pair (.int .u64) (.pair (.int .i64) (.slice 5 (.int .u8)))), .agg (.pair (.int .u64) (.pair (.int .i64) (.slice 5 (.int .u8))))] b) (RT.dec (.one (.leaf (.bool)))) = F57 b := by kernel_rfl
noncomputable def C57 : Ctx := Ctx.add C87 57 [.agg (.pair (.int .u64) (.pair (.int .i64) (.slice 5 (.int .u8)))), .agg (.pair (.int .u64) (.pair (.int .i64) (.slice 5 (.int .u8))))] (.one (.leaf (.bool))) F57
theorem s57 : C57.Sound := Ctx.Sound.add (C := C87) mixed s87 Try.func57 ev57
/-! slices.EqualFunc[[]damson/api.Term,[]damson/api.Term,damson/api.Term,damson/api.Term] -/
def H56057 : Nat → Head
  | 4 => ⟨[.data 6 .bool, .data 17 (.int .i64)], []⟩
  | _ => ⟨[], []⟩
noncomputable def F56057 (b : List (Int × (Int × List Int)) × List (Int × (Int × List Int)) × Unit) : Option Bool :=
 bif (!decide ((b.1.length : Int) = (b.2.1.length : Int))) then (
 some false)
 else (
 lfp (fun (rec1 : (Bool × Int) → Option Bool) (x1 : Bool × Int) =>
  bif decide (x1.2 < (b.1.length : Int)) then (
  bif inb x1.2 b.1.length then
  bif inb x1.2 b.2.1.length then
  (F57 (((rd (.pair (.int .u64) (.pair (.int .i64) (.slice 5 (.int .u8)))) b.1 x1.2).1, (((rd (.pair (.int .u64) (.pair (.int .i64) (.slice 5 (.int .u8)))) b.1 x1.2).2).1, ((rd (.pair (.int .u64) (.pair (.int .i64) (.slice 5 (.int .u8)))) b.1 x1.2).2).2)), ((rd (.pair (.int .u64) (.pair (.int .i64) (.slice 5 (.int .u8)))) b.2.1 x1.2).1, (((rd (.pair (.int .u64) (.pair (.int .i64) (.slice 5 (.int .u8)))) b.2.1 x1.2).2).1, ((rd (.pair (.int .u64) (.pair (.int .i64) (.slice 5 (.int .u8)))) b.2.1 x1.2).2).2)))).bind fun r2 =>
  bif (!r2) then (
  some false)
  else (
  rec1 (x1.1, (IntKind.wrap .i64 (x1.2 + 1))))
  else none
  else none)
  else (
  some true)) (false, 0))
theorem ev56057 (b : List (Int × (Int × List Int)) × List (Int × (Int × List Int)) × Unit) : evF C57 H56057 Try.f56 (encs [.one (.slice 39 (.pair (.int .u64) (.pair (.int .i64) (.slice 5 (.int .u8))))), .one (.slice 39 (.pair (.int .u64) (.pair (.int .i64) (.slice 5 (.int .u8))))), .fn 57] b) (RT.dec (.one (.leaf (.bool)))) = F56057 b := by kernel_rfl
noncomputable def C56057 : Ctx := Ctx.add C57 56 [.one (.slice 39 (.pair (.int .u64) (.pair (.int .i64) (.slice 5 (.int .u8))))), .one (.slice 39 (.pair (.int .u64) (.pair (.int .i64) (.slice 5 (.int .u8))))), .fn 57] (.one (.leaf (.bool))) F56057
theorem s56057 : C56057.Sound := Ctx.Sound.add (C := C57) mixed s57 Try.func56 ev56057
/-! damson/arena.Same -/
def H25 : Nat → Head := fun _ => ⟨[], []⟩
noncomputable def F25 (b : List (Int × (Int × List Int)) × List (Int × (Int × List Int))) : Option Bool :=
 (F56057 (b.1, b.2, ())).bind fun r1 =>
 some r1
theorem ev25 (b : List (Int × (Int × List Int)) × List (Int × (Int × List Int))) : evF C56057 H25 Try.f25 (encs [.agg (.slice 39 (.pair (.int .u64) (.pair (.int .i64) (.slice 5 (.int .u8))))), .agg (.slice 39 (.pair (.int .u64) (.pair (.int .i64) (.slice 5 (.int .u8)))))] b) (RT.dec (.one (.leaf (.bool)))) = F25 b := by kernel_rfl
noncomputable def C25 : Ctx := Ctx.add C56057 25 [.agg (.slice 39 (.pair (.int .u64) (.pair (.int .i64) (.slice 5 (.int .u8))))), .agg (.slice 39 (.pair (.int .u64) (.pair (.int .i64) (.slice 5 (.int .u8)))))] (.one (.leaf (.bool))) F25
theorem s25 : C25.Sound := Ctx.Sound.add (C := C56057) mixed s56057 Try.func25 ev25
/-! damson/damsonlaw05.made -/
def H26 : Nat → Head
  | 3 => ⟨[.data 11 (.int .i64), .data 12 (.int .i64), .data 25 (.int .i64), .box 16384 (.slice 39 (.pair (.int .u64) (.pair (.int .i64) (.slice 5 (.int .u8)))))], [77824, 32768]⟩
  | 3000000 => ⟨[], [16384]⟩
  | 3000001 => ⟨[], [16384]⟩
  | 3000002 => ⟨[], [16384]⟩
  | 3000003 => ⟨[], [16384]⟩
  | 3000004 => ⟨[], [16384]⟩
  | 3000005 => ⟨[], [16384]⟩
  | 3000006 => ⟨[], [16384]⟩
  | 3000007 => ⟨[], [16384]⟩
  | 3000008 => ⟨[], [16384]⟩
  | _ => ⟨[], []⟩
noncomputable def F26 (b : List (Int × (Int × List Int)) × Int × List Int × List (List Int)) : Option ((List (Int × (Int × List Int))) × Int × Bool) :=
 (F18 (b.1, b.2.1, b.2.2.1)).bind fun r1 =>
 lfp (fun (rec2 : (Int × Int × Int × List (Int × (Int × List Int))) → Option ((List (Int × (Int × List Int))) × Int × Bool)) (x2 : Int × Int × Int × List (Int × (Int × List Int))) =>
  bif decide (x2.2.2.1 < (b.2.2.2.length : Int)) then (
  bif inb x2.2.2.1 b.2.2.2.length then
  bif decide (x2.2.1 = 0) then (
  (F20 (x2.2.2.2, x2.1, (rd (.slice 5 (.int .u8)) b.2.2.2 x2.2.2.1))).bind fun r3 =>
  rec2 (r3.2.1, r3.2.2, (IntKind.wrap .i64 (x2.2.2.1 + 1)), r3.1))
  else (
  rec2 (x2.1, x2.2.1, (IntKind.wrap .i64 (x2.2.2.1 + 1)), x2.2.2.2))
  else none)
  else (
  some (x2.2.2.2, x2.1, decide (x2.2.1 = 0)))) (r1.2.1, r1.2.2, 0, r1.1)
theorem ev26 (b : List (Int × (Int × List Int)) × Int × List Int × List (List Int)) : evF C25 H26 Try.f26 (encs [.aggA (.slice 39 (.pair (.int .u64) (.pair (.int .i64) (.slice 5 (.int .u8))))), .one (.int .u64), .oneA (.slice 5 (.int .u8)), .oneA (.slice 26 (.slice 5 (.int .u8)))] b) (RT.dec (.tup [.agg [.sl 39 (.pair (.int .u64) (.pair (.int .i64) (.slice 5 (.int .u8))))], .leaf (.int .i64), .leaf (.bool)])) = F26 b := by kernel_rfl
noncomputable def C26 : Ctx := Ctx.addA C25 26 [.aggA (.slice 39 (.pair (.int .u64) (.pair (.int .i64) (.slice 5 (.int .u8))))), .one (.int .u64), .oneA (.slice 5 (.int .u8)), .oneA (.slice 26 (.slice 5 (.int .u8)))] (.tup [.agg [.sl 39 (.pair (.int .u64) (.pair (.int .i64) (.slice 5 (.int .u8))))], .leaf (.int .i64), .leaf (.bool)]) F26
theorem s26 : C26.Sound := Ctx.Sound.addA (C := C25) mixed s25 Try.func26 ev26
/-! damson/damsonref03.SameTexts -/
def H27 : Nat → Head
  | 4 => ⟨[.data 4 .bool, .data 13 (.int .i64)], []⟩
  | 5000006 => ⟨[], [0, 0, 0, 0, 3, 3, 4, 4, 0, 0, 0, 0, 48, 48, 64, 64, 136, 136, 256, 256]⟩
  | _ => ⟨[], []⟩
noncomputable def F27 (b : List (List Int) × List (List Int)) : Option Bool :=
 bif (!decide ((b.1.length : Int) = (b.2.length : Int))) then (
 some false)
 else (
 lfp (fun (rec1 : (Bool × Int) → Option Bool) (x1 : Bool × Int) =>
  bif decide (x1.2 < (b.1.length : Int)) then (
  bif inb x1.2 b.1.length then
  bif inb x1.2 b.2.length then
  (F50 ((rd (.slice 5 (.int .u8)) b.1 x1.2), (rd (.slice 5 (.int .u8)) b.2 x1.2))).bind fun r2 =>
  bif (!r2) then (
  some false)
  else (
  rec1 (x1.1, (IntKind.wrap .i64 (x1.2 + 1))))
  else none
  else none)
  else (
  some true)) (false, 0))
theorem ev27 (b : List (List Int) × List (List Int)) : evF C26 H27 Try.f27 (encs [.one (.slice 26 (.slice 5 (.int .u8))), .one (.slice 26 (.slice 5 (.int .u8)))] b) (RT.dec (.one (.leaf (.bool)))) = F27 b := by kernel_rfl
noncomputable def C27 : Ctx := Ctx.add C26 27 [.one (.slice 26 (.slice 5 (.int .u8))), .one (.slice 26 (.slice 5 (.int .u8)))] (.one (.leaf (.bool))) F27
theorem s27 : C27.Sound := Ctx.Sound.add (C := C26) mixed s26 Try.func27 ev27
/-! slices.IndexFunc[[][]byte,[]byte] -/
def H88058 : Nat → Head
  | 2 => ⟨[.data 4 (.int .i64), .data 8 (.int .i64)], []⟩
  | _ => ⟨[], []⟩
noncomputable def F88058 (b : List (List Int) × Unit) : Option Int :=
 lfp (fun (rec1 : (Int × Int) → Option Int) (x1 : Int × Int) =>
  bif decide (x1.2 < (b.1.length : Int)) then (
  bif inb x1.2 b.1.length then
  (F58 (rd (.slice 5 (.int .u8)) b.1 x1.2)).bind fun r2 =>
  bif r2 then (
  some x1.2)
  else (
  rec1 (x1.1, (IntKind.wrap .i64 (x1.2 + 1))))
  else none)
  else (
  some (-1))) (0, 0)
theorem ev88058 (b : List (List Int) × Unit) : evF C27 H88058 Try.f88 (encs [.one (.slice 26 (.slice 5 (.int .u8))), .fn 58] b) (RT.dec (.one (.leaf (.int .i64)))) = F88058 b := by kernel_rfl
noncomputable def C88058 : Ctx := Ctx.add C27 88 [.one (.slice 26 (.slice 5 (.int .u8))), .fn 58] (.one (.leaf (.int .i64))) F88058
theorem s88058 : C88058.Sound := Ctx.Sound.add (C := C27) mixed s27 Try.func88 ev88058
/-! slices.ContainsFunc[[][]byte,[]byte] -/
def H59058 : Nat → Head := fun _ => ⟨[], []⟩
noncomputable def F59058 (b : List (List Int) × Unit) : Option Bool :=
 (F88058 (b.1, ())).bind fun r1 =>
 some (decide (0 ≤ r1))
theorem ev59058 (b : List (List Int) × Unit) : evF C88058 H59058 Try.f59 (encs [.one (.slice 26 (.slice 5 (.int .u8))), .fn 58] b) (RT.dec (.one (.leaf (.bool)))) = F59058 b := by kernel_rfl
noncomputable def C59058 : Ctx := Ctx.add C88058 59 [.one (.slice 26 (.slice 5 (.int .u8))), .fn 58] (.one (.leaf (.bool))) F59058
theorem s59058 : C59058.Sound := Ctx.Sound.add (C := C88058) mixed s88058 Try.func59 ev59058
/-! damson/arena.Find -/
def H28 : Nat → Head
  | 9 => ⟨[.data 13 (.int .i64), .data 14 .bool, .data 44 (.int .i64)], [16384]⟩
  | _ => ⟨[], []⟩
noncomputable def F28 (b : List (Int × (Int × List Int)) × Int × List Int × List (List Int)) : Option (Int × Int) :=
 (F54 b.1).bind fun r1 =>
 bif (!decide (r1.2 = 0)) then (
 some (0, r1.2))
 else (
 (F58 b.2.2.1).bind fun r2 =>
 bif (r2 == false) then (
 (F59058 (b.2.2.2, ())).bind fun r3 =>
 bif r3 then (
 some (0, 4))
 else (
 lfp (fun (rec4 : (Int × Bool × Int) → Option (Int × Int)) (x4 : Int × Bool × Int) =>
  bif decide (x4.2.2 < (b.2.2.2.length : Int)) then (
  bif inb x4.2.2 b.2.2.2.length then
  bif (!x4.2.1) then (
  bif (!x4.2.1) then (
  some (0, 5))
  else (
  some (x4.1, 0)))
  else (
  rec4 ((mget (.pair (.int .u64) (.pair (.int .i64) .str)) (.int .i64) 0 r1.1 (0, (x4.1, (rd (.slice 5 (.int .u8)) b.2.2.2 x4.2.2)))), (mhas (.pair (.int .u64) (.pair (.int .i64) .str)) (.int .i64) r1.1 (0, (x4.1, (rd (.slice 5 (.int .u8)) b.2.2.2 x4.2.2)))), (IntKind.wrap .i64 (x4.2.2 + 1))))
  else none)
  else (
  bif (!x4.2.1) then (
  some (0, 5))
  else (
  some (x4.1, 0)))) ((mget (.pair (.int .u64) (.pair (.int .i64) .str)) (.int .i64) 0 r1.1 (b.2.1, ((-1), b.2.2.1))), (mhas (.pair (.int .u64) (.pair (.int .i64) .str)) (.int .i64) r1.1 (b.2.1, ((-1), b.2.2.1))), 0)))
 else (
 some (0, 4)))
theorem ev28 (b : List (Int × (Int × List Int)) × Int × List Int × List (List Int)) : evF C59058 H28 Try.f28 (encs [.agg (.slice 39 (.pair (.int .u64) (.pair (.int .i64) (.slice 5 (.int .u8))))), .one (.int .u64), .one (.slice 5 (.int .u8)), .one (.slice 26 (.slice 5 (.int .u8)))] b) (RT.dec (.tup [.leaf (.int .i64), .leaf (.int .i64)])) = F28 b := by kernel_rfl
noncomputable def C28 : Ctx := Ctx.add C59058 28 [.agg (.slice 39 (.pair (.int .u64) (.pair (.int .i64) (.slice 5 (.int .u8))))), .one (.int .u64), .one (.slice 5 (.int .u8)), .one (.slice 26 (.slice 5 (.int .u8)))] (.tup [.leaf (.int .i64), .leaf (.int .i64)]) F28
theorem s28 : C28.Sound := Ctx.Sound.add (C := C59058) mixed s59058 Try.func28 ev28
/-! slices.Reverse[[][]byte,[]byte]: carried out where it is called -/
def H61 : Nat → Head
  | 1 => ⟨[.data 2 (.int .i64), .data 3 (.int .i64), .rowk 22532 26 (.slice 5 (.int .u8))], [9000061, 8192]⟩
  | 5000003 => ⟨[], [0, 0, 0, 0, 0, 0, 0, 0, 0, 0, 0, 0, 48, 48, 64, 64, 0, 0, 0, 0, 768, 768, 1024, 1024, 2291, 3, 6387, 4224, 16383, 12, 32767, 18432]⟩
  | _ => ⟨[], []⟩
noncomputable def C61 : Ctx := Ctx.addI C28 61 H61 9000061 Try.f61
theorem s61 : C61.Sound := Ctx.Sound.addI (C := C28) mixed s28 Try.func61
/-! damson/arena.Path -/
def H30 : Nat → Head
  | 4 => ⟨[.data 1 (.int .i64), .data 4 (.int .u64), .row 5 22532 26 (.slice 5 (.int .u8))], [8192]⟩
  | _ => ⟨[], []⟩
noncomputable def F30 (b : List (Int × (Int × List Int)) × Int) : Option (Int × List (List Int) × Int) :=
 (F54 b.1).bind fun r1 =>
 bif (bif (bif (!decide (r1.2 = 0)) then true else decide (b.2 < 0)) then true else decide ((b.1.length : Int) ≤ b.2)) then (
 some (0, ([] : List (List Int)), 1))
 else (
 lfp (fun (rec2 : (Int × Int × List (List Int)) → Option (Int × List (List Int) × Int)) (x2 : Int × Int × List (List Int)) =>
  bif (!decide (x2.1 = (-1))) then (
  bif inb x2.1 b.1.length then
  bif inb x2.1 b.1.length then
  (F60 (((rd (.pair (.int .u64) (.pair (.int .i64) (.slice 5 (.int .u8)))) b.1 x2.1).2).2)).bind fun r3 =>
  bif decide ((x2.2.2.length + 1) * 24 ≤ LIM) then
  bif inb x2.1 b.1.length then
  rec2 (((rd (.pair (.int .u64) (.pair (.int .i64) (.slice 5 (.int .u8)))) b.1 x2.1).2).1, (rd (.pair (.int .u64) (.pair (.int .i64) (.slice 5 (.int .u8)))) b.1 x2.1).1, (x2.2.2 ++ ([r3])))
  else none
  else none
  else none
  else none)
  else (
  lfp (fun (rec4 : (Int × Int × List (List Int)) → Option (Int × List (List Int) × Int)) (x4 : Int × Int × List (List Int)) =>
   bif decide (x4.1 < x4.2.1) then (
   bif inb x4.2.1 x4.2.2.length then
   bif inb x4.1 x4.2.2.length then
   (fun o => both o o) (
   bif inb x4.1 x4.2.2.length then
   bif inb x4.2.1 (x4.2.2.set x4.1.toNat (rd (.slice 5 (.int .u8)) x4.2.2 x4.2.1)).length then
   rec4 ((IntKind.wrap .i64 (x4.1 + 1)), (IntKind.wrap .i64 (x4.2.1 - 1)), ((x4.2.2.set x4.1.toNat (rd (.slice 5 (.int .u8)) x4.2.2 x4.2.1)).set x4.2.1.toNat (rd (.slice 5 (.int .u8)) x4.2.2 x4.1)))
   else none
   else none)
   else none
   else none)
   else (
   some (x2.2.1, x4.2.2, 0))) (0, (IntKind.wrap .i64 ((x2.2.2.length : Int) - 1)), x2.2.2))) (b.2, 0, ([] : List (List Int))))
theorem ev30 (b : List (Int × (Int × List Int)) × Int) : evF C61 H30 Try.f30 (encs [.aggA (.slice 39 (.pair (.int .u64) (.pair (.int .i64) (.slice 5 (.int .u8))))), .one (.int .i64)] b) (RT.dec (.tup [.leaf (.int .u64), .leaf (.fresh 26 (.slice 5 (.int .u8))), .leaf (.int .i64)])) = F30 b := by kernel_rfl
noncomputable def C30 : Ctx := Ctx.addA C61 30 [.aggA (.slice 39 (.pair (.int .u64) (.pair (.int .i64) (.slice 5 (.int .u8))))), .one (.int .i64)] (.tup [.leaf (.int .u64), .leaf (.fresh 26 (.slice 5 (.int .u8))), .leaf (.int .i64)]) F30
theorem s30 : C30.Sound := Ctx.Sound.addA (C := C61) mixed s61 Try.func30 ev30
/-! damson/damsonlaw05.ArenaBack -/
def H6 : Nat → Head
  | 1000000 => ⟨[], [3]⟩
  | 1000011 => ⟨[], [12]⟩
  | 1000014 => ⟨[], [15]⟩
  | 5000010 => ⟨[], [0, 0, 0, 0, 0, 0, 4, 4, 8, 8, 0, 0, 32, 32, 83, 83, 128, 128, 256, 256, 256, 256, 1023, 512, 4095, 1024]⟩
  | 5000011 => ⟨[], [0, 0, 0, 0, 0, 0, 4, 4, 8, 8, 0, 0, 32, 32, 83, 83, 128, 128, 256, 256, 256, 256, 256, 256, 0, 0, 5119, 4608, 14335, 1024, 32767, 2048]⟩
  | 5000019 => ⟨[], [0, 0, 1, 1, 2, 2, 4, 4, 4, 4, 28, 28, 36, 36, 68, 64, 128, 128, 128, 128, 896, 896, 1152, 1152, 3072, 2048, 4096, 4096, 12288, 12288, 20480, 20480, 36864, 32768, 65536, 65536, 65536, 65536, 458752, 458752, 589824, 589824, 1114112, 1048576, 2097152, 2097152, 2097152, 2097152, 2097152, 2097152, 18874368, 18874368, 44040192, 44040192, 73400320, 73400320, 136314880, 136314880, 402653184, 268435456, 536870912, 536870912, 1610612736, 1610612736, 2684354560, 2684354560, 536870912, 536870912, 9126805504, 9126805504, 17716740096, 17716740096, 39191576576, 39191576576, 69256347648, 69256347648, 137975824384, 137438953472, 274877906944, 274877906944, 824633720832, 824633720832, 274877906944, 274877906944, 2473901162496, 2473901162496, 4672924418048, 4672924418048, 10170482556928, 10170482556928, 17867063951360, 17867063951360, 274877906944, 274877906944, 105827994173440, 105827994173440, 141012366262272, 141012366262272, 562949953421311, 281474976710656]⟩
  | 4000000 => ⟨[], [115, 137]⟩
  | _ => ⟨[], []⟩
noncomputable def F6 (b : List (Int × (Int × List Int)) × Int × List Int) : Option Bool :=
 (F14 ()).bind fun r1 =>
 bif (!r1) then (
 some false)
 else (
 (F15 b.1).bind fun r2 =>
 bif ((!r2) == false) then (
 (F16 ([b.2.2])).bind fun r3 =>
 bif (!r3) then (
 some true)
 else (
 (F30 (b.1, b.2.1)).bind fun r4 =>
 bif (!decide (r4.2.2 = 0)) then (
 some (decide ((r4.2.1.length : Int) = 0)))
 else (
 bif decide ((r4.2.1.length : Int) = 0) then (
 some false)
 else (
 bif inb 0 r4.2.1.length then
 bif inb 1 (r4.2.1.length + 1) then
 (F28 (b.1, r4.1, (rd (.slice 5 (.int .u8)) r4.2.1 0), r4.2.1.drop ((1 : Int).toNat))).bind fun r5 =>
 bif inb 0 r4.2.1.length then
 bif inb 1 (r4.2.1.length + 1) then
 (both (
 (fun o => both o o) (
 (F26 (b.1, r4.1, (rd (.slice 5 (.int .u8)) r4.2.1 0), r4.2.1.drop ((1 : Int).toNat))).bind fun r6 =>
 bif ((bif (bif (bif (!decide (r5.2 = 0)) then true else (!decide (r5.1 = b.2.1))) then true else (!r6.2.2)) then true else (!decide (r6.2.1 = b.2.1))) == false) then (
 (F25 (b.1, r6.1)).bind fun r7 =>
 bif (!r7) then (
 some false)
 else (
 (F20 (b.1, b.2.1, b.2.2)).bind fun r8 =>
 bif (!decide (r8.2.2 = 0)) then (
 some (decide (4096 < (b.2.2.length : Int))))
 else (
 (F30 (r8.1, b.2.1)).bind fun r9 =>
 (F30 (r8.1, r8.2.1)).bind fun r10 =>
 bif ((bif decide (r9.2.2 = 0) then decide (r9.1 = r4.1) else false) == true) then (
 (F27 (r4.2.1, r9.2.1)).bind fun r11 =>
 bif ((bif (bif r11 then decide (r10.2.2 = 0) else false) then decide (r10.1 = r4.1) else false) == true) then (
 bif decide ((r4.2.1.length + 1) * 24 ≤ LIM) then
 (F27 (r10.2.1, r4.2.1 ++ ([b.2.2]))).bind fun r12 =>
 bif ((bif r12 then decide ((b.1.length : Int) ≤ (r8.1.length : Int)) else false) == true) then (
 bif inb (b.1.length : Int) (r8.1.length + 1) then
 (F25 (r8.1.take ((b.1.length : Int).toNat), b.1)).bind fun r13 =>
 some r13
 else none)
 else (
 some false)
 else none)
 else (
 some false))
 else (
 some false))))
 else (
 some false))) (
 (F26 (b.1, r4.1, (rd (.slice 5 (.int .u8)) r4.2.1 0), r4.2.1.drop ((1 : Int).toNat))).bind fun r6 =>
 bif ((bif (bif (bif (!decide (r5.2 = 0)) then true else (!decide (r5.1 = b.2.1))) then true else (!r6.2.2)) then true else (!decide (r6.2.1 = b.2.1))) == false) then (
 (F25 (b.1, r6.1)).bind fun r7 =>
 bif (!r7) then (
 some false)
 else (
 (F20 (b.1, b.2.1, b.2.2)).bind fun r8 =>
 bif (!decide (r8.2.2 = 0)) then (
 some (decide (4096 < (b.2.2.length : Int))))
 else (
 (F30 (r8.1, b.2.1)).bind fun r9 =>
 (F30 (r8.1, r8.2.1)).bind fun r10 =>
 bif ((bif decide (r9.2.2 = 0) then decide (r9.1 = r4.1) else false) == true) then (
 (F27 (r4.2.1, r9.2.1)).bind fun r11 =>
 bif ((bif (bif r11 then decide (r10.2.2 = 0) else false) then decide (r10.1 = r4.1) else false) == true) then (
 bif decide ((r4.2.1.length + 1) * 24 ≤ LIM) then
 (F27 (r10.2.1, r4.2.1 ++ ([b.2.2]))).bind fun r12 =>
 bif ((bif r12 then decide ((b.1.length : Int) ≤ (r8.1.length : Int)) else false) == true) then (
 bif inb (b.1.length : Int) (r8.1.length + 1) then
 (F25 (r8.1.take ((b.1.length : Int).toNat), b.1)).bind fun r13 =>
 some r13
 else none)
 else (
 some false)
 else none)
 else (
 some false))
 else (
 some false))))
 else (
 some false)))
 else none
 else none
 else none
 else none))))
 else (
 some true))
theorem ev6 (b : List (Int × (Int × List Int)) × Int × List Int) : evF C30 H6 Try.f6 (encs [.agg (.slice 39 (.pair (.int .u64) (.pair (.int .i64) (.slice 5 (.int .u8))))), .one (.int .i64), .one (.slice 5 (.int .u8))] b) (RT.dec (.one (.leaf (.bool)))) = F6 b := by kernel_rfl
noncomputable def C6 : Ctx := Ctx.add C30 6 [.agg (.slice 39 (.pair (.int .u64) (.pair (.int .i64) (.slice 5 (.int .u8))))), .one (.int .i64), .one (.slice 5 (.int .u8))] (.one (.leaf (.bool))) F6
theorem s6 : C6.Sound := Ctx.Sound.add (C := C30) mixed s30 Try.func6 ev6
/-! damson/damsonlaw05.ArenaGrows -/
def H7 : Nat → Head
  | 1000010 => ⟨[], [11]⟩
  | 5000013 => ⟨[], [0, 0, 0, 0, 0, 0, 4, 4, 8, 8, 0, 0, 32, 32, 64, 64, 0, 0, 256, 256, 640, 640, 1043, 1043, 2048, 2048, 4096, 4096, 4096, 4096, 16383, 8192, 65535, 16384]⟩
  | 5000014 => ⟨[], [0, 0, 1, 1, 2, 2, 4, 4, 4, 4, 28, 28, 36, 36, 68, 64, 128, 128, 384, 384, 128, 128, 1152, 1152, 2176, 2176, 4736, 4736, 8320, 8320, 128, 128, 49280, 49280, 65664, 65664, 262143, 131072]⟩
  | _ => ⟨[], []⟩
noncomputable def F7 (b : List (Int × (Int × List Int)) × Int × List Int) : Option Bool :=
 (F14 ()).bind fun r1 =>
 bif (!r1) then (
 some false)
 else (
 (F15 b.1).bind fun r2 =>
 bif ((!r2) == false) then (
 (F16 ([b.2.2])).bind fun r3 =>
 bif (!r3) then (
 some true)
 else (
 (F20 (b.1, b.2.1, b.2.2)).bind fun r4 =>
 bif (!decide (r4.2.2 = 0)) then (
 some (bif decide (r4.2.1 = 0) then decide ((r4.1.length : Int) = 0) else false))
 else (
 bif ((bif (bif (bif (bif decide ((r4.1.length : Int) < (b.1.length : Int)) then true else decide ((IntKind.wrap .i64 ((b.1.length : Int) + 1)) < (r4.1.length : Int))) then true else decide (r4.2.1 < 0)) then true else decide ((r4.1.length : Int) ≤ r4.2.1)) then true else decide (r4.2.1 ≤ b.2.1)) == false) then (
 bif (bif decide ((r4.1.length : Int) = (IntKind.wrap .i64 ((b.1.length : Int) + 1))) then (!decide (r4.2.1 = (b.1.length : Int))) else false) then (
 some false)
 else (
 (F30 (b.1, b.2.1)).bind fun r5 =>
 bif (bif (!decide (r5.2.2 = 0)) then true else decide ((r5.2.1.length : Int) = 0)) then (
 some false)
 else (
 bif inb 0 r5.2.1.length then
 bif inb 1 (r5.2.1.length + 1) then
 (both (
 (fun o => both o o) (
 bif (!(r5.2.1.drop ((1 : Int).toNat)).isEmpty || true) then
 bif decide ((([] : List (List Int)).length + (r5.2.1.drop ((1 : Int).toNat)).length) * 24 ≤ LIM) then
 bif decide (((([] : List (List Int)) ++ (r5.2.1.drop ((1 : Int).toNat))).length + 1) * 24 ≤ LIM) then
 (F28 (r4.1, r5.1, (rd (.slice 5 (.int .u8)) r5.2.1 0), (([] : List (List Int)) ++ (r5.2.1.drop ((1 : Int).toNat))) ++ ([b.2.2]))).bind fun r6 =>
 (both (
 (both (
 bif ((bif decide (r6.2 = 0) then decide (r6.1 = r4.2.1) else false) == true) then (
 bif inb (b.1.length : Int) (r4.1.length + 1) then
 (fun o => both o o) (
 (F25 (r4.1.take ((b.1.length : Int).toNat), b.1)).bind fun r7 =>
 some r7)
 else none)
 else (
 (fun o => both o o) (
 some false))) (
 bif ((bif decide (r6.2 = 0) then decide (r6.1 = r4.2.1) else false) == true) then (
 bif inb (b.1.length : Int) (r4.1.length + 1) then
 (F25 (r4.1.take ((b.1.length : Int).toNat), b.1)).bind fun r7 =>
 some r7
 else none)
 else (
 some false)))) (both (
 (both (
 bif ((bif decide (r6.2 = 0) then decide (r6.1 = r4.2.1) else false) == true) then (
 bif inb (b.1.length : Int) (r4.1.length + 1) then
 (fun o => both o o) (
 (F25 (r4.1.take ((b.1.length : Int).toNat), b.1)).bind fun r7 =>
 some r7)
 else none)
 else (
 (fun o => both o o) (
 some false))) (
 bif ((bif decide (r6.2 = 0) then decide (r6.1 = r4.2.1) else false) == true) then (
 bif inb (b.1.length : Int) (r4.1.length + 1) then
 (F25 (r4.1.take ((b.1.length : Int).toNat), b.1)).bind fun r7 =>
 some r7
 else none)
 else (
 some false)))) (
 (fun o => both o o) (
 bif ((bif decide (r6.2 = 0) then decide (r6.1 = r4.2.1) else false) == true) then (
 bif inb (b.1.length : Int) (r4.1.length + 1) then
 (F25 (r4.1.take ((b.1.length : Int).toNat), b.1)).bind fun r7 =>
 some r7
 else none)
 else (
 some false)))))
 else none
 else none
 else none)) (both (
 bif (!(r5.2.1.drop ((1 : Int).toNat)).isEmpty || true) then
 bif decide ((([] : List (List Int)).length + (r5.2.1.drop ((1 : Int).toNat)).length) * 24 ≤ LIM) then
 (both (
 bif decide (((([] : List (List Int)) ++ (r5.2.1.drop ((1 : Int).toNat))).length + 1) * 24 ≤ LIM) then
 (F28 (r4.1, r5.1, (rd (.slice 5 (.int .u8)) r5.2.1 0), (([] : List (List Int)) ++ (r5.2.1.drop ((1 : Int).toNat))) ++ ([b.2.2]))).bind fun r6 =>
 (both (
 (both (
 bif ((bif decide (r6.2 = 0) then decide (r6.1 = r4.2.1) else false) == true) then (
 bif inb (b.1.length : Int) (r4.1.length + 1) then
 (fun o => both o o) (
 (F25 (r4.1.take ((b.1.length : Int).toNat), b.1)).bind fun r7 =>
 some r7)
 else none)
 else (
 (fun o => both o o) (
 some false))) (
 bif ((bif decide (r6.2 = 0) then decide (r6.1 = r4.2.1) else false) == true) then (
 bif inb (b.1.length : Int) (r4.1.length + 1) then
 (F25 (r4.1.take ((b.1.length : Int).toNat), b.1)).bind fun r7 =>
 some r7
 else none)
 else (
 some false)))) (both (
 (both (
 bif ((bif decide (r6.2 = 0) then decide (r6.1 = r4.2.1) else false) == true) then (
 bif inb (b.1.length : Int) (r4.1.length + 1) then
 (fun o => both o o) (
 (F25 (r4.1.take ((b.1.length : Int).toNat), b.1)).bind fun r7 =>
 some r7)
 else none)
 else (
 (fun o => both o o) (
 some false))) (
 bif ((bif decide (r6.2 = 0) then decide (r6.1 = r4.2.1) else false) == true) then (
 bif inb (b.1.length : Int) (r4.1.length + 1) then
 (F25 (r4.1.take ((b.1.length : Int).toNat), b.1)).bind fun r7 =>
 some r7
 else none)
 else (
 some false)))) (
 (fun o => both o o) (
 bif ((bif decide (r6.2 = 0) then decide (r6.1 = r4.2.1) else false) == true) then (
 bif inb (b.1.length : Int) (r4.1.length + 1) then
 (F25 (r4.1.take ((b.1.length : Int).toNat), b.1)).bind fun r7 =>
 some r7
 else none)
 else (
 some false)))))
 else none) (
 (fun o => both o o) (
 bif decide (((([] : List (List Int)) ++ (r5.2.1.drop ((1 : Int).toNat))).length + 1) * 24 ≤ LIM) then
 (F28 (r4.1, r5.1, (rd (.slice 5 (.int .u8)) r5.2.1 0), (([] : List (List Int)) ++ (r5.2.1.drop ((1 : Int).toNat))) ++ ([b.2.2]))).bind fun r6 =>
 (both (
 (both (
 bif ((bif decide (r6.2 = 0) then decide (r6.1 = r4.2.1) else false) == true) then (
 bif inb (b.1.length : Int) (r4.1.length + 1) then
 (fun o => both o o) (
 (F25 (r4.1.take ((b.1.length : Int).toNat), b.1)).bind fun r7 =>
 some r7)
 else none)
 else (
 (fun o => both o o) (
 some false))) (
 bif ((bif decide (r6.2 = 0) then decide (r6.1 = r4.2.1) else false) == true) then (
 bif inb (b.1.length : Int) (r4.1.length + 1) then
 (F25 (r4.1.take ((b.1.length : Int).toNat), b.1)).bind fun r7 =>
 some r7
 else none)
 else (
 some false)))) (both (
 (both (
 bif ((bif decide (r6.2 = 0) then decide (r6.1 = r4.2.1) else false) == true) then (
 bif inb (b.1.length : Int) (r4.1.length + 1) then
 (fun o => both o o) (
 (F25 (r4.1.take ((b.1.length : Int).toNat), b.1)).bind fun r7 =>
 some r7)
 else none)
 else (
 (fun o => both o o) (
 some false))) (
 bif ((bif decide (r6.2 = 0) then decide (r6.1 = r4.2.1) else false) == true) then (
 bif inb (b.1.length : Int) (r4.1.length + 1) then
 (F25 (r4.1.take ((b.1.length : Int).toNat), b.1)).bind fun r7 =>
 some r7
 else none)
 else (
 some false)))) (
 (fun o => both o o) (
 bif ((bif decide (r6.2 = 0) then decide (r6.1 = r4.2.1) else false) == true) then (
 bif inb (b.1.length : Int) (r4.1.length + 1) then
 (F25 (r4.1.take ((b.1.length : Int).toNat), b.1)).bind fun r7 =>
 some r7
 else none)
 else (
 some false)))))
 else none)))
 else none
 else none) (
 (both (
 bif (!(r5.2.1.drop ((1 : Int).toNat)).isEmpty || true) then
 bif decide ((([] : List (List Int)).length + (r5.2.1.drop ((1 : Int).toNat)).length) * 24 ≤ LIM) then
 bif decide (((([] : List (List Int)) ++ (r5.2.1.drop ((1 : Int).toNat))).length + 1) * 24 ≤ LIM) then
 (F28 (r4.1, r5.1, (rd (.slice 5 (.int .u8)) r5.2.1 0), (([] : List (List Int)) ++ (r5.2.1.drop ((1 : Int).toNat))) ++ ([b.2.2]))).bind fun r6 =>
 (both (
 (both (
 bif ((bif decide (r6.2 = 0) then decide (r6.1 = r4.2.1) else false) == true) then (
 bif inb (b.1.length : Int) (r4.1.length + 1) then
 (fun o => both o o) (
 (F25 (r4.1.take ((b.1.length : Int).toNat), b.1)).bind fun r7 =>
 some r7)
 else none)
 else (
 (fun o => both o o) (
 some false))) (
 bif ((bif decide (r6.2 = 0) then decide (r6.1 = r4.2.1) else false) == true) then (
 bif inb (b.1.length : Int) (r4.1.length + 1) then
 (F25 (r4.1.take ((b.1.length : Int).toNat), b.1)).bind fun r7 =>
 some r7
 else none)
 else (
 some false)))) (both (
 (both (
 bif ((bif decide (r6.2 = 0) then decide (r6.1 = r4.2.1) else false) == true) then (
 bif inb (b.1.length : Int) (r4.1.length + 1) then
 (fun o => both o o) (
 (F25 (r4.1.take ((b.1.length : Int).toNat), b.1)).bind fun r7 =>
 some r7)
 else none)
 else (
 (fun o => both o o) (
 some false))) (
 bif ((bif decide (r6.2 = 0) then decide (r6.1 = r4.2.1) else false) == true) then (
 bif inb (b.1.length : Int) (r4.1.length + 1) then
 (F25 (r4.1.take ((b.1.length : Int).toNat), b.1)).bind fun r7 =>
 some r7
 else none)
 else (
 some false)))) (
 (fun o => both o o) (
 bif ((bif decide (r6.2 = 0) then decide (r6.1 = r4.2.1) else false) == true) then (
 bif inb (b.1.length : Int) (r4.1.length + 1) then
 (F25 (r4.1.take ((b.1.length : Int).toNat), b.1)).bind fun r7 =>
 some r7
 else none)
 else (
 some false)))))
 else none
 else none
 else none) (
 bif (!(r5.2.1.drop ((1 : Int).toNat)).isEmpty || true) then
 bif decide ((([] : List (List Int)).length + (r5.2.1.drop ((1 : Int).toNat)).length) * 24 ≤ LIM) then
 (fun o => both o o) (
 bif decide (((([] : List (List Int)) ++ (r5.2.1.drop ((1 : Int).toNat))).length + 1) * 24 ≤ LIM) then
 (F28 (r4.1, r5.1, (rd (.slice 5 (.int .u8)) r5.2.1 0), (([] : List (List Int)) ++ (r5.2.1.drop ((1 : Int).toNat))) ++ ([b.2.2]))).bind fun r6 =>
 (both (
 (both (
 bif ((bif decide (r6.2 = 0) then decide (r6.1 = r4.2.1) else false) == true) then (
 bif inb (b.1.length : Int) (r4.1.length + 1) then
 (fun o => both o o) (
 (F25 (r4.1.take ((b.1.length : Int).toNat), b.1)).bind fun r7 =>
 some r7)
 else none)
 else (
 (fun o => both o o) (
 some false))) (
 bif ((bif decide (r6.2 = 0) then decide (r6.1 = r4.2.1) else false) == true) then (
 bif inb (b.1.length : Int) (r4.1.length + 1) then
 (F25 (r4.1.take ((b.1.length : Int).toNat), b.1)).bind fun r7 =>
 some r7
 else none)
 else (
 some false)))) (both (
 (both (
 bif ((bif decide (r6.2 = 0) then decide (r6.1 = r4.2.1) else false) == true) then (
 bif inb (b.1.length : Int) (r4.1.length + 1) then
 (fun o => both o o) (
 (F25 (r4.1.take ((b.1.length : Int).toNat), b.1)).bind fun r7 =>
 some r7)
 else none)
 else (
 (fun o => both o o) (
 some false))) (
 bif ((bif decide (r6.2 = 0) then decide (r6.1 = r4.2.1) else false) == true) then (
 bif inb (b.1.length : Int) (r4.1.length + 1) then
 (F25 (r4.1.take ((b.1.length : Int).toNat), b.1)).bind fun r7 =>
 some r7
 else none)
 else (
 some false)))) (
 (fun o => both o o) (
 bif ((bif decide (r6.2 = 0) then decide (r6.1 = r4.2.1) else false) == true) then (
 bif inb (b.1.length : Int) (r4.1.length + 1) then
 (F25 (r4.1.take ((b.1.length : Int).toNat), b.1)).bind fun r7 =>
 some r7
 else none)
 else (
 some false)))))
 else none)
 else none
 else none)))))
 else none
 else none)))
 else (
 some false))))
 else (
 some true))
theorem ev7 (b : List (Int × (Int × List Int)) × Int × List Int) : evF C6 H7 Try.f7 (encs [.agg (.slice 39 (.pair (.int .u64) (.pair (.int .i64) (.slice 5 (.int .u8))))), .one (.int .i64), .one (.slice 5 (.int .u8))] b) (RT.dec (.one (.leaf (.bool)))) = F7 b := by kernel_rfl
noncomputable def C7 : Ctx := Ctx.add C6 7 [.agg (.slice 39 (.pair (.int .u64) (.pair (.int .i64) (.slice 5 (.int .u8))))), .one (.int .i64), .one (.slice 5 (.int .u8))] (.one (.leaf (.bool))) F7
theorem s7 : C7.Sound := Ctx.Sound.add (C := C6) mixed s6 Try.func7 ev7
end Go.Proofs.Ytcpcbeeghjigkaa.R3
