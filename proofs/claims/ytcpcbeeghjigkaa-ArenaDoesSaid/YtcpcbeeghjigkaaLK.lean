/- Part of a proof: what the program's functions come to. -/
import Derived.Test.YtcpcbeeghjigkaaFwCtx
import Derived.Test.YtcpcbeeghjigkaaProg
import Derived.KernelRfl
set_option linter.unusedVariables false
set_option linter.unusedSimpArgs false
set_option maxRecDepth 100000
namespace Go.Proofs.Ytcpcbeeghjigkaa.R3
open Go Go.Fw Go.Proofs
noncomputable def C_ : Ctx := Ctx.nil Try.prog
theorem s_ : C_.Sound := Ctx.nil_sound _
theorem mixed : Try.prog.follows .mixedOrders = true := by kernel_rfl
/-! damson/arena.of -/
def H84 : Nat → Head := fun _ => ⟨[], []⟩
noncomputable def F84 (b : (Int × (Int × List Int))) : Option (Int × Int × List Int) :=
 some (b.1, b.2.1, b.2.2)
theorem ev84 (b : (Int × (Int × List Int))) : evF C_ H84 Try.f84 (encs [.agg (.pair (.int .u64) (.pair (.int .i64) (.slice 5 (.int .u8))))] b) (RT.dec (.one (.agg [.int .u64, .int .i64, .str]))) = F84 b := by kernel_rfl
noncomputable def C84 : Ctx := Ctx.add C_ 84 [.agg (.pair (.int .u64) (.pair (.int .i64) (.slice 5 (.int .u8))))] (.one (.agg [.int .u64, .int .i64, .str])) F84
theorem s84 : C84.Sound := Ctx.Sound.add (C := C_) mixed s_ Try.func84 ev84
/-! damson/arena.read -/
def H54 : Nat → Head
  | 5 => ⟨[.data 3 (.int .i64), .data 17 (.int .i64), .mpk 36864 ⟨(.pair (.int .u64) (.pair (.int .i64) .str)), (.int .i64)⟩], [4096]⟩
  | 1000000 => ⟨[], [2]⟩
  | 1000003 => ⟨[], [2]⟩
  | 1000009 => ⟨[], [2]⟩
  | 1000012 => ⟨[], [2]⟩
  | _ => ⟨[], []⟩
noncomputable def F54 (b : List (Int × (Int × List Int))) : Option ((List ((Int × (Int × List Int)) × Int)) × Int) :=
 bif decide (1048576 < (b.length : Int)) then (
 some (([] : List ((Int × (Int × List Int)) × Int)), 1))
 else (
 lfp (fun (rec1 : (Int × Int × List ((Int × (Int × List Int)) × Int)) → Option ((List ((Int × (Int × List Int)) × Int)) × Int)) (x1 : Int × Int × List ((Int × (Int × List Int)) × Int)) =>
  bif decide (x1.2.1 < (b.length : Int)) then (
  bif inb x1.2.1 b.length then
  (F84 ((rd (.pair (.int .u64) (.pair (.int .i64) (.slice 5 (.int .u8)))) b x1.2.1).1, (((rd (.pair (.int .u64) (.pair (.int .i64) (.slice 5 (.int .u8)))) b x1.2.1).2).1, ((rd (.pair (.int .u64) (.pair (.int .i64) (.slice 5 (.int .u8)))) b x1.2.1).2).2))).bind fun r2 =>
  bif ((bif (bif (mhas (.pair (.int .u64) (.pair (.int .i64) .str)) (.int .i64) x1.2.2 (r2.1, (r2.2.1, r2.2.2))) then true else decide (((rd (.pair (.int .u64) (.pair (.int .i64) (.slice 5 (.int .u8)))) b x1.2.1).2).1 < (-1))) then true else decide (x1.2.1 ≤ ((rd (.pair (.int .u64) (.pair (.int .i64) (.slice 5 (.int .u8)))) b x1.2.1).2).1)) == false) then (
  bif (bif (bif decide ((-1) < ((rd (.pair (.int .u64) (.pair (.int .i64) (.slice 5 (.int .u8)))) b x1.2.1).2).1) then (!decide ((rd (.pair (.int .u64) (.pair (.int .i64) (.slice 5 (.int .u8)))) b x1.2.1).1 = 0)) else false) then true else decide (4096 < ((((rd (.pair (.int .u64) (.pair (.int .i64) (.slice 5 (.int .u8)))) b x1.2.1).2).2).length : Int))) then (
  some (([] : List ((Int × (Int × List Int)) × Int)), 1))
  else (
  (F84 ((rd (.pair (.int .u64) (.pair (.int .i64) (.slice 5 (.int .u8)))) b x1.2.1).1, (((rd (.pair (.int .u64) (.pair (.int .i64) (.slice 5 (.int .u8)))) b x1.2.1).2).1, ((rd (.pair (.int .u64) (.pair (.int .i64) (.slice 5 (.int .u8)))) b x1.2.1).2).2))).bind fun r3 =>
  rec1 (x1.1, (IntKind.wrap .i64 (x1.2.1 + 1)), (mput (.pair (.int .u64) (.pair (.int .i64) .str)) (.int .i64) x1.2.2 (r3.1, (r3.2.1, r3.2.2)) x1.2.1))))
  else (
  some (([] : List ((Int × (Int × List Int)) × Int)), 1))
  else none)
  else (
  some (x1.2.2, 0))) (0, 0, ([] : List ((Int × (Int × List Int)) × Int))))
theorem ev54 (b : List (Int × (Int × List Int))) : evF C84 H54 Try.f54 (encs [.aggA (.slice 39 (.pair (.int .u64) (.pair (.int .i64) (.slice 5 (.int .u8)))))] b) (RT.dec (.tup [.leaf (.mp ⟨(.pair (.int .u64) (.pair (.int .i64) .str)), (.int .i64)⟩), .leaf (.int .i64)])) = F54 b := by kernel_rfl
noncomputable def C54 : Ctx := Ctx.addA C84 54 [.aggA (.slice 39 (.pair (.int .u64) (.pair (.int .i64) (.slice 5 (.int .u8)))))] (.tup [.leaf (.mp ⟨(.pair (.int .u64) (.pair (.int .i64) .str)), (.int .i64)⟩), .leaf (.int .i64)]) F54
theorem s54 : C54.Sound := Ctx.Sound.addA (C := C84) mixed s84 Try.func54 ev54
/-! slices.Clone[[]byte,byte] -/
def H60 : Nat → Head := fun _ => ⟨[], []⟩
noncomputable def F60 (b : List Int) : Option (List Int) :=
 bif b.isEmpty then (
 (both (
 some ([] : List Int)) (
 bif decide ((([] : List Int).length + b.length) * 1 ≤ LIM) then
 some (([] : List Int) ++ b)
 else none)))
 else (
 bif decide ((([] : List Int).length + b.length) * 1 ≤ LIM) then
 some (([] : List Int) ++ b)
 else none)
theorem ev60 (b : List Int) : evF C54 H60 Try.f60 (encs [.oneA (.slice 5 (.int .u8))] b) (RT.dec (.one (.leaf (.fresh 5 (.int .u8))))) = F60 b := by kernel_rfl
noncomputable def C60 : Ctx := Ctx.addA C54 60 [.oneA (.slice 5 (.int .u8))] (.one (.leaf (.fresh 5 (.int .u8)))) F60
theorem s60 : C60.Sound := Ctx.Sound.addA (C := C54) mixed s54 Try.func60 ev60
/-! slices.Clone[[]damson/api.Term,damson/api.Term] -/
def H86 : Nat → Head := fun _ => ⟨[], []⟩
noncomputable def F86 (b : List (Int × (Int × List Int))) : Option (List (Int × (Int × List Int))) :=
 bif b.isEmpty then (
 (both (
 some ([] : List (Int × (Int × List Int)))) (
 bif decide ((([] : List (Int × (Int × List Int))).length + b.length) * 40 ≤ LIM) then
 some (([] : List (Int × (Int × List Int))) ++ b)
 else none)))
 else (
 bif decide ((([] : List (Int × (Int × List Int))).length + b.length) * 40 ≤ LIM) then
 some (([] : List (Int × (Int × List Int))) ++ b)
 else none)
theorem ev86 (b : List (Int × (Int × List Int))) : evF C60 H86 Try.f86 (encs [.one (.slice 39 (.pair (.int .u64) (.pair (.int .i64) (.slice 5 (.int .u8)))))] b) (RT.dec (.one (.leaf (.fresh 39 (.pair (.int .u64) (.pair (.int .i64) (.slice 5 (.int .u8)))))))) = F86 b := by kernel_rfl
noncomputable def C86 : Ctx := Ctx.add C60 86 [.one (.slice 39 (.pair (.int .u64) (.pair (.int .i64) (.slice 5 (.int .u8)))))] (.one (.leaf (.fresh 39 (.pair (.int .u64) (.pair (.int .i64) (.slice 5 (.int .u8))))))) F86
theorem s86 : C86.Sound := Ctx.Sound.add (C := C60) mixed s60 Try.func86 ev86
/-! slices.Clip[[]damson/api.Term,damson/api.Term]: carried out where it is called -/
def H85 : Nat → Head
  | 4000000 => ⟨[], [2199023255560]⟩
  | _ => ⟨[], []⟩
noncomputable def C85 : Ctx := Ctx.addI C86 85 H85 9000085 Try.f85
theorem s85 : C85.Sound := Ctx.Sound.addI (C := C86) mixed s86 Try.func85
/-! damson/arena.put -/
def H51 : Nat → Head
  | 14 => ⟨[.data 65 (.int .i64), .mrowk 245760 39 (.pair (.int .u64) (.pair (.int .i64) (.slice 5 (.int .u8))))], [225280, 16384, 12288, 8192]⟩
  | 5000011 => ⟨[], [0, 0, 1, 1, 2, 2, 0, 0, 8, 8, 20, 20, 63, 0, 127, 96]⟩
  | 5000016 => ⟨[], [0, 0, 1, 1, 0, 0, 0, 0, 8, 8, 16, 16, 63, 6, 127, 64, 191, 160]⟩
  | 6000014 => ⟨[], [245760]⟩
  | _ => ⟨[], []⟩
noncomputable def F51 (b : List (Int × (Int × List Int)) × (Int × (Int × List Int))) : Option ((List (Int × (Int × List Int))) × Int × Int) :=
 (F54 b.1).bind fun r1 =>
 bif (bif (!decide (r1.2 = 0)) then true else decide ((b.1.length : Int) ≤ b.2.2.1)) then (
 some (([] : List (Int × (Int × List Int))), 0, 1))
 else (
 bif decide (4096 < (b.2.2.2.length : Int)) then (
 some (([] : List (Int × (Int × List Int))), 0, 4))
 else (
 (F84 (b.2.1, (b.2.2.1, b.2.2.2))).bind fun r2 =>
 bif (!(mhas (.pair (.int .u64) (.pair (.int .i64) .str)) (.int .i64) r1.1 (r2.1, (r2.2.1, r2.2.2)))) then (
 bif decide ((b.1.length : Int) = 1048576) then (
 some (([] : List (Int × (Int × List Int))), 0, 7))
 else (
 (both (
 (both (
 bif (inb (b.1.length : Int) (b.1.length + 1) && decide ((b.1.length : Int) = (b.1.length : Int))) then
 bif decide (((b.1.take ((b.1.length : Int).toNat)).length + 1) * 40 ≤ LIM) then
 (F86 ((b.1.take ((b.1.length : Int).toNat)) ++ ([(b.2.1, (b.2.2.1, b.2.2.2))]))).bind fun r3 =>
 lfp (fun (rec4 : (Int × (List (Int × (Int × List Int)) × Nat)) → Option ((List (Int × (Int × List Int))) × Int × Int)) (x4 : Int × (List (Int × (Int × List Int)) × Nat)) =>
  bif decide (x4.1 < (r3.length : Int)) then (
  bif inb x4.1 x4.2.1.length then
  (both (
  (F60 (((rd (.pair (.int .u64) (.pair (.int .i64) (.slice 5 (.int .u8)))) x4.2.1 x4.1).2).2)).bind fun r5 =>
  bif inb x4.1 x4.2.1.length then
  bif decide (x4.1.toNat = x4.2.2) then
  rec4 ((IntKind.wrap .i64 (x4.1 + 1)), ((x4.2.1.set x4.1.toNat ((rd (.pair (.int .u64) (.pair (.int .i64) (.slice 5 (.int .u8)))) x4.2.1 x4.1).1, (((rd (.pair (.int .u64) (.pair (.int .i64) (.slice 5 (.int .u8)))) x4.2.1 x4.1).2).1, r5))), x4.2.2 + 1))
  else none
  else none) (
  (fun o => both o o) (
  (F60 (((rd (.pair (.int .u64) (.pair (.int .i64) (.slice 5 (.int .u8)))) x4.2.1 x4.1).2).2)).bind fun r5 =>
  bif inb x4.1 x4.2.1.length then
  bif decide (x4.1.toNat = x4.2.2) then
  rec4 ((IntKind.wrap .i64 (x4.1 + 1)), ((x4.2.1.set x4.1.toNat ((rd (.pair (.int .u64) (.pair (.int .i64) (.slice 5 (.int .u8)))) x4.2.1 x4.1).1, (((rd (.pair (.int .u64) (.pair (.int .i64) (.slice 5 (.int .u8)))) x4.2.1 x4.1).2).1, r5))), x4.2.2 + 1))
  else none
  else none)))
  else none)
  else (
  bif decide (x4.2.1.length ≤ x4.2.2) then
  some (x4.2.1, (b.1.length : Int), 0)
  else none)) (0, (r3, 0))
 else none
 else none) (
 (fun o => both o o) (
 bif (inb (b.1.length : Int) (b.1.length + 1) && decide ((b.1.length : Int) = (b.1.length : Int))) then
 bif decide (((b.1.take ((b.1.length : Int).toNat)).length + 1) * 40 ≤ LIM) then
 (F86 ((b.1.take ((b.1.length : Int).toNat)) ++ ([(b.2.1, (b.2.2.1, b.2.2.2))]))).bind fun r3 =>
 lfp (fun (rec4 : (Int × (List (Int × (Int × List Int)) × Nat)) → Option ((List (Int × (Int × List Int))) × Int × Int)) (x4 : Int × (List (Int × (Int × List Int)) × Nat)) =>
  bif decide (x4.1 < (r3.length : Int)) then (
  bif inb x4.1 x4.2.1.length then
  (both (
  (F60 (((rd (.pair (.int .u64) (.pair (.int .i64) (.slice 5 (.int .u8)))) x4.2.1 x4.1).2).2)).bind fun r5 =>
  bif inb x4.1 x4.2.1.length then
  bif decide (x4.1.toNat = x4.2.2) then
  rec4 ((IntKind.wrap .i64 (x4.1 + 1)), ((x4.2.1.set x4.1.toNat ((rd (.pair (.int .u64) (.pair (.int .i64) (.slice 5 (.int .u8)))) x4.2.1 x4.1).1, (((rd (.pair (.int .u64) (.pair (.int .i64) (.slice 5 (.int .u8)))) x4.2.1 x4.1).2).1, r5))), x4.2.2 + 1))
  else none
  else none) (
  (fun o => both o o) (
  (F60 (((rd (.pair (.int .u64) (.pair (.int .i64) (.slice 5 (.int .u8)))) x4.2.1 x4.1).2).2)).bind fun r5 =>
  bif inb x4.1 x4.2.1.length then
  bif decide (x4.1.toNat = x4.2.2) then
  rec4 ((IntKind.wrap .i64 (x4.1 + 1)), ((x4.2.1.set x4.1.toNat ((rd (.pair (.int .u64) (.pair (.int .i64) (.slice 5 (.int .u8)))) x4.2.1 x4.1).1, (((rd (.pair (.int .u64) (.pair (.int .i64) (.slice 5 (.int .u8)))) x4.2.1 x4.1).2).1, r5))), x4.2.2 + 1))
  else none
  else none)))
  else none)
  else (
  bif decide (x4.2.1.length ≤ x4.2.2) then
  some (x4.2.1, (b.1.length : Int), 0)
  else none)) (0, (r3, 0))
 else none
 else none)))) (
 (both (
 (fun o => both o o) (
 bif (inb (b.1.length : Int) (b.1.length + 1) && decide ((b.1.length : Int) = (b.1.length : Int))) then
 bif decide (((b.1.take ((b.1.length : Int).toNat)).length + 1) * 40 ≤ LIM) then
 (F86 ((b.1.take ((b.1.length : Int).toNat)) ++ ([(b.2.1, (b.2.2.1, b.2.2.2))]))).bind fun r3 =>
 lfp (fun (rec4 : (Int × (List (Int × (Int × List Int)) × Nat)) → Option ((List (Int × (Int × List Int))) × Int × Int)) (x4 : Int × (List (Int × (Int × List Int)) × Nat)) =>
  bif decide (x4.1 < (r3.length : Int)) then (
  bif inb x4.1 x4.2.1.length then
  (both (
  (F60 (((rd (.pair (.int .u64) (.pair (.int .i64) (.slice 5 (.int .u8)))) x4.2.1 x4.1).2).2)).bind fun r5 =>
  bif inb x4.1 x4.2.1.length then
  bif decide (x4.1.toNat = x4.2.2) then
  rec4 ((IntKind.wrap .i64 (x4.1 + 1)), ((x4.2.1.set x4.1.toNat ((rd (.pair (.int .u64) (.pair (.int .i64) (.slice 5 (.int .u8)))) x4.2.1 x4.1).1, (((rd (.pair (.int .u64) (.pair (.int .i64) (.slice 5 (.int .u8)))) x4.2.1 x4.1).2).1, r5))), x4.2.2 + 1))
  else none
  else none) (
  (fun o => both o o) (
  (F60 (((rd (.pair (.int .u64) (.pair (.int .i64) (.slice 5 (.int .u8)))) x4.2.1 x4.1).2).2)).bind fun r5 =>
  bif inb x4.1 x4.2.1.length then
  bif decide (x4.1.toNat = x4.2.2) then
  rec4 ((IntKind.wrap .i64 (x4.1 + 1)), ((x4.2.1.set x4.1.toNat ((rd (.pair (.int .u64) (.pair (.int .i64) (.slice 5 (.int .u8)))) x4.2.1 x4.1).1, (((rd (.pair (.int .u64) (.pair (.int .i64) (.slice 5 (.int .u8)))) x4.2.1 x4.1).2).1, r5))), x4.2.2 + 1))
  else none
  else none)))
  else none)
  else (
  bif decide (x4.2.1.length ≤ x4.2.2) then
  some (x4.2.1, (b.1.length : Int), 0)
  else none)) (0, (r3, 0))
 else none
 else none)) (
 bif (inb (b.1.length : Int) (b.1.length + 1) && decide ((b.1.length : Int) = (b.1.length : Int))) then
 bif decide (((b.1.take ((b.1.length : Int).toNat)).length + 1) * 40 ≤ LIM) then
 (F86 ((b.1.take ((b.1.length : Int).toNat)) ++ ([(b.2.1, (b.2.2.1, b.2.2.2))]))).bind fun r3 =>
 lfp (fun (rec4 : (Int × (List (Int × (Int × List Int)) × Nat)) → Option ((List (Int × (Int × List Int))) × Int × Int)) (x4 : Int × (List (Int × (Int × List Int)) × Nat)) =>
  bif decide (x4.1 < (r3.length : Int)) then (
  bif inb x4.1 x4.2.1.length then
  (both (
  (F60 (((rd (.pair (.int .u64) (.pair (.int .i64) (.slice 5 (.int .u8)))) x4.2.1 x4.1).2).2)).bind fun r5 =>
  bif inb x4.1 x4.2.1.length then
  bif decide (x4.1.toNat = x4.2.2) then
  rec4 ((IntKind.wrap .i64 (x4.1 + 1)), ((x4.2.1.set x4.1.toNat ((rd (.pair (.int .u64) (.pair (.int .i64) (.slice 5 (.int .u8)))) x4.2.1 x4.1).1, (((rd (.pair (.int .u64) (.pair (.int .i64) (.slice 5 (.int .u8)))) x4.2.1 x4.1).2).1, r5))), x4.2.2 + 1))
  else none
  else none) (
  (fun o => both o o) (
  (F60 (((rd (.pair (.int .u64) (.pair (.int .i64) (.slice 5 (.int .u8)))) x4.2.1 x4.1).2).2)).bind fun r5 =>
  bif inb x4.1 x4.2.1.length then
  bif decide (x4.1.toNat = x4.2.2) then
  rec4 ((IntKind.wrap .i64 (x4.1 + 1)), ((x4.2.1.set x4.1.toNat ((rd (.pair (.int .u64) (.pair (.int .i64) (.slice 5 (.int .u8)))) x4.2.1 x4.1).1, (((rd (.pair (.int .u64) (.pair (.int .i64) (.slice 5 (.int .u8)))) x4.2.1 x4.1).2).1, r5))), x4.2.2 + 1))
  else none
  else none)))
  else none)
  else (
  bif decide (x4.2.1.length ≤ x4.2.2) then
  some (x4.2.1, (b.1.length : Int), 0)
  else none)) (0, (r3, 0))
 else none
 else none))))))
 else (
 (F86 b.1).bind fun r6 =>
 lfp (fun (rec7 : (Int × (List (Int × (Int × List Int)) × Nat)) → Option ((List (Int × (Int × List Int))) × Int × Int)) (x7 : Int × (List (Int × (Int × List Int)) × Nat)) =>
  bif decide (x7.1 < (r6.length : Int)) then (
  bif inb x7.1 x7.2.1.length then
  (both (
  (F60 (((rd (.pair (.int .u64) (.pair (.int .i64) (.slice 5 (.int .u8)))) x7.2.1 x7.1).2).2)).bind fun r8 =>
  bif inb x7.1 x7.2.1.length then
  bif decide (x7.1.toNat = x7.2.2) then
  rec7 ((IntKind.wrap .i64 (x7.1 + 1)), ((x7.2.1.set x7.1.toNat ((rd (.pair (.int .u64) (.pair (.int .i64) (.slice 5 (.int .u8)))) x7.2.1 x7.1).1, (((rd (.pair (.int .u64) (.pair (.int .i64) (.slice 5 (.int .u8)))) x7.2.1 x7.1).2).1, r8))), x7.2.2 + 1))
  else none
  else none) (
  (fun o => both o o) (
  (F60 (((rd (.pair (.int .u64) (.pair (.int .i64) (.slice 5 (.int .u8)))) x7.2.1 x7.1).2).2)).bind fun r8 =>
  bif inb x7.1 x7.2.1.length then
  bif decide (x7.1.toNat = x7.2.2) then
  rec7 ((IntKind.wrap .i64 (x7.1 + 1)), ((x7.2.1.set x7.1.toNat ((rd (.pair (.int .u64) (.pair (.int .i64) (.slice 5 (.int .u8)))) x7.2.1 x7.1).1, (((rd (.pair (.int .u64) (.pair (.int .i64) (.slice 5 (.int .u8)))) x7.2.1 x7.1).2).1, r8))), x7.2.2 + 1))
  else none
  else none)))
  else none)
  else (
  bif decide (x7.2.1.length ≤ x7.2.2) then
  some (x7.2.1, (mget (.pair (.int .u64) (.pair (.int .i64) .str)) (.int .i64) 0 r1.1 (r2.1, (r2.2.1, r2.2.2))), 0)
  else none)) (0, (r6, 0)))))
theorem ev51 (b : List (Int × (Int × List Int)) × (Int × (Int × List Int))) : evF C85 H51 Try.f51 (encs [.aggA (.slice 39 (.pair (.int .u64) (.pair (.int .i64) (.slice 5 (.int .u8))))), .aggA (.pair (.int .u64) (.pair (.int .i64) (.slice 5 (.int .u8))))] b) (RT.dec (.tup [.agg [.fresh 39 (.pair (.int .u64) (.pair (.int .i64) (.slice 5 (.int .u8))))], .leaf (.int .i64), .leaf (.int .i64)])) = F51 b := by kernel_rfl
noncomputable def C51 : Ctx := Ctx.addA C85 51 [.aggA (.slice 39 (.pair (.int .u64) (.pair (.int .i64) (.slice 5 (.int .u8))))), .aggA (.pair (.int .u64) (.pair (.int .i64) (.slice 5 (.int .u8))))] (.tup [.agg [.fresh 39 (.pair (.int .u64) (.pair (.int .i64) (.slice 5 (.int .u8))))], .leaf (.int .i64), .leaf (.int .i64)]) F51
theorem s51 : C51.Sound := Ctx.Sound.addA (C := C85) mixed s85 Try.func51 ev51
/-! damson/arena.Root -/
def H18 : Nat → Head := fun _ => ⟨[], []⟩
noncomputable def F18 (b : List (Int × (Int × List Int)) × Int × List Int) : Option ((List (Int × (Int × List Int))) × Int × Int) :=
 (F51 (b.1, (b.2.1, ((-1), b.2.2)))).bind fun r1 =>
 some (r1.1, r1.2.1, r1.2.2)
theorem ev18 (b : List (Int × (Int × List Int)) × Int × List Int) : evF C51 H18 Try.f18 (encs [.aggA (.slice 39 (.pair (.int .u64) (.pair (.int .i64) (.slice 5 (.int .u8))))), .one (.int .u64), .oneA (.slice 5 (.int .u8))] b) (RT.dec (.tup [.agg [.fresh 39 (.pair (.int .u64) (.pair (.int .i64) (.slice 5 (.int .u8))))], .leaf (.int .i64), .leaf (.int .i64)])) = F18 b := by kernel_rfl
noncomputable def C18 : Ctx := Ctx.addA C51 18 [.aggA (.slice 39 (.pair (.int .u64) (.pair (.int .i64) (.slice 5 (.int .u8))))), .one (.int .u64), .oneA (.slice 5 (.int .u8))] (.tup [.agg [.fresh 39 (.pair (.int .u64) (.pair (.int .i64) (.slice 5 (.int .u8))))], .leaf (.int .i64), .leaf (.int .i64)]) F18
theorem s18 : C18.Sound := Ctx.Sound.addA (C := C51) mixed s51 Try.func18 ev18
/-! damson/damsonlaw05.live -/
def H14 : Nat → Head := fun _ => ⟨[], []⟩
noncomputable def F14 (b : Unit) : Option Bool :=
 (F18 ([], 7, [])).bind fun r1 =>
 (F18 (r1.1, 7, [])).bind fun r2 =>
 some (bif (bif (bif (bif decide (r1.2.2 = 0) then decide (r2.2.2 = 0) else false) then decide (r1.2.1 = 0) else false) then decide (r2.2.1 = 0) else false) then decide ((r2.1.length : Int) = 1) else false)
theorem ev14 (b : Unit) : evF C18 H14 Try.f14 (encs [] b) (RT.dec (.one (.leaf (.bool)))) = F14 b := by kernel_rfl
noncomputable def C14 : Ctx := Ctx.add C18 14 [] (.one (.leaf (.bool))) F14
theorem s14 : C14.Sound := Ctx.Sound.add (C := C18) mixed s18 Try.func14 ev14
/-! damson/damsonref05.Few -/
def H15 : Nat → Head
  | 2 => ⟨[.data 2 .bool, .data 8 (.int .i64)], [4096]⟩
  | _ => ⟨[], []⟩
noncomputable def F15 (b : List (Int × (Int × List Int))) : Option Bool :=
 lfp (fun (rec1 : (Bool × Int) → Option Bool) (x1 : Bool × Int) =>
  bif decide (x1.2 < (b.length : Int)) then (
  bif inb x1.2 b.length then
  bif decide (200 < ((((rd (.pair (.int .u64) (.pair (.int .i64) (.slice 5 (.int .u8)))) b x1.2).2).2).length : Int)) then (
  some false)
  else (
  rec1 (x1.1, (IntKind.wrap .i64 (x1.2 + 1))))
  else none)
  else (
  some (decide ((b.length : Int) ≤ 80)))) (false, 0)
theorem ev15 (b : List (Int × (Int × List Int))) : evF C14 H15 Try.f15 (encs [.agg (.slice 39 (.pair (.int .u64) (.pair (.int .i64) (.slice 5 (.int .u8)))))] b) (RT.dec (.one (.leaf (.bool)))) = F15 b := by kernel_rfl
noncomputable def C15 : Ctx := Ctx.add C14 15 [.agg (.slice 39 (.pair (.int .u64) (.pair (.int .i64) (.slice 5 (.int .u8)))))] (.one (.leaf (.bool))) F15
theorem s15 : C15.Sound := Ctx.Sound.add (C := C14) mixed s14 Try.func15 ev15
/-! damson/damsonlaw05.few -/
def H16 : Nat → Head
  | 2 => ⟨[.data 2 .bool, .data 7 (.int .i64)], []⟩
  | _ => ⟨[], []⟩
noncomputable def F16 (b : List (List Int)) : Option Bool :=
 lfp (fun (rec1 : (Bool × Int) → Option Bool) (x1 : Bool × Int) =>
  bif decide (x1.2 < (b.length : Int)) then (
  bif inb x1.2 b.length then
  bif (bif (bif decide (200 < ((rd (.slice 5 (.int .u8)) b x1.2).length : Int)) then decide (((rd (.slice 5 (.int .u8)) b x1.2).length : Int) ≤ 4096) else false) then true else decide (4100 < ((rd (.slice 5 (.int .u8)) b x1.2).length : Int))) then (
  some false)
  else (
  rec1 (x1.1, (IntKind.wrap .i64 (x1.2 + 1))))
  else none)
  else (
  some (decide ((b.length : Int) ≤ 12)))) (false, 0)
theorem ev16 (b : List (List Int)) : evF C15 H16 Try.f16 (encs [.one (.slice 26 (.slice 5 (.int .u8)))] b) (RT.dec (.one (.leaf (.bool)))) = F16 b := by kernel_rfl
noncomputable def C16 : Ctx := Ctx.add C15 16 [.one (.slice 26 (.slice 5 (.int .u8)))] (.one (.leaf (.bool))) F16
theorem s16 : C16.Sound := Ctx.Sound.add (C := C15) mixed s15 Try.func16 ev16
/-! damson/damsonref05.Copy -/
def H17 : Nat → Head
  | 3 => ⟨[.data 10 (.int .i64), .crow 12288 0 10014339 39 (.pair (.int .u64) (.pair (.int .i64) (.slice 5 (.int .u8)))), .boxr 12288 10014339 .unit .unit], [8192, 4096]⟩
  | 5000005 => ⟨[], [0, 0, 1, 1, 0, 0, 4, 4, 0, 0, 16, 16, 0, 0, 64, 64, 128, 128, 296, 296, 512, 512, 1282, 1026, 4095, 0, 8191, 6144]⟩
  | _ => ⟨[], []⟩
noncomputable def F17 (b : List (Int × (Int × List Int))) : Option (List (Int × (Int × List Int))) :=
 lfp (fun (rec1 : (Int × List (Int × (Int × List Int)) × (Unit × Unit)) → Option (List (Int × (Int × List Int)))) (x1 : Int × List (Int × (Int × List Int)) × (Unit × Unit)) =>
  bif decide (x1.1 < (b.length : Int)) then (
  bif inb x1.1 b.length then
  (both (
  (both (
  (both (
  bif (!(((rd (.pair (.int .u64) (.pair (.int .i64) (.slice 5 (.int .u8)))) b x1.1).2).2).isEmpty || true) then
  bif decide ((([] : List Int).length + (((rd (.pair (.int .u64) (.pair (.int .i64) (.slice 5 (.int .u8)))) b x1.1).2).2).length) * 1 ≤ LIM) then
  bif decide ((x1.2.1.length + 1) * 40 ≤ LIM) then
  rec1 ((IntKind.wrap .i64 (x1.1 + 1)), (x1.2.1 ++ ([((rd (.pair (.int .u64) (.pair (.int .i64) (.slice 5 (.int .u8)))) b x1.1).1, (((rd (.pair (.int .u64) (.pair (.int .i64) (.slice 5 (.int .u8)))) b x1.1).2).1, ([] : List Int) ++ (((rd (.pair (.int .u64) (.pair (.int .i64) (.slice 5 (.int .u8)))) b x1.1).2).2)))])), ((), ()))
  else none
  else none
  else none) (
  (fun o => both o o) (
  bif (!(((rd (.pair (.int .u64) (.pair (.int .i64) (.slice 5 (.int .u8)))) b x1.1).2).2).isEmpty || true) then
  bif decide ((([] : List Int).length + (((rd (.pair (.int .u64) (.pair (.int .i64) (.slice 5 (.int .u8)))) b x1.1).2).2).length) * 1 ≤ LIM) then
  bif decide ((x1.2.1.length + 1) * 40 ≤ LIM) then
  rec1 ((IntKind.wrap .i64 (x1.1 + 1)), (x1.2.1 ++ ([((rd (.pair (.int .u64) (.pair (.int .i64) (.slice 5 (.int .u8)))) b x1.1).1, (((rd (.pair (.int .u64) (.pair (.int .i64) (.slice 5 (.int .u8)))) b x1.1).2).1, ([] : List Int) ++ (((rd (.pair (.int .u64) (.pair (.int .i64) (.slice 5 (.int .u8)))) b x1.1).2).2)))])), ((), ()))
  else none
  else none
  else none)))) (both (
  (both (
  bif (!(((rd (.pair (.int .u64) (.pair (.int .i64) (.slice 5 (.int .u8)))) b x1.1).2).2).isEmpty || true) then
  bif decide ((([] : List Int).length + (((rd (.pair (.int .u64) (.pair (.int .i64) (.slice 5 (.int .u8)))) b x1.1).2).2).length) * 1 ≤ LIM) then
  bif decide ((x1.2.1.length + 1) * 40 ≤ LIM) then
  rec1 ((IntKind.wrap .i64 (x1.1 + 1)), (x1.2.1 ++ ([((rd (.pair (.int .u64) (.pair (.int .i64) (.slice 5 (.int .u8)))) b x1.1).1, (((rd (.pair (.int .u64) (.pair (.int .i64) (.slice 5 (.int .u8)))) b x1.1).2).1, ([] : List Int) ++ (((rd (.pair (.int .u64) (.pair (.int .i64) (.slice 5 (.int .u8)))) b x1.1).2).2)))])), ((), ()))
  else none
  else none
  else none) (
  (fun o => both o o) (
  bif (!(((rd (.pair (.int .u64) (.pair (.int .i64) (.slice 5 (.int .u8)))) b x1.1).2).2).isEmpty || true) then
  bif decide ((([] : List Int).length + (((rd (.pair (.int .u64) (.pair (.int .i64) (.slice 5 (.int .u8)))) b x1.1).2).2).length) * 1 ≤ LIM) then
  bif decide ((x1.2.1.length + 1) * 40 ≤ LIM) then
  rec1 ((IntKind.wrap .i64 (x1.1 + 1)), (x1.2.1 ++ ([((rd (.pair (.int .u64) (.pair (.int .i64) (.slice 5 (.int .u8)))) b x1.1).1, (((rd (.pair (.int .u64) (.pair (.int .i64) (.slice 5 (.int .u8)))) b x1.1).2).1, ([] : List Int) ++ (((rd (.pair (.int .u64) (.pair (.int .i64) (.slice 5 (.int .u8)))) b x1.1).2).2)))])), ((), ()))
  else none
  else none
  else none)))) (
  (both (
  (fun o => both o o) (
  bif (!(((rd (.pair (.int .u64) (.pair (.int .i64) (.slice 5 (.int .u8)))) b x1.1).2).2).isEmpty || true) then
  bif decide ((([] : List Int).length + (((rd (.pair (.int .u64) (.pair (.int .i64) (.slice 5 (.int .u8)))) b x1.1).2).2).length) * 1 ≤ LIM) then
  bif decide ((x1.2.1.length + 1) * 40 ≤ LIM) then
  rec1 ((IntKind.wrap .i64 (x1.1 + 1)), (x1.2.1 ++ ([((rd (.pair (.int .u64) (.pair (.int .i64) (.slice 5 (.int .u8)))) b x1.1).1, (((rd (.pair (.int .u64) (.pair (.int .i64) (.slice 5 (.int .u8)))) b x1.1).2).1, ([] : List Int) ++ (((rd (.pair (.int .u64) (.pair (.int .i64) (.slice 5 (.int .u8)))) b x1.1).2).2)))])), ((), ()))
  else none
  else none
  else none)) (both (
  (fun o => both o o) (
  bif (!(((rd (.pair (.int .u64) (.pair (.int .i64) (.slice 5 (.int .u8)))) b x1.1).2).2).isEmpty || true) then
  bif decide ((([] : List Int).length + (((rd (.pair (.int .u64) (.pair (.int .i64) (.slice 5 (.int .u8)))) b x1.1).2).2).length) * 1 ≤ LIM) then
  bif decide ((x1.2.1.length + 1) * 40 ≤ LIM) then
  rec1 ((IntKind.wrap .i64 (x1.1 + 1)), (x1.2.1 ++ ([((rd (.pair (.int .u64) (.pair (.int .i64) (.slice 5 (.int .u8)))) b x1.1).1, (((rd (.pair (.int .u64) (.pair (.int .i64) (.slice 5 (.int .u8)))) b x1.1).2).1, ([] : List Int) ++ (((rd (.pair (.int .u64) (.pair (.int .i64) (.slice 5 (.int .u8)))) b x1.1).2).2)))])), ((), ()))
  else none
  else none
  else none)) (
  bif (!(((rd (.pair (.int .u64) (.pair (.int .i64) (.slice 5 (.int .u8)))) b x1.1).2).2).isEmpty || true) then
  bif decide ((([] : List Int).length + (((rd (.pair (.int .u64) (.pair (.int .i64) (.slice 5 (.int .u8)))) b x1.1).2).2).length) * 1 ≤ LIM) then
  (fun o => both o o) (
  bif decide ((x1.2.1.length + 1) * 40 ≤ LIM) then
  rec1 ((IntKind.wrap .i64 (x1.1 + 1)), (x1.2.1 ++ ([((rd (.pair (.int .u64) (.pair (.int .i64) (.slice 5 (.int .u8)))) b x1.1).1, (((rd (.pair (.int .u64) (.pair (.int .i64) (.slice 5 (.int .u8)))) b x1.1).2).1, ([] : List Int) ++ (((rd (.pair (.int .u64) (.pair (.int .i64) (.slice 5 (.int .u8)))) b x1.1).2).2)))])), ((), ()))
  else none)
  else none
  else none))))))) (both (
  (both (
  (both (
  bif (!(((rd (.pair (.int .u64) (.pair (.int .i64) (.slice 5 (.int .u8)))) b x1.1).2).2).isEmpty || true) then
  bif decide ((([] : List Int).length + (((rd (.pair (.int .u64) (.pair (.int .i64) (.slice 5 (.int .u8)))) b x1.1).2).2).length) * 1 ≤ LIM) then
  bif decide ((x1.2.1.length + 1) * 40 ≤ LIM) then
  rec1 ((IntKind.wrap .i64 (x1.1 + 1)), (x1.2.1 ++ ([((rd (.pair (.int .u64) (.pair (.int .i64) (.slice 5 (.int .u8)))) b x1.1).1, (((rd (.pair (.int .u64) (.pair (.int .i64) (.slice 5 (.int .u8)))) b x1.1).2).1, ([] : List Int) ++ (((rd (.pair (.int .u64) (.pair (.int .i64) (.slice 5 (.int .u8)))) b x1.1).2).2)))])), ((), ()))
  else none
  else none
  else none) (
  (fun o => both o o) (
  bif (!(((rd (.pair (.int .u64) (.pair (.int .i64) (.slice 5 (.int .u8)))) b x1.1).2).2).isEmpty || true) then
  bif decide ((([] : List Int).length + (((rd (.pair (.int .u64) (.pair (.int .i64) (.slice 5 (.int .u8)))) b x1.1).2).2).length) * 1 ≤ LIM) then
  bif decide ((x1.2.1.length + 1) * 40 ≤ LIM) then
  rec1 ((IntKind.wrap .i64 (x1.1 + 1)), (x1.2.1 ++ ([((rd (.pair (.int .u64) (.pair (.int .i64) (.slice 5 (.int .u8)))) b x1.1).1, (((rd (.pair (.int .u64) (.pair (.int .i64) (.slice 5 (.int .u8)))) b x1.1).2).1, ([] : List Int) ++ (((rd (.pair (.int .u64) (.pair (.int .i64) (.slice 5 (.int .u8)))) b x1.1).2).2)))])), ((), ()))
  else none
  else none
  else none)))) (both (
  (both (
  bif (!(((rd (.pair (.int .u64) (.pair (.int .i64) (.slice 5 (.int .u8)))) b x1.1).2).2).isEmpty || true) then
  bif decide ((([] : List Int).length + (((rd (.pair (.int .u64) (.pair (.int .i64) (.slice 5 (.int .u8)))) b x1.1).2).2).length) * 1 ≤ LIM) then
  bif decide ((x1.2.1.length + 1) * 40 ≤ LIM) then
  rec1 ((IntKind.wrap .i64 (x1.1 + 1)), (x1.2.1 ++ ([((rd (.pair (.int .u64) (.pair (.int .i64) (.slice 5 (.int .u8)))) b x1.1).1, (((rd (.pair (.int .u64) (.pair (.int .i64) (.slice 5 (.int .u8)))) b x1.1).2).1, ([] : List Int) ++ (((rd (.pair (.int .u64) (.pair (.int .i64) (.slice 5 (.int .u8)))) b x1.1).2).2)))])), ((), ()))
  else none
  else none
  else none) (
  (both (
  bif (!(((rd (.pair (.int .u64) (.pair (.int .i64) (.slice 5 (.int .u8)))) b x1.1).2).2).isEmpty || true) then
  bif decide ((([] : List Int).length + (((rd (.pair (.int .u64) (.pair (.int .i64) (.slice 5 (.int .u8)))) b x1.1).2).2).length) * 1 ≤ LIM) then
  bif decide ((x1.2.1.length + 1) * 40 ≤ LIM) then
  rec1 ((IntKind.wrap .i64 (x1.1 + 1)), (x1.2.1 ++ ([((rd (.pair (.int .u64) (.pair (.int .i64) (.slice 5 (.int .u8)))) b x1.1).1, (((rd (.pair (.int .u64) (.pair (.int .i64) (.slice 5 (.int .u8)))) b x1.1).2).1, ([] : List Int) ++ (((rd (.pair (.int .u64) (.pair (.int .i64) (.slice 5 (.int .u8)))) b x1.1).2).2)))])), ((), ()))
  else none
  else none
  else none) (
  bif (!(((rd (.pair (.int .u64) (.pair (.int .i64) (.slice 5 (.int .u8)))) b x1.1).2).2).isEmpty || true) then
  bif decide ((([] : List Int).length + (((rd (.pair (.int .u64) (.pair (.int .i64) (.slice 5 (.int .u8)))) b x1.1).2).2).length) * 1 ≤ LIM) then
  (both (
  bif decide ((x1.2.1.length + 1) * 40 ≤ LIM) then
  rec1 ((IntKind.wrap .i64 (x1.1 + 1)), (x1.2.1 ++ ([((rd (.pair (.int .u64) (.pair (.int .i64) (.slice 5 (.int .u8)))) b x1.1).1, (((rd (.pair (.int .u64) (.pair (.int .i64) (.slice 5 (.int .u8)))) b x1.1).2).1, ([] : List Int) ++ (((rd (.pair (.int .u64) (.pair (.int .i64) (.slice 5 (.int .u8)))) b x1.1).2).2)))])), ((), ()))
  else none) (
  (fun o => both o o) (
  bif decide ((x1.2.1.length + 1) * 40 ≤ LIM) then
  rec1 ((IntKind.wrap .i64 (x1.1 + 1)), (x1.2.1 ++ ([((rd (.pair (.int .u64) (.pair (.int .i64) (.slice 5 (.int .u8)))) b x1.1).1, (((rd (.pair (.int .u64) (.pair (.int .i64) (.slice 5 (.int .u8)))) b x1.1).2).1, ([] : List Int) ++ (((rd (.pair (.int .u64) (.pair (.int .i64) (.slice 5 (.int .u8)))) b x1.1).2).2)))])), ((), ()))
  else none)))
  else none
  else none))))) (
  (both (
  (fun o => both o o) (
  bif (!(((rd (.pair (.int .u64) (.pair (.int .i64) (.slice 5 (.int .u8)))) b x1.1).2).2).isEmpty || true) then
  bif decide ((([] : List Int).length + (((rd (.pair (.int .u64) (.pair (.int .i64) (.slice 5 (.int .u8)))) b x1.1).2).2).length) * 1 ≤ LIM) then
  bif decide ((x1.2.1.length + 1) * 40 ≤ LIM) then
  rec1 ((IntKind.wrap .i64 (x1.1 + 1)), (x1.2.1 ++ ([((rd (.pair (.int .u64) (.pair (.int .i64) (.slice 5 (.int .u8)))) b x1.1).1, (((rd (.pair (.int .u64) (.pair (.int .i64) (.slice 5 (.int .u8)))) b x1.1).2).1, ([] : List Int) ++ (((rd (.pair (.int .u64) (.pair (.int .i64) (.slice 5 (.int .u8)))) b x1.1).2).2)))])), ((), ()))
  else none
  else none
  else none)) (both (
  (both (
  bif (!(((rd (.pair (.int .u64) (.pair (.int .i64) (.slice 5 (.int .u8)))) b x1.1).2).2).isEmpty || true) then
  bif decide ((([] : List Int).length + (((rd (.pair (.int .u64) (.pair (.int .i64) (.slice 5 (.int .u8)))) b x1.1).2).2).length) * 1 ≤ LIM) then
  bif decide ((x1.2.1.length + 1) * 40 ≤ LIM) then
  rec1 ((IntKind.wrap .i64 (x1.1 + 1)), (x1.2.1 ++ ([((rd (.pair (.int .u64) (.pair (.int .i64) (.slice 5 (.int .u8)))) b x1.1).1, (((rd (.pair (.int .u64) (.pair (.int .i64) (.slice 5 (.int .u8)))) b x1.1).2).1, ([] : List Int) ++ (((rd (.pair (.int .u64) (.pair (.int .i64) (.slice 5 (.int .u8)))) b x1.1).2).2)))])), ((), ()))
  else none
  else none
  else none) (
  bif (!(((rd (.pair (.int .u64) (.pair (.int .i64) (.slice 5 (.int .u8)))) b x1.1).2).2).isEmpty || true) then
  bif decide ((([] : List Int).length + (((rd (.pair (.int .u64) (.pair (.int .i64) (.slice 5 (.int .u8)))) b x1.1).2).2).length) * 1 ≤ LIM) then
  (both (
  bif decide ((x1.2.1.length + 1) * 40 ≤ LIM) then
  rec1 ((IntKind.wrap .i64 (x1.1 + 1)), (x1.2.1 ++ ([((rd (.pair (.int .u64) (.pair (.int .i64) (.slice 5 (.int .u8)))) b x1.1).1, (((rd (.pair (.int .u64) (.pair (.int .i64) (.slice 5 (.int .u8)))) b x1.1).2).1, ([] : List Int) ++ (((rd (.pair (.int .u64) (.pair (.int .i64) (.slice 5 (.int .u8)))) b x1.1).2).2)))])), ((), ()))
  else none) (
  (fun o => both o o) (
  bif decide ((x1.2.1.length + 1) * 40 ≤ LIM) then
  rec1 ((IntKind.wrap .i64 (x1.1 + 1)), (x1.2.1 ++ ([((rd (.pair (.int .u64) (.pair (.int .i64) (.slice 5 (.int .u8)))) b x1.1).1, (((rd (.pair (.int .u64) (.pair (.int .i64) (.slice 5 (.int .u8)))) b x1.1).2).1, ([] : List Int) ++ (((rd (.pair (.int .u64) (.pair (.int .i64) (.slice 5 (.int .u8)))) b x1.1).2).2)))])), ((), ()))
  else none)))
  else none
  else none))) (
  bif (!(((rd (.pair (.int .u64) (.pair (.int .i64) (.slice 5 (.int .u8)))) b x1.1).2).2).isEmpty || true) then
  bif decide ((([] : List Int).length + (((rd (.pair (.int .u64) (.pair (.int .i64) (.slice 5 (.int .u8)))) b x1.1).2).2).length) * 1 ≤ LIM) then
  (both (
  bif decide ((x1.2.1.length + 1) * 40 ≤ LIM) then
  rec1 ((IntKind.wrap .i64 (x1.1 + 1)), (x1.2.1 ++ ([((rd (.pair (.int .u64) (.pair (.int .i64) (.slice 5 (.int .u8)))) b x1.1).1, (((rd (.pair (.int .u64) (.pair (.int .i64) (.slice 5 (.int .u8)))) b x1.1).2).1, ([] : List Int) ++ (((rd (.pair (.int .u64) (.pair (.int .i64) (.slice 5 (.int .u8)))) b x1.1).2).2)))])), ((), ()))
  else none) (
  (both (
  bif decide ((x1.2.1.length + 1) * 40 ≤ LIM) then
  rec1 ((IntKind.wrap .i64 (x1.1 + 1)), (x1.2.1 ++ ([((rd (.pair (.int .u64) (.pair (.int .i64) (.slice 5 (.int .u8)))) b x1.1).1, (((rd (.pair (.int .u64) (.pair (.int .i64) (.slice 5 (.int .u8)))) b x1.1).2).1, ([] : List Int) ++ (((rd (.pair (.int .u64) (.pair (.int .i64) (.slice 5 (.int .u8)))) b x1.1).2).2)))])), ((), ()))
  else none) (
  (fun o => both o o) (
  bif decide ((x1.2.1.length + 1) * 40 ≤ LIM) then
  rec1 ((IntKind.wrap .i64 (x1.1 + 1)), (x1.2.1 ++ ([((rd (.pair (.int .u64) (.pair (.int .i64) (.slice 5 (.int .u8)))) b x1.1).1, (((rd (.pair (.int .u64) (.pair (.int .i64) (.slice 5 (.int .u8)))) b x1.1).2).1, ([] : List Int) ++ (((rd (.pair (.int .u64) (.pair (.int .i64) (.slice 5 (.int .u8)))) b x1.1).2).2)))])), ((), ()))
  else none)))))
  else none
  else none))))))) (both (
  (both (
  (both (
  bif (!(((rd (.pair (.int .u64) (.pair (.int .i64) (.slice 5 (.int .u8)))) b x1.1).2).2).isEmpty || true) then
  bif decide ((([] : List Int).length + (((rd (.pair (.int .u64) (.pair (.int .i64) (.slice 5 (.int .u8)))) b x1.1).2).2).length) * 1 ≤ LIM) then
  bif decide ((x1.2.1.length + 1) * 40 ≤ LIM) then
  rec1 ((IntKind.wrap .i64 (x1.1 + 1)), (x1.2.1 ++ ([((rd (.pair (.int .u64) (.pair (.int .i64) (.slice 5 (.int .u8)))) b x1.1).1, (((rd (.pair (.int .u64) (.pair (.int .i64) (.slice 5 (.int .u8)))) b x1.1).2).1, ([] : List Int) ++ (((rd (.pair (.int .u64) (.pair (.int .i64) (.slice 5 (.int .u8)))) b x1.1).2).2)))])), ((), ()))
  else none
  else none
  else none) (
  (fun o => both o o) (
  bif (!(((rd (.pair (.int .u64) (.pair (.int .i64) (.slice 5 (.int .u8)))) b x1.1).2).2).isEmpty || true) then
  bif decide ((([] : List Int).length + (((rd (.pair (.int .u64) (.pair (.int .i64) (.slice 5 (.int .u8)))) b x1.1).2).2).length) * 1 ≤ LIM) then
  bif decide ((x1.2.1.length + 1) * 40 ≤ LIM) then
  rec1 ((IntKind.wrap .i64 (x1.1 + 1)), (x1.2.1 ++ ([((rd (.pair (.int .u64) (.pair (.int .i64) (.slice 5 (.int .u8)))) b x1.1).1, (((rd (.pair (.int .u64) (.pair (.int .i64) (.slice 5 (.int .u8)))) b x1.1).2).1, ([] : List Int) ++ (((rd (.pair (.int .u64) (.pair (.int .i64) (.slice 5 (.int .u8)))) b x1.1).2).2)))])), ((), ()))
  else none
  else none
  else none)))) (both (
  (both (
  bif (!(((rd (.pair (.int .u64) (.pair (.int .i64) (.slice 5 (.int .u8)))) b x1.1).2).2).isEmpty || true) then
  bif decide ((([] : List Int).length + (((rd (.pair (.int .u64) (.pair (.int .i64) (.slice 5 (.int .u8)))) b x1.1).2).2).length) * 1 ≤ LIM) then
  bif decide ((x1.2.1.length + 1) * 40 ≤ LIM) then
  rec1 ((IntKind.wrap .i64 (x1.1 + 1)), (x1.2.1 ++ ([((rd (.pair (.int .u64) (.pair (.int .i64) (.slice 5 (.int .u8)))) b x1.1).1, (((rd (.pair (.int .u64) (.pair (.int .i64) (.slice 5 (.int .u8)))) b x1.1).2).1, ([] : List Int) ++ (((rd (.pair (.int .u64) (.pair (.int .i64) (.slice 5 (.int .u8)))) b x1.1).2).2)))])), ((), ()))
  else none
  else none
  else none) (
  (both (
  bif (!(((rd (.pair (.int .u64) (.pair (.int .i64) (.slice 5 (.int .u8)))) b x1.1).2).2).isEmpty || true) then
  bif decide ((([] : List Int).length + (((rd (.pair (.int .u64) (.pair (.int .i64) (.slice 5 (.int .u8)))) b x1.1).2).2).length) * 1 ≤ LIM) then
  bif decide ((x1.2.1.length + 1) * 40 ≤ LIM) then
  rec1 ((IntKind.wrap .i64 (x1.1 + 1)), (x1.2.1 ++ ([((rd (.pair (.int .u64) (.pair (.int .i64) (.slice 5 (.int .u8)))) b x1.1).1, (((rd (.pair (.int .u64) (.pair (.int .i64) (.slice 5 (.int .u8)))) b x1.1).2).1, ([] : List Int) ++ (((rd (.pair (.int .u64) (.pair (.int .i64) (.slice 5 (.int .u8)))) b x1.1).2).2)))])), ((), ()))
  else none
  else none
  else none) (
  bif (!(((rd (.pair (.int .u64) (.pair (.int .i64) (.slice 5 (.int .u8)))) b x1.1).2).2).isEmpty || true) then
  bif decide ((([] : List Int).length + (((rd (.pair (.int .u64) (.pair (.int .i64) (.slice 5 (.int .u8)))) b x1.1).2).2).length) * 1 ≤ LIM) then
  (both (
  bif decide ((x1.2.1.length + 1) * 40 ≤ LIM) then
  rec1 ((IntKind.wrap .i64 (x1.1 + 1)), (x1.2.1 ++ ([((rd (.pair (.int .u64) (.pair (.int .i64) (.slice 5 (.int .u8)))) b x1.1).1, (((rd (.pair (.int .u64) (.pair (.int .i64) (.slice 5 (.int .u8)))) b x1.1).2).1, ([] : List Int) ++ (((rd (.pair (.int .u64) (.pair (.int .i64) (.slice 5 (.int .u8)))) b x1.1).2).2)))])), ((), ()))
  else none) (
  (fun o => both o o) (
  bif decide ((x1.2.1.length + 1) * 40 ≤ LIM) then
  rec1 ((IntKind.wrap .i64 (x1.1 + 1)), (x1.2.1 ++ ([((rd (.pair (.int .u64) (.pair (.int .i64) (.slice 5 (.int .u8)))) b x1.1).1, (((rd (.pair (.int .u64) (.pair (.int .i64) (.slice 5 (.int .u8)))) b x1.1).2).1, ([] : List Int) ++ (((rd (.pair (.int .u64) (.pair (.int .i64) (.slice 5 (.int .u8)))) b x1.1).2).2)))])), ((), ()))
  else none)))
  else none
  else none))))) (
  (both (
  (fun o => both o o) (
  bif (!(((rd (.pair (.int .u64) (.pair (.int .i64) (.slice 5 (.int .u8)))) b x1.1).2).2).isEmpty || true) then
  bif decide ((([] : List Int).length + (((rd (.pair (.int .u64) (.pair (.int .i64) (.slice 5 (.int .u8)))) b x1.1).2).2).length) * 1 ≤ LIM) then
  bif decide ((x1.2.1.length + 1) * 40 ≤ LIM) then
  rec1 ((IntKind.wrap .i64 (x1.1 + 1)), (x1.2.1 ++ ([((rd (.pair (.int .u64) (.pair (.int .i64) (.slice 5 (.int .u8)))) b x1.1).1, (((rd (.pair (.int .u64) (.pair (.int .i64) (.slice 5 (.int .u8)))) b x1.1).2).1, ([] : List Int) ++ (((rd (.pair (.int .u64) (.pair (.int .i64) (.slice 5 (.int .u8)))) b x1.1).2).2)))])), ((), ()))
  else none
  else none
  else none)) (both (
  (both (
  bif (!(((rd (.pair (.int .u64) (.pair (.int .i64) (.slice 5 (.int .u8)))) b x1.1).2).2).isEmpty || true) then
  bif decide ((([] : List Int).length + (((rd (.pair (.int .u64) (.pair (.int .i64) (.slice 5 (.int .u8)))) b x1.1).2).2).length) * 1 ≤ LIM) then
  bif decide ((x1.2.1.length + 1) * 40 ≤ LIM) then
  rec1 ((IntKind.wrap .i64 (x1.1 + 1)), (x1.2.1 ++ ([((rd (.pair (.int .u64) (.pair (.int .i64) (.slice 5 (.int .u8)))) b x1.1).1, (((rd (.pair (.int .u64) (.pair (.int .i64) (.slice 5 (.int .u8)))) b x1.1).2).1, ([] : List Int) ++ (((rd (.pair (.int .u64) (.pair (.int .i64) (.slice 5 (.int .u8)))) b x1.1).2).2)))])), ((), ()))
  else none
  else none
  else none) (
  bif (!(((rd (.pair (.int .u64) (.pair (.int .i64) (.slice 5 (.int .u8)))) b x1.1).2).2).isEmpty || true) then
  bif decide ((([] : List Int).length + (((rd (.pair (.int .u64) (.pair (.int .i64) (.slice 5 (.int .u8)))) b x1.1).2).2).length) * 1 ≤ LIM) then
  (both (
  bif decide ((x1.2.1.length + 1) * 40 ≤ LIM) then
  rec1 ((IntKind.wrap .i64 (x1.1 + 1)), (x1.2.1 ++ ([((rd (.pair (.int .u64) (.pair (.int .i64) (.slice 5 (.int .u8)))) b x1.1).1, (((rd (.pair (.int .u64) (.pair (.int .i64) (.slice 5 (.int .u8)))) b x1.1).2).1, ([] : List Int) ++ (((rd (.pair (.int .u64) (.pair (.int .i64) (.slice 5 (.int .u8)))) b x1.1).2).2)))])), ((), ()))
  else none) (
  (fun o => both o o) (
  bif decide ((x1.2.1.length + 1) * 40 ≤ LIM) then
  rec1 ((IntKind.wrap .i64 (x1.1 + 1)), (x1.2.1 ++ ([((rd (.pair (.int .u64) (.pair (.int .i64) (.slice 5 (.int .u8)))) b x1.1).1, (((rd (.pair (.int .u64) (.pair (.int .i64) (.slice 5 (.int .u8)))) b x1.1).2).1, ([] : List Int) ++ (((rd (.pair (.int .u64) (.pair (.int .i64) (.slice 5 (.int .u8)))) b x1.1).2).2)))])), ((), ()))
  else none)))
  else none
  else none))) (
  bif (!(((rd (.pair (.int .u64) (.pair (.int .i64) (.slice 5 (.int .u8)))) b x1.1).2).2).isEmpty || true) then
  bif decide ((([] : List Int).length + (((rd (.pair (.int .u64) (.pair (.int .i64) (.slice 5 (.int .u8)))) b x1.1).2).2).length) * 1 ≤ LIM) then
  (both (
  bif decide ((x1.2.1.length + 1) * 40 ≤ LIM) then
  rec1 ((IntKind.wrap .i64 (x1.1 + 1)), (x1.2.1 ++ ([((rd (.pair (.int .u64) (.pair (.int .i64) (.slice 5 (.int .u8)))) b x1.1).1, (((rd (.pair (.int .u64) (.pair (.int .i64) (.slice 5 (.int .u8)))) b x1.1).2).1, ([] : List Int) ++ (((rd (.pair (.int .u64) (.pair (.int .i64) (.slice 5 (.int .u8)))) b x1.1).2).2)))])), ((), ()))
  else none) (
  (both (
  bif decide ((x1.2.1.length + 1) * 40 ≤ LIM) then
  rec1 ((IntKind.wrap .i64 (x1.1 + 1)), (x1.2.1 ++ ([((rd (.pair (.int .u64) (.pair (.int .i64) (.slice 5 (.int .u8)))) b x1.1).1, (((rd (.pair (.int .u64) (.pair (.int .i64) (.slice 5 (.int .u8)))) b x1.1).2).1, ([] : List Int) ++ (((rd (.pair (.int .u64) (.pair (.int .i64) (.slice 5 (.int .u8)))) b x1.1).2).2)))])), ((), ()))
  else none) (
  (fun o => both o o) (
  bif decide ((x1.2.1.length + 1) * 40 ≤ LIM) then
  rec1 ((IntKind.wrap .i64 (x1.1 + 1)), (x1.2.1 ++ ([((rd (.pair (.int .u64) (.pair (.int .i64) (.slice 5 (.int .u8)))) b x1.1).1, (((rd (.pair (.int .u64) (.pair (.int .i64) (.slice 5 (.int .u8)))) b x1.1).2).1, ([] : List Int) ++ (((rd (.pair (.int .u64) (.pair (.int .i64) (.slice 5 (.int .u8)))) b x1.1).2).2)))])), ((), ()))
  else none)))))
  else none
  else none))))))) (
  (both (
  (both (
  (fun o => both o o) (
  bif (!(((rd (.pair (.int .u64) (.pair (.int .i64) (.slice 5 (.int .u8)))) b x1.1).2).2).isEmpty || true) then
  bif decide ((([] : List Int).length + (((rd (.pair (.int .u64) (.pair (.int .i64) (.slice 5 (.int .u8)))) b x1.1).2).2).length) * 1 ≤ LIM) then
  bif decide ((x1.2.1.length + 1) * 40 ≤ LIM) then
  rec1 ((IntKind.wrap .i64 (x1.1 + 1)), (x1.2.1 ++ ([((rd (.pair (.int .u64) (.pair (.int .i64) (.slice 5 (.int .u8)))) b x1.1).1, (((rd (.pair (.int .u64) (.pair (.int .i64) (.slice 5 (.int .u8)))) b x1.1).2).1, ([] : List Int) ++ (((rd (.pair (.int .u64) (.pair (.int .i64) (.slice 5 (.int .u8)))) b x1.1).2).2)))])), ((), ()))
  else none
  else none
  else none)) (both (
  (fun o => both o o) (
  bif (!(((rd (.pair (.int .u64) (.pair (.int .i64) (.slice 5 (.int .u8)))) b x1.1).2).2).isEmpty || true) then
  bif decide ((([] : List Int).length + (((rd (.pair (.int .u64) (.pair (.int .i64) (.slice 5 (.int .u8)))) b x1.1).2).2).length) * 1 ≤ LIM) then
  bif decide ((x1.2.1.length + 1) * 40 ≤ LIM) then
  rec1 ((IntKind.wrap .i64 (x1.1 + 1)), (x1.2.1 ++ ([((rd (.pair (.int .u64) (.pair (.int .i64) (.slice 5 (.int .u8)))) b x1.1).1, (((rd (.pair (.int .u64) (.pair (.int .i64) (.slice 5 (.int .u8)))) b x1.1).2).1, ([] : List Int) ++ (((rd (.pair (.int .u64) (.pair (.int .i64) (.slice 5 (.int .u8)))) b x1.1).2).2)))])), ((), ()))
  else none
  else none
  else none)) (
  bif (!(((rd (.pair (.int .u64) (.pair (.int .i64) (.slice 5 (.int .u8)))) b x1.1).2).2).isEmpty || true) then
  bif decide ((([] : List Int).length + (((rd (.pair (.int .u64) (.pair (.int .i64) (.slice 5 (.int .u8)))) b x1.1).2).2).length) * 1 ≤ LIM) then
  (fun o => both o o) (
  bif decide ((x1.2.1.length + 1) * 40 ≤ LIM) then
  rec1 ((IntKind.wrap .i64 (x1.1 + 1)), (x1.2.1 ++ ([((rd (.pair (.int .u64) (.pair (.int .i64) (.slice 5 (.int .u8)))) b x1.1).1, (((rd (.pair (.int .u64) (.pair (.int .i64) (.slice 5 (.int .u8)))) b x1.1).2).1, ([] : List Int) ++ (((rd (.pair (.int .u64) (.pair (.int .i64) (.slice 5 (.int .u8)))) b x1.1).2).2)))])), ((), ()))
  else none)
  else none
  else none)))) (both (
  (both (
  (fun o => both o o) (
  bif (!(((rd (.pair (.int .u64) (.pair (.int .i64) (.slice 5 (.int .u8)))) b x1.1).2).2).isEmpty || true) then
  bif decide ((([] : List Int).length + (((rd (.pair (.int .u64) (.pair (.int .i64) (.slice 5 (.int .u8)))) b x1.1).2).2).length) * 1 ≤ LIM) then
  bif decide ((x1.2.1.length + 1) * 40 ≤ LIM) then
  rec1 ((IntKind.wrap .i64 (x1.1 + 1)), (x1.2.1 ++ ([((rd (.pair (.int .u64) (.pair (.int .i64) (.slice 5 (.int .u8)))) b x1.1).1, (((rd (.pair (.int .u64) (.pair (.int .i64) (.slice 5 (.int .u8)))) b x1.1).2).1, ([] : List Int) ++ (((rd (.pair (.int .u64) (.pair (.int .i64) (.slice 5 (.int .u8)))) b x1.1).2).2)))])), ((), ()))
  else none
  else none
  else none)) (both (
  (both (
  bif (!(((rd (.pair (.int .u64) (.pair (.int .i64) (.slice 5 (.int .u8)))) b x1.1).2).2).isEmpty || true) then
  bif decide ((([] : List Int).length + (((rd (.pair (.int .u64) (.pair (.int .i64) (.slice 5 (.int .u8)))) b x1.1).2).2).length) * 1 ≤ LIM) then
  bif decide ((x1.2.1.length + 1) * 40 ≤ LIM) then
  rec1 ((IntKind.wrap .i64 (x1.1 + 1)), (x1.2.1 ++ ([((rd (.pair (.int .u64) (.pair (.int .i64) (.slice 5 (.int .u8)))) b x1.1).1, (((rd (.pair (.int .u64) (.pair (.int .i64) (.slice 5 (.int .u8)))) b x1.1).2).1, ([] : List Int) ++ (((rd (.pair (.int .u64) (.pair (.int .i64) (.slice 5 (.int .u8)))) b x1.1).2).2)))])), ((), ()))
  else none
  else none
  else none) (
  bif (!(((rd (.pair (.int .u64) (.pair (.int .i64) (.slice 5 (.int .u8)))) b x1.1).2).2).isEmpty || true) then
  bif decide ((([] : List Int).length + (((rd (.pair (.int .u64) (.pair (.int .i64) (.slice 5 (.int .u8)))) b x1.1).2).2).length) * 1 ≤ LIM) then
  (both (
  bif decide ((x1.2.1.length + 1) * 40 ≤ LIM) then
  rec1 ((IntKind.wrap .i64 (x1.1 + 1)), (x1.2.1 ++ ([((rd (.pair (.int .u64) (.pair (.int .i64) (.slice 5 (.int .u8)))) b x1.1).1, (((rd (.pair (.int .u64) (.pair (.int .i64) (.slice 5 (.int .u8)))) b x1.1).2).1, ([] : List Int) ++ (((rd (.pair (.int .u64) (.pair (.int .i64) (.slice 5 (.int .u8)))) b x1.1).2).2)))])), ((), ()))
  else none) (
  (fun o => both o o) (
  bif decide ((x1.2.1.length + 1) * 40 ≤ LIM) then
  rec1 ((IntKind.wrap .i64 (x1.1 + 1)), (x1.2.1 ++ ([((rd (.pair (.int .u64) (.pair (.int .i64) (.slice 5 (.int .u8)))) b x1.1).1, (((rd (.pair (.int .u64) (.pair (.int .i64) (.slice 5 (.int .u8)))) b x1.1).2).1, ([] : List Int) ++ (((rd (.pair (.int .u64) (.pair (.int .i64) (.slice 5 (.int .u8)))) b x1.1).2).2)))])), ((), ()))
  else none)))
  else none
  else none))) (
  bif (!(((rd (.pair (.int .u64) (.pair (.int .i64) (.slice 5 (.int .u8)))) b x1.1).2).2).isEmpty || true) then
  bif decide ((([] : List Int).length + (((rd (.pair (.int .u64) (.pair (.int .i64) (.slice 5 (.int .u8)))) b x1.1).2).2).length) * 1 ≤ LIM) then
  (both (
  bif decide ((x1.2.1.length + 1) * 40 ≤ LIM) then
  rec1 ((IntKind.wrap .i64 (x1.1 + 1)), (x1.2.1 ++ ([((rd (.pair (.int .u64) (.pair (.int .i64) (.slice 5 (.int .u8)))) b x1.1).1, (((rd (.pair (.int .u64) (.pair (.int .i64) (.slice 5 (.int .u8)))) b x1.1).2).1, ([] : List Int) ++ (((rd (.pair (.int .u64) (.pair (.int .i64) (.slice 5 (.int .u8)))) b x1.1).2).2)))])), ((), ()))
  else none) (
  (both (
  bif decide ((x1.2.1.length + 1) * 40 ≤ LIM) then
  rec1 ((IntKind.wrap .i64 (x1.1 + 1)), (x1.2.1 ++ ([((rd (.pair (.int .u64) (.pair (.int .i64) (.slice 5 (.int .u8)))) b x1.1).1, (((rd (.pair (.int .u64) (.pair (.int .i64) (.slice 5 (.int .u8)))) b x1.1).2).1, ([] : List Int) ++ (((rd (.pair (.int .u64) (.pair (.int .i64) (.slice 5 (.int .u8)))) b x1.1).2).2)))])), ((), ()))
  else none) (
  (fun o => both o o) (
  bif decide ((x1.2.1.length + 1) * 40 ≤ LIM) then
  rec1 ((IntKind.wrap .i64 (x1.1 + 1)), (x1.2.1 ++ ([((rd (.pair (.int .u64) (.pair (.int .i64) (.slice 5 (.int .u8)))) b x1.1).1, (((rd (.pair (.int .u64) (.pair (.int .i64) (.slice 5 (.int .u8)))) b x1.1).2).1, ([] : List Int) ++ (((rd (.pair (.int .u64) (.pair (.int .i64) (.slice 5 (.int .u8)))) b x1.1).2).2)))])), ((), ()))
  else none)))))
  else none
  else none)))) (both (
  (both (
  (fun o => both o o) (
  bif (!(((rd (.pair (.int .u64) (.pair (.int .i64) (.slice 5 (.int .u8)))) b x1.1).2).2).isEmpty || true) then
  bif decide ((([] : List Int).length + (((rd (.pair (.int .u64) (.pair (.int .i64) (.slice 5 (.int .u8)))) b x1.1).2).2).length) * 1 ≤ LIM) then
  bif decide ((x1.2.1.length + 1) * 40 ≤ LIM) then
  rec1 ((IntKind.wrap .i64 (x1.1 + 1)), (x1.2.1 ++ ([((rd (.pair (.int .u64) (.pair (.int .i64) (.slice 5 (.int .u8)))) b x1.1).1, (((rd (.pair (.int .u64) (.pair (.int .i64) (.slice 5 (.int .u8)))) b x1.1).2).1, ([] : List Int) ++ (((rd (.pair (.int .u64) (.pair (.int .i64) (.slice 5 (.int .u8)))) b x1.1).2).2)))])), ((), ()))
  else none
  else none
  else none)) (both (
  (both (
  bif (!(((rd (.pair (.int .u64) (.pair (.int .i64) (.slice 5 (.int .u8)))) b x1.1).2).2).isEmpty || true) then
  bif decide ((([] : List Int).length + (((rd (.pair (.int .u64) (.pair (.int .i64) (.slice 5 (.int .u8)))) b x1.1).2).2).length) * 1 ≤ LIM) then
  bif decide ((x1.2.1.length + 1) * 40 ≤ LIM) then
  rec1 ((IntKind.wrap .i64 (x1.1 + 1)), (x1.2.1 ++ ([((rd (.pair (.int .u64) (.pair (.int .i64) (.slice 5 (.int .u8)))) b x1.1).1, (((rd (.pair (.int .u64) (.pair (.int .i64) (.slice 5 (.int .u8)))) b x1.1).2).1, ([] : List Int) ++ (((rd (.pair (.int .u64) (.pair (.int .i64) (.slice 5 (.int .u8)))) b x1.1).2).2)))])), ((), ()))
  else none
  else none
  else none) (
  bif (!(((rd (.pair (.int .u64) (.pair (.int .i64) (.slice 5 (.int .u8)))) b x1.1).2).2).isEmpty || true) then
  bif decide ((([] : List Int).length + (((rd (.pair (.int .u64) (.pair (.int .i64) (.slice 5 (.int .u8)))) b x1.1).2).2).length) * 1 ≤ LIM) then
  (both (
  bif decide ((x1.2.1.length + 1) * 40 ≤ LIM) then
  rec1 ((IntKind.wrap .i64 (x1.1 + 1)), (x1.2.1 ++ ([((rd (.pair (.int .u64) (.pair (.int .i64) (.slice 5 (.int .u8)))) b x1.1).1, (((rd (.pair (.int .u64) (.pair (.int .i64) (.slice 5 (.int .u8)))) b x1.1).2).1, ([] : List Int) ++ (((rd (.pair (.int .u64) (.pair (.int .i64) (.slice 5 (.int .u8)))) b x1.1).2).2)))])), ((), ()))
  else none) (
  (fun o => both o o) (
  bif decide ((x1.2.1.length + 1) * 40 ≤ LIM) then
  rec1 ((IntKind.wrap .i64 (x1.1 + 1)), (x1.2.1 ++ ([((rd (.pair (.int .u64) (.pair (.int .i64) (.slice 5 (.int .u8)))) b x1.1).1, (((rd (.pair (.int .u64) (.pair (.int .i64) (.slice 5 (.int .u8)))) b x1.1).2).1, ([] : List Int) ++ (((rd (.pair (.int .u64) (.pair (.int .i64) (.slice 5 (.int .u8)))) b x1.1).2).2)))])), ((), ()))
  else none)))
  else none
  else none))) (
  bif (!(((rd (.pair (.int .u64) (.pair (.int .i64) (.slice 5 (.int .u8)))) b x1.1).2).2).isEmpty || true) then
  bif decide ((([] : List Int).length + (((rd (.pair (.int .u64) (.pair (.int .i64) (.slice 5 (.int .u8)))) b x1.1).2).2).length) * 1 ≤ LIM) then
  (both (
  bif decide ((x1.2.1.length + 1) * 40 ≤ LIM) then
  rec1 ((IntKind.wrap .i64 (x1.1 + 1)), (x1.2.1 ++ ([((rd (.pair (.int .u64) (.pair (.int .i64) (.slice 5 (.int .u8)))) b x1.1).1, (((rd (.pair (.int .u64) (.pair (.int .i64) (.slice 5 (.int .u8)))) b x1.1).2).1, ([] : List Int) ++ (((rd (.pair (.int .u64) (.pair (.int .i64) (.slice 5 (.int .u8)))) b x1.1).2).2)))])), ((), ()))
  else none) (
  (both (
  bif decide ((x1.2.1.length + 1) * 40 ≤ LIM) then
  rec1 ((IntKind.wrap .i64 (x1.1 + 1)), (x1.2.1 ++ ([((rd (.pair (.int .u64) (.pair (.int .i64) (.slice 5 (.int .u8)))) b x1.1).1, (((rd (.pair (.int .u64) (.pair (.int .i64) (.slice 5 (.int .u8)))) b x1.1).2).1, ([] : List Int) ++ (((rd (.pair (.int .u64) (.pair (.int .i64) (.slice 5 (.int .u8)))) b x1.1).2).2)))])), ((), ()))
  else none) (
  (fun o => both o o) (
  bif decide ((x1.2.1.length + 1) * 40 ≤ LIM) then
  rec1 ((IntKind.wrap .i64 (x1.1 + 1)), (x1.2.1 ++ ([((rd (.pair (.int .u64) (.pair (.int .i64) (.slice 5 (.int .u8)))) b x1.1).1, (((rd (.pair (.int .u64) (.pair (.int .i64) (.slice 5 (.int .u8)))) b x1.1).2).1, ([] : List Int) ++ (((rd (.pair (.int .u64) (.pair (.int .i64) (.slice 5 (.int .u8)))) b x1.1).2).2)))])), ((), ()))
  else none)))))
  else none
  else none)))) (
  bif (!(((rd (.pair (.int .u64) (.pair (.int .i64) (.slice 5 (.int .u8)))) b x1.1).2).2).isEmpty || true) then
  bif decide ((([] : List Int).length + (((rd (.pair (.int .u64) (.pair (.int .i64) (.slice 5 (.int .u8)))) b x1.1).2).2).length) * 1 ≤ LIM) then
  (both (
  (fun o => both o o) (
  bif decide ((x1.2.1.length + 1) * 40 ≤ LIM) then
  rec1 ((IntKind.wrap .i64 (x1.1 + 1)), (x1.2.1 ++ ([((rd (.pair (.int .u64) (.pair (.int .i64) (.slice 5 (.int .u8)))) b x1.1).1, (((rd (.pair (.int .u64) (.pair (.int .i64) (.slice 5 (.int .u8)))) b x1.1).2).1, ([] : List Int) ++ (((rd (.pair (.int .u64) (.pair (.int .i64) (.slice 5 (.int .u8)))) b x1.1).2).2)))])), ((), ()))
  else none)) (both (
  (both (
  bif decide ((x1.2.1.length + 1) * 40 ≤ LIM) then
  rec1 ((IntKind.wrap .i64 (x1.1 + 1)), (x1.2.1 ++ ([((rd (.pair (.int .u64) (.pair (.int .i64) (.slice 5 (.int .u8)))) b x1.1).1, (((rd (.pair (.int .u64) (.pair (.int .i64) (.slice 5 (.int .u8)))) b x1.1).2).1, ([] : List Int) ++ (((rd (.pair (.int .u64) (.pair (.int .i64) (.slice 5 (.int .u8)))) b x1.1).2).2)))])), ((), ()))
  else none) (
  (both (
  bif decide ((x1.2.1.length + 1) * 40 ≤ LIM) then
  rec1 ((IntKind.wrap .i64 (x1.1 + 1)), (x1.2.1 ++ ([((rd (.pair (.int .u64) (.pair (.int .i64) (.slice 5 (.int .u8)))) b x1.1).1, (((rd (.pair (.int .u64) (.pair (.int .i64) (.slice 5 (.int .u8)))) b x1.1).2).1, ([] : List Int) ++ (((rd (.pair (.int .u64) (.pair (.int .i64) (.slice 5 (.int .u8)))) b x1.1).2).2)))])), ((), ()))
  else none) (
  (fun o => both o o) (
  bif decide ((x1.2.1.length + 1) * 40 ≤ LIM) then
  rec1 ((IntKind.wrap .i64 (x1.1 + 1)), (x1.2.1 ++ ([((rd (.pair (.int .u64) (.pair (.int .i64) (.slice 5 (.int .u8)))) b x1.1).1, (((rd (.pair (.int .u64) (.pair (.int .i64) (.slice 5 (.int .u8)))) b x1.1).2).1, ([] : List Int) ++ (((rd (.pair (.int .u64) (.pair (.int .i64) (.slice 5 (.int .u8)))) b x1.1).2).2)))])), ((), ()))
  else none)))))) (
  (both (
  bif decide ((x1.2.1.length + 1) * 40 ≤ LIM) then
  rec1 ((IntKind.wrap .i64 (x1.1 + 1)), (x1.2.1 ++ ([((rd (.pair (.int .u64) (.pair (.int .i64) (.slice 5 (.int .u8)))) b x1.1).1, (((rd (.pair (.int .u64) (.pair (.int .i64) (.slice 5 (.int .u8)))) b x1.1).2).1, ([] : List Int) ++ (((rd (.pair (.int .u64) (.pair (.int .i64) (.slice 5 (.int .u8)))) b x1.1).2).2)))])), ((), ()))
  else none) (
  (both (
  bif decide ((x1.2.1.length + 1) * 40 ≤ LIM) then
  rec1 ((IntKind.wrap .i64 (x1.1 + 1)), (x1.2.1 ++ ([((rd (.pair (.int .u64) (.pair (.int .i64) (.slice 5 (.int .u8)))) b x1.1).1, (((rd (.pair (.int .u64) (.pair (.int .i64) (.slice 5 (.int .u8)))) b x1.1).2).1, ([] : List Int) ++ (((rd (.pair (.int .u64) (.pair (.int .i64) (.slice 5 (.int .u8)))) b x1.1).2).2)))])), ((), ()))
  else none) (
  (fun o => both o o) (
  bif decide ((x1.2.1.length + 1) * 40 ≤ LIM) then
  rec1 ((IntKind.wrap .i64 (x1.1 + 1)), (x1.2.1 ++ ([((rd (.pair (.int .u64) (.pair (.int .i64) (.slice 5 (.int .u8)))) b x1.1).1, (((rd (.pair (.int .u64) (.pair (.int .i64) (.slice 5 (.int .u8)))) b x1.1).2).1, ([] : List Int) ++ (((rd (.pair (.int .u64) (.pair (.int .i64) (.slice 5 (.int .u8)))) b x1.1).2).2)))])), ((), ()))
  else none))))))))
  else none
  else none))))))))
  else none)
  else (
  some x1.2.1)) (0, ([] : List (Int × (Int × List Int))), ((), ()))
theorem ev17 (b : List (Int × (Int × List Int))) : evF C16 H17 Try.f17 (encs [.aggA (.slice 39 (.pair (.int .u64) (.pair (.int .i64) (.slice 5 (.int .u8)))))] b) (RT.dec (.one (.agg [.fresh 39 (.pair (.int .u64) (.pair (.int .i64) (.slice 5 (.int .u8))))]))) = F17 b := by kernel_rfl
noncomputable def C17 : Ctx := Ctx.addA C16 17 [.aggA (.slice 39 (.pair (.int .u64) (.pair (.int .i64) (.slice 5 (.int .u8)))))] (.one (.agg [.fresh 39 (.pair (.int .u64) (.pair (.int .i64) (.slice 5 (.int .u8))))])) F17
theorem s17 : C17.Sound := Ctx.Sound.addA (C := C16) mixed s16 Try.func17 ev17
/-! damson/damsonref01.SameBytes -/
def H50 : Nat → Head := fun _ => ⟨[], []⟩
noncomputable def F50 (b : List Int × List Int) : Option Bool :=
 some (decide (b.1 = b.2))
theorem ev50 (b : List Int × List Int) : evF C17 H50 Try.f50 (encs [.one (.slice 5 (.int .u8)), .one (.slice 5 (.int .u8))] b) (RT.dec (.one (.leaf (.bool)))) = F50 b := by kernel_rfl
noncomputable def C50 : Ctx := Ctx.add C17 50 [.one (.slice 5 (.int .u8)), .one (.slice 5 (.int .u8))] (.one (.leaf (.bool))) F50
theorem s50 : C50.Sound := Ctx.Sound.add (C := C17) mixed s17 Try.func50 ev50
/-! damson/damsonref05.one -/
def H53 : Nat → Head := fun _ => ⟨[], []⟩
noncomputable def F53 (b : (Int × (Int × List Int)) × (Int × (Int × List Int))) : Option Bool :=
 bif ((bif decide (b.1.1 = b.2.1) then decide (b.1.2.1 = b.2.2.1) else false) == true) then (
 (F50 (b.1.2.2, b.2.2.2)).bind fun r1 =>
 some r1)
 else (
 some false)
theorem ev53 (b : (Int × (Int × List Int)) × (Int × (Int × List Int))) : evF C50 H53 Try.f53 (encs [.agg (.pair (.int .u64) (.pair (.int .i64) (.slice 5 (.int .u8)))), .agg (.pair (.int .u64) (.pair (.int .i64) (.slice 5 (.int .u8))))] b) (RT.dec (.one (.leaf (.bool)))) = F53 b := by kernel_rfl
noncomputable def C53 : Ctx := Ctx.add C50 53 [.agg (.pair (.int .u64) (.pair (.int .i64) (.slice 5 (.int .u8)))), .agg (.pair (.int .u64) (.pair (.int .i64) (.slice 5 (.int .u8))))] (.one (.leaf (.bool))) F53
theorem s53 : C53.Sound := Ctx.Sound.add (C := C50) mixed s50 Try.func53 ev53
/-! damson/damsonref05.place -/
def H55 : Nat → Head
  | 2 => ⟨[.data 4 (.int .i64), .data 9 (.int .i64)], [12288]⟩
  | _ => ⟨[], []⟩
noncomputable def F55 (b : List (Int × (Int × List Int)) × (Int × (Int × List Int))) : Option Int :=
 lfp (fun (rec1 : (Int × Int) → Option Int) (x1 : Int × Int) =>
  bif decide (x1.2 < (b.1.length : Int)) then (
  bif inb x1.2 b.1.length then
  (F53 (((rd (.pair (.int .u64) (.pair (.int .i64) (.slice 5 (.int .u8)))) b.1 x1.2).1, (((rd (.pair (.int .u64) (.pair (.int .i64) (.slice 5 (.int .u8)))) b.1 x1.2).2).1, ((rd (.pair (.int .u64) (.pair (.int .i64) (.slice 5 (.int .u8)))) b.1 x1.2).2).2)), (b.2.1, (b.2.2.1, b.2.2.2)))).bind fun r2 =>
  bif r2 then (
  some x1.2)
  else (
  rec1 (x1.1, (IntKind.wrap .i64 (x1.2 + 1))))
  else none)
  else (
  some (-1))) (0, 0)
theorem ev55 (b : List (Int × (Int × List Int)) × (Int × (Int × List Int))) : evF C53 H55 Try.f55 (encs [.one (.slice 39 (.pair (.int .u64) (.pair (.int .i64) (.slice 5 (.int .u8))))), .agg (.pair (.int .u64) (.pair (.int .i64) (.slice 5 (.int .u8))))] b) (RT.dec (.one (.leaf (.int .i64)))) = F55 b := by kernel_rfl
noncomputable def C55 : Ctx := Ctx.add C53 55 [.one (.slice 39 (.pair (.int .u64) (.pair (.int .i64) (.slice 5 (.int .u8))))), .agg (.pair (.int .u64) (.pair (.int .i64) (.slice 5 (.int .u8))))] (.one (.leaf (.int .i64))) F55
theorem s55 : C55.Sound := Ctx.Sound.add (C := C53) mixed s53 Try.func55 ev55
/-! damson/damsonref05.Check -/
def H24 : Nat → Head
  | 4 => ⟨[.data 2 (.int .i64), .data 12 (.int .i64)], [4096]⟩
  | _ => ⟨[], []⟩
noncomputable def F24 (b : List (Int × (Int × List Int))) : Option Int :=
 bif decide (1048576 < (b.length : Int)) then (
 some 1)
 else (
 lfp (fun (rec1 : (Int × Int) → Option Int) (x1 : Int × Int) =>
  bif decide (x1.2 < (b.length : Int)) then (
  bif inb x1.2 b.length then
  bif ((bif decide (((rd (.pair (.int .u64) (.pair (.int .i64) (.slice 5 (.int .u8)))) b x1.2).2).1 < (-1)) then true else decide (x1.2 ≤ ((rd (.pair (.int .u64) (.pair (.int .i64) (.slice 5 (.int .u8)))) b x1.2).2).1)) == false) then (
  bif ((bif (bif decide (0 ≤ ((rd (.pair (.int .u64) (.pair (.int .i64) (.slice 5 (.int .u8)))) b x1.2).2).1) then (!decide ((rd (.pair (.int .u64) (.pair (.int .i64) (.slice 5 (.int .u8)))) b x1.2).1 = 0)) else false) then true else decide (4096 < ((((rd (.pair (.int .u64) (.pair (.int .i64) (.slice 5 (.int .u8)))) b x1.2).2).2).length : Int))) == false) then (
  (F55 (b, ((rd (.pair (.int .u64) (.pair (.int .i64) (.slice 5 (.int .u8)))) b x1.2).1, (((rd (.pair (.int .u64) (.pair (.int .i64) (.slice 5 (.int .u8)))) b x1.2).2).1, ((rd (.pair (.int .u64) (.pair (.int .i64) (.slice 5 (.int .u8)))) b x1.2).2).2)))).bind fun r2 =>
  bif decide (r2 < x1.2) then (
  some 1)
  else (
  rec1 (x1.1, (IntKind.wrap .i64 (x1.2 + 1)))))
  else (
  some 1))
  else (
  some 1)
  else none)
  else (
  some 0)) (0, 0))
theorem ev24 (b : List (Int × (Int × List Int))) : evF C55 H24 Try.f24 (encs [.agg (.slice 39 (.pair (.int .u64) (.pair (.int .i64) (.slice 5 (.int .u8)))))] b) (RT.dec (.one (.leaf (.int .i64)))) = F24 b := by kernel_rfl
noncomputable def C24 : Ctx := Ctx.add C55 24 [.agg (.slice 39 (.pair (.int .u64) (.pair (.int .i64) (.slice 5 (.int .u8)))))] (.one (.leaf (.int .i64))) F24
theorem s24 : C24.Sound := Ctx.Sound.add (C := C55) mixed s55 Try.func24 ev24
/-! damson/damsonref05.with -/
def H52 : Nat → Head
  | 5000013 => ⟨[], [0, 0, 0, 0, 2, 2, 4, 4, 8, 8, 1, 1, 63, 16, 127, 0]⟩
  | _ => ⟨[], []⟩
noncomputable def F52 (b : List (Int × (Int × List Int)) × (Int × (Int × List Int))) : Option ((List (Int × (Int × List Int))) × Int × Int) :=
 (F24 b.1).bind fun r1 =>
 bif (bif (bif (!decide (r1 = 0)) then true else decide ((b.1.length : Int) ≤ b.2.2.1)) then true else decide (b.2.2.1 < (-1))) then (
 some (([] : List (Int × (Int × List Int))), 0, 1))
 else (
 bif decide (4096 < (b.2.2.2.length : Int)) then (
 some (([] : List (Int × (Int × List Int))), 0, 4))
 else (
 (F17 b.1).bind fun r2 =>
 (F55 (r2, (b.2.1, (b.2.2.1, b.2.2.2)))).bind fun r3 =>
 bif decide (0 ≤ r3) then (
 some (r2, r3, 0))
 else (
 bif decide ((r2.length : Int) = 1048576) then (
 some (([] : List (Int × (Int × List Int))), 0, 7))
 else (
 bif (!b.2.2.2.isEmpty || true) then
 bif decide ((([] : List Int).length + b.2.2.2.length) * 1 ≤ LIM) then
 bif decide ((r2.length + 1) * 40 ≤ LIM) then
 (fun o => both o o) (
 (both (
 (fun o => both o o) (
 some (r2 ++ ([(b.2.1, (b.2.2.1, ([] : List Int) ++ b.2.2.2))]), (IntKind.wrap .i64 (((r2 ++ ([(b.2.1, (b.2.2.1, ([] : List Int) ++ b.2.2.2))])).length : Int) - 1)), 0))) (
 some (r2 ++ ([(b.2.1, (b.2.2.1, ([] : List Int) ++ b.2.2.2))]), (IntKind.wrap .i64 (((r2 ++ ([(b.2.1, (b.2.2.1, ([] : List Int) ++ b.2.2.2))])).length : Int) - 1)), 0))))
 else none
 else none
 else none))))
theorem ev52 (b : List (Int × (Int × List Int)) × (Int × (Int × List Int))) : evF C24 H52 Try.f52 (encs [.aggA (.slice 39 (.pair (.int .u64) (.pair (.int .i64) (.slice 5 (.int .u8))))), .aggA (.pair (.int .u64) (.pair (.int .i64) (.slice 5 (.int .u8))))] b) (RT.dec (.tup [.agg [.fresh 39 (.pair (.int .u64) (.pair (.int .i64) (.slice 5 (.int .u8))))], .leaf (.int .i64), .leaf (.int .i64)])) = F52 b := by kernel_rfl
noncomputable def C52 : Ctx := Ctx.addA C24 52 [.aggA (.slice 39 (.pair (.int .u64) (.pair (.int .i64) (.slice 5 (.int .u8))))), .aggA (.pair (.int .u64) (.pair (.int .i64) (.slice 5 (.int .u8))))] (.tup [.agg [.fresh 39 (.pair (.int .u64) (.pair (.int .i64) (.slice 5 (.int .u8))))], .leaf (.int .i64), .leaf (.int .i64)]) F52
theorem s52 : C52.Sound := Ctx.Sound.addA (C := C24) mixed s24 Try.func52 ev52
/-! damson/damsonref05.Root -/
def H19 : Nat → Head := fun _ => ⟨[], []⟩
noncomputable def F19 (b : List (Int × (Int × List Int)) × Int × List Int) : Option ((List (Int × (Int × List Int))) × Int × Int) :=
 (F52 (b.1, (b.2.1, ((-1), b.2.2)))).bind fun r1 =>
 some (r1.1, r1.2.1, r1.2.2)
theorem ev19 (b : List (Int × (Int × List Int)) × Int × List Int) : evF C52 H19 Try.f19 (encs [.aggA (.slice 39 (.pair (.int .u64) (.pair (.int .i64) (.slice 5 (.int .u8))))), .one (.int .u64), .oneA (.slice 5 (.int .u8))] b) (RT.dec (.tup [.agg [.fresh 39 (.pair (.int .u64) (.pair (.int .i64) (.slice 5 (.int .u8))))], .leaf (.int .i64), .leaf (.int .i64)])) = F19 b := by kernel_rfl
noncomputable def C19 : Ctx := Ctx.addA C52 19 [.aggA (.slice 39 (.pair (.int .u64) (.pair (.int .i64) (.slice 5 (.int .u8))))), .one (.int .u64), .oneA (.slice 5 (.int .u8))] (.tup [.agg [.fresh 39 (.pair (.int .u64) (.pair (.int .i64) (.slice 5 (.int .u8))))], .leaf (.int .i64), .leaf (.int .i64)]) F19
theorem s19 : C19.Sound := Ctx.Sound.addA (C := C52) mixed s52 Try.func19 ev19
/-! damson/arena.Next -/
def H20 : Nat → Head := fun _ => ⟨[], []⟩
noncomputable def F20 (b : List (Int × (Int × List Int)) × Int × List Int) : Option ((List (Int × (Int × List Int))) × Int × Int) :=
 bif decide (b.2.1 < 0) then (
 some (([] : List (Int × (Int × List Int))), 0, 1))
 else (
 (F51 (b.1, (0, (b.2.1, b.2.2)))).bind fun r1 =>
 some (r1.1, r1.2.1, r1.2.2))
theorem ev20 (b : List (Int × (Int × List Int)) × Int × List Int) : evF C19 H20 Try.f20 (encs [.aggA (.slice 39 (.pair (.int .u64) (.pair (.int .i64) (.slice 5 (.int .u8))))), .one (.int .i64), .oneA (.slice 5 (.int .u8))] b) (RT.dec (.tup [.agg [.fresh 39 (.pair (.int .u64) (.pair (.int .i64) (.slice 5 (.int .u8))))], .leaf (.int .i64), .leaf (.int .i64)])) = F20 b := by kernel_rfl
noncomputable def C20 : Ctx := Ctx.addA C19 20 [.aggA (.slice 39 (.pair (.int .u64) (.pair (.int .i64) (.slice 5 (.int .u8))))), .one (.int .i64), .oneA (.slice 5 (.int .u8))] (.tup [.agg [.fresh 39 (.pair (.int .u64) (.pair (.int .i64) (.slice 5 (.int .u8))))], .leaf (.int .i64), .leaf (.int .i64)]) F20
theorem s20 : C20.Sound := Ctx.Sound.addA (C := C19) mixed s19 Try.func20 ev20
/-! damson/damsonref05.Next -/
def H21 : Nat → Head := fun _ => ⟨[], []⟩
noncomputable def F21 (b : List (Int × (Int × List Int)) × Int × List Int) : Option ((List (Int × (Int × List Int))) × Int × Int) :=
 bif decide (b.2.1 < 0) then (
 some (([] : List (Int × (Int × List Int))), 0, 1))
 else (
 (F52 (b.1, (0, (b.2.1, b.2.2)))).bind fun r1 =>
 some (r1.1, r1.2.1, r1.2.2))
theorem ev21 (b : List (Int × (Int × List Int)) × Int × List Int) : evF C20 H21 Try.f21 (encs [.aggA (.slice 39 (.pair (.int .u64) (.pair (.int .i64) (.slice 5 (.int .u8))))), .one (.int .i64), .oneA (.slice 5 (.int .u8))] b) (RT.dec (.tup [.agg [.fresh 39 (.pair (.int .u64) (.pair (.int .i64) (.slice 5 (.int .u8))))], .leaf (.int .i64), .leaf (.int .i64)])) = F21 b := by kernel_rfl
noncomputable def C21 : Ctx := Ctx.addA C20 21 [.aggA (.slice 39 (.pair (.int .u64) (.pair (.int .i64) (.slice 5 (.int .u8))))), .one (.int .i64), .oneA (.slice 5 (.int .u8))] (.tup [.agg [.fresh 39 (.pair (.int .u64) (.pair (.int .i64) (.slice 5 (.int .u8))))], .leaf (.int .i64), .leaf (.int .i64)]) F21
theorem s21 : C21.Sound := Ctx.Sound.addA (C := C20) mixed s20 Try.func21 ev21
/-! damson/damsonref05.Same -/
def H22 : Nat → Head
  | 4 => ⟨[.data 4 .bool, .data 16 (.int .i64)], [12288, 8192]⟩
  | 5000006 => ⟨[], [0, 0, 1, 1, 0, 0, 6, 6, 8, 8, 0, 0, 32, 32, 0, 0, 192, 192, 256, 256, 528, 528, 1024, 1024]⟩
  | _ => ⟨[], []⟩
noncomputable def F22 (b : List (Int × (Int × List Int)) × List (Int × (Int × List Int))) : Option Bool :=
 bif (!decide ((b.1.length : Int) = (b.2.length : Int))) then (
 some false)
 else (
 lfp (fun (rec1 : (Bool × Int) → Option Bool) (x1 : Bool × Int) =>
  bif decide (x1.2 < (b.1.length : Int)) then (
  (both (
  bif inb x1.2 b.1.length then
  bif inb x1.2 b.2.length then
  (F53 (((rd (.pair (.int .u64) (.pair (.int .i64) (.slice 5 (.int .u8)))) b.1 x1.2).1, (((rd (.pair (.int .u64) (.pair (.int .i64) (.slice 5 (.int .u8)))) b.1 x1.2).2).1, ((rd (.pair (.int .u64) (.pair (.int .i64) (.slice 5 (.int .u8)))) b.1 x1.2).2).2)), ((rd (.pair (.int .u64) (.pair (.int .i64) (.slice 5 (.int .u8)))) b.2 x1.2).1, (((rd (.pair (.int .u64) (.pair (.int .i64) (.slice 5 (.int .u8)))) b.2 x1.2).2).1, ((rd (.pair (.int .u64) (.pair (.int .i64) (.slice 5 (.int .u8)))) b.2 x1.2).2).2)))).bind fun r2 =>
  bif (!r2) then (
  some false)
  else (
  rec1 (x1.1, (IntKind.wrap .i64 (x1.2 + 1))))
  else none
  else none) (
  bif inb x1.2 b.2.length then
  bif inb x1.2 b.1.length then
  (F53 (((rd (.pair (.int .u64) (.pair (.int .i64) (.slice 5 (.int .u8)))) b.1 x1.2).1, (((rd (.pair (.int .u64) (.pair (.int .i64) (.slice 5 (.int .u8)))) b.1 x1.2).2).1, ((rd (.pair (.int .u64) (.pair (.int .i64) (.slice 5 (.int .u8)))) b.1 x1.2).2).2)), ((rd (.pair (.int .u64) (.pair (.int .i64) (.slice 5 (.int .u8)))) b.2 x1.2).1, (((rd (.pair (.int .u64) (.pair (.int .i64) (.slice 5 (.int .u8)))) b.2 x1.2).2).1, ((rd (.pair (.int .u64) (.pair (.int .i64) (.slice 5 (.int .u8)))) b.2 x1.2).2).2)))).bind fun r2 =>
  bif (!r2) then (
  some false)
  else (
  rec1 (x1.1, (IntKind.wrap .i64 (x1.2 + 1))))
  else none
  else none)))
  else (
  some true)) (false, 0))
theorem ev22 (b : List (Int × (Int × List Int)) × List (Int × (Int × List Int))) : evF C21 H22 Try.f22 (encs [.agg (.slice 39 (.pair (.int .u64) (.pair (.int .i64) (.slice 5 (.int .u8))))), .agg (.slice 39 (.pair (.int .u64) (.pair (.int .i64) (.slice 5 (.int .u8)))))] b) (RT.dec (.one (.leaf (.bool)))) = F22 b := by kernel_rfl
noncomputable def C22 : Ctx := Ctx.add C21 22 [.agg (.slice 39 (.pair (.int .u64) (.pair (.int .i64) (.slice 5 (.int .u8))))), .agg (.slice 39 (.pair (.int .u64) (.pair (.int .i64) (.slice 5 (.int .u8)))))] (.one (.leaf (.bool))) F22
theorem s22 : C22.Sound := Ctx.Sound.add (C := C21) mixed s21 Try.func22 ev22
/-! damson/arena.Check -/
def H23 : Nat → Head := fun _ => ⟨[], []⟩
noncomputable def F23 (b : List (Int × (Int × List Int))) : Option Int :=
 (F54 b).bind fun r1 =>
 some r1.2
theorem ev23 (b : List (Int × (Int × List Int))) : evF C22 H23 Try.f23 (encs [.agg (.slice 39 (.pair (.int .u64) (.pair (.int .i64) (.slice 5 (.int .u8)))))] b) (RT.dec (.one (.leaf (.int .i64)))) = F23 b := by kernel_rfl
noncomputable def C23 : Ctx := Ctx.add C22 23 [.agg (.slice 39 (.pair (.int .u64) (.pair (.int .i64) (.slice 5 (.int .u8)))))] (.one (.leaf (.int .i64))) F23
theorem s23 : C23.Sound := Ctx.Sound.add (C := C22) mixed s22 Try.func23 ev23
/-! bytes.Equal -/
def H87 : Nat → Head := fun _ => ⟨[], []⟩
noncomputable def F87 (b : List Int × List Int) : Option Bool :=
 some (decide (b.1 = b.2))
theorem ev87 (b : List Int × List Int) : evF C23 H87 Try.f87 (encs [.one (.slice 5 (.int .u8)), .one (.slice 5 (.int .u8))] b) (RT.dec (.one (.leaf (.bool)))) = F87 b := by kernel_rfl
noncomputable def C87 : Ctx := Ctx.add C23 87 [.one (.slice 5 (.int .u8)), .one (.slice 5 (.int .u8))] (.one (.leaf (.bool))) F87
theorem s87 : C87.Sound := Ctx.Sound.add (C := C23) mixed s23 Try.func87 ev87
/-! damson/arena.one -/
def H57 : Nat → Head := fun _ => ⟨[], []⟩
noncomputable def F57 (b : (Int × (Int × List Int)) × (Int × (Int × List Int))) : Option Bool :=
 bif ((bif decide (b.1.1 = b.2.1) then decide (b.1.2.1 = b.2.2.1) else false) == true) then (
 (F87 (b.1.2.2, b.2.2.2)).bind fun r1 =>
 some r1)
 else (
 some false)
theorem ev57 (b : (Int × (Int × List Int)) × (Int × (Int × List Int))) : evF C87 H57 Try.f57 (encs [.agg (.pair (.int .u64) (.pair (.int .i64) (.slice 5 (.int .u8)))), .agg (.pair (.int .u64) (.pair (.int .i64) (.slice 5 (.int .u8))))] b) (RT.dec (.one (.leaf (.bool)))) = F57 b := by kernel_rfl
noncomputable def C57 : Ctx := Ctx.add C87 57 [.agg (.pair (.int .u64) (.pair (.int .i64) (.slice 5 (.int .u8)))), .agg (.pair (.int .u64) (.pair (.int .i64) (.slice 5 (.int .u8))))] (.one (.leaf (.bool))) F57
theorem s57 : C57.Sound := Ctx.Sound.add (C := C87) mixed s87 Try.func57 ev57
/-! slices.EqualFunc[[]damson/api.Term,[]damson/api.Term,damson/api.Term,damson/api.Term] -/
def H56057 : Nat → Head
  | 4 => ⟨[.data 6 .bool, .data 17 (.int .i64)], []⟩
  | _ => ⟨[], []⟩
noncomputable def F56057 (b : List (Int × (Int × List Int)) × List (Int × (Int × List Int)) × Unit) : Option Bool :=
 bif (!decide ((b.1.length : Int) = (b.2.1.length : Int))) then (
 some false)
 else (
 lfp (fun (rec1 : (Bool × Int) → Option Bool) (x1 : Bool × Int) =>
  bif decide (x1.2 < (b.1.length : Int)) then (
  bif inb x1.2 b.1.length then
  bif inb x1.2 b.2.1.length then
  (F57 (((rd (.pair (.int .u64) (.pair (.int .i64) (.slice 5 (.int .u8)))) b.1 x1.2).1, (((rd (.pair (.int .u64) (.pair (.int .i64) (.slice 5 (.int .u8)))) b.1 x1.2).2).1, ((rd (.pair (.int .u64) (.pair (.int .i64) (.slice 5 (.int .u8)))) b.1 x1.2).2).2)), ((rd (.pair (.int .u64) (.pair (.int .i64) (.slice 5 (.int .u8)))) b.2.1 x1.2).1, (((rd (.pair (.int .u64) (.pair (.int .i64) (.slice 5 (.int .u8)))) b.2.1 x1.2).2).1, ((rd (.pair (.int .u64) (.pair (.int .i64) (.slice 5 (.int .u8)))) b.2.1 x1.2).2).2)))).bind fun r2 =>
  bif (!r2) then (
  some false)
  else (
  rec1 (x1.1, (IntKind.wrap .i64 (x1.2 + 1))))
  else none
  else none)
  else (
  some true)) (false, 0))
theorem ev56057 (b : List (Int × (Int × List Int)) × List (Int × (Int × List Int)) × Unit) : evF C57 H56057 Try.f56 (encs [.one (.slice 39 (.pair (.int .u64) (.pair (.int .i64) (.slice 5 (.int .u8))))), .one (.slice 39 (.pair (.int .u64) (.pair (.int .i64) (.slice 5 (.int .u8))))), .fn 57] b) (RT.dec (.one (.leaf (.bool)))) = F56057 b := by kernel_rfl
noncomputable def C56057 : Ctx := Ctx.add C57 56 [.one (.slice 39 (.pair (.int .u64) (.pair (.int .i64) (.slice 5 (.int .u8))))), .one (.slice 39 (.pair (.int .u64) (.pair (.int .i64) (.slice 5 (.int .u8))))), .fn 57] (.one (.leaf (.bool))) F56057
theorem s56057 : C56057.Sound := Ctx.Sound.add (C := C57) mixed s57 Try.func56 ev56057
/-! damson/arena.Same -/
def H25 : Nat → Head := fun _ => ⟨[], []⟩
noncomputable def F25 (b : List (Int × (Int × List Int)) × List (Int × (Int × List Int))) : Option Bool :=
 (F56057 (b.1, b.2, ())).bind fun r1 =>
 some r1
theorem ev25 (b : List (Int × (Int × List Int)) × List (Int × (Int × List Int))) : evF C56057 H25 Try.f25 (encs [.agg (.slice 39 (.pair (.int .u64) (.pair (.int .i64) (.slice 5 (.int .u8))))), .agg (.slice 39 (.pair (.int .u64) (.pair (.int .i64) (.slice 5 (.int .u8)))))] b) (RT.dec (.one (.leaf (.bool)))) = F25 b := by kernel_rfl
noncomputable def C25 : Ctx := Ctx.add C56057 25 [.agg (.slice 39 (.pair (.int .u64) (.pair (.int .i64) (.slice 5 (.int .u8))))), .agg (.slice 39 (.pair (.int .u64) (.pair (.int .i64) (.slice 5 (.int .u8)))))] (.one (.leaf (.bool))) F25
theorem s25 : C25.Sound := Ctx.Sound.add (C := C56057) mixed s56057 Try.func25 ev25
/-! damson/damsonlaw05.ArenaDoes -/
def H3 : Nat → Head
  | 12 => ⟨[.data 124 (.int .i64)], [299008, 266240, 233472, 180224, 159744]⟩
  | 15 => ⟨[.data 134 (.int .i64)], [299008, 266240, 233472, 180224, 159744]⟩
  | 1000000 => ⟨[], [5, 6]⟩
  | 1000005 => ⟨[], [11]⟩
  | 1000006 => ⟨[], [12]⟩
  | 1000007 => ⟨[], [15]⟩
  | 1000008 => ⟨[], [18]⟩
  | 1000009 => ⟨[], [21]⟩
  | 5000010 => ⟨[], [0, 0, 0, 0, 3, 3, 4, 4, 8, 8, 8, 8, 56, 56, 72, 72, 136, 128, 256, 256, 256, 256, 1792, 1792, 2304, 2304, 4352, 4096, 8192, 8192, 8192, 8192, 57344, 57344, 73728, 73728, 196608, 131072, 262144, 262144, 262144, 262144, 1835008, 1835008, 2359296, 2359296, 4456448, 4194304, 8388608, 8388608, 8388608, 8388608, 58720256, 58720256, 75497472, 75497472, 142606336, 134217728, 268435456, 268435456, 805306368, 805306368, 268435456, 268435456, 3489660928, 2415919104, 5637144576, 5637144576, 8858370048, 8858370048, 21474836480, 17179869184, 34359738368, 34359738368, 34359738368, 34359738368, 240518168576, 240518168576, 34359738368, 34359738368, 34359738368, 34359738368, 1958505086976, 1683627180032, 2508260900864, 2508260900864, 4432406249472, 4432406249472, 17592186044415, 8796093022208]⟩
  | 7000012 => ⟨[], [1]⟩
  | 9000000 => ⟨[], [1]⟩
  | 4000000 => ⟨[], [1099511627825]⟩
  | _ => ⟨[], []⟩
noncomputable def F3 (b : List (Int × (Int × List Int)) × List (Int × (Int × List Int)) × Int × Int × List Int) : Option Bool :=
 (F14 ()).bind fun r1 =>
 bif (!r1) then (
 some false)
 else (
 (F15 b.1).bind fun r2 =>
 bif ((!r2) == false) then (
 (F15 b.2.1).bind fun r3 =>
 bif ((!r3) == false) then (
 (F16 ([b.2.2.2.2])).bind fun r4 =>
 bif (!r4) then (
 some true)
 else (
 (F17 b.1).bind fun r5 =>
 (F18 (b.1, b.2.2.1, b.2.2.2.2)).bind fun r6 =>
 (F19 (b.1, b.2.2.1, b.2.2.2.2)).bind fun r7 =>
 (F20 (b.1, b.2.2.2.1, b.2.2.2.2)).bind fun r8 =>
 (F21 (b.1, b.2.2.2.1, b.2.2.2.2)).bind fun r9 =>
 (F22 (r6.1, r7.1)).bind fun r10 =>
 bif ((bif (bif r10 then decide (r6.2.1 = r7.2.1) else false) then decide (r6.2.2 = r7.2.2) else false) == true) then (
 (F22 (r8.1, r9.1)).bind fun r11 =>
 bif ((bif (bif r11 then decide (r8.2.1 = r9.2.1) else false) then decide (r8.2.2 = r9.2.2) else false) == true) then (
 (F23 b.1).bind fun r12 =>
 (F24 b.1).bind fun r13 =>
 bif (decide (r12 = r13) == true) then (
 (F25 (b.1, b.2.1)).bind fun r14 =>
 (F22 (b.1, b.2.1)).bind fun r15 =>
 lfp (fun (rec16 : Int → Option Bool) (x16 : Int) =>
  bif decide (x16 < (r6.1.length : Int)) then (
  bif inb x16 r6.1.length then
  lfp (fun (rec17 : Int → Option Bool) (x17 : Int) =>
   bif decide (x17 < ((((rd (.pair (.int .u64) (.pair (.int .i64) (.slice 5 (.int .u8)))) r6.1 x16).2).2).length : Int)) then (
   bif inb x16 r6.1.length then
   bif inb x17 (((rd (.pair (.int .u64) (.pair (.int .i64) (.slice 5 (.int .u8)))) r6.1 x16).2).2).length then
   bif inb x17 (((rd (.pair (.int .u64) (.pair (.int .i64) (.slice 5 (.int .u8)))) r6.1 x16).2).2).length then
   rec17 (IntKind.wrap .i64 (x17 + 1))
   else none
   else none
   else none)
   else (
   rec16 (IntKind.wrap .i64 (x16 + 1)))) 0
  else none)
  else (
  bif ((r14 == r15) == true) then (
  (F22 (b.1, r5)).bind fun r18 =>
  some r18)
  else (
  some false))) 0)
 else (
 lfp (fun (rec19 : Int → Option Bool) (x19 : Int) =>
  bif decide (x19 < (r6.1.length : Int)) then (
  bif inb x19 r6.1.length then
  lfp (fun (rec20 : Int → Option Bool) (x20 : Int) =>
   bif decide (x20 < ((((rd (.pair (.int .u64) (.pair (.int .i64) (.slice 5 (.int .u8)))) r6.1 x19).2).2).length : Int)) then (
   bif inb x19 r6.1.length then
   bif inb x20 (((rd (.pair (.int .u64) (.pair (.int .i64) (.slice 5 (.int .u8)))) r6.1 x19).2).2).length then
   bif inb x20 (((rd (.pair (.int .u64) (.pair (.int .i64) (.slice 5 (.int .u8)))) r6.1 x19).2).2).length then
   rec20 (IntKind.wrap .i64 (x20 + 1))
   else none
   else none
   else none)
   else (
   rec19 (IntKind.wrap .i64 (x19 + 1)))) 0
  else none)
  else (
  some false)) 0))
 else (
 lfp (fun (rec21 : Int → Option Bool) (x21 : Int) =>
  bif decide (x21 < (r6.1.length : Int)) then (
  bif inb x21 r6.1.length then
  lfp (fun (rec22 : Int → Option Bool) (x22 : Int) =>
   bif decide (x22 < ((((rd (.pair (.int .u64) (.pair (.int .i64) (.slice 5 (.int .u8)))) r6.1 x21).2).2).length : Int)) then (
   bif inb x21 r6.1.length then
   bif inb x22 (((rd (.pair (.int .u64) (.pair (.int .i64) (.slice 5 (.int .u8)))) r6.1 x21).2).2).length then
   bif inb x22 (((rd (.pair (.int .u64) (.pair (.int .i64) (.slice 5 (.int .u8)))) r6.1 x21).2).2).length then
   rec22 (IntKind.wrap .i64 (x22 + 1))
   else none
   else none
   else none)
   else (
   rec21 (IntKind.wrap .i64 (x21 + 1)))) 0
  else none)
  else (
  some false)) 0))
 else (
 lfp (fun (rec23 : Int → Option Bool) (x23 : Int) =>
  bif decide (x23 < (r6.1.length : Int)) then (
  bif inb x23 r6.1.length then
  lfp (fun (rec24 : Int → Option Bool) (x24 : Int) =>
   bif decide (x24 < ((((rd (.pair (.int .u64) (.pair (.int .i64) (.slice 5 (.int .u8)))) r6.1 x23).2).2).length : Int)) then (
   bif inb x23 r6.1.length then
   bif inb x24 (((rd (.pair (.int .u64) (.pair (.int .i64) (.slice 5 (.int .u8)))) r6.1 x23).2).2).length then
   bif inb x24 (((rd (.pair (.int .u64) (.pair (.int .i64) (.slice 5 (.int .u8)))) r6.1 x23).2).2).length then
   rec24 (IntKind.wrap .i64 (x24 + 1))
   else none
   else none
   else none)
   else (
   rec23 (IntKind.wrap .i64 (x23 + 1)))) 0
  else none)
  else (
  some false)) 0)))
 else (
 some true))
 else (
 some true))
theorem ev3 (b : List (Int × (Int × List Int)) × List (Int × (Int × List Int)) × Int × Int × List Int) : evF C25 H3 Try.f3 (encs [.agg (.slice 39 (.pair (.int .u64) (.pair (.int .i64) (.slice 5 (.int .u8))))), .agg (.slice 39 (.pair (.int .u64) (.pair (.int .i64) (.slice 5 (.int .u8))))), .one (.int .u64), .one (.int .i64), .one (.slice 5 (.int .u8))] b) (RT.dec (.one (.leaf (.bool)))) = F3 b := by kernel_rfl
noncomputable def C3 : Ctx := Ctx.add C25 3 [.agg (.slice 39 (.pair (.int .u64) (.pair (.int .i64) (.slice 5 (.int .u8))))), .agg (.slice 39 (.pair (.int .u64) (.pair (.int .i64) (.slice 5 (.int .u8))))), .one (.int .u64), .one (.int .i64), .one (.slice 5 (.int .u8))] (.one (.leaf (.bool))) F3
theorem s3 : C3.Sound := Ctx.Sound.add (C := C25) mixed s25 Try.func3 ev3
end Go.Proofs.Ytcpcbeeghjigkaa.R3
