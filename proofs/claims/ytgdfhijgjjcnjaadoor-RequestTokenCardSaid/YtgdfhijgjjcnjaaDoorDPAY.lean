/- Part of a proof: what the program's functions come to. -/
import Derived.Test.YtgdfhijgjjcnjaaDoorFwSort
import Derived.Test.YtgdfhijgjjcnjaaDoorProg
import Derived.KernelRfl
import Derived.WalkKit
set_option linter.unusedVariables false
set_option linter.unusedSimpArgs false
namespace Go.Proofs.YtgdfhijgjjcnjaaDoor.R5
open Go Go.Fw Go.Proofs Go.Shelf Go.RowKit Go.Lib Go.Sort
def sortRec_ren : Go.Shelf.Ren := ⟨fun | 6 => 44 | 15 => 59 | 14 => 58 | 28 => 73 | 29 => 74 | 20 => 65 | 21 => 66 | 22 => 67 | 23 => 68 | 24 => 69 | 25 => 70 | 26 => 71 | 27 => 72 | 46 => 77 | 47 => 78 | 48 => 79 | 49 => 80 | 50 => 81 | 57 => 82 | n => n, fun | 22 => 61 | 24 => 67 | 25 => 87 | 3 => 3 | 39 => 76 | 0 => 0 | 53 => 127 | 55 => 22 | 4 => 4 | 46 => 121 | 45 => 120 | 50 => 45 | 5 => 5 | 9 => 9 | 66 => 131 | 70 => 134 | 76 => 136 | 77 => 137 | n => n, fun | n => n⟩
theorem sortRec : Go.Proofs.SlLaysF0.n6 Tryd.prog sortRec_ren := {
  mixed := by kernel_rfl,
  f6 := ⟨Tryd.f44.name, by decide, Tryd.func44.trans (congrArg some (by kernel_rfl))⟩,
  f14 := ⟨Tryd.f58.name, by decide, Tryd.func58.trans (congrArg some (by kernel_rfl))⟩,
  f15 := Tryd.func59.trans (congrArg some (by kernel_rfl)),
  f20 := ⟨Tryd.f65.name, by decide, Tryd.func65.trans (congrArg some (by kernel_rfl))⟩,
  f21 := ⟨Tryd.f66.name, by decide, Tryd.func66.trans (congrArg some (by kernel_rfl))⟩,
  f22 := ⟨Tryd.f67.name, by decide, Tryd.func67.trans (congrArg some (by kernel_rfl))⟩,
  f23 := ⟨Tryd.f68.name, by decide, Tryd.func68.trans (congrArg some (by kernel_rfl))⟩,
  f24 := ⟨Tryd.f69.name, by decide, Tryd.func69.trans (congrArg some (by kernel_rfl))⟩,
  f25 := ⟨Tryd.f70.name, by decide, Tryd.func70.trans (congrArg some (by kernel_rfl))⟩,
  f26 := ⟨Tryd.f71.name, by decide, Tryd.func71.trans (congrArg some (by kernel_rfl))⟩,
  f27 := ⟨Tryd.f72.name, by decide, Tryd.func72.trans (congrArg some (by kernel_rfl))⟩,
  f28 := Tryd.func73.trans (congrArg some (by kernel_rfl)),
  f29 := Tryd.func74.trans (congrArg some (by kernel_rfl)),
  f46 := ⟨Tryd.f77.name, by decide, Tryd.func77.trans (congrArg some (by kernel_rfl))⟩,
  f47 := Tryd.func78.trans (congrArg some (by kernel_rfl)),
  f48 := Tryd.func79.trans (congrArg some (by kernel_rfl)),
  f49 := ⟨Tryd.f80.name, by decide, Tryd.func80.trans (congrArg some (by kernel_rfl))⟩,
  f50 := ⟨Tryd.f81.name, by decide, Tryd.func81.trans (congrArg some (by kernel_rfl))⟩,
  f57 := ⟨Tryd.f82.name, by decide, Tryd.func82.trans (congrArg some (by kernel_rfl))⟩,
  t0 := Tryd.underlying0,
  a0 := Tryd.isAgg0,
  z0 := Tryd.sizeOf0,
  v0 := Tryd.zeroValue0,
  t3 := Tryd.underlying3,
  a3 := Tryd.isAgg3,
  z3 := Tryd.sizeOf3,
  v3 := Tryd.zeroValue3,
  t4 := Tryd.underlying4,
  a4 := Tryd.isAgg4,
  z4 := Tryd.sizeOf4,
  v4 := Tryd.zeroValue4,
  t5 := Tryd.underlying5,
  a5 := Tryd.isAgg5,
  z5 := Tryd.sizeOf5,
  v5 := Tryd.zeroValue5,
  t9 := Tryd.underlying9,
  a9 := Tryd.isAgg9,
  z9 := Tryd.sizeOf9,
  v9 := Tryd.zeroValue9,
  t22 := Tryd.underlying61,
  a22 := Tryd.isAgg61,
  z22 := Tryd.sizeOf61,
  v22 := Tryd.zeroValue61,
  t25 := Tryd.underlying87,
  a25 := Tryd.isAgg87,
  z25 := Tryd.sizeOf87,
  v25 := Tryd.zeroValue87,
  t39 := Tryd.underlying76,
  a39 := Tryd.isAgg76,
  z39 := Tryd.sizeOf76,
  v39 := Tryd.zeroValue76,
  t45 := Tryd.underlying120,
  a45 := Tryd.isAgg120,
  z45 := Tryd.sizeOf120,
  v45 := Tryd.zeroValue120,
  t46 := Tryd.underlying121,
  a46 := Tryd.isAgg121,
  z46 := Tryd.sizeOf121,
  v46 := Tryd.zeroValue121,
  t50 := Tryd.underlying45,
  a50 := Tryd.isAgg45,
  z50 := Tryd.sizeOf45,
  v50 := Tryd.zeroValue45,
  t53 := Tryd.underlying127,
  a53 := Tryd.isAgg127,
  z53 := Tryd.sizeOf127,
  v53 := Tryd.zeroValue127,
  t55 := Tryd.underlying22,
  a55 := Tryd.isAgg22,
  z55 := Tryd.sizeOf22,
  v55 := Tryd.zeroValue22,
  t66 := Tryd.underlying131,
  a66 := Tryd.isAgg131,
  z66 := Tryd.sizeOf131,
  v66 := Tryd.zeroValue131,
  t70 := Tryd.underlying134,
  a70 := Tryd.isAgg134,
  z70 := Tryd.sizeOf134,
  v70 := Tryd.zeroValue134,
  t76 := Tryd.underlying136,
  a76 := Tryd.isAgg136,
  z76 := Tryd.sizeOf136,
  v76 := Tryd.zeroValue136,
  t77 := Tryd.underlying137,
  a77 := Tryd.isAgg137,
  z77 := Tryd.sizeOf137,
  v77 := Tryd.zeroValue137 }
theorem wrapS {n : Int} (h0 : -9223372036854775808 ≤ n) (h1 : n ≤ 9223372036854775807) : IntKind.wrap .i64 n = n := by
  simp [IntKind.wrap, IntKind.signed, IntKind.bits]; omega
theorem closureS (x y : RecV) (W : World) : Calls Tryd.prog 45 #[.agg #[.int .u64 x.1.1, x.1.2], .agg #[.int .u64 y.1.1, y.1.2]] W fun e w' => e = .returned (.int .i64 (cfR x y)) ∧ ∃ q os', w' = grow (W.drewN q) os' := by
  obtain ⟨⟨a, u⟩, ⟨ha0, ha1⟩, hu⟩ := x
  obtain ⟨⟨b, v⟩, ⟨hb0, hb1⟩, hv⟩ := y
  simp only at ha0 ha1 hb0 hb1
  have e1 : IntKind.wrap .i64 a = a := wrapS (by omega) (by omega)
  have e2 : IntKind.wrap .i64 b = b := wrapS (by omega) (by omega)
  have e3 : IntKind.wrap .i64 (a - b) = a - b := wrapS (by omega) (by omega)
  simp only [cfR]
  clear hu hv
  go_enter Tryd.func45, Tryd.ntmps45
  go_wp2
  go_ret
  refine ⟨?_, 0, _, by rw [alloc_eq_grow, alloc_eq_grow, grow_grow]; rfl⟩
  simp [e1, e2, e3]
theorem cmpS (blk off size : Nat) (w : World) : CmpLays Tryd.prog 45 #[] encR 2 cfR blk off size w := fun _ _ _ _ x y => closureS x y _
theorem sortPays : SortPays Tryd.prog 44 45 where
  some_ blk cap d w hH hb hs := AnyQ.slices_SortFunc sortRec 2 Tryd.isAgg67 Tryd.sizeOf67 encR (fun _ => rfl) (fun x v hv => by
    simp only [encR, List.mem_cons, List.not_mem_nil, or_false] at hv
    rcases hv with rfl | rfl
    · rfl
    · exact x.2.2) cfR swoR 45 #[] blk 0 cap d w (enters_of Tryd.func45 (by kernel_rfl) rfl) (cmpS blk 0 d.size w) hH hb hs
  none_ p cap w := AnyF.slices_SortFunc_none sortRec p cap _ w
end Go.Proofs.YtgdfhijgjjcnjaaDoor.R5
