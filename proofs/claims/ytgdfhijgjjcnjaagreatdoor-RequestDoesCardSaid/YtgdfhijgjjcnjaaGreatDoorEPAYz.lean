/- Part of a proof: what the program's functions come to. -/
import Derived.Test.YtgdfhijgjjcnjaaGreatDoorFwSort
import Derived.Test.YtgdfhijgjjcnjaaGreatDoorProg
import Derived.KernelRfl
import Derived.WalkKit
set_option linter.unusedVariables false
set_option linter.unusedSimpArgs false
namespace Go.Proofs.YtgdfhijgjjcnjaaGreatDoor.RZ
open Go Go.Fw Go.Proofs Go.Shelf Go.RowKit Go.Lib Go.Sort
def sortRec_ren : Go.Shelf.Ren := ⟨fun | 6 => 51 | 15 => 84 | 14 => 83 | 28 => 102 | 29 => 103 | 20 => 94 | 21 => 95 | 22 => 96 | 23 => 97 | 24 => 98 | 25 => 99 | 26 => 100 | 27 => 101 | 46 => 107 | 47 => 108 | 48 => 109 | 49 => 110 | 50 => 111 | 57 => 112 | n => n,fun | 22 => 43 | 24 => 50 | 25 => 82 | 3 => 3 | 39 => 108 | 0 => 0 | 53 => 131 | 55 => 22 | 4 => 4 | 46 => 125 | 45 => 124 | 50 => 60 | 5 => 5 | 9 => 9 | 66 => 136 | 70 => 139 | 76 => 141 | 77 => 142 | n => n,fun | n => n⟩
theorem sortRec : Go.Proofs.SlLaysF0.n6 Tryz.prog sortRec_ren := {
  mixed := by kernel_rfl,
  f6 := ⟨Tryz.f51.name,by decide,Tryz.func51.trans (congrArg some (by kernel_rfl))⟩,
  f14 := ⟨Tryz.f83.name,by decide,Tryz.func83.trans (congrArg some (by kernel_rfl))⟩,
  f15 := Tryz.func84.trans (congrArg some (by kernel_rfl)),
  f20 := ⟨Tryz.f94.name,by decide,Tryz.func94.trans (congrArg some (by kernel_rfl))⟩,
  f21 := ⟨Tryz.f95.name,by decide,Tryz.func95.trans (congrArg some (by kernel_rfl))⟩,
  f22 := ⟨Tryz.f96.name,by decide,Tryz.func96.trans (congrArg some (by kernel_rfl))⟩,
  f23 := ⟨Tryz.f97.name,by decide,Tryz.func97.trans (congrArg some (by kernel_rfl))⟩,
  f24 := ⟨Tryz.f98.name,by decide,Tryz.func98.trans (congrArg some (by kernel_rfl))⟩,
  f25 := ⟨Tryz.f99.name,by decide,Tryz.func99.trans (congrArg some (by kernel_rfl))⟩,
  f26 := ⟨Tryz.f100.name,by decide,Tryz.func100.trans (congrArg some (by kernel_rfl))⟩,
  f27 := ⟨Tryz.f101.name,by decide,Tryz.func101.trans (congrArg some (by kernel_rfl))⟩,
  f28 := Tryz.func102.trans (congrArg some (by kernel_rfl)),
  f29 := Tryz.func103.trans (congrArg some (by kernel_rfl)),
  f46 := ⟨Tryz.f107.name,by decide,Tryz.func107.trans (congrArg some (by kernel_rfl))⟩,
  f47 := Tryz.func108.trans (congrArg some (by kernel_rfl)),
  f48 := Tryz.func109.trans (congrArg some (by kernel_rfl)),
  f49 := ⟨Tryz.f110.name,by decide,Tryz.func110.trans (congrArg some (by kernel_rfl))⟩,
  f50 := ⟨Tryz.f111.name,by decide,Tryz.func111.trans (congrArg some (by kernel_rfl))⟩,
  f57 := ⟨Tryz.f112.name,by decide,Tryz.func112.trans (congrArg some (by kernel_rfl))⟩,
  t0 := Tryz.underlying0,
  a0 := Tryz.isAgg0,
  z0 := Tryz.sizeOf0,
  v0 := Tryz.zeroValue0,
  t3 := Tryz.underlying3,
  a3 := Tryz.isAgg3,
  z3 := Tryz.sizeOf3,
  v3 := Tryz.zeroValue3,
  t4 := Tryz.underlying4,
  a4 := Tryz.isAgg4,
  z4 := Tryz.sizeOf4,
  v4 := Tryz.zeroValue4,
  t5 := Tryz.underlying5,
  a5 := Tryz.isAgg5,
  z5 := Tryz.sizeOf5,
  v5 := Tryz.zeroValue5,
  t9 := Tryz.underlying9,
  a9 := Tryz.isAgg9,
  z9 := Tryz.sizeOf9,
  v9 := Tryz.zeroValue9,
  t22 := Tryz.underlying43,
  a22 := Tryz.isAgg43,
  z22 := Tryz.sizeOf43,
  v22 := Tryz.zeroValue43,
  t25 := Tryz.underlying82,
  a25 := Tryz.isAgg82,
  z25 := Tryz.sizeOf82,
  v25 := Tryz.zeroValue82,
  t39 := Tryz.underlying108,
  a39 := Tryz.isAgg108,
  z39 := Tryz.sizeOf108,
  v39 := Tryz.zeroValue108,
  t45 := Tryz.underlying124,
  a45 := Tryz.isAgg124,
  z45 := Tryz.sizeOf124,
  v45 := Tryz.zeroValue124,
  t46 := Tryz.underlying125,
  a46 := Tryz.isAgg125,
  z46 := Tryz.sizeOf125,
  v46 := Tryz.zeroValue125,
  t50 := Tryz.underlying60,
  a50 := Tryz.isAgg60,
  z50 := Tryz.sizeOf60,
  v50 := Tryz.zeroValue60,
  t53 := Tryz.underlying131,
  a53 := Tryz.isAgg131,
  z53 := Tryz.sizeOf131,
  v53 := Tryz.zeroValue131,
  t55 := Tryz.underlying22,
  a55 := Tryz.isAgg22,
  z55 := Tryz.sizeOf22,
  v55 := Tryz.zeroValue22,
  t66 := Tryz.underlying136,
  a66 := Tryz.isAgg136,
  z66 := Tryz.sizeOf136,
  v66 := Tryz.zeroValue136,
  t70 := Tryz.underlying139,
  a70 := Tryz.isAgg139,
  z70 := Tryz.sizeOf139,
  v70 := Tryz.zeroValue139,
  t76 := Tryz.underlying141,
  a76 := Tryz.isAgg141,
  z76 := Tryz.sizeOf141,
  v76 := Tryz.zeroValue141,
  t77 := Tryz.underlying142,
  a77 := Tryz.isAgg142,
  z77 := Tryz.sizeOf142,
  v77 := Tryz.zeroValue142 }
theorem wrapS {n : Int} (h0 : -9223372036854775808 ≤ n) (h1 : n ≤ 9223372036854775807) : IntKind.wrap .i64 n = n := by
  simp [IntKind.wrap,IntKind.signed,IntKind.bits]; omega
theorem closureS (x y : RecV) (W : World) : Calls Tryz.prog 52 #[.agg #[.int .u64 x.1.1,x.1.2],.agg #[.int .u64 y.1.1,y.1.2]] W fun e w' => e = .returned (.int .i64 (cfR x y)) ∧ ∃ q os',w' = grow (W.drewN q) os' := by
  obtain ⟨⟨a,u⟩,⟨ha0,ha1⟩,hu⟩ := x
  obtain ⟨⟨b,v⟩,⟨hb0,hb1⟩,hv⟩ := y
  simp only at ha0 ha1 hb0 hb1
  have e1 : IntKind.wrap .i64 a = a := wrapS (by omega) (by omega)
  have e2 : IntKind.wrap .i64 b = b := wrapS (by omega) (by omega)
  have e3 : IntKind.wrap .i64 (a - b) = a - b := wrapS (by omega) (by omega)
  simp only [cfR]
  clear hu hv
  go_enter Tryz.func52,Tryz.ntmps52
  go_wp2
  go_ret
  refine ⟨?_,0,_,by rw [alloc_eq_grow,alloc_eq_grow,grow_grow]; rfl⟩
  simp [e1,e2,e3]
theorem cmpS (blk off size : Nat) (w : World) : CmpLays Tryz.prog 52 #[] encR 2 cfR blk off size w := fun _ _ _ _ x y => closureS x y _
theorem sortPays : SortPays Tryz.prog 51 52 where
  some_ blk cap d w hH hb hs := AnyQ.slices_SortFunc sortRec 2 Tryz.isAgg50 Tryz.sizeOf50 encR (fun _ => rfl) (fun x v hv => by
    simp only [encR,List.mem_cons,List.not_mem_nil,or_false] at hv
    rcases hv with rfl | rfl
    · rfl
    · exact x.2.2) cfR swoR 52 #[] blk 0 cap d w (enters_of Tryz.func52 (by kernel_rfl) rfl) (cmpS blk 0 d.size w) hH hb hs
  none_ p cap w := AnyF.slices_SortFunc_none sortRec p cap _ w
end Go.Proofs.YtgdfhijgjjcnjaaGreatDoor.RZ
