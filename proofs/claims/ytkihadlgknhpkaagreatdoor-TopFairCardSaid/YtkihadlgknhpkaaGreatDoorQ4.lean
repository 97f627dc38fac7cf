/- Closed facts of the row TopFair. -/
import Derived.Test.YtkihadlgknhpkaaGreatDoorRows
import Derived.Test.YtkihadlgknhpkaaGreatDoorCards
import Derived.JoinedCond
import Derived.WalkKit
import Derived.KernelRfl
import Derived.SevenTiedAt
namespace Go.Proofs.YtkihadlgknhpkaaGreatDoor.topFair
open Go Go.Proofs Go.Proofs.YtkihadlgknhpkaaGreatDoor
set_option maxRecDepth 100000
theorem fnm : Tryz.prog.funcNamed "damson/damsontop.TopFair" = some 4 := by kernel_rfl
theorem clos : Tryz.prog.closure 4 = [4,6,14,8,23,49,93,150,94,151,63,110,170,235,10,25,53,103,54,104,169,55,280,171,236,237,172,238,291,239,173,240,292,293,77,130,186,111,174,175,242,241,294,112,176,177,113,178,243,196,79,132,133,257,300,329,232,31,197,226,227,228,229,230,231,199,233,234,152,128,185,198,258,259,301,330,12,9,24,11,26,56,57,105,35,106,58,107,28,30,27,59,60,19,32,65,66,114,67,45,69,115,127,179,116,117,70,118,68,46,89,148,149,195,76,129,122,182,90,20,47,91,80,124,73,61,108,62,109,50,51,95,153,200,96,154,102,160,203,205,206,265,318,204,208,209,266,268,269,320,278,351,352,321,270,322,267,319,279,282,283,207,210,272,273,271,211,274,161,213,214,275,323,353,286,212,215,216,276,277,324,354,162,217,218,281,325,326,355,367,163,219,220,284,164,221,165,222,223,285,287,327,166,224,289,288,75,167,225,290,168,97,155,15,29,64,201,101,98,156,157,16,33,34,71,119,120,180,181,244,121,72,123,125,184,253,254,183,245,246,295,247,296,297,248,298,299,328,249,250,251,252,126,202,17,36,74,37,38,39,78,131,40,41,81,82,42,43,83,134,135,187,260,302,331,303,261,304,332,356,368,317,333,262,305,334,335,357,369,263,306,336,358,370,372,384,383,371,373,374,385,375,386,391,392,402,393,394,403,404,406,395,396,397,398,376,190,256,337,338,359,360,361,362,377,378,387,399,339,340,363,364,379,388,389,400,405,307,308,341,342,365,380,381,390,401,309,343,344,310,311,312,345,313,346,314,315,347,348,264,316,349,350,366,382,158,92,99,159,100,52,21,48,7,22,13] := by kernel_rfl
theorem unf : Tryz.prog.unfollowed 4 = true := by unfold Program.unfollowed; rw [clos]; kernel_rfl
theorem inp : (Rows.topFairRow.inPlace == Tryz.prog.inPlace 4) = true := by unfold Program.inPlace; rw [clos]; kernel_rfl
theorem vnd : (Rows.topFairRow.named == Tryz.prog.varsNamed 4) = true := by unfold Program.varsNamed; rw [clos]; kernel_rfl
theorem rcs : Tryz.prog.recurses 4 = true := by unfold Program.recurses; rw [unf]; rfl
theorem goe : Tryz.prog.goes 4 = false := by unfold Program.goes; rw [clos, unf]; kernel_rfl
theorem gby : false = Rows.topFairRow.goesBy Tryz.prog := by
 have h : Tryz.prog.goesFrom Rows.topFairRow.func = false := by
  unfold Program.goesFrom
  rw [show Rows.topFairRow.func = "damson/damsontop.TopFair" from rfl, fnm, Option.any_some, goe]
 unfold OpenClaim.goesBy Program.goesAt
 rw [h]; rfl
theorem laidOut : laidOutB Tryz.prog = true := by kernel_rfl
theorem mapsR : mapsRowed Tryz.prog = true := by kernel_rfl
theorem heard : Tryz.prog.stopsHeard = true := by kernel_rfl
theorem enter : Tryz.prog.mayEnter = true := by kernel_rfl
theorem lks : Tryz.prog.looks [] = false := by kernel_rfl
theorem closed : joinedFacts Tryz.prog 4 Tryz.f4 (OpenSpec.ofChange Rows.topFairSpec).bare Rows.topFairRow = true := by
 unfold joinedFacts
 iterate 31 refine Bool.and_eq_true_iff.2 ⟨?_, ?_⟩
 · kernel_rfl
 · exact laidOut
 · exact mapsR
 · kernel_rfl
 · kernel_rfl
 · rfl
 · kernel_rfl
 · rfl
 · kernel_rfl
 · exact inp
 · rw [unf]; rfl
 · rw [rcs]; rfl
 · exact vnd
 · kernel_rfl
 · kernel_rfl
 · kernel_rfl
 · kernel_rfl
 · kernel_rfl
 · kernel_rfl
 · kernel_rfl
 · kernel_rfl
 · kernel_rfl
 · kernel_rfl
 · rfl
 · exact heard
 · exact enter
 · kernel_rfl
 · kernel_rfl
 · kernel_rfl
 · kernel_rfl
 · kernel_rfl
 · kernel_rfl
end Go.Proofs.YtkihadlgknhpkaaGreatDoor.topFair
