/- Part of a proof: what the program's functions come to. -/
import Derived.Test.YtgdfhijgjjcnjaaDoorDGG
set_option linter.unusedVariables false
set_option linter.unusedSimpArgs false
namespace Go.Proofs.YtgdfhijgjjcnjaaDoor.R5
open Go Go.Fw Go.Proofs RB
set_option maxRecDepth 20000
theorem few_ok {r : Rq} (k : okQ r) : few r = true := by
  have h1 := okQ_its k
  have h2 := (okQ_cvs k).1
  have h3 := k.2.1
  unfold few
  simp only [Bool.and_eq_true, decide_eq_true_eq]
  simp only [Rq.its, Rq.cvs, Rq.tok] at h1 h2 h3 ⊢
  omega
theorem F14_self {r : Rq} (h : few r = true) : F14 (r, r) = some true := by rw [F14_eq h]; simp
theorem tail5 {r : Rq} (h : RqOk r) {res : Option Bool} (hres : res = (F16 r).bind fun r7 =>
   bif (!decide (r7.2 = 0)) then some (decide ((r7.1.length : Int) = 0)) else
   (F15 r7.1).bind fun r8 =>
   bif inb (IntKind.wrap .i64 ((r7.1.length : Int) - 1)) (r7.1.length + 1) then
   (F15 (r7.1.take ((IntKind.wrap .i64 ((r7.1.length : Int) - 1)).toNat))).bind fun r9 =>
   bif (decide (r8.2 = 0) == true) then
   (F14 (r8.1, r)).bind fun r10 =>
   some (bif r10 then decide (r9.2 = 2) else false) else some false else none) : res = some true := by
  subst hres
  rw [F16_eq h]
  by_cases k : okQ r
  · have hb : Bs (recB r) := recB_bs h k
    have hb2 : Bs ((recB r).take ((recB r).length - 1)) := fun n hn => hb n (List.mem_of_mem_take hn)
    have hl := recB_len k
    have hp := recB_pos (r := r)
    have hw : IntKind.wrap .i64 (((recB r).length : Int) - 1) = (((recB r).length - 1 : Nat) : Int) := by
      rw [RB.wrap_i64 (by omega) (by omega)]; omega
    have hin : inb (((recB r).length - 1 : Nat) : Int) ((recB r).length + 1) = true := inb_true (Int.natCast_nonneg _) (by omega)
    simp only [k, if_true, Option.bind_some, decide_true, Bool.not_true, cond_false, F15_eq hb, getQ_enc h k, hw, hin, cond_true, Int.toNat_natCast, F15_eq hb2, getQ_cut h k, beq_self_eq_true, F14_self (few_ok k)]
  · simp [k]
theorem zQ_few : few zQ = true := by decide
theorem F5_true {r : Rq} {b : List Int} (h : RqOk r) (hb : Bs b) : F5 (r, b) = some true := by
  have e8r : F8 (r.1, (r.2.1, (r.2.2.1, (r.2.2.2.1, (r.2.2.2.2.1, (r.2.2.2.2.2.1, (r.2.2.2.2.2.2.1, (r.2.2.2.2.2.2.2.1, (r.2.2.2.2.2.2.2.2.1, (r.2.2.2.2.2.2.2.2.2.1, r.2.2.2.2.2.2.2.2.2.2)))))))))) = some (few r) := F8_eq r
  unfold F5
  simp only [F7_eq, Option.bind_some, Bool.not_true, cond_false, e8r]
  by_cases f : few r = true
  · by_cases hl : (1500 : Int) < (b.length : Int)
    · simp [f, hl]
    · simp only [f, hl, Bool.not_true, cond_false, decide_false, F15_eq hb, Option.bind_some]
      by_cases h0 : (getQ b).2 = 0
      · obtain ⟨o1, o2, o3⟩ := getQ_ok hb h0
        have e16 := F16_eq o1
        have e10 := F10_eq o1
        generalize (getQ b).1 = g at o1 o2 o3 e16 e10 ⊢
        have x16 : F16 (g.1, (g.2.1, (g.2.2.1, (g.2.2.2.1, (g.2.2.2.2.1, (g.2.2.2.2.2.1, (g.2.2.2.2.2.2.1, (g.2.2.2.2.2.2.2.1, (g.2.2.2.2.2.2.2.2.1, (g.2.2.2.2.2.2.2.2.2.1, g.2.2.2.2.2.2.2.2.2.2)))))))))) = some (b, 0) := by
          rw [← o3]
          rw [if_pos o2] at e16
          exact e16
        have x10 : F10 (g.1, (g.2.1, (g.2.2.1, (g.2.2.2.1, (g.2.2.2.2.1, (g.2.2.2.2.2.1, (g.2.2.2.2.2.2.1, (g.2.2.2.2.2.2.2.1, (g.2.2.2.2.2.2.2.2.1, (g.2.2.2.2.2.2.2.2.2.1, g.2.2.2.2.2.2.2.2.2.2)))))))))) = some 0 := by
          rw [if_pos o2] at e10
          exact e10
        simp only [h0, decide_true, cond_true, x16, x10, Option.bind_some, F13, Bool.not_true, beq_self_eq_true, cond_false]
        exact tail5 h rfl
      · have hg := getQ_bad (b := b) (by omega) h0
        have hz : F14 ((zQ.1, (zQ.2.1, (zQ.2.2.1, (zQ.2.2.2.1, (zQ.2.2.2.2.1, (zQ.2.2.2.2.2.1, (zQ.2.2.2.2.2.2.1, (zQ.2.2.2.2.2.2.2.1, (zQ.2.2.2.2.2.2.2.2.1, (zQ.2.2.2.2.2.2.2.2.2.1, zQ.2.2.2.2.2.2.2.2.2.2)))))))))), (0, (0, (0, (0, ([], (0, (0, (0, (0, ([], []))))))))))) = some true := F14_self zQ_few
        rw [hg]
        simp only [show decide ((2 : Int) = 0) = false from rfl, decide_true, Bool.not_true, cond_false, beq_self_eq_true, cond_true, hz, Option.bind_some]
        exact tail5 h rfl
  · simp only [Bool.not_eq_true] at f
    simp [f]
theorem pure5 (b : dens [.agg tRq, .one (.slice 5 (.int .u8))]) (h : Goods [.agg tRq, .one (.slice 5 (.int .u8))] b) : F5 b = some true := F5_true (rq_of h.1) (fun n hn => by
  have := h.2.2 n hn
  simp [Fw.Good, Lit.wf, IntKind.min, IntKind.max, IntKind.signed, IntKind.bits] at this
  unfold Byte
  omega)
end Go.Proofs.YtgdfhijgjjcnjaaDoor.R5
