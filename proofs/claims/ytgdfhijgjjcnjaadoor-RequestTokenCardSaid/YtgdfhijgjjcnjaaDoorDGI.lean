/- Part of a proof: what the program's functions come to. -/
import Derived.Test.YtgdfhijgjjcnjaaDoorDGH
set_option linter.unusedVariables false
set_option linter.unusedSimpArgs false
namespace Go.Proofs.YtgdfhijgjjcnjaaDoor.R5
open Go Go.Fw Go.Proofs RB
set_option maxRecDepth 20000
theorem recB_inj {r o : Rq} (hr : RqOk r) (ho : RqOk o) (kr : okQ r) (ko : okQ o) (h : recB r = recB o) : r = o := by
  have h1 := getQ_enc hr kr
  rw [h, getQ_enc ho ko] at h1
  exact (Prod.mk.inj h1).1.symm
/-- With another token, and number. -/
def withQ (r : Rq) (t : Tok) (i : Int) : Rq := (i, (r.2.1, (r.2.2.1, (t.1, (t.2.1, (t.2.2, (r.2.2.2.2.2.2.1, (r.2.2.2.2.2.2.2.1, (r.2.2.2.2.2.2.2.2.1, (r.2.2.2.2.2.2.2.2.2.1, r.2.2.2.2.2.2.2.2.2.2))))))))))
theorem withQ_ok {r : Rq} {t : Tok} {i : Int} (h : RqOk r) (ht : TokOk t) (hl : t.2.1.length ≤ 9223372036854775807) (hi : U64 i) : RqOk (withQ r t i) :=
  ⟨hi, h.me, h.key, ht, h.a, h.n, h.till, h.its, h.cvs, hl, h.l2, h.l3⟩
open Classical in
theorem F6_true {r : Rq} {t : Tok} {i : Int} (h : RqOk r) (ht : TokOk t) (hl : t.2.1.length ≤ 9223372036854775807) (hi : U64 i) : F6 (r, (t, i)) = some true := by
  have hs := withQ_ok h ht hl hi
  have e8r : F8 (r.1, (r.2.1, (r.2.2.1, (r.2.2.2.1, (r.2.2.2.2.1, (r.2.2.2.2.2.1, (r.2.2.2.2.2.2.1, (r.2.2.2.2.2.2.2.1, (r.2.2.2.2.2.2.2.2.1, (r.2.2.2.2.2.2.2.2.2.1, r.2.2.2.2.2.2.2.2.2.2)))))))))) = some (few r) := F8_eq r
  have e16r : F16 (r.1, (r.2.1, (r.2.2.1, (r.2.2.2.1, (r.2.2.2.2.1, (r.2.2.2.2.2.1, (r.2.2.2.2.2.2.1, (r.2.2.2.2.2.2.2.1, (r.2.2.2.2.2.2.2.2.1, (r.2.2.2.2.2.2.2.2.2.1, r.2.2.2.2.2.2.2.2.2.2)))))))))) = some (if okQ r then (recB r, 0) else ([], 1)) := F16_eq h
  have e16s : F16 (i, (r.2.1, (r.2.2.1, (t.1, (t.2.1, (t.2.2, (r.2.2.2.2.2.2.1, (r.2.2.2.2.2.2.2.1, (r.2.2.2.2.2.2.2.2.1, (r.2.2.2.2.2.2.2.2.2.1, r.2.2.2.2.2.2.2.2.2.2)))))))))) = some (if okQ (withQ r t i) then (recB (withQ r t i), 0) else ([], 1)) := F16_eq hs
  have e12r : F12 (r.1, (r.2.1, (r.2.2.1, (r.2.2.2.1, (r.2.2.2.2.1, (r.2.2.2.2.2.1, (r.2.2.2.2.2.2.1, (r.2.2.2.2.2.2.2.1, (r.2.2.2.2.2.2.2.2.1, (r.2.2.2.2.2.2.2.2.2.1, r.2.2.2.2.2.2.2.2.2.2)))))))))) = some (if okQ r then ((prQ r).flatMap encR, 0) else ([], 1)) := F12_eq h
  have e12s : F12 (i, (r.2.1, (r.2.2.1, (t.1, (t.2.1, (t.2.2, (r.2.2.2.2.2.2.1, (r.2.2.2.2.2.2.2.1, (r.2.2.2.2.2.2.2.2.1, (r.2.2.2.2.2.2.2.2.2.1, r.2.2.2.2.2.2.2.2.2.2)))))))))) = some (if okQ (withQ r t i) then ((prQ (withQ r t i)).flatMap encR, 0) else ([], 1)) := F12_eq hs
  unfold F6
  simp only [F7_eq, Option.bind_some, Bool.not_true, cond_false, e8r, both_self]
  by_cases f : few r = true
  · by_cases hl2 : (20 : Int) < (t.2.1.length : Int)
    · simp [f, hl2]
    · simp only [f, hl2, Bool.not_true, cond_false, decide_false, e16r, e16s, Option.bind_some]
      by_cases kr : okQ r
      · by_cases ks : okQ (withQ r t i)
        · have hb : Bs (recB (withQ r t i)) := recB_bs hs ks
          have hal : alike r (withQ r t i) := ⟨rfl, rfl, rfl, rfl, rfl, rfl, rfl⟩
          have hpr := (prQ_iff h hs kr ks).2 hal
          have e14 : F14 ((i, ((withQ r t i).2.1, ((withQ r t i).2.2.1, ((withQ r t i).2.2.2.1, ((withQ r t i).2.2.2.2.1, ((withQ r t i).2.2.2.2.2.1, ((withQ r t i).2.2.2.2.2.2.1, ((withQ r t i).2.2.2.2.2.2.2.1, ((withQ r t i).2.2.2.2.2.2.2.2.1, ((withQ r t i).2.2.2.2.2.2.2.2.2.1, (withQ r t i).2.2.2.2.2.2.2.2.2.2)))))))))), (i, (r.2.1, (r.2.2.1, (t.1, (t.2.1, (t.2.2, (r.2.2.2.2.2.2.1, (r.2.2.2.2.2.2.2.1, (r.2.2.2.2.2.2.2.2.1, (r.2.2.2.2.2.2.2.2.2.1, r.2.2.2.2.2.2.2.2.2.2))))))))))) = some true := F14_self (few_ok ks)
          have e14b : F14 ((r.1, (r.2.1, (r.2.2.1, (r.2.2.2.1, (r.2.2.2.2.1, (r.2.2.2.2.2.1, (r.2.2.2.2.2.2.1, (r.2.2.2.2.2.2.2.1, (r.2.2.2.2.2.2.2.2.1, (r.2.2.2.2.2.2.2.2.2.1, r.2.2.2.2.2.2.2.2.2.2)))))))))), (i, (r.2.1, (r.2.2.1, (t.1, (t.2.1, (t.2.2, (r.2.2.2.2.2.2.1, (r.2.2.2.2.2.2.2.1, (r.2.2.2.2.2.2.2.2.1, (r.2.2.2.2.2.2.2.2.2.1, r.2.2.2.2.2.2.2.2.2.2))))))))))) = some (decide (r = withQ r t i)) := F14_eq (b := withQ r t i) f
          have hid : (withQ r t i).1 = i := rfl
          have hrec : decide (recB r = recB (withQ r t i)) = decide (r = withQ r t i) := by
            rw [decide_eq_decide]
            exact ⟨fun q => recB_inj h hs kr ks q, fun q => congrArg recB q⟩
          simp only [kr, ks, if_true, decide_true, Bool.not_true, cond_false, e12r, e12s, Option.bind_some, F15_eq hb, getQ_enc hs ks, cond_true, beq_self_eq_true, F13, hpr, e14, e14b, hid, hrec]
        · simp [kr, ks]
      · simp [kr]
  · simp only [Bool.not_eq_true] at f
    simp [f]
theorem pure6 (b : dens [.agg tRq, .agg (.pair (.int .u64) (.pair (.slice 48 (.pair (.int .i64) (.pair (.int .u64) (.int .u64)))) (.int .i64))), .one (.int .u64)]) (h : Goods [.agg tRq, .agg (.pair (.int .u64) (.pair (.slice 48 (.pair (.int .i64) (.pair (.int .u64) (.int .u64)))) (.int .i64))), .one (.int .u64)] b) : F6 b = some true :=
  F6_true (rq_of h.1) ⟨u64_of h.2.1.1, fun c hc => cv_of (h.2.1.2.1.2 c hc), i64_of h.2.1.2.2⟩ h.2.1.2.1.1 (u64_of h.2.2)
end Go.Proofs.YtgdfhijgjjcnjaaDoor.R5
