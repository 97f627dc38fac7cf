/- Part of a proof: what the program's functions come to. -/
import Derived.Test.YtgdfhijgjjcnjaaGreatDoorEHEz
set_option linter.unusedVariables false
set_option linter.unusedSimpArgs false
namespace Go.Proofs.YtgdfhijgjjcnjaaGreatDoor.RZ
open Go Go.Fw Go.Proofs RB
set_option maxRecDepth 20000
theorem sm_few {r : Rq} (h : few r = true) : sm r := by
  obtain ⟨h1,h2,h3⟩ := few_len h
  exact ⟨by omega,by omega,by omega⟩
theorem sm_get {b : List Int} (hb : Bs b) : sm (getQ b).1 := by
  by_cases h : (getQ b).2 = 0
  · exact sm_few (few_ok (getQ_ok hb h).2.1)
  · have hz : sm zQ := sm_few zQ_few
    unfold getQ at h ⊢
    split
    · exact hz
    · rename_i q
      rw [if_neg q] at h
      unfold finQ at h ⊢
      split
      · exact hz
      · rename_i r hr
        simp only [hr] at h
        split at h
        · simp at h
        · rename_i q2; rw [if_neg q2]; exact hz
open Classical in
theorem F3_true {r o : Rq} {b : List Int} (h : RqOk r) (ho : RqOk o) (hb : Bs b) : F3 (r,(o,b)) = some true := by
  have e5r : F5 (r.1,(r.2.1,(r.2.2.1,(r.2.2.2.1,(r.2.2.2.2.1,(r.2.2.2.2.2.1,(r.2.2.2.2.2.2.1,(r.2.2.2.2.2.2.2.1,(r.2.2.2.2.2.2.2.2.1,(r.2.2.2.2.2.2.2.2.2.1,r.2.2.2.2.2.2.2.2.2.2)))))))))) = some (few r) := F5_eq r
  have e5o : F5 (o.1,(o.2.1,(o.2.2.1,(o.2.2.2.1,(o.2.2.2.2.1,(o.2.2.2.2.2.1,(o.2.2.2.2.2.2.1,(o.2.2.2.2.2.2.2.1,(o.2.2.2.2.2.2.2.2.1,(o.2.2.2.2.2.2.2.2.2.1,o.2.2.2.2.2.2.2.2.2.2)))))))))) = some (few o) := F5_eq o
  unfold F3
  simp only [F4_eq,Option.bind_some,Bool.not_true,cond_false,e5r,e5o,both_self]
  by_cases fr : few r = true
  · by_cases fo : few o = true
    · simp only [fr,fo,Bool.not_true,BEq.rfl,cond_true]
      cases hl : (bif (bif decide (1500 < (b.length : Int)) then decide ((b.length : Int) ≤ 4096) else false) then true else decide (4100 < (b.length : Int))) with
      | true => rfl
      | false =>
        have s := sm_few fr
        have e6 : F6 (r.1,(r.2.1,(r.2.2.1,(r.2.2.2.1,(r.2.2.2.2.1,(r.2.2.2.2.2.1,(r.2.2.2.2.2.2.1,(r.2.2.2.2.2.2.2.1,(r.2.2.2.2.2.2.2.2.1,(r.2.2.2.2.2.2.2.2.2.1,r.2.2.2.2.2.2.2.2.2.2)))))))))) = some (if okQ r then (recB r,0) else ([],1)) := F6_eq h
        have e7 : F7 (r.1,(r.2.1,(r.2.2.1,(r.2.2.2.1,(r.2.2.2.2.1,(r.2.2.2.2.2.1,(r.2.2.2.2.2.2.1,(r.2.2.2.2.2.2.2.1,(r.2.2.2.2.2.2.2.2.1,(r.2.2.2.2.2.2.2.2.2.1,r.2.2.2.2.2.2.2.2.2.2)))))))))) = some (if okQ r then (recB r,0) else ([],1)) := F7_eq h s
        have e10 : F10 (r.1,(r.2.1,(r.2.2.1,(r.2.2.2.1,(r.2.2.2.2.1,(r.2.2.2.2.2.1,(r.2.2.2.2.2.2.1,(r.2.2.2.2.2.2.2.1,(r.2.2.2.2.2.2.2.2.1,(r.2.2.2.2.2.2.2.2.2.1,r.2.2.2.2.2.2.2.2.2.2)))))))))) = some (if okQ r then ((prQ r).flatMap encR,0) else ([],1)) := F10_eq h
        have e11 : F11 (r.1,(r.2.1,(r.2.2.1,(r.2.2.2.1,(r.2.2.2.2.1,(r.2.2.2.2.2.1,(r.2.2.2.2.2.2.1,(r.2.2.2.2.2.2.2.1,(r.2.2.2.2.2.2.2.2.1,(r.2.2.2.2.2.2.2.2.2.1,r.2.2.2.2.2.2.2.2.2.2)))))))))) = some (if okQ r then ((prQ r).flatMap encR,0) else ([],1)) := F11_eq h s
        have e12 : F12 (r.1,(r.2.1,(r.2.2.1,(r.2.2.2.1,(r.2.2.2.2.1,(r.2.2.2.2.2.1,(r.2.2.2.2.2.2.1,(r.2.2.2.2.2.2.2.1,(r.2.2.2.2.2.2.2.2.1,(r.2.2.2.2.2.2.2.2.2.1,r.2.2.2.2.2.2.2.2.2.2)))))))))) = some (amt r) := F12_eq h
        have e13 : F13 (r.1,(r.2.1,(r.2.2.1,(r.2.2.2.1,(r.2.2.2.2.1,(r.2.2.2.2.2.1,(r.2.2.2.2.2.2.1,(r.2.2.2.2.2.2.2.1,(r.2.2.2.2.2.2.2.2.1,(r.2.2.2.2.2.2.2.2.2.1,r.2.2.2.2.2.2.2.2.2.2)))))))))) = some (amt r) := F13_eq h s
        have e16 : F16 (r.1,(r.2.1,(r.2.2.1,(r.2.2.2.1,(r.2.2.2.2.1,(r.2.2.2.2.2.1,(r.2.2.2.2.2.2.1,(r.2.2.2.2.2.2.2.1,(r.2.2.2.2.2.2.2.2.1,(r.2.2.2.2.2.2.2.2.2.1,r.2.2.2.2.2.2.2.2.2.2)))))))))) = some (if okQ r then 0 else 1) := F16_eq h
        have e17 : F17 (r.1,(r.2.1,(r.2.2.1,(r.2.2.2.1,(r.2.2.2.2.1,(r.2.2.2.2.2.1,(r.2.2.2.2.2.2.1,(r.2.2.2.2.2.2.2.1,(r.2.2.2.2.2.2.2.2.1,(r.2.2.2.2.2.2.2.2.2.1,r.2.2.2.2.2.2.2.2.2.2)))))))))) = some (if okQ r then 0 else 1) := F17_eq h s
        have e18 : F18 ((r.1,(r.2.1,(r.2.2.1,(r.2.2.2.1,(r.2.2.2.2.1,(r.2.2.2.2.2.1,(r.2.2.2.2.2.2.1,(r.2.2.2.2.2.2.2.1,(r.2.2.2.2.2.2.2.2.1,(r.2.2.2.2.2.2.2.2.2.1,r.2.2.2.2.2.2.2.2.2.2)))))))))),(o.1,(o.2.1,(o.2.2.1,(o.2.2.2.1,(o.2.2.2.2.1,(o.2.2.2.2.2.1,(o.2.2.2.2.2.2.1,(o.2.2.2.2.2.2.2.1,(o.2.2.2.2.2.2.2.2.1,(o.2.2.2.2.2.2.2.2.2.1,o.2.2.2.2.2.2.2.2.2.2))))))))))) = some (decide (r = o)) := F18_eq (b := o) fr
        have e15 : F15 ((r.1,(r.2.1,(r.2.2.1,(r.2.2.2.1,(r.2.2.2.2.1,(r.2.2.2.2.2.1,(r.2.2.2.2.2.2.1,(r.2.2.2.2.2.2.2.1,(r.2.2.2.2.2.2.2.2.1,(r.2.2.2.2.2.2.2.2.2.1,r.2.2.2.2.2.2.2.2.2.2)))))))))),(o.1,(o.2.1,(o.2.2.1,(o.2.2.2.1,(o.2.2.2.2.1,(o.2.2.2.2.2.1,(o.2.2.2.2.2.2.1,(o.2.2.2.2.2.2.2.1,(o.2.2.2.2.2.2.2.2.1,(o.2.2.2.2.2.2.2.2.2.1,o.2.2.2.2.2.2.2.2.2.2))))))))))) = some (decide (r = o)) := F15_eq (b := o) s
        have sg := sm_get hb
        generalize hg : getQ b = g at sg
        have eg : F15 ((g.1.1,(g.1.2.1,(g.1.2.2.1,(g.1.2.2.2.1,(g.1.2.2.2.2.1,(g.1.2.2.2.2.2.1,(g.1.2.2.2.2.2.2.1,(g.1.2.2.2.2.2.2.2.1,(g.1.2.2.2.2.2.2.2.2.1,(g.1.2.2.2.2.2.2.2.2.2.1,g.1.2.2.2.2.2.2.2.2.2.2)))))))))),(g.1.1,(g.1.2.1,(g.1.2.2.1,(g.1.2.2.2.1,(g.1.2.2.2.2.1,(g.1.2.2.2.2.2.1,(g.1.2.2.2.2.2.2.1,(g.1.2.2.2.2.2.2.2.1,(g.1.2.2.2.2.2.2.2.2.1,(g.1.2.2.2.2.2.2.2.2.2.1,g.1.2.2.2.2.2.2.2.2.2.2))))))))))) = some true := by
          have := F15_eq (a := g.1) (b := g.1) sg
          rw [decide_eq_true rfl] at this
          exact this
        have e14 : ∀ l : List Int,F14 (l,l) = some true := fun l => by unfold F14; simp
        simp only [cond_false,e6,e7,e10,e11,e12,e13,e16,e17,e18,e15,F8_eq hb,F9_eq hb,hg,eg,e14,Option.bind_some,decide_true,cond_true,BEq.rfl,Bool.not_true]
    · simp only [Bool.not_eq_true] at fo
      simp [fr,fo]
  · simp only [Bool.not_eq_true] at fr
    simp [fr]
theorem pure3 (b : dens [.agg tRq,.agg tRq,.one (.slice 5 (.int .u8))]) (h : Goods [.agg tRq,.agg tRq,.one (.slice 5 (.int .u8))] b) : F3 b = some true := F3_true (rq_of h.1) (rq_of h.2.1) (fun n hn => by
  have := h.2.2.2 n hn
  simp [Fw.Good,Lit.wf,IntKind.min,IntKind.max,IntKind.signed,IntKind.bits] at this
  unfold Byte
  omega)
end Go.Proofs.YtgdfhijgjjcnjaaGreatDoor.RZ
