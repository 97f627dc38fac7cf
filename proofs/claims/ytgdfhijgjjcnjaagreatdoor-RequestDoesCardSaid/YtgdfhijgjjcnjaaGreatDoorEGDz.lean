/- Part of a proof: what the program's functions come to. -/
import Derived.Test.YtgdfhijgjjcnjaaGreatDoorEGCz
set_option linter.unusedVariables false
set_option linter.unusedSimpArgs false
namespace Go.Proofs.YtgdfhijgjjcnjaaGreatDoor.RZ
open Go Go.Fw Go.Proofs RB
set_option maxRecDepth 20000
def r57 : Rq := (5,(7,(0,(0,([],(0,(0,(0,(0,([],[]))))))))))
theorem r57_ok : RqOk r57 where
  id := ⟨by decide,by decide⟩
  me := ⟨by decide,by decide⟩
  key := ⟨by decide,by decide⟩
  tok := ⟨⟨by decide,by decide⟩,by simp [r57],by decide,by decide⟩
  a := ⟨by decide,by decide⟩
  n := ⟨by decide,by decide⟩
  till := ⟨by decide,by decide⟩
  its := by simp [r57,Rq.its]
  cvs := by simp [r57,Rq.cvs]
  l1 := by simp [r57]
  l2 := by simp [r57,Rq.its]
  l3 := by simp [r57,Rq.cvs]
theorem r57_q : okQ r57 := ⟨by decide,by decide,by decide,by simp [r57]⟩
theorem r57_pr : (prQ r57).flatMap encR = [2,1,7] := by decide
theorem F4_eq : F4 () = some true := by
  unfold F4
  have := F10_eq r57_ok
  rw [if_pos r57_q,r57_pr] at this
  rw [show ((5,(7,(0,(0,([],(0,(0,(0,(0,([],[])))))))))) : Rq) = r57 from rfl,this]
  simp
def few (r : Rq) : Bool := decide (r.tok.2.1.length ≤ 20) && (decide (r.its.length ≤ 20) && decide (r.cvs.length ≤ 20))
theorem F5_eq (r : Rq) : F5 r = some (few r) := by
  unfold F5 few
  congr 1
  have e : ∀ n : Nat,decide ((n : Int) ≤ 20) = decide (n ≤ 20) := fun n => by rw [decide_eq_decide]; omega
  simp only [e]
  cases decide (r.2.2.2.2.1.length ≤ 20) <;> cases decide (r.2.2.2.2.2.2.2.2.2.1.length ≤ 20) <;> rfl
open Classical in
noncomputable def amt (r : Rq) : Int×Int := if okQ r then (if r.me = 1 then (r.n,0) else if r.me = 2 then sumI r.its else (0,0)) else (0,1)
theorem F12_eq {r : Rq} (h : RqOk r) : F12 r = some (amt r) := by
  have hF10 := F16_eq h
  unfold F12 amt
  rw [show (r.1,(r.2.1,(r.2.2.1,(r.2.2.2.1,(r.2.2.2.2.1,(r.2.2.2.2.2.1,(r.2.2.2.2.2.2.1,(r.2.2.2.2.2.2.2.1,(r.2.2.2.2.2.2.2.2.1,(r.2.2.2.2.2.2.2.2.2.1,r.2.2.2.2.2.2.2.2.2.2)))))))))) = r from rfl,hF10]
  simp only [Option.bind_some,F30_eq h.l2 h.its]
  by_cases k : okQ r
  · by_cases h1 : r.2.1 = 1
    · simp [k,h1,Rq.me,Rq.n]
    · by_cases h2 : r.2.1 = 2
      · simp [k,h1,h2,Rq.me,Rq.its]
      · simp [k,h1,h2,Rq.me]
  · simp [k]
end Go.Proofs.YtgdfhijgjjcnjaaGreatDoor.RZ
