/- Arguments of a law,told as plain values. -/
import Derived.Test.YtgdfhijgjjcnjaaGreatDoorFwCtx
import Derived.ChangeSlices
set_option linter.unusedVariables false
set_option linter.unusedSimpArgs false
namespace Go.Fw

def IsRow (k : IntKind) (w : World) (a : Option Addr) (len cap : Nat) (zs : List Int) : Prop :=
  (a = none ∧ len = 0 ∧ cap = 0 ∧ zs = []) ∨
  ∃ x,a = some x ∧ len ≤ cap ∧ cap ≤ maxLen ∧ zs.length = cap ∧ (∀ i,i < zs.length → w.cell? (x.add i) = some (.int k (zs.getD i 0))) ∧ ∀ n ∈ zs,(Lit.int k n).wf = true
theorem cell_spot {w : World} {x : Addr} {v : Value} (h : w.cell? x = some v) : x.spot = none ∧ x.block < w.heap.size := by
  unfold World.cell? at h
  split at h
  · rename_i c e m hb
    refine ⟨?_,(Array.getElem?_eq_some_iff.1 hb).1⟩
    cases hs : x.spot with
    | none => rfl
    | some s => rw [hs] at h; simp at h
  · simp at h
theorem ints_rep {k : IntKind} {e : TypeId} {W : World} {a : Option Addr} {len cap : Nat} {zs : List Int} (h : IsRow k W a len cap zs) :
    RepV (shut W fun b => b < W.heap.size) (.sl e (.int k) (zs.take len)) (.slice a len cap) := by
  rcases h with ⟨rfl,rfl,rfl,rfl⟩ | ⟨x,rfl,h1,h2,h3,h4,h5⟩
  · simp only [RepV]
    exact ⟨none,0,rfl,Nat.le_refl _,by omega,fun h0 => by simp at h0⟩
  · have hl : (zs.take len).length = len := by rw [List.length_take]; omega
    simp only [RepV]
    refine ⟨some x,cap,by rw [hl],by rw [hl]; exact h1,by unfold maxLen at h2; omega,fun h0 => ?_⟩
    rw [hl] at h0
    have c0 := h4 0 (by omega)
    obtain ⟨s1,s2⟩ := cell_spot c0
    obtain ⟨b,off,spot⟩ := x
    have hs : spot = none := by
      cases hsp : spot with
      | none => rfl
      | some q =>
        exfalso
        rw [hsp] at c0 s1
        simp [Addr.add] at s1
    subst hs
    have s2' : b < W.heap.size := by rw [add_eq] at s2; exact s2
    refine ⟨b,off,rfl,s2',fun j y hy => ?_⟩
    have hj : j < len := by have := (List.getElem?_eq_some_iff.1 hy).1; rw [hl] at this; exact this
    have hz : j < zs.length := by omega
    have hy2 : y = zs.getD j 0 := by
      rw [List.getElem?_take,if_pos hj] at hy
      rw [List.getD_eq_getElem?_getD,hy]; rfl
    refine ⟨[.int k y],⟨rfl,?_⟩,fun i u hu => ?_⟩
    · rw [hy2,List.getD_eq_getElem?_getD,List.getElem?_eq_getElem hz]; exact h5 _ (List.getElem_mem _)
    · cases i with
      | zero =>
        simp at hu
        subst hu
        have := h4 j hz
        rw [add_eq] at this
        simp only [Ty.size,Nat.mul_one,Nat.add_zero]
        exact this.trans (by rw [hy2])
      | succ i => simp at hu
theorem ints_wf {k : IntKind} {W : World} {a : Option Addr} {len cap : Nat} {zs : List Int} (h : IsRow k W a len cap zs) : ∀ n ∈ zs.take len,(Lit.int k n).wf = true := by
  intro n hn
  rcases h with ⟨rfl,rfl,rfl,rfl⟩ | ⟨x,rfl,h1,h2,h3,h4,h5⟩
  · simp at hn
  · exact h5 n (List.mem_of_mem_take hn)
end Go.Fw
