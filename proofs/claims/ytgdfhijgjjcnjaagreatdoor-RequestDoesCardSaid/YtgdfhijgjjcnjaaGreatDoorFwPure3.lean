/- Part of a proof: what the program's functions come to. -/
import Derived.Test.YtgdfhijgjjcnjaaGreatDoorFwPure2
set_option linter.unusedVariables false
set_option linter.unusedSimpArgs false
namespace Go.Fw
open Go.RowKit (Below)

section
variable {P : Program} {m : MM} {w0 : World} {st : St} {a : Act} {c : Cx}

theorem fieldOf_run {s : TypeId} {i : Nat} {f : Field} (h : fieldOf P s i = some f) : ∃ fs,P.underlying s = some (.struct fs) ∧ fs[i]? = some f := by
  unfold fieldOf at h
  cases hd : P.underlying s with
  | none => rw [hd] at h; simp at h
  | some d =>
    rw [hd] at h
    cases d <;> try (simp at h; done)
    exact ⟨_,rfl,h⟩

theorem pureOp_sound (h : Rep m w0 st a c) {o : Oper} {p : PV} (hp : pureOp P st o = some p) :
    ∃ v,(execOp a.eval o).run P c.w = .ok (.value v) c.w ∧ RepV c p v := by
  unfold pureOp at hp
  unfold execOp
  split at hp
  · -- move
    rename_i x hx
    simp only [Option.some.injEq] at hp
    subst hp
    rw [hx]
    exact ⟨_,rfl,typed_rep (operand_rep h x) _⟩
  · rename_i x hx
    simp only [Option.some.injEq] at hp
    subst hp
    rw [hx]
    exact ⟨_,rfl,typed_rep (operand_rep h x) _⟩
  · rename_i op t x y u hx
    rw [hx]
    obtain ⟨z,h1,h2⟩ := binPure_run (P := P) x y (typed_rep (P := P) (operand_rep h x) t) (typed_rep (P := P) (operand_rep h y) u) hp
    exact ⟨z,by simp only [Sem.run_bind] at h1 ⊢; rw [h1]; rfl,h2⟩
  · rename_i op t x hx
    rw [hx]
    obtain ⟨z,h1,h2⟩ := unPure_run (P := P) (operand_rep h x) hp
    exact ⟨z,by simp only [Sem.run_bind,h1]; rfl,h2⟩
  · rename_i s d x hx
    rw [hx]
    have hr := operand_rep h x
    split at hp
    · rename_i k n e1 k' heq1 heq2 heq3
      simp only [Option.some.injEq] at hp
      subst hp
      rw [heq1] at hr
      simp only [RepV] at hr
      exact ⟨.int k' (k'.wrap n),by simp only [Sem.run_bind,convert,run_underlying_some heq2,run_underlying_some heq3,Result.andThen_ok,hr.1,Conv.intToInt,Sem.run_pure],RepV.int_ (wf_wrap _ _)⟩
    · rename_i l e1 heq1 heq2 heq3
      simp only [Option.some.injEq] at hp
      subst hp
      rw [heq1] at hr
      have hr' := hr
      simp only [RepV] at hr
      obtain ⟨b,hb,_⟩ := hr
      exact ⟨.string b,by simp only [Sem.run_bind,convert,run_underlying_some heq2,run_underlying_some heq3,Result.andThen_ok,hb,Sem.run_pure],by rw [← hb]; exact hr'⟩
    · simp at hp
  · -- extract
    rename_i x i hx
    rw [hx]
    have hr := operand_rep h x
    split at hp
    · rename_i l heq
      rw [heq] at hr
      simp only [RepV] at hr
      obtain ⟨vs,hv,hl⟩ := hr
      obtain ⟨v,h1,h2⟩ := hl.get i hp
      rw [Array.getElem?_toList] at h1
      exact ⟨v,by simp only [Sem.run_bind,hv,Instr.extract,h1,Sem.run_pure,Result.andThen_ok],h2⟩
    · simp at hp
  · -- field
    rename_i t x i hx
    rw [hx]
    have hr := operand_rep h x
    split at hp
    · rename_i l f heq1 heq2
      rw [heq1] at hr
      simp only [RepV] at hr
      obtain ⟨vs,hv,hl⟩ := hr
      obtain ⟨fs,hfs,hf⟩ := fieldOf_run heq2
      obtain ⟨v,h1,h2⟩ := part_rep (P := P) hl hp
      exact ⟨v,by simp only [Sem.run_bind,hv,Instr.field,run_underlying_some hfs,Result.andThen_ok,hf,asAgg,Sem.run_pure,h1],h2⟩
    · simp at hp
  · -- fieldAddr
    rename_i s x i hx
    rw [hx]
    have hr := operand_rep h x
    split at hp
    · rename_i f heq2
      obtain ⟨fs,hfs,hf⟩ := fieldOf_run heq2
      split at hp
      · simp at hp
      · rename_i hne
        have run : ∀ b off,a.eval x = .pointer (some ⟨b,off,none⟩) → (do pure (.value (← Instr.fieldAt s (a.eval x) i)) : Sem Next).run P c.w = .ok (.value (.pointer (some ⟨b,off + f.offset,none⟩))) c.w := by
          intro b off hv
          simp only [Sem.run_bind,hv,Instr.fieldAt,run_underlying_some hfs,Result.andThen_ok,hf,Instr.sureAddr,Sem.run_pure,fieldPlace,run_sizeOf hne,hne,if_false,add_eq]
        split at hp
        · rename_i k off heq
          simp only [Option.some.injEq] at hp
          subst hp
          rw [heq] at hr
          simp only [RepV] at hr
          exact ⟨_,run _ _ hr,by simp only [RepV]⟩
        · rename_i k j sz off heq
          simp only [Option.some.injEq] at hp
          subst hp
          rw [heq] at hr
          simp only [RepV] at hr
          exact ⟨_,run _ _ hr.1,by simp only [RepV]; exact ⟨by rw [Nat.add_assoc],hr.2⟩⟩
        · rename_i l heq
          simp only [Option.some.injEq] at hp
          subst hp
          rw [heq] at hr
          simp only [RepV] at hr
          obtain ⟨b,off,cs,hv,hb,hl,hc⟩ := hr
          refine ⟨_,run _ _ hv,?_⟩
          simp only [RepV]
          refine ⟨b,off + f.offset,cs.drop f.offset,rfl,hb,hl.drop _,fun q u hu => ?_⟩
          rw [List.getElem?_drop] at hu
          rw [Nat.add_assoc]
          exact hc _ u hu
        · rename_i t' x' off heq
          simp only [Option.some.injEq] at hp
          subst hp
          rw [heq] at hr
          simp only [RepV] at hr
          obtain ⟨b,o',cs,hv,hb⟩ := hr
          refine ⟨_,run _ _ hv,?_⟩
          simp only [RepV]
          exact ⟨b,o',cs,by rw [Nat.add_assoc],hb⟩
        · simp at hp
    · simp at hp
  · -- load
    rename_i t x hx
    rw [hx]
    split at hp
    · rename_i l heq
      obtain ⟨b,off,cs,hv,hl,hc⟩ := cellsAt_rep h (operand_rep h x) heq
      obtain ⟨v,h1,h2⟩ := loadVar_rep (P := P) hl hc hp
      exact ⟨v,by simp only [Sem.run_bind,hv,Instr.loadAt,Instr.sureAddr,Sem.run_pure,Result.andThen_ok,h1],h2⟩
    · simp at hp
  · -- nilCheck
    rename_i x hx
    rw [hx]
    have hr := operand_rep h x
    dsimp only
    generalize a.eval x = u at hr ⊢
    generalize operand st x = q at hr hp
    have hr' := hr
    cases q <;> simp only [Option.some.injEq] at hp <;> try (simp at hp; done)
    case ptr k off =>
      subst hp
      simp only [RepV] at hr
      exact ⟨u,by rw [hr]; rfl,hr'⟩
    case cptr l =>
      subst hp
      simp only [RepV] at hr
      obtain ⟨b,off,cs,hv,_⟩ := hr
      exact ⟨u,by rw [hv]; rfl,hr'⟩
    case optr k i sz off =>
      subst hp
      simp only [RepV] at hr
      exact ⟨u,by rw [hr.1]; rfl,hr'⟩
    case rptr t' x' off =>
      subst hp
      simp only [RepV] at hr
      obtain ⟨b,o',cs,hv,_⟩ := hr
      exact ⟨u,by rw [hv]; rfl,hr'⟩
    case fn f l =>
      subst hp
      simp only [RepV] at hr
      obtain ⟨g,hv,_⟩ := hr
      exact ⟨u,by rw [hv]; rfl,hr'⟩
  · -- makeFunc
    rename_i f first caps hx
    rw [hx]
    split at hp
    · rename_i he
      simp only [Option.some.injEq] at hp
      subst hp
      refine ⟨.func (.func f) #[] (caps.map a.eval),?_,?_⟩
      · have : first = #[] := by simpa using he
        subst this
        simp [Instr.makeFunc]
      · simp only [RepV]
        refine ⟨_,rfl,?_⟩
        rw [Array.toList_map]
        have : ∀ l : List Operand,RepL c (l.map (operand st)) (l.map a.eval) := by
          intro l
          induction l with
          | nil => simp [RepL]
          | cons y r ih => simp only [List.map_cons,RepL]; exact ⟨_,_,rfl,operand_rep h y,ih⟩
        exact this _
    · simp at hp
  · -- len
    rename_i args argTypes hx
    rw [hx]
    split at hp
    · rename_i x t ha ht
      have ha' : args = #[x] := by rw [← Array.toList_inj]; simpa using ha
      have ht' : argTypes = #[t] := by rw [← Array.toList_inj]; simpa using ht
      subst ha' ht'
      have hr := operand_rep h x
      split at hp
      · rename_i s hu heq
        simp only [Option.some.injEq] at hp
        subst hp
        rw [heq] at hr
        simp only [RepV] at hr
        obtain ⟨b,hv,hs,hb⟩ := hr
        refine ⟨.int .i64 b.size,?_,?_⟩
        · simp [resolve,invoke,builtin,Builtin.len_,hv,run_underlying_some hu,goInt]
        · rw [hs,bytesOf_length]
          refine RepV.int_ ?_
          simp [Lit.wf,IntKind.min,IntKind.max,IntKind.signed,IntKind.bits]; omega
      · rename_i e e' t' l hu heq
        simp only [Option.some.injEq] at hp
        subst hp
        rw [heq] at hr
        simp only [RepV] at hr
        obtain ⟨A,n,hv,h1,h2,_⟩ := hr
        refine ⟨.int .i64 l.length,?_,?_⟩
        · simp [resolve,invoke,builtin,Builtin.len_,hv,run_underlying_some hu,goInt]
        · refine RepV.int_ ?_
          simp [Lit.wf,IntKind.min,IntKind.max,IntKind.signed,IntKind.bits]; omega
      · rename_i e v' hu hne
        split at hp
        · rename_i e' t' l hl
          simp only [Option.some.injEq] at hp
          subst hp
          obtain ⟨A,n,hv,h1,h2,_⟩ := h.listZ (typed_rep (P := P) hr t) hl
          refine ⟨.int .i64 l.length,?_,?_⟩
          · simp [resolve,invoke,builtin,Builtin.len_,hv,run_underlying_some hu,goInt]
          · refine RepV.int_ ?_
            simp [Lit.wf,IntKind.min,IntKind.max,IntKind.signed,IntKind.bits]; omega
        · simp at hp
      · simp at hp
    · simp at hp
  · -- cap
    rename_i args argTypes hx
    rw [hx]
    split at hp
    · rename_i x t ha ht
      have ha' : args = #[x] := by rw [← Array.toList_inj]; simpa using ha
      have ht' : argTypes = #[t] := by rw [← Array.toList_inj]; simpa using ht
      subst ha'
      subst ht'
      have hr := typed_rep (P := P) (operand_rep h x) t
      split at hp
      · rename_i e e' t' l hu hl
        simp only [Option.some.injEq] at hp
        subst hp
        rw [hl] at hr
        simp only [RepV] at hr
        obtain ⟨A,hv,h1,_⟩ := hr
        refine ⟨.int .i64 l.length,?_,?_⟩
        · simp [resolve,invoke,builtin,Builtin.cap_,hv,run_underlying_some hu,goInt]
        · refine RepV.int_ ?_
          simp [Lit.wf,IntKind.min,IntKind.max,IntKind.signed,IntKind.bits]; omega
      · simp at hp
    · simp at hp
  · -- min
    rename_i args argTypes hx
    rw [hx]
    split at hp
    · rename_i x y ha
      have ha' : args = #[x,y] := by rw [← Array.toList_inj]; simpa using ha
      subst ha'
      have hr1 := operand_rep h x
      have hr2 := operand_rep h y
      split at hp
      · rename_i k n k' n' heq1 heq2
        split at hp
        · rename_i hk
          subst hk
          simp only [Option.some.injEq] at hp
          subst hp
          rw [heq1] at hr1
          rw [heq2] at hr2
          simp only [RepV] at hr1 hr2
          refine ⟨.int k (if n' < n then n' else n),?_,?_⟩
          · simp [resolve,invoke,builtin,Builtin.min_,Builtin.min2,hr1.1,hr2.1]
          · refine RepV.int_ ?_
            split
            · exact hr2.2
            · exact hr1.2
        · simp at hp
      · simp at hp
    · simp at hp
  · -- max
    rename_i args argTypes hx
    rw [hx]
    split at hp
    · rename_i x y ha
      have ha' : args = #[x,y] := by rw [← Array.toList_inj]; simpa using ha
      subst ha'
      have hr1 := operand_rep h x
      have hr2 := operand_rep h y
      split at hp
      · rename_i k n k' n' heq1 heq2
        split at hp
        · rename_i hk
          subst hk
          simp only [Option.some.injEq] at hp
          subst hp
          rw [heq1] at hr1
          rw [heq2] at hr2
          simp only [RepV] at hr1 hr2
          refine ⟨.int k (if n < n' then n' else n),?_,?_⟩
          · simp [resolve,invoke,builtin,Builtin.max_,Builtin.max2,hr1.1,hr2.1]
          · refine RepV.int_ ?_
            split
            · exact hr2.2
            · exact hr1.2
        · simp at hp
      · simp at hp
    · simp at hp
  · simp at hp
end
end Go.Fw
