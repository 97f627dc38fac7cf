/- Part of a proof: what the program's functions come to. -/
import Derived.Test.YtgdfhijgjjcnjaaGreatDoorFwPure
import Derived.Laws.StructEq
set_option linter.unusedVariables false
set_option linter.unusedSimpArgs false
namespace Go.Fw
open Go.RowKit (Below)

section
variable {P : Program} {m : MM} {w0 : World} {st : St} {a : Act} {c : Cx}

theorem RepV.int_ {c : Cx} {k : IntKind} {n : Int} (h : (Lit.int k n).wf = true) : RepV c (.int k n) (.int k n) := by simp [RepV,h]
theorem RepV.bool_ {c : Cx} {x y : Bool} (h : x = y) : RepV c (.bool x) (.bool y) := by simp [RepV,h]
theorem fdiv_two (x : Int) (n : Nat) : x.fdiv (2 ^ n) = x / 2 ^ n := Int.fdiv_eq_ediv_of_nonneg _ (Int.le_of_lt (Int.pow_pos (by omega)))

theorem intOp_run {op : BinOp} {k yk : IntKind} {x y : Int} {p : PV} (t : TypeId) (hx : (Lit.int k x).wf = true) (hy : (Lit.int yk y).wf = true) (hp : intOp op k x yk y = some p) :
    ∃ v,(binOp op t (.int k x) (.int yk y)).run P c.w = .ok v c.w ∧ RepV c p v := by
  cases op <;> simp only [intOp] at hp <;> try (simp at hp; done)
  case shl =>
    split at hp
    · simp at hp
    · rename_i hs
      simp only [Option.some.injEq] at hp
      subst hp
      have h0 : ¬ y < 0 := by
        rw [wf_iff] at hy
        have : yk.min = 0 := by simp [IntKind.min,hs]
        omega
      exact ⟨_,by simp only [binOp,Op.shift,h0,if_false,Sem.run_pure] <;> rfl,RepV.int_ (wf_wrap _ _)⟩
  case shr =>
    split at hp
    · simp at hp
    · rename_i hs
      simp only [Option.some.injEq] at hp
      subst hp
      have h0 : ¬ y < 0 := by
        rw [wf_iff] at hy
        have : yk.min = 0 := by simp [IntKind.min,hs]
        omega
      refine ⟨_,by simp only [binOp,Op.shift,h0,if_false,Sem.run_pure,fdiv_two] <;> rfl,RepV.int_ (wf_shr hx _)⟩
  all_goals
    split at hp
    · rename_i hk
      subst hk
      simp only [Option.some.injEq] at hp
      subst hp
      refine ⟨_,by simp only [binOp,Op.intArith,Op.intCmp,ne_eq,not_true_eq_false,if_false,Sem.run_pure]; rfl,?_⟩
      first
        | exact RepV.int_ (wf_wrap _ _)
        | exact RepV.bool_ rfl
        | (refine RepV.bool_ ?_; rw [Bool.eq_iff_iff]; simp; done)
    · simp at hp
theorem intOpG_run {op : BinOp} {k yk : IntKind} {x y : Int} {p : PV} {g : Bool} (t : TypeId) (hx : (Lit.int k x).wf = true) (hp : intOpG op k x yk y = some (g,p)) (hg : g = true) :
    ∃ v,(binOp op t (.int k x) (.int yk y)).run P c.w = .ok v c.w ∧ RepV c p v := by
  cases op <;> simp only [intOpG] at hp <;> try (simp at hp; done)
  case shl =>
    split at hp
    · simp only [Option.some.injEq,Prod.mk.injEq] at hp
      obtain ⟨rfl,rfl⟩ := hp
      have h0 : ¬ y < 0 := by simp at hg; omega
      exact ⟨_,by simp only [binOp,Op.shift,h0,if_false,Sem.run_pure] <;> rfl,RepV.int_ (wf_wrap _ _)⟩
    · simp at hp
  case shr =>
    split at hp
    · simp only [Option.some.injEq,Prod.mk.injEq] at hp
      obtain ⟨rfl,rfl⟩ := hp
      have h0 : ¬ y < 0 := by simp at hg; omega
      exact ⟨_,by simp only [binOp,Op.shift,h0,if_false,Sem.run_pure,fdiv_two] <;> rfl,RepV.int_ (wf_shr hx _)⟩
    · simp at hp
  all_goals
    split at hp
    · rename_i hk
      subst hk
      simp only [Option.some.injEq,Prod.mk.injEq] at hp
      obtain ⟨rfl,rfl⟩ := hp
      have h0 : ¬ y = 0 := by simpa using hg
      refine ⟨_,by simp only [binOp,Op.intDiv,ne_eq,not_true_eq_false,h0,if_false,Sem.run_pure]; rfl,?_⟩
      first
        | exact RepV.int_ (wf_wrap _ _)
        | exact RepV.int_ (wf_tmod hx)
    · simp at hp
theorem strOp_run {op : BinOp} {x y : ByteArray} {p : PV} (t : TypeId) (hp : strOp op (bytesOf x) (bytesOf y) = some p) :
    ∃ v,(binOp op t (.string x) (.string y)).run P c.w = .ok v c.w ∧ RepV c p v := by
  have he : decide (bytesOf x = bytesOf y) = (x.toList == y.toList) := by
    rw [Bool.eq_iff_iff]; simp [bytesOf_inj,toList_eq]
  have hl : bytesLt (bytesOf x) (bytesOf y) = Op.bytesLess x.toList y.toList := by rw [toList_eq,toList_eq]; exact bytesLt_eq _ _
  cases op <;> simp only [strOp,Option.some.injEq] at hp <;> try (simp at hp; done)
  all_goals
    subst hp
    refine ⟨_,by simp only [binOp,Op.stringOp,Sem.run_pure] <;> rfl,RepV.bool_ ?_⟩
    simp only [he,hl]
theorem run_eqGuard {op : BinOp} {t : TypeId} {x y : Operand} {u v : Value} (h : ∀ s,u ≠ .agg s) (h' : u ≠ .nilIface) (w : World) : (eqGuard op t x y u v).run P w = .ok () w := by
  unfold eqGuard
  cases op <;> first
    | rfl
    | (cases u <;> first
        | exact absurd rfl h'
        | exact absurd rfl (h _)
        | (cases v <;> rfl))
theorem unPure_run {op : UnOp} {p q : PV} {v : Value} (hv : RepV c p v) (hp : unPure op p = some q) : ∃ u,(Op.unary op v).run P c.w = .ok u c.w ∧ RepV c q u := by
  cases p <;> simp only [unPure] at hp <;> try (simp at hp; done)
  case int k n =>
    simp only [RepV] at hv
    cases op <;> simp only [Option.some.injEq] at hp <;> try (simp at hp; done)
    subst hp
    rw [hv.1]
    exact ⟨_,by simp only [Op.unary,Op.intArith,Sem.run_pure] <;> rfl,RepV.int_ (wf_wrap _ _)⟩
  case bool b =>
    simp only [RepV] at hv
    cases op <;> simp only [Option.some.injEq] at hp <;> try (simp at hp; done)
    subst hp
    rw [hv]
    exact ⟨_,by simp only [Op.unary,Sem.run_pure] <;> rfl,RepV.bool_ rfl⟩

theorem eqLeaf_run {t : TypeId} {p q : PV} {u v : Value} {r : Bool} (n : Nat) (hu : RepV c p u) (hv : RepV c q v) (h : eqLeaf P t p q = some r) (w : World) : (Op.equalIn (n + 1) t u v).run P w = .ok r w := by
  cases p <;> try (simp [eqLeaf] at h; done)
  case int k x =>
    cases q <;> simp only [eqLeaf] at h <;> try (simp at h; done)
    simp only [RepV] at hu hv
    cases ht : P.underlying t with
    | none => rw [ht] at h; simp at h
    | some d =>
      rw [ht] at h
      cases d <;> try (simp at h; done)
      simp only at h
      split at h
      · rename_i hk
        subst hk
        simp only [Option.some.injEq] at h
        subst h
        rw [hu.1,hv.1,run_equalIn_int w n t _ _ _ _ ht]
        congr 1
      · simp at h
  case bool x =>
    cases q <;> simp only [eqLeaf] at h <;> try (simp at h; done)
    simp only [RepV] at hu hv
    cases ht : P.underlying t with
    | none => rw [ht] at h; simp at h
    | some d =>
      rw [ht] at h
      cases d <;> try (simp at h; done)
      simp only [Option.some.injEq] at h
      subst h
      rw [hu,hv,run_equalIn_bool' w n t _ _ ht]
  case str x =>
    cases q <;> simp only [eqLeaf] at h <;> try (simp at h; done)
    simp only [RepV] at hu hv
    obtain ⟨x1,rfl,rfl,_⟩ := hu
    obtain ⟨y1,rfl,rfl,_⟩ := hv
    cases ht : P.underlying t with
    | none => rw [ht] at h; simp at h
    | some d =>
      rw [ht] at h
      cases d <;> try (simp at h; done)
      simp only [Option.some.injEq] at h
      subst h
      rw [run_equalIn_string w n t _ _ ht]
      congr 1
      rw [Bool.eq_iff_iff]
      simp [bytesOf_inj,toList_eq]
theorem eqLeaf_scal {t : TypeId} {p q : PV} {r : Bool} (h : eqLeaf P t p q = some r) : ∃ d,P.underlying t = some d ∧ aggD d = false := by
  cases p <;> cases q <;> simp only [eqLeaf] at h <;> try (simp at h; done)
  all_goals
    cases ht : P.underlying t with
    | none => rw [ht] at h; simp at h
    | some d =>
      rw [ht] at h
      cases d <;> first
        | (simp at h; done)
        | exact ⟨_,rfl,rfl⟩
theorem part_one {t : TypeId} {d : TypeDesc} (hd : P.underlying t = some d) (ha : aggD d = false) {xs : Array Value} {i : Nat} {v : Value} (hv : xs[i]? = some v) (w : World) : (part t xs i).run P w = .ok v w := by
  unfold part
  simp only [Sem.run_bind,run_isAgg hd,Result.andThen_ok,ha,Bool.false_eq_true,if_false,hv,Sem.run_pure]
theorem eqFlat_run (n : Nat) (w : World) : ∀ (fs : List Field) (i : Nat) (l l' : List PV) (xs ys : Array Value) (r : Bool),
    RepL c l (xs.toList.drop i) → RepL c l' (ys.toList.drop i) → eqFlat P i fs l l' = some r → (Op.eqFields (n + 1) xs ys fs).run P w = .ok r w
  | [],i,l,l',xs,ys,r,h1,h2,h => by simp [eqFlat] at h
  | f :: fs,i,l,l',xs,ys,r,h1,h2,h => by
    have step : ∀ (p q : PV) (ps qs : List PV) (x y : Bool),l = p :: ps → l' = q :: qs → (f.offset = i && f.name != "_") = true → eqLeaf P f.type p q = some x →
        (x = true → (Op.eqFields (n + 1) xs ys fs).run P w = .ok y w) → (Op.eqFields (n + 1) xs ys (f :: fs)).run P w = .ok (x && y) w := by
      intro p q ps qs x y hl hl' hf hx hy
      subst hl hl'
      simp only [RepL] at h1 h2
      obtain ⟨v1,r1,e1,hv1,_⟩ := h1
      obtain ⟨v2,r2,e2,hv2,_⟩ := h2
      simp only [Bool.and_eq_true,decide_eq_true_eq,bne_iff_ne] at hf
      obtain ⟨ho,hn⟩ := hf
      obtain ⟨d,hd,ha⟩ := eqLeaf_scal hx
      have g1 : xs[i]? = some v1 := by
        have := congrArg (·[0]?) e1
        simpa using this
      have g2 : ys[i]? = some v2 := by
        have := congrArg (·[0]?) e2
        simpa using this
      rw [Op.eqFields]
      simp only [ho,ne_eq,hn,not_false_eq_true,if_true,Sem.run_bind,part_one hd ha g1,part_one hd ha g2,Result.andThen_ok,eqLeaf_run n hv1 hv2 hx]
      cases x
      · simp
      · simpa using hy rfl
    cases l with
    | nil => simp [eqFlat] at h
    | cons p ps =>
      cases l' with
      | nil => simp [eqFlat] at h
      | cons q qs =>
        simp only [eqFlat] at h
        split at h
        · rename_i hf
          cases hx : eqLeaf P f.type p q with
          | none => rw [hx] at h; simp at h
          | some x =>
            rw [hx] at h
            cases fs with
            | nil =>
              simp only [List.isEmpty_nil,Option.some.injEq] at h
              subst h
              have := step p q ps qs x true rfl rfl hf hx (fun _ => by simp [Op.eqFields])
              simpa using this
            | cons g gs =>
              simp only [List.isEmpty_cons] at h
              cases hy : eqFlat P (i + 1) (g :: gs) ps qs with
              | none => rw [hy] at h; simp at h
              | some y =>
                rw [hy] at h
                simp only [Option.some.injEq] at h
                subst h
                refine step p q ps qs x y rfl rfl hf hx (fun _ => ?_)
                simp only [RepL] at h1 h2
                obtain ⟨v1,r1,e1,hv1,t1⟩ := h1
                obtain ⟨v2,r2,e2,hv2,t2⟩ := h2
                refine eqFlat_run n w (g :: gs) (i + 1) ps qs xs ys y ?_ ?_ hy
                · have := congrArg (List.drop 1) e1
                  simp only [List.drop_drop,List.drop_succ_cons,List.drop_zero] at this
                  rw [this]; exact t1
                · have := congrArg (List.drop 1) e2
                  simp only [List.drop_drop,List.drop_succ_cons,List.drop_zero] at this
                  rw [this]; exact t2
        · simp at h
theorem anyOp_run {op : BinOp} {k yk : IntKind} {x y : Int} {p : PV} (t : TypeId) (hx : (Lit.int k x).wf = true) (hy : (Lit.int yk y).wf = true) (hp : anyOp op k yk = some p) :
    ∃ v,(binOp op t (.int k x) (.int yk y)).run P c.w = .ok v c.w ∧ RepV c p v := by
  have key : k = yk → p = .any k → (∃ z,intOp op k x yk y = some (.int k z)) → ∃ v,(binOp op t (.int k x) (.int yk y)).run P c.w = .ok v c.w ∧ RepV c p v := by
    rintro rfl rfl ⟨z,hz⟩
    obtain ⟨v,h1,h2⟩ := intOp_run (P := P) (c := c) t hx hy hz
    refine ⟨v,h1,?_⟩
    simp only [RepV] at h2 ⊢
    exact ⟨z,h2⟩
  cases op <;> simp only [anyOp] at hp <;> try (simp at hp; done)
  all_goals
    split at hp
    · rename_i hk
      simp only [Option.some.injEq] at hp
      exact key hk hp.symm ⟨_,by simp only [intOp]; rw [if_pos hk]⟩
    · simp at hp
theorem binPure_any {op : BinOp} {t : TypeId} {k yk : IntKind} {r : PV} {u v : Value} (x y : Operand) (hu : ∃ n,u = .int k n ∧ (Lit.int k n).wf = true) (hv : ∃ n,v = .int yk n ∧ (Lit.int yk n).wf = true) (hp : anyOp op k yk = some r) :
    ∃ z,(do eqGuard op t x y u v; binOp op t u v : Sem Value).run P c.w = .ok z c.w ∧ RepV c r z := by
  obtain ⟨n,rfl,hn⟩ := hu
  obtain ⟨m,rfl,hm⟩ := hv
  obtain ⟨z,h1,h2⟩ := anyOp_run (P := P) (c := c) t hn hm hp
  exact ⟨z,by simp only [Sem.run_bind,run_eqGuard (u := .int k n) (by simp) (by simp),Result.andThen_ok]; exact h1,h2⟩
theorem binPure_run {op : BinOp} {t : TypeId} {p q r : PV} {u v : Value} (x y : Operand) (hu : RepV c p u) (hv : RepV c q v) (hp : binPure P t op p q = some r) :
    ∃ z,(do eqGuard op t x y u v; binOp op t u v : Sem Value).run P c.w = .ok z c.w ∧ RepV c r z := by
  cases p <;> try (simp [binPure] at hp; done)
  case int k n =>
    cases q <;> simp only [binPure] at hp <;> try (simp at hp; done)
    · simp only [RepV] at hu hv
      rw [hu.1,hv.1]
      obtain ⟨z,h1,h2⟩ := intOp_run (P := P) (c := c) t hu.2 hv.2 hp
      exact ⟨z,by simp only [Sem.run_bind,run_eqGuard (u := .int k n) (by simp) (by simp),Result.andThen_ok]; exact h1,h2⟩
    · simp only [RepV] at hu hv
      exact binPure_any x y ⟨n,hu⟩ hv hp
  case any k =>
    cases q <;> simp only [binPure] at hp <;> try (simp at hp; done)
    · rename_i yk n
      simp only [RepV] at hu hv
      exact binPure_any x y hu ⟨n,hv⟩ hp
    · simp only [RepV] at hu hv
      exact binPure_any x y hu hv hp
  case str s =>
    cases q <;> simp only [binPure] at hp <;> try (simp at hp; done)
    simp only [RepV] at hu hv
    obtain ⟨x1,rfl,rfl,_⟩ := hu
    obtain ⟨y1,rfl,rfl,_⟩ := hv
    obtain ⟨z,h1,h2⟩ := strOp_run (P := P) (c := c) t hp
    exact ⟨z,by simp only [Sem.run_bind,run_eqGuard (u := .string x1) (by simp) (by simp),Result.andThen_ok]; exact h1,h2⟩
  case bool s =>
    cases q <;> simp only [binPure] at hp <;> try (simp at hp; done)
    simp only [RepV] at hu hv
    subst hu hv
    cases ht : P.underlying t with
    | none => rw [ht] at hp; simp at hp
    | some d =>
      rw [ht] at hp
      cases d <;> try (simp at hp; done)
      have he : (Op.equal t (.bool s) (.bool ‹Bool›)).run P c.w = .ok (s == ‹Bool›) c.w := run_equalIn_bool' c.w 9999 t _ _ ht
      cases op <;> try (simp at hp; done)
      all_goals
        simp only [Option.some.injEq] at hp
        subst hp
        refine ⟨_,by simp only [Sem.run_bind,run_eqGuard (u := .bool s) (by simp) (by simp),Result.andThen_ok,binOp,he,Sem.run_pure] <;> rfl,RepV.bool_ rfl⟩
  case agg l =>
    cases q <;> simp only [binPure] at hp <;> try (simp at hp; done)
    rename_i l'
    simp only [RepV] at hu hv
    obtain ⟨xs,rfl,h1⟩ := hu
    obtain ⟨ys,rfl,h2⟩ := hv
    cases ht : P.underlying t with
    | none => rw [ht] at hp; simp at hp
    | some d =>
      rw [ht] at hp
      cases d <;> try (simp at hp; done)
      rename_i fs
      simp only at hp
      cases hg : (P.stoodInHeld t || P.eqGuardType P.depth t) with
      | true => rw [hg] at hp; simp at hp
      | false =>
        rw [hg] at hp
        simp only [cond_false] at hp
        rw [Bool.or_eq_false_iff] at hg
        cases hr : eqFlat P 0 fs.toList l l' with
        | none => rw [hr] at hp; cases op <;> simp at hp
        | some r' =>
          rw [hr] at hp
          have hfo : P.fieldsOf t = fs := by simp [Program.fieldsOf,ht]
          have he : (Op.equal t (.agg xs) (.agg ys)).run P c.w = .ok r' c.w := by
            show (Op.equalIn (9999 + 1) t (.agg xs) (.agg ys)).run P c.w = _
            rw [run_equalIn_struct c.w 9999 t xs ys (by rw [hfo]; exact ht) hg.1,hfo]
            exact eqFlat_run 9998 c.w fs.toList 0 l l' xs ys r' (by simpa using h1) (by simpa using h2) hr
          have hgd : ∀ o : BinOp,(eqGuard o t x y (.agg xs) (.agg ys)).run P c.w = .ok () c.w := by
            intro o
            unfold eqGuard
            cases o <;> first
              | rfl
              | simp [hg.2]
          cases op <;> try (simp at hp; done)
          all_goals
            simp only [Option.some.injEq] at hp
            subst hp
            refine ⟨_,by simp only [Sem.run_bind,hgd,Result.andThen_ok,binOp,he,Sem.run_pure] <;> rfl,RepV.bool_ rfl⟩
end
end Go.Fw
