/- A loop's head: what is known there. -/
import Derived.Test.YtacebemdonoliaaFwAgree
set_option linter.unusedVariables false
set_option linter.unusedSimpArgs false
namespace Go.Fw

theorem any_beq {l : List Nat} {k : Nat} : l.any (Nat.beq k) = true ↔ k ∈ l := by
  simp only [List.any_eq_true]
  constructor
  · rintro ⟨x, hx, hb⟩; rw [beq_true.1 hb]; exact hx
  · exact fun h => ⟨k, h, beq_true.2 rfl⟩
theorem any_beq_false {l : List Nat} {k : Nat} : l.any (Nat.beq k) = false ↔ k ∉ l := by
  rw [← Bool.not_eq_true, any_beq]
theorem findO_goneO (h : List Nat) : ∀ (l : List (Nat × Nat × Ob)) (k : Nat), St.findO (goneO h l) k = (St.findO l k).map fun x => if k ∈ h then x else (x.1 + 1, .gone)
  | [], k => by simp [goneO, St.findO]
  | (k', v, o) :: r, k => by
    simp only [goneO]
    cases hh : h.any (Nat.beq k') with
    | true =>
      simp only [cond_true, St.findO]
      cases hb : Nat.beq k' k with
      | true => rw [beq_true.1 hb] at hh; simp [any_beq.1 hh]
      | false => simp only [cond_false]; exact findO_goneO h r k
    | false =>
      simp only [cond_false, St.findO]
      cases hb : Nat.beq k' k with
      | true => rw [beq_true.1 hb] at hh; simp [any_beq_false.1 hh]
      | false => simp only [cond_false]; exact findO_goneO h r k
theorem base_get (h : Head) (w : List Nat) (st : St) (d : Nat) : (base h w st).get d = if d ∈ w then .undef else Fw.ungd (st.get d) := by
  exact go_dropS w st.s d
theorem base_obj {h : Head} {w : List Nat} {st : St} {k : Nat} {o : Ob} (ho : (base h w st).obj k = some o) : o = .gone ∨ (k ∈ h.stay ∧ st.obj k = some o) := by
  unfold St.obj at ho ⊢
  simp only [base, findO_goneO] at ho
  cases hf : St.findO st.o k with
  | none => rw [hf] at ho; simp at ho
  | some x =>
    obtain ⟨v, x⟩ := x
    rw [hf] at ho
    simp only [Option.map_some] at ho
    split at ho
    · rename_i hk
      simp only [Option.some.injEq] at ho
      exact .inr ⟨hk, by simp only [ho]⟩
    · simp only [Option.some.injEq] at ho
      exact .inl ho.symm
theorem Obj.layO (st : St) (k : Nat) (o : Ob) : Obj st (st.layO k o) := by
  unfold St.layO
  split
  · rename_i hn
    refine ⟨rfl, fun i v x hi => ⟨v, x, ?_, Nat.le_refl _, fun _ => rfl⟩⟩
    simp only [St.findO]
    cases hb : Nat.beq k i with
    | true => rw [beq_true.1 hb] at hn; rw [hn] at hi; simp at hi
    | false => exact hi
  · exact Obj.setO _ _ _
theorem obj_layO (st : St) (k : Nat) (o : Ob) (i : Nat) : (st.layO k o).obj i = if i = k then some o else st.obj i := by
  unfold St.layO
  split
  · rename_i hn
    simp only [St.obj, St.findO]
    cases hb : Nat.beq k i with
    | true => rw [beq_true.1 hb]; simp
    | false => have := beq_false.1 hb; rw [if_neg (Ne.symm this)]; simp
  · rename_i x hx
    rw [obj_setO]
    split
    · rename_i hi; simp only [St.obj, hx, Option.map_some]
    · rfl
theorem get_set (st : St) (i : Nat) (v : PV) (d : Nat) : (st.set i v).get d = if d = i ∧ st.s.has i = true then v else st.get d := go_set _ _ _ _
theorem obj_set (st : St) (i : Nat) (v : PV) (k : Nat) : (st.set i v).obj k = st.obj k := rfl
theorem get_layO (st : St) (k : Nat) (o : Ob) (d : Nat) : (st.layO k o).get d = st.get d := by
  simp only [St.get, (Obj.layO st k o).s]

/-- What a variable lays into a slot. -/
def SlotOf : (v : HV) → v.den → Nat → PV → Prop
  | .data s t, y, d, p => d = s ∧ t.leaves y = [p]
  | .row s K _ _, _, d, p => d = s ∧ p = .own K
  | _, _, _, _ => False
def ObjOf : (v : HV) → v.den → Nat → Ob → Prop
  | .data .., _, _, _ => False
  | .row _ K e t, y, k, o => k = K ∧ o = .row e t y
  | .arr k' e t n, y, k, o => k = k' ∧ o = .arr e t n y
  | .box k' t, y, k, o => k = k' ∧ o = .box (t.leaves y)
  | .rowk k' e t, y, k, o => k = k' ∧ o = .row e t y
def HV.objKey : HV → Option Nat
  | .arr k .. | .box k _ | .rowk k .. => some k
  | _ => none
theorem lay_len (n : Nat) (st : St) (v : HV) (y : v.den) (h : Sized n st.s) : Sized n (v.lay st y).s := by
  cases v <;> simp only [HV.lay]
  · split
    · exact h.set _ _
    · exact h
  · rw [(Obj.layO _ _ _).s]; exact h.set _ _
  · rw [(Obj.layO _ _ _).s]; exact h
  · rw [(Obj.layO _ _ _).s]; exact h
  · rw [(Obj.layO _ _ _).s]; exact h
theorem lay_get (st : St) (v : HV) (y : v.den) (d : Nat) : (v.lay st y).get d = st.get d ∨ SlotOf v y d ((v.lay st y).get d) := by
  cases v <;> simp only [HV.lay]
  · split
    · rename_i p hp
      rw [get_set]
      split
      · rename_i h; exact .inr ⟨h.1, hp⟩
      · exact .inl rfl
    · exact .inl rfl
  · rw [get_layO, get_set]
    split
    · rename_i h; exact .inr ⟨h.1, rfl⟩
    · exact .inl rfl
  · exact .inl (get_layO _ _ _ _)
  · exact .inl (get_layO _ _ _ _)
  · exact .inl (get_layO _ _ _ _)
theorem lay_obj (st : St) (v : HV) (y : v.den) {k : Nat} {o : Ob} (h : (v.lay st y).obj k = some o) : st.obj k = some o ∨ ObjOf v y k o := by
  cases v <;> simp only [HV.lay] at h
  · split at h
    · exact .inl h
    · exact .inl h
  · rw [obj_layO] at h
    split at h
    · rename_i hk; simp only [Option.some.injEq] at h; exact .inr ⟨hk, h.symm⟩
    · exact .inl h
  · rw [obj_layO] at h
    split at h
    · rename_i hk; simp only [Option.some.injEq] at h; exact .inr ⟨hk, h.symm⟩
    · exact .inl h
  · rw [obj_layO] at h
    split at h
    · rename_i hk; simp only [Option.some.injEq] at h; exact .inr ⟨hk, h.symm⟩
    · exact .inl h
  · rw [obj_layO] at h
    split at h
    · rename_i hk; simp only [Option.some.injEq] at h; exact .inr ⟨hk, h.symm⟩
    · exact .inl h
theorem lay_oagree (st : St) (v : HV) (y : v.den) : OAgree st.o (v.lay st y).o := by
  cases v <;> simp only [HV.lay]
  · split
    · exact OAgree.refl _
    · exact OAgree.refl _
  · exact (Obj.layO (st.set _ _) _ _).ob
  · exact (Obj.layO _ _ _).ob
  · exact (Obj.layO _ _ _).ob
  · exact (Obj.layO _ _ _).ob

theorem lay_has (st : St) (v : HV) (y : v.den) (i : Nat) : (v.lay st y).s.has i = st.s.has i := by
  cases v <;> simp only [HV.lay]
  · split
    · exact has_set _ _ _ _
    · rfl
  · rw [(Obj.layO _ _ _).s]; exact has_set _ _ _ _
  · rw [(Obj.layO _ _ _).s]
  · rw [(Obj.layO _ _ _).s]
  · rw [(Obj.layO _ _ _).s]
theorem layL_has (i : Nat) : ∀ (vs : List HV) (st : St) (x : denL vs), (layL st vs x).s.has i = st.s.has i
  | [], _, _ => rfl
  | [v], st, x => lay_has st v x i
  | v :: w :: r, st, x => by rw [show layL st (v :: w :: r) x = layL (v.lay st x.1) (w :: r) x.2 from rfl, layL_has i (w :: r), lay_has]
theorem layL_len (n : Nat) : ∀ (vs : List HV) (st : St) (x : denL vs), Sized n st.s → Sized n (layL st vs x).s
  | [], _, _, h => h
  | [v], st, x, h => lay_len n st v x h
  | v :: w :: r, st, x, h => layL_len n (w :: r) _ _ (lay_len n st v x.1 h)
theorem layL_oagree : ∀ (vs : List HV) (st : St) (x : denL vs), OAgree st.o (layL st vs x).o
  | [], _, _ => OAgree.refl _
  | [v], st, x => lay_oagree st v x
  | v :: w :: r, st, x => (lay_oagree st v x.1).trans (layL_oagree (w :: r) _ x.2)
theorem layL_get : ∀ (vs : List HV) (st : St) (x : denL vs) (st' : St), readL st' vs = some x → ∀ d, (layL st vs x).get d = st.get d ∨ ∃ v ∈ vs, ∃ y, v.read st' = some y ∧ SlotOf v y d ((layL st vs x).get d)
  | [], _, _, _, _, d => .inl rfl
  | [v], st, x, st', hr, d => (lay_get st v x d).imp_right fun h => ⟨v, by simp, x, hr, h⟩
  | v :: w :: r, st, x, st', hr, d => by
    simp only [readL] at hr
    split at hr
    · rename_i y z hy hz
      simp only [Option.some.injEq] at hr
      subst hr
      rcases layL_get (w :: r) (v.lay st y) z st' hz d with h | ⟨u, hu, q, h1, h2⟩
      · rcases lay_get st v y d with h' | h'
        · exact .inl (h.trans h')
        · refine .inr ⟨v, by simp, y, hy, ?_⟩
          change SlotOf v y d ((layL (v.lay st y) (w :: r) z).get d)
          rw [h]; exact h'
      · exact .inr ⟨u, by simp only [List.mem_cons] at hu ⊢; exact .inr hu, q, h1, h2⟩
    · simp at hr
theorem layL_obj : ∀ (vs : List HV) (st : St) (x : denL vs) (st' : St), readL st' vs = some x → ∀ k o, (layL st vs x).obj k = some o → st.obj k = some o ∨ ∃ v ∈ vs, ∃ y, v.read st' = some y ∧ ObjOf v y k o
  | [], _, _, _, _, k, o, h => .inl h
  | [v], st, x, st', hr, k, o, h => (lay_obj st v x h).imp_right fun h => ⟨v, by simp, x, hr, h⟩
  | v :: w :: r, st, x, st', hr, k, o, h => by
    simp only [readL] at hr
    split at hr
    · rename_i y z hy hz
      simp only [Option.some.injEq] at hr
      subst hr
      rcases layL_obj (w :: r) (v.lay st y) z st' hz k o h with h | ⟨u, hu, q, h1, h2⟩
      · rcases lay_obj st v y h with h' | h'
        · exact .inl h'
        · exact .inr ⟨v, by simp, y, hy, h'⟩
      · exact .inr ⟨u, by simp only [List.mem_cons] at hu ⊢; exact .inr hu, q, h1, h2⟩
    · simp at hr

theorem apart1_spec {stay : List Nat} : ∀ {l : List Nat}, apart1 stay l = true → (∀ k ∈ l, k ∉ stay) ∧ l.Nodup
  | [], _ => ⟨by simp, List.nodup_nil⟩
  | k :: r, h => by
    simp only [apart1, Bool.and_eq_true, Bool.not_eq_true'] at h
    obtain ⟨h1, h2⟩ := apart1_spec h.2
    refine ⟨fun i hi => ?_, List.nodup_cons.2 ⟨any_beq_false.1 h.1.2, h2⟩⟩
    rcases List.mem_cons.1 hi with rfl | hi
    · exact any_beq_false.1 h.1.1
    · exact h1 i hi
theorem filterMap_inj {α : Type} {f : α → Option Nat} : ∀ {l : List α}, (l.filterMap f).Nodup → ∀ {v v' : α} {i : Nat}, v ∈ l → v' ∈ l → f v = some i → f v' = some i → v = v'
  | [], _, v, _, _, hv, _, _, _ => by simp at hv
  | u :: r, h, v, v', i, hv, hv', h1, h2 => by
    have hr : (r.filterMap f).Nodup := by
      rw [List.filterMap_cons] at h
      split at h
      · exact h
      · exact (List.nodup_cons.1 h).2
    rcases List.mem_cons.1 hv with e1 | hv1 <;> rcases List.mem_cons.1 hv' with e2 | hv2
    · rw [e1, e2]
    · subst e1
      rw [List.filterMap_cons, h1] at h
      exact absurd (show i ∈ r.filterMap f from List.mem_filterMap.2 ⟨v', hv2, h2⟩) (List.nodup_cons.1 h).1
    · subst e2
      rw [List.filterMap_cons, h2] at h
      exact absurd (show i ∈ r.filterMap f from List.mem_filterMap.2 ⟨v, hv1, h1⟩) (List.nodup_cons.1 h).1
    · exact filterMap_inj hr hv1 hv2 h1 h2

/-- The row variable whose number this is. -/
def rowSlot : List HV → Nat → Option Nat
  | [], _ => none
  | .row s K _ _ :: r, k => if K = k then some s else rowSlot r k
  | _ :: r, k => rowSlot r k
theorem rowSlot_some : ∀ {vs : List HV} {k s : Nat}, rowSlot vs k = some s → ∃ e t, HV.row s k e t ∈ vs
  | [], _, _, h => by simp [rowSlot] at h
  | v :: r, k, s, h => by
    have rec_ : rowSlot r k = some s → ∃ e t, HV.row s k e t ∈ v :: r := fun hh => by
      obtain ⟨e, t, h2⟩ := rowSlot_some hh
      exact ⟨e, t, List.mem_cons_of_mem _ h2⟩
    cases v <;> simp only [rowSlot] at h <;> try exact rec_ h
    split at h
    · rename_i s' K e t hk
      simp only [Option.some.injEq] at h
      subst h
      subst hk
      exact ⟨e, t, by simp⟩
    · exact rec_ h
theorem rowSlot_mem {vs : List HV} (hn : (vs.filterMap HV.rowKey).Nodup) {s K : Nat} {e : TypeId} {t : Ty} (h : HV.row s K e t ∈ vs) : rowSlot vs K = some s := by
  have : ∀ (us : List HV), (∃ e t, HV.row s K e t ∈ us) → ∃ s', rowSlot us K = some s' := by
    intro us
    induction us with
    | nil => rintro ⟨e, t, h⟩; simp at h
    | cons v r ih =>
      rintro ⟨e, t, h⟩
      rcases List.mem_cons.1 h with rfl | h
      · exact ⟨s, by simp [rowSlot]⟩
      · obtain ⟨s', hs'⟩ := ih ⟨e, t, h⟩
        cases v with
        | row s2 K2 e2 t2 =>
          simp only [rowSlot]
          split
          · exact ⟨s2, rfl⟩
          · exact ⟨s', hs'⟩
        | data _ _ => exact ⟨s', by simp only [rowSlot]; exact hs'⟩
        | arr _ _ _ _ => exact ⟨s', by simp only [rowSlot]; exact hs'⟩
        | box _ _ => exact ⟨s', by simp only [rowSlot]; exact hs'⟩
        | rowk _ _ _ => exact ⟨s', by simp only [rowSlot]; exact hs'⟩
  obtain ⟨s', hs'⟩ := this vs ⟨e, t, h⟩
  obtain ⟨e', t', h'⟩ := rowSlot_some hs'
  have := filterMap_inj hn h' h rfl rfl
  injection this with h1
  rw [hs', h1]

section
variable {P : Program} {m : MM} {w0 : World} {st0 st st' : St} {a : Act} {c : Cx}

theorem headOk_slot {h : Head} {w : List Nat} (hh : headOk h w st = true) {v : HV} (hv : v ∈ h.vars) {y : v.den} {d : Nat} {p : PV} (hs : SlotOf v y d p) : d ∈ w := by
  unfold headOk at hh
  have := List.all_eq_true.1 (Bool.and_eq_true_iff.1 hh).2 v hv
  cases v <;> simp only [SlotOf] at hs
  · rw [hs.1]; exact any_beq.1 this
  · simp only [Bool.and_eq_true] at this
    rw [hs.1]; exact any_beq.1 this.1.1.1
theorem headOk_nodup {h : Head} {w : List Nat} (hh : headOk h w st = true) : (h.vars.filterMap HV.rowKey).Nodup := (apart1_spec (Bool.and_eq_true_iff.1 hh).1).2
theorem headOk_row {h : Head} {w : List Nat} (hh : headOk h w st = true) {s K : Nat} {e : TypeId} {t : Ty} (hv : .row s K e t ∈ h.vars) :
    K ∉ h.stay ∧ (base h w st).s.refs K = false ∧ refsO (base h w st).o K = false := by
  unfold headOk at hh
  have := List.all_eq_true.1 (Bool.and_eq_true_iff.1 hh).2 _ hv
  simp only [Bool.and_eq_true, Bool.not_eq_true'] at this
  exact ⟨any_beq_false.1 this.1.1.2, this.1.2, this.2⟩
theorem headOk_key {h : Head} {w : List Nat} (hh : headOk h w st = true) {v : HV} (hv : v ∈ h.vars) {k : Nat} (hk : v.objKey = some k) : rowSlot h.vars k = none := by
  unfold headOk at hh
  have := List.all_eq_true.1 (Bool.and_eq_true_iff.1 hh).2 v hv
  cases hr : rowSlot h.vars k with
  | none => rfl
  | some s =>
    obtain ⟨e, t, h2⟩ := rowSlot_some hr
    cases v <;> simp only [HV.objKey, Option.some.injEq, reduceCtorEq] at hk <;> subst hk
    all_goals
      have := List.all_eq_true.1 this _ h2
      simp only [Bool.not_eq_true'] at this
      exact absurd rfl (beq_false.1 this)

theorem base_agree {h : Head} {w : List Nat} (st : St) : Agree w st (base h w st) := by
  refine ⟨fun i => has_dropS _ _ _, fun d hd hg => ?_, fun k v x hi => ?_⟩
  · rw [base_get, if_neg hd]
    cases hp : st.get d <;> rw [hp] at hg <;> simp [Fw.ungd] <;> simp [PV.isGd] at hg
  · simp only [base, findO_goneO, hi, Option.map_some]
    by_cases hk : k ∈ h.stay
    · exact ⟨v, x, by rw [if_pos hk], Nat.le_refl _, fun _ => rfl⟩
    · exact ⟨v + 1, .gone, by rw [if_neg hk], by omega, fun he => by omega⟩
theorem layL_keeps : ∀ (vs : List HV) (st : St) (x : denL vs) (d : Nat), (∀ v ∈ vs, ∀ y p, ¬ SlotOf v y d p) → (layL st vs x).get d = st.get d
  | [], _, _, _, _ => rfl
  | [v], st, x, d, h => (lay_get st v x d).resolve_right (h v (by simp) _ _)
  | v :: w :: r, st, x, d, h => (layL_keeps (w :: r) (v.lay st x.1) x.2 d (fun u hu => h u (List.mem_cons_of_mem _ hu))).trans ((lay_get st v x.1 d).resolve_right (h v (by simp) _ _))
theorem lay_agree {h : Head} {w : List Nat} (hh : headOk h w st0 = true) (x : denL h.vars) : Agree w st0 (layL (base h w st0) h.vars x) := by
  refine (base_agree st0).trans ⟨fun i => layL_has i _ _ _, fun d hd _ => ?_, layL_oagree _ _ _⟩
  exact layL_keeps _ _ _ _ fun v hv y p hs => hd (headOk_slot hh hv hs)

/-- The object, before, that bears the number's block. -/
noncomputable def srcK (h : Head) (st : St) (k : Nat) : Nat := match rowSlot h.vars k with
  | some s => match st.get s with | .own k0 => k0 | _ => k
  | none => k
noncomputable def headCx (h : Head) (st st2 : St) (a : Act) (c : Cx) : Cx :=
  { w := c.w, ok := c.ok, ρ := fun k => c.ρ (srcK h st k), σ := fun k => match rowSlot h.vars k with | some s => a.tmps.getD s undef | none => c.σ k, pin := c.pin, ob := st2.obj }

theorem leaves_nogd : ∀ (t : Ty) (x : t.den) (p : PV), p ∈ t.leaves x → p.isGd = false
  | .int _, _, p, h => by simp only [Ty.leaves, List.mem_singleton] at h; subst h; rfl
  | .bool, _, p, h => by simp only [Ty.leaves, List.mem_singleton] at h; subst h; rfl
  | .str, _, p, h => by simp only [Ty.leaves, List.mem_singleton] at h; subst h; rfl
  | .unit, _, p, h => by simp [Ty.leaves] at h
  | .pair a b, x, p, h => by
    simp only [Ty.leaves] at h
    rcases List.mem_append.1 h with h | h
    · exact leaves_nogd a _ p h
    · exact leaves_nogd b _ p h
  | .slice _ _, _, p, h => by simp only [Ty.leaves, List.mem_singleton] at h; subst h; rfl
theorem lay_rep {h : Head} {w : List Nat} {x : denL h.vars} (hh : headOk h w st0 = true) (hs : srcOk h st = true) (hag : Agree w st0 st) (hst : stays h st0 st = true)
    (hr : readL st h.vars = some x) (R : Rep m w0 st a c) : ∃ c2 : Cx, c2.w = c.w ∧ Rep m w0 (layL (base h w st0) h.vars x) a c2 := by
  obtain ⟨hs1, hs2⟩ := apart1_spec hs
  have hnd := headOk_nodup hh
  let st2 := layL (base h w st0) h.vars x
  refine ⟨headCx h st st2 a c, rfl, ?_⟩
  have hgc : (headCx h st st2 a c).ob = st2.obj := rfl
  -- what stays
  have hstay : ∀ k o, (base h w st0).obj k = some o → o = .gone ∨ (k ∈ h.stay ∧ st.obj k = some o) := by
    intro k o ho
    rcases base_obj ho with h1 | ⟨h1, h2⟩
    · exact .inl h1
    · refine .inr ⟨h1, ?_⟩
      have hv := List.all_eq_true.1 hst k h1
      unfold St.obj at h2 ⊢
      cases hf : St.findO st0.o k with
      | none => rw [hf] at h2; simp at h2
      | some p =>
        obtain ⟨v, q⟩ := p
        rw [hf] at h2 hv
        simp only [Option.some.injEq] at h2
        subst h2
        obtain ⟨v', x', g1, g2, g3⟩ := hag.ob k v q hf
        rw [g1] at hv ⊢
        simp only at hv ⊢
        rw [g3 (beq_true.1 hv).symm]
  have hnrow : ∀ k, k ∈ h.stay → rowSlot h.vars k = none := by
    intro k hk
    cases hr : rowSlot h.vars k with
    | none => rfl
    | some s =>
      obtain ⟨e, t, h2⟩ := rowSlot_some hr
      exact absurd hk (headOk_row hh h2).1
  have hsrc : ∀ k, rowSlot h.vars k = none → srcK h st k = k := by
    intro k hk; unfold srcK; rw [hk]
  have hσ : ∀ k, rowSlot h.vars k = none → (headCx h st st2 a c).σ k = c.σ k := by
    intro k hk; simp only [headCx, hk]
  have hρ : ∀ k, rowSlot h.vars k = none → (headCx h st st2 a c).ρ k = c.ρ k := by
    intro k hk; simp only [headCx, hsrc k hk]
  have hmv : Mv (fun k => rowSlot h.vars k = none) c (headCx h st st2 a c) := by
    refine ⟨fun _ _ => rfl, fun _ hb => hb, hρ, hσ, fun k e t l hk hl => ?_⟩
    have one : ∀ o, st2.obj k = some o → (∃ e t l, o = .row e t l) ∨ (∃ e t n l, o = .arr e t n l) → st.obj k = some o := by
      intro o ho hrow
      rcases layL_obj _ _ x st hr k o ho with h1 | ⟨v, hv, y, h1, h2⟩
      · rcases hstay k o h1 with rfl | h2
        · rcases hrow with ⟨_, _, _, h⟩ | ⟨_, _, _, _, h⟩ <;> simp at h
        · exact h2.2
      · cases v <;> simp only [ObjOf] at h2
        · rw [h2.1, rowSlot_mem hnd hv] at hk; simp at hk
        · rename_i k' e' t' n'
          obtain ⟨rfl, rfl⟩ := h2
          simp only [HV.read] at h1
          split at h1
          · rename_i e2 t2 n2 l2 ho2
            split at h1
            · rename_i he
              split at h1
              · rename_i ht
                subst ht
                simp only [Option.some.injEq] at h1
                subst h1
                rw [ho2, he.1, he.2]
              · simp at h1
            · simp at h1
          · simp at h1
        · rw [h2.2] at hrow; rcases hrow with ⟨_, _, _, h⟩ | ⟨_, _, _, _, h⟩ <;> simp at h
        · rename_i k' e' t'
          obtain ⟨rfl, rfl⟩ := h2
          simp only [HV.read] at h1
          split at h1
          · rename_i e2 t2 l2 ho2
            split at h1
            · rename_i he
              split at h1
              · rename_i ht
                subst ht
                simp only [Option.some.injEq] at h1
                subst h1
                rw [ho2, he]
              · simp at h1
            · simp at h1
          · simp at h1
    rcases hl with hl | ⟨n, hl⟩
    · exact ⟨e, l, .inl (by rw [R.ob]; exact one _ hl (.inl ⟨e, t, l, rfl⟩)), rfl⟩
    · exact ⟨e, l, .inr ⟨n, by rw [R.ob]; exact one _ hl (.inr ⟨e, t, n, l, rfl⟩)⟩, rfl⟩
  -- a row variable's slot
  have hrowv : ∀ s K e t y, HV.row s K e t ∈ h.vars → (HV.row s K e t).read st = some y →
      (∃ k0, st.get s = .own k0 ∧ st.obj k0 = some (.row e t y) ∧ a.tmps.getD s undef = c.σ k0 ∧ srcK h st K = k0) ∨
      (y = [] ∧ ∃ A, a.tmps.getD s undef = .slice A 0 0) := by
    intro s K e t y hv hy
    have hsl := R.slots s
    simp only [HV.read] at hy
    split at hy
    · rename_i k0 hg
      rw [hg] at hsl
      simp only [SlotOK, RepV] at hsl
      split at hy
      · rename_i e2 t2 l2 ho
        split at hy
        · rename_i he
          split at hy
          · rename_i ht
            subst ht
            simp only [Option.some.injEq] at hy
            subst hy
            refine .inl ⟨k0, hg, by rw [ho, he], hsl.1, ?_⟩
            unfold srcK
            rw [rowSlot_mem hnd hv]
            simp only [hg]
          · simp at hy
        · simp at hy
      · simp at hy
    · rename_i e2 t2 l2 hg
      rw [hg] at hsl
      simp only [SlotOK, RepV] at hsl
      split at hy
      · split at hy
        · rename_i ht
          subst ht
          simp only at hy
          split at hy
          · simp only [Option.some.injEq] at hy
            subst hy
            obtain ⟨A, h1, _⟩ := hsl
            exact .inr ⟨rfl, A, h1⟩
          · simp at hy
        · simp at hy
      · simp at hy
    · simp at hy
  have hone : ∀ (p q : PV) (u : Value), (match p with | .full e t l => .sl e t l | v => v) = q → SlotOK c a p u → ∀ (t : Ty) (y : t.den), t.of [q] = some y → Dat c.w c.ok t y [u] := by
    intro p q u hq hp t y hy
    refine Ty.of_dat (c := c) hy ?_
    have : RepV c q u := by
      have hp := hp.rep
      cases p <;> simp only at hq <;> subst hq <;> try exact hp
      simp only [RepV] at hp ⊢
      obtain ⟨A, h1, h2, h3⟩ := hp
      exact ⟨A, _, h1, Nat.le_refl _, h2, h3⟩
    simp only [RepL]
    exact ⟨u, [], rfl, this, rfl⟩
  -- the objects' sources
  have hown : ∀ k, Owns (headCx h st st2 a c) k → Owns c (srcK h st k) ∧ ((k ∈ h.stay ∧ srcK h st k = k) ∨ ∃ v ∈ h.vars, HV.src st v = some (srcK h st k) ∧ ((∃ s e t, v = .row s k e t) ∨ v.objKey = some k)) := by
    rintro k ⟨o, ho, hw⟩
    rcases layL_obj _ _ x st hr k o ho with h1 | ⟨v, hv, y, h1, h2⟩
    · rcases hstay k o h1 with rfl | ⟨h2, h3⟩
      · exact hw.elim
      · have hn := hnrow k h2
        rw [hsrc k hn]
        exact ⟨⟨o, by rw [R.ob]; exact h3, hw.congr (hσ k hn).symm⟩, .inl ⟨h2, rfl⟩⟩
    · cases v with
      | data s t => exact h2.elim
      | row s K e t =>
        obtain ⟨rfl, rfl⟩ := h2
        rcases hrowv s _ e t y hv h1 with ⟨k0, g1, g2, g3, g4⟩ | ⟨rfl, A, g⟩
        · rw [g4]
          refine ⟨⟨_, by rw [R.ob]; exact g2, ?_⟩, .inr ⟨_, hv, by simp only [HV.src, g1], .inl ⟨s, e, t, rfl⟩⟩⟩
          obtain ⟨A, n, mm, q1, q2⟩ := hw
          simp only [headCx, rowSlot_mem hnd hv] at q1
          exact ⟨A, n, mm, by rw [← g3]; exact q1, q2⟩
        · obtain ⟨A', n, mm, q1, q2⟩ := hw
          simp only [headCx, rowSlot_mem hnd hv] at q1
          rw [g] at q1
          injection q1 with _ _ q3
          exact absurd q3.symm q2
      | arr k' e t n =>
        obtain ⟨rfl, rfl⟩ := h2
        have hn := headOk_key hh hv (k := _) rfl
        rw [hsrc _ hn]
        refine ⟨?_, .inr ⟨_, hv, by simp only [HV.src], .inr rfl⟩⟩
        simp only [HV.read] at h1
        split at h1
        · rename_i e2 t2 n2 l2 ho2
          exact ⟨_, (R.ob _).trans ho2, trivial⟩
        · simp at h1
      | box k' t =>
        obtain ⟨rfl, rfl⟩ := h2
        have hn := headOk_key hh hv (k := _) rfl
        rw [hsrc _ hn]
        refine ⟨?_, .inr ⟨_, hv, by simp only [HV.src], .inr rfl⟩⟩
        simp only [HV.read] at h1
        split at h1
        · rename_i ho2
          exact ⟨_, (R.ob _).trans ho2, trivial⟩
        · simp at h1
      | rowk k' e t =>
        obtain ⟨rfl, rfl⟩ := h2
        have hn := headOk_key hh hv (k := _) rfl
        rw [hsrc _ hn]
        refine ⟨?_, .inr ⟨_, hv, by simp only [HV.src], .inr rfl⟩⟩
        simp only [HV.read] at h1
        split at h1
        · rename_i e2 t2 l2 ho2
          obtain ⟨A, n, mm, q1, q2⟩ := hw
          rw [hσ _ hn] at q1
          exact ⟨_, (R.ob _).trans ho2, A, n, mm, q1, q2⟩
        · simp at h1
  have hmem : ∀ v i, v ∈ h.vars → HV.src st v = some i → i ∈ h.vars.filterMap (HV.src st) := fun v i hv hi => List.mem_filterMap.2 ⟨v, hv, hi⟩
  refine ⟨?_, fun d => ?_, R.defers, fun k => rfl, fun k o ho => ?_, fun k k' hk hk' he => ?_, fun k hk => ?_, R.ok, R.kept, R.old, R.new, R.pin⟩
  · refine layL_len _ _ _ _ ⟨fun i => ?_, fun i s' w' v he => ?_⟩
    · show (dropS w st0.s).has i = _
      rw [has_dropS, ← hag.len, R.size.has]
    · have he' : (dropS w st0.s).go i = .gd s' w' v := he
      rw [go_dropS] at he'
      split at he'
      · simp at he'
      · cases hp : st0.s.go i <;> rw [hp] at he' <;> simp [Fw.ungd] at he'
  · -- slots
    rcases layL_get _ (base h w st0) x st hr d with h1 | ⟨v, hv, y, h1, h2⟩
    · rw [h1]
      have hb := base_get h w st0 d
      split at hb
      · rw [hb]; simp [SlotOK, RepV]
      · rename_i hd
        cases hg : (st0.get d).isGd with
        | true =>
          rw [hb]
          cases hp : st0.get d <;> rw [hp] at hg <;> simp [PV.isGd] at hg
          simp [Fw.ungd, SlotOK, RepV]
        | false =>
          have he : (base h w st0).get d = st.get d := by
            rw [hb, hag.get d hd hg]
            cases hp : st0.get d <;> rw [hp] at hg <;> simp [Fw.ungd] <;> simp [PV.isGd] at hg
          have hrefs : ∀ k, (st.get d).refs k = true → rowSlot h.vars k = none := by
            intro k hk
            cases hrs : rowSlot h.vars k with
            | none => rfl
            | some s =>
              obtain ⟨e, t, q2⟩ := rowSlot_some hrs
              have := (headOk_row hh q2).2.1
              rw [← he] at hk
              rw [go_refs (base h w st0).s d k hk] at this
              simp at this
          rw [he]
          exact SlotOK.move hmv hrefs (R.slots d)
    · cases v with
      | data s t =>
        obtain ⟨rfl, h4⟩ := h2
        simp only [HV.read] at h1
        have hd := hone _ _ _ rfl (R.slots d) t y h1
        have := Dat.leaves (c := headCx h st st2 a c) (show Dat _ _ t y [_] from hd)
        rw [h4] at this
        simp only [RepL] at this
        obtain ⟨v, r', e1, e2, _⟩ := this
        simp only [List.cons.injEq] at e1
        rw [e1.1]
        refine SlotOK.of e2 ?_
        intro s' w' q hq
        rw [hq] at h4
        have := leaves_nogd t y (.gd s' w' q) (by rw [h4]; simp)
        simp [PV.isGd] at this
      | row s K e t =>
        obtain ⟨rfl, h4⟩ := h2
        rw [h4]
        simp only [SlotOK, RepV]
        refine ⟨by simp only [headCx, rowSlot_mem hnd hv], ?_⟩
        rcases hrowv d K e t y hv h1 with ⟨k0, g1, g2, g3, g4⟩ | ⟨rfl, A, g⟩
        · have := (R.slots d).rep
          rw [g1] at this
          simp only [RepV] at this
          exact this.2
        · exact ⟨A, 0, 0, g⟩
      | arr _ _ _ _ => exact h2.elim
      | box _ _ => exact h2.elim
      | rowk _ _ _ => exact h2.elim
  · -- objects
    rcases layL_obj _ _ x st hr k o ho with h1 | ⟨v, hv, y, h1, h2⟩
    · rcases hstay k o h1 with rfl | ⟨h2, h3⟩
      · trivial
      · have hn := hnrow k h2
        refine (R.objs k o (by rw [R.ob]; exact h3)).move hmv (fun i hi => ?_) hn (fun _ => rfl)
        cases hrs : rowSlot h.vars i with
        | none => rfl
        | some s =>
          obtain ⟨e, t, q2⟩ := rowSlot_some hrs
          have := (headOk_row hh q2).2.2
          have hf : ∃ v, St.findO (base h w st0).o k = some (v, o) := by
            unfold St.obj at h1
            cases hf : St.findO (base h w st0).o k with
            | none => rw [hf] at h1; simp at h1
            | some p => rw [hf] at h1; simp only [Option.some.injEq] at h1; exact ⟨p.1, by rw [← h1]⟩
          obtain ⟨v, hf⟩ := hf
          rw [findO_refs _ k i v o hf hi] at this
          simp at this
    · cases v with
      | data s t => exact h2.elim
      | row s K e t =>
        obtain ⟨rfl, rfl⟩ := h2
        rcases hrowv s _ e t y hv h1 with ⟨k0, g1, g2, g3, g4⟩ | ⟨rfl, A, g⟩
        · obtain ⟨A, n, q1, q2⟩ := R.objs k0 _ (by rw [R.ob]; exact g2)
          refine ⟨A, n, ?_, ?_⟩
          · simp only [headCx, rowSlot_mem hnd hv]; rw [g3]; exact q1
          · simp only [headCx, g4]; exact q2
        · exact ⟨A, 0, by simp only [headCx, rowSlot_mem hnd hv]; exact g, Nat.le_refl _, by omega, .inl rfl⟩
      | arr k' e t n =>
        obtain ⟨rfl, rfl⟩ := h2
        have hn := headOk_key hh hv (k := _) rfl
        simp only [HV.read] at h1
        split at h1
        · rename_i e2 t2 n2 l2 ho2
          split at h1
          · rename_i he
            split at h1
            · rename_i ht
              subst ht
              simp only [Option.some.injEq] at h1
              subst h1
              have := R.objs k _ (by rw [R.ob]; exact ho2)
              rw [he.1, he.2] at this
              refine this.move hmv (fun i hi => by simp [Ob.refs] at hi) hn (fun _ => rfl)
            · simp at h1
          · simp at h1
        · simp at h1
      | box k' t =>
        obtain ⟨rfl, rfl⟩ := h2
        have hn := headOk_key hh hv (k := _) rfl
        simp only [HV.read] at h1
        split at h1
        · rename_i cl ho2
          obtain ⟨cs, q1, q2⟩ := R.objs k _ (by rw [R.ob]; exact ho2)
          refine ⟨cs, by rw [hρ k hn]; exact q1, ?_⟩
          exact Dat.leaves (c := headCx h st st2 a c) (show Dat _ _ t y _ from Ty.of_dat (c := c) h1 q2)
        · simp at h1
      | rowk k' e t =>
        obtain ⟨rfl, rfl⟩ := h2
        have hn := headOk_key hh hv (k := _) rfl
        simp only [HV.read] at h1
        split at h1
        · rename_i e2 t2 l2 ho2
          split at h1
          · rename_i he
            split at h1
            · rename_i ht
              subst ht
              simp only [Option.some.injEq] at h1
              subst h1
              have := R.objs k _ (by rw [R.ob]; exact ho2)
              rw [he] at this
              refine this.move hmv (fun i hi => by simp [Ob.refs] at hi) hn (fun _ => rfl)
            · simp at h1
          · simp at h1
        · simp at h1
  · -- apart
    obtain ⟨o1, c1⟩ := hown k hk
    obtain ⟨o2, c2⟩ := hown k' hk'
    have hsk : srcK h st k = srcK h st k' := R.apart _ _ o1 o2 he
    rcases c1 with ⟨s1, e1⟩ | ⟨v, hv, hs1', hk1⟩ <;> rcases c2 with ⟨s2, e2⟩ | ⟨v', hv', hs2', hk2⟩
    · rw [← e1, ← e2, hsk]
    · refine absurd s1 ?_
      rw [← e1, hsk]
      exact hs1 _ (hmem _ _ hv' hs2')
    · refine absurd s2 ?_
      rw [← e2, ← hsk]
      exact hs1 _ (hmem _ _ hv hs1')
    · have : v = v' := filterMap_inj hs2 hv hv' hs1' (hsk ▸ hs2')
      subst this
      rcases hk1 with ⟨s, e, t, rfl⟩ | hk1 <;> rcases hk2 with ⟨s', e', t', h3⟩ | hk2
      · simp only [HV.row.injEq] at h3; exact h3.2.1
      · simp [HV.objKey] at hk2
      · subst h3; simp [HV.objKey] at hk1
      · rw [hk1] at hk2; simpa using hk2
  · -- mine
    obtain ⟨o1, _⟩ := hown k hk
    exact R.mine _ o1
end
end Go.Fw
