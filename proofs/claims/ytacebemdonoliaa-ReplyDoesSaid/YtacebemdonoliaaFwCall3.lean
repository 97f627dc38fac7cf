/- A call, carried out; all operations that act. -/
import Derived.Test.YtacebemdonoliaaFwCall2
import Derived.Test.YtacebemdonoliaaFwMap
set_option linter.unusedVariables false
set_option linter.unusedSimpArgs false
namespace Go.Fw
open Go.RowKit (Below)

section
variable {P : Program} {m : MM} {w0 : World} {st : St} {a : Act} {c : Cx} {R : Type} {K : St → Option R} {r : R} {o : Oper} {next : Act → World → Prop} {Q : Exit → Act → World → Prop}

theorem Kept.weaken {m m' : Nat → Prop} {w w' : World} (h : Kept m w w') (hm : ∀ b, m b → m' b) : Kept m' w w' := ⟨h.os, h.tape, h.output, h.size, fun k hk hn => h.block k hk (fun hb => hn (hm k hb))⟩
theorem callOp_sound {C : Ctx} (hS : C.Owed) {f : FuncId} {args : List PV} {vs : Array Value} (h : Rep m w0 st a c) (hg : ∀ x, o.dst = some x → NoGd st x) (hargs : RepL c args vs.toList)
    (hrun : (execOp a.eval o).run C.P c.w = .ok (.enter f vs) c.w) (hr : callOp C f args o.dst st K = some r)
    (hK : ∀ st' a' c', K st' = some r → Rep m w0 st' a' c' → next a' c'.w) : o.upon C.P a next Q ((execOp a.eval o).run C.P c.w) := by
  unfold callOp at hr
  split at hr
  · rename_i as d has hd
    obtain ⟨res, hcon, hres⟩ := hS.1 f _ R _ r hr
    have fin : ∀ (st1 : St) (c1 : Cx) (v : Value) (w' : World) (ok' : Nat → Prop) (bs : List Nat) (p : PV) (st2 : St), Rep m w0 st1 a c1 → c1.w = c.w → st1.s = st.s → Kept (fun _ => False) c.w w' → (∀ b, c1.ok b → ok' b) → (∀ b, ok' b → b < w'.heap.size ∧ (c1.ok b ∨ c.w.heap.size ≤ b)) →
        ResV w' ok' res v bs → bs.Nodup → (∀ b ∈ bs, c.w.heap.size ≤ b ∧ b < w'.heap.size ∧ ¬ ok' b) → bindRes st1 d res = some (p, st2) → K (st2.set d p) = some r → next (a.put o.dst v) w' := by
      intro st1 c1 v w' ok' bs p st2 rep hw hs hk ho1 ho2 hv hnd hbs hb hkr
      obtain ⟨rep1, mv1⟩ := rep.grow (w1 := w') ok' (rep.kept.trans (by rw [hw]; exact hk.weaken (fun _ h => h.elim))) (by rw [hw]; exact hk.size) (fun b hb => by rw [hw] at hb ⊢; exact hk.block b hb id) ho1 (fun b hb => by rw [hw]; exact ho2 b hb)
      have hfree : Free w0 { w := w', ok := ok', ρ := c1.ρ, σ := c1.σ, pin := c1.pin, a := c1.a, ob := c1.ob } bs := ⟨hnd, fun g hg => by
        obtain ⟨z1, z2, z3⟩ := hbs g hg
        refine ⟨z3, by have := h.kept.size; omega, z2, fun k' hk' he => ?_⟩
        have : Owns c1 k' := by
          obtain ⟨o', ho', hw'⟩ := hk'
          exact ⟨o', ho', hw'.congr (c := { w := w', ok := ok', ρ := c1.ρ, σ := c1.σ, pin := c1.pin, a := c1.a, ob := c1.ob }) (c1 := c1) rfl⟩
        have := (rep.mine k' this).2.2
        rw [hw] at this
        simp only at he
        omega⟩
      obtain ⟨c2, B, hp, bd⟩ := bindRes_sound rep1 hv hfree hb
      have hgd : p.isGd = false := by
        cases p <;> try rfl
        exfalso
        revert hb
        cases res <;> simp only [bindRes, bindOne, bindLeaf] <;> (try (intro hb; simp at hb; done)) <;> (split <;> simp_all)
      have := hK (st2.set d p) (a.put o.dst v) c2 hkr (by
        have := B.rep.put (some d) (p := p) (v := v) (SlotOK.of hp (ne_gd hgd)) (fun x hx => ⟨((hg x (by rw [hd]; exact hx)).of hs).of B.s, fun s w q he => absurd he (ne_gd hgd s w q)⟩)
        rw [hd]; exact this)
      rw [B.w] at this
      exact this
    rw [hrun, Oper.upon_enter]
    obtain ⟨hgate, hres⟩ := cond_some hres
    let all : Nat → Prop := fun b => b < c.w.heap.size
    have hrow : ∀ k, RowOk st c all k := by
      intro k e t l ho
      rcases ho with ho | ho
      · obtain ⟨A, n, h1, h2, h3, h4⟩ := h.objs k _ (by rw [h.ob]; exact ho)
        refine ⟨A, n, h1, h2, h3, fun h0 => ?_⟩
        rcases h4 with h4 | ⟨h4, cs, h5, h6, h7, h8⟩
        · omega
        · exact ⟨c.ρ k, 0, h4, h5.lt, row_reads h5 (h7.move (w1 := c.w) (ok1 := all) (fun _ _ => rfl) (fun b hb => h.ok b hb))⟩
      · obtain ⟨A, n, h1, h2, h3, h4⟩ := h.objs k _ (by rw [h.ob]; exact ho)
        exact ⟨A, n, h1, h2, h3, h4.move (fun _ _ => rfl) (fun b hb => h.ok b hb)⟩
    have hall := argsPV_rep (ok2 := all) (fun b hb => h.ok b hb) hargs (fun p _ k _ => hrow k) (fun _ b hb => h.zlt hb) has
    have hca : ∀ b, c.a b → b < c.w.heap.size := fun b hb => h.zlt (.inr hb)
    cases hnw : C.nw f with
    | true =>
      rw [hnw] at hcon hres
      simp only [Bool.or_true, cond_true] at hcon hres
      split at hres
      · rename_i p st2 hb
        refine (hcon c.w (fun _ => False) all vs (fun b hb => hb.elim (fun h => h.elim) id) (toAs_rep has hall)).mono ?_
        rintro e w' ⟨v, ok', bs, rfl, hk, _, ho2, hv, hnd, hbs⟩
        have hnew : ∀ b, ok' b → c.w.heap.size ≤ b := fun b hb => (ho2 b hb).2.elim (fun h => h.elim) id
        refine fin st c v w' (fun b => c.ok b ∨ ok' b) bs p st2 h rfl rfl hk (fun _ hb => .inl hb) (fun b hb => ?_) (hv.mono (fun _ hb => .inr hb)) hnd (fun b hb => ?_) hb hres
        · rcases hb with hb | hb
          · exact ⟨Nat.lt_of_lt_of_le (h.ok b hb) hk.size, .inl hb⟩
          · exact ⟨(ho2 b hb).1, .inr (hnew b hb)⟩
        · obtain ⟨z1, z2, z3⟩ := hbs b hb
          refine ⟨z1, z2, ?_⟩
          rintro (hh | hh)
          · have := h.ok b hh; omega
          · exact z3 hh
      · simp at hres
    | false =>
    rw [hnw] at hcon hres hgate
    simp only [Bool.or_false, cond_false, Bool.false_or] at hcon hres hgate
    cases hf : flat res with
    | true =>
      rw [hf] at hres
      simp only [cond_true] at hres
      split at hres
      · rename_i p st2 hb
        refine (hcon c.w all c.a vs (fun b hb => hb.elim id (hca b)) hall).mono ?_
        rintro e w' ⟨v, ok', bs, rfl, hk, _, _, hv, hnd, hbs⟩
        obtain ⟨hv2, rfl⟩ := flat_res (w' := w') (ok' := c.ok) hf hv
        exact fin st c v w' c.ok [] p st2 h rfl rfl hk (fun _ hb => hb) (fun b hb => ⟨Nat.lt_of_lt_of_le (h.ok b hb) hk.size, .inl hb⟩) hv2 List.nodup_nil (by simp) hb hres
      · simp at hres
    | false =>
      rw [hf] at hres hgate
      simp only [cond_false, Bool.false_or, Bool.not_eq_true'] at hres hgate
      split at hres
      · rename_i p st2 hb
        obtain ⟨c1, F⟩ := frozeL args (Froze.refl h)
        have hrow : ∀ k, (∃ p ∈ args, InArg p k) → RowOk st { c with ok := c1.ok } c1.ok k := by
          intro k hk e t l ho
          have hd1 := F.done k (.inr hk)
          have hob : c1.ob k = some (.frow e t l) := by
            rw [F.rep.ob, hd1]
            rcases ho with ho | ho <;> rw [ho] <;> rfl
          obtain ⟨A, n, h1, h2, h3, h4⟩ := F.rep.objs k _ hob
          exact ⟨A, n, by rw [← F.σ]; exact h1, h2, h3, by have := h4; rw [F.w] at this; exact this⟩
        have hm : Mv (fun _ => True) c { c with ok := c1.ok } := ⟨fun _ _ => rfl, F.ok, fun _ _ => rfl, fun _ _ => rfl, fun k e t l _ hl => ⟨e, l, hl, rfl⟩, fun _ ha => ha⟩
        have hargs' := argsPV_rep (c := { c with ok := c1.ok }) (ok2 := c1.ok) (fun b hb => hb) (RepL.move hm _ _ (fun _ _ => trivial) hargs) (fun p hp k hk => hrow k ⟨p, hp, hk⟩) (fun ha => by rw [hgate] at ha; simp at ha) has
        refine (hcon c.w c1.ok c.a vs (fun b hb => hb.elim (fun hb => by rw [← F.w]; exact F.rep.ok b hb) (hca b)) hargs').mono ?_
        rintro e w' ⟨v, ok', bs, rfl, hk, ho1, ho2, hv, hnd, hbs⟩
        exact fin _ c1 v w' ok' bs p st2 F.rep F.w F.s hk ho1 ho2 hv hnd hbs hb hres
      · simp at hres
  · simp at hr
theorem zip_rep (h : Rep m w0 st a c) : ∀ (l : List Operand) (ts : List TypeId), l.length = ts.length → RepL c ((l.zip ts).map fun p => typed P p.2 (operand st p.1)) (l.map a.eval)
  | [], [], _ => by simp [RepL]
  | [], _ :: _, h => by simp at h
  | _ :: _, [], h => by simp at h
  | x :: q, t :: ts, hl => by
    simp only [List.zip_cons_cons, List.map_cons, RepL]
    exact ⟨_, _, rfl, typed_rep (operand_rep h x) t, zip_rep h q ts (by simpa using hl)⟩
theorem act_call {C : Ctx} (hC : C.P = P) (hS : C.Owed) {f : Operand} {args : Array Operand} {argTypes : Array TypeId} (hop : o.op = .call { callee := .value f, args, argTypes }) (h : Rep m w0 st a c) (hg : ∀ x, o.dst = some x → NoGd st x) (hr : actOp C o st K = some r)
    (hK : ∀ st' a' c', K st' = some r → Rep m w0 st' a' c' → next a' c'.w) : o.upon P a next Q ((execOp a.eval o).run P c.w) := by
  subst hC
  simp only [actOp, hop] at hr
  have hf := operand_rep h f
  split at hr
  · rename_i g caps hfe
    rw [hfe] at hf
    simp only [RepV] at hf
    obtain ⟨cv, hfv, hcaps⟩ := hf
    obtain ⟨hc, hr⟩ := cond_some hr
    simp only [Bool.and_eq_true, decide_eq_true_eq] at hc
    obtain ⟨hent, hsz⟩ := hc
    unfold enters at hent
    split at hent
    · rename_i fn hfn
      simp only [Bool.and_eq_true, bne_iff_ne] at hent
      refine callOp_sound hS (vs := (args.map a.eval) ++ cv) h hg ?_ ?_ hr hK
      · rw [Array.toList_append, Array.toList_map]
        exact (zip_rep h args.toList argTypes.toList (by simpa using hsz)).append hcaps
      · have hbody : fn.body.isNone = false := by cases hb : fn.body <;> simp_all
        have hname : (fn.name == "runtime.NumGoroutine") = false := by simpa using hent.2
        simp only [execOp, hop, Sem.run_bind, resolve, hfv, Deferred.ofValue, Sem.run_pure, Result.andThen_ok, invoke, Array.empty_append, callFunc, run_program, hfn, hname, hbody, Bool.false_eq_true, if_false]
    · simp at hent
  · simp at hr

theorem actOp_sound {C : Ctx} (hS : C.Owed) (h : Rep m w0 st a c) (hg : ∀ x, o.dst = some x → NoGd st x) (hr : actOp C o st K = some r)
    (hK : ∀ st' a' c', K st' = some r → Rep m w0 st' a' c' → next a' c'.w) : o.upon C.P a next Q ((execOp a.eval o).run C.P c.w) := by
  cases ho : o.op with
  | pick x y z => exact act_pick ho h hg hr hK
  | binOp op t x y u => exact act_binOp rfl ho h hg hr hK
  | indexAddr t x i => exact act_indexAddr rfl ho h hg hr hK
  | index t x i => exact act_index rfl ho h hg hr hK
  | alloc t => exact act_alloc rfl ho h hg hr hK
  | box t x => exact act_box rfl ho h hg hr hK
  | build t parts => exact act_build rfl ho h hg hr hK
  | buildSlice t n parts => exact act_buildSlice rfl ho h hg hr hK
  | store t x y => exact act_store rfl ho h hg hr hK
  | makeSlice t x y => exact act_makeSlice rfl ho h hg hr hK
  | slice t x lo hi mx => exact act_slice rfl ho h hg hr hK
  | convert s d x => exact act_convert rfl ho h hg hr hK
  | call cl =>
    obtain ⟨callee, args, argTypes⟩ := cl
    cases callee with
    | value f => exact act_call rfl hS ho h hg hr hK
    | invoke x y => simp [actOp, ho] at hr
    | builtin b =>
      cases b <;> first
        | exact act_append rfl ho h hg hr hK
        | exact act_copy rfl ho h hg hr hK
        | (simp [actOp, ho] at hr; done)
  | lookup t x y ok => exact act_lookup rfl ho h hg hr hK
  | mapUpdate t x y z => exact act_mapUpdate rfl ho h hg hr hK
  | makeMap t r =>
    cases r with
    | none => exact act_makeMap rfl ho h hg hr hK
    | some r => simp [actOp, ho] at hr
  | _ => simp [actOp, ho] at hr

/-! ### one operation, guard and all -/
theorem ungd1_gd {s : Nat} {w : Bool} {p : PV} {s' : Nat} {w' : Bool} {v : PV} (h : ungd1 s w p = .gd s' w' v) : p = .gd s' w' v := by
  cases p <;> simp only [ungd1] at h <;> try (simp at h; done)
  rename_i s2 w2 v2
  cases hc : (Nat.beq s2 s && (w2 == w)) with
  | false => rw [hc] at h; exact h
  | true =>
    rw [hc] at h
    simp only [cond_true] at h
    have := san_isGd v2
    rw [h] at this
    simp [PV.isGd] at this
theorem Sized.ungd1 {n : Nat} {x : Sl} (h : Sized n x) (s : Nat) (w : Bool) : Sized n (x.map (ungd1 s w)) := h.map _ rfl fun _ _ _ _ => ungd1_gd
theorem ungd1_rep {s : Nat} {w : Bool} (h : Rep m w0 st a c) (hs : a.tmps.getD s undef = .bool w) : Rep m w0 ⟨st.s.map (ungd1 s w), st.o⟩ a c := by
  refine ⟨h.size.ungd1 s w, fun d => ?_, h.defers, h.ob, h.objs, h.apart, h.mine, h.ok, h.kept, h.old, h.new, h.pin, h.a, h.low⟩
  have : (St.get ⟨st.s.map (ungd1 s w), st.o⟩ d) = ungd1 s w (st.get d) := go_map _ rfl _ _
  rw [this]
  have hd := h.slots d
  cases hp : st.get d <;> rw [hp] at hd <;> simp only [ungd1] <;> try exact hd
  rename_i s' w' v
  cases hc : (Nat.beq s' s && (w' == w)) with
  | false => exact hd
  | true =>
    simp only [cond_true]
    simp only [Bool.and_eq_true, beq_iff_eq] at hc
    have h1 := beq_true.1 hc.1
    obtain rfl := hc.2
    subst h1
    simp only [SlotOK] at hd
    exact SlotOK.of (san_rep (hd.1 hs)) (ne_gd (san_isGd _))
theorem ungd1_nogd {s : Nat} {w : Bool} {d : Nat} (h : NoGd st d) : NoGd ⟨st.s.map (ungd1 s w), st.o⟩ d := by
  intro i s' w' v he
  have : (St.get ⟨st.s.map (ungd1 s w), st.o⟩ i) = ungd1 s w (st.get i) := go_map _ rfl _ _
  rw [this] at he
  cases hp : st.get i <;> rw [hp] at he <;> simp only [ungd1] at he <;> try (simp at he; done)
  rename_i s2 w2 v2
  cases hc : (Nat.beq s2 s && (w2 == w)) with
  | false =>
    rw [hc] at he
    simp only [cond_false, PV.gd.injEq] at he
    exact he.1 ▸ h i s2 w2 v2 hp
  | true =>
    rw [hc] at he
    simp only [cond_true] at he
    have := san_isGd v2
    rw [he] at this
    simp [PV.isGd] at this
/-- A slot's literal: what the machine has in it is known. -/
theorem lit_rep {s : Nat} {w : Bool} (h : Rep m w0 st a c) (hs : a.tmps.getD s undef = .bool w) : Rep m w0 (st.set s (.bool w)) a c := by
  refine ⟨h.size.set _ _, fun d => ?_, h.defers, h.ob, h.objs, h.apart, h.mine, h.ok, h.kept, h.old, h.new, h.pin, h.a, h.low⟩
  have : (st.set s (.bool w)).get d = if d = s ∧ st.s.has s = true then .bool w else st.get d := go_set _ _ _ _
  rw [this]
  split
  · rename_i hd
    rw [hd.1]
    simp only [SlotOK, RepV]; exact hs
  · exact h.slots d
theorem set_nogd {s d : Nat} {w : Bool} (h : NoGd st d) : NoGd (st.set s (.bool w)) d := by
  intro i s' w' v he
  have : (st.set s (.bool w)).get i = if i = s ∧ st.s.has s = true then .bool w else st.get i := go_set _ _ _ _
  rw [this] at he
  split at he
  · simp at he
  · exact h i s' w' v he

theorem undef_ne_bool (w : Bool) : (undef : Value) ≠ .bool w := by simp [undef]
theorem evForce_sound {ops : Array Oper} {R : Type} {r : R} {d : Option Nat} : ∀ (n s : Nat) (w : Bool) (st : St) {Ky Kn : St → Option R}, Rep m w0 st a c → (∀ x, d = some x → NoGd st x) → evForce ops n s w st Ky Kn = some r →
    (a.tmps.getD s undef = .bool w ∧ ∃ st', Rep m w0 st' a c ∧ (∀ x, d = some x → NoGd st' x) ∧ Ky st' = some r) ∨
    (a.tmps.getD s undef ≠ .bool w ∧ ∃ st', Rep m w0 st' a c ∧ (∀ x, d = some x → NoGd st' x) ∧ Kn st' = some r)
  | 0, s, w, st, Ky, Kn, h, hg, hr => by simp [evForce] at hr
  | n + 1, s, w, st, Ky, Kn, h, hg, hr => by
    unfold evForce at hr
    have hsl := h.slots s
    cases hst : st.get s <;> rw [hst] at hr hsl <;> try (simp at hr; done)
    case bool g =>
      simp only [SlotOK, RepV] at hsl
      simp only at hr
      by_cases hgw : g = w
      · subst hgw
        simp only [beq_self_eq_true, cond_true] at hr
        exact .inl ⟨hsl, _, ungd1_rep (lit_rep h hsl) hsl, fun x hx => ungd1_nogd (set_nogd (hg x hx)), hr⟩
      · have hb : (g == w) = false := by simpa using hgw
        rw [hb] at hr
        simp only [cond_false] at hr
        have hgn : g = !w := by cases g <;> cases w <;> simp_all
        refine .inr ⟨fun he => ?_, _, lit_rep h (by rw [hsl, hgn]), fun x hx => set_nogd (hg x hx), hr⟩
        rw [hsl] at he
        injection he with he
        exact hgw he
    case gd s1 w1 q =>
      simp only [SlotOK] at hsl
      simp only at hr
      cases hb : ops.toList.any (fun o => isGdOf o.dst s1) with
      | false => rw [hb] at hr; simp at hr
      | true =>
      rw [hb] at hr
      simp only [cond_true] at hr
      rcases evForce_sound n s1 w1 st h hg hr with ⟨h1, st1, h2, h3, h4⟩ | ⟨h1, st1, h2, h3, h4⟩
      · exact evForce_sound n s w st1 h2 h3 h4
      · refine .inr ⟨?_, st1, h2, h3, h4⟩
        rw [hsl.2 h1]
        exact undef_ne_bool w
theorem evOp_sound {C : Ctx} (hS : C.Owed) {ops : Array Oper} (h : Rep m w0 st a c) (hr : evOp C ops o st K = some r)
    (hK : ∀ st' a' c', K st' = some r → Rep m w0 st' a' c' → next a' c'.w) :
    if Region.wanted o (yielded ops a.tmps) = true then o.wp C.P a c.w next Q else next (a.put o.dst undef) c.w := by
  unfold evOp at hr
  cases hgd : gdOn st.s o.dst with
  | true => rw [hgd] at hr; simp at hr
  | false =>
    rw [hgd] at hr
    simp only [cond_false] at hr
    have hg : ∀ x, o.dst = some x → NoGd st x := by
      intro x hx
      rw [hx] at hgd
      exact gdOn_no h.size hgd
    have pure_ok : ∀ (st1 : St) (p : PV), Rep m w0 st1 a c → pureOp C.P st1 o = some p → ∃ v, (execOp a.eval o).run C.P c.w = .ok (.value v) c.w ∧ RepV c p v := fun st1 p h1 hp => pureOp_sound h1 hp
    cases hgu : o.guard with
    | none =>
      rw [hgu] at hr
      have hw : Region.wanted o (yielded ops a.tmps) = true := by simp [Region.wanted, hgu]
      rw [if_pos hw]
      unfold Oper.wp
      cases hp : pureOp C.P st o with
      | some p =>
        rw [hp] at hr
        obtain ⟨v, hrun, hv⟩ := pure_ok st p h hp
        exact close_value hrun h hg (san_rep hv) (san_isGd _) hr hK
      | none =>
        rw [hp] at hr
        exact actOp_sound hS h hg hr hK
    | some jw =>
      obtain ⟨j, w⟩ := jw
      rw [hgu] at hr
      simp only at hr
      cases hs : (ops[j]?).bind (·.dst) with
      | none => rw [hs] at hr; simp at hr
      | some s =>
        rw [hs] at hr
        simp only at hr
        have hwant : Region.wanted o (yielded ops a.tmps) = true ↔ a.tmps.getD s undef = .bool w := by
          simp only [Region.wanted, hgu, yielded, hs, Option.bind_some]
          rw [Array.getD_eq_getD_getElem?]
          cases ht : a.tmps[s]? with
          | none => simp [undef]
          | some x => cases x <;> simp
        cases hself : isGdOf o.dst s with
        | true => rw [hself] at hr; simp at hr
        | false =>
          rw [hself] at hr
          simp only [cond_false] at hr
          have hne : ∀ x, o.dst = some x → x ≠ s := by
            intro x hx he
            rw [hx] at hself
            simp only [isGdOf] at hself
            exact beq_false.1 hself he
          cases hp : pureOp C.P ⟨st.s.map (ungd1 s w), st.o⟩ o with
          | some p =>
            rw [hp] at hr
            simp only at hr
            have put : ∀ v : Value, (a.tmps.getD s undef = .bool w → RepV c p v) → (a.tmps.getD s undef ≠ .bool w → v = undef) → next (a.put o.dst v) c.w := by
              intro v hv hv2
              refine hK _ _ c hr (h.put o.dst (p := .gd s w (unw.san p)) (v := v) ?_ (fun x hx => ⟨hg x hx, fun s' w' q he => ?_⟩))
              · simp only [SlotOK]; exact ⟨fun hh => san_rep (hv hh), hv2⟩
              · simp only [PV.gd.injEq] at he
                obtain ⟨rfl, _, _⟩ := he
                exact fun hh => hne x hx hh.symm
            by_cases hw : Region.wanted o (yielded ops a.tmps) = true
            · rw [if_pos hw]
              obtain ⟨v, hrun, hv⟩ := pure_ok _ p (ungd1_rep h (hwant.1 hw)) hp
              unfold Oper.wp
              rw [hrun, Oper.upon_value]
              exact put v (fun _ => hv) (fun hh => absurd (hwant.1 hw) hh)
            · rw [if_neg hw]
              exact put undef (fun hh => absurd (hwant.2 hh) hw) (fun _ => rfl)
          | none =>
            rw [hp] at hr
            simp only at hr
            rcases evForce_sound (ops := ops) 6 s w st h hg hr with ⟨hy, st', h', hg', hr'⟩ | ⟨hn, st', h', hg', hr'⟩
            · have hw := hwant.2 hy
              rw [if_pos hw]
              unfold Oper.wp
              exact actOp_sound hS h' hg' hr' hK
            · have hw : ¬ Region.wanted o (yielded ops a.tmps) = true := fun hh => hn (hwant.1 hh)
              rw [if_neg hw]
              exact hK _ _ c hr' (h'.put o.dst (SlotOK.of (RepV.undef_ _ _) (by simp)) (fun x hx => ⟨hg' x hx, fun s w q he => by simp at he⟩))
end
end Go.Fw
