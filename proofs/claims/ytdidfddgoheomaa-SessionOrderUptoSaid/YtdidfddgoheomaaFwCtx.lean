/- Functions by their laws: a context is built function by function; a law is true. -/
import Derived.Test.YtdidfddgoheomaaFwFunc
set_option linter.unusedVariables false
set_option linter.unusedSimpArgs false
namespace Go.Fw
open Go.RowKit (Below)

/-- An argument: a value of one cell, or a struct. -/
inductive ATy where
  | one (t : Ty) | agg (t : Ty)
  /-- nothing with no room behind it -/
  | nil (e : TypeId) (t : Ty)
  /-- this very function -/
  | fn (f : FuncId)
@[reducible] def ATy.den : ATy → Type
  | .one t => t.den
  | .agg t => t.den
  | .nil .. => Unit
  | .fn _ => Unit
def ATy.dec : (t : ATy) → PV → Option t.den
  | .one t, p => match p with | .agg _ => none | p => t.of [p]
  | .agg t, p => match p with | .agg c => t.of c | _ => none
  | .nil e t, p => match p with | .full e' t' [] => if e' = e ∧ t' = t then some () else none | _ => none
  | .fn f, p => match p with | .fn f' [] => bif Nat.beq f' f then some () else none | _ => none
def ATy.enc : (t : ATy) → t.den → PV
  | .one t, x => match t.leaves x with | [p] => p | _ => .undef
  | .agg t, x => .agg (t.leaves x)
  | .nil e t, _ => .full e t []
  | .fn f, _ => .fn f []
@[reducible] def dens : List ATy → Type
  | [] => Unit
  | [t] => t.den
  | t :: r => t.den × dens r
def decs : (ts : List ATy) → List PV → Option (dens ts)
  | [], [] => some ()
  | [t], [p] => t.dec p
  | t :: u :: r, p :: ps => match t.dec p, decs (u :: r) ps with | some x, some y => some (x, y) | _, _ => none
  | _, _ => none
def encs : (ts : List ATy) → dens ts → List PV
  | [], _ => []
  | [t], x => [t.enc x]
  | t :: u :: r, x => t.enc x.1 :: encs (u :: r) x.2

section
variable {c : Cx}
theorem ATy.dec_rep {t : ATy} {p : PV} {x : t.den} {v : Value} (h : t.dec p = some x) (hv : RepV c p v) : RepV c (t.enc x) v := by
  cases t with
  | one t =>
    simp only [ATy.dec] at h
    split at h
    · simp at h
    · have hd := Ty.of_dat (c := c) (vs := [v]) h (by simp only [RepL]; exact ⟨v, [], rfl, hv, rfl⟩)
      have hl := hd.leaves (c := c)
      simp only [ATy.enc]
      split
      · rename_i q hq
        rw [hq] at hl
        simp only [RepL] at hl
        obtain ⟨v', r', e1, e2, _⟩ := hl
        simp only [List.cons.injEq] at e1
        rw [e1.1]; exact e2
      · exact RepV.undef_ _ _
  | agg t =>
    simp only [ATy.dec] at h
    split at h
    · simp only [RepV] at hv
      obtain ⟨a, rfl, hl⟩ := hv
      have hd := Ty.of_dat (c := c) h hl
      simp only [ATy.enc, RepV]
      exact ⟨a, rfl, hd.leaves⟩
    · simp at h
  | nil e t =>
    simp only [ATy.dec] at h
    split at h
    · split at h
      · rename_i hh
        obtain ⟨rfl, rfl⟩ := hh
        exact hv
      · simp at h
    · simp at h
  | fn f =>
    simp only [ATy.dec] at h
    split at h
    · rename_i f'
      cases hb : Nat.beq f' f with
      | false => rw [hb] at h; simp at h
      | true =>
        have := beq_true.1 hb
        subst this
        exact hv
    · simp at h
theorem decs_rep : ∀ {ts : List ATy} {ps : List PV} {x : dens ts} {vs : List Value}, decs ts ps = some x → RepL c ps vs → RepL c (encs ts x) vs
  | [], [], _, _, _, hl => hl
  | [], _ :: _, _, _, h, _ => by simp [decs] at h
  | [t], [p], x, vs, h, hl => by
    simp only [RepL] at hl
    obtain ⟨v, r', rfl, e1, rfl⟩ := hl
    simp only [encs, RepL]
    exact ⟨v, [], rfl, ATy.dec_rep h e1, rfl⟩
  | [t], [], _, _, h, _ => by simp [decs] at h
  | [t], _ :: _ :: _, _, _, h, _ => by simp [decs] at h
  | t :: u :: r, [], _, _, h, _ => by simp [decs] at h
  | t :: u :: r, p :: ps, x, vs, h, hl => by
    simp only [RepL] at hl
    obtain ⟨v, r', rfl, e1, e2⟩ := hl
    simp only [decs] at h
    split at h
    · rename_i y z hy hz
      simp only [Option.some.injEq] at h
      subst h
      simp only [encs, RepL]
      exact ⟨v, r', rfl, ATy.dec_rep hy e1, decs_rep hz e2⟩
    · simp at h
theorem ATy.enc_nogd (t : ATy) (x : t.den) : (t.enc x).isGd = false := by
  cases t with
  | one t =>
    simp only [ATy.enc]
    split
    · rename_i p hp
      exact leaves_nogd t x p (by rw [hp]; simp)
    · rfl
  | agg t => rfl
  | nil e t => rfl
  | fn f => rfl
theorem encs_nogd : ∀ (ts : List ATy) (x : dens ts), ∀ p ∈ encs ts x, p.isGd = false
  | [], _, p, h => by simp [encs] at h
  | [t], x, p, h => by simp only [encs, List.mem_singleton] at h; rw [h]; exact ATy.enc_nogd t x
  | t :: u :: r, x, p, h => by
    simp only [encs] at h
    rcases List.mem_cons.1 h with h | h
    · rw [h]; exact ATy.enc_nogd t _
    · exact encs_nogd (u :: r) x.2 p h
end

/-! ### results -/
inductive RL where
  | int (k : IntKind) | bool | str | sl (e : TypeId) (t : Ty) | fresh (e : TypeId) (t : Ty)
@[reducible] def RL.den : RL → Type
  | .int _ => Int | .bool => Bool | .str => List Int | .sl _ t => List t.den | .fresh _ t => List t.den
def RL.dec : (r : RL) → PV → Option r.den
  | .int k, .int k' n => if k' = k then some n else none
  | .bool, .bool b => some b
  | .str, .str s => some s
  | .sl e t, .sl e' t' l => if e' = e then if h : t' = t then some (h ▸ l) else none else none
  | .fresh e t, .fresh e' t' l => if e' = e then if h : t' = t then some (h ▸ l) else none else none
  | .sl e t, .fresh e' t' l => if e' = e then if h : t' = t then some (h ▸ l) else none else none
  | _, _ => none
def RL.enc : (r : RL) → r.den → PV
  | .int k, n => .int k n | .bool, b => .bool b | .str, s => .str s | .sl e t, l => .sl e t l | .fresh e t, l => .fresh e t l
@[reducible] def RL.dens : List RL → Type
  | [] => Unit
  | [r] => r.den
  | r :: q => r.den × RL.dens q
def RL.decs : (rs : List RL) → List PV → Option (RL.dens rs)
  | [], [] => some ()
  | [r], [p] => r.dec p
  | r :: u :: q, p :: ps => match r.dec p, RL.decs (u :: q) ps with | some x, some y => some (x, y) | _, _ => none
  | _, _ => none
def RL.encs : (rs : List RL) → RL.dens rs → List PV
  | [], _ => []
  | [r], x => [r.enc x]
  | r :: u :: q, x => r.enc x.1 :: RL.encs (u :: q) x.2
inductive RO where
  | leaf (r : RL) | agg (l : List RL)
@[reducible] def RO.den : RO → Type
  | .leaf r => r.den | .agg l => RL.dens l
def RO.dec : (r : RO) → PV → Option r.den
  | .leaf r, p => r.dec p
  | .agg l, .agg c => RL.decs l c
  | .agg _, _ => none
def RO.enc : (r : RO) → r.den → PV
  | .leaf r, x => r.enc x | .agg l, x => .agg (RL.encs l x)
@[reducible] def RO.dens : List RO → Type
  | [] => Unit
  | [r] => r.den
  | r :: q => r.den × RO.dens q
def RO.decs : (rs : List RO) → List PV → Option (RO.dens rs)
  | [], [] => some ()
  | [r], [p] => r.dec p
  | r :: u :: q, p :: ps => match r.dec p, RO.decs (u :: q) ps with | some x, some y => some (x, y) | _, _ => none
  | _, _ => none
def RO.encs : (rs : List RO) → RO.dens rs → List PV
  | [], _ => []
  | [r], x => [r.enc x]
  | r :: u :: q, x => r.enc x.1 :: RO.encs (u :: q) x.2
inductive RT where
  | one (r : RO) | tup (l : List RO)
@[reducible] def RT.den : RT → Type
  | .one r => r.den | .tup l => RO.dens l
def RT.dec : (r : RT) → PV → Option r.den
  | .one r, p => r.dec p
  | .tup l, .tup c => RO.decs l c
  | .tup _, _ => none
def RT.enc : (r : RT) → r.den → PV
  | .one r, x => r.enc x | .tup l, x => .tup (RO.encs l x)
theorem ResLeaf.mono {w : World} {ok ok' : Nat → Prop} (ho : ∀ b, ok b → ok' b) {p : PV} {v : Value} {bs : List Nat} (h : ResLeaf w ok p v bs) : ResLeaf w ok' p v bs := by
  have mv : Mv (fun _ => True) (shut w ok) (shut w ok') := ⟨fun _ _ => rfl, ho, fun _ _ => rfl, fun _ _ => rfl, fun k e t l _ hl => ⟨e, l, hl, rfl⟩⟩
  cases p
  case fresh e t l =>
    obtain ⟨A, n, h1, h2, h3, h4⟩ := h
    refine ⟨A, n, h1, h2, h3, ?_⟩
    rcases h4 with h4 | ⟨g, g1, g2, cs, g3, g4, g5, g6⟩
    · exact .inl h4
    · exact .inr ⟨g, g1, g2, cs, g3, g4, g5.move (fun _ _ => rfl) ho, g6⟩
  all_goals exact ⟨h.1, RepV.move mv _ _ (fun _ _ => trivial) h.2⟩
theorem ResL.mono {w : World} {ok ok' : Nat → Prop} (ho : ∀ b, ok b → ok' b) : ∀ {l : List PV} {vs : List Value} {bs : List Nat}, ResL w ok l vs bs → ResL w ok' l vs bs
  | [], _, _, h => h
  | _ :: _, _, _, ⟨v, r', b1, b2, h1, h2, h3, h4⟩ => ⟨v, r', b1, b2, h1, h2, h3.mono ho, ResL.mono ho h4⟩
theorem ResOne.mono {w : World} {ok ok' : Nat → Prop} (ho : ∀ b, ok b → ok' b) {p : PV} {v : Value} {bs : List Nat} (h : ResOne w ok p v bs) : ResOne w ok' p v bs := by
  cases p
  case agg c => obtain ⟨a, h1, h2⟩ := h; exact ⟨a, h1, h2.mono ho⟩
  all_goals (simp only [ResOne] at h ⊢; exact h.mono ho)
theorem ResAll.mono {w : World} {ok ok' : Nat → Prop} (ho : ∀ b, ok b → ok' b) : ∀ {l : List PV} {vs : List Value} {bs : List Nat}, ResAll w ok l vs bs → ResAll w ok' l vs bs
  | [], _, _, h => h
  | _ :: _, _, _, ⟨v, r', b1, b2, h1, h2, h3, h4⟩ => ⟨v, r', b1, b2, h1, h2, h3.mono ho, ResAll.mono ho h4⟩
theorem RL.weak {w : World} {ok : Nat → Prop} {r : RL} {p : PV} {x : r.den} (h : r.dec p = some x) {v : Value} {bs : List Nat} (hp : ResLeaf w ok p v bs) : ∃ ad bs2, (ad ++ bs2).Perm bs ∧ ResLeaf w (fun b => ok b ∨ b ∈ ad) (r.enc x) v bs2 := by
  have same : p = r.enc x → ∃ ad bs2, (ad ++ bs2).Perm bs ∧ ResLeaf w (fun b => ok b ∨ b ∈ ad) (r.enc x) v bs2 := fun he => ⟨[], bs, .refl _, ResLeaf.mono (ok := ok) (fun b hb => Or.inl hb) (he ▸ hp)⟩
  cases r <;> cases p <;> simp only [RL.dec] at h <;> try (simp at h; done)
  case int.int => split at h <;> simp_all [RL.enc]
  case bool.bool => exact same (by simp_all [RL.enc])
  case str.str => exact same (by simp_all [RL.enc])
  case sl.sl =>
    split at h
    · split at h
      · rename_i h1 h2; subst h1; subst h2; exact same (by simp_all [RL.enc])
      · simp at h
    · simp at h
  case fresh.fresh =>
    split at h
    · split at h
      · rename_i h1 h2; subst h1; subst h2; exact same (by simp_all [RL.enc])
      · simp at h
    · simp at h
  case sl.fresh e t e' t' l =>
    split at h
    · split at h
      · rename_i h1 h2
        subst h1; subst h2
        simp only [Option.some.injEq] at h
        subst h
        obtain ⟨A, n, q1, q2, q3, q4⟩ := hp
        rcases q4 with ⟨q4, rfl⟩ | ⟨g, rfl, g2, cs, g3, g4, g5, g6⟩
        · refine ⟨[], [], .refl _, rfl, ?_⟩
          simp only [RepV, RL.enc]
          exact ⟨A, n, q1, q2, q3, fun h0 => by omega⟩
        · refine ⟨[g], [], by simp, rfl, ?_⟩
          simp only [RepV, RL.enc]
          refine ⟨A, n, q1, q2, q3, fun h0 => ⟨g, 0, g2, .inr (by simp), ?_⟩⟩
          exact row_reads g3 (g5.move (w1 := w) (ok1 := fun b => ok b ∨ b ∈ [g]) (fun _ _ => rfl) (fun b hb => .inl hb))
      · simp at h
    · simp at h
theorem perm_join {a1 b1 a2 b2 c1 c2 : List Nat} (h1 : (a1 ++ b1).Perm c1) (h2 : (a2 ++ b2).Perm c2) : ((a1 ++ a2) ++ (b1 ++ b2)).Perm (c1 ++ c2) := by
  refine List.Perm.trans ?_ (h1.append h2)
  rw [List.append_assoc, List.append_assoc]
  refine List.Perm.append_left a1 ?_
  rw [← List.append_assoc, ← List.append_assoc]
  exact List.Perm.append_right b2 (List.perm_append_comm)
theorem RL.weaks {w : World} {ok : Nat → Prop} : ∀ {rs : List RL} {ps : List PV} {x : RL.dens rs} {vs : List Value} {bs : List Nat}, RL.decs rs ps = some x → ResL w ok ps vs bs → ∃ ad bs2, (ad ++ bs2).Perm bs ∧ ResL w (fun b => ok b ∨ b ∈ ad) (RL.encs rs x) vs bs2
  | [], [], _, vs, bs, _, h => ⟨[], bs, .refl _, ResL.mono (fun b hb => .inl hb) h⟩
  | [], _ :: _, _, _, _, h, _ => by simp [RL.decs] at h
  | [r], [p], x, vs, bs, h, ⟨v, r', b1, b2, h1, h2, h3, h4⟩ => by
    obtain ⟨ad, bs2, k1, k2⟩ := RL.weak (r := r) h h3
    obtain ⟨h5, h6⟩ := h4
    subst h5; subst h6; subst h2
    rw [List.append_nil]
    exact ⟨ad, bs2, k1, v, [], bs2, [], h1, by simp, k2, rfl, rfl⟩
  | [r], [], _, _, _, h, _ => by simp [RL.decs] at h
  | [r], _ :: _ :: _, _, _, _, h, _ => by simp [RL.decs] at h
  | r :: u :: q, [], _, _, _, h, _ => by simp [RL.decs] at h
  | r :: u :: q, p :: ps, x, vs, bs, h, ⟨v, r', b1, b2, h1, h2, h3, h4⟩ => by
    simp only [RL.decs] at h
    split at h
    · rename_i y z hy hz
      simp only [Option.some.injEq] at h
      subst h
      obtain ⟨a1, c1, k1, k2⟩ := RL.weak hy h3
      obtain ⟨a2, c2, k3, k4⟩ := RL.weaks hz h4
      subst h2
      refine ⟨a1 ++ a2, c1 ++ c2, perm_join k1 k3, v, r', c1, c2, h1, rfl, k2.mono ?_, k4.mono ?_⟩
      · intro b hb; rcases hb with hb | hb; exact .inl hb; exact .inr (List.mem_append_left _ hb)
      · intro b hb; rcases hb with hb | hb; exact .inl hb; exact .inr (List.mem_append_right _ hb)
    · simp at h
theorem RO.weak {w : World} {ok : Nat → Prop} {r : RO} {p : PV} {x : r.den} (h : r.dec p = some x) {v : Value} {bs : List Nat} (hp : ResOne w ok p v bs) : ∃ ad bs2, (ad ++ bs2).Perm bs ∧ ResOne w (fun b => ok b ∨ b ∈ ad) (r.enc x) v bs2 := by
  cases r with
  | leaf r =>
    have hl : ResLeaf w ok p v bs := by
      cases p <;> first | exact hp | (cases r <;> simp [RO.dec, RL.dec] at h)
    obtain ⟨ad, bs2, k1, k2⟩ := RL.weak h hl
    refine ⟨ad, bs2, k1, ?_⟩
    have hne : ∀ c, RL.enc r x ≠ .agg c := by intro c; cases r <;> simp [RL.enc]
    simp only [RO.enc]
    cases he : RL.enc r x <;> rw [he] at k2 hne <;> first | exact k2 | exact absurd rfl (hne _)
  | agg l =>
    cases p <;> simp only [RO.dec] at h <;> try (simp at h; done)
    obtain ⟨a, h1, h2⟩ := hp
    obtain ⟨ad, bs2, k1, k2⟩ := RL.weaks h h2
    exact ⟨ad, bs2, k1, a, h1, k2⟩
theorem RO.weaks {w : World} {ok : Nat → Prop} : ∀ {rs : List RO} {ps : List PV} {x : RO.dens rs} {vs : List Value} {bs : List Nat}, RO.decs rs ps = some x → ResAll w ok ps vs bs → ∃ ad bs2, (ad ++ bs2).Perm bs ∧ ResAll w (fun b => ok b ∨ b ∈ ad) (RO.encs rs x) vs bs2
  | [], [], _, vs, bs, _, h => ⟨[], bs, .refl _, ResAll.mono (fun b hb => .inl hb) h⟩
  | [], _ :: _, _, _, _, h, _ => by simp [RO.decs] at h
  | [r], [p], x, vs, bs, h, ⟨v, r', b1, b2, h1, h2, h3, h4⟩ => by
    obtain ⟨ad, bs2, k1, k2⟩ := RO.weak (r := r) h h3
    obtain ⟨h5, h6⟩ := h4
    subst h5; subst h6; subst h2
    rw [List.append_nil]
    exact ⟨ad, bs2, k1, v, [], bs2, [], h1, by simp, k2, rfl, rfl⟩
  | [r], [], _, _, _, h, _ => by simp [RO.decs] at h
  | [r], _ :: _ :: _, _, _, _, h, _ => by simp [RO.decs] at h
  | r :: u :: q, [], _, _, _, h, _ => by simp [RO.decs] at h
  | r :: u :: q, p :: ps, x, vs, bs, h, ⟨v, r', b1, b2, h1, h2, h3, h4⟩ => by
    simp only [RO.decs] at h
    split at h
    · rename_i y z hy hz
      simp only [Option.some.injEq] at h
      subst h
      obtain ⟨a1, c1, k1, k2⟩ := RO.weak hy h3
      obtain ⟨a2, c2, k3, k4⟩ := RO.weaks hz h4
      subst h2
      refine ⟨a1 ++ a2, c1 ++ c2, perm_join k1 k3, v, r', c1, c2, h1, rfl, k2.mono ?_, k4.mono ?_⟩
      · intro b hb; rcases hb with hb | hb; exact .inl hb; exact .inr (List.mem_append_left _ hb)
      · intro b hb; rcases hb with hb | hb; exact .inl hb; exact .inr (List.mem_append_right _ hb)
    · simp at h
theorem RT.dec_enc (r : RT) (p : PV) (x : r.den) (h : r.dec p = some x) : Weak p (r.enc x) := by
  intro w ok v bs hp
  cases r with
  | one r =>
    have hl : ResOne w ok p v bs := by
      cases p <;> first | exact hp | (cases r with | leaf r => cases r <;> simp [RT.dec, RO.dec, RL.dec] at h | agg l => simp [RT.dec, RO.dec] at h)
    obtain ⟨ad, bs2, k1, k2⟩ := RO.weak h hl
    refine ⟨ad, bs2, k1, ?_⟩
    have hne : ∀ c, RO.enc r x ≠ .tup c := by
      intro c
      cases r with
      | leaf r => cases r <;> simp [RO.enc, RL.enc]
      | agg l => simp [RO.enc]
    simp only [RT.enc]
    cases he : RO.enc r x <;> rw [he] at k2 hne <;> first | exact k2 | exact absurd rfl (hne _)
  | tup l =>
    cases p <;> simp only [RT.dec] at h <;> try (simp at h; done)
    obtain ⟨a, h1, h2⟩ := hp
    obtain ⟨ad, bs2, k1, k2⟩ := RO.weaks h h2
    exact ⟨ad, bs2, k1, a, h1, k2⟩

/-- No function is told. -/
def Ctx.nil (P : Program) : Ctx := ⟨P, fun _ _ _ _ => none, []⟩
theorem Ctx.nil_sound (P : Program) : (Ctx.nil P).Sound := fun _ _ _ _ _ h => by simp [Ctx.nil] at h
/-- One function more. -/
def Ctx.add (C : Ctx) (f : FuncId) (ts : List ATy) (r : RT) (F : dens ts → Option r.den) : Ctx :=
  ⟨C.P, fun f' args _ K => bif Nat.beq f' f then (match decs ts args with | some b => (F b).bind fun x => K (r.enc x) [] | none => C.call f' args K) else C.call f' args K, []⟩
theorem Contract.weaken {P : Program} {f : FuncId} {ts : List ATy} {args : List PV} {b : dens ts} {res : PV} (hd : decs ts args = some b) (h : Contract P f (encs ts b) res) : Contract P f args res :=
  fun w ok vs hok ha => h w ok vs hok (decs_rep hd ha)
theorem Ctx.Sound.of {C : Ctx} (hC : C.Sound) {f : FuncId} {ts : List ATy} {r : RT} {F : dens ts → Option r.den} (h : ∀ b q, F b = some q → Contract C.P f (encs ts b) (r.enc q)) : (C.add f ts r F).Sound := by
  intro f' args R K x hr
  simp only [Ctx.add] at hr
  cases hb : Nat.beq f' f with
  | false => rw [hb] at hr; exact hC f' args R K x hr
  | true =>
    rw [hb] at hr
    have := beq_true.1 hb
    subst this
    simp only [cond_true] at hr
    split at hr
    · rename_i b hd
      cases hF : F b with
      | none => rw [hF] at hr; simp at hr
      | some q =>
        rw [hF] at hr
        simp only [Option.bind_some] at hr
        exact ⟨r.enc q, Contract.weaken hd (h b q hF), hr⟩
    · exact hC _ args R K x hr
theorem Ctx.Sound.add {C : Ctx} (hm : C.P.follows .mixedOrders = true) (hC : C.Sound) {H : Nat → Head} {f : FuncId} {fn : Func} (hf : C.P.funcs[f]? = some fn) {ts : List ATy} {r : RT} {F : dens ts → Option r.den}
    (h : ∀ b, evF C H fn (encs ts b) r.dec = F b) : (C.add f ts r F).Sound :=
  hC.of fun b q hq => evF_contract r.dec_enc hm hC hf (encs_nogd ts b) (by rw [h, hq])
/-- One that calls itself. -/
theorem Ctx.Sound.fix {C : Ctx} (hm : C.P.follows .mixedOrders = true) (hC : C.Sound) {H : Nat → Head} {f : FuncId} {fn : Func} (hf : C.P.funcs[f]? = some fn) {ts : List ATy} {r : RT} {B : (dens ts → Option r.den) → dens ts → Option r.den}
    (h : ∀ F b, evF (C.add f ts r F) H fn (encs ts b) r.dec = B F b) : (C.add f ts r (lfp B)).Sound := by
  have key : ∀ n, (C.add f ts r (iter B n)).Sound := by
    intro n
    induction n with
    | zero => exact hC.of fun b q hq => by simp [iter] at hq
    | succ n ih => exact hC.of fun b q hq => evF_contract (C := C.add f ts r (iter B n)) r.dec_enc hm ih hf (encs_nogd ts b) (by rw [h]; exact hq)
  refine hC.of fun b q hq => ?_
  obtain ⟨n, hn⟩ := lfp_some hq
  cases n with
  | zero => simp [iter] at hn
  | succ n => exact evF_contract (C := C.add f ts r (iter B n)) r.dec_enc hm (key n) hf (encs_nogd ts b) (by rw [h]; exact hn)

/-- A law: it answers true, and leaves the old memory alone. -/
theorem Contract.law {P : Program} {f : FuncId} {args : List PV} (h : Contract P f args (.bool true)) {w : World} {ok : Nat → Prop} {vs : Array Value} (hok : ∀ b, ok b → b < w.heap.size) (ha : RepL (shut w ok) args vs.toList) :
    Calls P f vs w fun e w' => e = .returned (.bool true) ∧ Below w.heap.size w w' := by
  refine (h w ok vs hok ha).mono ?_
  rintro e w' ⟨v, ok', bs, rfl, hk, _, _, hv, _⟩
  have : v = .bool true := by
    simp only [ResV, ResOne, ResLeaf, RepV] at hv
    exact hv.2
  rw [this]
  exact ⟨rfl, hk.below⟩
theorem law_of {C : Ctx} (hm : C.P.follows .mixedOrders = true) (hC : C.Sound) {H : Nat → Head} {f : FuncId} {fn : Func} (hf : C.P.funcs[f]? = some fn) {ts : List ATy} {F : dens ts → Option Bool}
    (h : ∀ b, evF C H fn (encs ts b) (RT.dec (.one (.leaf .bool))) = F b) {b : dens ts} (hb : F b = some true) {w : World} {ok : Nat → Prop} {vs : Array Value} (hok : ∀ b, ok b → b < w.heap.size) (ha : RepL (shut w ok) (encs ts b) vs.toList) :
    Calls C.P f vs w fun e w' => e = .returned (.bool true) ∧ Below w.heap.size w w' :=
  Contract.law (evF_contract (RT.dec_enc (.one (.leaf .bool))) hm hC hf (encs_nogd ts b) (by rw [h]; exact hb)) hok ha
theorem both_self {R : Type} (a : Option R) : both a a = a := by unfold both; rw [if_pos rfl]
end Go.Fw
