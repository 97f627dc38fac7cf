/- Functions by their laws: a context is built function by function; a law is true. -/
import Derived.Test.YtpgfkfmmnciblaaFwFunc
set_option linter.unusedVariables false
set_option linter.unusedSimpArgs false
namespace Go.Fw
open Go.RowKit (Below)

/-- An argument: a value of one cell, or a struct. -/
inductive ATy where
  | one (t : Ty) | agg (t : Ty)
@[reducible] def ATy.den : ATy → Type
  | .one t => t.den
  | .agg t => t.den
def ATy.dec : (t : ATy) → PV → Option t.den
  | .one t, p => match p with | .agg _ => none | p => t.of [p]
  | .agg t, p => match p with | .agg c => t.of c | _ => none
def ATy.enc : (t : ATy) → t.den → PV
  | .one t, x => match t.leaves x with | [p] => p | _ => .undef
  | .agg t, x => .agg (t.leaves x)
@[reducible] def dens : List ATy → Type
  | [] => Unit
  | [t] => t.den
  | t :: r => t.den × dens r
def decs : (ts : List ATy) → List PV → Option (dens ts)
  | [], [] => some ()
  | [t], [p] => t.dec p
  | t :: u :: r, p :: ps => match t.dec p, decs (u :: r) ps with | some x, some y => some (x, y) | _, _ => none
  | _, _ => none
def encs : (ts : List ATy) → dens ts → List PV
  | [], _ => []
  | [t], x => [t.enc x]
  | t :: u :: r, x => t.enc x.1 :: encs (u :: r) x.2

section
variable {c : Cx}
theorem ATy.dec_rep {t : ATy} {p : PV} {x : t.den} {v : Value} (h : t.dec p = some x) (hv : RepV c p v) : RepV c (t.enc x) v := by
  cases t with
  | one t =>
    simp only [ATy.dec] at h
    split at h
    · simp at h
    · have hd := Ty.of_dat (c := c) (vs := [v]) h (by simp only [RepL]; exact ⟨v, [], rfl, hv, rfl⟩)
      have hl := hd.leaves (c := c)
      simp only [ATy.enc]
      split
      · rename_i q hq
        rw [hq] at hl
        simp only [RepL] at hl
        obtain ⟨v', r', e1, e2, _⟩ := hl
        simp only [List.cons.injEq] at e1
        rw [e1.1]; exact e2
      · exact RepV.undef_ _ _
  | agg t =>
    simp only [ATy.dec] at h
    split at h
    · simp only [RepV] at hv
      obtain ⟨a, rfl, hl⟩ := hv
      have hd := Ty.of_dat (c := c) h hl
      simp only [ATy.enc, RepV]
      exact ⟨a, rfl, hd.leaves⟩
    · simp at h
theorem decs_rep : ∀ {ts : List ATy} {ps : List PV} {x : dens ts} {vs : List Value}, decs ts ps = some x → RepL c ps vs → RepL c (encs ts x) vs
  | [], [], _, _, _, hl => hl
  | [], _ :: _, _, _, h, _ => by simp [decs] at h
  | [t], [p], x, vs, h, hl => by
    simp only [RepL] at hl
    obtain ⟨v, r', rfl, e1, rfl⟩ := hl
    simp only [encs, RepL]
    exact ⟨v, [], rfl, ATy.dec_rep h e1, rfl⟩
  | [t], [], _, _, h, _ => by simp [decs] at h
  | [t], _ :: _ :: _, _, _, h, _ => by simp [decs] at h
  | t :: u :: r, [], _, _, h, _ => by simp [decs] at h
  | t :: u :: r, p :: ps, x, vs, h, hl => by
    simp only [RepL] at hl
    obtain ⟨v, r', rfl, e1, e2⟩ := hl
    simp only [decs] at h
    split at h
    · rename_i y z hy hz
      simp only [Option.some.injEq] at h
      subst h
      simp only [encs, RepL]
      exact ⟨v, r', rfl, ATy.dec_rep hy e1, decs_rep hz e2⟩
    · simp at h
theorem ATy.enc_nogd (t : ATy) (x : t.den) : (t.enc x).isGd = false := by
  cases t with
  | one t =>
    simp only [ATy.enc]
    split
    · rename_i p hp
      exact leaves_nogd t x p (by rw [hp]; simp)
    · rfl
  | agg t => rfl
theorem encs_nogd : ∀ (ts : List ATy) (x : dens ts), ∀ p ∈ encs ts x, p.isGd = false
  | [], _, p, h => by simp [encs] at h
  | [t], x, p, h => by simp only [encs, List.mem_singleton] at h; rw [h]; exact ATy.enc_nogd t x
  | t :: u :: r, x, p, h => by
    simp only [encs] at h
    rcases List.mem_cons.1 h with h | h
    · rw [h]; exact ATy.enc_nogd t _
    · exact encs_nogd (u :: r) x.2 p h
end

/-! ### results -/
inductive RL where
  | int (k : IntKind) | bool | str | sl (e : TypeId) (t : Ty) | fresh (e : TypeId) (t : Ty)
@[reducible] def RL.den : RL → Type
  | .int _ => Int | .bool => Bool | .str => List Int | .sl _ t => List t.den | .fresh _ t => List t.den
def RL.dec : (r : RL) → PV → Option r.den
  | .int k, .int k' n => if k' = k then some n else none
  | .bool, .bool b => some b
  | .str, .str s => some s
  | .sl e t, .sl e' t' l => if e' = e then if h : t' = t then some (h ▸ l) else none else none
  | .fresh e t, .fresh e' t' l => if e' = e then if h : t' = t then some (h ▸ l) else none else none
  | _, _ => none
def RL.enc : (r : RL) → r.den → PV
  | .int k, n => .int k n | .bool, b => .bool b | .str, s => .str s | .sl e t, l => .sl e t l | .fresh e t, l => .fresh e t l
@[reducible] def RL.dens : List RL → Type
  | [] => Unit
  | [r] => r.den
  | r :: q => r.den × RL.dens q
def RL.decs : (rs : List RL) → List PV → Option (RL.dens rs)
  | [], [] => some ()
  | [r], [p] => r.dec p
  | r :: u :: q, p :: ps => match r.dec p, RL.decs (u :: q) ps with | some x, some y => some (x, y) | _, _ => none
  | _, _ => none
def RL.encs : (rs : List RL) → RL.dens rs → List PV
  | [], _ => []
  | [r], x => [r.enc x]
  | r :: u :: q, x => r.enc x.1 :: RL.encs (u :: q) x.2
inductive RO where
  | leaf (r : RL) | agg (l : List RL)
@[reducible] def RO.den : RO → Type
  | .leaf r => r.den | .agg l => RL.dens l
def RO.dec : (r : RO) → PV → Option r.den
  | .leaf r, p => r.dec p
  | .agg l, .agg c => RL.decs l c
  | .agg _, _ => none
def RO.enc : (r : RO) → r.den → PV
  | .leaf r, x => r.enc x | .agg l, x => .agg (RL.encs l x)
@[reducible] def RO.dens : List RO → Type
  | [] => Unit
  | [r] => r.den
  | r :: q => r.den × RO.dens q
def RO.decs : (rs : List RO) → List PV → Option (RO.dens rs)
  | [], [] => some ()
  | [r], [p] => r.dec p
  | r :: u :: q, p :: ps => match r.dec p, RO.decs (u :: q) ps with | some x, some y => some (x, y) | _, _ => none
  | _, _ => none
def RO.encs : (rs : List RO) → RO.dens rs → List PV
  | [], _ => []
  | [r], x => [r.enc x]
  | r :: u :: q, x => r.enc x.1 :: RO.encs (u :: q) x.2
inductive RT where
  | one (r : RO) | tup (l : List RO)
@[reducible] def RT.den : RT → Type
  | .one r => r.den | .tup l => RO.dens l
def RT.dec : (r : RT) → PV → Option r.den
  | .one r, p => r.dec p
  | .tup l, .tup c => RO.decs l c
  | .tup _, _ => none
def RT.enc : (r : RT) → r.den → PV
  | .one r, x => r.enc x | .tup l, x => .tup (RO.encs l x)
theorem RL.dec_enc : ∀ {r : RL} {p : PV} {x : r.den}, r.dec p = some x → p = r.enc x := by
  intro r p x h
  cases r <;> cases p <;> simp only [RL.dec] at h <;> try (simp at h; done)
  case int.int => split at h <;> simp_all [RL.enc]
  case bool.bool => simp_all [RL.enc]
  case str.str => simp_all [RL.enc]
  case sl.sl =>
    split at h
    · split at h
      · rename_i h1 h2; subst h1; subst h2; simp_all [RL.enc]
      · simp at h
    · simp at h
  case fresh.fresh =>
    split at h
    · split at h
      · rename_i h1 h2; subst h1; subst h2; simp_all [RL.enc]
      · simp at h
    · simp at h
theorem RL.decs_encs : ∀ {rs : List RL} {ps : List PV} {x : RL.dens rs}, RL.decs rs ps = some x → ps = RL.encs rs x
  | [], [], _, _ => rfl
  | [], _ :: _, _, h => by simp [RL.decs] at h
  | [r], [p], x, h => by simp only [RL.decs] at h; simp only [RL.encs]; rw [RL.dec_enc h]
  | [r], [], _, h => by simp [RL.decs] at h
  | [r], _ :: _ :: _, _, h => by simp [RL.decs] at h
  | r :: u :: q, [], _, h => by simp [RL.decs] at h
  | r :: u :: q, p :: ps, x, h => by
    simp only [RL.decs] at h
    split at h
    · rename_i y z hy hz
      simp only [Option.some.injEq] at h
      subst h
      simp only [RL.encs]
      rw [RL.dec_enc hy, RL.decs_encs hz]
    · simp at h
theorem RO.dec_enc {r : RO} {p : PV} {x : r.den} (h : r.dec p = some x) : p = r.enc x := by
  cases r with
  | leaf r => exact RL.dec_enc h
  | agg l =>
    cases p <;> simp only [RO.dec] at h <;> try (simp at h; done)
    simp only [RO.enc]; rw [RL.decs_encs h]
theorem RO.decs_encs : ∀ {rs : List RO} {ps : List PV} {x : RO.dens rs}, RO.decs rs ps = some x → ps = RO.encs rs x
  | [], [], _, _ => rfl
  | [], _ :: _, _, h => by simp [RO.decs] at h
  | [r], [p], x, h => by simp only [RO.decs] at h; simp only [RO.encs]; rw [RO.dec_enc h]
  | [r], [], _, h => by simp [RO.decs] at h
  | [r], _ :: _ :: _, _, h => by simp [RO.decs] at h
  | r :: u :: q, [], _, h => by simp [RO.decs] at h
  | r :: u :: q, p :: ps, x, h => by
    simp only [RO.decs] at h
    split at h
    · rename_i y z hy hz
      simp only [Option.some.injEq] at h
      subst h
      simp only [RO.encs]
      rw [RO.dec_enc hy, RO.decs_encs hz]
    · simp at h
theorem RT.dec_enc (r : RT) (p : PV) (x : r.den) (h : r.dec p = some x) : p = r.enc x := by
  cases r with
  | one r => exact RO.dec_enc h
  | tup l =>
    cases p <;> simp only [RT.dec] at h <;> try (simp at h; done)
    simp only [RT.enc]; rw [RO.decs_encs h]

/-- No function is told. -/
def Ctx.nil (P : Program) : Ctx := ⟨P, fun _ _ _ _ => none⟩
theorem Ctx.nil_sound (P : Program) : (Ctx.nil P).Sound := fun _ _ _ _ _ h => by simp [Ctx.nil] at h
/-- One function more. -/
def Ctx.add (C : Ctx) (f : FuncId) (ts : List ATy) (r : RT) (F : dens ts → Option r.den) : Ctx :=
  ⟨C.P, fun f' args _ K => bif Nat.beq f' f then (match decs ts args with | some b => (F b).bind fun x => K (r.enc x) [] | none => none) else C.call f' args K⟩
theorem Contract.weaken {P : Program} {f : FuncId} {ts : List ATy} {args : List PV} {b : dens ts} {res : PV} (hd : decs ts args = some b) (h : Contract P f (encs ts b) res) : Contract P f args res :=
  fun w ok vs hok ha => h w ok vs hok (decs_rep hd ha)
theorem Ctx.Sound.of {C : Ctx} (hC : C.Sound) {f : FuncId} {ts : List ATy} {r : RT} {F : dens ts → Option r.den} (h : ∀ b q, F b = some q → Contract C.P f (encs ts b) (r.enc q)) : (C.add f ts r F).Sound := by
  intro f' args R K x hr
  simp only [Ctx.add] at hr
  cases hb : Nat.beq f' f with
  | false => rw [hb] at hr; exact hC f' args R K x hr
  | true =>
    rw [hb] at hr
    have := beq_true.1 hb
    subst this
    simp only [cond_true] at hr
    split at hr
    · rename_i b hd
      cases hF : F b with
      | none => rw [hF] at hr; simp at hr
      | some q =>
        rw [hF] at hr
        simp only [Option.bind_some] at hr
        exact ⟨r.enc q, Contract.weaken hd (h b q hF), hr⟩
    · simp at hr
theorem Ctx.Sound.add {C : Ctx} (hm : C.P.follows .mixedOrders = true) (hC : C.Sound) {H : Nat → Head} {f : FuncId} {fn : Func} (hf : C.P.funcs[f]? = some fn) {ts : List ATy} {r : RT} {F : dens ts → Option r.den}
    (h : ∀ b, evF C H fn (encs ts b) r.dec = F b) : (C.add f ts r F).Sound :=
  hC.of fun b q hq => evF_contract r.dec_enc hm hC hf (encs_nogd ts b) (by rw [h, hq])
/-- One that calls itself. -/
theorem Ctx.Sound.fix {C : Ctx} (hm : C.P.follows .mixedOrders = true) (hC : C.Sound) {H : Nat → Head} {f : FuncId} {fn : Func} (hf : C.P.funcs[f]? = some fn) {ts : List ATy} {r : RT} {B : (dens ts → Option r.den) → dens ts → Option r.den}
    (h : ∀ F b, evF (C.add f ts r F) H fn (encs ts b) r.dec = B F b) : (C.add f ts r (lfp B)).Sound := by
  have key : ∀ n, (C.add f ts r (iter B n)).Sound := by
    intro n
    induction n with
    | zero => exact hC.of fun b q hq => by simp [iter] at hq
    | succ n ih => exact hC.of fun b q hq => evF_contract (C := C.add f ts r (iter B n)) r.dec_enc hm ih hf (encs_nogd ts b) (by rw [h]; exact hq)
  refine hC.of fun b q hq => ?_
  obtain ⟨n, hn⟩ := lfp_some hq
  cases n with
  | zero => simp [iter] at hn
  | succ n => exact evF_contract (C := C.add f ts r (iter B n)) r.dec_enc hm (key n) hf (encs_nogd ts b) (by rw [h]; exact hn)

/-- A law: it answers true, and leaves the old memory alone. -/
theorem Contract.law {P : Program} {f : FuncId} {args : List PV} (h : Contract P f args (.bool true)) {w : World} {ok : Nat → Prop} {vs : Array Value} (hok : ∀ b, ok b → b < w.heap.size) (ha : RepL (shut w ok) args vs.toList) :
    Calls P f vs w fun e w' => e = .returned (.bool true) ∧ Below w.heap.size w w' := by
  refine (h w ok vs hok ha).mono ?_
  rintro e w' ⟨v, ok', bs, rfl, hk, _, _, hv, _⟩
  have : v = .bool true := by
    simp only [ResV, ResOne, ResLeaf, RepV] at hv
    exact hv.2
  rw [this]
  exact ⟨rfl, hk.below⟩
theorem law_of {C : Ctx} (hm : C.P.follows .mixedOrders = true) (hC : C.Sound) {H : Nat → Head} {f : FuncId} {fn : Func} (hf : C.P.funcs[f]? = some fn) {ts : List ATy} {F : dens ts → Option Bool}
    (h : ∀ b, evF C H fn (encs ts b) (RT.dec (.one (.leaf .bool))) = F b) {b : dens ts} (hb : F b = some true) {w : World} {ok : Nat → Prop} {vs : Array Value} (hok : ∀ b, ok b → b < w.heap.size) (ha : RepL (shut w ok) (encs ts b) vs.toList) :
    Calls C.P f vs w fun e w' => e = .returned (.bool true) ∧ Below w.heap.size w w' :=
  Contract.law (evF_contract (RT.dec_enc (.one (.leaf .bool))) hm hC hf (encs_nogd ts b) (by rw [h]; exact hb)) hok ha
theorem both_self {R : Type} (a : Option R) : both a a = a := by unfold both; rw [if_pos rfl]
end Go.Fw
