/- Maps: keys that are structs of numbers, bools and texts. -/
import Derived.Test.YtcpcbeeghjigkaaFwAct5
import Derived.MapKept
set_option linter.unusedVariables false
set_option linter.unusedSimpArgs false
namespace Go.Fw
open Go.RowKit (Below)

/-! ### keys -/
theorem eqb_eq : ∀ {t : Ty} {a b : t.den}, eqb t a b = true → a = b
  | .int _, _, _, h => by simpa [eqb] using h
  | .bool, _, _, h => by simpa [eqb] using h
  | .str, _, _, h => by simpa [eqb] using h
  | .unit, _, _, _ => rfl
  | .pair _ _, _, _, h => by
    simp only [eqb, Bool.and_eq_true] at h
    exact Prod.ext (eqb_eq h.1) (eqb_eq h.2)
  | .slice _ _, _, _, h => by simp [eqb] at h
theorem bytesOf_inj2 {b b' : ByteArray} (h : bytesOf b = bytesOf b') : b = b' := by
  have := bytesOf_inj.1 h
  cases b; cases b'
  simp only [ByteArray.mk.injEq]
  exact Array.toList_inj.1 this
theorem bytes_self (b : ByteArray) : (b == b) = true := by
  exact (MapKept.bytes_beq b b).2 rfl
/-- Flat: no rows in it. -/
def Ty.flatT : Ty → Bool
  | .int _ | .bool | .str | .unit => true
  | .pair a b => a.flatT && b.flatT
  | .slice _ _ => false
theorem Dat.inj {w : World} {ok : Nat → Prop} : ∀ {t : Ty} {x : t.den} {cs cs' : List Value}, t.flatT = true → Dat w ok t x cs → Dat w ok t x cs' → cs = cs'
  | .int _, _, _, _, _, h, h' => h.1.trans h'.1.symm
  | .bool, _, _, _, _, h, h' => Eq.trans h (Eq.symm h')
  | .str, _, _, _, _, ⟨b, h1, h2, _⟩, ⟨b', h1', h2', _⟩ => by rw [h1, h1', bytesOf_inj2 (h2.symm.trans h2')]
  | .unit, _, _, _, _, h, h' => Eq.trans h (Eq.symm h')
  | .pair _ _, _, _, _, hf, ⟨c1, c2, h, h1, h2⟩, ⟨d1, d2, h', h1', h2'⟩ => by
    simp only [Ty.flatT, Bool.and_eq_true] at hf
    rw [h, h', Dat.inj hf.1 h1 h1', Dat.inj hf.2 h2 h2']
  | .slice _ _, _, _, _, hf, _, _ => by simp [Ty.flatT] at hf
theorem Dat.bits {w : World} {ok : Nat → Prop} (n : Nat) : ∀ {t : Ty} {x : t.den} {cs : List Value}, t.flatT = true → Dat w ok t x cs → ∀ u ∈ cs, Instr.sameBits n u u = true
  | .int _, _, _, _, h, u, hu => by rw [h.1] at hu; simp at hu; subst hu; cases n <;> simp [Instr.sameBits]
  | .bool, _, _, _, h, u, hu => by rw [show _ = _ from h] at hu; simp at hu; subst hu; cases n <;> simp [Instr.sameBits]
  | .str, _, _, _, ⟨b, h, _⟩, u, hu => by rw [h] at hu; simp at hu; subst hu; cases n <;> simp [Instr.sameBits, bytes_self]
  | .unit, _, _, _, h, u, hu => by rw [show _ = _ from h] at hu; simp at hu
  | .pair _ _, _, _, hf, ⟨c1, c2, h, h1, h2⟩, u, hu => by
    simp only [Ty.flatT, Bool.and_eq_true] at hf
    rw [h] at hu
    rcases List.mem_append.1 hu with hu | hu
    · exact Dat.bits n hf.1 h1 u hu
    · exact Dat.bits n hf.2 h2 u hu
  | .slice _ _, _, _, hf, _, _, _ => by simp [Ty.flatT] at hf

section
variable {P : Program}
theorem leafIs_eq {ft : TypeId} : ∀ {t : Ty}, leafIs P ft t = true → ∀ x y : t.den, ∃ p q, t.leaves x = [p] ∧ t.leaves y = [q] ∧ eqLeaf P ft p q = some (eqb t x y)
  | .int k, h, x, y => by
    simp only [leafIs] at h
    split at h
    · rename_i k' hu
      exact ⟨_, _, rfl, rfl, by simp [eqLeaf, hu, eqb]⟩
    · simp at h
  | .bool, h, x, y => by
    simp only [leafIs] at h
    split at h
    · rename_i hu
      exact ⟨_, _, rfl, rfl, by simp [eqLeaf, hu, eqb]⟩
    · simp at h
  | .str, h, x, y => by
    simp only [leafIs] at h
    split at h
    · rename_i hu
      exact ⟨_, _, rfl, rfl, by simp [eqLeaf, hu, eqb]⟩
    · simp at h
  | .unit, h, _, _ => by simp [leafIs] at h
  | .pair _ _, h, _, _ => by simp [leafIs] at h
  | .slice _ _, h, _, _ => by simp [leafIs] at h
theorem leafIs_flat {ft : TypeId} : ∀ {t : Ty}, leafIs P ft t = true → t.flatT = true
  | .int k, h => rfl
  | .bool, h => rfl
  | .str, h => rfl
  | .unit, h => rfl
  | .pair _ _, h => by simp [leafIs] at h
  | .slice _ _, h => by simp [leafIs] at h
theorem leafIs_scal {ft : TypeId} {t : Ty} (h : leafIs P ft t = true) : ∃ d, P.underlying ft = some d ∧ aggD d = false ∧ ∀ (em : Bool) (n : Nat) (v : Value) (w : World), (Instr.checkKey em (n + 1) ft v).run P w = .ok () w := by
  cases t <;> simp only [leafIs] at h <;> try (simp at h; done)
  all_goals
    split at h
    · rename_i hu
      refine ⟨_, hu, rfl, fun em n v w => ?_⟩
      unfold Instr.checkKey
      simp only [Sem.run_bind, run_underlying_some hu, Result.andThen_ok, Sem.run_pure]
    · simp at h
theorem keyFlat_eq : ∀ (fs : List Field) (i : Nat) (t : Ty), keyFlat P i fs t = true → ∀ x y : t.den, eqFlat P i fs (t.leaves x) (t.leaves y) = some (eqb t x y)
  | [], _, _, h, _, _ => by simp [keyFlat] at h
  | [f], i, t, h, x, y => by
    simp only [keyFlat, Bool.and_eq_true] at h
    obtain ⟨p, q, h1, h2, h3⟩ := leafIs_eq h.2 x y
    rw [h1, h2, eqFlat]
    simp [h.1.1, h.1.2, h3, of_decide_eq_true h.1.1, bne_iff_ne.1 h.1.2]
  | f :: g :: fs, i, .pair a b, h, x, y => by
    simp only [keyFlat, Bool.and_eq_true] at h
    obtain ⟨p, q, h1, h2, h3⟩ := leafIs_eq h.1.2 x.1 y.1
    simp only [Ty.leaves, h1, h2, List.singleton_append]
    rw [eqFlat]
    have := keyFlat_eq (g :: fs) (i + 1) b h.2 x.2 y.2
    simp [h3, of_decide_eq_true h.1.1.1, bne_iff_ne.1 h.1.1.2, this, eqb]
  | _ :: _ :: _, _, .int _, h, _, _ => by simp [keyFlat] at h
  | _ :: _ :: _, _, .bool, h, _, _ => by simp [keyFlat] at h
  | _ :: _ :: _, _, .str, h, _, _ => by simp [keyFlat] at h
  | _ :: _ :: _, _, .unit, h, _, _ => by simp [keyFlat] at h
  | _ :: _ :: _, _, .slice _ _, h, _, _ => by simp [keyFlat] at h
theorem keyFlat_flat : ∀ (fs : List Field) (i : Nat) (t : Ty), keyFlat P i fs t = true → t.flatT = true
  | [], _, _, h => by simp [keyFlat] at h
  | [f], i, t, h => by simp only [keyFlat, Bool.and_eq_true] at h; exact leafIs_flat h.2
  | f :: g :: fs, i, .pair a b, h => by
    simp only [keyFlat, Bool.and_eq_true] at h
    simp [Ty.flatT, leafIs_flat h.1.2, keyFlat_flat (g :: fs) (i + 1) b h.2]
  | _ :: _ :: _, _, .int _, h => by simp [keyFlat] at h
  | _ :: _ :: _, _, .bool, h => by simp [keyFlat] at h
  | _ :: _ :: _, _, .str, h => by simp [keyFlat] at h
  | _ :: _ :: _, _, .unit, h => by simp [keyFlat] at h
  | _ :: _ :: _, _, .slice _ _, h => by simp [keyFlat] at h
/-- The fields of a key are looked at in turn. -/
theorem keyFlat_check (em : Bool) (n : Nat) (w : World) (xs : Array Value) : ∀ (fs : List Field) (i : Nat) (t : Ty), keyFlat P i fs t = true → i + t.size ≤ xs.size →
    (forIn fs PUnit.unit (fun f _ => if f.name ≠ "_" then do
        let p ← part f.type xs f.offset
        Instr.checkKey em (n + 1) f.type p
        pure (ForInStep.yield PUnit.unit)
      else pure (ForInStep.yield PUnit.unit)) : Sem PUnit).run P w = .ok PUnit.unit w
  | [], _, _, h, _ => by simp [keyFlat] at h
  | [f], i, t, h, hs => by
    simp only [keyFlat, Bool.and_eq_true] at h
    obtain ⟨d, hd, ha, hc⟩ := leafIs_scal h.2
    have hsz : t.size = 1 := by cases t <;> simp [leafIs] at h <;> rfl
    have ho : f.offset = i := by simpa using h.1.1
    have hv : xs[f.offset]? = some (xs[i]'(by omega)) := by rw [ho]; exact Array.getElem?_eq_getElem (by omega)
    simp only [List.forIn_cons, List.forIn_nil, Sem.run_bind, bne_iff_ne.1 h.1.2, ne_eq, not_false_eq_true, if_true, part_one hd ha hv, Result.andThen_ok, hc, Sem.run_pure]
  | f :: g :: fs, i, .pair a b, h, hs => by
    simp only [keyFlat, Bool.and_eq_true] at h
    obtain ⟨d, hd, ha, hc⟩ := leafIs_scal h.1.2
    have hsz : a.size = 1 := by have h' := h.1.2; cases a <;> simp [leafIs] at h' <;> rfl
    simp only [Ty.size, hsz] at hs
    have ho : f.offset = i := by simpa using h.1.1.1
    have hv : xs[f.offset]? = some (xs[i]'(by omega)) := by rw [ho]; exact Array.getElem?_eq_getElem (by omega)
    have ih := keyFlat_check em n w xs (g :: fs) (i + 1) b h.2 (by omega)
    rw [List.forIn_cons]
    simp only [Sem.run_bind, bne_iff_ne.1 h.1.1.2, ne_eq, not_false_eq_true, if_true, part_one hd ha hv, Result.andThen_ok, hc, Sem.run_pure]
    exact ih
  | _ :: _ :: _, _, .int _, h, _ => by simp [keyFlat] at h
  | _ :: _ :: _, _, .bool, h, _ => by simp [keyFlat] at h
  | _ :: _ :: _, _, .str, h, _ => by simp [keyFlat] at h
  | _ :: _ :: _, _, .unit, h, _ => by simp [keyFlat] at h
  | _ :: _ :: _, _, .slice _ _, h, _ => by simp [keyFlat] at h

/-- What is known of a map's type. -/
theorem mtyOf_spec {t : TypeId} {m : MTy} (h : mtyOf P t = some m) : ∃ k e fs, P.underlying t = some (.map k e) ∧ P.underlying k = some (.struct fs) ∧ keyFlat P 0 fs.toList m.k = true ∧ leafIs P e m.v = true ∧ P.stoodInHeld k = false := by
  unfold mtyOf at h
  split at h
  · rename_i k e hu
    split at h
    · rename_i fs kt vt hk _ _
      cases hc : (keyFlat P 0 fs.toList kt && leafIs P e vt && !P.stoodInHeld k) with
      | false => rw [hc] at h; simp at h
      | true =>
        rw [hc] at h
        simp only [cond_true, Option.some.injEq] at h
        subst h
        simp only [Bool.and_eq_true, Bool.not_eq_true'] at hc
        exact ⟨k, e, fs, hu, hk, hc.1.1, hc.1.2, hc.2⟩
    · simp at h
  · simp at h

variable {w : World} {ok : Nat → Prop}
theorem key_equal {k : TypeId} {fs : Array Field} {t : Ty} (hk : P.underlying k = some (.struct fs)) (hf : keyFlat P 0 fs.toList t = true) (hs : P.stoodInHeld k = false) {x y : t.den} {xs ys : Array Value}
    (hx : Dat w ok t x xs.toList) (hy : Dat w ok t y ys.toList) (w1 : World) : (Op.equal k (.agg xs) (.agg ys)).run P w1 = .ok (eqb t x y) w1 := by
  have hfo : P.fieldsOf k = fs := by simp [Program.fieldsOf, hk]
  show (Op.equalIn (9999 + 1) k (.agg xs) (.agg ys)).run P w1 = _
  rw [run_equalIn_struct w1 9999 k xs ys (by rw [hfo]; exact hk) hs, hfo]
  exact eqFlat_run (c := { w := w, ok := ok, ρ := fun _ => 0, σ := fun _ => undef, pin := fun _ => [], ob := fun _ => none, a := fun _ => False, q := fun _ => False }) 9998 w1 fs.toList 0 _ _ xs ys _ (by simpa using Dat.leaves (c := { w := w, ok := ok, ρ := fun _ => 0, σ := fun _ => undef, pin := fun _ => [], ob := fun _ => none, a := fun _ => False, q := fun _ => False }) hx) (by simpa using Dat.leaves (c := { w := w, ok := ok, ρ := fun _ => 0, σ := fun _ => undef, pin := fun _ => [], ob := fun _ => none, a := fun _ => False, q := fun _ => False }) hy) (keyFlat_eq _ _ _ hf x y)
theorem key_check {k : TypeId} {fs : Array Field} {t : Ty} (hk : P.underlying k = some (.struct fs)) (hf : keyFlat P 0 fs.toList t = true) {x : t.den} {xs : Array Value} (hx : Dat w ok t x xs.toList) (em : Bool) (w1 : World) :
    (Instr.checkKey em 10000 k (.agg xs)).run P w1 = .ok () w1 := by
  show (Instr.checkKey em (9998 + 1 + 1) k (.agg xs)).run P w1 = _
  rw [Instr.checkKey]
  simp only [Sem.run_bind, run_underlying_some hk, Result.andThen_ok]
  rw [← Array.forIn_toList]
  have hl := hx.len
  simp only [Array.length_toList] at hl
  have := keyFlat_check (P := P) em 9998 w1 xs fs.toList 0 t hf (by omega)
  simp only [this, Result.andThen_ok, Sem.run_pure]
theorem find_ents {k : TypeId} {fs : Array Field} {m : MTy} (hk : P.underlying k = some (.struct fs)) (hf : keyFlat P 0 fs.toList m.k = true) (hs : P.stoodInHeld k = false) {q : m.k.den} {xs : Array Value} (hx : Dat w ok m.k q xs.toList) (w1 : World) (z : m.v.den) :
    ∀ (l : List (m.k.den × m.v.den)) (es : List MapEntry) (i : Nat), Ents w ok m l es →
      ((Instr.findAsking k (.agg xs) es i).run P w1 = .ok none w1 ∧ mhas m.k m.v l q = false ∧ mget m.k m.v z l q = z ∧ ∀ y, mput m.k m.v l q y = l ++ [(q, y)]) ∨
      ∃ j e cs, (Instr.findAsking k (.agg xs) es i).run P w1 = .ok (some (i + j, e.val)) w1 ∧ es[j]? = some e ∧ mhas m.k m.v l q = true ∧ Dat w ok m.v (mget m.k m.v z l q) [e.val] ∧ e.key = .agg cs ∧ Dat w ok m.k q cs.toList ∧
        ∀ y v b, Dat w ok m.v y [v] → Ents w ok m (mput m.k m.v l q y) (es.set j { key := .agg xs, val := v, born := b })
  | [], es, i, h => by
    have : es = [] := h
    subst this
    exact .inl ⟨by simp [Instr.findAsking], rfl, rfl, fun _ => rfl⟩
  | e :: r, _, i, ⟨x, s, cs, h1, h2, h3, h4, h5⟩ => by
    subst h1
    have heq := key_equal hk hf hs hx h3 w1
    rw [← h2] at heq
    cases hb : eqb m.k q e.1 with
    | true =>
      rw [hb] at heq
      have hqe := eqb_eq hb
      refine .inr ⟨0, x, cs, by simp [Instr.findAsking, heq], rfl, by simp [mhas, hb], by simpa [mget, hb] using h4, h2, by rw [hqe]; exact h3, fun y v b hv => ?_⟩
      simp only [mput, hb, cond_true, List.set_cons_zero]
      exact ⟨_, s, xs, rfl, rfl, hx, hv, h5⟩
    | false =>
      rw [hb] at heq
      rcases find_ents hk hf hs hx w1 z r s (i + 1) h5 with ⟨g1, g2, g3, g4⟩ | ⟨j, e', cs', g1, g2, g3, g4, g5, g6, g7⟩
      · exact .inl ⟨by simp [Instr.findAsking, heq, g1], by simp [mhas, hb, g2], by simp [mget, hb, g3], fun y => by simp [mput, hb, g4 y]⟩
      · refine .inr ⟨j + 1, e', cs', ?_, by simpa using g2, by simp [mhas, hb, g3], by simpa [mget, hb] using g4, g5, g6, fun y v b hv => ?_⟩
        · simp only [Instr.findAsking, Sem.run_bind, heq, Result.andThen_ok, Bool.false_eq_true, if_false, g1]
          rw [show i + 1 + j = i + (j + 1) by omega]
        · simp only [mput, hb, cond_false, List.set_cons_succ]
          exact ⟨x, _, cs, rfl, h2, h3, h4, g7 y v b hv⟩
theorem run_findKey_struct {k : TypeId} {fs : Array Field} (hk : P.underlying k = some (.struct fs)) (v : Value) (es : List MapEntry) (w1 : World) : (Instr.findKey k v es).run P w1 = (Instr.findAsking k v es).run P w1 := by
  unfold Instr.findKey
  simp only [Sem.run_bind, run_underlying_some hk, Result.andThen_ok]
  cases es with
  | nil => simp [Instr.findNow, Instr.findAsking]
  | cons e r => simp [Instr.findNow, Instr.sameNow]
theorem Ents.snoc {m : MTy} : ∀ {l : List (m.k.den × m.v.den)} {es : List MapEntry}, Ents w ok m l es → ∀ {q : m.k.den} {y : m.v.den} {xs : Array Value} {v : Value} {b : Nat}, Dat w ok m.k q xs.toList → Dat w ok m.v y [v] → Ents w ok m (l ++ [(q, y)]) (es ++ [{ key := .agg xs, val := v, born := b }])
  | [], es, h, _, _, _, _, _, hq, hy => by
    have : es = [] := h
    subst this
    exact ⟨_, [], _, rfl, rfl, hq, hy, rfl⟩
  | e :: r, _, ⟨x, s, cs, h1, h2, h3, h4, h5⟩, _, _, _, _, _, hq, hy => by
    subst h1
    exact ⟨x, _, cs, rfl, h2, h3, h4, h5.snoc hq hy⟩
end

/-! ### the operations -/
section
variable {P : Program} {m : MM} {w0 : World} {st : St} {a : Act} {c : Cx} {R : Type} {K : St → Option R} {r : R} {o : Oper} {next : Act → World → Prop} {Q : Exit → Act → World → Prop}
theorem mapOf_rep (h : Rep m w0 st a c) {mt : MTy} {p : PV} {v : Value} {l : List (mt.k.den × mt.v.den)} (hp : RepV c p v) (hl : mapOf st mt p = some l) :
    (v = .map none ∧ l = []) ∨ ∃ b es clock, v = .map (some b) ∧ c.w.heap[b]? = some (.map es clock) ∧ Ents c.w c.ok mt l es.toList := by
  unfold mapOf at hl
  split at hl
  · split at hl
    · rename_i hm
      subst hm
      simp only [Option.some.injEq] at hl
      subst hl
      simp only [RepV] at hp
      obtain ⟨A, rfl, hp⟩ := hp
      rcases hp with ⟨rfl, h2⟩ | ⟨b, es, k, rfl, h2, h3, h4⟩
      · exact .inl ⟨rfl, h2⟩
      · exact .inr ⟨b, es, k, rfl, h3, h4⟩
    · simp at hl
  · rename_i k
    split at hl
    · rename_i m' l' ho
      split at hl
      · rename_i hm
        subst hm
        simp only [Option.some.injEq] at hl
        subst hl
        simp only [RepV] at hp
        obtain ⟨es, k, h1, h2⟩ := h.objs k _ (by rw [h.ob]; exact ho)
        exact .inr ⟨_, es, k, hp, h1, h2⟩
      · simp at hl
    · simp at hl
  · simp at hl
theorem leaves_nogd0 : ∀ (t : Ty) (x : t.den) (p : PV), p ∈ t.leaves x → p.isGd = false
  | .int _, _, p, h => by simp only [Ty.leaves, List.mem_singleton] at h; subst h; rfl
  | .bool, _, p, h => by simp only [Ty.leaves, List.mem_singleton] at h; subst h; rfl
  | .str, _, p, h => by simp only [Ty.leaves, List.mem_singleton] at h; subst h; rfl
  | .unit, _, p, h => by simp [Ty.leaves] at h
  | .pair a b, x, p, h => by
    simp only [Ty.leaves] at h
    rcases List.mem_append.1 h with h | h
    · exact leaves_nogd0 a _ p h
    · exact leaves_nogd0 b _ p h
  | .slice _ _, _, p, h => by simp only [Ty.leaves, List.mem_singleton] at h; subst h; rfl
theorem lookPV_isGd (mt : MTy) (ok : Bool) (x : mt.v.den) (f : Bool) : (lookPV mt ok x f).isGd = false := by
  unfold lookPV
  split
  · rename_i p hp
    cases ok
    · exact leaves_nogd0 _ _ _ (by rw [hp]; simp)
    · rfl
  · rfl
theorem lookPV_rep {mt : MTy} {ok f : Bool} {x : mt.v.den} {u : Value} (hx : Dat c.w c.ok mt.v x [u]) : RepV c (lookPV mt ok x f) (if ok then .tuple #[u, .bool f] else u) := by
  unfold lookPV
  have hl := Dat.leaves (c := c) hx
  split
  · rename_i p hp
    rw [hp] at hl
    simp only [RepL, List.cons.injEq] at hl
    obtain ⟨v, r', ⟨e1, _⟩, h2, _⟩ := hl
    subst e1
    cases ok with
    | false => simpa using h2
    | true =>
      simp only [cond_true, if_true, RepV]
      refine ⟨_, rfl, ?_⟩
      simp only [RepL]
      exact ⟨u, [.bool f], rfl, h2, .bool f, [], rfl, by simp [RepV], rfl⟩
  · simp [RepV]
theorem act_lookup {C : Ctx} (hC : C.P = P) {t : TypeId} {x y : Operand} {ok : Bool} (hop : o.op = .lookup t x y ok) (h : Rep m w0 st a c) (hg : ∀ x, o.dst = some x → NoGd st x) (hr : actOp C o st K = some r)
    (hK : ∀ st' a' c', K st' = some r → Rep m w0 st' a' c' → next a' c'.w) : o.upon P a next Q ((execOp a.eval o).run P c.w) := by
  subst hC
  simp only [actOp, hop, lookupOp] at hr
  have hx := operand_rep h x
  have hy := operand_rep h y
  split at hr
  · rename_i mt ci hmt hi
    obtain ⟨k, e, fs, hu, hk, hkf, hlv, hs⟩ := mtyOf_spec hmt
    rw [hi] at hy
    simp only [RepV] at hy
    obtain ⟨xs, hyv, hyl⟩ := hy
    split at hr
    · rename_i q l z hq hl hz
      have hqd := Ty.of_dat (c := c) hq hyl
      unfold mzero at hz
      rw [hu] at hz
      simp only at hz
      cases hza : zAgg C.P e with
      | true => rw [hza] at hz; simp at hz
      | false =>
        rw [hza] at hz
        simp only [cond_false] at hz
        cases hzp : zeroPV C.P e with
        | none => rw [hzp] at hz; simp at hz
        | some zc =>
          rw [hzp] at hz
          simp only at hz
          obtain ⟨i, zv, hi', hz0, hsz, hrep⟩ := zeroPV_rep hzp
          have hzd := Ty.of_dat (c := c) hz (hrep c).1
          have hzl : zv.cells.toList = [zv] := by
            unfold zAgg at hza
            rw [hi'] at hza
            simp only [hz0] at hza
            cases zv <;> first
              | rfl
              | simp at hza
          rw [hzl] at hzd
          have run : ∀ (es : Array MapEntry), ((a.eval x = .map none ∧ es = #[]) ∨ ∃ b clock, a.eval x = .map (some b) ∧ c.w.heap[b]? = some (.map es clock)) → Ents c.w c.ok mt l es.toList →
              ∃ u, Dat c.w c.ok mt.v (mget mt.k mt.v z l q) [u] ∧ (execOp a.eval o).run C.P c.w = .ok (.value (if ok then .tuple #[u, .bool (mhas mt.k mt.v l q)] else u)) c.w := by
            intro es hes hents
            have hck := key_check hk hkf hqd es.isEmpty c.w
            have res : ∃ u, Dat c.w c.ok mt.v (mget mt.k mt.v z l q) [u] ∧ (do
                Instr.checkKey es.isEmpty 10000 k (.agg xs)
                let (v, f) ← match ← Instr.findKey k (.agg xs) es.toList with
                  | some (_, v) => pure (v, true)
                  | none => pure (← zeroValue e, false)
                pure (if ok then Value.tuple #[v, .bool f] else v) : Sem Value).run C.P c.w = .ok (if ok then .tuple #[u, .bool (mhas mt.k mt.v l q)] else u) c.w := by
              rcases find_ents (P := C.P) hk hkf hs hqd c.w z l es.toList 0 hents with ⟨g1, g2, g3, _⟩ | ⟨j, e', cs', g1, g2, g3, g4, _⟩
              · refine ⟨zv, by rw [g3]; exact hzd, ?_⟩
                simp only [Sem.run_bind, hck, Result.andThen_ok, run_findKey_struct hk, g1, run_zeroValue hi' hz0, Sem.run_pure, g2]
              · refine ⟨e'.val, g4, ?_⟩
                simp only [Sem.run_bind, hck, Result.andThen_ok, run_findKey_struct hk, g1, Sem.run_pure, g3]
            obtain ⟨u, hu1, hu2⟩ := res
            refine ⟨u, hu1, ?_⟩
            rcases hes with ⟨hv, rfl⟩ | ⟨b, clock, hv, hb⟩
            · simp only [execOp, hop, Instr.lookup, Sem.run_bind, run_underlying_some hu, Result.andThen_ok, hyv, hv, Sem.run_pure]
              simp only [Sem.run_bind] at hu2
              exact congrArg (fun z => Result.andThen z fun a w' => Result.ok (Next.value a) w') hu2
            · simp only [execOp, hop, Instr.lookup, Sem.run_bind, run_underlying_some hu, Result.andThen_ok, hyv, hv, MapKept.run_getObj_map hb, Sem.run_pure]
              simp only [Sem.run_bind] at hu2
              exact congrArg (fun z => Result.andThen z fun a w' => Result.ok (Next.value a) w') hu2
          have fin : ∃ u, Dat c.w c.ok mt.v (mget mt.k mt.v z l q) [u] ∧ (execOp a.eval o).run C.P c.w = .ok (.value (if ok then .tuple #[u, .bool (mhas mt.k mt.v l q)] else u)) c.w := by
            rcases mapOf_rep h hx hl with ⟨hv, rfl⟩ | ⟨b, es, k, hv, hb, hents⟩
            · exact run #[] (.inl ⟨hv, rfl⟩) rfl
            · exact run es (.inr ⟨b, k, hv, hb⟩) hents
          obtain ⟨u, hu1, hrun⟩ := fin
          exact close_value hrun h hg (lookPV_rep hu1) (lookPV_isGd _ _ _ _) hr hK
    · simp at hr
  · simp at hr
theorem act_makeMap {C : Ctx} (hC : C.P = P) {t : TypeId} (hop : o.op = .makeMap t none) (h : Rep m w0 st a c) (hg : ∀ x, o.dst = some x → NoGd st x) (hr : actOp C o st K = some r)
    (hK : ∀ st' a' c', K st' = some r → Rep m w0 st' a' c' → next a' c'.w) : o.upon P a next Q ((execOp a.eval o).run P c.w) := by
  subst hC
  simp only [actOp, hop, makeMapOp] at hr
  split at hr
  · rename_i mt d hmt hd
    split at hr
    · rename_i st1 hn
      obtain ⟨g1, g2, g3, g4, g5, g6⟩ := new_spec hn
      let w1 : World := { c.w with heap := c.w.heap.push (.map #[] 0) }
      have hheap : ∀ i, w1.heap[i]? = if i = c.w.heap.size then some (.map #[] 0) else c.w.heap[i]? := fun i => by simp only [w1, Array.getElem?_push]
      have hold : ∀ b, c.za b ∨ (∃ k', Owns c k' ∧ c.ρ k' = b) → w1.heap[b]? = c.w.heap[b]? := by
        intro b hb
        have : b < c.w.heap.size := by
          rcases hb with hb | ⟨k', hk', rfl⟩
          · exact h.zlt hb
          · exact (h.mine k' hk').2.2
        rw [hheap, if_neg (by omega)]
      have hrep := h.newObj hn (w1 := w1) c.w.heap.size undef (h.kept.push _) (by simp [w1]) hold (by
        refine ⟨#[], 0, ?_, rfl⟩
        simp only [if_true]
        rw [hheap, if_pos rfl]) (fun _ => ⟨fun hb => by have := h.zlt hb; omega, .inl h.kept.size, by simp [w1], fun k' hk' he => by have := (h.mine k' hk').2.2; omega⟩)
      have hrun : (execOp a.eval o).run C.P c.w = .ok (.value (.map (some c.w.heap.size))) w1 := by
        simp only [execOp, hop, Option.map_none, Instr.makeMap, Sem.run_bind, run_newObj, Result.andThen_ok, Sem.run_pure]
        rfl
      refine close_value (c1 := { w := w1, ok := c.ok, ρ := fun i => if i = 4096 * d then c.w.heap.size else c.ρ i, σ := fun i => if i = 4096 * d then undef else c.σ i, pin := c.pin, a := c.a, q := c.q, ob := st1.obj }) hrun hrep (fun x hx => (hg x hx).of g1) ?_ rfl (by rw [hd]; exact hr) hK
      simp [RepV]
    · simp at hr
  · simp at hr
theorem act_mapUpdate {C : Ctx} (hC : C.P = P) {t : TypeId} {x y z : Operand} (hop : o.op = .mapUpdate t x y z) (h : Rep m w0 st a c) (hg : ∀ x, o.dst = some x → NoGd st x) (hr : actOp C o st K = some r)
    (hK : ∀ st' a' c', K st' = some r → Rep m w0 st' a' c' → next a' c'.w) : o.upon P a next Q ((execOp a.eval o).run P c.w) := by
  subst hC
  simp only [actOp, hop, mapUpdateOp] at hr
  have hx := operand_rep h x
  have hy := operand_rep h y
  have hz := operand_rep h z
  split at hr
  · rename_i mt n ci hmt hxi hyi
    obtain ⟨k, e, fs, hu, hk, hkf, hlv, hs⟩ := mtyOf_spec hmt
    rw [hxi] at hx
    rw [hyi] at hy
    simp only [RepV] at hx hy
    obtain ⟨xs, hyv, hyl⟩ := hy
    split at hr
    · rename_i mt' l q yv ho hq hv
      split at hr
      · rename_i hm
        subst hm
        have hqd := Ty.of_dat (c := c) hq hyl
        have hvd : Dat c.w c.ok mt'.v yv [a.eval z] := Ty.of_dat (c := c) hv (by simp only [RepL]; exact ⟨_, [], rfl, hz, rfl⟩)
        have hob : c.ob n = some (.mp mt' l) := by rw [h.ob]; exact ho
        obtain ⟨es, clock, q1, q2⟩ := h.objs n _ hob
        have hown : Owns c n := ⟨_, hob, trivial⟩
        have hmine := h.mine n hown
        have hck := key_check hk hkf hqd false c.w
        have zz : ∃ z0 : mt'.v.den, True := ⟨yv, trivial⟩
        have fin : ∀ es' clock', Ents c.w c.ok mt' (mput mt'.k mt'.v l q yv) es'.toList → (execOp a.eval o).run C.P c.w = .ok .skip { c.w with heap := c.w.heap.setIfInBounds (c.ρ n) (.map es' clock') } →
            o.upon C.P a next Q ((execOp a.eval o).run C.P c.w) := by
          intro es' clock' hents hrun
          let w1 : World := { c.w with heap := c.w.heap.setIfInBounds (c.ρ n) (.map es' clock') }
          obtain ⟨s1, s2⟩ := MapKept.heap_set (w := c.w) (r := c.ρ n) (o' := .map es' clock') q1
          have hsz : w1.heap.size = c.w.heap.size := by simp [w1]
          have hrep := h.setObj (w1 := w1) (o := .mp mt' l) (o' := .mp mt' (mput mt'.k mt'.v l q yv)) ho c.ok (h.kept.one rfl rfl rfl (by rw [hsz]; exact Nat.le_refl _) (c.ρ n) hmine.2.1 (fun i _ hi => s2 i hi)) (by rw [hsz]; exact Nat.le_refl _)
            ?_ ?_ ?_ ?_ ?_ ?_ ?_
          · refine close_skip hrun hrep (fun x hx => hg x hx) hr hK
          · rintro b (hb | ⟨k', hk', hw', rfl⟩)
            · exact s2 b (by rintro rfl; exact h.mineZ hown hb)
            · exact s2 _ (fun he => hk' (h.apart k' n hw' hown he))
          · exact fun _ hb => hb
          · exact fun b hb => ⟨by rw [hsz]; exact h.ok b hb, fun k' _ hw' he => (h.mine k' hw').1 (he ▸ hb)⟩
          · simp [RowAt]
          · exact ⟨es', clock', s1, hents.move (fun b hb => s2 b (by rintro rfl; exact hmine.1 hb)) (fun _ hb => hb)⟩
          · exact fun _ => ⟨trivial, hmine.1⟩
          · exact fun _ hb => .inl hb
        rcases find_ents (P := C.P) hk hkf hs hqd c.w yv l es.toList 0 q2 with ⟨g1, g2, g3, g4⟩ | ⟨j, e', cs', g1, g2, g3, g4, g5, g6, g7⟩
        · refine fin (es.push { key := .agg xs, val := a.eval z, born := clock }) (clock + 1) ?_ ?_
          · rw [g4, Array.toList_push]
            exact q2.snoc hqd hvd
          · simp only [execOp, hop, Instr.mapUpdate, Sem.run_bind, run_underlying_some hu, Result.andThen_ok, hx, hyv, MapKept.run_getObj_map q1, hck, run_findKey_struct hk, g1, MapKept.run_setObj_map _ q1, Sem.run_pure]
        · have hcs : cs' = xs := Array.toList_inj.1 (Dat.inj (keyFlat_flat _ _ _ hkf) g6 hqd)
          subst hcs
          have hbits : Instr.sameBits 10000 (.agg cs') (.agg cs') = true := by
            show Instr.sameBits (9999 + 1) (.agg cs') (.agg cs') = true
            simp only [Instr.sameBits, beq_self_eq_true, Bool.true_and, List.all_eq_true]
            intro p hp
            obtain ⟨i, hi, e⟩ := List.getElem_of_mem hp
            rw [List.getElem_zip] at e
            rw [← e]
            exact Dat.bits 9999 (keyFlat_flat _ _ _ hkf) hqd _ (List.getElem_mem _)
          have hja : es[j]? = some e' := by simpa using g2
          refine fin (es.modify j fun e => { e with key := .agg cs', val := a.eval z }) clock ?_ ?_
          · have hset : (es.modify j fun e => { e with key := .agg cs', val := a.eval z }).toList = es.toList.set j { key := .agg cs', val := a.eval z, born := e'.born } := by
              rw [Array.toList_modify]
              apply List.ext_getElem?
              intro i
              rw [List.getElem?_modify, List.getElem?_set]
              by_cases hij : j = i
              · subst hij
                have hlt := (List.getElem?_eq_some_iff.1 g2).1
                simp only [if_true, g2, hlt, Option.map_some, Option.map_eq_map]
              · simp [hij]
            rw [hset]
            exact g7 _ _ _ hvd
          · simp only [execOp, hop, Instr.mapUpdate, Sem.run_bind, run_underlying_some hu, Result.andThen_ok, hx, hyv, MapKept.run_getObj_map q1, hck, run_findKey_struct hk, g1, Nat.zero_add, hja, Option.map_some, Option.getD_some, g5, Instr.keyThatStays, hbits, if_true, MapKept.run_setObj_map _ q1, Sem.run_pure]
      · simp at hr
    · simp at hr
  · simp at hr
end
end Go.Fw
