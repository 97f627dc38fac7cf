/- Operations that can't fail: what they come to. -/
import Derived.Test.YtgdfhijgjjcnjaaGreatDoorFwData
import Derived.Laws.World
import Derived.Laws.Wrap64
import Derived.Laws.Strings
set_option linter.unusedVariables false
set_option linter.unusedSimpArgs false
namespace Go.Fw
open Go.RowKit (Below)

theorem wf_iff {k : IntKind} {n : Int} : (Lit.int k n).wf = true ↔ k.min ≤ n ∧ n ≤ k.max := by simp [Lit.wf]
theorem wf_wrap (k : IntKind) (n : Int) : (Lit.int k (k.wrap n)).wf = true := by
  rw [wf_iff]
  cases k <;> simp [IntKind.wrap,IntKind.min,IntKind.max,IntKind.signed,IntKind.bits] <;> (try split) <;> omega
theorem min_le (k : IntKind) : k.min ≤ 0 := by cases k <;> simp [IntKind.min,IntKind.signed,IntKind.bits]
theorem max_ge (k : IntKind) : 0 ≤ k.max := by cases k <;> simp [IntKind.max,IntKind.signed,IntKind.bits]
theorem wf_shr {k : IntKind} {a : Int} (h : (Lit.int k a).wf = true) (n : Nat) : (Lit.int k (a / 2 ^ n)).wf = true := by
  rw [wf_iff] at h ⊢
  have hp : (0 : Int) < 2 ^ n := Int.pow_pos (by omega)
  have h0 := min_le k
  have h1 := max_ge k
  rcases Int.lt_or_le a 0 with ha | ha
  · have h2 : a / 2 ^ n < 0 := Int.ediv_neg_of_neg_of_pos ha hp
    have h3 : a ≤ a / 2 ^ n := by
      rw [Int.le_ediv_iff_mul_le hp]
      have : a * 2 ^ n ≤ a * 1 := Int.mul_le_mul_of_nonpos_left (by omega) (by omega)
      omega
    omega
  · have h2 : 0 ≤ a / 2 ^ n := Int.ediv_nonneg ha (by omega)
    have h3 : a / 2 ^ n ≤ a := Int.ediv_le_self _ ha
    omega
theorem tmod_le {a : Int} (b : Int) (ha : 0 ≤ a) : a.tmod b ≤ a := by
  have h1 := Int.tmod_nonneg b ha
  have h2 : (a.tmod b).natAbs = a.natAbs % b.natAbs := Int.natAbs_tmod ..
  have h3 := Nat.mod_le a.natAbs b.natAbs
  omega
theorem wf_tmod {k : IntKind} {a b : Int} (h : (Lit.int k a).wf = true) : (Lit.int k (a.tmod b)).wf = true := by
  rw [wf_iff] at h ⊢
  have h0 := min_le k
  have h1 := max_ge k
  rcases Int.lt_or_le a 0 with ha | ha
  · have e : a.tmod b = -((-a).tmod b) := by rw [Int.neg_tmod]; omega
    have h2 := tmod_le b (show 0 ≤ -a by omega)
    have h3 := Int.tmod_nonneg b (show 0 ≤ -a by omega)
    omega
  · have := Int.tmod_nonneg b ha
    have := tmod_le b ha
    omega

theorem bytesOf_length (b : ByteArray) : (bytesOf b).length = b.size := by simp [bytesOf]
theorem toNat_inj_int {x y : UInt8} : (x.toNat : Int) = (y.toNat : Int) ↔ x = y := by
  rw [Int.ofNat_inj]; exact UInt8.toNat_inj
theorem bytesOf_inj {x y : ByteArray} : bytesOf x = bytesOf y ↔ x.data.toList = y.data.toList := by
  unfold bytesOf
  constructor
  · intro h
    have : ∀ l l' : List UInt8,l.map (fun b => (b.toNat : Int)) = l'.map (fun b => (b.toNat : Int)) → l = l' := by
      intro l
      induction l with
      | nil => intro l' h; cases l' <;> simp_all
      | cons a r ih =>
        intro l' h
        cases l' with
        | nil => simp at h
        | cons b r' =>
          simp only [List.map_cons,List.cons.injEq] at h
          rw [toNat_inj_int.1 h.1,ih r' h.2]
    exact this _ _ h
  · intro h; rw [h]
theorem toList_eq (b : ByteArray) : b.toList = b.data.toList := ByteArray.toList_eq b
theorem bytesLt_eq : ∀ l l' : List UInt8,bytesLt (l.map fun b => (b.toNat : Int)) (l'.map fun b => (b.toNat : Int)) = Op.bytesLess l l'
  | l,[] => by cases l <;> rfl
  | [],_ :: _ => rfl
  | a :: x,b :: y => by
    simp only [List.map_cons,bytesLt,Op.bytesLess,bytesLt_eq x y]
    have h1 : decide ((a.toNat : Int) < (b.toNat : Int)) = decide (a < b) := by
      rw [decide_eq_decide,Int.ofNat_lt]; exact UInt8.lt_iff_toNat_lt.symm
    have h2 : decide ((a.toNat : Int) = (b.toNat : Int)) = (a == b) := by
      rw [Bool.eq_iff_iff]; simp [toNat_inj_int]
    rw [h1,h2]

section
variable {P : Program} {m : MM} {w0 : World} {st : St} {a : Act} {c : Cx}
theorem operand_rep (h : Rep m w0 st a c) (x : Operand) : RepV c (operand st x) (a.eval x) := by
  cases x with
  | tmp t => exact (h.slots t).rep
  | global g => simp [operand,RepV]
  | func f => simp only [operand,RepV,Act.eval]; exact ⟨#[],rfl,by simp [RepL]⟩
  | const v =>
    cases v <;> try (simp [operand,RepV]; done)
    case bool b => simp [operand,RepV,Act.eval]
    case int k n =>
      simp only [operand]
      cases hw : (Lit.int k n).wf with
      | true => simp [RepV,Act.eval,hw]
      | false => simp [RepV]
    case string s =>
      simp only [operand]
      cases hs : Nat.ble s.size 4294967296 with
      | true => simp only [cond_true,RepV,Act.eval]; exact ⟨s,rfl,rfl,by have := Nat.le_of_ble_eq_true hs; omega⟩
      | false => simp [RepV]
    case pointer p => cases p <;> simp [operand,RepV,Act.eval]
    case nilFunc => simp [operand,RepV,Act.eval]
    case nilIface => simp [operand,RepV,Act.eval]
    case map r => cases r <;> simp [operand,RepV,Act.eval]
    case slice A n k =>
      unfold operand
      split <;> first
        | (rename_i heq; simp only [Operand.const.injEq] at heq; cases heq; simp [RepV,Act.eval]; done)
        | (simp [RepV]; done)
        | (rename_i heq; cases heq)
theorem typed_rep {p : PV} {v : Value} (h : RepV c p v) (t : TypeId) : RepV c (typed P t p) v := by
  cases p <;> try exact h
  case mnone =>
    simp only [typed]
    simp only [RepV] at h
    split
    · simp only [RepV]; exact ⟨none,h,.inl ⟨rfl,rfl⟩⟩
    · simp [RepV]
  simp only [typed]
  simp only [RepV] at h
  split
  · split
    · simp only [RepV]; exact ⟨none,by rw [h]; rfl,by simp,fun h0 => by simp at h0⟩
    · simp [RepV]
  · simp [RepV]

theorem run_underlying_some {t : TypeId} {d : TypeDesc} (h : P.underlying t = some d) (w : World) : (underlying t).run P w = .ok d w := by
  unfold underlying
  simp [h]
theorem run_sizeOf {t : TypeId} (h : P.cellsOf t ≠ 0) (w : World) : (sizeOf t).run P w = .ok (P.cellsOf t) w := by
  unfold Program.cellsOf at h ⊢
  cases hi : P.info? t with
  | none => rw [hi] at h; simp at h
  | some i => simp [sizeOf,typeInfo,hi]
theorem info_of_underlying {t : TypeId} {d : TypeDesc} (h : P.underlying t = some d) : ∃ i,P.info? t = some i := by
  unfold Program.underlying at h
  cases hi : P.info? t with
  | none => rw [hi] at h; simp at h
  | some i => exact ⟨i,rfl⟩
theorem run_sizeOf' {t : TypeId} {d : TypeDesc} (h : P.underlying t = some d) (w : World) : (sizeOf t).run P w = .ok (P.cellsOf t) w := by
  obtain ⟨i,hi⟩ := info_of_underlying h
  simp [sizeOf,typeInfo,hi,Program.cellsOf]
def aggD : TypeDesc → Bool
  | .struct _ | .array _ _ => true
  | _ => false
theorem run_isAgg {t : TypeId} {d : TypeDesc} (h : P.underlying t = some d) (w : World) : (isAgg t).run P w = .ok (aggD d) w := by
  unfold isAgg
  simp only [Sem.run_bind,run_underlying_some h,Result.andThen_ok]
  cases d <;> rfl

theorem add_eq (b off i : Nat) : (⟨b,off,none⟩ : Addr).add i = ⟨b,off + i,none⟩ := by
  unfold Addr.add; split
  · rename_i h; subst h; rfl
  · rfl
theorem run_loadCells {w : World} {b off : Nat} : ∀ (n i : Nat) (acc : Array Value) (vs : List Value),vs.length = n → (∀ (j : Nat) (u : Value),vs[j]? = some u → w.cell? ⟨b,off + (i + j),none⟩ = some u) →
    (loadCellsFrom ⟨b,off,none⟩ i n acc).run P w = .ok (acc ++ vs.toArray) w
  | 0,i,acc,vs,hl,_ => by
    have : vs = [] := List.length_eq_zero_iff.1 hl
    subst this
    simp [loadCellsFrom]
  | n + 1,i,acc,vs,hl,h => by
    cases vs with
    | nil => simp at hl
    | cons v r =>
      have h0 := h 0 v (by simp)
      simp only [loadCellsFrom,Sem.run_bind,run_load,add_eq,Nat.add_zero] at h0 ⊢
      rw [h0]
      simp only [Result.andThen_ok]
      rw [run_loadCells n (i + 1) (acc.push v) r (by simpa using hl) (fun j u hu => by
        have := h (j + 1) u (by simpa using hu)
        rw [show off + (i + 1 + j) = off + (i + (j + 1)) by omega]
        exact this)]
      simp

theorem cellsAt_rep (h : Rep m w0 st a c) {p : PV} {v : Value} (hp : RepV c p v) {l : List PV} (hl : st.cellsAt p = some l) :
    ∃ b off cs,v = .pointer (some ⟨b,off,none⟩) ∧ RepL c l cs ∧ ∀ (i : Nat) (u : Value),cs[i]? = some u → c.w.cell? ⟨b,off + i,none⟩ = some u := by
  cases p <;> simp only [St.cellsAt] at hl <;> try (simp at hl; done)
  case ptr k off =>
    simp only [RepV] at hp
    cases ho : st.obj k with
    | none => rw [ho] at hl; simp at hl
    | some o =>
      rw [ho] at hl
      cases o <;> try (simp at hl; done)
      simp only [Option.some.injEq] at hl
      subst hl
      obtain ⟨cs,h1,h2⟩ := h.objs k _ (by rw [h.ob]; exact ho)
      refine ⟨c.ρ k,off,cs.toList.drop off,hp,h2.drop off,fun i u hu => ?_⟩
      rw [List.getElem?_drop,Array.getElem?_toList] at hu
      exact h1.cell _ hu
  case cptr l' =>
    simp only [Option.some.injEq] at hl
    subst hl
    simp only [RepV] at hp
    obtain ⟨b,off,cs,h1,h2,h3,h4⟩ := hp
    exact ⟨b,off,cs,h1,h3,h4⟩
  case optr k i sz off =>
    simp only [RepV] at hp
    obtain ⟨hv,hb⟩ := hp
    have keyM : ∀ (t : Ty) (l' : List t.den) (cs : Array Value) (n : Nat) (el : Option TypeId),0 ≤ i → i < l'.length → sz = t.size → Cells c.w (c.ρ k) el cs → DatL c.w c.ra t l' (cs.toList.take n) → l = (((t.leaves (rd t l' i)).map PV.tag).drop off) →
        ∃ b off cs,v = .pointer (some ⟨b,off,none⟩) ∧ RepL c l cs ∧ ∀ (i : Nat) (u : Value),cs[i]? = some u → c.w.cell? ⟨b,off + i,none⟩ = some u := by
      intro t l' cs n el h0 h1 hsz hc hd hl
      have hlt : i.toNat < l'.length := by omega
      obtain ⟨d,d1,_,d3⟩ := hd.get i.toNat (List.getElem?_eq_getElem hlt)
      have hrd : rd t l' i = l'[i.toNat] := by unfold rd; rw [List.getD_eq_getElem?_getD,List.getElem?_eq_getElem hlt]; rfl
      rw [hl,hrd]
      refine ⟨c.ρ k,i.toNat * sz + off,d.drop off,hv,d1.leavesA.drop off,fun q u hu => ?_⟩
      rw [List.getElem?_drop] at hu
      have := d3 _ u hu
      rw [List.getElem?_take] at this
      split at this
      · rw [Array.getElem?_toList] at this
        rw [hsz,show i.toNat * t.size + off + q = i.toNat * t.size + (off + q) by omega]
        exact hc.cell _ this
      · simp at this
    have key : ∀ (t : Ty) (l' : List t.den) (cs : Array Value) (n : Nat) (el : Option TypeId),0 ≤ i → i < l'.length → sz = t.size → Cells c.w (c.ρ k) el cs → DatL c.w c.ok t l' (cs.toList.take n) → l = ((t.leaves (rd t l' i)).drop off) →
        ∃ b off cs,v = .pointer (some ⟨b,off,none⟩) ∧ RepL c l cs ∧ ∀ (i : Nat) (u : Value),cs[i]? = some u → c.w.cell? ⟨b,off + i,none⟩ = some u := by
      intro t l' cs n el h0 h1 hsz hc hd hl
      have hlt : i.toNat < l'.length := by omega
      obtain ⟨d,d1,_,d3⟩ := hd.get i.toNat (List.getElem?_eq_getElem hlt)
      have hrd : rd t l' i = l'[i.toNat] := by unfold rd; rw [List.getD_eq_getElem?_getD,List.getElem?_eq_getElem hlt]; rfl
      rw [hl,hrd]
      refine ⟨c.ρ k,i.toNat * sz + off,d.drop off,hv,d1.leaves.drop off,fun q u hu => ?_⟩
      rw [List.getElem?_drop] at hu
      have := d3 _ u hu
      rw [List.getElem?_take] at this
      split at this
      · rw [Array.getElem?_toList] at this
        rw [hsz,show i.toNat * t.size + off + q = i.toNat * t.size + (off + q) by omega]
        exact hc.cell _ this
      · simp at this
    cases ho : st.obj k with
    | none => rw [ho] at hl; simp at hl
    | some o =>
      rw [ho] at hl
      have hob : c.ob k = some o := by rw [h.ob]; exact ho
      have hO := h.objs k o hob
      cases o <;> try (simp at hl; done)
      case row e t l' =>
        simp only at hl
        split at hl
        · rename_i hsz
          simp only [Option.some.injEq] at hl
          obtain ⟨h0,h1,h2⟩ := hb t l' (.inl ⟨e,hob⟩)
          obtain ⟨A,n,g1,g2,g3,g4⟩ := hO
          rcases g4 with g4 | ⟨g4,cs,g5,g6,g7,g8⟩
          · omega
          · exact key t l' cs _ _ h0 h1 hsz g5 g7 hl.symm
        · simp at hl
      case arr e t n l' =>
        simp only at hl
        split at hl
        · rename_i hsz
          simp only [Option.some.injEq] at hl
          obtain ⟨h0,h1,h2⟩ := hb t l' (.inr (.inl ⟨e,n,hob⟩))
          obtain ⟨g0,cs,g1,g2⟩ := hO
          exact key t l' cs cs.size _ h0 h1 hsz g1 (by rw [List.take_of_length_le (by simp)]; exact g2) hl.symm
        · simp at hl
      case mrow e t l' p' =>
        simp only at hl
        split at hl
        · rename_i hsz
          simp only [Option.some.injEq] at hl
          obtain ⟨h0,h1,h2⟩ := hb t l' (.inr (.inr ⟨e,p',hob⟩))
          obtain ⟨A,n,g1,g2,g3,g4⟩ := hO
          rcases g4 with g4 | ⟨g4,cs,g5,g6,g7,g8⟩
          · omega
          · exact keyM t l' cs _ _ h0 h1 hsz g5 (g7.all fun _ hb => .inl hb) hl.symm
        · simp at hl
  case rptr t x off =>
    simp only [Option.some.injEq] at hl
    subst hl
    simp only [RepV] at hp
    obtain ⟨b,o,cs,h1,h2,h3,h4,h5⟩ := hp
    refine ⟨b,o + off,cs.drop off,h1,(h3.rleaves h4).drop off,fun i u hu => ?_⟩
    rw [List.getElem?_drop] at hu
    rw [Nat.add_assoc]
    exact h5 _ u hu

theorem loadVar_rep {t : TypeId} {l : List PV} {cs : List Value} {b off : Nat} {p : PV} (hl : RepL c l cs)
    (hc : ∀ (i : Nat) (u : Value),cs[i]? = some u → c.w.cell? ⟨b,off + i,none⟩ = some u) (hp : partPV P t l 0 = some p) :
    ∃ v,(loadVar t ⟨b,off,none⟩).run P c.w = .ok v c.w ∧ RepV c p v := by
  unfold partPV at hp
  have agg : ∀ d,P.underlying t = some d → (aggD d) = true → (if 0 + P.cellsOf t ≤ l.length then some (PV.agg ((l.drop 0).take (P.cellsOf t))) else none) = some p →
      ∃ v,(loadVar t ⟨b,off,none⟩).run P c.w = .ok v c.w ∧ RepV c p v := by
    intro d hd hagg hp
    split at hp
    · rename_i hle
      simp only [List.drop_zero,Option.some.injEq] at hp
      subst hp
      have hlen := hl.length
      refine ⟨.agg (cs.take (P.cellsOf t)).toArray,?_,?_⟩
      · unfold loadVar
        simp only [Sem.run_bind,run_isAgg hd,Result.andThen_ok,hagg,if_true,run_sizeOf' hd,loadCells]
        rw [run_loadCells (P.cellsOf t) 0 #[] (cs.take (P.cellsOf t)) (by rw [List.length_take]; omega) (fun j u hu => by
          rw [List.getElem?_take] at hu
          split at hu
          · rw [Nat.zero_add]; exact hc j u hu
          · simp at hu)]
        simp
      · simp only [RepV]
        exact ⟨_,rfl,by simpa using hl.take _⟩
    · simp at hp
  have one : ∀ d,P.underlying t = some d → (aggD d) = false → l[0]? = some p →
      ∃ v,(loadVar t ⟨b,off,none⟩).run P c.w = .ok v c.w ∧ RepV c p v := by
    intro d hd hagg hp
    obtain ⟨v,hv,hr⟩ := hl.get 0 hp
    refine ⟨v,?_,hr⟩
    unfold loadVar
    simp only [Sem.run_bind,run_isAgg hd,Result.andThen_ok,hagg,Bool.false_eq_true,if_false,run_load]
    have := hc 0 v hv
    rw [Nat.add_zero] at this
    rw [this]
  cases hd : P.underlying t with
  | none => rw [hd] at hp; simp at hp
  | some d =>
    rw [hd] at hp
    cases d <;> first
      | exact agg _ hd rfl hp
      | exact one _ hd rfl hp
theorem part_rep {t : TypeId} {l : List PV} {cs : Array Value} {off : Nat} {p : PV} (hl : RepL c l cs.toList) (hp : partPV P t l off = some p) :
    ∃ v,(part t cs off).run P c.w = .ok v c.w ∧ RepV c p v := by
  unfold partPV at hp
  have agg : ∀ d,P.underlying t = some d → (aggD d) = true → (if off + P.cellsOf t ≤ l.length then some (PV.agg ((l.drop off).take (P.cellsOf t))) else none) = some p →
      ∃ v,(part t cs off).run P c.w = .ok v c.w ∧ RepV c p v := by
    intro d hd hagg hp
    split at hp
    · simp only [Option.some.injEq] at hp
      subst hp
      refine ⟨.agg (cs.extract off (off + P.cellsOf t)),?_,?_⟩
      · unfold part
        simp only [Sem.run_bind,run_isAgg hd,Result.andThen_ok,hagg,if_true,run_sizeOf' hd,Sem.run_pure]
      · simp only [RepV]
        refine ⟨_,rfl,?_⟩
        have := (hl.drop off).take (P.cellsOf t)
        rw [Array.toList_extract,List.extract_eq_take_drop,Nat.add_sub_cancel_left]
        exact this
    · simp at hp
  have one : ∀ d,P.underlying t = some d → (aggD d) = false → l[off]? = some p →
      ∃ v,(part t cs off).run P c.w = .ok v c.w ∧ RepV c p v := by
    intro d hd hagg hp
    obtain ⟨v,hv,hr⟩ := hl.get off hp
    refine ⟨v,?_,hr⟩
    unfold part
    simp only [Sem.run_bind,run_isAgg hd,Result.andThen_ok,hagg,Bool.false_eq_true,if_false]
    rw [← Array.getElem?_toList,hv]
    rfl
  cases hd : P.underlying t with
  | none => rw [hd] at hp; simp at hp
  | some d =>
    rw [hd] at hp
    cases d <;> first
      | exact agg _ hd rfl hp
      | exact one _ hd rfl hp
end
end Go.Fw
