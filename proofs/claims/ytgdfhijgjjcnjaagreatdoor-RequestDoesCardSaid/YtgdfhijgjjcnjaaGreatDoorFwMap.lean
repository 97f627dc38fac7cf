/- Maps: keys that are structs of numbers,bools and texts. -/
import Derived.Test.YtgdfhijgjjcnjaaGreatDoorFwAct5
import Derived.MapKept
import Derived.Maps.RangeRun
set_option linter.unusedVariables false
set_option linter.unusedSimpArgs false
namespace Go.Fw
open Go.RowKit (Below)

theorem eqb_eq : ∀ {t : Ty} {a b : t.den},eqb t a b = true → a = b
  | .int _,_,_,h => by simpa [eqb] using h
  | .bool,_,_,h => by simpa [eqb] using h
  | .str,_,_,h => by simpa [eqb] using h
  | .unit,_,_,_ => rfl
  | .pair _ _,_,_,h => by
    simp only [eqb,Bool.and_eq_true] at h
    exact Prod.ext (eqb_eq h.1) (eqb_eq h.2)
  | .slice _ _,_,_,h => by simp [eqb] at h
theorem bytesOf_inj2 {b b' : ByteArray} (h : bytesOf b = bytesOf b') : b = b' := by
  have := bytesOf_inj.1 h
  cases b; cases b'
  simp only [ByteArray.mk.injEq]
  exact Array.toList_inj.1 this
theorem bytes_self (b : ByteArray) : (b == b) = true := by
  exact (MapKept.bytes_beq b b).2 rfl
def Ty.flatT : Ty → Bool
  | .int _ | .bool | .str | .unit => true
  | .pair a b => a.flatT && b.flatT
  | .slice _ _ => false
theorem Dat.inj {w : World} {ok : Nat → Prop} : ∀ {t : Ty} {x : t.den} {cs cs' : List Value},t.flatT = true → Dat w ok t x cs → Dat w ok t x cs' → cs = cs'
  | .int _,_,_,_,_,h,h' => h.1.trans h'.1.symm
  | .bool,_,_,_,_,h,h' => Eq.trans h (Eq.symm h')
  | .str,_,_,_,_,⟨b,h1,h2,_⟩,⟨b',h1',h2',_⟩ => by rw [h1,h1',bytesOf_inj2 (h2.symm.trans h2')]
  | .unit,_,_,_,_,h,h' => Eq.trans h (Eq.symm h')
  | .pair _ _,_,_,_,hf,⟨c1,c2,h,h1,h2⟩,⟨d1,d2,h',h1',h2'⟩ => by
    simp only [Ty.flatT,Bool.and_eq_true] at hf
    rw [h,h',Dat.inj hf.1 h1 h1',Dat.inj hf.2 h2 h2']
  | .slice _ _,_,_,_,hf,_,_ => by simp [Ty.flatT] at hf
theorem Dat.bits {w : World} {ok : Nat → Prop} (n : Nat) : ∀ {t : Ty} {x : t.den} {cs : List Value},t.flatT = true → Dat w ok t x cs → ∀ u ∈ cs,Instr.sameBits n u u = true
  | .int _,_,_,_,h,u,hu => by rw [h.1] at hu; simp at hu; subst hu; cases n <;> simp [Instr.sameBits]
  | .bool,_,_,_,h,u,hu => by rw [show _ = _ from h] at hu; simp at hu; subst hu; cases n <;> simp [Instr.sameBits]
  | .str,_,_,_,⟨b,h,_⟩,u,hu => by rw [h] at hu; simp at hu; subst hu; cases n <;> simp [Instr.sameBits,bytes_self]
  | .unit,_,_,_,h,u,hu => by rw [show _ = _ from h] at hu; simp at hu
  | .pair _ _,_,_,hf,⟨c1,c2,h,h1,h2⟩,u,hu => by
    simp only [Ty.flatT,Bool.and_eq_true] at hf
    rw [h] at hu
    rcases List.mem_append.1 hu with hu | hu
    · exact Dat.bits n hf.1 h1 u hu
    · exact Dat.bits n hf.2 h2 u hu
  | .slice _ _,_,_,hf,_,_,_ => by simp [Ty.flatT] at hf

section
variable {P : Program}
theorem leafIs_eq {ft : TypeId} : ∀ {t : Ty},leafIs P ft t = true → ∀ x y : t.den,∃ p q,t.leaves x = [p] ∧ t.leaves y = [q] ∧ eqLeaf P ft p q = some (eqb t x y)
  | .int k,h,x,y => by
    simp only [leafIs] at h
    split at h
    · rename_i k' hu
      exact ⟨_,_,rfl,rfl,by simp [eqLeaf,hu,eqb]⟩
    · simp at h
  | .bool,h,x,y => by
    simp only [leafIs] at h
    split at h
    · rename_i hu
      exact ⟨_,_,rfl,rfl,by simp [eqLeaf,hu,eqb]⟩
    · simp at h
  | .str,h,x,y => by
    simp only [leafIs] at h
    split at h
    · rename_i hu
      exact ⟨_,_,rfl,rfl,by simp [eqLeaf,hu,eqb]⟩
    · simp at h
  | .unit,h,_,_ => by simp [leafIs] at h
  | .pair _ _,h,_,_ => by simp [leafIs] at h
  | .slice _ _,h,_,_ => by simp [leafIs] at h
theorem leafIs_flat {ft : TypeId} : ∀ {t : Ty},leafIs P ft t = true → t.flatT = true
  | .int k,h => rfl
  | .bool,h => rfl
  | .str,h => rfl
  | .unit,h => rfl
  | .pair _ _,h => by simp [leafIs] at h
  | .slice _ _,h => by simp [leafIs] at h
theorem leafIs_scal {ft : TypeId} {t : Ty} (h : leafIs P ft t = true) : ∃ d,P.underlying ft = some d ∧ aggD d = false ∧ ∀ (em : Bool) (n : Nat) (v : Value) (w : World),(Instr.checkKey em (n + 1) ft v).run P w = .ok () w := by
  cases t <;> simp only [leafIs] at h <;> try (simp at h; done)
  all_goals
    split at h
    · rename_i hu
      refine ⟨_,hu,rfl,fun em n v w => ?_⟩
      unfold Instr.checkKey
      simp only [Sem.run_bind,run_underlying_some hu,Result.andThen_ok,Sem.run_pure]
    · simp at h
theorem keyFlat_eq : ∀ (fs : List Field) (i : Nat) (t : Ty),keyFlat P i fs t = true → ∀ x y : t.den,eqFlat P i fs (t.leaves x) (t.leaves y) = some (eqb t x y)
  | [],_,_,h,_,_ => by simp [keyFlat] at h
  | [f],i,t,h,x,y => by
    simp only [keyFlat,Bool.and_eq_true] at h
    obtain ⟨p,q,h1,h2,h3⟩ := leafIs_eq h.2 x y
    rw [h1,h2,eqFlat]
    simp [h.1.1,h.1.2,h3,of_decide_eq_true h.1.1,bne_iff_ne.1 h.1.2]
  | f :: g :: fs,i,.pair a b,h,x,y => by
    simp only [keyFlat,Bool.and_eq_true] at h
    obtain ⟨p,q,h1,h2,h3⟩ := leafIs_eq h.1.2 x.1 y.1
    simp only [Ty.leaves,h1,h2,List.singleton_append]
    rw [eqFlat]
    have := keyFlat_eq (g :: fs) (i + 1) b h.2 x.2 y.2
    simp [h3,of_decide_eq_true h.1.1.1,bne_iff_ne.1 h.1.1.2,this,eqb]
  | _ :: _ :: _,_,.int _,h,_,_ => by simp [keyFlat] at h
  | _ :: _ :: _,_,.bool,h,_,_ => by simp [keyFlat] at h
  | _ :: _ :: _,_,.str,h,_,_ => by simp [keyFlat] at h
  | _ :: _ :: _,_,.unit,h,_,_ => by simp [keyFlat] at h
  | _ :: _ :: _,_,.slice _ _,h,_,_ => by simp [keyFlat] at h
theorem keyFlat_flat : ∀ (fs : List Field) (i : Nat) (t : Ty),keyFlat P i fs t = true → t.flatT = true
  | [],_,_,h => by simp [keyFlat] at h
  | [f],i,t,h => by simp only [keyFlat,Bool.and_eq_true] at h; exact leafIs_flat h.2
  | f :: g :: fs,i,.pair a b,h => by
    simp only [keyFlat,Bool.and_eq_true] at h
    simp [Ty.flatT,leafIs_flat h.1.2,keyFlat_flat (g :: fs) (i + 1) b h.2]
  | _ :: _ :: _,_,.int _,h => by simp [keyFlat] at h
  | _ :: _ :: _,_,.bool,h => by simp [keyFlat] at h
  | _ :: _ :: _,_,.str,h => by simp [keyFlat] at h
  | _ :: _ :: _,_,.unit,h => by simp [keyFlat] at h
  | _ :: _ :: _,_,.slice _ _,h => by simp [keyFlat] at h
theorem keyFlat_check (em : Bool) (n : Nat) (w : World) (xs : Array Value) : ∀ (fs : List Field) (i : Nat) (t : Ty),keyFlat P i fs t = true → i + t.size ≤ xs.size →
    (forIn fs PUnit.unit (fun f _ => if f.name ≠ "_" then do
        let p ← part f.type xs f.offset
        Instr.checkKey em (n + 1) f.type p
        pure (ForInStep.yield PUnit.unit)
      else pure (ForInStep.yield PUnit.unit)) : Sem PUnit).run P w = .ok PUnit.unit w
  | [],_,_,h,_ => by simp [keyFlat] at h
  | [f],i,t,h,hs => by
    simp only [keyFlat,Bool.and_eq_true] at h
    obtain ⟨d,hd,ha,hc⟩ := leafIs_scal h.2
    have hsz : t.size = 1 := by cases t <;> simp [leafIs] at h <;> rfl
    have ho : f.offset = i := by simpa using h.1.1
    have hv : xs[f.offset]? = some (xs[i]'(by omega)) := by rw [ho]; exact Array.getElem?_eq_getElem (by omega)
    simp only [List.forIn_cons,List.forIn_nil,Sem.run_bind,bne_iff_ne.1 h.1.2,ne_eq,not_false_eq_true,if_true,part_one hd ha hv,Result.andThen_ok,hc,Sem.run_pure]
  | f :: g :: fs,i,.pair a b,h,hs => by
    simp only [keyFlat,Bool.and_eq_true] at h
    obtain ⟨d,hd,ha,hc⟩ := leafIs_scal h.1.2
    have hsz : a.size = 1 := by have h' := h.1.2; cases a <;> simp [leafIs] at h' <;> rfl
    simp only [Ty.size,hsz] at hs
    have ho : f.offset = i := by simpa using h.1.1.1
    have hv : xs[f.offset]? = some (xs[i]'(by omega)) := by rw [ho]; exact Array.getElem?_eq_getElem (by omega)
    have ih := keyFlat_check em n w xs (g :: fs) (i + 1) b h.2 (by omega)
    rw [List.forIn_cons]
    simp only [Sem.run_bind,bne_iff_ne.1 h.1.1.2,ne_eq,not_false_eq_true,if_true,part_one hd ha hv,Result.andThen_ok,hc,Sem.run_pure]
    exact ih
  | _ :: _ :: _,_,.int _,h,_ => by simp [keyFlat] at h
  | _ :: _ :: _,_,.bool,h,_ => by simp [keyFlat] at h
  | _ :: _ :: _,_,.str,h,_ => by simp [keyFlat] at h
  | _ :: _ :: _,_,.unit,h,_ => by simp [keyFlat] at h
  | _ :: _ :: _,_,.slice _ _,h,_ => by simp [keyFlat] at h

variable {w : World} {ok : Nat → Prop}
theorem key_equal {k : TypeId} {fs : Array Field} {t : Ty} (hk : P.underlying k = some (.struct fs)) (hf : keyFlat P 0 fs.toList t = true) (hs : P.stoodInHeld k = false) {x y : t.den} {xs ys : Array Value}
    (hx : Dat w ok t x xs.toList) (hy : Dat w ok t y ys.toList) (w1 : World) : (Op.equal k (.agg xs) (.agg ys)).run P w1 = .ok (eqb t x y) w1 := by
  have hfo : P.fieldsOf k = fs := by simp [Program.fieldsOf,hk]
  show (Op.equalIn (9999 + 1) k (.agg xs) (.agg ys)).run P w1 = _
  rw [run_equalIn_struct w1 9999 k xs ys (by rw [hfo]; exact hk) hs,hfo]
  exact eqFlat_run (c := { w := w,ok := ok,ρ := fun _ => 0,σ := fun _ => undef,pin := fun _ => [],ob := fun _ => none,a := fun _ => False,q := fun _ => False }) 9998 w1 fs.toList 0 _ _ xs ys _ (by simpa using Dat.leaves (c := { w := w,ok := ok,ρ := fun _ => 0,σ := fun _ => undef,pin := fun _ => [],ob := fun _ => none,a := fun _ => False,q := fun _ => False }) hx) (by simpa using Dat.leaves (c := { w := w,ok := ok,ρ := fun _ => 0,σ := fun _ => undef,pin := fun _ => [],ob := fun _ => none,a := fun _ => False,q := fun _ => False }) hy) (keyFlat_eq _ _ _ hf x y)
theorem key_check {k : TypeId} {fs : Array Field} {t : Ty} (hk : P.underlying k = some (.struct fs)) (hf : keyFlat P 0 fs.toList t = true) {x : t.den} {xs : Array Value} (hx : Dat w ok t x xs.toList) (em : Bool) (w1 : World) :
    (Instr.checkKey em 10000 k (.agg xs)).run P w1 = .ok () w1 := by
  show (Instr.checkKey em (9998 + 1 + 1) k (.agg xs)).run P w1 = _
  rw [Instr.checkKey]
  simp only [Sem.run_bind,run_underlying_some hk,Result.andThen_ok]
  rw [← Array.forIn_toList]
  have hl := hx.len
  simp only [Array.length_toList] at hl
  have := keyFlat_check (P := P) em 9998 w1 xs fs.toList 0 t hf (by omega)
  simp only [this,Result.andThen_ok,Sem.run_pure]
theorem run_findKey_struct {k : TypeId} {fs : Array Field} (hk : P.underlying k = some (.struct fs)) (v : Value) (es : List MapEntry) (w1 : World) : (Instr.findKey k v es).run P w1 = (Instr.findAsking k v es).run P w1 := by
  unfold Instr.findKey
  simp only [Sem.run_bind,run_underlying_some hk,Result.andThen_ok]
  cases es with
  | nil => simp [Instr.findNow,Instr.findAsking]
  | cons e r => simp [Instr.findNow,Instr.sameNow]
structure KeyOk (P : Program) (k : TypeId) (m : MTy) : Prop where
  eq : ∀ {w : World} {ok : Nat → Prop} {x y : m.k.den} {u v : Value} {cs ds : List Value},KeyIs m.s u cs → KeyIs m.s v ds → Dat w ok m.k x cs → Dat w ok m.k y ds → ∀ w1,(Op.equal k u v).run P w1 = .ok (eqb m.k x y) w1
  check : ∀ {w : World} {ok : Nat → Prop} {x : m.k.den} {u : Value} {cs : List Value},KeyIs m.s u cs → Dat w ok m.k x cs → ∀ (em : Bool) (w1 : World),(Instr.checkKey em 10000 k u).run P w1 = .ok () w1
  now : ∀ {w : World} {ok : Nat → Prop} {x : m.k.den} {u : Value} {cs : List Value},KeyIs m.s u cs → Dat w ok m.k x cs → ∀ {l : List (m.k.den×m.v.den)} {es : List MapEntry},Ents w ok m l es → ∀ w1,(Instr.findKey k u es).run P w1 = (Instr.findAsking k u es).run P w1
  flat : m.k.flatT = true
theorem KeyIs.inj {s : Bool} {u v : Value} {cs : List Value} (h : KeyIs s u cs) (h' : KeyIs s v cs) : u = v := by
  cases s with
  | true =>
    simp only [KeyIs] at h h'
    rw [h] at h'
    simpa using h'
  | false =>
    obtain ⟨a,rfl,e⟩ := h
    obtain ⟨b,rfl,e'⟩ := h'
    rw [Array.toList_inj.1 (e.trans e'.symm)]
theorem KeyIs.bits {s : Bool} {t : Ty} {x : t.den} {u : Value} {cs : List Value} (hf : t.flatT = true) (h : KeyIs s u cs) (hd : Dat w ok t x cs) : Instr.sameBits 10000 u u = true := by
  cases s with
  | true =>
    simp only [KeyIs] at h
    subst h
    exact Dat.bits 10000 hf hd _ (by simp)
  | false =>
    obtain ⟨a,rfl,rfl⟩ := h
    show Instr.sameBits (9999 + 1) (.agg a) (.agg a) = true
    simp only [Instr.sameBits,beq_self_eq_true,Bool.true_and,List.all_eq_true]
    intro p hp
    obtain ⟨i,hi,e⟩ := List.getElem_of_mem hp
    rw [List.getElem_zip] at e
    rw [← e]
    exact Dat.bits 9999 hf hd _ (List.getElem_mem _)
theorem scal_same {k : TypeId} {d : TypeDesc} (hu : P.underlying k = some d) : ∀ {t : Ty},leafIs P k t = true → ∀ {x y : t.den} {u v : Value},Dat w ok t x [u] → Dat w ok t y [v] → Instr.sameNow d u v = some (eqb t x y)
  | .int kk,h,x,y,u,v,h1,h2 => by
    simp only [leafIs] at h
    split at h
    · rename_i k' hk
      rw [hu] at hk
      cases hk
      have e1 := h1.1; have e2 := h2.1
      simp only [List.cons.injEq,and_true] at e1 e2
      subst e1; subst e2
      simp only [Instr.sameNow,eqb,if_true,Option.some.injEq]
      exact Bool.eq_iff_iff.2 (by rw [decide_eq_true_eq]; exact beq_iff_eq)
    · simp at h
  | .bool,h,x,y,u,v,h1,h2 => by
    simp only [leafIs] at h
    split at h
    · rename_i hk
      rw [hu] at hk
      cases hk
      have e1 : [u] = [.bool x] := h1
      have e2 : [v] = [.bool y] := h2
      simp only [List.cons.injEq,and_true] at e1 e2
      subst e1; subst e2
      cases x <;> cases y <;> rfl
    · simp at h
  | .str,h,x,y,u,v,h1,h2 => by
    simp only [leafIs] at h
    split at h
    · rename_i hk
      rw [hu] at hk
      cases hk
      obtain ⟨b,e1,e2,_⟩ := h1
      obtain ⟨b',e1',e2',_⟩ := h2
      simp only [List.cons.injEq,and_true] at e1 e1'
      subst e1; subst e1'
      simp only [Instr.sameNow,eqb,Option.some.injEq]
      rw [Bool.eq_iff_iff,MapKept.bytes_beq,decide_eq_true_eq,e2,e2']
      exact ⟨fun h => by rw [h],fun h => bytesOf_inj2 h⟩
    · simp at h
  | .unit,h,_,_,_,_,_,_ => by simp [leafIs] at h
  | .pair _ _,h,_,_,_,_,_,_ => by simp [leafIs] at h
  | .slice _ _,h,_,_,_,_,_,_ => by simp [leafIs] at h
theorem scal_equal {k : TypeId} {t : Ty} (h : leafIs P k t = true) {x y : t.den} {u v : Value} (h1 : Dat w ok t x [u]) (h2 : Dat w ok t y [v]) (w1 : World) : (Op.equal k u v).run P w1 = .ok (eqb t x y) w1 := by
  obtain ⟨p,q,e1,e2,e3⟩ := leafIs_eq h x y
  let c0 : Cx := { w := w,ok := ok,ρ := fun _ => 0,σ := fun _ => undef,pin := fun _ => [],ob := fun _ => none,a := fun _ => False,q := fun _ => False }
  have r1 := Dat.leaves (c := c0) h1
  have r2 := Dat.leaves (c := c0) h2
  rw [e1] at r1
  rw [e2] at r2
  simp only [RepL,List.cons.injEq] at r1 r2
  obtain ⟨u',_,⟨rfl,_⟩,g1,_⟩ := r1
  obtain ⟨v',_,⟨rfl,_⟩,g2,_⟩ := r2
  exact eqLeaf_run (c := c0) 9999 g1 g2 e3 w1
theorem scal_key {k : TypeId} {kt vt : Ty} (h : leafIs P k kt = true) : KeyOk P k ⟨kt,vt,true⟩ := by
  obtain ⟨d,hd,ha,hc⟩ := leafIs_scal h
  have eq : ∀ {w : World} {ok : Nat → Prop} {x y : kt.den} {u v : Value} {cs ds : List Value},KeyIs true u cs → KeyIs true v ds → Dat w ok kt x cs → Dat w ok kt y ds → ∀ w1,(Op.equal k u v).run P w1 = .ok (eqb kt x y) w1 := by
    intro w ok x y u v cs ds h1 h2 h3 h4 w1
    simp only [KeyIs] at h1 h2
    subst h1; subst h2
    exact scal_equal h h3 h4 w1
  refine ⟨eq,fun h1 h2 em w1 => hc em _ _ _,?_,leafIs_flat h⟩
  intro w ok x u cs h1 h2 l es he w1
  simp only [KeyIs] at h1
  subst h1
  have key : ∀ (l : List (kt.den×vt.den)) (es : List MapEntry) (i : Nat),Ents w ok ⟨kt,vt,true⟩ l es → ∃ r,Instr.findNow d u es i = some r ∧ (Instr.findAsking k u es i).run P w1 = .ok r w1 := by
    intro l
    induction l with
    | nil =>
      intro es i he
      have : es = [] := he
      subst this
      exact ⟨none,rfl,by simp [Instr.findAsking]⟩
    | cons e r ih =>
      rintro _ i ⟨y,s,ds,rfl,h3,h4,_,h5⟩
      simp only [KeyIs] at h3
      subst h3
      have hs := scal_same (P := P) hd h h2 h4
      have hq := scal_equal h h2 h4 w1
      cases hb : eqb kt x e.1 with
      | true =>
        rw [hb] at hs hq
        exact ⟨some (i,y.val),by simp [Instr.findNow,hs],by simp [Instr.findAsking,hq]⟩
      | false =>
        rw [hb] at hs hq
        obtain ⟨z,z1,z2⟩ := ih s (i + 1) h5
        exact ⟨z,by simp [Instr.findNow,hs,z1],by simp [Instr.findAsking,hq,z2]⟩
  obtain ⟨r,r1,r2⟩ := key l es 0 he
  unfold Instr.findKey
  simp only [Sem.run_bind,run_underlying_some hd,Result.andThen_ok,r1,Sem.run_pure]
  exact r2.symm
theorem struct_key {k : TypeId} {fs : Array Field} {kt vt : Ty} (hk : P.underlying k = some (.struct fs)) (hf : keyFlat P 0 fs.toList kt = true) (hs : P.stoodInHeld k = false) : KeyOk P k ⟨kt,vt,false⟩ := by
  refine ⟨?_,?_,fun _ _ _ _ _ w1 => run_findKey_struct hk _ _ w1,keyFlat_flat _ _ _ hf⟩
  · rintro w ok x y u v cs ds ⟨a,rfl,rfl⟩ ⟨b,rfl,rfl⟩ h3 h4 w1
    exact key_equal hk hf hs h3 h4 w1
  · rintro w ok x u cs ⟨a,rfl,rfl⟩ h2 em w1
    exact key_check hk hf h2 em w1
theorem mtyOf_spec {t : TypeId} {m : MTy} (h : mtyOf P t = some m) : ∃ k e,P.underlying t = some (.map k e) ∧ KeyOk P k m ∧ leafIs P e m.v = true := by
  unfold mtyOf at h
  split at h
  · rename_i k e hu
    split at h
    · rename_i fs kt vt hk _ _
      cases hc : (keyFlat P 0 fs.toList kt && leafIs P e vt && !P.stoodInHeld k) with
      | false => rw [hc] at h; simp at h
      | true =>
        rw [hc] at h
        simp only [cond_true,Option.some.injEq] at h
        subst h
        simp only [Bool.and_eq_true,Bool.not_eq_true'] at hc
        exact ⟨k,e,hu,struct_key hk hc.1.1 hc.2,hc.1.2⟩
    · rename_i val kt vt hns g1 g2 g3
      cases hc : (leafIs P k kt && leafIs P e vt) with
      | false => rw [hc] at h; simp at h
      | true =>
        rw [hc] at h
        simp only [cond_true,Option.some.injEq] at h
        subst h
        simp only [Bool.and_eq_true] at hc
        exact ⟨k,e,hu,scal_key hc.1,hc.2⟩
    · simp at h
  · simp at h
theorem find_ents {k : TypeId} {m : MTy} (hk : KeyOk P k m) {q : m.k.den} {u : Value} {xs : List Value} (hu : KeyIs m.s u xs) (hx : Dat w ok m.k q xs) (w1 : World) (z : m.v.den) :
    ∀ (l : List (m.k.den×m.v.den)) (es : List MapEntry) (i : Nat),Ents w ok m l es →
      ((Instr.findAsking k u es i).run P w1 = .ok none w1 ∧ mhas m.k m.v l q = false ∧ mget m.k m.v z l q = z ∧ ∀ y,mput m.k m.v l q y = l ++ [(q,y)]) ∨
      ∃ j e cs,(Instr.findAsking k u es i).run P w1 = .ok (some (i + j,e.val)) w1 ∧ es[j]? = some e ∧ mhas m.k m.v l q = true ∧ Dat w ok m.v (mget m.k m.v z l q) [e.val] ∧ KeyIs m.s e.key cs ∧ Dat w ok m.k q cs ∧
        ∀ y v b,Dat w ok m.v y [v] → Ents w ok m (mput m.k m.v l q y) (es.set j { key := u,val := v,born := b })
  | [],es,i,h => by
    have : es = [] := h
    subst this
    exact .inl ⟨by simp [Instr.findAsking],rfl,rfl,fun _ => rfl⟩
  | e :: r,_,i,⟨x,s,cs,h1,h2,h3,h4,h5⟩ => by
    subst h1
    have heq := hk.eq hu h2 hx h3 w1
    cases hb : eqb m.k q e.1 with
    | true =>
      rw [hb] at heq
      have hqe := eqb_eq hb
      refine .inr ⟨0,x,cs,by simp [Instr.findAsking,heq],rfl,by simp [mhas,hb],by simpa [mget,hb] using h4,h2,by rw [hqe]; exact h3,fun y v b hv => ?_⟩
      simp only [mput,hb,cond_true,List.set_cons_zero]
      exact ⟨_,s,xs,rfl,hu,hx,hv,h5⟩
    | false =>
      rw [hb] at heq
      rcases find_ents hk hu hx w1 z r s (i + 1) h5 with ⟨g1,g2,g3,g4⟩ | ⟨j,e',cs',g1,g2,g3,g4,g5,g6,g7⟩
      · exact .inl ⟨by simp [Instr.findAsking,heq,g1],by simp [mhas,hb,g2],by simp [mget,hb,g3],fun y => by simp [mput,hb,g4 y]⟩
      · refine .inr ⟨j + 1,e',cs',?_,by simpa using g2,by simp [mhas,hb,g3],by simpa [mget,hb] using g4,g5,g6,fun y v b hv => ?_⟩
        · simp only [Instr.findAsking,Sem.run_bind,heq,Result.andThen_ok,Bool.false_eq_true,if_false,g1]
          rw [show i + 1 + j = i + (j + 1) by omega]
        · simp only [mput,hb,cond_false,List.set_cons_succ]
          exact ⟨x,_,cs,rfl,h2,h3,h4,g7 y v b hv⟩
theorem Ents.snoc {m : MTy} : ∀ {l : List (m.k.den×m.v.den)} {es : List MapEntry},Ents w ok m l es → ∀ {q : m.k.den} {y : m.v.den} {u : Value} {xs : List Value} {v : Value} {b : Nat},KeyIs m.s u xs → Dat w ok m.k q xs → Dat w ok m.v y [v] → Ents w ok m (l ++ [(q,y)]) (es ++ [{ key := u,val := v,born := b }])
  | [],es,h,_,_,_,_,_,_,hu,hq,hy => by
    have : es = [] := h
    subst this
    exact ⟨_,[],_,rfl,hu,hq,hy,rfl⟩
  | e :: r,_,⟨x,s,cs,h1,h2,h3,h4,h5⟩,_,_,_,_,_,_,hu,hq,hy => by
    subst h1
    exact ⟨x,_,cs,rfl,h2,h3,h4,h5.snoc hu hq hy⟩
theorem Born.push {es : List MapEntry} {clock : Nat} (h : Born es clock) {u v : Value} : Born (es ++ [{ key := u,val := v,born := clock }]) (clock + 1) := by
  refine ⟨?_,fun x hx => ?_⟩
  · rw [List.map_append,List.nodup_append]
    refine ⟨h.1,by simp,fun a ha b hb => ?_⟩
    obtain ⟨x,hx,rfl⟩ := List.mem_map.1 ha
    simp only [List.map_cons,List.map_nil,List.mem_singleton] at hb
    subst hb
    have := h.2 x hx
    omega
  · rcases List.mem_append.1 hx with hx | hx
    · have := h.2 x hx; omega
    · simp only [List.mem_singleton] at hx; subst hx; simp
theorem Born.set {es : List MapEntry} {clock : Nat} (h : Born es clock) {j : Nat} {e : MapEntry} (he : es[j]? = some e) {u v : Value} : Born (es.set j { key := u,val := v,born := e.born }) clock := by
  have hm : (es.set j { key := u,val := v,born := e.born }).map (·.born) = es.map (·.born) := by
    rw [List.map_set]
    apply List.ext_getElem?
    intro i
    rw [List.getElem?_set]
    by_cases hij : j = i
    · subst hij
      obtain ⟨hlt,he2⟩ := List.getElem?_eq_some_iff.1 he
      simp [hlt,← he2]
    · simp [hij]
  refine ⟨by rw [hm]; exact h.1,fun x hx => ?_⟩
  have : x.born ∈ (es.set j { key := u,val := v,born := e.born }).map (·.born) := List.mem_map.2 ⟨x,hx,rfl⟩
  rw [hm] at this
  obtain ⟨y,hy,e1⟩ := List.mem_map.1 this
  rw [← e1]; exact h.2 y hy
theorem key_rep {c : Cx} {m : MTy} {i : PV} {v : Value} {q : m.k.den} (hv : RepV c i v) (h : m.key i = some q) : ∃ xs,KeyIs m.s v xs ∧ Dat c.w c.ok m.k q xs := by
  unfold MTy.key at h
  split at h
  · rename_i hs
    exact ⟨[v],by rw [hs]; rfl,Ty.of_dat (c := c) h (by simp only [RepL]; exact ⟨v,[],rfl,hv,rfl⟩)⟩
  · rename_i hs
    simp only [RepV] at hv
    obtain ⟨a,rfl,hl⟩ := hv
    exact ⟨a.toList,by rw [hs]; exact ⟨a,rfl,rfl⟩,Ty.of_dat (c := c) h hl⟩
  · simp at h
end

section
variable {P : Program} {m : MM} {w0 : World} {st : St} {a : Act} {c : Cx} {R : Type} {K : St → Option R} {r : R} {o : Oper} {next : Act → World → Prop} {Q : Exit → Act → World → Prop}
theorem pmOf_spec {t : TypeId} (h : pmOf P t = true) : ∃ k e,P.underlying t = some (.map k e) ∧ P.underlying k = some (.int .u64) ∧ (∃ d,P.underlying e = some (.pointer d)) ∧ zeroPV P e = some [.nilptr] ∧ zAgg P e = false := by
  unfold pmOf at h
  split at h
  · rename_i k e hu
    split at h
    · rename_i d h1 h2 h3
      exact ⟨k,e,hu,h1,⟨d,h2⟩,h3,by simpa using h⟩
    · simp at h
  · simp at h
theorem pm_check {k : TypeId} (hk : P.underlying k = some (.int .u64)) (em : Bool) (v : Value) (w1 : World) : (Instr.checkKey em 10000 k v).run P w1 = .ok () w1 := by
  show (Instr.checkKey em (9999 + 1) k v).run P w1 = _
  unfold Instr.checkKey
  simp only [Sem.run_bind,run_underlying_some hk,Result.andThen_ok,Sem.run_pure]
theorem pm_find {ρ : Nat → Nat} (q : Int) : ∀ (l : List (Int×(Nat×Nat))) (es : List MapEntry) (i : Nat),PEnts ρ l es →
    (Instr.findNow (.int .u64) (.int .u64 q) es i = some none ∧ ∀ e ∈ l,e.1 ≠ q) ∨ ∃ j v,Instr.findNow (.int .u64) (.int .u64 q) es i = some (some (j,.pointer (some ⟨ρ v.1,v.2,none⟩))) ∧ (q,v) ∈ l
  | [],es,i,h => by
    have : es = [] := h
    subst this
    exact .inl ⟨rfl,by simp⟩
  | e :: r,_,i,⟨x,s,h1,h2,h3,h4⟩ => by
    subst h1
    simp only [Instr.findNow,h2,Instr.sameNow,if_true]
    by_cases hq : q = e.1
    · subst hq
      simp only [beq_self_eq_true]
      exact .inr ⟨i,e.2,by rw [h3],by simp⟩
    · have hb : (q == e.1) = false := by simpa using hq
      rw [hb]
      rcases pm_find q r s (i + 1) h4 with ⟨g1,g2⟩ | ⟨j,v,g1,g2⟩
      · exact .inl ⟨g1,fun y hy => by
          rcases List.mem_cons.1 hy with rfl | hy
          · exact fun hh => hq hh.symm
          · exact g2 y hy⟩
      · exact .inr ⟨j,v,g1,List.mem_cons_of_mem _ g2⟩
theorem PEnts.snoc {ρ : Nat → Nat} {q : Int} {v : Nat×Nat} {b : Nat} : ∀ {l : List (Int×(Nat×Nat))} {es : List MapEntry},PEnts ρ l es → PEnts ρ (l ++ [(q,v)]) (es ++ [{ key := .int .u64 q,val := .pointer (some ⟨ρ v.1,v.2,none⟩),born := b }])
  | [],es,h => by
    have : es = [] := h
    subst this
    exact ⟨_,[],rfl,rfl,rfl,rfl⟩
  | e :: r,_,⟨x,s,h1,h2,h3,h4⟩ => by
    subst h1
    exact ⟨x,_,rfl,h2,h3,h4.snoc⟩
theorem pins_perm (q : Int) (v : Nat×Nat) : ∀ l : List (Int×(Nat×Nat)),(pins l q v).Perm ((q,v) :: l)
  | [] => List.Perm.refl _
  | e :: r => by
    unfold pins
    cases decide (q < e.1) with
    | true => exact List.Perm.refl _
    | false => exact (List.Perm.cons e (pins_perm q v r)).trans (List.Perm.swap _ _ _)
theorem act_pmMake {C : Ctx} (hC : C.P = P) {t : TypeId} (hop : o.op = .makeMap t none) (h : Rep m w0 st a c) (hg : ∀ x,o.dst = some x → NoGd st x) (hr : pmMake o.dst st K = some r)
    (hK : ∀ st' a' c',K st' = some r → Rep m w0 st' a' c' → next a' c'.w) : o.upon P a next Q ((execOp a.eval o).run P c.w) := by
  subst hC
  unfold pmMake at hr
  split at hr
  · rename_i d hd
    split at hr
    · rename_i st1 hn
      obtain ⟨g1,g2,g3,g4,g5,g6⟩ := new_spec hn
      let w1 : World := { c.w with heap := c.w.heap.push (.map #[] 0) }
      have hheap : ∀ i,w1.heap[i]? = if i = c.w.heap.size then some (.map #[] 0) else c.w.heap[i]? := fun i => by simp only [w1,Array.getElem?_push]
      have hold : ∀ b,c.za b ∨ (∃ k',Owns c k' ∧ c.ρ k' = b) → w1.heap[b]? = c.w.heap[b]? := by
        intro b hb
        have : b < c.w.heap.size := by
          rcases hb with hb | ⟨k',hk',rfl⟩
          · exact h.zlt hb
          · exact (h.mine k' hk').2.2
        rw [hheap,if_neg (by omega)]
      have hrep := h.newObj hn (w1 := w1) c.w.heap.size undef (h.kept.push _) (by simp [w1]) hold (by
        refine ⟨#[],0,[],?_,List.Perm.refl _,rfl,by simp [Born],by simp⟩
        simp only [if_true]
        rw [hheap,if_pos rfl]) (fun _ => ⟨fun hb => by have := h.zlt hb; omega,.inl h.kept.size,by simp [w1],fun k' hk' he => by have := (h.mine k' hk').2.2; omega⟩)
      have hrun : (execOp a.eval o).run C.P c.w = .ok (.value (.map (some c.w.heap.size))) w1 := by
        simp only [execOp,hop,Option.map_none,Instr.makeMap,Sem.run_bind,run_newObj,Result.andThen_ok,Sem.run_pure]
        rfl
      refine close_value (c1 := { w := w1,ok := c.ok,ρ := fun i => if i = 4096 * d then c.w.heap.size else c.ρ i,σ := fun i => if i = 4096 * d then undef else c.σ i,pin := c.pin,a := c.a,q := c.q,ob := st1.obj }) hrun hrep (fun x hx => (hg x hx).of g1) ?_ rfl (by rw [hd]; exact hr) hK
      simp [RepV]
    · simp at hr
  · simp at hr
theorem pmGo_some {q : Int} {d : Option Nat} : ∀ {l : List (Int×(Nat×Nat))},pmGo q d st K l = some r → ((∀ e ∈ l,e.1 ≠ q) ∧ K (st.put d .nilptr) = some r) ∨ ∃ v,(q,v) ∈ l ∧ K (st.put d (.ptr v.1 v.2)) = some r
  | [],h => .inl ⟨by simp,h⟩
  | e :: s,h => by
    unfold pmGo at h
    by_cases hq : q = e.1
    · simp only [hq,decide_true,cond_true] at h
      exact .inr ⟨e.2,by rw [hq]; simp,h⟩
    · simp only [hq,decide_false,cond_false] at h
      rcases pmGo_some h with ⟨g1,g2⟩ | ⟨v,g1,g2⟩
      · exact .inl ⟨fun y hy => by
          rcases List.mem_cons.1 hy with rfl | hy
          · exact fun hh => hq hh.symm
          · exact g1 y hy,g2⟩
      · exact .inr ⟨v,List.mem_cons_of_mem _ g1,g2⟩
theorem keys_one {l : List (Int×(Nat×Nat))} (hn : (l.map (·.1)).Nodup) {q : Int} {u v : Nat×Nat} (hu : (q,u) ∈ l) (hv : (q,v) ∈ l) : u = v := by
  induction l with
  | nil => simp at hu
  | cons e r ih =>
    simp only [List.map_cons,List.nodup_cons] at hn
    rcases List.mem_cons.1 hu with hu | hu <;> rcases List.mem_cons.1 hv with hv | hv
    · rw [← hv] at hu; exact (Prod.mk.inj hu).2
    · exact absurd (List.mem_map.2 ⟨_,hv,by rw [← hu]⟩) hn.1
    · exact absurd (List.mem_map.2 ⟨_,hu,by rw [← hv]⟩) hn.1
    · exact ih hn.2 hu hv
theorem act_pmGet {C : Ctx} (hC : C.P = P) {t : TypeId} {x y : Operand} {ok : Bool} (hop : o.op = .lookup t x y ok) (hpm : pmOf P t = true) (h : Rep m w0 st a c) (hg : ∀ x,o.dst = some x → NoGd st x) (hr : pmGet (operand st x) (operand st y) ok o.dst st K = some r)
    (hK : ∀ st' a' c',K st' = some r → Rep m w0 st' a' c' → next a' c'.w) : o.upon P a next Q ((execOp a.eval o).run P c.w) := by
  subst hC
  obtain ⟨k,e,hu,hk,⟨d0,hd0⟩,hzp,hza⟩ := pmOf_spec hpm
  have hx := operand_rep h x
  have hy := operand_rep h y
  unfold pmGet at hr
  cases ok with
  | true => simp at hr
  | false =>
    simp only [cond_false] at hr
    split at hr
    · rename_i n q hxe hye
      rw [hxe] at hx
      rw [hye] at hy
      simp only [RepV] at hx hy
      split at hr
      · rename_i l ho
        obtain ⟨es,clock,l',q1,q2,q3,q4,q5⟩ := h.objs n _ (by rw [h.ob]; exact ho)
        obtain ⟨i,zv,hi',hz0,hsz,hrep⟩ := zeroPV_rep hzp
        have hzl : zv.cells.toList = [zv] := by
          unfold zAgg at hza
          rw [hi'] at hza
          simp only [hz0] at hza
          cases zv <;> first
            | rfl
            | simp at hza
        have hzn : zv = .pointer none := by
          have := (hrep c).1
          rw [hzl] at this
          simp only [RepL,RepV,List.cons.injEq] at this
          obtain ⟨v,r',⟨e1,_⟩,e2,_⟩ := this
          rw [e1]; exact e2
        have hgo := pmGo_some hr
        have fin : ∀ (p : PV) (v : Value),RepV c p v → p.isGd = false → K (st.put o.dst p) = some r → (Instr.findNow (.int .u64) (.int .u64 q) es.toList 0 = some none ∧ v = .pointer none ∨ ∃ j,Instr.findNow (.int .u64) (.int .u64 q) es.toList 0 = some (some (j,v))) →
            o.upon C.P a next Q ((execOp a.eval o).run C.P c.w) := by
          intro p v hp hpg hk2 hf
          have hrun : (execOp a.eval o).run C.P c.w = .ok (.value v) c.w := by
            rcases hf with ⟨hf,rfl⟩ | ⟨j,hf⟩
            · subst hzn
              simp only [execOp,hop,Instr.lookup,Sem.run_bind,run_underlying_some hu,Result.andThen_ok,hx,hy.1,MapKept.run_getObj_map q1,pm_check hk,Instr.findKey,run_underlying_some hk,hf,Sem.run_pure,run_zeroValue hi' hz0]
              rfl
            · simp only [execOp,hop,Instr.lookup,Sem.run_bind,run_underlying_some hu,Result.andThen_ok,hx,hy.1,MapKept.run_getObj_map q1,pm_check hk,Instr.findKey,run_underlying_some hk,hf,Sem.run_pure]
              rfl
          exact close_value hrun h hg hp hpg hk2 hK
        rcases pm_find (ρ := c.ρ) q l' es.toList 0 q3 with ⟨g1,g2⟩ | ⟨j,v,g1,g2⟩
        · rcases hgo with ⟨_,k2⟩ | ⟨v,k1,_⟩
          · exact fin .nilptr (.pointer none) (by simp [RepV]) rfl k2 (.inl ⟨g1,rfl⟩)
          · exact absurd rfl (g2 _ (q2.mem_iff.2 k1))
        · have g3 := q2.mem_iff.1 g2
          rcases hgo with ⟨k1,_⟩ | ⟨v',k1,k2⟩
          · exact absurd rfl (k1 _ g3)
          · have : v' = v := keys_one q5 k1 g3
            subst this
            exact fin (.ptr v'.1 v'.2) _ (by simp [RepV]) rfl k2 (.inr ⟨j,g1⟩)
      · simp at hr
    · simp at hr
theorem act_pmPut {C : Ctx} (hC : C.P = P) {t : TypeId} {x y z : Operand} (hop : o.op = .insert t x y z) (hpm : pmOf P t = true) (h : Rep m w0 st a c) (hg : ∀ x,o.dst = some x → NoGd st x) (hr : pmPut (operand st x) (operand st y) (operand st z) o.dst st K = some r)
    (hK : ∀ st' a' c',K st' = some r → Rep m w0 st' a' c' → next a' c'.w) : o.upon P a next Q ((execOp a.eval o).run P c.w) := by
  subst hC
  obtain ⟨k,e,hu,hk,_,_,_⟩ := pmOf_spec hpm
  have hx := operand_rep h x
  have hy := operand_rep h y
  have hz := operand_rep h z
  unfold pmPut at hr
  split at hr
  · rename_i n q kk off hxe hye hze
    rw [hxe] at hx
    rw [hye] at hy
    rw [hze] at hz
    simp only [RepV] at hx hy hz
    split at hr
    · rename_i l ho
      cases hany : l.any fun e => decide (e.1 = q) with
      | true => rw [hany] at hr; simp at hr
      | false =>
        rw [hany] at hr
        simp only [cond_false] at hr
        have hnot : ∀ e ∈ l,e.1 ≠ q := fun e he hh => by
          have := List.any_eq_false.1 hany e he
          simp [hh] at this
        have hob : c.ob n = some (.pm l) := by rw [h.ob]; exact ho
        obtain ⟨es,clock,l',q1,q2,q3,q4,q5⟩ := h.objs n _ hob
        have hown : Owns c n := ⟨_,hob,trivial⟩
        have hmine := h.mine n hown
        have hnow : Instr.findNow (.int .u64) (.int .u64 q) es.toList 0 = some none := by
          rcases pm_find (ρ := c.ρ) q l' es.toList 0 q3 with ⟨g1,_⟩ | ⟨j,v,_,g2⟩
          · exact g1
          · exact absurd rfl (hnot _ (q2.mem_iff.1 g2))
        let es' := es.push { key := a.eval y,val := a.eval z,born := clock }
        let w1 : World := { c.w with heap := c.w.heap.setIfInBounds (c.ρ n) (.map es' (clock + 1)) }
        have hrun : (execOp a.eval o).run C.P c.w = .ok .skip w1 := by
          simp only [execOp,hop,Instr.mapUpdate,Sem.run_bind,run_underlying_some hu,Result.andThen_ok,hx,MapKept.run_getObj_map q1,pm_check hk,Instr.findKey,run_underlying_some hk,hy.1,hnow,Sem.run_pure,MapKept.run_setObj_map _ q1]
          simp only [w1,es',hy.1]
        obtain ⟨s1,s2⟩ := MapKept.heap_set (w := c.w) (r := c.ρ n) (o' := .map es' (clock + 1)) q1
        have hsz : w1.heap.size = c.w.heap.size := by simp [w1]
        have hrep := h.setObj (w1 := w1) (o := .pm l) (o' := .pm (pins l q (kk,off))) ho c.ok (h.kept.one rfl rfl rfl (by rw [hsz]; exact Nat.le_refl _) (c.ρ n) hmine.2.1 (fun i _ hi => s2 i hi)) (by rw [hsz]; exact Nat.le_refl _)
          ?_ ?_ ?_ ?_ ?_ ?_ ?_
        · exact close_skip hrun hrep (fun x hx => hg x hx) hr hK
        · rintro b (hb | ⟨k',hk',hw',rfl⟩)
          · exact s2 b (by rintro rfl; exact h.mineZ hown hb)
          · exact s2 _ (fun he => hk' (h.apart k' n hw' hown he))
        · exact fun _ hb => hb
        · exact fun b hb => ⟨by rw [hsz]; exact h.ok b hb,fun k' _ hw' he => (h.mine k' hw').1 (he ▸ hb)⟩
        · simp [RowAt]
        · refine ⟨es',clock + 1,l' ++ [(q,(kk,off))],s1,?_,?_,?_,?_⟩
          · exact ((List.perm_append_comm (l₁ := l') (l₂ := [(q,(kk,off))])).trans (List.Perm.cons _ q2)).trans (pins_perm q (kk,off) l).symm
          · simp only [es',Array.toList_push,hy.1,hz]
            exact q3.snoc
          · simp only [es',Array.toList_push]
            exact q4.push
          · rw [((pins_perm q (kk,off) l).map _).nodup_iff]
            simp only [List.map_cons,List.nodup_cons]
            refine ⟨fun hh => ?_,q5⟩
            obtain ⟨e,he,h1⟩ := List.mem_map.1 hh
            exact hnot e he h1
        · exact fun _ => ⟨trivial,hmine.1⟩
        · exact fun _ hb => .inl hb
    · simp at hr
  · simp at hr
theorem mapOf_rep (h : Rep m w0 st a c) {mt : MTy} {p : PV} {v : Value} {l : List (mt.k.den×mt.v.den)} (hp : RepV c p v) (hl : mapOf st mt p = some l) :
    (v = .map none ∧ l = []) ∨ ∃ b es clock,v = .map (some b) ∧ c.w.heap[b]? = some (.map es clock) ∧ Ents c.w c.ok mt l es.toList := by
  unfold mapOf at hl
  split at hl
  · split at hl
    · rename_i hm
      subst hm
      simp only [Option.some.injEq] at hl
      subst hl
      simp only [RepV] at hp
      obtain ⟨A,rfl,hp⟩ := hp
      rcases hp with ⟨rfl,h2⟩ | ⟨b,es,k,rfl,h2,h3,h4⟩
      · exact .inl ⟨rfl,h2⟩
      · exact .inr ⟨b,es,k,rfl,h3,h4.1⟩
    · simp at hl
  · rename_i k
    split at hl
    · rename_i m' l' ho
      split at hl
      · rename_i hm
        subst hm
        simp only [Option.some.injEq] at hl
        subst hl
        simp only [RepV] at hp
        obtain ⟨es,k,h1,h2⟩ := h.objs k _ (by rw [h.ob]; exact ho)
        exact .inr ⟨_,es,k,hp,h1,h2.1⟩
      · simp at hl
    · simp at hl
  · simp at hl
theorem leaves_nogd0 : ∀ (t : Ty) (x : t.den) (p : PV),p ∈ t.leaves x → p.isGd = false
  | .int _,_,p,h => by simp only [Ty.leaves,List.mem_singleton] at h; subst h; rfl
  | .bool,_,p,h => by simp only [Ty.leaves,List.mem_singleton] at h; subst h; rfl
  | .str,_,p,h => by simp only [Ty.leaves,List.mem_singleton] at h; subst h; rfl
  | .unit,_,p,h => by simp [Ty.leaves] at h
  | .pair a b,x,p,h => by
    simp only [Ty.leaves] at h
    rcases List.mem_append.1 h with h | h
    · exact leaves_nogd0 a _ p h
    · exact leaves_nogd0 b _ p h
  | .slice _ _,_,p,h => by simp only [Ty.leaves,List.mem_singleton] at h; subst h; rfl
theorem lookPV_isGd (mt : MTy) (ok : Bool) (x : mt.v.den) (f : Bool) : (lookPV mt ok x f).isGd = false := by
  unfold lookPV
  split
  · rename_i p hp
    cases ok
    · exact leaves_nogd0 _ _ _ (by rw [hp]; simp)
    · rfl
  · rfl
theorem lookPV_rep {mt : MTy} {ok f : Bool} {x : mt.v.den} {u : Value} (hx : Dat c.w c.ok mt.v x [u]) : RepV c (lookPV mt ok x f) (if ok then .tuple #[u,.bool f] else u) := by
  unfold lookPV
  have hl := Dat.leaves (c := c) hx
  split
  · rename_i p hp
    rw [hp] at hl
    simp only [RepL,List.cons.injEq] at hl
    obtain ⟨v,r',⟨e1,_⟩,h2,_⟩ := hl
    subst e1
    cases ok with
    | false => simpa using h2
    | true =>
      simp only [cond_true,if_true,RepV]
      refine ⟨_,rfl,?_⟩
      simp only [RepL]
      exact ⟨u,[.bool f],rfl,h2,.bool f,[],rfl,by simp [RepV],rfl⟩
  · simp [RepV]
theorem act_lookup {C : Ctx} (hC : C.P = P) {t : TypeId} {x y : Operand} {ok : Bool} (hop : o.op = .lookup t x y ok) (h : Rep m w0 st a c) (hg : ∀ x,o.dst = some x → NoGd st x) (hr : actOp C o st K = some r)
    (hK : ∀ st' a' c',K st' = some r → Rep m w0 st' a' c' → next a' c'.w) : o.upon P a next Q ((execOp a.eval o).run P c.w) := by
  subst hC
  cases hpm : pmOf C.P t with
  | true => exact act_pmGet rfl hop hpm h hg (by simpa only [actOp,hop,hpm,cond_true] using hr) hK
  | false =>
  simp only [actOp,hop,hpm,cond_false,lookupOp] at hr
  have hx := operand_rep h x
  have hy := operand_rep h y
  split at hr
  · rename_i mt hmt
    obtain ⟨k,e,hu,hko,hlv⟩ := mtyOf_spec hmt
    split at hr
    · rename_i q l z hq hl hz
      obtain ⟨xs,hki,hqd⟩ := key_rep hy hq
      unfold mzero at hz
      rw [hu] at hz
      simp only at hz
      cases hza : zAgg C.P e with
      | true => rw [hza] at hz; simp at hz
      | false =>
        rw [hza] at hz
        simp only [cond_false] at hz
        cases hzp : zeroPV C.P e with
        | none => rw [hzp] at hz; simp at hz
        | some zc =>
          rw [hzp] at hz
          simp only at hz
          obtain ⟨i,zv,hi',hz0,hsz,hrep⟩ := zeroPV_rep hzp
          have hzd := Ty.of_dat (c := c) hz (hrep c).1
          have hzl : zv.cells.toList = [zv] := by
            unfold zAgg at hza
            rw [hi'] at hza
            simp only [hz0] at hza
            cases zv <;> first
              | rfl
              | simp at hza
          rw [hzl] at hzd
          have run : ∀ (es : Array MapEntry),((a.eval x = .map none ∧ es = #[]) ∨ ∃ b clock,a.eval x = .map (some b) ∧ c.w.heap[b]? = some (.map es clock)) → Ents c.w c.ok mt l es.toList →
              ∃ u,Dat c.w c.ok mt.v (mget mt.k mt.v z l q) [u] ∧ (execOp a.eval o).run C.P c.w = .ok (.value (if ok then .tuple #[u,.bool (mhas mt.k mt.v l q)] else u)) c.w := by
            intro es hes hents
            have hck := hko.check hki hqd es.isEmpty c.w
            have hnow := hko.now hki hqd hents c.w
            have res : ∃ u,Dat c.w c.ok mt.v (mget mt.k mt.v z l q) [u] ∧ (do
                Instr.checkKey es.isEmpty 10000 k (a.eval y)
                let (v,f) ← match ← Instr.findKey k (a.eval y) es.toList with
                  | some (_,v) => pure (v,true)
                  | none => pure (← zeroValue e,false)
                pure (if ok then Value.tuple #[v,.bool f] else v) : Sem Value).run C.P c.w = .ok (if ok then .tuple #[u,.bool (mhas mt.k mt.v l q)] else u) c.w := by
              rcases find_ents (P := C.P) hko hki hqd c.w z l es.toList 0 hents with ⟨g1,g2,g3,_⟩ | ⟨j,e',cs',g1,g2,g3,g4,_⟩
              · refine ⟨zv,by rw [g3]; exact hzd,?_⟩
                simp only [Sem.run_bind,hck,Result.andThen_ok,hnow,g1,run_zeroValue hi' hz0,Sem.run_pure,g2]
              · refine ⟨e'.val,g4,?_⟩
                simp only [Sem.run_bind,hck,Result.andThen_ok,hnow,g1,Sem.run_pure,g3]
            obtain ⟨u,hu1,hu2⟩ := res
            refine ⟨u,hu1,?_⟩
            rcases hes with ⟨hv,rfl⟩ | ⟨b,clock,hv,hb⟩
            · simp only [execOp,hop,Instr.lookup,Sem.run_bind,run_underlying_some hu,Result.andThen_ok,hv,Sem.run_pure]
              simp only [Sem.run_bind] at hu2
              exact congrArg (fun z => Result.andThen z fun a w' => Result.ok (Next.value a) w') hu2
            · simp only [execOp,hop,Instr.lookup,Sem.run_bind,run_underlying_some hu,Result.andThen_ok,hv,MapKept.run_getObj_map hb,Sem.run_pure]
              simp only [Sem.run_bind] at hu2
              exact congrArg (fun z => Result.andThen z fun a w' => Result.ok (Next.value a) w') hu2
          have fin : ∃ u,Dat c.w c.ok mt.v (mget mt.k mt.v z l q) [u] ∧ (execOp a.eval o).run C.P c.w = .ok (.value (if ok then .tuple #[u,.bool (mhas mt.k mt.v l q)] else u)) c.w := by
            rcases mapOf_rep h hx hl with ⟨hv,rfl⟩ | ⟨b,es,k,hv,hb,hents⟩
            · exact run #[] (.inl ⟨hv,rfl⟩) rfl
            · exact run es (.inr ⟨b,k,hv,hb⟩) hents
          obtain ⟨u,hu1,hrun⟩ := fin
          exact close_value hrun h hg (lookPV_rep hu1) (lookPV_isGd _ _ _ _) hr hK
    · simp at hr
  · simp at hr
theorem Ents.length {w : World} {ok : Nat → Prop} {m : MTy} : ∀ {l : List (m.k.den×m.v.den)} {es : List MapEntry},Ents w ok m l es → es.length = l.length
  | [],es,h => by
    have : es = [] := h
    subst this; rfl
  | e :: r,_,⟨x,s,cs,h1,_,_,_,h5⟩ => by
    subst h1
    simp [Ents.length h5]
theorem act_len {C : Ctx} (hC : C.P = P) {args : Array Operand} {argTypes : Array TypeId} (hop : o.op = .call { callee := .builtin .len,args,argTypes }) (h : Rep m w0 st a c) (hg : ∀ x,o.dst = some x → NoGd st x) (hr : actOp C o st K = some r)
    (hK : ∀ st' a' c',K st' = some r → Rep m w0 st' a' c' → next a' c'.w) : o.upon P a next Q ((execOp a.eval o).run P c.w) := by
  subst hC
  simp only [actOp,hop] at hr
  split at hr
  · rename_i x t ha ht
    have ha' : args = #[x] := by rw [← Array.toList_inj]; simpa using ha
    have ht' : argTypes = #[t] := by rw [← Array.toList_inj]; simpa using ht
    subst ha'; subst ht'
    unfold lenMap at hr
    split at hr
    · rename_i mt hmt
      obtain ⟨k,e,hu,_,_⟩ := mtyOf_spec hmt
      split at hr
      · rename_i l hl
        obtain ⟨hgt,hr⟩ := cond_some hr
        have hle := of_decide_eq_true hgt
        have hp := typed_rep (P := C.P) (operand_rep h x) t
        have hrun : (execOp a.eval o).run C.P c.w = .ok (.value (.int .i64 l.length)) c.w := by
          rcases mapOf_rep h hp hl with ⟨hv,rfl⟩ | ⟨b,es,clock,hv,hb,hents⟩
          · simp [execOp,hop,resolve,invoke,builtin,Builtin.len_,hv,run_underlying_some hu,goInt]
          · have hlen : es.size = l.length := by simpa using hents.length
            simp [execOp,hop,resolve,invoke,builtin,Builtin.len_,hv,run_underlying_some hu,goInt,MapKept.run_getObj_map hb,hlen]
        refine close_value hrun h hg ?_ rfl hr hK
        refine RepV.int_ ?_
        simp [Lit.wf,IntKind.min,IntKind.max,IntKind.signed,IntKind.bits]; omega
      · simp at hr
    · simp at hr
  · simp at hr
theorem act_makeMap {C : Ctx} (hC : C.P = P) {t : TypeId} (hop : o.op = .makeMap t none) (h : Rep m w0 st a c) (hg : ∀ x,o.dst = some x → NoGd st x) (hr : actOp C o st K = some r)
    (hK : ∀ st' a' c',K st' = some r → Rep m w0 st' a' c' → next a' c'.w) : o.upon P a next Q ((execOp a.eval o).run P c.w) := by
  subst hC
  cases hpm : pmOf C.P t with
  | true => exact act_pmMake rfl hop h hg (by simpa only [actOp,hop,hpm,cond_true] using hr) hK
  | false =>
  simp only [actOp,hop,hpm,cond_false,makeMapOp] at hr
  split at hr
  · rename_i mt d hmt hd
    split at hr
    · rename_i st1 hn
      obtain ⟨g1,g2,g3,g4,g5,g6⟩ := new_spec hn
      let w1 : World := { c.w with heap := c.w.heap.push (.map #[] 0) }
      have hheap : ∀ i,w1.heap[i]? = if i = c.w.heap.size then some (.map #[] 0) else c.w.heap[i]? := fun i => by simp only [w1,Array.getElem?_push]
      have hold : ∀ b,c.za b ∨ (∃ k',Owns c k' ∧ c.ρ k' = b) → w1.heap[b]? = c.w.heap[b]? := by
        intro b hb
        have : b < c.w.heap.size := by
          rcases hb with hb | ⟨k',hk',rfl⟩
          · exact h.zlt hb
          · exact (h.mine k' hk').2.2
        rw [hheap,if_neg (by omega)]
      have hrep := h.newObj hn (w1 := w1) c.w.heap.size undef (h.kept.push _) (by simp [w1]) hold (by
        refine ⟨#[],0,?_,rfl,by simp [Born]⟩
        simp only [if_true]
        rw [hheap,if_pos rfl]) (fun _ => ⟨fun hb => by have := h.zlt hb; omega,.inl h.kept.size,by simp [w1],fun k' hk' he => by have := (h.mine k' hk').2.2; omega⟩)
      have hrun : (execOp a.eval o).run C.P c.w = .ok (.value (.map (some c.w.heap.size))) w1 := by
        simp only [execOp,hop,Option.map_none,Instr.makeMap,Sem.run_bind,run_newObj,Result.andThen_ok,Sem.run_pure]
        rfl
      refine close_value (c1 := { w := w1,ok := c.ok,ρ := fun i => if i = 4096 * d then c.w.heap.size else c.ρ i,σ := fun i => if i = 4096 * d then undef else c.σ i,pin := c.pin,a := c.a,q := c.q,ob := st1.obj }) hrun hrep (fun x hx => (hg x hx).of g1) ?_ rfl (by rw [hd]; exact hr) hK
      simp [RepV]
    · simp at hr
  · simp at hr
theorem act_range {C : Ctx} (hC : C.P = P) {t : TypeId} {x : Operand} (hop : o.op = .range t x) (h : Rep m w0 st a c) (hg : ∀ x,o.dst = some x → NoGd st x) (hr : actOp C o st K = some r)
    (hK : ∀ st' a' c',K st' = some r → Rep m w0 st' a' c' → next a' c'.w) : o.upon P a next Q ((execOp a.eval o).run P c.w) := by
  subst hC
  simp only [actOp,hop,rangeOp] at hr
  have hp := typed_rep (P := C.P) (operand_rep h x) t
  split at hr
  · rename_i mt m' l d hmt hpe hd
    obtain ⟨k,e,hu,_,_⟩ := mtyOf_spec hmt
    rw [hpe] at hp
    split at hr
    · rename_i hm
      subst hm
      simp only [RepV] at hp
      obtain ⟨A,hv,hmi⟩ := hp
      split at hr
      · rename_i st1 hn
        obtain ⟨g1,g2,g3,g4,g5,g6⟩ := new_spec hn
        have fin : ∀ (bo : Option Nat) (since last : Nat),IterI c.w c.ok m' bo since #[] last l none → (execOp a.eval o).run C.P c.w = .ok (.value (.pointer (some ⟨c.w.heap.size,0,none⟩))) { c.w with heap := c.w.heap.push (.mapIter bo since #[] last) } →
            o.upon C.P a next Q ((execOp a.eval o).run C.P c.w) := by
          intro bo since last hI hrun
          let w1 : World := { c.w with heap := c.w.heap.push (.mapIter bo since #[] last) }
          have hheap : ∀ i,w1.heap[i]? = if i = c.w.heap.size then some (.mapIter bo since #[] last) else c.w.heap[i]? := fun i => by simp only [w1,Array.getElem?_push]
          have hold : ∀ b,c.za b ∨ (∃ k',Owns c k' ∧ c.ρ k' = b) → w1.heap[b]? = c.w.heap[b]? := by
            intro b hb
            have : b < c.w.heap.size := by
              rcases hb with hb | ⟨k',hk',rfl⟩
              · exact h.zlt hb
              · exact (h.mine k' hk').2.2
            rw [hheap,if_neg (by omega)]
          have hrep := h.newObj hn (w1 := w1) c.w.heap.size undef (h.kept.push _) (by simp [w1]) hold (by
            refine ⟨bo,since,#[],last,?_,hI.move (fun b hb => hold b (.inl (.inl (.inl hb)))) (fun _ hb => hb)⟩
            simp only [if_true]
            rw [hheap,if_pos rfl]) (fun _ => ⟨fun hb => by have := h.zlt hb; omega,.inl h.kept.size,by simp [w1],fun k' hk' he => by have := (h.mine k' hk').2.2; omega⟩)
          refine close_value (c1 := { w := w1,ok := c.ok,ρ := fun i => if i = 4096 * d then c.w.heap.size else c.ρ i,σ := fun i => if i = 4096 * d then undef else c.σ i,pin := c.pin,a := c.a,q := c.q,ob := st1.obj }) hrun hrep (fun x hx => (hg x hx).of g1) ?_ rfl (by rw [hd]; exact hr) hK
          simp [RepV]
        rcases hmi with ⟨rfl,hl⟩ | ⟨b,es,clock,rfl,hok,hb,hents,hborn⟩
        · refine fin none 0 0 (.inl ⟨rfl,hl,rfl⟩) ?_
          simp only [execOp,hop,Instr.range,Sem.run_bind,run_underlying_some hu,Result.andThen_ok,hv,Sem.run_pure,run_newObj]
        · refine fin (some b) clock clock (.inr ⟨b,es,rfl,hok,hb,hborn,rfl,?_,fun x y hc => by simp at hc⟩) ?_
          · have : es.filter (fun e => !(#[] : Array Nat).contains e.born) = es := Array.filter_eq_self.2 (fun e he => by simp)
            rw [this]; exact hents
          · simp only [execOp,hop,Instr.range,Sem.run_bind,run_underlying_some hu,Result.andThen_ok,hv,MapKept.run_getObj_map hb,Sem.run_pure,run_newObj]
      · simp at hr
    · simp at hr
  · rename_i mt k d hmt hpe hd
    obtain ⟨kt,e,hu,_,_⟩ := mtyOf_spec hmt
    rw [hpe] at hp
    simp only [RepV] at hp
    split at hr
    · rename_i m' l ho
      split at hr
      · rename_i hm
        subst hm
        split at hr
        · rename_i st1 hn
          have hob : c.ob k = some (.mp m' l) := by rw [h.ob]; exact ho
          obtain ⟨es,clock,q1,q2⟩ := h.objs k _ hob
          have hown : Owns c k := ⟨_,hob,trivial⟩
          let ok1 : Nat → Prop := fun b => c.ok b ∨ (Owns c k ∧ b = c.ρ k)
          let c1 : Cx := { w := c.w,ok := ok1,ρ := c.ρ,σ := c.σ,pin := c.pin,a := c.a,q := c.q,ob := (st.setO k .gone).obj }
          have r1 : Rep m w0 (st.del k) a c1 := by
            refine h.setObj (o := .mp m' l) (o' := .gone) ho ok1 h.kept (Nat.le_refl _) (fun _ _ => rfl) (fun b hb => .inl hb) (fun b hb => ?_) (by simp [RowAt]) trivial (fun hw => by simp [OwnsO] at hw) (hum := fun b hb => hb.imp_right fun ⟨h1,h2⟩ => h2 ▸ h.ownUnm h1)
            rcases hb with hb | ⟨hb,rfl⟩
            · exact ⟨h.ok b hb,fun k' _ hk' he => (h.mine k' hk').1 (he ▸ hb)⟩
            · exact ⟨(h.mine k hb).2.2,fun k' hne hk' he => hne (h.apart k' k hk' hb he)⟩
          obtain ⟨g1,g2,g3,g4,g5,g6⟩ := new_spec hn
          have hI : IterI c1.w c1.ok m' (some (c.ρ k)) clock #[] clock l none := by
            refine .inr ⟨c.ρ k,es,rfl,.inr ⟨hown,rfl⟩,q1,q2.2,rfl,?_,fun x y hc => by simp at hc⟩
            have : es.filter (fun e => !(#[] : Array Nat).contains e.born) = es := Array.filter_eq_self.2 (fun e he => by simp)
            rw [this]; exact q2.1.move (fun _ _ => rfl) (fun b hb => .inl hb)
          let w1 : World := { c1.w with heap := c1.w.heap.push (.mapIter (some (c.ρ k)) clock #[] clock) }
          have hheap : ∀ i,w1.heap[i]? = if i = c1.w.heap.size then some (.mapIter (some (c.ρ k)) clock #[] clock) else c1.w.heap[i]? := fun i => by simp only [w1,Array.getElem?_push]
          have hold : ∀ b,c1.za b ∨ (∃ k',Owns c1 k' ∧ c1.ρ k' = b) → w1.heap[b]? = c1.w.heap[b]? := by
            intro b hb
            have : b < c1.w.heap.size := by
              rcases hb with hb | ⟨k',hk',rfl⟩
              · exact r1.zlt hb
              · exact (r1.mine k' hk').2.2
            rw [hheap,if_neg (by omega)]
          have hrep := r1.newObj hn (w1 := w1) c1.w.heap.size undef (r1.kept.push _) (by simp [w1]) hold (by
            refine ⟨some (c.ρ k),clock,#[],clock,?_,hI.move (fun b hb => hold b (.inl (.inl (.inl hb)))) (fun _ hb => hb)⟩
            simp only [if_true]
            rw [hheap,if_pos rfl]) (fun _ => ⟨fun hb => by have := r1.zlt hb; omega,.inl r1.kept.size,by simp [w1],fun k' hk' he => by have := (r1.mine k' hk').2.2; omega⟩)
          have hrun : (execOp a.eval o).run C.P c.w = .ok (.value (.pointer (some ⟨c.w.heap.size,0,none⟩))) w1 := by
            simp only [execOp,hop,Instr.range,Sem.run_bind,run_underlying_some hu,Result.andThen_ok,hp,MapKept.run_getObj_map q1,Sem.run_pure,run_newObj]
            rfl
          refine close_value (c1 := { w := w1,ok := c1.ok,ρ := fun i => if i = 4096 * d then c1.w.heap.size else c1.ρ i,σ := fun i => if i = 4096 * d then undef else c1.σ i,pin := c1.pin,a := c1.a,q := c1.q,ob := st1.obj }) hrun hrep (fun x hx => (hg x hx).of (g1.trans rfl)) ?_ rfl (by rw [hd]; exact hr) hK
          simp [RepV]
          rfl
        · simp at hr
      · simp at hr
    · simp at hr
  · simp at hr
theorem valPV_rep {c : Cx} {m : MTy} {y : m.v.den} {u : Value} (h : Dat c.w c.ok m.v y [u]) : RepV c (m.valPV y) u := by
  unfold MTy.valPV
  have hl := Dat.leaves (c := c) h
  split
  · rename_i p hp
    rw [hp] at hl
    simp only [RepL,List.cons.injEq] at hl
    obtain ⟨v,r',⟨e1,_⟩,h2,_⟩ := hl
    rw [e1]; exact h2
  · simp [RepV]
theorem keyPV_rep {c : Cx} {m : MTy} {x : m.k.den} {u : Value} {cs : List Value} (hk : KeyIs m.s u cs) (h : Dat c.w c.ok m.k x cs) : RepV c (m.keyPV x) u := by
  unfold MTy.keyPV
  have hl := Dat.leaves (c := c) h
  split
  · rename_i hs
    rw [hs] at hk
    simp only [KeyIs] at hk
    subst hk
    split
    · rename_i p hp
      rw [hp] at hl
      simp only [RepL,List.cons.injEq] at hl
      obtain ⟨v,r',⟨e1,_⟩,h2,_⟩ := hl
      rw [e1]; exact h2
    · simp [RepV]
  · rename_i hs
    rw [hs] at hk
    obtain ⟨a,rfl,rfl⟩ := hk
    simp only [RepV]
    exact ⟨a,rfl,hl⟩
theorem act_entry {C : Ctx} (hC : C.P = P) {x : Operand} (hop : o.op = .entry x) (h : Rep m w0 st a c) (hg : ∀ x,o.dst = some x → NoGd st x) (hr : actOp C o st K = some r)
    (hK : ∀ st' a' c',K st' = some r → Rep m w0 st' a' c' → next a' c'.w) : o.upon P a next Q ((execOp a.eval o).run P c.w) := by
  subst hC
  simp only [actOp,hop,entryOp] at hr
  have hx := operand_rep h x
  split at hr
  · rename_i k hxe
    rw [hxe] at hx
    simp only [RepV] at hx
    split at hr
    · rename_i mt left e ho
      obtain ⟨bo,since,seen,last,g1,g2⟩ := h.objs k _ (by rw [h.ob]; exact ho)
      rcases g2 with ⟨_,_,hc⟩ | ⟨b,es,rfl,hok,hb,hborn,hs,hents,hcur⟩
      · simp at hc
      · obtain ⟨en,hen,seen',hse,cs,k1,k2,k3⟩ := hcur e.1 e.2 rfl
        rw [hse] at g1
        have hrun : (execOp a.eval o).run C.P c.w = .ok (.value (.tuple #[en.key,en.val])) c.w := by
          simp only [execOp,hop,Sem.run_bind,hx,run_entry_at c.w (c.ρ k) b since seen' es last en g1 hb hen hborn.1,Result.andThen_ok,Sem.run_pure]
        refine close_value hrun h hg ?_ rfl hr hK
        simp only [RepV]
        refine ⟨_,rfl,?_⟩
        simp only [RepL]
        exact ⟨en.key,[en.val],rfl,keyPV_rep k1 k2,en.val,[],rfl,valPV_rep k3,rfl⟩
    · simp at hr
  · simp at hr
theorem anyOf_some {α R : Type} {l : List α} {f : α → List α → Option R} {r : R} (h : anyOf l f = some r) : l ≠ [] ∧ ∀ i x,l[i]? = some x → f x (l.eraseIdx i) = some r := by
  unfold anyOf at h
  split at h
  · rename_i hh
    rw [← Option.some.inj h]
    exact hh.choose_spec
  · simp at h
theorem erase_born : ∀ (L : List MapEntry) (i : Nat) (e : MapEntry),(L.map (·.born)).Nodup → L[i]? = some e → L.filter (fun x => x.born != e.born) = L.eraseIdx i
  | [],i,e,_,h => by simp at h
  | x :: r,0,e,hn,h => by
    simp only [List.getElem?_cons_zero,Option.some.injEq] at h
    subst h
    simp only [List.map_cons,List.nodup_cons] at hn
    simp only [List.eraseIdx_zero,List.tail_cons,List.filter_cons,bne_self_eq_false,Bool.false_eq_true,if_false]
    rw [List.filter_eq_self]
    intro y hy
    rw [bne_iff_ne]
    intro he
    exact hn.1 (List.mem_map.2 ⟨y,hy,he⟩)
  | x :: r,i + 1,e,hn,h => by
    simp only [List.getElem?_cons_succ] at h
    simp only [List.map_cons,List.nodup_cons] at hn
    have hx : (x.born != e.born) = true := by
      rw [bne_iff_ne]
      intro he
      exact hn.1 (List.mem_map.2 ⟨e,List.mem_of_getElem? h,he.symm⟩)
    simp only [List.eraseIdx_cons_succ,List.filter_cons,hx,if_true]
    rw [erase_born r i e hn.2 h]
theorem left_push {es : Array MapEntry} {seen : Array Nat} {i : Nat} {e : MapEntry} (hn : (es.toList.map (·.born)).Nodup) (h : (es.filter fun e => !seen.contains e.born).toList[i]? = some e) :
    (es.filter fun x => !(seen.push e.born).contains x.born).toList = (es.filter fun e => !seen.contains e.born).toList.eraseIdx i := by
  rw [Array.toList_filter] at h ⊢
  rw [Array.toList_filter,← erase_born _ i e ((List.filter_sublist.map _).nodup hn) h,List.filter_filter]
  congr 1
  funext x
  rw [Array.contains_push]
  cases seen.contains x.born <;> simp [bne,Bool.beq_comm]
theorem Ents.get {w : World} {ok : Nat → Prop} {m : MTy} : ∀ {l : List (m.k.den×m.v.den)} {es : List MapEntry} {i : Nat} {x : MapEntry},Ents w ok m l es → es[i]? = some x →
    ∃ e,l[i]? = some e ∧ (∃ cs,KeyIs m.s x.key cs ∧ Dat w ok m.k e.1 cs ∧ Dat w ok m.v e.2 [x.val]) ∧ Ents w ok m (l.eraseIdx i) (es.eraseIdx i)
  | [],es,i,x,h,hx => by
    have : es = [] := h
    subst this
    simp at hx
  | e :: r,_,0,x,⟨y,s,cs,h1,h2,h3,h4,h5⟩,hx => by
    subst h1
    simp only [List.getElem?_cons_zero,Option.some.injEq] at hx
    subst hx
    exact ⟨e,rfl,⟨cs,h2,h3,h4⟩,h5⟩
  | e :: r,_,i + 1,x,⟨y,s,cs,h1,h2,h3,h4,h5⟩,hx => by
    subst h1
    simp only [List.getElem?_cons_succ] at hx
    obtain ⟨e',g1,g2,g3⟩ := Ents.get h5 hx
    exact ⟨e',g1,g2,y,s.eraseIdx i,cs,rfl,h2,h3,h4,g3⟩
theorem act_next {C : Ctx} (hC : C.P = P) {x : Operand} (hop : o.op = .next x false) (h : Rep m w0 st a c) (hg : ∀ x,o.dst = some x → NoGd st x) (hr : actOp C o st K = some r)
    (hK : ∀ st' a' c',K st' = some r → Rep m w0 st' a' c' → next a' c'.w) : o.upon P a next Q ((execOp a.eval o).run P c.w) := by
  subst hC
  simp only [actOp,hop,nextOp] at hr
  have hx := operand_rep h x
  split at hr
  · rename_i k hxe
    rw [hxe] at hx
    simp only [RepV] at hx
    split at hr
    · rename_i mt left cur ho
      obtain ⟨bo,since,seen,last,g1,g2⟩ := h.objs k _ (by rw [h.ob]; exact ho)
      have over : (execOp a.eval o).run C.P c.w = .ok (.value (.tuple #[.bool false])) c.w → left = [] → o.upon C.P a next Q ((execOp a.eval o).run C.P c.w) := by
        intro hrun hl
        subst hl
        simp only [List.isEmpty_nil,cond_true] at hr
        refine close_value hrun h hg ?_ rfl hr hK
        simp only [RepV]
        exact ⟨_,rfl,by simp [RepL,RepV]⟩
      rcases g2 with ⟨rfl,hl,_⟩ | ⟨b,es,rfl,hok,hb,hborn,hs,hents,hcur⟩
      · refine over ?_ hl
        simp only [execOp,hop,hx,Instr.next,getObj,Sem.run_bind,Sem.run,g1,Result.andThen]
        rfl
      · subst hs
        rcases run_next_at (P := C.P) c.w o.type (c.ρ k) b since since seen es since g1 hb hborn.2 (Nat.le_refl _) with ⟨hz,hrun⟩ | ⟨e,he,w1,hw1,hrun⟩
        · refine over ?_ ?_
          · simp only [execOp,hop,Sem.run_bind,hx,hrun,Result.andThen_ok,Sem.run_pure]
          · unfold leftOf at hz
            have := hents.length
            rw [Array.length_toList,hz] at this
            exact List.eq_nil_of_length_eq_zero this.symm
        · unfold leftOf at he
          obtain ⟨i,hi⟩ := List.getElem?_of_mem he
          obtain ⟨en,q1,⟨cs,q2,q3,q4⟩,q5⟩ := hents.get hi
          rw [← left_push hborn.1 hi] at q5
          have hne : left.isEmpty = false := by
            cases left with
            | nil => simp at q1
            | cons _ _ => rfl
          rw [hne] at hr
          simp only [cond_false] at hr
          have hr2 := (anyOf_some hr).2 i en q1
          have hob : c.ob k = some (.iter mt left cur) := by rw [h.ob]; exact ho
          have hown : Owns c k := ⟨_,hob,trivial⟩
          have hmine := h.mine k hown
          have hhp : w1.heap = c.w.heap := by rcases hw1 with rfl | rfl <;> rfl
          have hall : ∀ i,i ≠ c.ρ k → (ChangeMaps.setBlock w1 (c.ρ k) (.mapIter (some b) since (seen.push e.born) since)).heap[i]? = c.w.heap[i]? := by
            intro i hi
            simp only [ChangeMaps.setBlock,hhp]
            rw [Array.getElem?_setIfInBounds_ne (by omega)]
          have hthe : (ChangeMaps.setBlock w1 (c.ρ k) (.mapIter (some b) since (seen.push e.born) since)).heap[c.ρ k]? = some (.mapIter (some b) since (seen.push e.born) since) := by
            simp only [ChangeMaps.setBlock,hhp]
            rw [Array.getElem?_setIfInBounds_self_of_lt hmine.2.2]
          have hsz : (ChangeMaps.setBlock w1 (c.ρ k) (.mapIter (some b) since (seen.push e.born) since)).heap.size = c.w.heap.size := by simp [ChangeMaps.setBlock,hhp]
          have hrun2 : (execOp a.eval o).run C.P c.w = .ok (.value (.tuple #[.bool true,e.key,e.val])) (ChangeMaps.setBlock w1 (c.ρ k) (.mapIter (some b) since (seen.push e.born) since)) := by
            simp only [execOp,hop,Sem.run_bind,hx,hrun,Result.andThen_ok,Sem.run_pure]
          have hee : e ∈ es.toList := by
            rw [Array.toList_filter] at he
            exact (List.mem_filter.1 he).1
          have hkeep : ∀ b',c.ok b' → (ChangeMaps.setBlock w1 (c.ρ k) (.mapIter (some b) since (seen.push e.born) since)).heap[b']? = c.w.heap[b']? := fun b' hb' => hall b' (by rintro rfl; exact hmine.1 hb')
          have hrep := h.setObj (w1 := ChangeMaps.setBlock w1 (c.ρ k) (.mapIter (some b) since (seen.push e.born) since)) (o := .iter mt left cur) (o' := .iter mt (left.eraseIdx i) (some en)) ho c.ok
            (h.kept.one (by rcases hw1 with rfl | rfl <;> rfl) (by rcases hw1 with rfl | rfl <;> rfl) (by rcases hw1 with rfl | rfl <;> rfl) (by rw [hsz]; exact Nat.le_refl _) (c.ρ k) hmine.2.1 (fun i _ hi => hall i hi)) (by rw [hsz]; exact Nat.le_refl _)
            ?_ ?_ ?_ ?_ ?_ ?_ ?_
          · refine close_value hrun2 hrep (fun x hx => hg x hx) ?_ rfl hr2 hK
            simp only [RepV]
            refine ⟨_,rfl,?_⟩
            simp only [RepL]
            exact ⟨.bool true,[e.key,e.val],rfl,by simp [RepV],e.key,[e.val],rfl,by simp [RepV],e.val,[],rfl,by simp [RepV],rfl⟩
          · rintro b' (hb' | ⟨k',hk',hw',rfl⟩)
            · exact hall b' (by rintro rfl; exact h.mineZ hown hb')
            · exact hall _ (fun he => hk' (h.apart k' k hw' hown he))
          · exact fun _ hb => hb
          · exact fun b hb => ⟨by rw [hsz]; exact h.ok b hb,fun k' _ hw' he => (h.mine k' hw').1 (he ▸ hb)⟩
          · simp [RowAt]
          · refine ⟨some b,since,seen.push e.born,since,hthe,.inr ⟨b,es,rfl,hok,by rw [hkeep b hok]; exact hb,hborn,rfl,q5.move hkeep (fun _ hb => hb),fun x y hc => ?_⟩⟩
            simp only [Option.some.injEq] at hc
            subst hc
            exact ⟨e,hee,seen,rfl,cs,q2,q3.move hkeep (fun _ hb => hb),q4.move hkeep (fun _ hb => hb)⟩
          · exact fun _ => ⟨trivial,hmine.1⟩
          · exact fun _ hb => .inl hb
    · simp at hr
  · simp at hr
theorem act_mapUpdate {C : Ctx} (hC : C.P = P) {t : TypeId} {x y z : Operand} (hop : o.op = .mapUpdate t x y z) (h : Rep m w0 st a c) (hg : ∀ x,o.dst = some x → NoGd st x) (hr : actOp C o st K = some r)
    (hK : ∀ st' a' c',K st' = some r → Rep m w0 st' a' c' → next a' c'.w) : o.upon P a next Q ((execOp a.eval o).run P c.w) := by
  subst hC
  simp only [actOp,hop,mapUpdateOp] at hr
  have hx := operand_rep h x
  have hy := operand_rep h y
  have hz := operand_rep h z
  split at hr
  · rename_i mt n hmt hxi
    obtain ⟨k,e,hu,hko,hlv⟩ := mtyOf_spec hmt
    rw [hxi] at hx
    simp only [RepV] at hx
    split at hr
    · rename_i mt' l q yv ho hq hv
      split at hr
      · rename_i hm
        subst hm
        obtain ⟨xs,hki,hqd⟩ := key_rep hy hq
        have hvd : Dat c.w c.ok mt'.v yv [a.eval z] := Ty.of_dat (c := c) hv (by simp only [RepL]; exact ⟨_,[],rfl,hz,rfl⟩)
        have hob : c.ob n = some (.mp mt' l) := by rw [h.ob]; exact ho
        obtain ⟨es,clock,q1,q2,qb⟩ := h.objs n _ hob
        have hown : Owns c n := ⟨_,hob,trivial⟩
        have hmine := h.mine n hown
        have hck := hko.check hki hqd false c.w
        have hnow := hko.now hki hqd q2 c.w
        have zz : ∃ z0 : mt'.v.den,True := ⟨yv,trivial⟩
        have fin : ∀ es' clock',Ents c.w c.ok mt' (mput mt'.k mt'.v l q yv) es'.toList → Born es'.toList clock' → (execOp a.eval o).run C.P c.w = .ok .skip { c.w with heap := c.w.heap.setIfInBounds (c.ρ n) (.map es' clock') } →
            o.upon C.P a next Q ((execOp a.eval o).run C.P c.w) := by
          intro es' clock' hents hborn hrun
          let w1 : World := { c.w with heap := c.w.heap.setIfInBounds (c.ρ n) (.map es' clock') }
          obtain ⟨s1,s2⟩ := MapKept.heap_set (w := c.w) (r := c.ρ n) (o' := .map es' clock') q1
          have hsz : w1.heap.size = c.w.heap.size := by simp [w1]
          have hrep := h.setObj (w1 := w1) (o := .mp mt' l) (o' := .mp mt' (mput mt'.k mt'.v l q yv)) ho c.ok (h.kept.one rfl rfl rfl (by rw [hsz]; exact Nat.le_refl _) (c.ρ n) hmine.2.1 (fun i _ hi => s2 i hi)) (by rw [hsz]; exact Nat.le_refl _)
            ?_ ?_ ?_ ?_ ?_ ?_ ?_
          · refine close_skip hrun hrep (fun x hx => hg x hx) hr hK
          · rintro b (hb | ⟨k',hk',hw',rfl⟩)
            · exact s2 b (by rintro rfl; exact h.mineZ hown hb)
            · exact s2 _ (fun he => hk' (h.apart k' n hw' hown he))
          · exact fun _ hb => hb
          · exact fun b hb => ⟨by rw [hsz]; exact h.ok b hb,fun k' _ hw' he => (h.mine k' hw').1 (he ▸ hb)⟩
          · simp [RowAt]
          · exact ⟨es',clock',s1,hents.move (fun b hb => s2 b (by rintro rfl; exact hmine.1 hb)) (fun _ hb => hb),hborn⟩
          · exact fun _ => ⟨trivial,hmine.1⟩
          · exact fun _ hb => .inl hb
        rcases find_ents (P := C.P) hko hki hqd c.w yv l es.toList 0 q2 with ⟨g1,g2,g3,g4⟩ | ⟨j,e',cs',g1,g2,g3,g4,g5,g6,g7⟩
        · refine fin (es.push { key := a.eval y,val := a.eval z,born := clock }) (clock + 1) ?_ ?_ ?_
          · rw [g4,Array.toList_push]
            exact q2.snoc hki hqd hvd
          · rw [Array.toList_push]
            exact qb.push
          · simp only [execOp,hop,Instr.mapUpdate,Sem.run_bind,run_underlying_some hu,Result.andThen_ok,hx,MapKept.run_getObj_map q1,hck,hnow,g1,MapKept.run_setObj_map _ q1,Sem.run_pure]
        · have hcs : cs' = xs := Dat.inj hko.flat g6 hqd
          subst hcs
          have hkey : e'.key = a.eval y := g5.inj hki
          have hbits := hki.bits hko.flat hqd
          have hja : es[j]? = some e' := by simpa using g2
          have hset : (es.modify j fun e => { e with key := a.eval y,val := a.eval z }).toList = es.toList.set j { key := a.eval y,val := a.eval z,born := e'.born } := by
            rw [Array.toList_modify]
            apply List.ext_getElem?
            intro i
            rw [List.getElem?_modify,List.getElem?_set]
            by_cases hij : j = i
            · subst hij
              have hlt := (List.getElem?_eq_some_iff.1 g2).1
              simp only [if_true,g2,hlt,Option.map_some,Option.map_eq_map]
            · simp [hij]
          refine fin (es.modify j fun e => { e with key := a.eval y,val := a.eval z }) clock ?_ ?_ ?_
          · rw [hset]
            exact g7 _ _ _ hvd
          · rw [hset]
            exact qb.set g2
          · simp only [execOp,hop,Instr.mapUpdate,Sem.run_bind,run_underlying_some hu,Result.andThen_ok,hx,MapKept.run_getObj_map q1,hck,hnow,g1,Nat.zero_add,hja,Option.map_some,Option.getD_some,hkey,Instr.keyThatStays,hbits,if_true,MapKept.run_setObj_map _ q1,Sem.run_pure]
      · simp at hr
    · simp at hr
  · simp at hr
theorem act_insert {C : Ctx} (hC : C.P = P) {t : TypeId} {x y z : Operand} (hop : o.op = .insert t x y z) (h : Rep m w0 st a c) (hg : ∀ x,o.dst = some x → NoGd st x) (hr : actOp C o st K = some r)
    (hK : ∀ st' a' c',K st' = some r → Rep m w0 st' a' c' → next a' c'.w) : o.upon P a next Q ((execOp a.eval o).run P c.w) := by
  have h1 : execOp a.eval o = execOp a.eval { o with op := .mapUpdate t x y z } := by simp only [execOp,hop]
  cases hpm : pmOf C.P t with
  | true => exact act_pmPut hC hop (by rw [← hC]; exact hpm) h hg (by simpa only [actOp,hop,hpm,cond_true] using hr) hK
  | false =>
  have h2 : actOp C o st K = actOp C { o with op := .mapUpdate t x y z } st K := by simp only [actOp,hop,hpm,cond_false]
  rw [h1]
  rw [h2] at hr
  exact act_mapUpdate (o := { o with op := .mapUpdate t x y z }) hC rfl h hg hr hK
end
end Go.Fw
