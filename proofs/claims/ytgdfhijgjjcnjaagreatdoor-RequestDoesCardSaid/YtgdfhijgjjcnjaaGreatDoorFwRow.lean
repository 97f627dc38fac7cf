/- A law's arguments,of whatever plain types,told as plain values. -/
import Derived.Test.YtgdfhijgjjcnjaaGreatDoorFwOpen
import Derived.ChangeOld
import Derived.ChangeArms
import Derived.ChangeShapes
import Derived.WideShapes
import Derived.Carry
import Derived.OpenShut
set_option linter.unusedVariables false
set_option linter.unusedSimpArgs false
namespace Go.Fw
open Go.RowKit (Below)
open Go.ChangeShapes Go.WideShapes

def Good : (t : Ty) → t.den → Prop
  | .int k,n => (Lit.int k n).wf = true
  | .bool,_ => True
  | .str,s => (∀ n ∈ s,0 ≤ n ∧ n < 256) ∧ s.length ≤ 9223372036854775807
  | .unit,_ => True
  | .pair a b,x => Good a x.1 ∧ Good b x.2
  | .slice _ t,l => l.length ≤ 9223372036854775807 ∧ ∀ x ∈ (l : List t.den),Good t x
theorem Dat.good {w : World} {ok : Nat → Prop} : ∀ {t : Ty} {x : t.den} {cs : List Value},Dat w ok t x cs → Good t x
  | .int _,_,_,h => h.2
  | .bool,_,_,h => trivial
  | .str,_,_,⟨b,_,h,hs⟩ => by
    subst h
    refine ⟨fun n hn => ?_,by simpa [bytesOf] using hs⟩
    simp only [bytesOf,List.mem_map] at hn
    obtain ⟨c,_,rfl⟩ := hn
    have := c.toNat_lt
    omega
  | .unit,_,_,h => trivial
  | .pair _ _,_,_,⟨_,_,_,h1,h2⟩ => ⟨h1.good,h2.good⟩
  | .slice _ t,l,_,⟨A,n,h,hl,hn,hr⟩ => by
    refine ⟨by omega,fun x hx => ?_⟩
    obtain ⟨j,hj⟩ := List.getElem?_of_mem hx
    have h0 : 0 < l.length := by have := (List.getElem?_eq_some_iff.1 hj).1; omega
    obtain ⟨b,off,_,_,hc⟩ := hr h0
    obtain ⟨c,hd,_⟩ := hc j x hj
    exact hd.good

def LD (w : World) (ok : Nat → Prop) : List Lf → List Value → Prop
  | [],cs => cs = []
  | .data t :: r,cs => ∃ c cs',cs = c :: cs' ∧ (∃ d,Dat w ok t d [c]) ∧ LD w ok r cs'
  | _ :: _,_ => True
def dataL : List Lf → Bool
  | [] => true
  | .data _ :: r => dataL r
  | _ :: _ => false
theorem dataL_append : ∀ {a b : List Lf},dataL (a ++ b) = true → dataL a = true ∧ dataL b = true
  | [],b,h => ⟨rfl,h⟩
  | .data t :: a,b,h => dataL_append (a := a) h
  | .ptr :: a,b,h => by simp [dataL] at h
  | .fn :: a,b,h => by simp [dataL] at h
  | .err :: a,b,h => by simp [dataL] at h
theorem LD.append {w : World} {ok : Nat → Prop} : ∀ {a b : List Lf} {c1 c2 : List Value},dataL a = true → LD w ok a c1 → LD w ok b c2 → LD w ok (a ++ b) (c1 ++ c2)
  | [],b,c1,c2,_,h1,h2 => by
    have : c1 = [] := h1
    subst this; exact h2
  | .data t :: a,b,c1,c2,hd,⟨c,cs',hc,hx,h1⟩,h2 => by subst hc; exact ⟨c,cs' ++ c2,rfl,hx,LD.append (a := a) hd h1 h2⟩
  | .ptr :: a,_,_,_,hd,_,_ => by simp [dataL] at hd
  | .fn :: a,_,_,_,hd,_,_ => by simp [dataL] at hd
  | .err :: a,_,_,_,hd,_,_ => by simp [dataL] at hd
theorem tyOfLeaves_data : ∀ {ls : List Lf} {ty : Ty},tyOfLeaves ls = some ty → dataL ls = true
  | [],_,_ => rfl
  | [.data t],_,_ => rfl
  | .data t :: a :: r,ty,h => by
    simp only [tyOfLeaves,Option.map_eq_some_iff] at h
    obtain ⟨x,hx,_⟩ := h
    exact tyOfLeaves_data (ls := a :: r) hx
  | .ptr :: _,_,h => by simp [tyOfLeaves] at h
  | .fn :: _,_,h => by simp [tyOfLeaves] at h
  | .err :: _,_,h => by simp [tyOfLeaves] at h
theorem LD.dat {w : World} {ok : Nat → Prop} : ∀ {ls : List Lf} {ty : Ty} {cs : List Value},tyOfLeaves ls = some ty → LD w ok ls cs → ∃ d : ty.den,Dat w ok ty d cs
  | [],ty,cs,h,hl => by
    simp only [tyOfLeaves,Option.some.injEq] at h
    subst h
    exact ⟨(),hl⟩
  | [.data t],ty,cs,h,hl => by
    simp only [tyOfLeaves,Option.some.injEq] at h
    subst h
    obtain ⟨c,cs',rfl,⟨d,hd⟩,hr⟩ := hl
    have : cs' = [] := hr
    subst this
    exact ⟨d,hd⟩
  | .data t :: a :: r,ty,cs,h,hl => by
    simp only [tyOfLeaves,Option.map_eq_some_iff] at h
    obtain ⟨x,hx,rfl⟩ := h
    obtain ⟨c,cs',rfl,⟨d,hd⟩,hr⟩ := hl
    obtain ⟨y,hy⟩ := LD.dat (ls := a :: r) hx hr
    exact ⟨(d,y),[c],cs',rfl,hd,hy⟩
  | .ptr :: _,_,_,h,_ => by simp [tyOfLeaves] at h
  | .fn :: _,_,_,h,_ => by simp [tyOfLeaves] at h
  | .err :: _,_,_,h,_ => by simp [tyOfLeaves] at h

def fitFields (P : Program) (f : TypeId → Bool) : Nat → List Field → Nat → Bool
  | off,[],n => Nat.beq off n
  | off,x :: r,n => Nat.beq x.offset off && f x.type && fitFields P f (off + P.cellsOf x.type) r n
def fits (P : Program) : Nat → TypeId → Bool
  | 0,_ => false
  | n + 1,t => match P.underlying t with
    | some (.struct fs) => fitFields P (fits P n) 0 fs.toList (P.cellsOf t)
    | some (.slice e) => fits P n e && Nat.blt 0 (P.cellsOf e)
    | some .bool | some (.int _) | some .string => true
    | _ => false

theorem choose_list {α : Type} {Q : Nat → α → Prop} : ∀ n,(∀ i,i < n → ∃ x,Q i x) → ∃ l : List α,l.length = n ∧ ∀ j x,l[j]? = some x → Q j x
  | 0,_ => ⟨[],rfl,fun j x h => by simp at h⟩
  | n + 1,h => by
    obtain ⟨l,hl,hq⟩ := choose_list n (fun i hi => h i (by omega))
    obtain ⟨x,hx⟩ := h n (by omega)
    refine ⟨l ++ [x],by simp [hl],fun j y hy => ?_⟩
    by_cases hj : j < n
    · rw [List.getElem?_append_left (by omega)] at hy; exact hq j y hy
    · rw [List.getElem?_append_right (by omega),hl] at hy
      have : j = n := by
        have := (List.getElem?_eq_some_iff.1 hy).1
        simp at this; omega
      subst this
      simp at hy; subst hy; exact hx

section
variable {H : Type} {enc : TypeId×Value → H} {P : Program} {w : World} {spare : Nat → Bool} {held : Bool}

theorem fields_ld {n : Nat} {g : TypeId → Bool} {leaf : TypeId → Option (List Lf)} {cs : List Value} {tot : Nat} (hlen : cs.length = tot)
    (ih : ∀ t ls,leaf t = some ls → dataL ls = true → g t = true → ∀ cs x,DataW.trod enc P w 0 spare held n t cs = some x → LD w (fun b => b < w.heap.size) ls cs) :
    ∀ (fs : List Field) (off : Nat) (ls : List Lf),fs.foldr (fun f r => match leaf f.type,r with | some a,some b => some (a ++ b) | _,_ => none) (some []) = some ls → dataL ls = true →
      fitFields P g off fs tot = true → (∀ f ∈ fs,∃ x,DataW.trod enc P w 0 spare held n f.type ((cs.drop f.offset).take (P.cellsOf f.type)) = some x) → LD w (fun b => b < w.heap.size) ls (cs.drop off)
  | [],off,ls,hls,_,hf,_ => by
    simp only [List.foldr_nil,Option.some.injEq] at hls
    subst hls
    simp only [fitFields,beq_true] at hf
    show _ = _
    rw [List.drop_eq_nil_iff]; omega
  | f :: r,off,ls,hls,hd,hf,hx => by
    simp only [List.foldr_cons] at hls
    split at hls
    · rename_i a b ha hb
      simp only [Option.some.injEq] at hls
      subst hls
      obtain ⟨hda,hdb⟩ := dataL_append hd
      simp only [fitFields,Bool.and_eq_true,beq_true] at hf
      obtain ⟨⟨h1,h2⟩,h3⟩ := hf
      obtain ⟨x,hxx⟩ := hx f (by simp)
      rw [h1] at hxx
      have hA := ih f.type a ha hda h2 _ _ hxx
      have hB := fields_ld hlen ih r (off + P.cellsOf f.type) b hb hdb h3 (fun g hg => hx g (by simp [hg]))
      have : cs.drop off = (cs.drop off).take (P.cellsOf f.type) ++ cs.drop (off + P.cellsOf f.type) := by
        rw [← List.drop_drop,List.take_append_drop]
      rw [this]
      exact LD.append hda hA hB
    · simp at hls

theorem trod_ld : ∀ (k m : Nat) (t : TypeId) (ls : List Lf),leavesOf P k t = some ls → dataL ls = true → fits P m t = true → ∀ (n : Nat) (cs : List Value) (x),DataW.trod enc P w 0 spare held n t cs = some x → LD w (fun b => b < w.heap.size) ls cs
  | 0,_,t,ls,h,_,_ => by simp [leavesOf] at h
  | _ + 1,0,t,ls,_,_,h => by simp [fits] at h
  | k + 1,m + 1,t,ls,h,hd,hf => by
    intro n cs x hx
    unfold leavesOf at h
    unfold fits at hf
    cases hu : P.underlying t with
    | none => rw [hu] at h; simp at h
    | some d =>
      rw [hu] at h hf
      cases d <;> simp only at h hf <;> try (simp at h hf; done)
      case bool =>
        simp only [Option.some.injEq] at h; subst h
        obtain ⟨b,rfl,_⟩ := DataW.trod_bool hu hx
        exact ⟨_,[],rfl,⟨b,rfl⟩,rfl⟩
      case int kd =>
        simp only [Option.some.injEq] at h; subst h
        obtain ⟨z,rfl,_,hw⟩ := DataW.trod_int hu hx
        exact ⟨_,[],rfl,⟨z,rfl,hw⟩,rfl⟩
      case string =>
        simp only [Option.some.injEq] at h; subst h
        obtain ⟨b,rfl,_,hw⟩ := DataW.trod_string hu hx
        exact ⟨_,[],rfl,⟨bytesOf b,b,rfl,rfl,by unfold maxLen at hw; omega⟩,rfl⟩
      case slice e =>
        split at h
        · rename_i ty hty
          simp only [Option.some.injEq] at h; subst h
          simp only [Option.bind_eq_some_iff] at hty
          obtain ⟨le,hle,hte⟩ := hty
          simp only [Bool.and_eq_true] at hf
          obtain ⟨hf1,hf2⟩ := hf
          have hpos : 0 < P.cellsOf e := by simpa [Nat.blt_eq] using hf2
          rcases DataW.trod_slice hu hx with ⟨rfl,_⟩ | ⟨a,len,cap,elems,rest,n',_,rfl,_,_,hl,hm,hlen,hel,_⟩
          · refine ⟨_,[],rfl,⟨([] : List ty.den),?_⟩,rfl⟩
            exact ⟨none,0,rfl,Nat.le_refl _,by omega,fun h0 => by simp at h0⟩
          · have each : ∀ i,i < len → ∃ x : ty.den,∃ c,Dat w (fun b => b < w.heap.size) ty x c ∧ c.length = P.cellsOf e ∧ (∀ (q : Nat) (u : Value),c[q]? = some u → w.cell? ((a.add (i * P.cellsOf e)).add q) = some u) := by
              intro i hi
              have h1 := hel i hi
              cases hy : elems[i]? with
              | none => rw [List.getElem?_eq_none_iff] at hy; omega
              | some y =>
                rw [hy] at h1
                simp only [Option.bind_eq_some_iff] at h1
                obtain ⟨c,hc,hty⟩ := h1
                have hL := trod_ld k m e le hle (tyOfLeaves_data hte) hf1 n' c y hty
                obtain ⟨d,hdd⟩ := LD.dat hte hL
                obtain ⟨_,c2,c3⟩ := World.cells?_some hc
                refine ⟨d,c,hdd,c2,fun q u hq => ?_⟩
                have := (List.getElem?_eq_some_iff.1 hq).1
                rw [c3 q (by omega)]; exact hq
            obtain ⟨l,hll,hq⟩ := choose_list (α := ty.den) (Q := fun i x => ∃ c,Dat w (fun b => b < w.heap.size) ty x c ∧ c.length = P.cellsOf e ∧ (∀ (q : Nat) (u : Value),c[q]? = some u → w.cell? ((a.add (i * P.cellsOf e)).add q) = some u)) len each
            subst hll
            refine ⟨_,[],rfl,⟨l,?_⟩,rfl⟩
            refine ⟨some a,cap,rfl,hl,by unfold maxLen at hm; omega,fun h0 => ?_⟩
            obtain ⟨c0,d0,d1,d2⟩ := hq 0 l[0] (List.getElem?_eq_getElem h0)
            have hc0 : 0 < c0.length := by omega
            have cc := d2 0 c0[0] (List.getElem?_eq_getElem hc0)
            have ea : (a.add (0 * P.cellsOf e)).add 0 = a := by simp [Addr.add]
            rw [ea] at cc
            obtain ⟨s1,s2⟩ := cell_spot cc
            obtain ⟨b,off,spot⟩ := a
            simp only at s1 s2
            subst s1
            refine ⟨b,off,rfl,s2,fun j y hy => ?_⟩
            obtain ⟨c,e0,e1,e2⟩ := hq j y hy
            have hsz : c.length = ty.size := e0.len
            refine ⟨c,e0,fun i u hi => ?_⟩
            have := e2 i u hi
            rw [add_eq,add_eq] at this
            rw [← hsz,e1]; exact this
        · simp at h
      case struct fs =>
        obtain ⟨xs,n',_,_,hlen,hsz,hel⟩ := DataW.trod_struct hu hx
        have := fields_ld (enc := enc) (P := P) (w := w) (spare := spare) (held := held) (n := n') (g := fits P m) (leaf := leavesOf P k) (cs := cs) (tot := P.cellsOf t) hlen
          (fun t ls h1 h2 h3 cs x hx => trod_ld k m t ls h1 h2 h3 n' cs x hx) fs.toList 0 ls h hd hf (fun f hf => by
            obtain ⟨i,hi⟩ := List.getElem?_of_mem hf
            have h2 : fs[i]? = some f := by simpa using hi
            have h3 := hel i f h2
            have hi2 : i < xs.length := by rw [hsz]; exact (Array.getElem?_eq_some_iff.1 h2).1
            rw [List.getElem?_eq_getElem hi2] at h3
            exact ⟨_,h3⟩)
        simpa using this

def atyOf (P : Program) (t : TypeId) : Option ATy := match tyOf P t with
  | some ty => bif fits P 9 t then (match P.underlying t with
    | some (.struct _) => some (.agg ty)
    | some (.slice _) | some (.int _) | some .bool | some .string => some (.one ty)
    | _ => none) else none
  | none => none
def atysOf (P : Program) : List TypeId → Option (List ATy)
  | [] => some []
  | t :: r => match atyOf P t,atysOf P r with | some a,some b => some (a :: b) | _,_ => none
def ATy.Good : (t : ATy) → t.den → Prop
  | .one t,x => Fw.Good t x
  | .agg t,x => Fw.Good t x
  | .oneA t,x => Fw.Good t x
  | .aggA t,x => Fw.Good t x
  | .nil ..,_ => True
  | .fn _,_ => True
def Goods : (ts : List ATy) → dens ts → Prop
  | [],_ => True
  | [t],x => t.Good x
  | t :: u :: r,x => t.Good x.1 ∧ Goods (u :: r) x.2

theorem open_one {r : Reach} {base : Nat} {t : TypeId} {a : ATy} {v : Value} {d : DataW H} {ps : List MemPlace} (ha : atyOf P t = some a) (hv : Value.okWide P w r base t v) (hd : DataW.Trod enc P w 0 spare held t v d ps) :
    ∃ x : a.den,a.Good x ∧ RepV (shut w fun b => b < w.heap.size) (a.enc x) v := by
  unfold atyOf at ha
  split at ha
  · rename_i ty hty
    cases hfit : fits P 9 t with
    | false => rw [hfit] at ha; simp at ha
    | true =>
      rw [hfit] at ha
      simp only [cond_true] at ha
      unfold tyOf Fw.leaves at hty
      simp only [Option.bind_eq_some_iff] at hty
      obtain ⟨ls,hls,hty⟩ := hty
      obtain ⟨n,hn⟩ := hd
      have hL := trod_ld 8 9 t ls hls (tyOfLeaves_data hty) hfit n _ _ hn
      obtain ⟨x,hx⟩ := LD.dat hty hL
      have one : ∀ cs : List Value,v.cells.toList = cs → cs = [v] → ∃ x : ty.den,Fw.Good ty x ∧ RepV (shut w fun b => b < w.heap.size) (ATy.enc (.one ty) x) v := by
        intro cs h1 h2
        rw [h1,h2] at hx
        refine ⟨x,hx.good,?_⟩
        have hl := Dat.leaves (c := shut w fun b => b < w.heap.size) hx
        simp only [ATy.enc]
        split
        · rename_i q hq
          rw [hq] at hl
          simp only [RepL] at hl
          obtain ⟨v',r',e1,e2,_⟩ := hl
          simp only [List.cons.injEq] at e1
          rw [e1.1]; exact e2
        · exact RepV.undef_ _ _
      split at ha
      · rename_i fs hu
        simp only [Option.some.injEq] at ha
        subst ha
        simp only [Value.okWide,hu] at hv
        obtain ⟨cs,rfl,_⟩ := hv
        refine ⟨x,hx.good,?_⟩
        have hl := Dat.leaves (c := shut w fun b => b < w.heap.size) hx
        simp only [ATy.enc,RepV]
        exact ⟨cs,rfl,hl⟩
      · rename_i e hu
        simp only [Option.some.injEq] at ha
        subst ha
        obtain ⟨a',len,cap,rfl⟩ := okWide_slice hu hv
        exact one _ rfl rfl
      · rename_i k hu
        simp only [Option.some.injEq] at ha
        subst ha
        obtain ⟨z,rfl⟩ := okWide_int hu hv
        exact one _ rfl rfl
      · rename_i hu
        simp only [Option.some.injEq] at ha
        subst ha
        obtain ⟨z,rfl⟩ := okWide_bool hu hv
        exact one _ rfl rfl
      · rename_i hu
        simp only [Option.some.injEq] at ha
        subst ha
        obtain ⟨z,rfl⟩ := okWide_string hu hv
        exact one _ rfl rfl
      · simp at ha
  · simp at ha
theorem open_all {r : Reach} {base : Nat} : ∀ {ts : List TypeId} {as : List ATy} {vs : List Value} {ds : List (DataW H)} {ps : List MemPlace},atysOf P ts = some as →
    (∀ (j : Nat) t v,ts[j]? = some t → vs[j]? = some v → Value.okWide P w r base t v) → DataW.TrodAll enc P w 0 spare held ts vs ds ps →
    ∃ b : dens as,Goods as b ∧ RepL (shut w fun b => b < w.heap.size) (encs as b) vs
  | [],as,vs,ds,ps,ha,_,h => by
    simp only [atysOf,Option.some.injEq] at ha
    subst ha
    obtain ⟨rfl,rfl,rfl⟩ := trodAll_nil h
    exact ⟨(),trivial,rfl⟩
  | t :: ts,as,vs,ds,ps,ha,hv,h => by
    simp only [atysOf] at ha
    split at ha
    · rename_i a b h1 h2
      simp only [Option.some.injEq] at ha
      subst ha
      obtain ⟨v0,vs0,d0,ds0,p0,q0,rfl,rfl,rfl,h0,r0⟩ := trodAll_cons h
      obtain ⟨x,hx,hr⟩ := open_one h1 (hv 0 t v0 rfl rfl) h0
      obtain ⟨y,hy,hs⟩ := open_all (ts := ts) h2 (fun j t v h3 h4 => hv (j + 1) t v (by simpa using h3) (by simpa using h4)) r0
      cases b with
      | nil =>
        refine ⟨x,hx,?_⟩
        simp only [encs,RepL] at hs ⊢
        exact ⟨v0,vs0,rfl,hr,hs⟩
      | cons u r' =>
        refine ⟨(x,y),⟨hx,hy⟩,?_⟩
        simp only [encs,RepL]
        exact ⟨v0,vs0,rfl,hr,hs⟩
    · simp at ha
theorem all_len : ∀ {ts : List TypeId} {vs : List Value} {ds : List (DataW H)} {ps : List MemPlace},DataW.TrodAll enc P w 0 spare held ts vs ds ps → ds.length = ts.length
  | [],vs,ds,ps,h => by
    obtain ⟨rfl,rfl,rfl⟩ := trodAll_nil h
    rfl
  | t :: ts,vs,ds,ps,h => by
    obtain ⟨v0,vs0,d0,ds0,p0,q0,rfl,rfl,rfl,h0,r0⟩ := trodAll_cons h
    simp [all_len r0]
theorem below_all {W W' : World} (hl : laidOutB P = true) (hb : Below W.heap.size W W') : ∀ {ts : List TypeId} {vs : List Value} {ds : List (DataW H)} {ps : List MemPlace},
    (ts.all fun t => P.readableRec t && decide (t < P.types.size)) = true → DataW.TrodAll enc P W 0 (fun _ => true) true ts vs ds ps → DataW.TrodAll enc P W' 0 (fun b => decide (b < W.heap.size)) true ts vs ds ps
  | [],vs,ds,ps,_,h => by
    obtain ⟨rfl,rfl,rfl⟩ := trodAll_nil h
    exact trodAll_mk0
  | t :: ts,vs,ds,ps,ht,h => by
    simp only [List.all_cons,Bool.and_eq_true,decide_eq_true_eq] at ht
    obtain ⟨v0,vs0,d0,ds0,p0,q0,rfl,rfl,rfl,h0,r0⟩ := trodAll_cons h
    refine trodAll_cons_mk (Below.trod hl ht.1.1 ht.1.2 h0 hb ?_) (below_all hl hb ht.2 r0)
    obtain ⟨m,hm⟩ := h0
    exact DataW.trod_lt m _ _ _ hm
end
end Go.Fw
