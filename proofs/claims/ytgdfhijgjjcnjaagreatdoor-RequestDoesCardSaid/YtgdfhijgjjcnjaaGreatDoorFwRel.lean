/- What plain values say of the machine's memory,and how that moves from world to world. -/
import Derived.Test.YtgdfhijgjjcnjaaGreatDoorFwSlot
import Derived.Below
set_option linter.unusedVariables false
set_option linter.unusedSimpArgs false
namespace Go.Fw
open Go.RowKit (Below)

def bytesOf (s : ByteArray) : List Int := s.data.toList.map fun b => (b.toNat : Int)

def Dat (w : World) (ok : Nat → Prop) : (t : Ty) → t.den → List Value → Prop
  | .int k,n,cs => cs = [.int k n] ∧ (Lit.int k n).wf = true
  | .bool,b,cs => cs = [.bool b]
  | .str,s,cs => ∃ b : ByteArray,cs = [.string b] ∧ s = bytesOf b ∧ b.size ≤ 9223372036854775807
  | .unit,_,cs => cs = []
  | .pair a b,x,cs => ∃ c1 c2,cs = c1 ++ c2 ∧ Dat w ok a x.1 c1 ∧ Dat w ok b x.2 c2
  | .slice _ t,l,cs => ∃ A n,cs = [.slice A l.length n] ∧ l.length ≤ n ∧ n ≤ 9223372036854775807 ∧
      (0 < l.length → ∃ b off,A = some ⟨b,off,none⟩ ∧ ok b ∧ ∀ (j : Nat) (x : t.den),l[j]? = some x →
        ∃ c,Dat w ok t x c ∧ ∀ (i : Nat) (u : Value),c[i]? = some u → w.cell? ⟨b,off + j * t.size + i,none⟩ = some u)

def RowI (w : World) (ok : Nat → Prop) (t : Ty) (A : Option Addr) (l : List t.den) : Prop :=
  0 < l.length → ∃ b off,A = some ⟨b,off,none⟩ ∧ ok b ∧ ∀ (j : Nat) (x : t.den),l[j]? = some x →
    ∃ c,Dat w ok t x c ∧ ∀ (i : Nat) (u : Value),c[i]? = some u → w.cell? ⟨b,off + j * t.size + i,none⟩ = some u

theorem Dat.len {w : World} {ok : Nat → Prop} : ∀ {t : Ty} {x : t.den} {cs : List Value},Dat w ok t x cs → cs.length = t.size
  | .int _,_,_,h => by rw [h.1]; rfl
  | .bool,_,_,h => by rw [show _ = _ from h]; rfl
  | .str,_,_,⟨_,h,_⟩ => by rw [h]; rfl
  | .unit,_,_,h => by rw [show _ = _ from h]; rfl
  | .pair _ _,_,_,⟨_,_,h,h1,h2⟩ => by rw [h,List.length_append,h1.len,h2.len]; rfl
  | .slice _ _,_,_,⟨_,_,h,_⟩ => by rw [h]; rfl
theorem Dat.one {w : World} {ok : Nat → Prop} : ∀ {t : Ty} {x : t.den} {cs : List Value},Dat w ok t x cs → ∀ u ∈ cs,u.oneCell' = true
  | .int _,_,_,h => by rw [h.1]; simp [Value.oneCell']
  | .bool,_,_,h => by rw [show _ = _ from h]; simp [Value.oneCell']
  | .str,_,_,⟨_,h,_⟩ => by rw [h]; simp [Value.oneCell']
  | .unit,_,_,h => by rw [show _ = _ from h]; simp
  | .pair _ _,_,_,⟨_,_,h,h1,h2⟩ => by
    rw [h]; intro u hu
    rcases List.mem_append.1 hu with hu | hu
    · exact h1.one u hu
    · exact h2.one u hu
  | .slice _ _,_,_,⟨_,_,h,_⟩ => by rw [h]; simp [Value.oneCell']

theorem cell_of {w w1 : World} {b : Nat} (h : w1.heap[b]? = w.heap[b]?) (off : Nat) : w1.cell? ⟨b,off,none⟩ = w.cell? ⟨b,off,none⟩ := by
  simp [World.cell?,h]
theorem Dat.move {w w1 : World} {ok ok1 : Nat → Prop} (hm : ∀ b,ok b → w1.heap[b]? = w.heap[b]?) (ho : ∀ b,ok b → ok1 b) :
    ∀ {t : Ty} {x : t.den} {cs : List Value},Dat w ok t x cs → Dat w1 ok1 t x cs
  | .int _,_,_,h => h
  | .bool,_,_,h => h
  | .str,_,_,h => h
  | .unit,_,_,h => h
  | .pair _ _,_,_,⟨c1,c2,h,h1,h2⟩ => ⟨c1,c2,h,h1.move hm ho,h2.move hm ho⟩
  | .slice _ _,_,_,⟨A,n,h,hl,hn,hr⟩ => ⟨A,n,h,hl,hn,fun h0 => by
      obtain ⟨b,off,hA,hb,hc⟩ := hr h0
      refine ⟨b,off,hA,ho b hb,fun j x hx => ?_⟩
      obtain ⟨c,hd,hcell⟩ := hc j x hx
      exact ⟨c,hd.move hm ho,fun i u hu => by rw [cell_of (hm b hb)]; exact hcell i u hu⟩⟩
theorem RowI.move {w w1 : World} {ok ok1 : Nat → Prop} (hm : ∀ b,ok b → w1.heap[b]? = w.heap[b]?) (ho : ∀ b,ok b → ok1 b) {t : Ty} {A : Option Addr} {l : List t.den}
    (h : RowI w ok t A l) : RowI w1 ok1 t A l := fun h0 => by
  obtain ⟨b,off,hA,hb,hc⟩ := h h0
  refine ⟨b,off,hA,ho b hb,fun j x hx => ?_⟩
  obtain ⟨c,hd,hcell⟩ := hc j x hx
  exact ⟨c,hd.move hm ho,fun i u hu => by rw [cell_of (hm b hb)]; exact hcell i u hu⟩

def KeyIs (s : Bool) (v : Value) (cs : List Value) : Prop := match s with
  | true => cs = [v]
  | false => ∃ a : Array Value,v = .agg a ∧ a.toList = cs
def Born (es : List MapEntry) (clock : Nat) : Prop := (es.map (·.born)).Nodup ∧ ∀ x ∈ es,x.born < clock
def Ents (w : World) (ok : Nat → Prop) (m : MTy) : List (m.k.den×m.v.den) → List MapEntry → Prop
  | [],es => es = []
  | e :: r,es => ∃ x s cs,es = x :: s ∧ KeyIs m.s x.key cs ∧ Dat w ok m.k e.1 cs ∧ Dat w ok m.v e.2 [x.val] ∧ Ents w ok m r s
def IterI (w : World) (ok : Nat → Prop) (m : MTy) (bo : Option Nat) (since : Nat) (seen : Array Nat) (last : Nat) (left : List (m.k.den×m.v.den)) (cur : Option (m.k.den×m.v.den)) : Prop :=
  (bo = none ∧ left = [] ∧ cur = none) ∨ ∃ b es,bo = some b ∧ ok b ∧ w.heap[b]? = some (.map es last) ∧ Born es.toList last ∧ since = last ∧ Ents w ok m left (es.filter fun e => !seen.contains e.born).toList ∧
    ∀ x y,cur = some (x,y) → ∃ e ∈ es.toList,∃ seen' : Array Nat,seen = seen'.push e.born ∧ ∃ cs,KeyIs m.s e.key cs ∧ Dat w ok m.k x cs ∧ Dat w ok m.v y [e.val]
def MapI (w : World) (ok : Nat → Prop) (m : MTy) (A : Option Nat) (l : List (m.k.den×m.v.den)) : Prop :=
  (A = none ∧ l = []) ∨ ∃ b es clock,A = some b ∧ ok b ∧ w.heap[b]? = some (.map es clock) ∧ Ents w ok m l es.toList ∧ Born es.toList clock
theorem Ents.move {w w1 : World} {ok ok1 : Nat → Prop} {m : MTy} (hm : ∀ b,ok b → w1.heap[b]? = w.heap[b]?) (ho : ∀ b,ok b → ok1 b) : ∀ {l : List (m.k.den×m.v.den)} {es : List MapEntry},Ents w ok m l es → Ents w1 ok1 m l es
  | [],_,h => h
  | _ :: _,_,⟨x,s,cs,h1,h2,h3,h4,h5⟩ => ⟨x,s,cs,h1,h2,h3.move hm ho,h4.move hm ho,h5.move hm ho⟩
theorem IterI.move {w w1 : World} {ok ok1 : Nat → Prop} {m : MTy} {bo : Option Nat} {since : Nat} {seen : Array Nat} {last : Nat} {left : List (m.k.den×m.v.den)} {cur : Option (m.k.den×m.v.den)} (hm : ∀ b,ok b → w1.heap[b]? = w.heap[b]?) (ho : ∀ b,ok b → ok1 b) (h : IterI w ok m bo since seen last left cur) : IterI w1 ok1 m bo since seen last left cur := by
  rcases h with h | ⟨b,es,h1,h2,h3,h4,h5,h6,h7⟩
  · exact .inl h
  · refine .inr ⟨b,es,h1,ho b h2,by rw [hm b h2]; exact h3,h4,h5,h6.move hm ho,fun x y hc => ?_⟩
    obtain ⟨e,he,s',hs,cs,k1,k2,k3⟩ := h7 x y hc
    exact ⟨e,he,s',hs,cs,k1,k2.move hm ho,k3.move hm ho⟩
theorem MapI.move {w w1 : World} {ok ok1 : Nat → Prop} {m : MTy} {A : Option Nat} {l : List (m.k.den×m.v.den)} (hm : ∀ b,ok b → w1.heap[b]? = w.heap[b]?) (ho : ∀ b,ok b → ok1 b) (h : MapI w ok m A l) : MapI w1 ok1 m A l := by
  rcases h with h | ⟨b,es,k,h1,h2,h3,h4⟩
  · exact .inl h
  · exact .inr ⟨b,es,k,h1,ho b h2,by rw [hm b h2]; exact h3,h4.1.move hm ho,h4.2⟩

def Shp (w : World) (q : Nat → Prop) : (t : Ty) → t.den → List Value → Prop
  | .int k,_,cs => ∃ n,cs = [.int k n] ∧ (Lit.int k n).wf = true
  | .bool,_,cs => ∃ b,cs = [.bool b]
  | .str,_,cs => ∃ b : ByteArray,cs = [.string b]
  | .unit,_,cs => cs = []
  | .pair a b,x,cs => ∃ c1 c2,cs = c1 ++ c2 ∧ Shp w q a x.1 c1 ∧ Shp w q b x.2 c2
  | .slice _ t,l,cs => ∃ A n,cs = [.slice A l.length n] ∧ l.length ≤ n ∧ n ≤ 9223372036854775807 ∧
      (0 < l.length → ∃ b off,A = some ⟨b,off,none⟩ ∧ q b ∧ ∀ (j : Nat) (x : t.den),l[j]? = some x →
        ∃ c,Shp w q t x c ∧ ∀ (i : Nat) (u : Value),c[i]? = some u → w.cell? ⟨b,off + j * t.size + i,none⟩ = some u)
def RowS (w : World) (q : Nat → Prop) (t : Ty) (A : Option Addr) (l : List t.den) : Prop :=
  0 < l.length → ∃ b off,A = some ⟨b,off,none⟩ ∧ q b ∧ ∀ (j : Nat) (x : t.den),l[j]? = some x →
    ∃ c,Shp w q t x c ∧ ∀ (i : Nat) (u : Value),c[i]? = some u → w.cell? ⟨b,off + j * t.size + i,none⟩ = some u
def Like (u v : Value) : Prop := v = u ∨ ∃ k n m,u = .int k n ∧ v = .int k m ∧ (Lit.int k m).wf = true
def Soft (w w1 : World) (b : Nat) : Prop := ∀ off u,w.cell? ⟨b,off,none⟩ = some u → ∃ v,w1.cell? ⟨b,off,none⟩ = some v ∧ Like u v
def Unm (w : World) (b : Nat) : Prop := ∀ cs e lo hi,w.heap[b]? = some (.cells cs e (lo,hi)) → lo = hi ∨ cs.size ≤ lo

structure Cx where
  w : World
  ok : Nat → Prop
  ρ : Nat → Nat
  σ : Nat → Value
  pin : Nat → List Value
  ob : Nat → Option Ob
  a : Nat → Prop
  q : Nat → Prop
def Cx.ra (c : Cx) (b : Nat) : Prop := c.ok b ∨ c.a b
def Cx.za (c : Cx) (b : Nat) : Prop := c.ra b ∨ c.q b

def RowAt (o : Option Ob) (t : Ty) (l : List t.den) : Prop := (∃ e,o = some (.row e t l)) ∨ (∃ e n,o = some (.arr e t n l)) ∨ (∃ e n,o = some (.mrow e t l n))
mutual
def RepV (c : Cx) : PV → Value → Prop
  | .undef,_ | .fresh ..,_ | .bx _,_ | .gd ..,_ => True
  | .int k n,v => v = .int k n ∧ (Lit.int k n).wf = true
  | .bool b,v => v = .bool b
  | .str s,v => ∃ b : ByteArray,v = .string b ∧ s = bytesOf b ∧ b.size ≤ 9223372036854775807
  | .sl _ t l,v => ∃ A n,v = .slice A l.length n ∧ l.length ≤ n ∧ n ≤ 9223372036854775807 ∧ RowI c.w c.ok t A l
  | .full _ t l,v => ∃ A,v = .slice A l.length l.length ∧ l.length ≤ 9223372036854775807 ∧ RowI c.w c.ok t A l
  | .own k,v => v = c.σ k ∧ ∃ A n m,v = .slice A n m
  | .view k lo n sz,v => ∃ B D,v = .slice B n D ∧ (0 < n → B = some ⟨c.ρ k,lo * sz,none⟩) ∧ ∃ A m,c.σ k = .slice A (lo + n) m ∧ lo + n ≤ m ∧ m ≤ 9223372036854775807 ∧ D = m - lo ∧ (0 < n → A = some ⟨c.ρ k,0,none⟩)
  | .agg l,v => ∃ a,v = .agg a ∧ RepL c l a.toList
  | .tup l,v => ∃ a,v = .tuple a ∧ RepL c l a.toList
  | .ptr k off,v => v = .pointer (some ⟨c.ρ k,off,none⟩)
  | .cptr l,v => ∃ b off cs,v = .pointer (some ⟨b,off,none⟩) ∧ c.ra b ∧ RepL c l cs ∧ ∀ (i : Nat) (u : Value),cs[i]? = some u → c.w.cell? ⟨b,off + i,none⟩ = some u
  | .optr k i sz off,v => v = .pointer (some ⟨c.ρ k,i.toNat * sz + off,none⟩) ∧ ∀ t l,RowAt (c.ob k) t l → 0 ≤ i ∧ i < l.length ∧ sz = t.size
  | .fn f l,v => ∃ a,v = .func (.func f) #[] a ∧ RepL c l a.toList
  | .nilptr,v => v = .pointer none
  | .nilfn,v => v = .nilFunc
  | .nilerr,v => v = .nilIface
  | .none_,v => v = .slice none 0 0
  | .mown k,v => v = .map (some (c.ρ k))
  | .mnone,v => v = .map none
  | .mp m l,v => ∃ A,v = .map A ∧ MapI c.w c.ok m A l
  | .asl f _ t l,v => ∃ A n,v = .slice A l.length n ∧ l.length ≤ n ∧ n ≤ 9223372036854775807 ∧ (f = true → n = l.length) ∧ RowI c.w c.ra t A l
  | .qsl _ t l,v => ∃ A n,v = .slice A l.length n ∧ l.length ≤ n ∧ n ≤ 9223372036854775807 ∧ RowS c.w c.q t A l ∧ (c.ob QK = some .live → RowI c.w c.q t A l)
  | .rptr t x off,v => ∃ b o cs,v = .pointer (some ⟨b,o + off,none⟩) ∧ c.q b ∧ Shp c.w c.q t x cs ∧ (c.ob QK = some .live → Dat c.w c.q t x cs) ∧ ∀ (i : Nat) (u : Value),cs[i]? = some u → c.w.cell? ⟨b,o + i,none⟩ = some u
  | .any k,v => ∃ n,v = .int k n ∧ (Lit.int k n).wf = true
def RepL (c : Cx) : List PV → List Value → Prop
  | [],vs => vs = []
  | p :: r,vs => ∃ v r',vs = v :: r' ∧ RepV c p v ∧ RepL c r r'
end

def Cells (w : World) (b : Nat) (el : Option TypeId) (cs : Array Value) : Prop :=
  ∃ e,w.heap[b]? = some (.cells cs e (0,0)) ∧ ∀ x,el = some x → e = x
def DatL (w : World) (ok : Nat → Prop) (t : Ty) : List t.den → List Value → Prop
  | [],cs => cs = []
  | x :: r,cs => ∃ c cs',cs = c ++ cs' ∧ Dat w ok t x c ∧ DatL w ok t r cs'

def DatM (w : World) (ok ra : Nat → Prop) (t : Ty) : Nat → List t.den → List Value → Prop
  | _,[],cs => cs = []
  | 0,x :: r,cs => DatL w ra t (x :: r) cs
  | n + 1,x :: r,cs => ∃ c cs',cs = c ++ cs' ∧ Dat w ok t x c ∧ DatM w ok ra t n r cs'
def SlotOK (c : Cx) (a : Act) : PV → Value → Prop
  | .gd s w v,u => (a.tmps.getD s undef = .bool w → RepV c v u) ∧ (a.tmps.getD s undef ≠ .bool w → u = undef)
  | p,u => RepV c p u

def PEnts (ρ : Nat → Nat) : List (Int×(Nat×Nat)) → List MapEntry → Prop
  | [],es => es = []
  | e :: r,es => ∃ x s,es = x :: s ∧ x.key = .int .u64 e.1 ∧ x.val = .pointer (some ⟨ρ e.2.1,e.2.2,none⟩) ∧ PEnts ρ r s
def RepO (c : Cx) (k : Nat) : Ob → Prop
  | .box l => ∃ cs,Cells c.w (c.ρ k) none cs ∧ RepL c l cs.toList
  | .row e t l => ∃ A n,c.σ k = .slice A l.length n ∧ l.length ≤ n ∧ n ≤ 9223372036854775807 ∧
      ((n = 0) ∨ (A = some ⟨c.ρ k,0,none⟩ ∧ ∃ cs : Array Value,Cells c.w (c.ρ k) (some e) cs ∧ cs.size = n * t.size ∧ DatL c.w c.ok t l (cs.toList.take (l.length * t.size)) ∧ 0 < t.size))
  | .arr _ t n l => l.length = n ∧ ∃ cs,Cells c.w (c.ρ k) none cs ∧ DatL c.w c.ok t l cs.toList
  | .held l => Sized (c.pin k).length l ∧ ∀ d,SlotOK c { tmps := (c.pin k).toArray,defers := [] } (l.go d) ((c.pin k).getD d undef)
  | .mrow e t l p => ∃ A n,c.σ k = .slice A l.length n ∧ l.length ≤ n ∧ n ≤ 9223372036854775807 ∧
      ((n = 0) ∨ (A = some ⟨c.ρ k,0,none⟩ ∧ ∃ cs : Array Value,Cells c.w (c.ρ k) (some e) cs ∧ cs.size = n * t.size ∧ DatM c.w c.ok c.ra t p l (cs.toList.take (l.length * t.size)) ∧ 0 < t.size))
  | .live => True
  | .frow _ t l => ∃ A n,c.σ k = .slice A l.length n ∧ l.length ≤ n ∧ n ≤ 9223372036854775807 ∧ RowI c.w c.ok t A l
  | .mp m l => ∃ es clock,c.w.heap[c.ρ k]? = some (.map es clock) ∧ Ents c.w c.ok m l es.toList ∧ Born es.toList clock
  | .iter m left cur => ∃ bo since seen last,c.w.heap[c.ρ k]? = some (.mapIter bo since seen last) ∧ IterI c.w c.ok m bo since seen last left cur
  | .gone => True
  | .pm l => ∃ es clock l',c.w.heap[c.ρ k]? = some (.map es clock) ∧ l'.Perm l ∧ PEnts c.ρ l' es.toList ∧ Born es.toList clock ∧ (l.map (·.1)).Nodup

def OwnsO (c : Cx) (k : Nat) : Ob → Prop
  | .box _ | .arr .. | .mp .. | .iter .. | .pm _ => True
  | .row .. | .mrow .. => ∃ A n m,c.σ k = .slice A n m ∧ m ≠ 0
  | _ => False
def Owns (c : Cx) (k : Nat) : Prop := ∃ o,c.ob k = some o ∧ OwnsO c k o

structure Kept (m : Nat → Prop) (w0 w : World) : Prop where
  os : w.os = w0.os
  tape : w.tape = w0.tape
  output : w.output = w0.output
  size : w0.heap.size ≤ w.heap.size
  block : ∀ k,k < w0.heap.size → ¬ m k → w.heap[k]? = w0.heap[k]?


structure MM where
  w : Nat → Prop
  k : Nat → Prop
  pin : Nat → List Value
  a : Nat → Prop

structure Rep (m : MM) (w0 : World) (st : St) (a : Act) (c : Cx) : Prop where
  size : Sized a.tmps.size st.s
  slots : ∀ d,SlotOK c a (st.get d) (a.tmps.getD d undef)
  defers : a.defers = []
  ob : ∀ k,c.ob k = st.obj k
  objs : ∀ k o,c.ob k = some o → RepO c k o
  apart : ∀ k k',Owns c k → Owns c k' → c.ρ k = c.ρ k' → k = k'
  mine : ∀ k,Owns c k → ¬ c.ok (c.ρ k) ∧ (w0.heap.size ≤ c.ρ k ∨ m.w (c.ρ k)) ∧ c.ρ k < c.w.heap.size
  ok : ∀ b,c.ok b → b < c.w.heap.size
  kept : Kept m.w w0 c.w
  old : ∀ b,m.k b → c.ok b
  new : ∀ b,c.ok b → m.k b ∨ ((w0.heap.size ≤ b ∨ m.w b) ∧ Unm c.w b)
  pin : c.pin = m.pin
  a : c.a = m.a
  low : ∀ b,m.a b → b < w0.heap.size ∧ ¬ m.w b
  q : ∀ b,c.q b → (w0.heap.size ≤ b ∨ m.w b) ∧ b < c.w.heap.size ∧ Unm c.w b ∧ ¬ c.ra b ∧ ∀ k,Owns c k → c.ρ k ≠ b

def Rel (m : MM) (w0 : World) (st : St) (a : Act) (w : World) : Prop := ∃ c : Cx,c.w = w ∧ Rep m w0 st a c
end Go.Fw
