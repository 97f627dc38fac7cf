/- Part 51: lemmas that the last text needs. -/
import Derived.Test.YtkihadlgknhpkaaGreatDoorX1
set_option linter.all false
set_option autoImplicit true
set_option relaxedAutoImplicit true
namespace Go.Fw
section
variable {β:Type}
def sj (x:Int×β):List (Int×β)->List (Int×β)
 | []=> [x]
 |y::r=>bif decide (x.1<=y.1) then x::y::r else y::sj x r
def jx:List (Int×β)->List (Int×β)
 | []=> []
 |x::r=>sj x (jx r)
def Iy (x:Int×β):=decide (0<=x.1) && decide (x.1<4611686018427387904)
def ml:List (Int×β)->Bool
 | []=>true
 |x::r=>r.all (λy=> !decide (y.1=x.1)) && ml r
def lp (l:List (Int×β)):=l.all Iy && ml l && decide (l.length<4611686018427387904)
theorem IC (x:Int×β):∀l,(sj x l).Perm (x::l)
 | []=> .refl _
 |y::r=>by
  unfold sj
  cases decide (x.1<=y.1) with
  |true=>simp_all
  |false=>exact ((IC x r).cons y).trans (.swap x y r)
theorem Cm:∀l:List (Int×β),(jx l).Perm l
 | []=> .refl _
 |x::r=>(IC x (jx r)).trans ((Cm r).cons x)
theorem Vu (x):∀{l:List (Int×β)},l.Pairwise (λa b=>a.1<=b.1)->(sj x l).Pairwise (λa b=>a.1<=b.1)
 | [],_=>by simp [sj]
 |y::r,h=>by
  unfold sj;rw [eO] at h;by_cases j:x.1<=y.1
  ·grind[List.pairwise_cons]
  ·rw [aq j];simp only [aa];rw [eO];refine ⟨λz C=> ?_,Vu x h.2⟩
   grind[IC]
theorem Ut:∀l:List (Int×β),(jx l).Pairwise (λa b=>a.1<=b.1)
 | []=> .nil
 |x::r=>Vu x (Ut r)
theorem I6:∀{l:List (Int×β)},ml l=true->∀a ∈ l,∀b ∈ l,a.1=b.1->a=b
 | [],_,a,j,_,_,_=>by grind
 |x::r,h,a,j,b,C,I=>by
  simp only [ml,bb,gU,sL,yF] at h;rcases a8.1 j with j|j <;>rcases a8.1 C with C|C
  ·grind
  ·grind
  ·grind
  ·exact I6 h.2 a j b C I
theorem Ur {l m:List (Int×β)} (h:ml l=true) (c:l.Perm m) (d:m.Pairwise (λa b=>a.1<=b.1)):jx l=m:=by
 refine Xr (le:=λa b=>a.1<=b.1) (λa b e f g i=> ?_) (Ut l) d ((Cm l).trans c)
 grind[I6,Cm]
theorem aiV (l:List (Int×β)):(jx l).length=l.length:=(Cm l).length_eq
end
def Wj {t u:Ty} (h:t=u) (l:List t.den):=h ▸ l
def ls5 {α:Type} (A:α×α×α×α×α):= [A.1,A.2.1,A.2.2.1,A.2.2.2.1,A.2.2.2.2]
def ajk (t) (A) (i):=rd t (ls5 A) i
def lx {α:Type} (A:α×α×α×α×α×α×α×α×α×α×α×α×α×α×α×α):= [A.1,A.2.1,A.2.2.1,A.2.2.2.1,A.2.2.2.2.1,A.2.2.2.2.2.1,A.2.2.2.2.2.2.1,A.2.2.2.2.2.2.2.1,A.2.2.2.2.2.2.2.2.1,A.2.2.2.2.2.2.2.2.2.1,A.2.2.2.2.2.2.2.2.2.2.1,A.2.2.2.2.2.2.2.2.2.2.2.1,A.2.2.2.2.2.2.2.2.2.2.2.2.1,A.2.2.2.2.2.2.2.2.2.2.2.2.2.1,A.2.2.2.2.2.2.2.2.2.2.2.2.2.2.1,A.2.2.2.2.2.2.2.2.2.2.2.2.2.2.2]
def bg (t) (A) (i):=rd t (lx A) i
def mj (A:α×α×α×α×α×α×α×α×α×α×α×α×α×α×α×α):=lx A
def da {α:Type} (A:α×α×α×α×α×α×α×α×α×α×α×α×α×α×α×α) (i) (v):=(bif decide (i=((0:Nat):Int)) then v else A.1,bif decide (i=((1:Nat):Int)) then v else A.2.1,bif decide (i=((2:Nat):Int)) then v else A.2.2.1,bif decide (i=((3:Nat):Int)) then v else A.2.2.2.1,bif decide (i=((4:Nat):Int)) then v else A.2.2.2.2.1,bif decide (i=((5:Nat):Int)) then v else A.2.2.2.2.2.1,bif decide (i=((6:Nat):Int)) then v else A.2.2.2.2.2.2.1,bif decide (i=((7:Nat):Int)) then v else A.2.2.2.2.2.2.2.1,bif decide (i=((8:Nat):Int)) then v else A.2.2.2.2.2.2.2.2.1,bif decide (i=((9:Nat):Int)) then v else A.2.2.2.2.2.2.2.2.2.1,bif decide (i=((10:Nat):Int)) then v else A.2.2.2.2.2.2.2.2.2.2.1,bif decide (i=((11:Nat):Int)) then v else A.2.2.2.2.2.2.2.2.2.2.2.1,bif decide (i=((12:Nat):Int)) then v else A.2.2.2.2.2.2.2.2.2.2.2.2.1,bif decide (i=((13:Nat):Int)) then v else A.2.2.2.2.2.2.2.2.2.2.2.2.2.1,bif decide (i=((14:Nat):Int)) then v else A.2.2.2.2.2.2.2.2.2.2.2.2.2.2.1,bif decide (i=((15:Nat):Int)) then v else A.2.2.2.2.2.2.2.2.2.2.2.2.2.2.2)
def de {α:Type} (l:List α) (n) (x):=l.take n++x::l.drop n
def ny:Ieee.Datum->Int×Int
 | .nan ..=>(-2,0)
 | .infinity s=>(bif s then -1 else 1,0)
 | .number s m i=>(0,Ieee.signed s m (i+1074).toNat)
def dW (x):=bif decide (x= -1) then (-2,0) else ny (Ieee.double.read x.toNat)
def fG (a b:Int×Int):=decide (a.1<b.1) || (decide (a.1=b.1) && decide (a.2<b.2))
def yn (x y):=bif fG (dW x) (dW y) then -1 else bif fG (dW y) (dW x) then 1 else 0
def cT (x y:Int):=bif decide (x<y) then -1 else bif decide (y<x) then 1 else 0
def eN (a b:Int×Int):=bif decide (yn b.2 a.2=0) then cT a.1 b.1 else yn b.2 a.2
def sf (x:Int×Int):List (Int×Int)->List (Int×Int)
 | []=> [x]
 |y::r=>bif decide (eN y x<0) then y::sf x r else x::y::r
def gQ:List (Int×Int)->List (Int×Int)
 | []=> []
 |x::r=>sf x (gQ r)
def rQ (l:List (Int×Int)):=l.all (λx=>decide (0<=x.1) && decide (x.1<=18446744073709551615)) && ml l && decide (l.length<4611686018427387904)
def mu:Int->List (Int×Int×Int×Int)->Bool
 |_,[]=>true
 |s,e::r=>decide (e.1=s - 1) && (decide (0<=e.2.1) && decide (e.2.1<16)) && mu (s - 1) r
def jG (b:Int×List (Int×Int×Int×Int)):Int:=bif decide (b.1=0) || decide (4611686018427387904<b.1) || !decide ((b.2.length:Int)=min (b.1 - 1) 64) then 1 else bif mu b.1 b.2.reverse then 0 else 1
def Ck (x y:Int):Int:=((x.toNat+18446744073709551616 - y.toNat) % 18446744073709551616:Nat)
def Cl (x y:Int):Int:=bif decide (x<y) then 1 else 0
end Go.Fw
