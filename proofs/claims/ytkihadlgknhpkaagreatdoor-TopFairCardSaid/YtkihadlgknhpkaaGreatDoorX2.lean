/- Part 2: lemmas that the last text needs. -/
import Derived.Test.YtkihadlgknhpkaaGreatDoorX1
import Derived.Below
set_option linter.all false
set_option autoImplicit true
set_option relaxedAutoImplicit true
namespace Go.Fw
theorem Vl :Nat.land a b=a↔∀j,a.testBit j=true->b.testBit j=true:=by
 constructor
 ·intro h j c;have d:(a &&& b).testBit j=a.testBit j:=bz (·.testBit j) h
  grind
 ·intro h;apply Nat.eq_of_testBit_eq
  simp_all
theorem U1 (a b j):(Nat.lor a b).testBit j=(a.testBit j || b.testBit j):=Nat.testBit_or a b j
theorem Vk :Nat.land a (2^i)=0↔a.testBit i=false:=by
 constructor
 ·intro h;have b:(a &&& 2^i).testBit i=(0:Nat).testBit i:=bz (·.testBit i) h
  grind
 ·intro h;apply Nat.eq_of_testBit_eq;intro j;have:(Nat.land a (2^i)).testBit j=(a &&& 2^i).testBit j:=rfl
  grind
theorem akB (o) (j):(sq o).testBit j=true↔∃e ∈ o.after.toList,Region.binds .any e=true/\e.on=j:=by
 unfold sq
 induction o.after.toList with
 |nil=>simp
 |cons e r a=>
  grind[U1]
theorem Wf (ops) (c) (i):∀ (l) (k j),(nz ops c i k l).testBit j=true↔
 ∃n a,l[n]?=some a/\k+n=j/\(j==i || (a.after.any (λe=>Region.binds .any e && e.on==i) || c.apart ops a))=false
 | [],k,j=>by simp [nz]
 |a::r,k,j=>by
  have C:=Wf ops c i r (k+1) j
  have b:(∃n o,(a::r)[n]?=some o/\k+n=j/\(j==i || (o.after.any (λe=>Region.binds .any e && e.on==i) || c.apart ops o))=false)↔
   (k=j/\(k==i || (a.after.any (λe=>Region.binds .any e && e.on==i) || c.apart ops a))=false)\/
   (∃n o,r[n]?=some o/\k+1+n=j/\(j==i || (o.after.any (λe=>Region.binds .any e && e.on==i) || c.apart ops o))=false):=by
   constructor
   ·rintro ⟨n,o,d,f,g⟩
    cases n with
    |zero=>grind
    |succ n=>grind
   ·rintro (⟨d,f⟩| ⟨n,o,d,f,g⟩)
    ·exact ⟨0,a,by simp,by omega,by grind⟩
    ·exact ⟨n+1,o,by grind,by omega,g⟩
  rw [b,<-C,nz]
  cases h:(k==i || (a.after.any (λe=>Region.binds .any e && e.on==i) || c.apart ops a)) with
  |true=>simp
  |false=>
   simp[Nat.testBit_two_pow]
structure Mask (ops:Array Oper) (lm:Nat) (listed:List Bool):Prop where
 len:listed.length=ops.size
 bit:∀j,lm.testBit j=(listed[j]?).getD false
theorem Mask.alY (ops):Mask ops 0 (List.replicate ops.size false):=by
 refine ⟨by simp,λj=> ?_⟩
 grind
theorem Mask.set (h:Mask ops lm a) (b:i<ops.size):Mask ops (Nat.lor lm (2^i)) (a.set i true):=by
 refine ⟨by simpa using h.len,λj=> ?_⟩;rw [U1,Nat.testBit_two_pow,h.bit j,List.getElem?_set];by_cases c:i=j
 ·subst c;simp [h.len,b]
 grind
theorem yp (l:List Bool) (i) (d):l.toArray.getD i d=(l[i]?).getD d:=by
 simp
def HT (ops:Array Oper) (a:List Bool) (i):=
 !a.toArray.getD i true && ((ops[i]?).map (·.after.all λe=> !Region.binds .any e || a.toArray.getD e.on false)).getD false
theorem ajj (h:Mask ops lm C) (c:ops[i]?=some o):
 (Nat.beq (Nat.land lm (2^i)) 0 && Nat.beq (Nat.land (sq o) lm) (sq o))=HT ops C i:=by
 have d:=(gM.1 c).1;unfold HT;rw [c,sD,yG,yp]
 have g:Nat.beq (Nat.land lm (2^i)) 0= !(C[i]?).getD true:=by
  have a:=h.bit i;have k:C[i]?=some (C[i]'(by rw [h.len];omega)):=cK _
  grind[Nat.beq_eq,Vk]
 have l:Nat.beq (Nat.land (sq o) lm) (sq o)=o.after.all λe=> !Region.binds .any e || C.toArray.getD e.on false:=by
  rw [J1,Nat.beq_eq,Vl,Array.all_eq_true'];simp only [akB];constructor
  ·intro b e f
   cases a:Region.binds .any e with
   |false=>rfl
   |true=>
    have:=b e.on ⟨e,by grind,a,rfl⟩;rw [h.bit] at this
    simp_all
  ·rintro b j ⟨e,f,a,rfl⟩;have:=b e (by grind);rw [a,yp] at this;rw [h.bit]
   grind
 grind
theorem HU (h:Mask ops lm a):∀ (l) (i) (t),ops.toList.drop i=l->oE ops i l t=true->
 (eh lm i l t).map (·.1)=(List.range' i l.length).filter (HT ops a)/\∀x ∈ eh lm i l t,ops[x.1]?=some x.2.1/\x.2.2=nz ops x.2.1 x.1 0 ops.toList/\x.1<ops.size
 | [],i,t,hd,j=>by grind[eh]
 |o::r,i,t,hd,j=>by
  match t,j with
  |d::c::t,j=>
   unfold oE at j;simp [bb,Nat.beq_eq] at j;obtain ⟨I,J,C⟩:=j
   have e:ops[i]?=some o:=by
    have:=bz (·[0]?) hd
    grind
   have f:=(gM.1 e).1
   have b:ops.toList.drop (i+1)=r:=by
    grind[List.tail_drop]
   obtain ⟨g,k⟩:=HU h r (i+1) t b C
   grind[eh,List.range'_succ,ajj]
theorem VP (h:Mask ops lm C) {x:Nat×Oper×Nat} (i:ops[x.1]?=some x.2.1/\x.2.2=nz ops x.2.1 x.1 0 ops.toList/\x.1<ops.size):
 Nat.beq (Nat.land x.2.2 lm) x.2.2=Region.free .any ops C.toArray x.1:=by
 obtain ⟨k,l,m⟩:=i;rw [J1,Nat.beq_eq,Vl,l];unfold Region.free;rw [k];simp only [gU,List.mem_range,Wf];constructor
 ·intro c j a;rw [yp];have g:C[j]?=some (C[j]'(by rw [h.len];exact a)):=cK _;have o:=sO a;rw [o];simp
  cases d:(j==x.1 || (ops[j].after.any (λe=>Region.binds .any e && e.on==x.1) || x.2.1.apart ops ops[j])) with
  |true=>
   grind
  |false=>
   have:=c j ⟨j,ops[j],by simp,by omega,d⟩;rw [h.bit,g] at this
   grind
 ·rintro c j ⟨n,p,r,s,q⟩;have f:n=j:=by omega
  subst f;have b:ops[n]?=some p:=by grind
  have a:n<ops.size:=(gM.1 b).1;have:=c n a;rw [b,yp] at this;simp at this;simp [DS] at q;rw [h.bit];have g:C[n]?=some (C[n]'(by rw [h.len];exact a)):=cK _
  grind
theorem aiK (h:Mask ops lm j) (a:ops[x.1]?=some x.2.1/\x.2.2=nz ops x.2.1 x.1 0 ops.toList/\x.1<ops.size):
 uI P ops lm C x=rP P ops j C x.1:=by
 grind[uI,rP,VP]
theorem Cz (h:Mask ops lm j) (a:oE ops 0 ops.toList C=true):
 gk ops j=(eh lm 0 ops.toList C).map (·.1):=by
 rw [(HU h ops.toList 0 C (by simp) a).1];unfold gk Region.ready;rw [List.range_eq_range',sN];rfl
theorem Tr.WN (i):Tr.go .nil i= .undef:=rfl
theorem Tr.Dp (v) (i):Tr.go (.leaf v) i=bif Nat.beq i 0 then v else .undef:=by
 have h:Tr.go (.leaf v) i=Bool.rec (motive:=λ_=>PV) .undef v (Nat.beq i 0):=rfl;rw [h];cases Nat.beq i 0 <;>rfl
theorem Tr.vn (a b c d) (i):Tr.go (.node a b c d) i=nj (i % 4) a.go b.go c.go d.go (i / 4):=rfl
theorem Tr.Jq (i):Tr.has .nil i=false:=rfl
theorem Tr.Js (v) (i):Tr.has (.leaf v) i=Nat.beq i 0:=rfl
theorem Tr.vm (a b c d) (i):Tr.has (.node a b c d) i=nj (i % 4) a.has b.has c.has d.has (i / 4):=rfl
theorem Tr.alG (i) (v):Tr.set .nil i v= .nil:=rfl
theorem Tr.WL (u) (i) (v):Tr.set (.leaf u) i v= .leaf (bif Nat.beq i 0 then v else u):=by
 have h:Tr.set (.leaf u) i v=Bool.rec (motive:=λ_=>Tr) (.leaf u) (.leaf v) (Nat.beq i 0):=rfl;rw [h];cases Nat.beq i 0 <;>rfl
theorem Tr.WK (a b c d) (i) (v):Tr.set (.node a b c d) i v=nj (i % 4) (.node (a.set (i / 4) v) b c d) (.node a (b.set (i / 4) v) c d) (.node a b (c.set (i / 4) v) d) (.node a b c (d.set (i / 4) v)):=rfl
theorem Tr.alH (f) (p q):Tr.mapI f .nil p q= .nil:=rfl
theorem Tr.alI (f) (v) (p q):Tr.mapI f (.leaf v) p q= .leaf (f p v):=rfl
theorem Tr.WM (f) (a b c d) (p q):Tr.mapI f (.node a b c d) p q=
 .node (a.mapI f p (4*q)) (b.mapI f (p+q) (4*q)) (c.mapI f (p+2*q) (4*q)) (d.mapI f (p+3*q) (4*q)):=rfl
theorem rV (a b c d:α):nj 0 a b c d=a:=rfl
theorem rU (a b c d:α):nj 1 a b c d=b:=rfl
theorem rT (a b c d:α):nj 2 a b c d=c:=rfl
theorem rS (a b c d:α):nj 3 a b c d=d:=rfl
theorem oI (i):i % 4=0\/i % 4=1\/i % 4=2\/i % 4=3:=by omega
theorem Tr.alK (t:Tr):∀ (i) (v) (j),(t.set i v).go j=if j=i/\t.has i=true then v else t.go j:=by
 induction t with
 |nil=>grind[alG,Jq]
 |leaf u=>
  grind[WL,Dp,Js,Nat.eq_of_beq_eq_true]
 |node a b c d iha ihb ihc ihd=>
  intro i v j;rw [WK,vn,vm]
  rcases oI i with hi|hi|hi|hi <;>rcases oI j with hj|hj|hj|hj <;>
   simp [hi,hj,rV,rU,rT,rS,vn,iha,ihb,ihc,ihd] <;>
   first
    | (have:=by omega
       grind)
    | (have:=by omega
       simp [this,false_and,if_false])
theorem Tr.alJ (t:Tr):∀ (i) (v) (j),(t.set i v).has j=t.has j:=by
 induction t with
 |nil=>intro i v j;rfl
 |leaf u=>grind[WL,Js]
 |node a b c d g h k l=>
  intro i v j;rw [WK,vm]
  rcases oI i with e|e|e|e <;>rcases oI j with f|f|f|f <;>
   simp [e,f,rV,rU,rT,rS,vm,g,h,k,l]
theorem Tr.Jt (f) (hf:∀i,f i .undef= .undef) (t:Tr):∀ (p q j),(t.mapI f p q).go j=f (p+q*j) (t.go j):=by
 induction t with
 |nil=>grind[alH,WN]
 |leaf u=>
  grind[alI,Dp,Nat.eq_of_beq_eq_true]
 |node a b c d iha ihb ihc ihd=>
  intro p q j;rw [WM,vn,vn];have h4:j=4* (j / 4)+j % 4:=by omega
  have hm:4*q* (j / 4)=q* (4* (j / 4)):=by grind
  rcases oI j with hj|hj|hj|hj <;>simp [hj,rV,rU,rT,rS,iha,ihb,ihc,ihd,hm] <;>congr 1 <;>
   rw [hj] at h4 <;>(conv=>rhs;rw [h4]) <;>rw [Nat.mul_add] <;>omega
theorem Tr.Jr (f) (t:Tr):∀ (p q j),(t.mapI f p q).has j=t.has j:=by
 induction t with
 |nil=>intro p q j;rfl
 |leaf u=>intro p q j;rfl
 |node a b c d g h i k=>
  intro p q j;rw [WM,vm,vm];rcases oI j with e|e|e|e <;>simp [e,rV,rU,rT,rS,g,h,i,k]
theorem Tr.yu:∀ (f n),n<=f->∀i,(Tr.mk f n).has i=decide (i<n)
 |0,n,h,i=>by
  grind[Tr.mk,Jq]
 |f+1,n,h,i=>by
  rw [Tr.mk]
  cases j:Nat.beq n 0 with
  |true=>grind[Nat.eq_of_beq_eq_true,Jq]
  |false=>
   have C:=Xm j
   cases b:Nat.beq n 1 with
   |true=>
    grind[Js,Nat.beq_eq]
   |false=>
    have c:=Xm b;simp [aa];rw [vm];have e0:Nat.div (n+3) 4=(n+3) / 4:=rfl;have d:Nat.div (n+2) 4=(n+2) / 4:=rfl;have e:Nat.div (n+1) 4=(n+1) / 4:=rfl;have g:Nat.div n 4=n / 4:=rfl;rcases oI i with a|a|a|a <;>simp [a,rV,rU,rT,rS,e0,d,e,g]
    ·rw [yu f _ (by omega)];grind
    ·rw [yu f _ (by omega)];grind
    ·rw [yu f _ (by omega)];grind
    ·rw [yu f _ (by omega)];grind
theorem Tr.Jp:∀ (f n i),(Tr.mk f n).go i= .undef
 |0,n,i=>rfl
 |f+1,n,i=>by
  rw [Tr.mk]
  cases Nat.beq n 0 with
  |true=>rfl
  |false=>
   cases Nat.beq n 1 with
   |true=>grind[Dp]
   |false=>
    simp [aa,vn];rcases oI i with hi|hi|hi|hi <;>simp [hi,rV,rU,rT,rS] <;>exact Jp f _ _
theorem Tr.alL (t):∀ (d k),(t.go d).refs k=true->Tr.rec (motive:=λ_=>Bool) false (λv=>v.refs k) (λ_ _ _ _ a b c d=>a || (b || (c || d))) t=true:=by
 induction t with
 |nil=>grind[WN,PV.refs]
 |leaf v=>
  grind[Dp,PV.refs]
 |node a b c e iha ihb ihc ihd=>
  intro d k h;rw [vn] at h;have key:∀x y z w,(x=true\/y=true\/z=true\/w=true)->(x || (y || (z || w)))=true:=by decide
  refine key _ _ _ _ ?_;rcases oI d with hd|hd|hd|hd <;>simp [hd,rV,rU,rT,rS] at h
  all_goals grind
theorem qd (s:Sl) (i) (v) (j):(s.set i v).go j=if j=i/\s.has i=true then v else s.go j:=Tr.alK _ _ _ _
theorem C5 (s:Sl) (i) (v) (j):(s.set i v).has j=s.has j:=Tr.alJ _ _ _ _
theorem ye (f) (hf:f .undef= .undef) (s:Sl) (i):(s.map f).go i=f (s.go i):=Tr.Jt _ (λ_=>hf) _ _ _ _
theorem VD (f) (s:Sl) (i):(s.map f).has i=s.has i:=Tr.Jr _ _ _ _ _
theorem VG (s:Sl) (i):s.ungd.go i=Fw.ungd (s.go i):=Tr.Jt _ (λ_=>rfl) _ _ _ _
theorem VC (s:Sl) (i):s.ungd.has i=s.has i:=Tr.Jr _ _ _ _ _
theorem VJ (w) (s) (d):(vf w s).go d=if d ∈ w then .undef else Fw.ungd (s.go d):=by
 have h:=Tr.Jt (λi v=>bif w.any (Nat.beq i) then .undef else Fw.ungd v) (λi=>by cases w.any (Nat.beq i) <;>rfl) s.t 0 1 d;have e:(vf w s).go d=(Tr.mapI (λi v=>bif w.any (Nat.beq i) then .undef else Fw.ungd v) s.t 0 1).go d:=rfl;rw [e,h]
 have hb:(w.any (Nat.beq (0+1*d)))=decide (d ∈ w):=by
  grind[Nat.eq_of_beq_eq_true,Nat.beq_refl]
 rw [hb];by_cases hd:d ∈ w <;>simp [hd,al,aK,ah,aa,aI,aH] <;>rfl
theorem VE (w) (s) (i):(vf w s).has i=s.has i:=Tr.Jr _ _ _ _ _
theorem Da (s:Sl) (d k) (h:(s.go d).refs k=true):s.refs k=true:=Tr.alL _ d k h
structure Sized (n:Nat) (s:Sl):Prop where
 has:∀i,s.has i=decide (i<n)
 gds:∀i s' w v,s.go i= .gd s' w v->s' ∈ s.g
theorem Sized.lt (h:Sized n s) (i):s.has i=true↔i<n:=by rw [h.has];simp
theorem ajG (h:x ∈ g):x ∈ Db v g:=by
 unfold Db;grind
theorem Sized.set (h:Sized n s) (i) (v):Sized n (s.set i v):=by
 refine ⟨λj=>by rw [C5];exact h.has j,λj s' w u he=> ?_⟩;rw [qd] at he;split at he
 ·grind[Sl.set,Db]
 ·exact ajG (h.gds _ _ _ _ he)
theorem Sized.map (h:Sized n s) (f) (hf:f .undef= .undef) (hg:∀p s' w v,f p= .gd s' w v->p= .gd s' w v):Sized n (s.map f):=by
 refine ⟨λj=>by rw [VD];exact h.has j,λj s' w u he=> ?_⟩;rw [ye f hf] at he;exact h.gds _ _ _ _ (hg _ _ _ _ he)
theorem Sized.ungd (h:Sized n s):Sized n s.ungd:=by
 refine ⟨λj=>by rw [VC];exact h.has j,λj s' w u he=> ?_⟩;rw [VG] at he;cases hp:s.go j <;>rw [hp] at he <;>simp [Fw.ungd] at he
theorem Sized.WY :∀ (l) (s) (i),Sized n s->Sized n (Sl.vo s i l)
 | [],_,_,h=>h
 |v::r,s,i,h=>Sized.WY r _ _ (h.set i v)
theorem Sized.Jz (n) (l):Sized n (Sl.oP n l):=
 Sized.WY _ _ _ ⟨λi=>Tr.yu n n (aR _) i,λi a w v b=>by
  grind[Sl.go,Tr.Jp]⟩
theorem VI :∀ (l) (s) (i),Sized n s->i+l.length<=n->∀j,(Sl.vo s i l).go j=if i<=j/\j<i+l.length then (l[j - i]?).getD .undef else s.go j
 | [],s,i,h,hl,j=>by grind[Sl.vo]
 |v::r,s,i,h,hl,j=>by
  rw [aW] at hl;rw [Sl.vo,VI r _ (i+1) (h.set i v) (by omega) j,qd];simp [h.lt i]
  grind
theorem VH (l) (h:l.length<=n) (j):(Sl.oP n l).go j=(l[j]?).getD .undef:=by
 have h0:Sized n ⟨Tr.mk n n,[]⟩:=Sized.Jz n [];unfold Sl.oP;rw [VI l _ 0 h0 (by omega) j];split
 ·simp
 ·rename_i hh;have:(l[j]?)=none:=List.getElem?_eq_none (by omega);rw [this];exact Tr.Jp _ _ _
theorem II (h:Sized n s) (hd:jC s (some d)=false) (i j) (w) (v) (a:s.go i= .gd j w v):j≠d:=by
 rintro rfl;have:=h.gds _ _ _ _ a
 grind[jC,Nat.beq_refl]
end Go.Fw
namespace Go.Fw
open Go.RowKit (Below)
def bytesOf (s:ByteArray):=s.data.toList.map λb=>(b.toNat:Int)
def aJ (w:World) (ok:Nat->Prop):(t:Ty)->t.den->List Value->Prop
 | .int k,n,cs=>cs= [.int k n]/\(Lit.int k n).wf=true
 | .bool,b,cs=>cs= [.bool b]
 | .flt,x,cs=>∃b,cs= [.float .f64 b]/\aX b=x
 | .str,s,cs=>∃b,cs= [.string b]/\s=bytesOf b/\b.size<=9223372036854775807
 | .unit,_,cs=>cs= []
 | .pair a b,x,cs=>∃c1 d,cs=c1++d/\aJ w ok a x.1 c1/\aJ w ok b x.2 d
 | .slice _ t,l,cs=>∃A n,cs= [.slice A l.length n]/\l.length<=n/\n<=9223372036854775807/\
  (0<l.length->∃b off,A=some ⟨b,off,none⟩/\ok b/\∀ (j) (x),l[j]?=some x->
   ∃c,aJ w ok t x c/\∀ (i) (u),c[i]?=some u->w.cell? ⟨b,off+j*t.size+i,none⟩=some u)
def jH (w:World) (ok:Nat->Prop) (t:Ty) (A:Option Addr) (l:List t.den):=
 0<l.length->∃b off,A=some ⟨b,off,none⟩/\ok b/\∀ (j) (x),l[j]?=some x->
  ∃c,aJ w ok t x c/\∀ (i) (u),c[i]?=some u->w.cell? ⟨b,off+j*t.size+i,none⟩=some u
theorem aJ.len :∀{t} {x} {cs},aJ w ok t x cs->cs.length=t.size
 | .int _,_,_,h=>by rw [h.1];rfl
 | .bool,_,_,h=>by rw [show _=_ from h];rfl
 | .flt,_,_,⟨_,h,_⟩=>by rw [h];rfl
 | .str,_,_,⟨_,h,_⟩=>by rw [h];rfl
 | .unit,_,_,h=>by rw [show _=_ from h];rfl
 | .pair _ _,_,_,⟨_,_,h,j,C⟩=>by rw [h,cq,j.len,C.len];rfl
 | .slice _ _,_,_,⟨_,_,h,_⟩=>by rw [h];rfl
theorem aJ.one :∀{t} {x} {cs},aJ w ok t x cs->∀u ∈ cs,u.oneCell'=true
 | .int _,_,_,h=>by rw [h.1];simp [Value.oneCell']
 | .bool,_,_,h=>by rw [show _=_ from h];simp [Value.oneCell']
 | .flt,_,_,⟨_,h,_⟩=>by grind[Value.oneCell']
 | .str,_,_,⟨_,h,_⟩=>by grind[Value.oneCell']
 | .unit,_,_,h=>by rw [show _=_ from h];simp
 | .pair _ _,_,_,⟨_,_,h,C,I⟩=>by
   rw [h];intro u j;rcases cz.1 j with j|j
   ·exact C.one u j
   ·exact I.one u j
 | .slice _ _,_,_,⟨_,_,h,_⟩=>by grind[Value.oneCell']
theorem vi {w w1:World} (h:w1.heap[b]?=w.heap[b]?) (off):w1.cell? ⟨b,off,none⟩=w.cell? ⟨b,off,none⟩:=by
 simp [World.cell?,h]
theorem aJ.move (d:∀b,ok b->w1.heap[b]?=w.heap[b]?) (a:∀b,ok b->ok1 b):
 ∀{t} {x} {cs},aJ w ok t x cs->aJ w1 ok1 t x cs
 | .int _,_,_,h=>h
 | .bool,_,_,h=>h
 | .flt,_,_,h=>h
 | .str,_,_,h=>h
 | .unit,_,_,h=>h
 | .pair _ _,_,_,⟨c1,C,h,I,J⟩=>⟨c1,C,h,I.move d a,J.move d a⟩
 | .slice _ _,_,_,⟨A,n,h,R,U,hr⟩=>⟨A,n,h,R,U,λh0=>by
  obtain ⟨b,off,hA,hb,hc⟩:=hr h0;refine ⟨b,off,hA,a b hb,λj x f=> ?_⟩;obtain ⟨c,hd,e⟩:=hc j x f
  exact ⟨c,hd.move d a,λi u g=>by grind[vi]⟩⟩
theorem jH.move (e:∀b,ok b->w1.heap[b]?=w.heap[b]?) (d:∀b,ok b->ok1 b) 
 (h:jH w ok t A l):jH w1 ok1 t A l:=λf=>by
 obtain ⟨b,off,g,k,m⟩:=h f;refine ⟨b,off,g,d b k,λj x n=> ?_⟩;obtain ⟨c,hd,a⟩:=m j x n;exact ⟨c,hd.move e d,λi u o=>by grind[vi]⟩
def eV (s:Bool) (v:Value) (cs:List Value):Prop:=match s with
 |true=>cs= [v]
 |false=>∃a,v= .agg a/\a.toList=cs
def qp (b:List MapEntry) (a):=(b.map (·.born)).Nodup/\∀x ∈ b,x.born<a
def lH (b:List MapEntry) (a:Nat):=b.length=a/\∀ (i) (e:MapEntry),b[i]?=some e->e.born=i
theorem lH.born (h:lH C j):qp C j:=by
 refine ⟨?_,λx b=> ?_⟩
 ·have:C.map (·.born)=List.range C.length:=by
   apply sK;intro i;rw [JN];by_cases a:i<C.length
   ·rw [cK a,List.getElem?_range a];exact bz some (h.2 i _ (cK a))
   grind
  grind
 ·obtain ⟨i,a⟩:=JM b;have:=h.2 i x a;have c:=(oS.1 a).1;rw [this,<-h.1];exact c
def ek (w:World) (ok:Nat->Prop) (m:MTy):List (m.k.den×m.v.den)->List MapEntry->Prop
 | [],j=>j= []
 |e::r,j=>∃x s cs,j=x::s/\eV m.s x.key cs/\aJ w ok m.k e.1 cs/\aJ w ok m.v e.2 [x.val]/\ek w ok m r s
def vr (w:World) (ok:Nat->Prop) (m:MTy) (i:Option Nat) (d:Nat) (c:Array Nat) (a:Nat) (left:List (m.k.den×m.v.den)) (g:Option (m.k.den×m.v.den)):=
 (i=none/\left= []/\g=none)\/∃b h,i=some b/\ok b/\w.heap[b]?=some (.map h a)/\qp h.toList a/\d=a/\ek w ok m left (h.filter λe=> !c.contains e.born).toList/\
  ∀x y,g=some (x,y)->∃e ∈ h.toList,∃f:Array Nat,c=f.push e.born/\∃cs,eV m.s e.key cs/\aJ w ok m.k x cs/\aJ w ok m.v y [e.val]
def Dr (w) (ok) (m) (A) (l):=
 (A=none/\l= [])\/∃b c a,A=some b/\ok b/\w.heap[b]?=some (.map c a)/\ek w ok m l c.toList/\qp c.toList a
theorem ek.move (a:∀b,ok b->w1.heap[b]?=w.heap[b]?) (c:∀b,ok b->ok1 b):∀{l} {d},ek w ok m l d->ek w1 ok1 m l d
 | [],_,h=>h
 |_::_,_,⟨x,s,cs,j,C,I,J,R⟩=>⟨x,s,cs,j,C,I.move a c,J.move a c,R.move a c⟩
theorem vr.move {a} (d:∀b,ok b->w1.heap[b]?=w.heap[b]?) (c:∀b,ok b->ok1 b) (h:vr w ok m J j a C left I):vr w1 ok1 m J j a C left I:=by
 rcases h with h| ⟨b,f,g,i,z,k,l,n,o⟩
 ·exact .inl h
 ·refine .inr ⟨b,f,g,c b i,by grind,k,l,n.move d c,λx y p=> ?_⟩;obtain ⟨e,q,r,s,cs,t,u,v⟩:=o x y p;exact ⟨e,q,r,s,cs,t,u.move d c,v.move d c⟩
theorem Dr.move (d:∀b,ok b->w1.heap[b]?=w.heap[b]?) (a:∀b,ok b->ok1 b) (h:Dr w ok m A l):Dr w1 ok1 m A l:=by
 rcases h with h| ⟨b,e,k,f,g,i,c⟩
 ·exact .inl h
 ·exact .inr ⟨b,e,k,f,a b g,by grind,c.1.move d a,c.2⟩
structure Cx where
 w:World
 ok:Nat->Prop
 ρ:Nat->Nat
 σ:Nat->Value
 pin:Nat->List Value
 ob:Nat->Option Ob
mutual
def RepV (c:Cx):PV->Value->Prop
 | .undef,_| .fresh ..,_| .bx _,_| .gd ..,_=>True
 | .int k n,v=>v= .int k n/\(Lit.int k n).wf=true
 | .bool b,v=>v= .bool b
 | .flt x,v=>∃b:Nat,v= .float .f64 b/\aX b=x
 | .str s,v=>∃b:ByteArray,v= .string b/\s=bytesOf b/\b.size<=9223372036854775807
 | .sl _ t l,v=>∃A n,v= .slice A l.length n/\l.length<=n/\n<=9223372036854775807/\jH c.w c.ok t A l
 | .full _ t l,v=>∃A,v= .slice A l.length l.length/\l.length<=9223372036854775807/\jH c.w c.ok t A l
 | .own k,v=>v=c.σ k/\∃A n m,v= .slice A n m
 | .view k C n j,v=>∃B D,v= .slice B n D/\(0<n->B=some ⟨c.ρ k,C*j,none⟩)
 | .agg l,v=>∃a,v= .agg a/\au c l a.toList
 | .tup l,v=>∃a,v= .tuple a/\au c l a.toList
 | .ptr k off,v=>v= .pointer (some ⟨c.ρ k,off,none⟩)
 | .cptr l,v=>∃b off cs,v= .pointer (some ⟨b,off,none⟩)/\c.ok b/\au c l cs/\∀ (i:Nat) (u:Value),cs[i]?=some u->c.w.cell? ⟨b,off+i,none⟩=some u
 | .optr k i j off,v=>v= .pointer (some ⟨c.ρ k,i.toNat*j+off,none⟩)/\∀e t l,c.ob k=some (.row e t l)\/(∃n,c.ob k=some (.arr e t n l))->0<=i/\i<l.length/\j=t.size
 | .fn f l,v=>∃a,v= .func (.func f) #[] a/\au c l a.toList
 | .bfn f p,v=>∃u,v= .func (.func f) #[u] #[]/\RepV c p u
 | .sptr k off n t i I,v=>v= .pointer (some ⟨c.ρ k,off+i.toNat*t.size+I,none⟩)/\0<=i/\i<n
 | .nilptr,v=>v= .pointer none
 | .nilfn,v=>v= .nilFunc
 | .nilerr,v=>v= .nilIface
 | .none_,v=>v= .slice none 0 0
 | .mown k,v=>v= .map (some (c.ρ k))
 | .mnone,v=>v= .map none
 | .mp m l,v=>∃A,v= .map A/\Dr c.w c.ok m A l
def au (c:Cx):List PV->List Value->Prop
 | [],vs=>vs= []
 |p::r,vs=>∃v j,vs=v::j/\RepV c p v/\au c r j
end
def dj (w:World) (b:Nat) (a) (cs):=
 ∃e,w.heap[b]?=some (.cells cs e (0,0))/\∀x,a=some x->e=x
def aT (w:World) (ok:Nat->Prop) (t:Ty):List t.den->List Value->Prop
 | [],cs=>cs= []
 |x::r,cs=>∃c j,cs=c++j/\aJ w ok t x c/\aT w ok t r j
def bI (c:Cx) (a:Act):PV->Value->Prop
 | .gd s w v,u=>(a.tmps.getD s undef= .bool w->RepV c v u)/\(a.tmps.getD s undef≠ .bool w->u=undef)
 |p,u=>RepV c p u
def nB (ρ:Nat->Nat):List (Int× (Nat×Nat))->List MapEntry->Prop
 | [],j=>j= []
 |e::r,j=>∃x s,j=x::s/\x.key= .int .u64 e.1/\x.val= .pointer (some ⟨ρ e.2.1,e.2.2,none⟩)/\nB ρ r s
def mz (c:Cx) (k:Nat):Ob->Prop
 | .box l=>∃cs,dj c.w (c.ρ k) none cs/\au c l cs.toList
 | .row e t l=>∃A n,c.σ k= .slice A l.length n/\l.length<=n/\n<=9223372036854775807/\
  ((n=0)\/(A=some ⟨c.ρ k,0,none⟩/\∃cs,dj c.w (c.ρ k) (some e) cs/\cs.size=n*t.size/\aT c.w c.ok t l (cs.toList.take (l.length*t.size))/\0<t.size))
 | .arr _ t n l=>l.length=n/\∃cs,dj c.w (c.ρ k) none cs/\aT c.w c.ok t l cs.toList
 | .held l=>Sized (c.pin k).length l/\∀d,bI c {tmps:=(c.pin k).toArray,defers:= []} (l.go d) ((c.pin k).getD d undef)
 | .frow _ t l=>∃A n,c.σ k= .slice A l.length n/\l.length<=n/\n<=9223372036854775807/\jH c.w c.ok t A l
 | .mp m l=>∃h a,c.w.heap[c.ρ k]?=some (.map h a)/\ek c.w c.ok m l h.toList/\lH h.toList a
 | .iter m left i=>∃j b f g,c.w.heap[c.ρ k]?=some (.mapIter j b f g)/\vr c.w c.ok m j b f g left i
 | .gone=>True
 | .pm l=>∃h a o,c.w.heap[c.ρ k]?=some (.map h a)/\o.Perm l/\nB c.ρ o h.toList/\qp h.toList a/\(l.map (·.1)).Nodup
def gm (c:Cx) (k:Nat):Ob->Prop
 | .box _| .arr ..| .mp ..| .iter ..| .pm _=>True
 | .row ..=>∃A n m,c.σ k= .slice A n m/\m≠0
 |_=>False
def bf (c) (k):=∃o,c.ob k=some o/\gm c k o
structure Kept (m:Nat->Prop) (w0 w:World):Prop where
 os:w.os=w0.os
 tape:w.tape=w0.tape
 output:w.output=w0.output
 size:w0.heap.size<=w.heap.size
 block:∀k,k<w0.heap.size->¬m k->w.heap[k]?=w0.heap[k]?
 drawn:w0.drawn<=w.drawn
structure MM where
 w:Nat->Prop
 k:Nat->Prop
 pin:Nat->List Value
structure Rep (m:MM) (w0:World) (st:St) (a:Act) (c:Cx):Prop where
 size:Sized a.tmps.size st.s
 slots:∀d,bI c a (st.get d) (a.tmps.getD d undef)
 defers:a.defers= []
 ob:∀k,c.ob k=st.obj k
 objs:∀k o,c.ob k=some o->mz c k o
 apart:∀k k',bf c k->bf c k'->c.ρ k=c.ρ k'->k=k'
 mine:∀k,bf c k->¬c.ok (c.ρ k)/\(w0.heap.size<=c.ρ k\/m.w (c.ρ k))/\c.ρ k<c.w.heap.size
 ok:∀b,c.ok b->b<c.w.heap.size
 kept:Kept m.w w0 c.w
 old:∀b,m.k b->c.ok b
 new:∀b,c.ok b->m.k b\/w0.heap.size<=b\/m.w b
 pin:c.pin=m.pin
structure Mv (S:Nat->Prop) (c c1:Cx):Prop where
 heap:∀b,c.ok b->c1.w.heap[b]?=c.w.heap[b]?
 ok:∀b,c.ok b->c1.ok b
 ρ:∀k,S k->c1.ρ k=c.ρ k
 σ:∀k,S k->c1.σ k=c.σ k
 ob:∀k e t l,S k->(c1.ob k=some (.row e t l)\/∃n,c1.ob k=some (.arr e t n l))->∃e' l',(c.ob k=some (.row e' t l')\/∃n,c.ob k=some (.arr e' t n l'))/\l'.length=l.length
mutual
theorem RepV.move {S:Nat->Prop} {c c1:Cx} (g:Mv S c c1):∀ (p:PV) (v:Value),(∀k,p.refs k=true->S k)->RepV c p v->RepV c1 p v
 | .undef,_,_,_| .fresh ..,_,_,_| .bx _,_,_,_| .gd ..,_,_,_=>by simp [RepV]
 | .int k n,v,_,h=>by grind[RepV]
 | .bool b,v,_,h=>by grind[RepV]
 | .str s,v,_,h=>by grind[RepV]
 | .flt x,v,_,h=>by grind[RepV]
 | .sl e t l,v,_,h=>by
   simp only [RepV] at h ⊢;obtain ⟨A,n,j,C,I,J⟩:=h;exact ⟨A,n,j,C,I,J.move g.heap g.ok⟩
 | .full e t l,v,_,h=>by
   simp only [RepV] at h ⊢;obtain ⟨A,j,I,J⟩:=h;exact ⟨A,j,I,J.move g.heap g.ok⟩
 | .own k,v,d,h=>by
   simp only [RepV] at h ⊢;have:=d k (by simp [PV.refs]);rw [g.σ k this];exact h
 | .agg l,v,d,h=>by
   simp only [RepV] at h ⊢;obtain ⟨a,j,C⟩:=h;exact ⟨a,j,au.move g l _ (λk o=>d k (by grind[PV.refs])) C⟩
 | .tup l,v,d,h=>by
   simp only [RepV] at h ⊢;obtain ⟨a,j,C⟩:=h;exact ⟨a,j,au.move g l _ (λk o=>d k (by grind[PV.refs])) C⟩
 | .ptr k off,v,d,h=>by
   simp only [RepV] at h ⊢;rw [g.ρ k (d k (by simp [PV.refs]))];exact h
 | .cptr l,v,d,h=>by
   simp only [RepV] at h ⊢;obtain ⟨b,off,cs,j,C,I,J⟩:=h;exact ⟨b,off,cs,j,g.ok b C,au.move g l _ (λk o=>d k (by grind[PV.refs])) I,λi u w=>by rw [vi (g.heap b C)];grind⟩
 | .optr k i q off,v,d,h=>by
   simp only [RepV] at h ⊢;have o:=d k (by simp [PV.refs]);rw [g.ρ k o];refine ⟨h.1,λe t l r=> ?_⟩;obtain ⟨y,z,j,C⟩:=g.ob k e t l o r
   grind
 | .fn f l,v,d,h=>by
   simp only [RepV] at h ⊢;obtain ⟨a,j,C⟩:=h;exact ⟨a,j,au.move g l _ (λk o=>d k (by grind[PV.refs])) C⟩
 | .bfn f p,v,d,h=>by
   simp only [RepV] at h ⊢;obtain ⟨u,j,C⟩:=h;exact ⟨u,j,RepV.move g p _ (λk o=>d k (by grind[PV.refs])) C⟩
 | .sptr k off n t i B,v,d,h=>by
   simp only [RepV] at h ⊢;rw [g.ρ k (d k (by simp [PV.refs]))];exact h
 | .view k D n q,v,d,h=>by
   simp only [RepV] at h ⊢;rw [g.ρ k (d k (by simp [PV.refs]))];exact h
 | .nilptr,v,_,h=>by grind[RepV]
 | .nilfn,v,_,h=>by grind[RepV]
 | .nilerr,v,_,h=>by grind[RepV]
 | .none_,v,_,h=>by grind[RepV]
 | .mnone,v,_,h=>by grind[RepV]
 | .mown k,v,d,h=>by
   simp only [RepV] at h ⊢;rw [g.ρ k (d k (by simp [PV.refs]))];exact h
 | .mp m l,v,_,h=>by
   simp only [RepV] at h ⊢;obtain ⟨A,j,C⟩:=h;exact ⟨A,j,C.move g.heap g.ok⟩
theorem au.move {S:Nat->Prop} {c c1:Cx} (a:Mv S c c1):∀ (l:List PV) (vs:List Value),(∀k,PV.jJ l k=true->S k)->au c l vs->au c1 l vs
 | [],vs,_,h=>by grind[au]
 |p::r,vs,j,h=>by
  simp only [au] at h ⊢;obtain ⟨v,C,I,J,R⟩:=h;exact ⟨v,C,I,RepV.move a p v (λk b=>j k (by grind[PV.jJ])) J,au.move a r C (λk b=>j k (by grind[PV.jJ])) R⟩
end
theorem bI.move (b:Mv S c c1) (d:∀k,p.refs k=true->S k) (h:bI c a p v):bI c1 a p v:=by
 cases p <;>simp [bI] at h ⊢ <;>first
  |exact ⟨λe=>RepV.move b _ _ (λk f=>d k (by grind[PV.refs])) (h.1 e),h.2⟩
  |exact RepV.move b _ _ d h
theorem bI.of (h:RepV c p v) (b:∀s w q,p≠ .gd s w q):bI c a p v:=by
 cases p <;>simp [bI] <;>first
  |exact absurd rfl (b _ _ _)
  |exact h
theorem bI.rep (h:bI c a p v):RepV c p v:=by
 cases p <;>simp [bI] at h <;>first
  |exact h
  |simp [RepV]
theorem au.length :∀{l} {vs},au c l vs->vs.length=l.length
 | [],_,h=>by grind[au]
 |_::_,_,h=>by
  simp [au] at h;obtain ⟨v,C,rfl,_,j⟩:=h;simp [j.length]
theorem au.append :∀{a b} {d e},au c a d->au c b e->au c (a++b) (d++e)
 | [],_,_,_,j,C=>by grind[au]
 |_::_,_,_,_,j,C=>by
  simp [au] at j;obtain ⟨v,R,rfl,I,J⟩:=j;simp only [dP,au];exact ⟨v,_,rfl,I,J.append C⟩
theorem au.drop :∀{l} {vs} (n),au c l vs->au c (l.drop n) (vs.drop n)
 |_,_,0,h=>h
 | [],_,n+1,h=>by grind[au]
 |_::_,_,n+1,h=>by
  simp [au] at h;obtain ⟨v,C,rfl,I,j⟩:=h;exact au.drop n j
theorem au.take :∀{l} {vs} (n),au c l vs->au c (l.take n) (vs.take n)
 |_,_,0,_=>by simp [au]
 | [],_,n+1,h=>by grind[au]
 |_::_,_,n+1,h=>by
  simp [au] at h;obtain ⟨v,I,rfl,j,C⟩:=h;simp only [List.take_succ_cons,au];exact ⟨v,_,rfl,j,au.take n C⟩
theorem au.get :∀{l} {vs} (i:Nat) {p},au c l vs->l[i]?=some p->∃v,vs[i]?=some v/\RepV c p v
 | [],_,_,_,_,h=>by grind
 |_::_,_,0,_,h,j=>by
  grind[au]
 |_::_,_,i+1,_,h,j=>by
  simp [au] at h;obtain ⟨v,I,rfl,J,C⟩:=h;obtain ⟨u,b,a⟩:=au.get i C (by simpa using j)
  grind
theorem au.splice (off) (h:au c l vs) (a:au c p j):
 au c (splice l off p) (vs.take off++j++vs.drop (off+j.length)):=by
 unfold Fw.splice;rw [show p.length=j.length from a.length.symm];exact ((h.take off).append a).append (h.drop _)
theorem RepV.one_cell (h:RepV c p v) (d:p.one=true):v.oneCell'=true:=by
 cases p <;>simp [PV.one,dQ] at d <;>simp only [RepV] at h
 case int=>rw [h.1];rfl
 case bool=>rw [h];rfl
 case str=>obtain ⟨b,rfl,_⟩:=h;rfl
 case flt=>obtain ⟨b,rfl,_⟩:=h;rfl
 case sl=>obtain ⟨A,n,rfl,_⟩:=h;rfl
 case full=>obtain ⟨A,rfl,_⟩:=h;rfl
 case own=>obtain ⟨_,A,n,m,rfl⟩:=h;rfl
 case ptr=>rw [h];rfl
 case cptr=>obtain ⟨b,off,cs,rfl,_⟩:=h;rfl
 case optr=>rw [h.1];rfl
 case fn=>obtain ⟨a,rfl,_⟩:=h;rfl
 case bfn=>obtain ⟨a,rfl,_⟩:=h;rfl
 all_goals (rw [h];rfl)
theorem akK {v:Value} (h:v.oneCell'=true):v.cells= #[v]:=by cases v <;>simp_all [Value.oneCell',Value.cells]
theorem PV.W8 {p:PV} (h:p.one=true):p.cells= [p]:=by cases p <;>simp_all [PV.one,PV.cells]
theorem RepV.cells (h:RepV c p v) (b:p.one=true\/∃l,p= .agg l):au c p.cells v.cells.toList:=by
 rcases b with b| ⟨l,rfl⟩
 ·rw [PV.W8 b,Fw.akK (h.one_cell b)]
  grind[au]
 ·simp [RepV] at h;obtain ⟨a,rfl,h⟩:=h;exact h
theorem au.one :∀{l} {vs},au c l vs->l.all PV.one=true->∀u ∈ vs,u.oneCell'=true
 | [],_,h,_=>by grind[au]
 |_::_,_,h,j=>by
  simp [au] at h;obtain ⟨v,J,rfl,C,I⟩:=h;simp only [JY,bb] at j;intro u a;rcases a8.1 a with rfl|a
  ·exact C.one_cell j.1
  ·exact I.one j.2 u a
theorem aJ.leaves :∀{t} {x} {cs},aJ c.w c.ok t x cs->au c (t.leaves x) cs
 | .int _,_,_,h=>by simp only [Ty.leaves,au,RepV];exact ⟨_,[],h.1,⟨rfl,h.2⟩,rfl⟩
 | .bool,_,_,h=>by simp only [Ty.leaves,au,RepV];exact ⟨_,[],h,rfl,rfl⟩
 | .str,_,_,⟨b,j,C,U⟩=>by grind[Ty.leaves,au,RepV]
 | .unit,_,_,h=>by simp [Ty.leaves,au];exact h
 | .flt,_,_,⟨b,j,C⟩=>by grind[Ty.leaves,au,RepV]
 | .pair _ _,_,_,⟨c1,c2,h,j,C⟩=>by
   rw [h];exact j.leaves.append C.leaves
 | .slice _ _,_,_,⟨A,n,h,I,J,R⟩=>by
   simp only [Ty.leaves,au,RepV];exact ⟨_,[],h,⟨A,n,rfl,I,J,R⟩,rfl⟩
theorem Ty.Dn :∀{t} {l r} {x} {vs},t.take l=some (x,r)->au c l vs->
 ∃f m,vs=f++m/\aJ c.w c.ok t x f/\au c r m
 | .int k,l,r,x,vs,h,j=>by
   cases l with
   |nil=>grind[Ty.take]
   |cons p q=>
    simp [au] at j;obtain ⟨v,J,rfl,C,I⟩:=j;cases p <;>simp only [Ty.take] at h <;>try (simp at h;done)
    split at h
    ·rename_i y;subst y;simp [aB,aL] at h;obtain ⟨rfl,rfl⟩:=h;simp [RepV] at C;exact ⟨[v],J,rfl,⟨by grind,C.2⟩,I⟩
    grind
 | .flt,l,r,x,vs,h,j=>by
   cases l with
   |nil=>grind[Ty.take]
   |cons p q=>
    simp [au] at j;obtain ⟨v,J,rfl,C,I⟩:=j;cases p <;>simp only [Ty.take] at h <;>try (simp at h;done)
    simp [aB,aL] at h;obtain ⟨rfl,rfl⟩:=h;simp [RepV] at C;obtain ⟨b,o,s⟩:=C;exact ⟨[v],J,rfl,⟨b,by rw [o],s⟩,I⟩
 | .bool,l,r,x,vs,h,j=>by
   cases l with
   |nil=>grind[Ty.take]
   |cons p q=>
    simp [au] at j;obtain ⟨v,J,rfl,C,I⟩:=j;cases p <;>simp only [Ty.take] at h <;>try (simp at h;done)
    simp [aB,aL] at h;obtain ⟨rfl,rfl⟩:=h;simp only [RepV] at C;exact ⟨[v],J,rfl,by rw [C];rfl,I⟩
 | .str,l,r,x,vs,h,j=>by
   cases l with
   |nil=>grind[Ty.take]
   |cons p q=>
    simp only [au] at j;obtain ⟨v,J,rfl,C,I⟩:=j;cases p <;>simp only [Ty.take] at h <;>try (simp at h;done)
    simp only [aB,aL] at h;obtain ⟨rfl,rfl⟩:=h;simp only [RepV] at C;obtain ⟨b,d,g,i⟩:=C;exact ⟨[v],J,rfl,⟨b,by rw [d],g,i⟩,I⟩
 | .unit,l,r,x,vs,h,j=>by
   simp only [Ty.take,aB,aL] at h;obtain ⟨_,rfl⟩:=h;exact ⟨[],vs,rfl,rfl,j⟩
 | .pair a b,l,r,x,vs,h,j=>by
   simp only [Ty.take] at h;split at h
   ·rename_i E F d;split at h
    ·rename_i G H g;simp only [aB,aL] at h;obtain ⟨rfl,rfl⟩:=h;obtain ⟨f,m,rfl,z,I⟩:=Ty.Dn d j;obtain ⟨v3,v4,rfl,B,I⟩:=Ty.Dn g I;exact ⟨f++v3,v4,by simp,⟨f,v3,rfl,z,B⟩,I⟩
    grind
   grind
 | .slice e t,l,r,x,vs,h,j=>by
   cases l with
   |nil=>grind[Ty.take]
   |cons p q=>
    simp only [au] at j;obtain ⟨v,J,rfl,C,I⟩:=j;cases p <;>simp only [Ty.take] at h <;>try (simp at h;done)
    all_goals
     split at h
     ·rename_i D;subst D;simp only [aB,aL] at h;obtain ⟨rfl,rfl⟩:=h;simp only [RepV] at C
      first
       | (obtain ⟨A,n,d,g,i,u⟩:=C;exact ⟨[v],J,rfl,⟨A,n,by rw [d],g,i,u⟩,I⟩)
       | (obtain ⟨A,d,i,u⟩:=C;exact ⟨[v],J,rfl,⟨A,_,by rw [d],aR _,i,u⟩,I⟩)
     grind
theorem Ty.fU {x} (h:t.of l=some x) (a:au c l vs):aJ c.w c.ok t x vs:=by
 grind[Ty.of,Ty.Dn,au]
end Go.Fw
