/- Part 6: lemmas that the last text needs. -/
import Derived.Test.YtkihadlgknhpkaaGreatDoorX5
import Derived.MapKept
import Derived.Maps.RangeRun
set_option linter.all false
set_option autoImplicit true
set_option relaxedAutoImplicit true
namespace Go.Fw
open Go.RowKit (Below)
theorem I1:∀{t} {a b},cj t a b=true->a=b
 | .int _,_,_,h=>by grind[cj]
 | .bool,_,_,h=>by grind[cj]
 | .str,_,_,h=>by grind[cj]
 | .unit,_,_,_=>rfl
 | .pair _ _,_,_,h=>by
   simp only [cj,bb] at h;exact aM (I1 h.1) (I1 h.2)
 | .slice _ _,_,_,h=>by grind[cj]
theorem Wl (h:bytesOf b=bytesOf j):b=j:=by
 have:=Je.1 h;cases b;simp_all
theorem akO (b:ByteArray):(b==b)=true:=by
 grind[MapKept.bytes_beq]
def Ty.flatT:Ty->Bool
 | .int _| .bool| .str| .unit=>true
 | .pair a b=>a.flatT && b.flatT
 | .slice _ _| .flt=>false
theorem aJ.inj :∀{t} {x} {cs C},t.flatT=true->aJ w ok t x cs->aJ w ok t x C->cs=C
 | .int _,_,_,_,_,h,j=>h.1.trans j.1.symm
 | .bool,_,_,_,_,h,j=>Eq.trans h (Eq.symm j)
 | .str,_,_,_,_,⟨b,h1,h2,_⟩,⟨b',I,J,_⟩=>by grind[Wl]
 | .unit,_,_,_,_,h,j=>Eq.trans h (Eq.symm j)
 | .pair _ _,_,_,_,U,⟨c1,c2,h,h1,h2⟩,⟨d1,d2,j,I,J⟩=>by
   simp only [Ty.flatT,bb] at U;rw [h,j,aJ.inj U.1 h1 I,aJ.inj U.2 h2 J]
 | .slice _ _,_,_,_,U,_,_=>by grind[Ty.flatT]
 | .flt,_,_,_,U,h,j=>by grind[Ty.flatT]
theorem aJ.bits (n):∀{t} {x} {cs},t.flatT=true->aJ w ok t x cs->∀u ∈ cs,Instr.sameBits n u u=true
 | .int _,_,_,_,h,u,j=>by rw [h.1] at j;grind[Instr.sameBits]
 | .bool,_,_,_,h,u,j=>by rw [show _=_ from h] at j;grind[Instr.sameBits]
 | .str,_,_,_,⟨b,h,_⟩,u,j=>by grind[Instr.sameBits,akO]
 | .unit,_,_,_,h,u,j=>by rw [show _=_ from h] at j;grind
 | .pair _ _,_,_,C,⟨c1,U,h,I,J⟩,u,j=>by
   simp only [Ty.flatT,bb] at C;rw [h] at j;rcases cz.1 j with j|j
   ·exact aJ.bits n C.1 I u j
   ·exact aJ.bits n C.2 J u j
 | .slice _ _,_,_,C,_,_,_=>by grind[Ty.flatT]
 | .flt,_,_,C,h,_,_=>by grind[Ty.flatT]
section
variable {P:Program}
theorem CU :∀{t},dw P C t=true->∀x y,∃p q,t.leaves x= [p]/\t.leaves y= [q]/\jF P C p q=some (cj t x y)
 | .int k,h,x,y=>by
   simp only [dw] at h;split at h
   ·rename_i I j;exact ⟨_,_,rfl,rfl,by grind[jF,cj]⟩
   grind
 | .bool,h,x,y=>by
   simp only [dw] at h;split at h
   ·rename_i j;exact ⟨_,_,rfl,rfl,by grind[jF,cj]⟩
   grind
 | .str,h,x,y=>by
   simp only [dw] at h;split at h
   ·rename_i j;exact ⟨_,_,rfl,rfl,by grind[jF,cj]⟩
   grind
 | .unit,h,_,_=>by grind[dw]
 | .pair _ _,h,_,_=>by grind[dw]
 | .slice _ _,h,_,_=>by grind[dw]
theorem xZ :∀{t},dw P j t=true->t.flatT=true
 | .int k,h=>rfl
 | .bool,h=>rfl
 | .str,h=>rfl
 | .unit,h=>rfl
 | .pair _ _,h=>by grind[dw]
 | .slice _ _,h=>by grind[dw]
theorem xY (h:dw P j t=true):∃d,P.underlying j=some d/\mw d=false/\∀ (b) (n) (v) (w),(Instr.checkKey b (n+1) j v).run P w= .ok () w:=by
 cases t <;>simp only [dw] at h <;>try (simp at h;done)
 all_goals
  split at h
  ·rename_i e;refine ⟨_,e,rfl,λb n v w=> ?_⟩;unfold Instr.checkKey;simp only [Sem.run_bind,bh e,Result.andThen_ok,Sem.run_pure]
  grind
theorem Iz:∀ (d) (i) (t),di P i d t=true->∀x y,lE P i d (t.leaves x) (t.leaves y)=some (cj t x y)
 | [],_,_,h,_,_=>by grind[di]
 | [f],i,t,h,x,y=>by
   simp only [di,bb] at h;obtain ⟨p,q,j,C,I⟩:=CU h.2 x y
   grind[lE]
 |f::g::d,i,.pair a b,h,x,y=>by
  simp only [di,bb] at h;obtain ⟨p,q,j,C,I⟩:=CU h.1.2 x.1 y.1;simp only [Ty.leaves,j,C,List.singleton_append];rw [lE];have:=Iz (g::d) (i+1) b h.2 x.2 y.2
  grind[cj]
 |_::_::_,_,.int _,h,_,_=>by grind[di]
 |_::_::_,_,.bool,h,_,_=>by grind[di]
 |_::_::_,_,.str,h,_,_=>by grind[di]
 |_::_::_,_,.unit,h,_,_=>by grind[di]
 |_::_::_,_,.slice _ _,h,_,_=>by grind[di]
theorem Vm:∀ (d) (i) (t),di P i d t=true->t.flatT=true
 | [],_,_,h=>by grind[di]
 | [f],i,t,h=>by grind[di,xZ]
 |f::g::d,i,.pair a b,h=>by
  simp only [di,bb] at h;simp [Ty.flatT,xZ h.1.2,Vm (g::d) (i+1) b h.2]
 |_::_::_,_,.int _,h=>by grind[di]
 |_::_::_,_,.bool,h=>by grind[di]
 |_::_::_,_,.str,h=>by grind[di]
 |_::_::_,_,.unit,h=>by grind[di]
 |_::_::_,_,.slice _ _,h=>by grind[di]
theorem IA (l) (n) (w) (xs):∀ (j) (i) (t),di P i j t=true->i+t.size<=xs.size->
 (forIn j PUnit.unit (λf _=>if f.name≠ "_" then do
  let p<-part f.type xs f.offset
  Instr.checkKey l (n+1) f.type p
  pure (ForInStep.yield PUnit.unit)
  else pure (ForInStep.yield PUnit.unit)):Sem PUnit).run P w= .ok PUnit.unit w
 | [],_,_,h,_=>by simp_all
 | [f],i,t,h,J=>by
   simp only [di,bb] at h;obtain ⟨d,hd,C,I⟩:=xY h.2;have e:t.size=1:=by cases t <;>simp [dw] at h <;>rfl
   have q:f.offset=i:=by grind
   have k:xs[f.offset]?=some (xs[i]'(by omega)):=by grind
   simp only [JP,List.forIn_nil,Sem.run_bind,nE.1 h.1.2,cU,iI,aI,rX hd C k,Result.andThen_ok,I,Sem.run_pure]
 |f::g::j,i,.pair a b,h,J=>by
  simp only [di,bb] at h;obtain ⟨d,hd,C,I⟩:=xY h.1.2;have e:a.size=1:=by have s:=h.1.2;cases a <;>simp [dw] at s <;>rfl
  simp only [Ty.size,e] at J;have q:f.offset=i:=by grind
  have k:xs[f.offset]?=some (xs[i]'(by omega)):=by grind
  have u:=IA l n w xs (g::j) (i+1) b h.2 (by omega);rw [JP];simp only [Sem.run_bind,nE.1 h.1.1.2,cU,iI,aI,rX hd C k,Result.andThen_ok,I,Sem.run_pure];exact u
 |_::_::_,_,.int _,h,_=>by grind[di]
 |_::_::_,_,.bool,h,_=>by grind[di]
 |_::_::_,_,.str,h,_=>by grind[di]
 |_::_::_,_,.unit,h,_=>by grind[di]
 |_::_::_,_,.slice _ _,h,_=>by grind[di]
variable {w:World} {ok:Nat->Prop}
theorem ai7 (d:P.underlying k=some (.struct j)) (v) (b) (w1):(Instr.findKey k v b).run P w1=(Instr.findAsking k v b).run P w1:=by
 unfold Instr.findKey;simp only [Sem.run_bind,bh d,Result.andThen_ok]
 cases b with
 |nil=>simp [Instr.findNow,Instr.findAsking]
 |cons e r=>simp [Instr.findNow,Instr.sameNow]
structure KeyOk (P:Program) (k:TypeId) (m:MTy):Prop where
 eq:∀{w:World} {ok:Nat->Prop} {x y:m.k.den} {u v:Value} {cs ds:List Value},eV m.s u cs->eV m.s v ds->aJ w ok m.k x cs->aJ w ok m.k y ds->∀w1,(Op.equal k u v).run P w1= .ok (cj m.k x y) w1
 check:∀{w:World} {ok:Nat->Prop} {x:m.k.den} {u:Value} {cs:List Value},eV m.s u cs->aJ w ok m.k x cs->∀ (em:Bool) (w1:World),(Instr.checkKey em 10000 k u).run P w1= .ok () w1
 now:∀{w:World} {ok:Nat->Prop} {x:m.k.den} {u:Value} {cs:List Value},eV m.s u cs->aJ w ok m.k x cs->∀{l:List (m.k.den×m.v.den)} {es:List MapEntry},ek w ok m l es->∀w1,(Instr.findKey k u es).run P w1=(Instr.findAsking k u es).run P w1
 flat:m.k.flatT=true
theorem eV.inj (h:eV s u cs) (j:eV s v cs):u=v:=by
 cases s with
 |true=>
  grind[eV]
 |false=>
  obtain ⟨a,rfl,e⟩:=h;obtain ⟨b,rfl,d⟩:=j
  grind[Array.toList_inj]
theorem eV.bits (b:t.flatT=true) (h:eV s u cs) (hd:aJ w ok t x cs):Instr.sameBits 10000 u u=true:=by
 cases s with
 |true=>
  grind[eV,aJ.bits]
 |false=>
  obtain ⟨a,rfl,rfl⟩:=h
  grind[Instr.sameBits,List.getElem_of_mem,aJ.bits]
theorem ai4 (f:P.underlying k=some d):∀{t},dw P k t=true->∀{x y} {u v},aJ w ok t x [u]->aJ w ok t y [v]->Instr.sameNow d u v=some (cj t x y)
 | .int U,h,x,y,u,v,C,I=>by
   simp only [dw] at h;split at h
   ·rename_i k' j;rw [f] at j;cases j;have J:=C.1;have e:=I.1
    grind[Instr.sameNow,cj]
   grind
 | .bool,h,x,y,u,v,C,I=>by
   simp only [dw] at h;split at h
   ·rename_i j;rw [f] at j;cases j;have J: [u]= [.bool x]:=C;have e: [v]= [.bool y]:=I;simp only [oU,dn] at J e;subst J;subst e;cases x <;>cases y <;>rfl
   grind
 | .str,h,x,y,u,v,C,I=>by
   simp only [dw] at h;split at h
   ·rename_i j;rw [f] at j;cases j;obtain ⟨b,J,e,_⟩:=C;obtain ⟨l,g,i,_⟩:=I
    grind[Instr.sameNow,cj,MapKept.bytes_beq,Wl]
   grind
 | .unit,h,_,_,_,_,_,_=>by grind[dw]
 | .pair _ _,h,_,_,_,_,_,_=>by grind[dw]
 | .slice _ _,h,_,_,_,_,_,_=>by grind[dw]
theorem UA (h:dw P k t=true) (f:aJ w ok t x [u]) (g:aJ w ok t y [v]) (w1):(Op.equal k u v).run P w1= .ok (cj t x y) w1:=by
 obtain ⟨p,q,i,j,l⟩:=CU h x y
 let b:Cx:={w:=w,ok:=ok,ρ:=λ_=>0,σ:=λ_=>undef,pin:=λ_=> [],ob:=λ_=>none}
 have d:=aJ.leaves (c:=b) f;have e:=aJ.leaves (c:=b) g;rw [i] at d;rw [j] at e;simp only [au,oU] at d e;obtain ⟨s,_,⟨rfl,_⟩,g1,_⟩:=d;obtain ⟨z,_,⟨rfl,_⟩,n,_⟩:=e;exact I2 (c:=b) 9999 g1 n l w1
theorem ai5 (h:dw P k j=true):KeyOk P k ⟨j,vt,true⟩:=by
 obtain ⟨d,hd,L,D⟩:=xY h
 have E:∀{w} {ok} {x y} {u v} {cs g},eV true u cs->eV true v g->aJ w ok j x cs->aJ w ok j y g->∀w1,(Op.equal k u v).run P w1= .ok (cj j x y) w1:=by
  grind[eV,UA]
 refine ⟨E,λn p F w1=>D F _ _ _,?_,xZ h⟩;intro w ok x u cs n p l b q w1;simp only [eV] at n;subst n
 have key:∀ (l) (b) (i),ek w ok ⟨j,vt,true⟩ l b->∃r,Instr.findNow d u b i=some r/\(Instr.findAsking k u b i).run P w1= .ok r w1:=by
  intro l
  induction l with
  |nil=>
   intro b i q;have:=q;subst this;exact ⟨none,rfl,by simp [Instr.findAsking]⟩
  |cons e r G=>
   rintro _ i ⟨y,s,g,rfl,t,A,_,H⟩;simp only [eV] at t;subst t;have B:=ai4 (P:=P) hd h p A;have f:=UA h p A w1
   cases C:cj j x e.1 with
   |true=>
    rw [C] at B f;exact ⟨some (i,y.val),by grind[Instr.findNow],by simp [Instr.findAsking,f]⟩
   |false=>
    rw [C] at B f;obtain ⟨z,M,I⟩:=G s (i+1) H;exact ⟨z,by grind[Instr.findNow],by simp [Instr.findAsking,f,I]⟩
 obtain ⟨r,J,N⟩:=key l b 0 q;unfold Instr.findKey;simp only [Sem.run_bind,bh hd,Result.andThen_ok,J,Sem.run_pure]
 grind
theorem ai6 (n) (h:dw P k t=true) (d:aJ w ok t x [u]) (e:aJ w ok t y [v]) (w1):(Op.equalIn (n+1) k u v).run P w1= .ok (cj t x y) w1:=by
 obtain ⟨p,q,f,g,i⟩:=CU h x y
 let b:Cx:={w:=w,ok:=ok,ρ:=λ_=>0,σ:=λ_=>undef,pin:=λ_=> [],ob:=λ_=>none}
 have j:=aJ.leaves (c:=b) d;have l:=aJ.leaves (c:=b) e
 grind[au,I2]
theorem U9 (h:dw P j t=true):t.size=1:=by cases t <;>simp [dw] at h <;>rfl
theorem Vo {f:Field} (h:(match P.underlying f.type with|some (.struct b)=>di P 0 b.toList t && !P.stoodInHeld f.type && P.cellsOf f.type=t.size|_=>false:Bool)=true):
 ∃b,P.underlying f.type=some (.struct b)/\di P 0 b.toList t=true/\P.stoodInHeld f.type=false/\P.cellsOf f.type=t.size:=by
 grind
theorem Vp:∀ (d) (i) (t),dG P i d t=true->t.flatT=true
 | [],_,_,h=>by grind[dG]
 | [f],i,t,h=>by
   grind[dG,xZ,Vm]
 |f::g::d,i,.pair a b,h=>by
  simp only [dG,bb] at h;simp [Ty.flatT,xZ h.1.2,Vp (g::d) (i+1) b h.2]
 |_::_::_,_,.int _,h=>by grind[dG]
 |_::_::_,_,.bool,h=>by grind[dG]
 |_::_::_,_,.flt,h=>by grind[dG]
 |_::_::_,_,.str,h=>by grind[dG]
 |_::_::_,_,.unit,h=>by grind[dG]
 |_::_::_,_,.slice _ _,h=>by grind[dG]
theorem Ig (b:P.underlying t=some (.struct j)) (w1) (xs) (i n) (d:P.cellsOf t=n) (e:(xs.toList.drop i).length=n):
 ∃a,(part t xs i).run P w1= .ok (.agg a) w1/\a.toList=xs.toList.drop i:=by
 refine ⟨xs.extract i (i+n),?_,?_⟩
 ·unfold part;simp only [Sem.run_bind,pY b,Result.andThen_ok,mw,aI,Cp b,Sem.run_pure,d]
 grind[Array.toList_extract,List.take_of_length_le]
theorem Vn (n) (w1):∀ (l) (i) (t),dG P i l t=true->∀{x y} {xs ys},aJ w ok t x (xs.toList.drop i)->aJ w ok t y (ys.toList.drop i)->
 (Op.eqFields (n+2) xs ys l).run P w1= .ok (cj t x y) w1
 | [],_,_,h=>by grind[dG]
 | [f],i,t,h=>by
   intro C I;rename_i xs ys x y
   let J:Cx:={w:=w,ok:=ok,ρ:=λ_=>0,σ:=λ_=>undef,pin:=λ_=> [],ob:=λ_=>none}
   simp only [dG,bb,mE] at h;rcases h.2 with A|A
   ·have L:di P i [f] t=true:=by grind[di]
    exact Dh (c:=J) (n+1) w1 [f] i _ _ xs ys _ (aJ.leaves (c:=J) C) (aJ.leaves (c:=J) I) (Iz _ _ _ L x y)
   ·obtain ⟨B,D,M,N,E⟩:=Vo A;have p:f.offset=i:=nD h.1.1;have q:=nE.1 h.1.2;obtain ⟨a,O,ea⟩:=Ig D w1 xs i t.size E C.len;obtain ⟨b,S,eb⟩:=Ig D w1 ys i t.size E I.len;have s:P.fieldsOf f.type=B:=by grind[Program.fieldsOf]
    have z:(Op.equalIn (n+2) f.type (.agg a) (.agg b)).run P w1= .ok (cj t x y) w1:=by
     show (Op.equalIn (n+1+1) f.type (.agg a) (.agg b)).run P w1=_;rw [run_equalIn_struct w1 (n+1) f.type a b (by grind) N,s];exact Dh (c:=J) n w1 B.toList 0 _ _ a b _ (by grind[aJ.leaves]) (by grind[aJ.leaves]) (Iz _ _ _ M x y)
    rw [Op.eqFields];simp only [p,cU,q,iI,aI,Sem.run_bind,O,S,Result.andThen_ok,z];cases cj t x y <;>simp [Op.eqFields]
 |f::g::l,i,.pair T U,h=>by
  intro C I;rename_i xs ys x y;simp only [dG,bb] at h;obtain ⟨d,hd,F,_⟩:=xY h.1.2;have e:=U9 h.1.2;have p:f.offset=i:=nD h.1.1.1;have q:=nE.1 h.1.1.2;obtain ⟨c1,V,G,j,W⟩:=C;obtain ⟨X,Y,H,k,Z⟩:=I;obtain ⟨u,rfl⟩:∃u,c1= [u]:=DE.1 (j.len.trans e);obtain ⟨v,rfl⟩:∃v,X= [v]:=DE.1 (k.len.trans e)
  have g1:xs[i]?=some u:=by
   have:=bz (·[0]?) G
   grind
  have g2:ys[i]?=some v:=by
   have:=bz (·[0]?) H
   grind
  have k1:xs.toList.drop (i+1)=V:=by
   have:=bz (List.drop 1) G
   grind[List.drop_drop]
  have k2:ys.toList.drop (i+1)=Y:=by
   have:=bz (List.drop 1) H
   grind[List.drop_drop]
  have ih:=Vn n w1 (g::l) (i+1) U h.2 (x:=x.2) (y:=y.2) (xs:=xs) (ys:=ys) (by grind) (by grind);have hq:=ai6 (P:=P) (n+1) h.1.2 j k w1;rw [Op.eqFields];simp only [p,cU,q,iI,aI,Sem.run_bind,rX hd F g1,rX hd F g2,Result.andThen_ok,hq,cj];cases cj T x.1 y.1
  all_goals simp_all
 |_::_::_,_,.int _,h=>by grind[dG]
 |_::_::_,_,.bool,h=>by grind[dG]
 |_::_::_,_,.flt,h=>by grind[dG]
 |_::_::_,_,.str,h=>by grind[dG]
 |_::_::_,_,.unit,h=>by grind[dG]
 |_::_::_,_,.slice _ _,h=>by grind[dG]
theorem ajZ (n) (d:P.underlying k=some (.struct j)) (e:di P 0 j.toList t=true) (f:t.size<=xs.size) (b) (w1):
 (Instr.checkKey b (n+1+1) k (.agg xs)).run P w1= .ok () w1:=by
 rw [Instr.checkKey];simp only [Sem.run_bind,bh d,Result.andThen_ok];rw [<-Array.forIn_toList];have:=IA (P:=P) b n w1 xs j.toList 0 t e (by omega)
 simp_all
theorem Vq (e) (n) (w1) (xs):∀ (j) (i) (t),dG P i j t=true->i+t.size=xs.size->
 (forIn j PUnit.unit (λf _=>if f.name≠ "_" then do
  let p<-part f.type xs f.offset
  Instr.checkKey e (n+2) f.type p
  pure (ForInStep.yield PUnit.unit)
  else pure (ForInStep.yield PUnit.unit)):Sem PUnit).run P w1= .ok PUnit.unit w1
 | [],_,_,h,_=>by simp_all
 | [f],i,t,h,C=>by
   simp only [dG,bb,mE] at h;have I:=nD h.1.1;have D:=nE.1 h.1.2;rcases h.2 with l|l
   ·have u:di P i [f] t=true:=by grind[di]
    exact IA e (n+1) w1 xs [f] i t u (by omega)
   ·obtain ⟨E,q,v,F,x⟩:=Vo l;obtain ⟨a,G,H⟩:=Ig q w1 xs i t.size x (by grind)
    have y:a.size=t.size:=by
     grind[Array.length_toList]
    have s:=ajZ (P:=P) n q v (xs:=a) (by omega) e w1
    simp_all
 |f::g::j,i,.pair a b,h,C=>by
  simp only [dG,bb] at h;obtain ⟨d,hd,z,s⟩:=xY h.1.2;have k:=U9 h.1.2;simp only [Ty.size,k] at C;have I:f.offset=i:=nD h.1.1.1;have A:xs[f.offset]?=some (xs[i]'(by omega)):=by grind
  have B:=Vq e n w1 xs (g::j) (i+1) b h.2 (by omega);rw [JP];simp only [Sem.run_bind,nE.1 h.1.1.2,cU,iI,aI,rX hd z A,Result.andThen_ok,s,Sem.run_pure];exact B
 |_::_::_,_,.int _,h,_=>by grind[dG]
 |_::_::_,_,.bool,h,_=>by grind[dG]
 |_::_::_,_,.flt,h,_=>by grind[dG]
 |_::_::_,_,.str,h,_=>by grind[dG]
 |_::_::_,_,.unit,h,_=>by grind[dG]
 |_::_::_,_,.slice _ _,h,_=>by grind[dG]
theorem aiR (f:P.underlying k=some (.struct j)) (d:dG P 0 j.toList C=true) (h:P.stoodInHeld k=false):KeyOk P k ⟨C,vt,false⟩:=by
 have e:P.fieldsOf k=j:=by grind[Program.fieldsOf]
 refine ⟨?_,?_,λ_ _ _ _ _ w1=>ai7 f _ _ w1,Vp _ _ _ d⟩
 ·rintro w ok x y u v cs p ⟨a,rfl,rfl⟩ ⟨b,rfl,rfl⟩ i q w1;show (Op.equalIn (9999+1) k (.agg a) (.agg b)).run P w1=_;rw [run_equalIn_struct w1 9999 k a b (by grind) h,e];exact Vn 9997 w1 j.toList 0 C d (by simpa using i) (by grind)
 ·rintro w ok x u cs ⟨a,rfl,rfl⟩ l g w1;show (Instr.checkKey g (9997+2+1) k (.agg a)).run P w1=_;rw [Instr.checkKey];simp only [Sem.run_bind,bh f,Result.andThen_ok];rw [<-Array.forIn_toList];have n:=l.len;simp only [sN] at n;have:=Vq (P:=P) g 9997 w1 a j.toList 0 C d (by omega)
  simp_all
theorem uR (h:nq P t=some m):∃k e,P.underlying t=some (.map k e)/\KeyOk P k m/\dw P e m.v=true:=by
 grind[nq,aiR,ai5]
theorem yh (C:KeyOk P k m) (n:eV m.s u xs) (p:aJ w ok m.k q xs) (w1) (z):
 ∀ (l) (f) (i),ek w ok m l f->
  ((Instr.findAsking k u f i).run P w1= .ok none w1/\dv m.k m.v l q=false/\cC m.k m.v z l q=z/\∀y,bK m.k m.v l q y=l++ [(q,y)])\/
  ∃j e cs,(Instr.findAsking k u f i).run P w1= .ok (some (i+j,e.val)) w1/\f[j]?=some e/\dv m.k m.v l q=true/\aJ w ok m.v (cC m.k m.v z l q) [e.val]/\eV m.s e.key cs/\aJ w ok m.k q cs/\
   ∀y v b,aJ w ok m.v y [v]->ek w ok m (bK m.k m.v l q y) (f.set j {key:=u,val:=v,born:=b})
 | [],f,i,h=>by
   have:=h;subst this;exact .inl ⟨by simp [Instr.findAsking],rfl,rfl,λ_=>rfl⟩
 |e::r,_,i,⟨x,s,cs,F,t,D,G,E⟩=>by
  subst F;have d:=C.eq n t p D w1
  cases g:cj m.k q e.1 with
  |true=>
   rw [g] at d;have H:=I1 g;refine .inr ⟨0,x,cs,by simp [Instr.findAsking,d],rfl,by grind[dv],by grind[cC],t,by grind,λy v b A=> ?_⟩;simp only [bK,g,ah,List.set_cons_zero];exact ⟨_,s,xs,rfl,n,p,A,E⟩
  |false=>
   rw [g] at d;rcases yh C n p w1 z r s (i+1) E with ⟨g1,I,J,L⟩| ⟨j,M,B,g1,I,J,L,N,O,S⟩
   ·exact .inl ⟨by simp [Instr.findAsking,d,g1],by grind[dv],by grind[cC],λy=>by grind[bK]⟩
   ·refine .inr ⟨j+1,M,B,?_,by grind,by grind[dv],by grind[cC],N,O,λy v b A=> ?_⟩
    ·grind[Instr.findAsking,Sem.run_bind,Result.andThen_ok]
    ·simp only [bK,g,aa,List.set_cons_succ];exact ⟨x,_,cs,rfl,t,D,G,S y v b A⟩
theorem ek.snoc :∀{l} {d},ek w ok m l d->∀{q} {y} {u} {xs} {v} {b},eV m.s u xs->aJ w ok m.k q xs->aJ w ok m.v y [v]->ek w ok m (l++ [(q,y)]) (d++ [{key:=u,val:=v,born:=b}])
 | [],d,h,_,_,_,_,_,_,f,g,i=>by
   have:=h;subst this;exact ⟨_,[],_,rfl,f,g,i,rfl⟩
 |e::r,_,⟨x,s,cs,j,n,p,t,z⟩,_,_,_,_,_,_,f,g,i=>by
  subst j;exact ⟨x,_,cs,rfl,n,p,t,z.snoc f g i⟩
theorem qp.push (h:qp f j) :qp (f++ [{key:=u,val:=v,born:=j}]) (j+1):=by
 refine ⟨?_,λx d=> ?_⟩
 ·rw [lM,nG];refine ⟨h.1,by simp,λa g b e=> ?_⟩;obtain ⟨x,d,rfl⟩:=iK.1 g;simp only [eX,DC,eP] at e;subst e;have:=h.2 x d;omega
 ·rcases cz.1 d with d|d
  ·have:=h.2 x d;omega
  grind
theorem VW (g:KeyOk P k m) (n:eV m.s u xs) (p:aJ w ok m.k q xs) (w1):
 ∀ (l) (f) (i),ek w ok m l f->
  ((Instr.findAsking k u f i).run P w1= .ok none w1->mi m.k m.v l q=l.length)/\∀j v,(Instr.findAsking k u f i).run P w1= .ok (some (i+j,v)) w1->mi m.k m.v l q=j
 | [],f,i,h=>by
   have:=h;subst this;refine ⟨λ_=>rfl,λj v d=> ?_⟩;simp [Instr.findAsking] at d
 |e::r,_,i,⟨x,s,cs,A,B,C,G,y⟩=>by
  subst A;have b:=g.eq n B p C w1
  cases t:cj m.k q e.1 with
  |true=>
   rw [t] at b;refine ⟨λz=> ?_,λj v d=> ?_⟩
   ·simp [Instr.findAsking,b] at z
   ·simp [Instr.findAsking,b] at d
    grind[mi]
  |false=>
   rw [t] at b;obtain ⟨g1,H⟩:=VW g n p w1 r s (i+1) y;refine ⟨λz=> ?_,λj v d=> ?_⟩
   ·grind[Instr.findAsking,Sem.run_bind,Result.andThen_ok,mi]
   ·simp only [Instr.findAsking,Sem.run_bind,b,Result.andThen_ok,dQ,aH] at d;simp only [mi,t,aa]
    cases j with
    |zero=>
     exfalso;rcases yh (P:=P) g n p w1 e.2 r s (i+1) y with ⟨D,_⟩| ⟨E,I,F,D,_⟩
     all_goals grind
    |succ E=>
     grind
theorem ek.mset :∀{l} {d},ek w ok m l d->∀{i} {e} {y} {v},d[i]?=some e->aJ w ok m.v y [v]->ek w ok m (mset m.k m.v l i y) (d.set i {e with val:=v})
 | [],d,h,_,_,_,_,b,_=>by
   have:d= []:=h
   grind
 |a::r,_,⟨x,s,cs,f,g,j,q,n⟩,0,e,y,v,b,p=>by
  subst f;simp only [sJ,aB] at b;subst b;exact ⟨_,s,cs,rfl,g,j,p,n⟩
 |a::r,_,⟨x,s,cs,f,g,j,q,n⟩,i+1,e,y,v,b,p=>by
  subst f;simp only [nJ] at b;exact ⟨x,_,cs,rfl,g,j,q,n.mset b p⟩
theorem lH.push (h:lH d j) :lH (d++ [{key:=u,val:=v,born:=j}]) (j+1):=by
 refine ⟨by simp [h.1],λi e b=> ?_⟩;by_cases f:i<d.length
 ·rw [DI f] at b;exact h.2 i e b
 ·rw [JO (Nat.le_of_not_lt f)] at b
  cases g:i - d.length with
  |zero=>
   rw [g] at b;simp only [sJ,aB] at b;subst b;show j=i;have:=h.1;omega
  |succ n=>grind
theorem lH.set (h:lH f C) (g:f[j]?=some e) :lH (f.set j {key:=u,val:=v,born:=e.born}) C:=by
 refine ⟨by simp [h.1],λi x b=> ?_⟩;rw [List.getElem?_set] at b;by_cases d:j=i
 ·subst d;have k:=(oS.1 g).1;simp only [aI,k,aB] at b;subst b;exact h.2 j e g
 ·rw [ak d] at b;exact h.2 i x b
theorem Iw {m:MTy} {q} (d:RepV c i v) (h:m.key i=some q):∃xs,eV m.s v xs/\aJ c.w c.ok m.k q xs:=by
 unfold MTy.key at h;split at h
 ·rename_i b;exact ⟨[v],by rw [b];rfl,Ty.fU (c:=c) h (by grind[au])⟩
 ·rename_i b;simp only [RepV] at d;obtain ⟨a,rfl,e⟩:=d;exact ⟨a.toList,by rw [b];exact ⟨a,rfl,rfl⟩,Ty.fU (c:=c) h e⟩
 grind
end
section
variable {P:Program} {m:MM} {w0:World} {st:St} {a:Act} {c:Cx} {R:Type} {K:St->Option R} {r:R} {o:Oper} {next:Act->World->Prop} {Q:Exit->Act->World->Prop}
theorem UI (h:lr P t=true):∃k e,P.underlying t=some (.map k e)/\P.underlying k=some (.int .u64)/\(∃d,P.underlying e=some (.pointer d))/\nb P e=some [.nilptr]/\pT P e=false:=by
 grind[lr]
theorem Ib (d:P.underlying k=some (.int .u64)) (b) (v) (w1):(Instr.checkKey b 10000 k v).run P w1= .ok () w1:=by
 show (Instr.checkKey b (9999+1) k v).run P w1=_;unfold Instr.checkKey;simp only [Sem.run_bind,bh d,Result.andThen_ok,Sem.run_pure]
theorem Ia (q):∀ (l) (b) (i),nB ρ l b->
 (Instr.findNow (.int .u64) (.int .u64 q) b i=some none/\∀e ∈ l,e.1≠q)\/∃j v,Instr.findNow (.int .u64) (.int .u64 q) b i=some (some (j,.pointer (some ⟨ρ v.1,v.2,none⟩)))/\(q,v) ∈ l
 | [],b,i,h=>by
   have:=h;subst this;exact .inl ⟨rfl,by simp⟩
 |e::r,_,i,⟨x,s,d,f,p,g⟩=>by
  subst d;simp only [Instr.findNow,f,Instr.sameNow,aI];by_cases t:q=e.1
  ·grind
  ·have k:(q==e.1)=false:=by grind
   rw [k];rcases Ia q r s (i+1) g with ⟨g1,n⟩| ⟨j,v,g1,n⟩
   all_goals grind
theorem nB.snoc :∀{l} {d},nB ρ l d->nB ρ (l++ [(q,v)]) (d++ [{key:= .int .u64 q,val:= .pointer (some ⟨ρ v.1,v.2,none⟩),born:=b}])
 | [],d,h=>by
   have:=h;subst this;exact ⟨_,[],rfl,rfl,rfl,rfl⟩
 |e::r,_,⟨x,s,f,g,i,j⟩=>by
  subst f;exact ⟨x,_,rfl,g,i,j.snoc⟩
theorem Ie (q) (v):∀l,(iB l q v).Perm ((q,v)::l)
 | []=>List.Perm.refl _
 |e::r=>by
  unfold iB
  cases decide (q<e.1) with
  |true=>grind
  |false=>exact (List.Perm.cons e (Ie q v r)).trans (List.Perm.swap _ _ _)
theorem alg {C:Ctx} (z:C.P=P) (q:o.op= .makeMap t none) (h:Rep m w0 st a c) (A:∀x,o.dst=some x->bD st x) (n:CD o.dst st K=some r)
 (B:∀j I J,K j=some r->Rep m w0 j I J->next I J.w):o.upon P a next Q ((execOp a.eval o).run P c.w):=by
 subst z;unfold CD at n;split at n
 ·rename_i d hd;split at n
  ·rename_i v st1 s;have y:=newNum_spec s;obtain ⟨g1,E,F,G,H,L⟩:=jA y
   let w1:={c.w with heap:=c.w.heap.push (.map #[] 0)}
   have u:∀i,w1.heap[i]?=if i=c.w.heap.size then some (.map #[] 0) else c.w.heap[i]?:=λi=>by grind
   have g:∀b,c.ok b\/(∃f,bf c f/\c.ρ f=b)->w1.heap[b]?=c.w.heap[b]?:=by
    intro b p
    have:b<c.w.heap.size:=by
     rcases p with p| ⟨f,e,rfl⟩
     ·exact h.ok _ p
     ·exact (h.mine f e).2.2
    grind
   have k:=h.newObj y (w1:=w1) c.w.heap.size undef (h.kept.push _) (by grind) g (by
    refine ⟨#[],0,[],?_,List.Perm.refl _,rfl,by simp [qp],by simp⟩
    grind) (λ_=>⟨λp=>by grind,.inl h.kept.size,by grind,λf e M=>by have:=(h.mine f e).2.2;omega⟩)
   have l:(execOp a.eval o).run C.P c.w= .ok (.value (.map (some c.w.heap.size))) w1:=by
    simp only [execOp,q,Dv,Instr.makeMap,Sem.run_bind,run_newObj,Result.andThen_ok,Sem.run_pure];rfl
   refine bP (c1:={w:=w1,ok:=c.ok,ρ:=λi=>if i=v then c.w.heap.size else c.ρ i,σ:=λi=>if i=v then undef else c.σ i,pin:=c.pin,ob:=st1.obj}) l k (λx D=>(A x D).of g1) ?_ rfl (by rw [hd];exact n) B;simp [RepV]
  grind
 grind
theorem UJ :∀{l},rW q d st K l=some r->((∀e ∈ l,e.1≠q)/\K (st.put d .nilptr)=some r)\/∃v,(q,v) ∈ l/\K (st.put d (.ptr v.1 v.2))=some r
 | [],h=> .inl ⟨by simp,h⟩
 |e::s,h=>by
  unfold rW at h;by_cases j:q=e.1
  ·grind
  ·simp only [j,aK,aa] at h;rcases UJ h with ⟨g1,C⟩| ⟨v,g1,C⟩
   all_goals grind
theorem ajY {l:List (Int× (Nat×Nat))} (b:(l.map (·.1)).Nodup) (d:(q,u) ∈ l) (f:(q,v) ∈ l):u=v:=by
 induction l with
 |nil=>grind
 |cons e r g=>
  grind
theorem alh {C:Ctx} (hC:C.P=P) (d:o.op= .lookup t x y ok) (H:lr P t=true) (h:Rep m w0 st a c) (hg:∀x,o.dst=some x->bD st x) (f:CE (aG st x) (aG st y) ok o.dst st K=some r)
 (hK:∀I a' c',K I=some r->Rep m w0 I a' c'->next a' c'.w):o.upon P a next Q ((execOp a.eval o).run P c.w):=by
 subst hC;obtain ⟨k,e,Y,D,⟨d0,hd0⟩,J,b⟩:=UI H;have E:=aZ h x;have F:=aZ h y;unfold CE at f
 cases ok with
 |true=>grind
 |false=>
  simp only [aa] at f;split at f
  ·rename_i n q L M;rw [L] at E;rw [M] at F;simp only [RepV] at E F;split at f
   ·rename_i l ho;obtain ⟨N,O,l',q1,q2,q3,q4,q5⟩:=h.objs n _ (by rw [h.ob];exact ho);obtain ⟨i,G,g,s,hsz,u⟩:=rN J
    have hzl:G.cells.toList= [G]:=by
     unfold pT at b;rw [g] at b;simp only [s] at b
     cases G <;>first
      |rfl
      |grind
    have S:G= .pointer none:=by
     have:=(u c).1
     grind[au,RepV]
    have z:=UJ f
    have fin:∀ (p:PV) (v:Value),RepV c p v->p.isGd=false->K (st.put o.dst p)=some r->(Instr.findNow (.int .u64) (.int .u64 q) N.toList 0=some none/\v= .pointer none\/∃j,Instr.findNow (.int .u64) (.int .u64 q) N.toList 0=some (some (j,v)))->
     o.upon C.P a next Q ((execOp a.eval o).run C.P c.w):=by
     intro p v hp T U A
     have B:(execOp a.eval o).run C.P c.w= .ok (.value v) c.w:=by
      rcases A with ⟨A,rfl⟩| ⟨j,A⟩
      ·subst S;simp only [execOp,d,Instr.lookup,Sem.run_bind,bh Y,Result.andThen_ok,E,F.1,MapKept.run_getObj_map q1,Ib D,Instr.findKey,bh D,A,Sem.run_pure,lq g s];rfl
      ·simp only [execOp,d,Instr.lookup,Sem.run_bind,bh Y,Result.andThen_ok,E,F.1,MapKept.run_getObj_map q1,Ib D,Instr.findKey,bh D,A,Sem.run_pure];rfl
     exact bP B h hg hp T U hK
    rcases Ia (ρ:=c.ρ) q l' N.toList 0 q3 with ⟨g1,Z⟩| ⟨j,v,g1,Z⟩
    ·rcases z with ⟨_,V⟩| ⟨v,W,_⟩
     ·exact fin .nilptr (.pointer none) (by simp [RepV]) rfl V (.inl ⟨g1,rfl⟩)
     grind
    ·have g3:=q2.mem_iff.1 Z;rcases z with ⟨W,_⟩| ⟨X,W,V⟩
     ·grind
     ·have:X=v:=ajY q5 W g3;subst this;exact fin (.ptr X.1 X.2) _ (by simp [RepV]) rfl V (.inr ⟨j,g1⟩)
   grind
  grind
theorem alf {C:Ctx} (hC:C.P=P) (H:o.op= .insert t x y z) (J:lr P t=true) (h:Rep m w0 st a c) (hg:∀x,o.dst=some x->bD st x) (s:xR (aG st x) (aG st y) (aG st z) o.dst st K=some r)
 (hK:∀I a' c',K I=some r->Rep m w0 I a' c'->next a' c'.w):o.upon P a next Q ((execOp a.eval o).run P c.w):=by
 subst hC;obtain ⟨k,e,hu,W,_,_,_⟩:=UI J;have u:=aZ h x;have F:=aZ h y;have L:=aZ h z;unfold xR at s;split at s
 ·rename_i n q X off M N O;rw [M] at u;rw [N] at F;rw [O] at L;simp only [RepV] at u F L;split at s
  ·rename_i l Y
   cases v:l.any λe=>decide (e.1=q) with
   |true=>grind
   |false=>
    rw [v] at s;simp only [aa] at s
    have Z:∀e ∈ l,e.1≠q:=λe G hh=>by
     grind
    have A:c.ob n=some (.pm l):=by rw [h.ob];exact Y
    obtain ⟨es,d,l',q1,q2,q3,q4,q5⟩:=h.objs n _ A;have j:bf c n:=⟨_,A,aO⟩;have f:=h.mine n j
    have B:Instr.findNow (.int .u64) (.int .u64 q) es.toList 0=some none:=by
     grind[Ia]
    let g:=es.push {key:=a.eval y,val:=a.eval z,born:=d}
    let w1:World:={c.w with heap:=c.w.heap.setIfInBounds (c.ρ n) (.map g (d+1))}
    have D:(execOp a.eval o).run C.P c.w= .ok .skip w1:=by
     simp only [execOp,H,Instr.mapUpdate,Sem.run_bind,bh hu,Result.andThen_ok,u,MapKept.run_getObj_map q1,Ib W,Instr.findKey,bh W,F.1,B,Sem.run_pure,MapKept.run_setObj_map _ q1]
     grind
    obtain ⟨s1,s2⟩:=MapKept.heap_set (w:=c.w) (r:=c.ρ n) (o':= .map g (d+1)) q1;have S:w1.heap.size=c.w.heap.size:=by grind
    have E:=h.setObj (w1:=w1) (o:= .pm l) (o':= .pm (iB l q (X,off))) Y c.ok (h.kept.one rfl rfl rfl (by omega) (c.ρ n) f.2.1 (λi _ hi=>s2 i hi)) (by omega)
     ?_ ?_ ?_ ?_ ?_ ?_ ?_
    ·exact vh D E (λx u=>hg x u) s hK
    ·rintro b (T| ⟨U,V,p,rfl⟩)
     ·grind
     ·exact s2 _ (λG=>V (h.apart U n p j G))
    ·grind
    ·exact λb T=>⟨by rw [S];exact h.ok b T,λU _ p G=>(h.mine U p).1 (G ▸ T)⟩
    ·grind
    ·refine ⟨g,d+1,l'++ [(q,(X,off))],s1,?_,?_,?_,?_⟩
     ·grind[Ie]
     ·simp only [g,vM,F.1,L];exact q3.snoc
     ·simp only [g,vM];exact q4.push
     grind[Ie]
    ·exact λ_=>⟨aO,f.1⟩
    grind
  grind
 grind
theorem UW (h:Rep m w0 st a c) {j} {l} (f:RepV c p v) (d:CP st j p=some l):
 (v= .map none/\l= [])\/∃b g e,v= .map (some b)/\c.w.heap[b]?=some (.map g e)/\ek c.w c.ok j l g.toList:=by
 unfold CP at d;split at d
 ·split at d
  ·rename_i i;subst i;simp only [aB] at d;subst d;simp only [RepV] at f;obtain ⟨A,rfl,f⟩:=f;rcases f with ⟨rfl,n⟩| ⟨b,g,k,rfl,n,s,t⟩
   all_goals grind
  grind
 ·rename_i k;split at d
  ·rename_i m' u q;split at d
   ·rename_i i;subst i;simp only [aB] at d;subst d;simp only [RepV] at f;obtain ⟨g,k,x,n⟩:=h.objs k _ (by rw [h.ob];exact q)
    grind
   grind
  grind
 grind
theorem Iu:∀ (t:Ty) (x) (p),p ∈ t.leaves x->p.isGd=false
 | .int _,_,p,h=>by simp only [Ty.leaves,eP] at h;subst h;rfl
 | .bool,_,p,h=>by simp only [Ty.leaves,eP] at h;subst h;rfl
 | .str,_,p,h=>by simp only [Ty.leaves,eP] at h;subst h;rfl
 | .flt,x,p,h=>by simp only [Ty.leaves,eP] at h;subst h;rfl
 | .unit,_,p,h=>by grind[Ty.leaves]
 | .pair a b,x,p,h=>by
   simp only [Ty.leaves] at h;rcases cz.1 h with h|h
   ·exact Iu a _ p h
   ·exact Iu b _ p h
 | .slice _ _,_,p,h=>by simp only [Ty.leaves,eP] at h;subst h;rfl
theorem ajL (b) (ok) (x) (f):(xV b ok x f).isGd=false:=by
 unfold xV;split
 ·rename_i p d;cases ok
  ·grind[Iu]
  ·rfl
 ·rfl
theorem ajK {b} {x} (d:aJ c.w c.ok b.v x [u]):RepV c (xV b ok x f) (if ok then .tuple #[u,.bool f] else u):=by
 unfold xV;have e:=aJ.leaves (c:=c) d
 grind[au,RepV]
theorem alo (hC:C.P=P) (n:o.op= .lookup t x y ok) (h:Rep m w0 st a c) (hg:∀x,o.dst=some x->bD st x) (J:be C o st K=some r)
 (hK:∀U a' c',K U=some r->Rep m w0 U a' c'->next a' c'.w):o.upon P a next Q ((execOp a.eval o).run P c.w):=by
 subst hC
 cases D:lr C.P t with
 |true=>exact alh rfl n D h hg (by simpa only [be,n,D,ah] using J) hK
 |false=>
 simp only [be,n,D,aa,Iq] at J;have hx:=aZ h x;have hy:=aZ h y;split at J
 ·rename_i d W;obtain ⟨k,e,X,E,hlv⟩:=uR W;split at J
  ·rename_i q l z hq hl B;obtain ⟨xs,F,G⟩:=Iw hy hq;unfold CN at B;rw [X] at B;simp only at B
   cases s:pT C.P e with
   |true=>grind
   |false=>
    rw [s] at B;simp only [aa] at B
    cases L:nb C.P e with
    |none=>grind
    |some zc=>
     rw [L] at B;simp only at B;obtain ⟨i,V,M,N,hsz,O⟩:=rN L;have Y:=Ty.fU (c:=c) B (O c).1
     have Z:V.cells.toList= [V]:=by
      unfold pT at s;rw [M] at s;simp only [N] at s
      cases V <;>first
       |rfl
       |grind
     rw [Z] at Y
     have run:∀ (A:Array MapEntry),((a.eval x= .map none/\A= #[])\/∃b p,a.eval x= .map (some b)/\c.w.heap[b]?=some (.map A p))->ek c.w c.ok d l A.toList->
      ∃u,aJ c.w c.ok d.v (cC d.k d.v z l q) [u]/\(execOp a.eval o).run C.P c.w= .ok (.value (if ok then .tuple #[u,.bool (dv d.k d.v l q)] else u)) c.w:=by
      intro A hes g;have hck:=E.check F G A.isEmpty c.w;have S:=E.now F G g c.w
      have res:∃u,aJ c.w c.ok d.v (cC d.k d.v z l q) [u]/\(do
       Instr.checkKey A.isEmpty 10000 k (a.eval y)
       let (v,f)<-match<-Instr.findKey k (a.eval y) A.toList with
        |some (_,v)=>pure (v,true)
        |none=>pure (<-zeroValue e,false)
       pure (if ok then Value.tuple #[v,.bool f] else v):Sem Value).run C.P c.w= .ok (if ok then .tuple #[u,.bool (dv d.k d.v l q)] else u) c.w:=by
       rcases yh (P:=C.P) E F G c.w z l A.toList 0 g with ⟨g1,g2,g3,_⟩| ⟨j,e',cs',g1,g2,g3,g4,_⟩
       ·refine ⟨V,by grind,?_⟩;simp only [Sem.run_bind,hck,Result.andThen_ok,S,g1,lq M N,Sem.run_pure,g2]
       grind[Sem.run_bind,Result.andThen_ok,Sem.run_pure]
      obtain ⟨u,H,hu2⟩:=res;refine ⟨u,H,?_⟩;rcases hes with ⟨I,rfl⟩| ⟨b,p,I,hb⟩
      ·simp only [execOp,n,Instr.lookup,Sem.run_bind,bh X,Result.andThen_ok,I,Sem.run_pure]
       grind[Sem.run_bind,Result.andThen]
      ·simp only [execOp,n,Instr.lookup,Sem.run_bind,bh X,Result.andThen_ok,I,MapKept.run_getObj_map hb,Sem.run_pure]
       grind[Sem.run_bind,Result.andThen]
     have fin:∃u,aJ c.w c.ok d.v (cC d.k d.v z l q) [u]/\(execOp a.eval o).run C.P c.w= .ok (.value (if ok then .tuple #[u,.bool (dv d.k d.v l q)] else u)) c.w:=by
      rcases UW h hx hl with ⟨I,rfl⟩| ⟨b,A,k,I,hb,g⟩
      ·exact run #[] (.inl ⟨I,rfl⟩) rfl
      simp_all
     obtain ⟨u,H,T⟩:=fin;exact bP T h hg (ajK H) (ajL _ _ _ _) J hK
  grind
 grind
theorem ek.length {m}:∀{l} {b},ek w ok m l b->b.length=l.length
 | [],b,h=>by
   have:b= []:=h
   grind
 |e::r,_,⟨x,s,cs,d,_,_,_,f⟩=>by
  subst d;simp [ek.length f]
theorem alp (B:C.P=P) (f:o.op= .call {callee:= .builtin .len,args,argTypes}) (h:Rep m w0 st a c) (D:∀x,o.dst=some x->bD st x) (d:be C o st K=some r)
 (E:∀i y z,K i=some r->Rep m w0 i y z->next y z.w):o.upon P a next Q ((execOp a.eval o).run P c.w):=by
 subst B;simp only [be,f] at d;split at d
 ·rename_i x t J L;have n:args= #[x]:=by grind
  have p:argTypes= #[t]:=by grind
  subst n;subst p;unfold Is at d;split at d
  ·rename_i M q;obtain ⟨k,e,A,_,_⟩:=uR q;split at d
   ·rename_i l F;obtain ⟨s,d⟩:=b6 d;have G:=nD s;have H:=eM (P:=C.P) (aZ h x) t
    have j:(execOp a.eval o).run C.P c.w= .ok (.value (.int .i64 l.length)) c.w:=by
     rcases UW h H F with ⟨u,rfl⟩| ⟨b,N,v,u,I,g⟩
     ·simp [execOp,f,resolve,invoke,builtin,Builtin.len_,u,bh A,goInt]
     ·have hlen:=by simpa using g.length
      simp [execOp,f,resolve,invoke,builtin,Builtin.len_,u,bh A,goInt,MapKept.run_getObj_map I,hlen]
    refine bP j h D ?_ rfl d E
    grind[RepV.gS,Lit.wf,IntKind.min,IntKind.max,IntKind.bits]
   grind
  grind
 grind
theorem aln (B:C.P=P) (e:o.op= .makeMap t none) (h:Rep m w0 st a c) (v:∀x,o.dst=some x->bD st x) (j:be C o st K=some r)
 (y:∀I J U,K I=some r->Rep m w0 I J U->next J U.w):o.upon P a next Q ((execOp a.eval o).run P c.w):=by
 subst B
 cases k:lr C.P t with
 |true=>exact alg rfl e h v (by simpa only [be,e,k,ah] using j) y
 |false=>
 simp only [be,e,k,aa,Io] at j;split at j
 ·rename_i F d D hd;split at j
  ·rename_i z st1 s;have A:=newNum_spec s;obtain ⟨g1,G,H,L,M,N⟩:=jA A
   let w1:={c.w with heap:=c.w.heap.push (.map #[] 0)}
   have u:∀i,w1.heap[i]?=if i=c.w.heap.size then some (.map #[] 0) else c.w.heap[i]?:=λi=>by grind
   have l:∀b,c.ok b\/(∃g,bf c g/\c.ρ g=b)->w1.heap[b]?=c.w.heap[b]?:=by
    intro b q
    have:b<c.w.heap.size:=by
     rcases q with q| ⟨g,f,rfl⟩
     ·exact h.ok b q
     ·exact (h.mine g f).2.2
    grind
   have n:=h.newObj A (w1:=w1) c.w.heap.size undef (h.kept.push _) (by grind) l (by
    refine ⟨#[],0,?_,rfl,by simp [lH]⟩
    grind) (λ_=>⟨λq=>by grind,.inl h.kept.size,by grind,λg f O=>by have:=(h.mine g f).2.2;omega⟩)
   have p:(execOp a.eval o).run C.P c.w= .ok (.value (.map (some c.w.heap.size))) w1:=by
    simp only [execOp,e,Dv,Instr.makeMap,Sem.run_bind,run_newObj,Result.andThen_ok,Sem.run_pure];rfl
   refine bP (c1:={w:=w1,ok:=c.ok,ρ:=λi=>if i=z then c.w.heap.size else c.ρ i,σ:=λi=>if i=z then undef else c.σ i,pin:=c.pin,ob:=st1.obj}) p n (λx E=>(v x E).of g1) ?_ rfl (by rw [hd];exact j) y;simp [RepV]
  grind
 grind
theorem ale (hC:C.P=P) (z:o.op= .range t x) (h:Rep m w0 st a c) (hg:∀x,o.dst=some x->bD st x) (B:be C o st K=some r)
 (hK:∀U a' c',K U=some r->Rep m w0 U a' c'->next a' c'.w):o.upon P a next Q ((execOp a.eval o).run P c.w):=by
 subst hC;simp only [be,z,HZ] at B;have H:=eM (P:=C.P) (aZ h x) t;split at B
 ·rename_i mt m' l d D E hd;obtain ⟨k,e,T,_,_⟩:=uR D;rw [E] at H;split at B
  ·rename_i V;subst V;simp only [RepV] at H;obtain ⟨A,hv,W⟩:=H;split at B
   ·rename_i st1 M;obtain ⟨g1,g2,g3,g4,g5,g6⟩:=jA M
    have fin:∀ (I) (j p),vr c.w c.ok m' I j #[] p l none->(execOp a.eval o).run C.P c.w= .ok (.value (.pointer (some ⟨c.w.heap.size,0,none⟩))) {c.w with heap:=c.w.heap.push (.mapIter I j #[] p)}->
     o.upon C.P a next Q ((execOp a.eval o).run C.P c.w):=by
     intro I j p X u
     let w1:={c.w with heap:=c.w.heap.push (.mapIter I j #[] p)}
     have F:∀i,w1.heap[i]?=if i=c.w.heap.size then some (.mapIter I j #[] p) else c.w.heap[i]?:=λi=>by grind
     have q:∀b,c.ok b\/(∃s,bf c s/\c.ρ s=b)->w1.heap[b]?=c.w.heap[b]?:=by
      intro b g
      have:b<c.w.heap.size:=by
       rcases g with g| ⟨s,n,rfl⟩
       ·exact h.ok _ g
       ·exact (h.mine s n).2.2
      grind
     have v:=h.newObj M (w1:=w1) c.w.heap.size undef (h.kept.push _) (by grind) q (by
      refine ⟨I,j,#[],p,?_,X.move (λb g=>q b (.inl g)) (λ_ g=>g)⟩
      grind) (λ_=>⟨λg=>by grind,.inl h.kept.size,by grind,λs n J=>by have:=(h.mine s n).2.2;omega⟩)
     refine bP (c1:={w:=w1,ok:=c.ok,ρ:=λi=>if i=4096*d then c.w.heap.size else c.ρ i,σ:=λi=>if i=4096*d then undef else c.σ i,pin:=c.pin,ob:=st1.obj}) u v (λx Y=>(hg x Y).of g1) ?_ rfl (by rw [hd];exact B) hK;simp [RepV]
    rcases W with ⟨rfl,hl⟩| ⟨b,N,f,rfl,Z,g,hents,G⟩
    ·refine fin none 0 0 (.inl ⟨rfl,hl,rfl⟩) ?_;simp only [execOp,z,Instr.range,Sem.run_bind,bh T,Result.andThen_ok,hv,Sem.run_pure,run_newObj]
    ·refine fin (some b) f f (.inr ⟨b,N,rfl,Z,g,G,rfl,?_,λx y hc=>by grind⟩) ?_
     ·grind[Array.filter_eq_self]
     ·simp only [execOp,z,Instr.range,Sem.run_bind,bh T,Result.andThen_ok,hv,MapKept.run_getObj_map g,Sem.run_pure,run_newObj]
   grind
  grind
 ·rename_i mt k d D E hd;obtain ⟨kt,e,T,_,_⟩:=uR D;rw [E] at H;simp only [RepV] at H;split at B
  ·rename_i m' l ho;split at B
   ·rename_i V;subst V;split at B
    ·rename_i st1 M;have O:c.ob k=some (.mp m' l):=by rw [h.ob];exact ho
     obtain ⟨N,f,q1,q2⟩:=h.objs k _ O;have S:bf c k:=⟨_,O,aO⟩
     let ok1:Nat->Prop:=λb=>c.ok b\/(bf c k/\b=c.ρ k)
     let c1:Cx:={w:=c.w,ok:=ok1,ρ:=c.ρ,σ:=c.σ,pin:=c.pin,ob:=(st.setO k .gone).obj}
     have L:Rep m w0 (st.del k) a c1:=by
      refine h.setObj (o:= .mp m' l) (o':= .gone) ho ok1 h.kept (aR _) (λ_ _=>rfl) (λb g=> .inl g) (λb g=> ?_) (by grind) aO (λhw=>by grind[gm]);rcases g with g| ⟨g,rfl⟩
      ·exact ⟨h.ok b g,λs _ n J=>(h.mine s n).1 (J ▸ g)⟩
      ·exact ⟨(h.mine k g).2.2,λs hne n J=>hne (h.apart s k n g J)⟩
     obtain ⟨g1,g2,g3,g4,g5,g6⟩:=jA M
     have X:vr c1.w c1.ok m' (some (c.ρ k)) f #[] f l none:=by
      refine .inr ⟨c.ρ k,N,rfl,.inr ⟨S,rfl⟩,q1,q2.2.born,rfl,?_,λx y hc=>by grind⟩;have:N.filter (λe=> !(#[]:Array Nat).contains e.born)=N:=Array.filter_eq_self.2 (λe J=>by simp);rw [this];exact q2.1.move (λ_ _=>rfl) (λb g=> .inl g)
     let w1:World:={c1.w with heap:=c1.w.heap.push (.mapIter (some (c.ρ k)) f #[] f)}
     have F:∀i,w1.heap[i]?=if i=c1.w.heap.size then some (.mapIter (some (c.ρ k)) f #[] f) else c1.w.heap[i]?:=λi=>by grind
     have q:∀b,c1.ok b\/(∃s,bf c1 s/\c1.ρ s=b)->w1.heap[b]?=c1.w.heap[b]?:=by
      intro b g
      have:b<c1.w.heap.size:=by
       rcases g with g| ⟨s,n,rfl⟩
       ·exact L.ok _ g
       ·exact (L.mine s n).2.2
      grind
     have v:=L.newObj M (w1:=w1) c1.w.heap.size undef (L.kept.push _) (by grind) q (by
      refine ⟨some (c.ρ k),f,#[],f,?_,X.move (λb g=>q b (.inl g)) (λ_ g=>g)⟩
      grind) (λ_=>⟨λg=>by grind,.inl L.kept.size,by grind,λs n J=>by have:=(L.mine s n).2.2;omega⟩)
     have u:(execOp a.eval o).run C.P c.w= .ok (.value (.pointer (some ⟨c.w.heap.size,0,none⟩))) w1:=by
      simp only [execOp,z,Instr.range,Sem.run_bind,bh T,Result.andThen_ok,H,MapKept.run_getObj_map q1,Sem.run_pure,run_newObj];rfl
     refine bP (c1:={w:=w1,ok:=c1.ok,ρ:=λi=>if i=4096*d then c1.w.heap.size else c1.ρ i,σ:=λi=>if i=4096*d then undef else c1.σ i,pin:=c1.pin,ob:=st1.obj}) u v (λx Y=>(hg x Y).of (g1.trans rfl)) ?_ rfl (by rw [hd];exact B) hK
     grind[RepV]
    grind
   grind
  grind
 grind
theorem aiz {m:MTy} {y} (h:aJ c.w c.ok m.v y [u]):RepV c (m.valPV y) u:=by
 unfold MTy.valPV;have b:=aJ.leaves (c:=c) h
 grind[au,RepV]
theorem aj0 {m:MTy} {x} (b:eV m.s u cs) (h:aJ c.w c.ok m.k x cs):RepV c (m.keyPV x) u:=by
 unfold MTy.keyPV;have d:=aJ.leaves (c:=c) h
 grind[eV,au,RepV]
theorem alv (B:C.P=P) (i:o.op= .entry x) (h:Rep m w0 st a c) (D:∀x,o.dst=some x->bD st x) (q:be C o st K=some r)
 (E:∀j I J,K j=some r->Rep m w0 j I J->next I J.w):o.upon P a next Q ((execOp a.eval o).run P c.w):=by
 subst B;simp only [be,i,I4] at q;have s:=aZ h x;split at q
 ·rename_i k t;rw [t] at s;simp only [RepV] at s;split at q
  ·rename_i N left e F;obtain ⟨O,d,A,l,g1,G⟩:=h.objs k _ (by rw [h.ob];exact F);rcases G with ⟨_,_,S⟩| ⟨b,H,rfl,L,M,f,T,u,n⟩
   ·grind
   ·obtain ⟨v,y,g,z,cs,U,V,W⟩:=n e.1 e.2 rfl;rw [z] at g1
    have p:(execOp a.eval o).run C.P c.w= .ok (.value (.tuple #[v.key,v.val])) c.w:=by
     simp only [execOp,i,Sem.run_bind,s,run_entry_at c.w (c.ρ k) b d g H l v g1 M y f.1,Result.andThen_ok,Sem.run_pure]
    refine bP p h D ?_ rfl q E
    grind[RepV,au,aj0,aiz]
  grind
 grind
theorem ak9 {α R} {l} {f:α->List α->Option R} {r} (h:jf l f=some r):l≠ []/\∀i x,l[i]?=some x->f x (l.eraseIdx i)=some r:=by
 unfold jf at h;split at h
 all_goals grind
theorem V8:∀ (L:List MapEntry) (i) (e),(L.map (·.born)).Nodup->L[i]?=some e->L.filter (λx=>x.born !=e.born)=L.eraseIdx i
 | [],i,e,_,h=>by grind
 |x::r,0,e,j,h=>by
  simp_all
 |x::r,i+1,e,j,h=>by
  simp only [nJ] at h;simp only [eX,kF] at j
  have C:(x.born !=e.born)=true:=by
   grind
  simp only [List.eraseIdx_cons_succ,List.filter_cons,C,aI];rw [V8 r i e j.2 h]
theorem ajO {d:Array MapEntry} {b:Array Nat} (f:(d.toList.map (·.born)).Nodup) (h:(d.filter λe=> !b.contains e.born).toList[i]?=some e):
 (d.filter λx=> !(b.push e.born).contains x.born).toList=(d.filter λe=> !b.contains e.born).toList.eraseIdx i:=by
 rw [Array.toList_filter] at h ⊢;rw [Array.toList_filter,<-V8 _ i e ((DL.map _).nodup f) h,List.filter_filter]
 grind
theorem ek.get {m}:∀{l} {b} {i} {x},ek w ok m l b->b[i]?=some x->
 ∃e,l[i]?=some e/\(∃cs,eV m.s x.key cs/\aJ w ok m.k e.1 cs/\aJ w ok m.v e.2 [x.val])/\ek w ok m (l.eraseIdx i) (b.eraseIdx i)
 | [],b,i,x,h,j=>by
   have:b= []:=h
   grind
 |e::r,_,0,x,⟨y,s,cs,d,f,g,n,p⟩,j=>by
  grind
 |e::r,_,i+1,x,⟨y,s,cs,d,f,g,n,p⟩,j=>by
  subst d;simp only [nJ] at j;obtain ⟨q,g1,t,u⟩:=ek.get p j;exact ⟨q,g1,t,y,s.eraseIdx i,cs,rfl,f,g,n,u⟩
theorem alj (hC:C.P=P) (F:o.op= .next x false) (h:Rep m w0 st a c) (hg:∀x,o.dst=some x->bD st x) (u:be C o st K=some r)
 (hK:∀I a' c',K I=some r->Rep m w0 I a' c'->next a' c'.w):o.upon P a next Q ((execOp a.eval o).run P c.w):=by
 subst hC;simp only [be,F,Ij] at u;have G:=aZ h x;split at u
 ·rename_i k N;rw [N] at G;simp only [RepV] at G;split at u
  ·rename_i O left H S;obtain ⟨bo,d,f,last,g1,g2⟩:=h.objs k _ (by rw [h.ob];exact S)
   have v:(execOp a.eval o).run C.P c.w= .ok (.value (.tuple #[.bool false])) c.w->left= []->o.upon C.P a next Q ((execOp a.eval o).run C.P c.w):=by
    intro l T;subst T;simp only [yP,ah] at u;refine bP l h hg ?_ rfl u hK
    grind[RepV,au]
   rcases g2 with ⟨rfl,T,_⟩| ⟨b,U,rfl,V,t,g,hs,n,hcur⟩
   ·refine v ?_ T;simp only [execOp,F,G,Instr.next,getObj,Sem.run_bind,Sem.run,g1,Result.andThen];rfl
   ·subst hs;rcases run_next_at (P:=C.P) c.w o.type (c.ρ k) b d d f U d g1 t g.2 (aR _) with ⟨hz,l⟩| ⟨e,D,w1,p,l⟩
    ·refine v ?_ ?_
     ·grind[execOp,Sem.run_bind,Result.andThen_ok,Sem.run_pure]
     ·unfold leftOf at hz;have:=n.length
      grind
    ·unfold leftOf at D;obtain ⟨i,M⟩:=JM D;obtain ⟨en,q1,⟨cs,q2,q3,q4⟩,q5⟩:=n.get M;rw [<-ajO g.1 M] at q5
     have W:left.isEmpty=false:=by
      grind
     rw [W] at u;simp only [aa] at u;have X:=(ak9 u).2 i en q1;have Y:c.ob k=some (.iter O left H):=by rw [h.ob];exact S
     have z:bf c k:=⟨_,Y,aO⟩;have q:=h.mine k z;have hhp:w1.heap=c.w.heap:=by rcases p with rfl|rfl <;>rfl
     have s:∀i,i≠c.ρ k->(ChangeMaps.setBlock w1 (c.ρ k) (.mapIter (some b) d (f.push e.born) d)).heap[i]?=c.w.heap[i]?:=by
      grind[ChangeMaps.setBlock]
     have J:(ChangeMaps.setBlock w1 (c.ρ k) (.mapIter (some b) d (f.push e.born) d)).heap[c.ρ k]?=some (.mapIter (some b) d (f.push e.born) d):=by
      grind[ChangeMaps.setBlock]
     have Z:(ChangeMaps.setBlock w1 (c.ρ k) (.mapIter (some b) d (f.push e.born) d)).heap.size=c.w.heap.size:=by grind[ChangeMaps.setBlock]
     have A:(execOp a.eval o).run C.P c.w= .ok (.value (.tuple #[.bool true,e.key,e.val])) (ChangeMaps.setBlock w1 (c.ρ k) (.mapIter (some b) d (f.push e.born) d)):=by
      grind[execOp,Sem.run_bind,Result.andThen_ok,Sem.run_pure]
     have hee:e ∈ U.toList:=by
      grind
     have j:∀E,c.ok E->(ChangeMaps.setBlock w1 (c.ρ k) (.mapIter (some b) d (f.push e.born) d)).heap[E]?=c.w.heap[E]?:=λE hb'=>s E (by grind)
     have L:=h.setObj (w1:=ChangeMaps.setBlock w1 (c.ρ k) (.mapIter (some b) d (f.push e.born) d)) (o:= .iter O left H) (o':= .iter O (left.eraseIdx i) (some en)) S c.ok
      (h.kept.one (by rcases p with rfl|rfl <;>rfl) (by rcases p with rfl|rfl <;>rfl) (by rcases p with rfl|rfl <;>rfl) (by omega) (c.ρ k) q.2.1 (λi _ M=>s i M) (by rcases p with rfl|rfl;exact aR _;exact dI _)) (by omega)
      ?_ ?_ ?_ ?_ ?_ ?_ ?_
     ·refine bP A L (λx G=>hg x G) ?_ rfl X hK
      grind[RepV,au]
     ·rintro E (hb'| ⟨k',hk',B,rfl⟩)
      ·grind
      ·exact s _ (λD=>hk' (h.apart k' k B z D))
     ·grind
     ·exact λb t=>⟨by rw [Z];exact h.ok b t,λk' _ B D=>(h.mine k' B).1 (D ▸ t)⟩
     ·grind
     ·refine ⟨some b,d,f.push e.born,d,J,.inr ⟨b,U,rfl,V,by grind,g,rfl,q5.move j (λ_ t=>t),λx y hc=> ?_⟩⟩;simp only [aB] at hc;subst hc;exact ⟨e,hee,f,rfl,cs,q2,q3.move j (λ_ t=>t),q4.move j (λ_ t=>t)⟩
     ·exact λ_=>⟨aO,q.1⟩
     grind
  grind
 grind
theorem WE (hC:C.P=P) (F:o.op= .mapUpdate t x y z) (h:Rep m w0 st a c) (hg:∀x,o.dst=some x->bD st x) (O:be C o st K=some r)
 (hK:∀U a' c',K U=some r->Rep m w0 U a' c'->next a' c'.w):o.upon P a next Q ((execOp a.eval o).run P c.w):=by
 subst hC;simp only [be,F,xT] at O;have L:=aZ h x;have hy:=aZ h y;have hz:=aZ h z;split at O
 ·rename_i mt n hmt hxi;obtain ⟨k,e,hu,A,hlv⟩:=uR hmt;rw [hxi] at L;simp only [RepV] at L;split at O
  ·rename_i f l q S ho hq hv;split at O
   ·rename_i hm;subst hm;obtain ⟨xs,s,u⟩:=Iw hy hq;have hvd:aJ c.w c.ok f.v S [a.eval z]:=Ty.fU (c:=c) hv (by grind[au]);have T:c.ob n=some (.mp f l):=by rw [h.ob];exact ho
    obtain ⟨M,g,q1,q2,qb⟩:=h.objs n _ T;have D:bf c n:=⟨_,T,aO⟩;have B:=h.mine n D;have V:=A.check s u false c.w;have E:=A.now s u q2 c.w;have zz:∃z0,True:=⟨S,aO⟩
    have fin:∀p d,ek c.w c.ok f (bK f.k f.v l q S) p.toList->lH p.toList d->(execOp a.eval o).run C.P c.w= .ok .skip {c.w with heap:=c.w.heap.setIfInBounds (c.ρ n) (.map p d)}->
     o.upon C.P a next Q ((execOp a.eval o).run C.P c.w):=by
     intro p d G H W
     let w1:World:={c.w with heap:=c.w.heap.setIfInBounds (c.ρ n) (.map p d)}
     obtain ⟨s1,s2⟩:=MapKept.heap_set (w:=c.w) (r:=c.ρ n) (o':= .map p d) q1;have hsz:w1.heap.size=c.w.heap.size:=by grind
     have X:=h.setObj (w1:=w1) (o:= .mp f l) (o':= .mp f (bK f.k f.v l q S)) ho c.ok (h.kept.one rfl rfl rfl (by omega) (c.ρ n) B.2.1 (λi _ hi=>s2 i hi)) (by omega)
      ?_ ?_ ?_ ?_ ?_ ?_ ?_
     ·refine vh W X (λx L=>hg x L) O hK
     ·rintro b (N| ⟨k',hk',I,rfl⟩)
      ·grind
      ·exact s2 _ (λhe=>hk' (h.apart k' n I D he))
     ·grind
     ·exact λb N=>⟨by rw [hsz];exact h.ok b N,λk' _ I he=>(h.mine k' I).1 (he ▸ N)⟩
     ·grind
     ·exact ⟨p,d,s1,G.move (λb N=>s2 b (by grind)) (λ_ N=>N),H⟩
     ·exact λ_=>⟨aO,B.1⟩
     grind
    rcases yh (P:=C.P) A s u c.w S l M.toList 0 q2 with ⟨g1,g2,g3,g4⟩| ⟨j,e',cs',g1,g2,g3,g4,g5,g6,g7⟩
    ·refine fin (M.push {key:=a.eval y,val:=a.eval z,born:=g}) (g+1) ?_ ?_ ?_
     ·rw [g4,vM];exact q2.snoc s u hvd
     ·rw [vM];exact qb.push
     ·simp only [execOp,F,Instr.mapUpdate,Sem.run_bind,bh hu,Result.andThen_ok,L,MapKept.run_getObj_map q1,V,E,g1,MapKept.run_setObj_map _ q1,Sem.run_pure]
    ·have hcs:cs'=xs:=aJ.inj A.flat g6 u;subst hcs;have Y:e'.key=a.eval y:=g5.inj s;have J:=s.bits A.flat u;have hja:M[j]?=some e':=by grind
     have Z:(M.modify j λe=>{e with key:=a.eval y,val:=a.eval z}).toList=M.toList.set j {key:=a.eval y,val:=a.eval z,born:=e'.born}:=by
      rw [Ka];apply sK
      grind
     refine fin (M.modify j λe=>{e with key:=a.eval y,val:=a.eval z}) g ?_ ?_ ?_
     ·grind
     ·rw [Z];exact qb.set g2
     ·simp only [execOp,F,Instr.mapUpdate,Sem.run_bind,bh hu,Result.andThen_ok,L,MapKept.run_getObj_map q1,V,E,g1,lI,hja,sD,yG,Y,Instr.keyThatStays,J,aI,MapKept.run_setObj_map _ q1,Sem.run_pure]
   grind
  grind
 grind
theorem alk (hC:C.P=P) (L:o.op= .mapEntry t x y) (h:Rep m w0 st a c) (hg:∀x,o.dst=some x->bD st x) (U:be C o st K=some r)
 (hK:∀st' a' c',K st'=some r->Rep m w0 st' a' c'->next a' c'.w):o.upon P a next Q ((execOp a.eval o).run P c.w):=by
 subst hC;simp only [be,L,Im] at U;have V:=aZ h x;have hy:=aZ h y;split at U
 ·rename_i mt n hmt hxi;obtain ⟨k,e,hu,A,hlv⟩:=uR hmt;rw [hxi] at V;simp only [RepV] at V;split at U
  ·rename_i g l q z ho hq F;split at U
   ·rename_i hm;subst hm
    cases hlen:decide (l.length<=9223372036854775807) with
    |false=>grind
    |true=>
    rw [hlen,ah] at U;have hlen:=nD hlen;obtain ⟨xs,p,s⟩:=Iw hy hq;unfold CN at F;rw [hu] at F;simp only at F
    cases E:pT C.P e with
    |true=>grind
    |false=>
    rw [E] at F;simp only [aa] at F
    cases W:nb C.P e with
    |none=>grind
    |some zc=>
    rw [W] at F;simp only at F;obtain ⟨i,X,Y,Z,hsz,B⟩:=rN W;have hzd:=Ty.fU (c:=c) F (B c).1
    have hzl:X.cells.toList= [X]:=by
     unfold pT at E;rw [Y] at E;simp only [Z] at E
     cases X <;>first
      |rfl
      |grind
    rw [hzl] at hzd;have hob:c.ob n=some (.mp g l):=by rw [h.ob];exact ho
    obtain ⟨M,f,q1,q2,qb⟩:=h.objs n _ hob;have G:bf c n:=⟨_,hob,aO⟩;have D:=h.mine n G;have hck:=A.check p s false c.w;have H:=A.now p s q2 c.w;have hll:=q2.length
    have fin:∀u d v0 b,ek c.w c.ok g (p7 g.k g.v z l q) u.toList->lH u.toList d->b=mi g.k g.v l q->b<=l.length->(execOp a.eval o).run C.P c.w= .ok (.value (.tuple #[v0,goInt b])) {c.w with heap:=c.w.heap.setIfInBounds (c.ρ n) (.map u d)}->
     o.upon C.P a next Q ((execOp a.eval o).run C.P c.w):=by
     intro u d v0 b N O I hbl hrun;subst I
     let w1:={c.w with heap:=c.w.heap.setIfInBounds (c.ρ n) (.map u d)}
     obtain ⟨s1,s2⟩:=MapKept.heap_set (w:=c.w) (r:=c.ρ n) (o':= .map u d) q1;have hsz:w1.heap.size=c.w.heap.size:=by grind
     have B:=h.setObj (w1:=w1) (o:= .mp g l) (o':= .mp g (p7 g.k g.v z l q)) ho c.ok (h.kept.one rfl rfl rfl (by omega) (c.ρ n) D.2.1 (λi _ hi=>s2 i hi)) (by omega)
      ?_ ?_ ?_ ?_ ?_ ?_ ?_
     ·refine bP hrun B (λx V=>hg x V) ?_ rfl U hK
      grind[RepV,au,goInt,Lit.wf,IntKind.min,IntKind.max,IntKind.bits]
     ·rintro b (I| ⟨k',hk',S,rfl⟩)
      ·grind
      ·exact s2 _ (λhe=>hk' (h.apart k' n S G he))
     ·grind
     ·exact λb I=>⟨by rw [hsz];exact h.ok b I,λk' _ S he=>(h.mine k' S).1 (he ▸ I)⟩
     ·grind
     ·exact ⟨u,d,s1,N.move (λb I=>s2 b (by grind)) (λ_ I=>I),O⟩
     ·exact λ_=>⟨aO,D.1⟩
     grind
    obtain ⟨i1,i2⟩:=VW (P:=C.P) A p s c.w l M.toList 0 q2;rcases yh (P:=C.P) A p s c.w z l M.toList 0 q2 with ⟨g1,g2,g3,g4⟩| ⟨j,e',cs',g1,g2,g3,g4,g5,g6,g7⟩
    ·have hc:f=l.length:=by rw [<-qb.1];omega
     refine fin (M.push {key:=a.eval y,val:=X,born:=f}) (f+1) X f ?_ ?_ ?_ (by omega) ?_
     ·rw [vM];simp only [p7,g2,aa];exact q2.snoc p s hzd
     ·rw [vM];exact qb.push
     ·grind
     ·simp only [execOp,L,Instr.mapEntry,Sem.run_bind,bh hu,Result.andThen_ok,V,MapKept.run_getObj_map q1,hck,H,g1,MapKept.run_setObj_map _ q1,lq Y Z,Sem.run_pure]
    ·have hcs:cs'=xs:=aJ.inj A.flat g6 s;subst hcs;have J:e'.key=a.eval y:=g5.inj p;have T:=p.bits A.flat s;have hja:M[j]?=some e':=by grind
     have hjl:=(oS.1 g2).1
     have hset:(M.modify j λe=>{e with key:=a.eval y}).toList=M.toList:=by
      rw [Ka];apply sK;intro i;rw [List.getElem?_modify];by_cases hij:j=i
      ·subst hij;simp only [aI,g2,sD,Option.map_eq_map,<-J]
      grind
     refine fin (M.modify j λe=>{e with key:=a.eval y}) f e'.val j ?_ ?_ ?_ (by omega) ?_
     ·grind[p7]
     ·grind
     ·grind
     ·have hbj:e'.born=j:=qb.2 j e' g2;simp only [execOp,L,Instr.mapEntry,Sem.run_bind,bh hu,Result.andThen_ok,V,MapKept.run_getObj_map q1,hck,H,g1,lI,hja,sD,yG,J,Instr.keyThatStays,T,aI,MapKept.run_setObj_map _ q1,Sem.run_pure,hbj]
   grind
  grind
 grind
theorem alu (hC:C.P=P) (E:o.op= .entryStore t x y z) (h:Rep m w0 st a c) (hg:∀x,o.dst=some x->bD st x) (B:be C o st K=some r)
 (hK:∀I a' c',K I=some r->Rep m w0 I a' c'->next a' c'.w):o.upon P a next Q ((execOp a.eval o).run P c.w):=by
 subst hC;simp only [be,E,I3] at B;have F:=aZ h x;have O:=aZ h y;have hz:=aZ h z;split at B
 ·rename_i mt n b hmt S T;rw [S] at F;rw [T] at O;simp only [RepV] at F O;split at B
  ·rename_i f l yv ho hv;split at B
   ·rename_i hm;subst hm
    cases G:ae b l.length with
    |false=>grind
    |true=>
    rw [G,ah] at B;simp only [ae,bb,db] at G;have U:aJ c.w c.ok f.v yv [a.eval z]:=Ty.fU (c:=c) hv (by grind[au]);have H:c.ob n=some (.mp f l):=by rw [h.ob];exact ho
    obtain ⟨g,d,q1,q2,V⟩:=h.objs n _ H;have s:bf c n:=⟨_,H,aO⟩;have p:=h.mine n s;have hll:=q2.length;have W:b.toNat<g.toList.length:=by omega
    have q:=cK W;have hga:g[b.toNat]?=some g.toList[b.toNat]:=by grind
    have J:g.findIdx? (λe=>(e.born:Int)==b)=some b.toNat:=by
     rw [Array.findIdx?_eq_some_iff_getElem];refine ⟨by omega,?_,λj hj=> ?_⟩
     ·have:=V.2 b.toNat _ q
      grind
     ·have X:j<g.toList.length:=by omega
      have:=V.2 j _ (cK X)
      grind
    have u:(g.modify b.toNat λe=>{e with val:=a.eval z}).toList=g.toList.set b.toNat {g.toList[b.toNat] with val:=a.eval z}:=by
     rw [Ka];apply sK
     grind
    have L:(execOp a.eval o).run C.P c.w= .ok .skip {c.w with heap:=c.w.heap.setIfInBounds (c.ρ n) (.map (g.modify b.toNat λe=>{e with val:=a.eval z}) d)}:=by
     simp only [execOp,E,Instr.entryStore,Sem.run_bind,F,O.1,MapKept.run_getObj_map q1,Result.andThen_ok,asInt,asIntOf,J,MapKept.run_setObj_map _ q1,Sem.run_pure]
    let w1:World:={c.w with heap:=c.w.heap.setIfInBounds (c.ρ n) (.map (g.modify b.toNat λe=>{e with val:=a.eval z}) d)}
    obtain ⟨s1,Y⟩:=MapKept.heap_set (w:=c.w) (r:=c.ρ n) (o':= .map (g.modify b.toNat λe=>{e with val:=a.eval z}) d) q1;have Z:w1.heap.size=c.w.heap.size:=by grind
    have M:=h.setObj (w1:=w1) (o:= .mp f l) (o':= .mp f (mset f.k f.v l b.toNat yv)) ho c.ok (h.kept.one rfl rfl rfl (by omega) (c.ρ n) p.2.1 (λi _ hi=>Y i hi)) (by omega)
     ?_ ?_ ?_ ?_ ?_ ?_ ?_
    ·refine vh L M (λx F=>hg x F) B hK
    ·rintro N (D| ⟨k',hk',A,rfl⟩)
     ·grind
     ·exact Y _ (λhe=>hk' (h.apart k' n A s he))
    ·grind
    ·exact λN D=>⟨by rw [Z];exact h.ok N D,λk' _ A he=>(h.mine k' A).1 (he ▸ D)⟩
    ·grind
    ·refine ⟨_,d,s1,?_,?_⟩
     ·rw [u];exact (q2.mset q U).move (λN D=>Y N (by grind)) (λ_ D=>D)
     ·rw [u];exact V.set q
    ·exact λ_=>⟨aO,p.1⟩
    grind
   grind
  grind
 grind
theorem alq (f:C.P=P) (b:o.op= .insert t x y z) (h:Rep m w0 st a c) (g:∀x,o.dst=some x->bD st x) (e:be C o st K=some r)
 (i:∀j I J,K j=some r->Rep m w0 j I J->next I J.w):o.upon P a next Q ((execOp a.eval o).run P c.w):=by
 have k:execOp a.eval o=execOp a.eval {o with op:= .mapUpdate t x y z}:=by grind[execOp]
 cases d:lr C.P t with
 |true=>exact alf f b (by grind) h g (by simpa only [be,b,d,cond_true] using e) i
 |false=>
 have l:be C o st K=be C {o with op:= .mapUpdate t x y z} st K:=by simp only [be,b,d,aa]
 rw [k];rw [l] at e;exact WE (o:={o with op:= .mapUpdate t x y z}) f rfl h g e i
end
end Go.Fw
