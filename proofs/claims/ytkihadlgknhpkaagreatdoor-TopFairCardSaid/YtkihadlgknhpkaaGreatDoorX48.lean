/- Part 48: lemmas that the last text needs. -/
import Derived.Test.YtkihadlgknhpkaaGreatDoorX47
set_option linter.all false
set_option autoImplicit true
set_option relaxedAutoImplicit true
namespace Go.Proofs.YtkihadlgknhpkaaGreatDoor.T
open Go Go.Fw Go.Proofs RB
set_option maxRecDepth 20000
theorem EF (A:α×α×α×α×α×α×α×α×α×α×α×α×α×α×α×α):(lx A).length=16:=rfl
theorem DW (A:α×α×α×α×α×α×α×α×α×α×α×α×α×α×α×α) (v:α):∀i:Nat,i<16->lx (da A (i:Int) v)=(lx A).set i v
 |0,_=>rfl|1,_=>rfl|2,_=>rfl|3,_=>rfl|4,_=>rfl|5,_=>rfl|6,_=>rfl|7,_=>rfl|8,_=>rfl|9,_=>rfl|10,_=>rfl|11,_=>rfl|12,_=>rfl|13,_=>rfl|14,_=>rfl|15,_=>rfl
 |n+16,h=>absurd h (by omega)
theorem ze (t) (A) {i:Nat} (h):bg t A (i:Int)=(lx A)[i]'(by rw [EF];exact h):=by
 unfold bg;exact aU (by rw [EF];exact h)
theorem zw (h:0<=i/\i<16):∃n:Nat,i=(n:Int)/\n<16:=⟨i.toNat,by omega,by omega⟩
theorem zy (h:0<=i/\i<16) (a:x ∈ mj (da A i v)):x=v\/x ∈ mj A:=by
 obtain ⟨n,rfl,b⟩:=zw h;unfold mj at a ⊢;rw [DW A v n b] at a;rcases List.mem_or_eq_of_mem_set a with h|h
 ·exact .inr h
 ·exact .inl h
theorem KN {A} (h:0<=i/\i<16):bg t A i ∈ mj A:=by
 obtain ⟨n,rfl,a⟩:=zw h;rw [ze t A a];exact bt _
theorem sU (b:0<=i/\i<16) (c:0<=j/\j<16):bg t (da A i v) j=if i=j then v else bg t A j:=by
 obtain ⟨n,rfl,d⟩:=zw b;obtain ⟨m,rfl,a⟩:=zw c;rw [ze t _ a,ze t _ a];simp only [DW A v n d,List.getElem_set];by_cases h:n=m
 ·subst h;simp
 ·rw [ak h,ak (by omega)]
theorem nX (h:0<=i/\i<16):ae i 16=true:=bp h.1 h.2
def kK:A16:=((0,0),(0,0),(0,0),(0,0),(0,0),(0,0),(0,0),(0,0),(0,0),(0,0),(0,0),(0,0),(0,0),(0,0),(0,0),0,0)
def lN:cI:=(zG,kK)
def fy:cD:=(0,[],0)
def afh (x:Int×Int):=(0<=x.1/\x.1<=65535)/\ay x.2
structure MdOk (m:cI):Prop where
 gd:GdOk m.1
 sb:∀x ∈ mj m.2,afh x
theorem AX (k:MdOk m):rl m=some 0:=by
 have d:=qP (t:=Y0) (l:=mj m.2) (by show (lx m.2).length<=_;rw [EF];decide) (p:=λ_=>false) (G:=Al) (λx c=>by
  have:=(k.sb x c).1;unfold Al;have e:(2:Int)^ (min (16:Int).toNat 64)=65536:=rfl
  rw [e,aq (by omega)])
 have f:=qP (t:=bA) (l:=m.1.2.2.2.1) (by have:=k.gd.ky.few;omega) (p:=λ_=>false) (G:=Ak) (λx c=>by
  obtain ⟨g,h,i⟩:=k.gd.kr x c;unfold Ak
  rw [Om g,ai,h,i];rfl)
 obtain ⟨a,j,n⟩:=d;obtain ⟨b,b1,o⟩:=f;have q:F1 (mj m.2,())=some a:=j;have r:F0 (m.1.2.2.2.1,())=some b:=b1;unfold rl Fv Fu;simp only;rw [q,ai,n,r];have s:∀{α:Type} (l:List α),(l.any λ_=>false)=false:=λl=>by simp
 simp only [ai,o,s,bJ,ah,aa,wJ k.gd]
def jT (m:cI) (r:aQ×Int):cI×cD×Int:=if r.2=0 then (((r.1,m.1.2),m.2),fy,0) else (lN,fy,r.2)
def tk (m:cI) (r:cM×cD×Int):cI×cD×Int:=if r.2.2=0 then ((r.1,m.2),r.2.1,0) else (lN,fy,r.2.2)
def lW (h:Ga):D2:=(h.2.2.2.2.2.1,h.2.2.2.2.2.2.1,h.2.2.2.2.2.2.2.1,h.2.2.2.2.2.2.2.2.1,h.2.2.2.2.2.2.2.2.2.1,h.2.2.2.2.2.2.2.2.2.2.1,h.2.2.2.2.2.2.2.2.2.2.2.1)
noncomputable def jl (m) (h):=
 if h.1=1 then jT m (wy m.1.1 h.2.1 h.2.2.2.2.1) else
 if h.1=2 then jT m (vV m.1.1 h.2.1 h.2.2.1 h.2.2.2.1) else
 if h.1=3 then jT m (pj m.1.1 (lW h)) else
 if h.1=4 then jT m (wB m.1.1 h.2.2.2.1) else
 if h.1=5 then jT m (nW m.1.1 h.2.2.2.2.2.2.2.2.2.2.2.2) else
 if h.1=6 then jT m (wg m.1.1 h.2.1) else
 if h.1=7 then tk m (gr m.1 (gu m.1.2.2.1 h.2.1 h.2.2.1) h.2.1 h.2.2.1) else
 if h.1=8 then tk m (gr m.1 (oY m.1.2.2.1 h.2.1 h.2.2.1) h.2.1 h.2.2.1) else
 if h.1=9 then (if (nQ m.1 h.2.1).2=0 then (((nQ m.1 h.2.1).1,m.2),fy,0) else (lN,fy,(nQ m.1 h.2.1).2)) else
 if h.1=10 then (if 16<=h.2.1 then (lN,fy,1) else ((m.1,da m.2 h.2.1 (0,0)),fy,0)) else (lN,fy,1)
structure HpTy (h:Ga):Prop where
 a:ay h.2.1
 b:ay h.2.2.1
 c:ay h.2.2.2.1
 ch:ChTy (lW h)
theorem MdOk.putW (k:MdOk m) (a:WlOk w):MdOk ((w,m.1.2),m.2):=⟨⟨a,k.gd.ar,k.gd.rt,k.gd.ky,k.gd.kr,k.gd.ct⟩,k.sb⟩
theorem MdOk.own (k:MdOk m):eD m=some m:=k.gd.own2 (u:=m.2)
theorem tg (k:MdOk m) (b:∀w,r=(w,0)->WlOk w) 
 (c:∀w,eD ((w,m.1.2),m.2)=some ((w,m.1.2),m.2)->J (w,0)=some (((w,m.1.2),m.2),fy,0)) (d:∀w e,e≠0->J (w,e)=some (lN,fy,e)):(some r).bind J=some (jT m r):=by
 rw [ai];unfold jT;obtain ⟨w,e⟩:=r;by_cases a:e=0
 ·subst a;rw [aw rfl];exact c w (k.putW (b w rfl)).own
 ·rw [ak a];exact d w e a
theorem LK (k:MdOk m) (b:∀w t,r=(w,t,0)->GdOk w) 
 (c:∀w t,eD (w,m.2)=some (w,m.2)->J (w,t,0)=some ((w,m.2),t,0)) (d:∀w t e,e≠0->J (w,t,e)=some (lN,fy,e)):(some r).bind J=some (tk m r):=by
 rw [ai];unfold tk;obtain ⟨w,t,e⟩:=r;by_cases a:e=0
 ·subst a;rw [aw rfl];exact c w t (b w t rfl).own2
 ·rw [ak a];exact d w t e a
theorem BV (k:MdOk m) (g:HpTy h):oz (m,h)=some (jl m h):=by
 have i:=k.gd.wl;unfold oz jl;dsimp -beta -proj only;simp only [bC];rw [AX k,ai];simp only [al,ax,aa];have z0:∀ (w:aQ) (e:Int),e≠0->decide (e=0)=false:=λw e h=>aq h
 by_cases l:h.1=1
 ·rw [aw l,aF l,ah,ag1 i];exact tg k (λw d=>(Mp i g.a d).1) (λw d=>by simp only [al,ax,aa,d,ai];rfl) (λw e f=>by simp only [aq f,bm,ah];rfl)
 rw [ak l,aq l,aa];by_cases n:h.1=2
 ·rw [aw n,aF n,ah,ag0 i g.b];exact tg k (λw d=>(KI i g.a g.b d).1) (λw d=>by simp only [al,ax,aa,d,ai];rfl) (λw e f=>by simp only [aq f,bm,ah];rfl)
 rw [ak n,aq n,aa];by_cases o:h.1=3
 ·rw [aw o,aF o,ah,show (h.2.2.2.2.2.1,h.2.2.2.2.2.2.1,h.2.2.2.2.2.2.2.1,h.2.2.2.2.2.2.2.2.1,h.2.2.2.2.2.2.2.2.2.1,h.2.2.2.2.2.2.2.2.2.2.1,h.2.2.2.2.2.2.2.2.2.2.2.1)=lW h from rfl,agZ i g.ch];exact tg k (λw d=>(Lh i g.ch d).1) (λw d=>by simp only [al,ax,aa,d,ai];rfl) (λw e f=>by simp only [aq f,bm,ah];rfl)
 rw [ak o,aq o,aa];by_cases p:h.1=4
 ·rw [aw p,aF p,ah,agY i];exact tg k (λw d=>(MC i g.c d).1) (λw d=>by simp only [al,ax,aa,d,ai];rfl) (λw e f=>by simp only [aq f,bm,ah];rfl)
 rw [ak p,aq p,aa];by_cases q:h.1=5
 ·rw [aw q,aF q,ah,agX i];exact tg k (λw d=>(EH i d).1) (λw d=>by simp only [al,ax,aa,d,ai];rfl) (λw e f=>by simp only [aq f,bm,ah];rfl)
 rw [ak q,aq q,aa];by_cases r:h.1=6
 ·rw [aw r,aF r,ah,agW i];exact tg k (λw d=>(LL i g.a d).1) (λw d=>by simp only [al,ax,aa,d,ai];rfl) (λw e f=>by simp only [aq f,bm,ah];rfl)
 rw [ak r,aq r,aa];by_cases s:h.1=7
 ·rw [aw s,aF s,ah,NJ k.gd g.a g.b];exact LK k (λw t d=>(qT k.gd (λm A=>tz k.gd.rt g.a g.b A) d).1) (λw t d=>by simp only [al,ax,aa,d,ai]) (λw t e f=>by simp only [aq f,bm,ah];rfl)
 rw [ak s,aq s,aa];by_cases x:h.1=8
 ·rw [aw x,aF x,ah,agV k.gd g.a g.b];exact LK k (λw t d=>(qT k.gd (λm A=>DX k.gd.rt g.b A) d).1) (λw t d=>by simp only [al,ax,aa,d,ai]) (λw t e f=>by simp only [aq f,bm,ah];rfl)
 rw [ak x,aq x,aa];by_cases y:h.1=9
 ·rw [aw y,aF y,ah,agU k.gd,ai];by_cases f:(nQ m.1 h.2.1).2=0
  ·obtain ⟨v,B⟩:∃v,nQ m.1 h.2.1=(v,0):=⟨_,aM rfl f⟩;rw [B];simp only [al,ax,aa,aI,(KG k.gd B).1.own2,ai];rfl
  ·simp only [f,aK,bm,ah,aH];rfl
 rw [ak y,aq y,aa];by_cases j:h.1=10
 ·rw [aw j,aF j,ah];by_cases z:16<=h.2.1
  ·rw [aw z,aF z,ah];rfl
  ·have C:=g.a;rw [ak z,aq z,aa,nX ⟨C.1,by omega⟩,ah,k.gd.own2 (u:=da m.2 h.2.1 (0,0)),ai];rfl
 rw [ak j,aq j,aa];rfl
def tu (h):=if h.1=3 then cZ (lW h) else 0
theorem EO (k:MdOk m) (i:HpTy h) (e:jl m h=(v,t,0)):MdOk v/\aP v.1.1.1=aP m.1.1.1+tu h/\(h.1=3->ChOk (lW h)):=by
 have j:=k.gd.wl
 have l:∀{r},jT m r=(v,t,0)->r.2=0/\v=((r.1,m.1.2),m.2):=λ{r} f=>by
  unfold jT at f;split at f
  ·simp only [aL] at f;exact ⟨by assumption,f.1.symm⟩
  ·simp only [aL] at f;exact absurd f.2.2 (by assumption)
 have q:∀{r},tk m r=(v,t,0)->r.2.2=0/\v=(r.1,m.2):=λ{r} f=>by
  unfold tk at f;split at f
  ·simp only [aL] at f;exact ⟨by assumption,f.1.symm⟩
  ·simp only [aL] at f;exact absurd f.2.2 (by assumption)
 unfold jl at e;unfold tu;by_cases s:h.1=1
 ·rw [aw s] at e;obtain ⟨d,rfl⟩:=l e;obtain ⟨a,b⟩:=Mp j i.a (aM rfl d);exact ⟨k.putW a,by rw [ak (by omega)];exact b.trans (vK _).symm,λh=>by omega⟩
 rw [ak s] at e;by_cases u:h.1=2
 ·rw [aw u] at e;obtain ⟨d,rfl⟩:=l e;obtain ⟨a,b⟩:=KI j i.a i.b (aM rfl d);exact ⟨k.putW a,by rw [ak (by omega)];exact b.trans (vK _).symm,λh=>by omega⟩
 rw [ak u] at e;by_cases g:h.1=3
 ·rw [aw g] at e;obtain ⟨d,rfl⟩:=l e;obtain ⟨a,b,c⟩:=Lh j i.ch (aM rfl d);exact ⟨k.putW a,by rw [aw g];exact b,λ_=>c⟩
 rw [ak g] at e;rw [ak g];by_cases w:h.1=4
 ·rw [aw w] at e;obtain ⟨d,rfl⟩:=l e;obtain ⟨a,b⟩:=MC j i.c (aM rfl d);exact ⟨k.putW a,b.trans (vK _).symm,λh=>absurd h g⟩
 rw [ak w] at e;by_cases y:h.1=5
 ·rw [aw y] at e;obtain ⟨d,rfl⟩:=l e;obtain ⟨a,b⟩:=EH j (aM rfl d);exact ⟨k.putW a,by simp only;rw [b];omega,λh=>absurd h g⟩
 rw [ak y] at e;by_cases z:h.1=6
 ·rw [aw z] at e;obtain ⟨d,rfl⟩:=l e;obtain ⟨a,b⟩:=LL j i.a (aM rfl d);exact ⟨k.putW a,by simp only;rw [b];omega,λh=>absurd h g⟩
 rw [ak z] at e;by_cases A:h.1=7
 ·rw [aw A] at e;obtain ⟨d,rfl⟩:=q e;obtain ⟨a,b⟩:=qT k.gd (λm o=>tz k.gd.rt i.a i.b o) (aM rfl (aM rfl d));exact ⟨⟨a,k.sb⟩,by simp only;rw [b];omega,λh=>absurd h g⟩
 rw [ak A] at e;by_cases B:h.1=8
 ·rw [aw B] at e;obtain ⟨d,rfl⟩:=q e;obtain ⟨a,b⟩:=qT k.gd (λm o=>DX k.gd.rt i.b o) (aM rfl (aM rfl d));exact ⟨⟨a,k.sb⟩,by simp only;rw [b];omega,λh=>absurd h g⟩
 rw [ak B] at e;by_cases C:h.1=9
 ·rw [aw C] at e;split at e
  ·rename_i d;simp only [aL] at e;obtain ⟨rfl,_⟩:=e;obtain ⟨a,b⟩:=KG k.gd (aM rfl d);exact ⟨⟨a,k.sb⟩,by simp only;rw [b];omega,λh=>absurd h g⟩
  ·rename_i d;simp only [aL] at e;exact absurd e.2.2 d
 rw [ak C] at e;by_cases n:h.1=10
 ·rw [aw n] at e;split at e
  ·simp at e
  ·rename_i d;simp only [aL] at e;obtain ⟨rfl,_⟩:=e;have D:=i.a;refine ⟨⟨k.gd,λx p=> ?_⟩,by simp only;omega,λh=>absurd h g⟩;rcases zy ⟨D.1,by omega⟩ p with rfl|p
   ·exact ⟨by decide,bN⟩
   ·exact k.sb x p
 rw [ak n] at e;simp at e
def Er (e:Int):=0<=e/\e<=14
theorem aeE (f) (k a n):Er (gv f k a n).2.2:=by unfold gv;split <;>simp [Er]
theorem EZ (w) (i a n):Er (gA w i a n).2:=by
 unfold gA;split
 ·simp [Er]
 ·exact aeE ..
theorem aes (l) (p):Er (ic l p).2:=by
 unfold ic;split
 ·split <;>simp [Er]
 ·simp [Er]
theorem aez (c) (i n):Er (nZ c i n).2:=by unfold nZ;repeat' split <;>first| (simp [Er];done)|skip
theorem aeA (l) (q) (f) (h:∀c,Er (f c).2):Er (eR l q f).2:=by
 unfold eR;split
 ·split
  ·simp [Er]
  ·exact h _
 ·simp [Er]
theorem aey (w) (n):Er (lR w n).2:=aeA _ _ _ (λc=>by
 split
 ·simp [Er]
 ·exact aez ..)
theorem Mk (w) (a n):Er (fL w a n).2.2:=by
 unfold fL;split
 ·simp [Er]
 split
 ·simp [Er]
 split
 ·simp [Er]
 split
 ·exact aes ..
 split
 ·exact aey ..
 split
 ·simp [Er]
 ·exact EZ ..
theorem Mn:∀ (l) (w) (i) (ids),Er (kV w l i ids).2.2.2
 | [],w,i,ids=>by simp [kV,Er]
 |x::r,w,i,ids=>by
  unfold kV;split
  ·exact Mn r ..
  ·exact Mk ..
theorem aev (w) (l):Er (mK w l).2.2.2:=by
 unfold mK;split
 ·exact Mn ..
 ·unfold ga
  repeat' split <;>first| (simp [Er];done)|skip
theorem aew (w) (q n t):Er (pk w q n t).2:=by
 unfold pk;split
 ·exact EZ ..
 ·unfold lV
  repeat' split <;>first| (simp [Er];done)|skip
theorem aeB (w) (q):Er (pA w q).2:=by
 unfold pA;split
 ·exact EZ ..
 ·unfold gq
  repeat' split <;>first| (simp [Er];done)|skip
theorem Ml (f) (s):Er (kQ f s):=by unfold kQ;repeat' split <;>first| (simp [Er];done)|skip
theorem aeu (a) (n):Er (Ar.gi a n).2.2:=by unfold Ar.gi;repeat' split <;>first| (simp [Er];done)|skip
theorem aeC (a) (t) (c):Er (Ar.hU a t c).2.2:=by
 unfold Ar.hU;split
 ·simp [Er]
 split
 ·simp [Er]
 split
 ·simp [Er]
 ·exact aeu ..
theorem aeD (l) (root) (cs) (n):Er (addS l root cs n).2:=by
 unfold addS sS
 repeat' split <;>first| (simp [Er];done)|skip
theorem aex (l) (q) (p) (t):Er (tf l q p t).2:=by unfold tf;repeat' split <;>first| (simp [Er];done)|skip
theorem aet (l) (x) (t):Er (pf l x t).2:=by unfold pf;repeat' split <;>first| (simp [Er];done)|skip
theorem aeV (h:Ar.hU a t c=(b,u,0)):Ar.valid b/\ew u:=by
 unfold Ar.hU at h;split at h
 ·simp at h
 rename_i g;split at h
 ·simp at h
 rename_i o;split at h
 ·rename_i e;simp only [aL,dn] at h;obtain ⟨rfl,rfl⟩:=h;have j:=jL λq=>g (.inl q)
  have f:=jL λq=>g (.inr (.inl q))
  obtain ⟨g1,p,k,l,r,s,m⟩:=Ar.Hi (a:=a) (n:=(0,(t.2.2,bl c))) (aM rfl (aM rfl e));have i:=m ⟨by have:=f.2.1;simp only;omega,λ_=>rfl⟩;refine ⟨i,?_,?_,?_⟩
  ·have:=f.1;simp only [cq,aW,dy];omega
  ·have v:=Ar.Hj k;have w:=i.len;simp only [l];omega
  ·intro x d;rcases cz.1 d with d|d
   ·exact f.2.2 x d
   ·simp only [eP] at d;subst d;exact j
 ·rename_i e;simp only [aL] at h;exact absurd h.2.2 e
structure WorkOk (m v:cI) (rp:Rp):Prop where
 md:MdOk v
 tot:aP v.1.1.1=aP m.1.1.1
 ok:RpOk rp
 may:okP rp
 ez:rp.2.1=0
theorem sP:(-9223372036854775808:Int)<=0/\(0:Int)<=9223372036854775807:=by decide
theorem z4:(0:Int)<=0/\(0:Int)<=4:=by decide
theorem vP:(0:Int)<=0/\(0:Int)<=14:=by decide
theorem Eh (e:ay a) (f:ay n) (g:0<=j/\j<=4) (d:ids.length<=16/\∀x ∈ ids,ay x) (b:evs.length<=16/\∀x ∈ evs,xF x/\0<=x.2.1/\x.2.1<16):
 RpOk (0,0,a,n,j,ids,evs,0,[],0)/\okP (0,0,a,n,j,ids,evs,0,[],0):=
 ⟨⟨bN,sP,e,f,⟨by simp only;omega,by simp only;omega⟩,d.2,λx c=>(b.2 x c).1,⟨bN,by simp,sP⟩,by simp only;omega,by simp only;omega,by simp⟩,
  ⟨vP,g,d.1,b.1,λx c=>(b.2 x c).2,by simp,by simp,by simp⟩⟩
theorem acQ (h:gh t) (a:ew t):RpOk (0,0,0,0,0,[],[],t)/\okP (0,0,0,0,0,[],[],t):=
 ⟨⟨bN,sP,bN,bN,sP,by simp,by simp,h,by simp,by simp,by have:=a.1;simp only;omega⟩,⟨vP,z4,by simp,by simp,by simp,a⟩⟩
theorem mG (b:ay a) (c:ay n) (d:0<=j/\j<=4):RpOk (0,0,a,n,j,[],[],0,[],0)/\okP (0,0,a,n,j,[],[],0,[],0):=Eh b c d ⟨by simp,by simp⟩ ⟨by simp,by simp⟩
theorem acR (h:ay i) (a:Er e):RpOk (i,e,0,0,0,[],[],0,[],0)/\okP (i,e,0,0,0,[],[],0,[],0):=
 ⟨⟨h,⟨by have:=a.1;simp only;omega,by have:=a.2;simp only;omega⟩,bN,bN,sP,by simp,by simp,⟨bN,by simp,sP⟩,by simp,by simp,by simp⟩,
  ⟨a,z4,by simp,by simp,by simp,by simp,by simp,by simp⟩⟩
theorem KC (b:ay i) (h:RpOk r) (k:okP r):RpOk (i,r.2)/\okP (i,r.2):=
 ⟨⟨b,h.e,h.a,h.n,h.st,h.ids,h.evs,h.tok,h.idl,h.evl,h.tkl⟩,⟨k.e,k.st,k.ids,k.evl,k.evs,k.tok⟩⟩
theorem Ei (h:RpOk r) (k:okP r):Bs (gn r):=Mr (Ej h k)
theorem adl (k:InOk l) (a:x ∈ l) (t):0<=iU x t/\iU x t<=4:=by
 have:=(k.may x a).2;unfold iU;split <;>omega
noncomputable def jj (m:cI) (seat:Int) (r:lk) (J:(Int×oB)->Option (cI×List Int×Int)):=
 bif decide (r.2.1=1) then (
 (oq (m.1.1,r.2.2.2.2.2.2.1,r.2.2.2.2.2.2.2.1)).bind λe=>
 J (e.2.2,(((e.1,m.1.2),m.2),seat,r,0,0,e.2.1,0,0,[],[],0,[],0)))
 else (
 bif decide (r.2.1=2) then (
 (wX (m.1.1,r.2.2.2.2.2.2.2.2.2.1)).bind λf=>
 J (f.2.2.2,(((f.1,m.1.2),m.2),seat,r,0,0,0,0,0,f.2.1,[],0,[],0)))
 else (
 bif decide (r.2.1=3) then (
 (wW (m.1.1,r.2.2.2.2.2.2.1,r.2.2.2.2.2.2.2.1,r.2.2.2.2.2.2.2.2.1)).bind λi=>
 J (i.2,(((i.1,m.1.2),m.2),seat,r,0,0,0,0,0,[],[],0,[],0)))
 else (
 bif decide (r.2.1=4) then (
 (tY (m.1.1,r.2.2.2.2.2.2.1)).bind λj=>
 J (j.2,(((j.1,m.1.2),m.2),seat,r,0,0,0,0,0,[],[],0,[],0)))
 else (
 bif decide (r.2.1=5) then (
 (wV (m.1.1.2.2.1,r.2.2.2.2.2.2.1,m.1.1.2.2.2.2.2.2.2)).bind λk=>
 J (k.2,(m,seat,r,0,0,0,0,k.1,[],[],0,[],0)))
 else (
 bif decide (r.2.1=6) then (
 (wT (m.1.1.2.2.2.1,r.2.2.2.2.2.2.1)).bind λc=>
 J (c.2,(m,seat,r,0,0,c.1.2.1,c.1.2.2.2.1,c.1.2.2.2.2,[],[],0,[],0)))
 else (
 bif decide (r.2.1=7) then (
 (tX m.1.1.1).bind λg=>
 J (g.2.2,(m,seat,r,0,0,g.1,g.2.1,0,[],[],0,[],0)))
 else (
 bif decide (r.2.1=8) then (
 bif ae seat 16 then
 bif ae seat 16 then
 (tW ((m.1.1.2.2.2.2.1,m.1.1.2.2.2.2.2.1),(bg Y0 (da m.2 seat (r.2.2.2.2.2.2.1,r.2.2.2.2.2.2.2.1)) seat))).bind λl=>
 J (l,((m.1,(da m.2 seat (r.2.2.2.2.2.2.1,r.2.2.2.2.2.2.2.1))),seat,r,0,0,0,0,0,[],[],0,[],0))
 else none
 else none)
 else (
 bif decide (r.2.1=9) then (
 bif ae seat 16 then
 bif decide ((bg Y0 m.2 seat).1=0) then (
 J (10,(m,seat,r,0,0,0,0,0,[],[],0,[],0)))
 else (
 (tV ((m.1.1.2.2.2.2.1,m.1.1.2.2.2.2.2.1),(bg Y0 m.2 seat),(IntKind.wrap .i64 (if 16<r.2.2.2.2.2.2.2.1 then 16 else r.2.2.2.2.2.2.2.1)))).bind λd=>
 J (d.2.2,((m.1,(da m.2 seat d.2.1)),seat,r,0,0,(bg Y0 (da m.2 seat d.2.1) seat).2,0,0,[],d.1,0,[],0)))
 else none)
 else (
 bif decide (r.2.1=10) then (
 aD (λ(h:(mc)->Option (cI×List Int×Int)) (a:mc)=>
  bif decide (a.2.1<(r.2.2.2.2.2.2.2.2.2.2.length:Int)) then (
  bif ae a.2.1 r.2.2.2.2.2.2.2.2.2.2.length then
  (oo (a.2.2.1.1.2.1,a.2.2.2.2.2.2.2.2.2.2.2.2,(rd Y1 r.2.2.2.2.2.2.2.2.2.2 a.2.1))).bind λb=>
  bif (!decide (b.2.2=0)) then (
  J (b.2.2,(((a.2.2.1.1.1,b.1,a.2.2.1.1.2.2),a.2.2.1.2),a.2.2.2.1,a.2.2.2.2.1,a.2.2.2.2.2.1,a.2.2.2.2.2.2.1,a.2.2.2.2.2.2.2.1,a.2.2.2.2.2.2.2.2.1,a.2.2.2.2.2.2.2.2.2.1,a.2.2.2.2.2.2.2.2.2.2.1,a.2.2.2.2.2.2.2.2.2.2.2.1,b.2.1)))
  else (
  h (b.2.2,(IntKind.wrap .i64 (a.2.1+1)),(((a.2.2.1.1.1,b.1,a.2.2.1.1.2.2),a.2.2.1.2),a.2.2.2.1,a.2.2.2.2.1,a.2.2.2.2.2.1,a.2.2.2.2.2.2.1,a.2.2.2.2.2.2.2.1,a.2.2.2.2.2.2.2.2.1,a.2.2.2.2.2.2.2.2.2.1,a.2.2.2.2.2.2.2.2.2.2.1,a.2.2.2.2.2.2.2.2.2.2.2.1,b.2.1)))
  else none)
  else (
  J (a.1,a.2.2))) (0,0,(m,seat,r,0,0,0,0,0,[],[],r.2.2.2.1,r.2.2.2.2.1,r.2.2.2.2.2.1)))
 else (
 J (0,(m,seat,r,0,0,0,0,0,[],[],0,[],0))))))))))))
noncomputable def b8:List bZ->fm->List Cv->List bZ×fm×Int
 |a,t,[]=>(a,t,0)
 |a,t,c::r=>if (Ar.hU a t c).2.2=0 then b8 (Ar.hU a t c).1 (Ar.hU a t c).2.1 r else Ar.hU a t c
theorem Mm:∀ (l) (a) (t),Er (b8 a t l).2.2
 | [],a,t=>by simp [b8,Er]
 |c::r,a,t=>by
  unfold b8;split
  ·exact Mm r ..
  ·exact aeC ..
theorem MU:∀ (l) (a) (t),Ar.valid a->gh t->ew t->(∀c ∈ l,dV c)->∀b u,b8 a t l=(b,u,0)->Ar.valid b/\gh u/\ew u
 | [],a,t,C,j,I,_,b,u,h=>by
   simp only [b8,aL,dn] at h;obtain ⟨rfl,rfl⟩:=h;exact ⟨C,j,I⟩
 |c::r,a,t,C,j,I,e,b,u,h=>by
  unfold b8 at h;split at h
  ·rename_i d;have f:=e c (by simp);obtain ⟨g1,g⟩:=aeV (a:=a) (t:=t) (c:=c) (aM rfl (aM rfl d));exact MU r _ _ g1 (Ar.TJ j f).1 g (λx i=>e x (by simp [i])) b u h
  ·rename_i d;rw [h] at d;exact absurd rfl d
theorem adH (h:aD B s=some r):∃n,∀m,n<=m->iter B m s=some r:=by
 unfold aD at h;split at h
 ·rename_i a;obtain ⟨n,b⟩:=a.choose_spec;exact ⟨n,λm c=>by rw [b m c];exact h⟩
 ·simp at h
theorem aeW (E:∀c ∈ l,dV c) (Q:l.length<=16) (m) (seat) (r) (t) (I:gh t) (A:t.2.1.length<=16) (K:L=l):
 ∃a,((b8 m.1.2.1 t l).2.2=0->a=(b8 m.1.2.1 t l).1)/\∀J:(Int×oB)->Option (cI×List Int×Int),aD (λ(f:(mc)->Option (cI×List Int×Int)) (b:mc)=>
  bif decide (b.2.1<(L.length:Int)) then (
  bif ae b.2.1 L.length then
  (oo (b.2.2.1.1.2.1,b.2.2.2.2.2.2.2.2.2.2.2.2,(rd Y1 L b.2.1))).bind λd=>
  bif (!decide (d.2.2=0)) then (
  J (d.2.2,(((b.2.2.1.1.1,d.1,b.2.2.1.1.2.2),b.2.2.1.2),b.2.2.2.1,b.2.2.2.2.1,b.2.2.2.2.2.1,b.2.2.2.2.2.2.1,b.2.2.2.2.2.2.2.1,b.2.2.2.2.2.2.2.2.1,b.2.2.2.2.2.2.2.2.2.1,b.2.2.2.2.2.2.2.2.2.2.1,b.2.2.2.2.2.2.2.2.2.2.2.1,d.2.1)))
  else (
  f (d.2.2,(IntKind.wrap .i64 (b.2.1+1)),(((b.2.2.1.1.1,d.1,b.2.2.1.1.2.2),b.2.2.1.2),b.2.2.2.1,b.2.2.2.2.1,b.2.2.2.2.2.1,b.2.2.2.2.2.2.1,b.2.2.2.2.2.2.2.1,b.2.2.2.2.2.2.2.2.1,b.2.2.2.2.2.2.2.2.2.1,b.2.2.2.2.2.2.2.2.2.2.1,b.2.2.2.2.2.2.2.2.2.2.2.1,d.2.1)))
  else none)
  else (
  J (b.1,b.2.2))) (0,0,(m,seat,r,0,0,0,0,0,[],[],t))=J ((b8 m.1.2.1 t l).2.2,((m.1.1,a,m.1.2.2),m.2),seat,r,0,0,0,0,0,[],[],(b8 m.1.2.1 t l).2.1):=by
 subst K;refine ⟨(b8 m.1.2.1 t L).1,λ_=>rfl,λJ=> ?_⟩
 let u:Nat->mc:=λi=>((0:Int),(i:Int),(((m.1.1,(b8 m.1.2.1 t (L.take i)).1,m.1.2.2),m.2),seat,r,0,0,0,0,0,[],[],(b8 m.1.2.1 t (L.take i)).2.1))
 have app:∀ (x y:List Cv) (a:List bZ) (t:fm),(b8 a t x).2.2=0->b8 a t (x++y)=b8 (b8 a t x).1 (b8 a t x).2.1 y:=by
  intro x
  induction x with
  |nil=>intro y a t _;rfl
  |cons c x v=>
   intro y a t h;rw [dP,b8,b8];rw [b8] at h;split at h
   ·rename_i g;rw [aw g,aw g];exact v y _ _ h
   ·rename_i g;exact absurd h g
 have B:∀ (x:List Cv) (a:List bZ) (t:fm),(∀c ∈ x,dV c)->gh t/\t.2.1.length<=16->gh (b8 a t x).2.1/\(b8 a t x).2.1.2.1.length<=16:=by
  intro x
  induction x with
  |nil=>intro a t _ h;exact h
  |cons c x v=>
   intro a t F h;have:=Ar.TJ (a:=a) h.1 (F c (by simp));rw [b8];split
   ·exact v _ _ (λy C=>F y (by simp [C])) this
   ·exact this
 show aD _ (u 0)=_
 have w:∀k i,i+k=L.length->(b8 m.1.2.1 t (L.take i)).2.2=0->∃n,∀q,n<=q->iter (λ(f:(mc)->Option (cI×List Int×Int)) (b:mc)=>
  bif decide (b.2.1<(L.length:Int)) then (
  bif ae b.2.1 L.length then
  (oo (b.2.2.1.1.2.1,b.2.2.2.2.2.2.2.2.2.2.2.2,(rd Y1 L b.2.1))).bind λd=>
  bif (!decide (d.2.2=0)) then (
  J (d.2.2,(((b.2.2.1.1.1,d.1,b.2.2.1.1.2.2),b.2.2.1.2),b.2.2.2.1,b.2.2.2.2.1,b.2.2.2.2.2.1,b.2.2.2.2.2.2.1,b.2.2.2.2.2.2.2.1,b.2.2.2.2.2.2.2.2.1,b.2.2.2.2.2.2.2.2.2.1,b.2.2.2.2.2.2.2.2.2.2.1,b.2.2.2.2.2.2.2.2.2.2.2.1,d.2.1)))
  else (
  f (d.2.2,(IntKind.wrap .i64 (b.2.1+1)),(((b.2.2.1.1.1,d.1,b.2.2.1.1.2.2),b.2.2.1.2),b.2.2.2.1,b.2.2.2.2.1,b.2.2.2.2.2.1,b.2.2.2.2.2.2.1,b.2.2.2.2.2.2.2.1,b.2.2.2.2.2.2.2.2.1,b.2.2.2.2.2.2.2.2.2.1,b.2.2.2.2.2.2.2.2.2.2.1,b.2.2.2.2.2.2.2.2.2.2.2.1,d.2.1)))
  else none)
  else (
  J (b.1,b.2.2))) q (u i)=J ((b8 m.1.2.1 t L).2.2,((m.1.1,(b8 m.1.2.1 t L).1,m.1.2.2),m.2),seat,r,0,0,0,0,0,[],[],(b8 m.1.2.1 t L).2.1):=by
   intro k
   induction k with
   |zero=>
    intro i M g;have:i=L.length:=by omega
    subst this;rw [fX] at g;refine ⟨1,λq z=> ?_⟩;obtain ⟨q,rfl⟩:∃p,q=p+1:=⟨q - 1,by omega⟩;show (bif decide (((L.length:Nat):Int) <(L.length:Int)) then _ else _)=_;rw [aq (by omega),aa];simp only [u,fX,g]
   |succ k v=>
    intro i M g;have e:i<L.length:=by omega
    have N:L.take (i+1)=L.take i++ [L[i]]:=fg e;have O:L=L.take i++ (L[i]::L.drop (i+1)):=by rw [<-gT e,mC]
    have okk:=B (L.take i) m.1.2.1 t (λc D=>E c (lJ D)) ⟨I,A⟩;have D:=E _ (bt e);have G:oo ((b8 m.1.2.1 t (L.take i)).1,(b8 m.1.2.1 t (L.take i)).2.1,L[i])=some (Ar.hU (b8 m.1.2.1 t (L.take i)).1 (b8 m.1.2.1 t (L.take i)).2.1 L[i]):=Ar.ahz okk.1 (by omega) D;by_cases o:(Ar.hU (b8 m.1.2.1 t (L.take i)).1 (b8 m.1.2.1 t (L.take i)).2.1 L[i]).2.2=0
    ·have s:b8 m.1.2.1 t (L.take (i+1))=Ar.hU (b8 m.1.2.1 t (L.take i)).1 (b8 m.1.2.1 t (L.take i)).2.1 L[i]:=by
      rw [N,app _ _ _ _ g,b8,aw o,b8];exact aM rfl (aM rfl o.symm)
     obtain ⟨n,j⟩:=v (i+1) (by omega) (by rw [s];exact o);refine ⟨n+1,λq z=> ?_⟩;obtain ⟨q,rfl⟩:∃p,q=p+1:=⟨q - 1,by omega⟩;rw [<-j q (by omega)];show (bif decide (((i:Nat):Int) <(L.length:Int)) then _ else _)=_;simp only [u,eA e,al,ah,aV e,aU (t:=Y1) e];rw [G,ai,aF o,cx (by omega),s,o];rfl
    ·have s:b8 m.1.2.1 t L=Ar.hU (b8 m.1.2.1 t (L.take i)).1 (b8 m.1.2.1 t (L.take i)).2.1 L[i]:=by
      conv=>lhs;rw [O]
      rw [app _ _ _ _ g,b8,ak o]
     refine ⟨1,λq z=> ?_⟩;obtain ⟨q,rfl⟩:∃p,q=p+1:=⟨q - 1,by omega⟩;show (bif decide (((i:Nat):Int) <(L.length:Int)) then _ else _)=_;simp only [u,eA e,al,ah,aV e,aU (t:=Y1) e];rw [G,ai,aq o,s];rfl
 obtain ⟨n,j⟩:=w L.length 0 (by omega) rfl
 cases H:J ((b8 m.1.2.1 t L).2.2,((m.1.1,(b8 m.1.2.1 t L).1,m.1.2.2),m.2),seat,r,0,0,0,0,0,[],[],(b8 m.1.2.1 t L).2.1) with
 |some x=>exact rY n (λq z=>by rw [j q z,H])
 |none=>
  refine Option.eq_none_iff_forall_not_mem.2 (λy C=> ?_);obtain ⟨k,P⟩:=adH C;have s:=P (max k n) (Nat.le_max_left _ _);rw [j _ (Nat.le_max_right _ _),H] at s;cases s
theorem Mi (k:FdOk f) (a:e ∈ f.2):xF e/\0<=e.2.1/\e.2.1<16:=by
 obtain ⟨i,b,rfl⟩:=kH a;obtain ⟨j,c,d⟩:=k.ev i b;obtain ⟨g,h⟩:=k.ty _ a;have:=k.lo;have:=k.hi;have:=k.len
 exact ⟨⟨⟨by omega,by omega⟩,⟨by omega,by omega⟩,g,h⟩,c,d⟩
theorem Kf (k:MdOk m) (D:0<=seat/\seat<16) (g:RqOk r) (X:dR r):
 ∃e v Y,(∀J,jj m seat r J=J (e,v,seat,r,Y))/\Er e/\(e=0->WorkOk m v Y)/\(r.me=1->e=(fL m.1.1 r.a r.n).2.2/\v=(((fL m.1.1 r.a r.n).1,m.1.2),m.2)/\Y=(0,0,(fL m.1.1 r.a r.n).2.1,0,0,[],[],0,[],0)):=by
 have f:=k.gd.wl;have e0:=vP;have w0:WorkOk m m (0,0,0,0,0,[],[],0,[],0):=⟨k,rfl,(mG bN bN z4).1,(mG bN bN z4).2,rfl⟩;by_cases q:r.2.1=1
 ·refine ⟨_,_,_,λJ=> ?_,Mk m.1.1 r.a r.n,λi=> ?_,λ_=>⟨rfl,rfl,rfl⟩⟩
  ·unfold jj;rw [aF q,ah,N1 f g.a g.n];rfl
  ·obtain ⟨v,id,K⟩:∃v id,fL m.1.1 r.a r.n=(v,id,0):=⟨_,_,aM rfl (aM rfl i)⟩;obtain ⟨a,b,c⟩:=Ew f g.a g.n K;have M:ay id:=by rw [c];exact ⟨by have:=f.nx1;omega,by have:=f.nx2;omega⟩
   rw [K];exact ⟨k.putW a,b,(mG M bN z4).1,(mG M bN z4).2,rfl⟩
 have u:¬r.me=1:=q;by_cases w:r.2.1=2
 ·refine ⟨(mK m.1.1 r.its).2.2.2,(((mK m.1.1 r.its).1,m.1.2),m.2),(0,0,0,0,0,(mK m.1.1 r.its).2.1,[],0,[],0),λJ=> ?_,aev ..,λi=> ?_,λh=>absurd h u⟩
  ·unfold jj;rw [aq q,aa,aF w,ah,agr f g.its g.l2];rfl
  ·obtain ⟨v,o,j,K⟩:∃v o j,mK m.1.1 r.its=(v,o,j,0):=⟨_,_,_,aM rfl (aM rfl (aM rfl i))⟩;obtain ⟨a,b,c,d,e⟩:=adD f g.its K;rw [K];have:=Eh bN bN z4 (ids:=o) (evs:= []) ⟨by omega,e⟩ ⟨by simp,by simp⟩;exact ⟨k.putW a,b,this.1,this.2,rfl⟩
 by_cases y:r.2.1=3
 ·refine ⟨(pk m.1.1 r.a r.n r.till).2,(((pk m.1.1 r.a r.n r.till).1,m.1.2),m.2),(0,0,0,0,0,[],[],0,[],0),λJ=> ?_,aew ..,λi=> ?_,λh=>absurd h u⟩
  ·unfold jj;rw [aq q,aa,aq w,aa,aF y,ah,agq f g.a g.n g.till];rfl
  ·obtain ⟨a,b⟩:=adE f g.a g.n g.till (aM rfl i);exact ⟨k.putW a,by simp only;rw [b],w0.ok,w0.may,rfl⟩
 by_cases B:r.2.1=4
 ·refine ⟨(pA m.1.1 r.a).2,(((pA m.1.1 r.a).1,m.1.2),m.2),(0,0,0,0,0,[],[],0,[],0),λJ=> ?_,aeB ..,λi=> ?_,λh=>absurd h u⟩
  ·unfold jj;rw [aq q,aa,aq w,aa,aq y,aa,aF B,ah,agp f];rfl
  ·obtain ⟨a,b⟩:=aeR f g.a (aM rfl i);exact ⟨k.putW a,by simp only;rw [b],w0.ok,w0.may,rfl⟩
 by_cases E:r.2.1=5
 ·refine ⟨(if aN IK r.a m.1.1.2.2.1=true then (iU (bw IK zI r.a m.1.1.2.2.1) m.1.1.2.2.2.2.2.2.2,(0:Int)) else (0,5)).2,m,(0,0,0,0,(if aN IK r.a m.1.1.2.2.1=true then (iU (bw IK zI r.a m.1.1.2.2.1) m.1.1.2.2.2.2.2.2.2,(0:Int)) else (0,5)).1,[],[],0,[],0),λJ=> ?_,?_,λi=> ?_,λh=>absurd h u⟩
  ·unfold jj;rw [aq q,aa,aq w,aa,aq y,aa,aq B,aa,aF E,ah,ago f.inv];rfl
  ·split <;>simp [Er]
  ·split
   ·rename_i Z;have:=mG bN bN (adl f.inv (fN (z:=zI) f.inv.inc Z).2.2.1 m.1.1.2.2.2.2.2.2.2);exact ⟨k,rfl,this.1,this.2,rfl⟩
   ·exact w0
 by_cases F:r.2.1=6
 ·refine ⟨(if aN PK r.a m.1.1.2.2.2.1=true then (bw PK dJ r.a m.1.1.2.2.2.1,(0:Int)) else (dJ,5)).2,m,(0,0,(if aN PK r.a m.1.1.2.2.2.1=true then (bw PK dJ r.a m.1.1.2.2.2.1,(0:Int)) else (dJ,5)).1.2.1,(if aN PK r.a m.1.1.2.2.2.1=true then (bw PK dJ r.a m.1.1.2.2.2.1,(0:Int)) else (dJ,5)).1.2.2.2.1,(if aN PK r.a m.1.1.2.2.2.1=true then (bw PK dJ r.a m.1.1.2.2.2.1,(0:Int)) else (dJ,5)).1.2.2.2.2,[],[],0,[],0),λJ=> ?_,?_,λi=> ?_,λh=>absurd h u⟩
  ·unfold jj;rw [aq q,aa,aq w,aa,aq y,aa,aq B,aa,aq E,aa,aF F,ah,agn f.pay];rfl
  ·split <;>simp [Er]
  ·split
   ·rename_i Z;have hm:=(fN (z:=dJ) f.pay.inc Z).2.2.1;have ht:=f.payT _ hm;have hy:=(f.pay.may _ hm).2;have:=mG ht.hash ht.n (show 0<= (bw PK dJ r.a m.1.1.2.2.2.1).2.2.2.2/\(bw PK dJ r.a m.1.1.2.2.2.1).2.2.2.2<=4 by omega);exact ⟨k,rfl,this.1,this.2,rfl⟩
   ·exact w0
 by_cases I:r.2.1=7
 ·obtain ⟨a,n,hf,U,hn⟩:=agm f.ledT f.led;refine ⟨0,m,(0,0,a,n,0,[],[],0,[],0),λJ=> ?_,e0,λ_=>⟨k,rfl,(mG U hn z4).1,(mG U hn z4).2,rfl⟩,λh=>absurd h u⟩;unfold jj;rw [aq q,aa,aq w,aa,aq y,aa,aq B,aa,aq E,aa,aq F,aa,aF I,ah,hf];rfl
 have G:=nX D;by_cases N:r.2.1=8
 ·refine ⟨kQ (m.1.1.2.2.2.2.1,m.1.1.2.2.2.2.2.1) (r.a,r.n),(m.1,da m.2 seat (r.a,r.n)),(0,0,0,0,0,[],[],0,[],0),λJ=> ?_,Ml ..,λi=> ?_,λh=>absurd h u⟩
  ·unfold jj;rw [aq q,aa,aq w,aa,aq y,aa,aq B,aa,aq E,aa,aq F,aa,aq I,aa,aF N,ah,G,ah,ah];have O:=sU (t:=Y0) (A:=m.2) (v:=(r.a,r.n)) D D;rw [aw rfl] at O;have V:=N0 f.fd (s:=(r.a,r.n)) ⟨g.a,g.n⟩
   erw [O,V];rfl
  ·refine ⟨⟨k.gd,λx C=> ?_⟩,rfl,w0.ok,w0.may,rfl⟩;rcases zy D C with rfl|C
   ·have U:=g.a;refine ⟨⟨U.1,?_⟩,g.n⟩;unfold kQ at i;split at i
    ·simp at i
    ·rename_i P;simp only at P ⊢;omega
   ·exact k.sb x C
 by_cases W:r.2.1=9
 ·have p:=k.sb _ (KN (t:=Y0) (A:=m.2) D);by_cases hz:(bg Y0 m.2 seat).1=0
  ·refine ⟨10,m,(0,0,0,0,0,[],[],0,[],0),λJ=> ?_,by simp [Er],λh=>by simp at h,λh=>absurd h u⟩;unfold jj;rw [aq q,aa,aq w,aa,aq y,aa,aq B,aa,aq E,aa,aq F,aa,aq I,aa,aq N,aa,aF W,ah,G,ah,aF hz,ah]
  ·have hrn:=g.n
   have Q:0<= (if 16<r.n then (16:Int) else r.n)/\(if 16<r.n then (16:Int) else r.n)<=16:=by
    have:=hrn.1;split <;>omega
   have hw:IntKind.wrap .i64 (if 16<r.n then (16:Int) else r.n)=(if 16<r.n then (16:Int) else r.n):=RB.dO (by omega) (by omega);have V:=agl f.fd (s:=bg Y0 m.2 seat) ⟨⟨p.1.1,by have:=p.1.2;omega⟩,p.2⟩ (most:=(if 16<r.n then (16:Int) else r.n)) ⟨Q.1,by omega⟩;generalize hR:(if kQ (m.1.1.2.2.2.2.1,m.1.1.2.2.2.2.2.1) (bg Y0 m.2 seat)=0 then ib (m.1.1.2.2.2.2.1,m.1.1.2.2.2.2.2.1) (bg Y0 m.2 seat) (if 16<r.n then (16:Int) else r.n) [] (oc (m.1.1.2.2.2.2.1,m.1.1.2.2.2.2.2.1) (bg Y0 m.2 seat)) else ([],(0,0),kQ (m.1.1.2.2.2.2.1,m.1.1.2.2.2.2.2.1) (bg Y0 m.2 seat)))=R at V;have O:=sU (t:=Y0) (A:=m.2) (v:=R.2.1) D D;rw [aw rfl] at O;have H:=Ec (m.1.1.2.2.2.2.1,m.1.1.2.2.2.2.2.1) (bg Y0 m.2 seat) (if 16<r.n then (16:Int) else r.n) Q.1 (oc (m.1.1.2.2.2.2.1,m.1.1.2.2.2.2.2.1) (bg Y0 m.2 seat)) [] (by simp only [dy];omega) (by simp) (λe i=>iJ i);refine ⟨R.2.2,(m.1,da m.2 seat R.2.1),(0,0,R.2.1.2,0,0,[],R.1,0,[],0),λJ=> ?_,?_,λi=> ?_,λh=>absurd h u⟩
   ·unfold jj;rw [aq q,aa,aq w,aa,aq y,aa,aq B,aa,aq E,aa,aq F,aa,aq I,aa,aq N,aa,aF W,ah,G,ah,aq hz,aa];show ((tV ((m.1.1.2.2.2.2.1,m.1.1.2.2.2.2.2.1),bg Y0 m.2 seat,IntKind.wrap .i64 (if 16<r.n then (16:Int) else r.n))).bind _)=_;rw [hw,V,ai,O]
   ·rw [<-hR];split
    ·rw [H.2.2.2.1];exact e0
    ·exact Ml ..
   ·have hR2:R=ib (m.1.1.2.2.2.2.1,m.1.1.2.2.2.2.2.1) (bg Y0 m.2 seat) (if 16<r.n then (16:Int) else r.n) [] (oc (m.1.1.2.2.2.2.1,m.1.1.2.2.2.2.2.1) (bg Y0 m.2 seat)):=by
     rw [<-hR] at i ⊢;split at i
     ·rename_i P;rw [aw P]
     ·rename_i P;exact absurd i P
    rw [<-hR2] at H;obtain ⟨s1,s2,s3,s4,s5⟩:=H
    have S:ay R.2.1.2:=by
     have:=f.fd.lo;have:=f.fd.hi
     rcases s5 with h|h| ⟨e,h,h'⟩
     ·rw [h];exact ⟨by simp only at*;omega,by simp only at*;omega⟩
     ·rw [h];exact p.2
     ·rw [h'];exact (Mi f.fd h).1.1
    have:=Eh S bN z4 (ids:= []) (evs:=R.1) ⟨by simp,by simp⟩ ⟨by omega,λx C=>Mi f.fd (s2 x C)⟩;refine ⟨⟨k.gd,λx C=> ?_⟩,rfl,this.1,this.2,rfl⟩;rcases zy D C with rfl|C
    ·exact ⟨by rw [s3];exact p.1,S⟩
    ·exact k.sb x C
 by_cases T:r.2.1=10
 ·obtain ⟨a,a1,a2⟩:=aeW (l:=r.cvs) g.cvs (sZ X).1 m seat r r.tok g.tok X.2.1 (L:=r.2.2.2.2.2.2.2.2.2.2) rfl;refine ⟨(b8 m.1.2.1 r.tok r.cvs).2.2,((m.1.1,a,m.1.2.2),m.2),(0,0,0,0,0,[],[],(b8 m.1.2.1 r.tok r.cvs).2.1),λJ=> ?_,Mm ..,λi=> ?_,λh=>absurd h u⟩
  ·unfold jj;rw [aq q,aa,aq w,aa,aq y,aa,aq B,aa,aq E,aa,aq F,aa,aq I,aa,aq N,aa,aq W,aa,aF T,ah];exact a2 J
  ·obtain ⟨b1,b2,b3⟩:=MU r.cvs m.1.2.1 r.tok k.gd.ar g.tok X.2 g.cvs _ _ (aM rfl (aM rfl i));have:=acQ b2 b3;rw [a1 i];exact ⟨⟨⟨f,b1,k.gd.rt,k.gd.ky,k.gd.kr,k.gd.ct⟩,k.sb⟩,rfl,this.1,this.2,rfl⟩
 ·refine ⟨0,m,(0,0,0,0,0,[],[],0,[],0),λJ=> ?_,e0,λ_=>w0,λh=>absurd h u⟩;unfold jj;rw [aq q,aa,aq w,aa,aq y,aa,aq B,aa,aq E,aa,aq F,aa,aq I,aa,aq N,aa,aq W,aa,aq T,aa]
def lZ (m:cI) (o:Option (cI×List Int×Int)):=∃v rep,o=some (v,rep,0)/\MdOk v/\aP v.1.1.1=aP m.1.1.1/\Bs rep/\rep.length<=4096
theorem lZ.of (h:a=b) (k:lZ m b):lZ m a:=by subst h;exact k
noncomputable def j3 (m:cI) (r:lk) (a:BW):=
 bif (!decide (a.1=0)) then (
 (iX (r.1,a.1,0,0,0,[],[],0,[],0)).bind λb=>
 bif (!decide (b.2=0)) then (
 some (lN,[],b.2))
 else (
 (eD m).bind λc=>
 some (c,b.1,0)))
 else (
 (eD a.2.2.1).bind λd=>
 some (d,a.2.1,0))
theorem pn (k:MdOk m) (c:RqOk r) (h:x.1≠0) (d:Er x.1):lZ m (j3 m r x):=by
 obtain ⟨b,a⟩:=acR c.id d;have e:iX (r.1,x.1,0,0,0,[],[],0,[],0)=some (gn (r.1,x.1,0,0,0,[],[],0,[],0),0):=by rw [Az b,aw a]
 refine ⟨m,gn (r.1,x.1,0,0,0,[],[],0,[],0),?_,k,rfl,Ei b a,b9 (KE a) (by decide)⟩;unfold j3;rw [aq h,bm,ah,e,ai,k.own];rfl
theorem EK (k:MdOk v) (h:x.1=0) (a:x.2.2.1=v) (b:aP v.1.1.1=aP m.1.1.1) (c:Bs x.2.1) (d:x.2.1.length<=4096):lZ m (j3 m r x):=by
 refine ⟨v,x.2.1,?_,k,b,c,d⟩;unfold j3;rw [aF h,a,k.own];rfl
noncomputable def zJ (m:cI) (g:List Int×Int) (c:List D9×Int) (f:BW->Option (cI×List Int×Int)) (a:Int×oB):=
 bif (!decide (a.1=0)) then (
 f (a.1,[],a.2))
 else (
 (iX (a.2.2.2.1.1,a.2.2.2.2.2)).bind λb=>
 bif (bif (!decide (b.2=0)) then true else decide (a.2.2.2.1.2.2.1=0)) then (
 f (b.2,b.1,(((a.2.1.1.1,a.2.1.1.2.1,a.2.1.1.2.2.1,a.2.1.1.2.2.2.1,c.1),a.2.1.2),a.2.2.1,a.2.2.2.1,a.2.2.2.1.1,a.2.2.2.2.2)))
 else (
 bif decide ((IntKind.wrap .u64 (m.1.1.2.2.2.2.2.2.2+100)) <m.1.1.2.2.2.2.2.2.2) then (
 (mT (m.1.2.2.2.1,(a.2.2.2.1.2.2.1,g.1,b.1,18446744073709551615),m.1.1.2.2.2.2.2.2.2)).bind λd=>
 f (d.2,b.1,(((a.2.1.1.1,a.2.1.1.2.1,a.2.1.1.2.2.1,d.1,c.1),a.2.1.2),a.2.2.1,a.2.2.2.1,a.2.2.2.1.1,a.2.2.2.2.2)))
 else (
 (mT (m.1.2.2.2.1,(a.2.2.2.1.2.2.1,g.1,b.1,(IntKind.wrap .u64 (m.1.1.2.2.2.2.2.2.2+100))),m.1.1.2.2.2.2.2.2.2)).bind λe=>
 f (e.2,b.1,(((a.2.1.1.1,a.2.1.1.2.1,a.2.1.1.2.2.1,e.1,c.1),a.2.1.2),a.2.2.1,a.2.2.2.1,a.2.2.2.1.1,a.2.2.2.2.2)))))
theorem adT (k:MdOk m) (h:RqOk r) (C:Er e) (D:e=0->WorkOk m v j) (i:CtOk l):lZ m (zJ m n (l,z) (j3 m r) (e,v,seat,r,j)):=by
 unfold zJ;by_cases o:e=0
 ·subst o;have w:=D rfl;obtain ⟨p,g⟩:=KC h.id w.ok w.may;have E:iX (r.1,j.2)=some (gn (r.1,j.2),0):=by rw [Az p,aw g]
  have q:=Ei p g;have t:(gn (r.1,j.2)).length<=4096:=b9 (KE g) (by decide);simp only [al,ax,aa];rw [E,ai];simp only [al,ax,aa];have u:∀c,KyOk c->(∀x ∈ c,Fp x.2.2.1)->MdOk ((v.1.1,v.1.2.1,v.1.2.2.1,c,l),v.2):=λc a b=>⟨⟨w.md.gd.wl,w.md.gd.ar,w.md.gd.rt,a,b,i⟩,w.md.sb⟩
  by_cases y:r.key=0
  ·rw [aF (show r.2.2.1=0 from y),ah];exact EK (u _ w.md.gd.ky w.md.gd.kr) rfl rfl w.tot q t
  ·rw [aq (show ¬r.2.2.1=0 from y),aa]
   have put:∀till:Int,lZ m (Option.bind (mT (m.1.2.2.2.1,(r.2.2.1,n.1,gn (r.1,j.2),till),m.1.1.2.2.2.2.2.2.2)) λd=>j3 m r (d.2,gn (r.1,j.2),(((v.1.1,v.1.2.1,v.1.2.2.1,d.1,l),v.2),seat,r,r.1,j.2))):=λtill=>by
    rw [agy k.gd.ky,ai];by_cases A:(pf m.1.2.2.2.1 (r.2.2.1,n.1,gn (r.1,j.2),till) m.1.1.2.2.2.2.2.2.2).2=0
    ·obtain ⟨c,f⟩:∃c,pf m.1.2.2.2.1 (r.2.2.1,n.1,gn (r.1,j.2),till) m.1.1.2.2.2.2.2.2.2=(c,0):=⟨_,aM rfl A⟩;obtain ⟨a,b⟩:=ac6 k.gd.ky f;rw [f];refine EK (u c a λx s=> ?_) rfl rfl w.tot q t;rcases b x s with rfl|s
     ·have B:=L5 p g;exact ⟨q,by rw [B],by rw [B];exact w.ez⟩
     ·exact k.gd.kr x s
    ·exact pn k h A (aet ..)
   cases decide ((IntKind.wrap .u64 (m.1.1.2.2.2.2.2.2.2+100)) <m.1.1.2.2.2.2.2.2.2)
   ·exact put _
   ·exact put _
 ·simp only [aq o,bm,ah];exact pn k h o C
noncomputable def jS (m) (seat) (r) (d) (c):=
 (q9 r).bind λb=>
 bif (!decide (b.2=0)) then (
 c (b.2,[],(m,seat,r,0,0,0,0,0,[],[],0,[],0)))
 else (
 (rm (m.1.2.2.2.2,r.2.2.2.1,r.2.2.2.2.1,b.1)).bind λa=>
 bif decide (a.2=8) then (
 c (11,[],(m,seat,r,0,0,0,0,0,[],[],0,[],0)))
 else (
 bif (!decide (a.2=0)) then (
 c (a.2,[],(m,seat,r,0,0,0,0,0,[],[],0,[],0)))
 else jj m seat r (zJ m d a c)))
theorem LP (k:MdOk m) (c:RqOk r) (h:dR r) (l:0<=seat/\seat<16) :lZ m (jS m seat r q (j3 m r)):=by
 unfold jS;rw [Fs c,ai];by_cases f:(fP r).2=0
 ·simp only [f,al,ax,aa];have n:=Od k.gd.ct c.tok.1 c.tok.2.1 (Fc c);rw [n,ai];by_cases i:(addS m.1.2.2.2.2 r.tok.1 r.tok.2.1 (fP r).1).2=8
  ·rw [aF i,ah];exact pn k c (show (11:Int)≠0 by decide) (show Er 11 from ⟨by decide,by decide⟩)
  ·rw [aq i,aa];by_cases g:(addS m.1.2.2.2.2 r.tok.1 r.tok.2.1 (fP r).1).2=0
   ·obtain ⟨j,d⟩:∃j,addS m.1.2.2.2.2 r.tok.1 r.tok.2.1 (fP r).1=(j,0):=⟨_,aM rfl g⟩;rw [d];simp only [al,ax,aa];obtain ⟨e,v,s,o,a,b,_⟩:=Kf k l c h;refine lZ.of (o _) ?_;exact adT k c a b (ae5 k.gd.ct c.tok.1 c.tok.2.1 (Fc c) d)
   ·rw [aq g,bm,ah];exact pn k c g (aeD ..)
 ·rw [aq f,bm,ah];refine pn k c f ?_;unfold fP;split
  ·split
   ·exact vP
   ·split
    ·unfold ga
     repeat' split <;>first| (simp [Er];done)|skip
    ·exact vP
  ·rename_i p;exact absurd h p
noncomputable def zX (m) (seat) (b):=
 (rl m).bind λi=>
 bif (bif (bif (!decide (i=0)) then true else decide (seat<0)) then true else decide (16<=seat)) then (
 some (lN,[],1))
 else (
 (xt b).bind λa=>
 bif decide (a.2=0) then (
 (rG ((m.1.1,m.1.2.1,m.1.2.2.1,m.1.2.2.2.1,[]),a.1,(IntKind.wrap .u64 seat))).bind λh=>
 bif (bif (!decide (h.2=0)) then true else (!h.1)) then (
 j3 m a.1 (11,[],(m,seat,a.1,0,0,0,0,0,[],[],0,[],0)))
 else (
 (xf a.1).bind λd=>
 bif (!decide (d.2=0)) then (
 j3 m a.1 (d.2,[],(m,seat,a.1,0,0,0,0,0,[],[],0,[],0)))
 else (
 bif (!decide (a.1.2.2.1=0)) then (
 (xe (m.1.2.2.2.1,a.1.2.2.1,d.1,m.1.1.2.2.2.2.2.2.2)).bind λe=>
 bif (!decide (e.2=5)) then (
 j3 m a.1 (e.2,e.1,(m,seat,a.1,0,0,0,0,0,[],[],0,[],0)))
 else jS m seat a.1 d (j3 m a.1))
 else jS m seat a.1 d (j3 m a.1))))
 else (
 bif (!decide (a.2=0)) then (
 (iX (a.1.1,a.2,0,0,0,[],[],0,[],0)).bind λc=>
 bif (!decide (c.2=0)) then (
 some (lN,[],c.2))
 else (
 (eD m).bind λf=>
 some (f,c.1,0)))
 else (
 (eD m).bind λg=>
 some (g,[],0))))
theorem Na (m) (seat) (b):pL (m,seat,b)=zX m seat b:=by
 unfold pL zX;dsimp -beta -proj only;simp only [bC,jc];rfl
theorem aea (h:(fM b).2≠0):RqOk (fM b).1/\Er (fM b).2:=by
 by_cases a:b.length<=4096
 ·rw [aec a h];exact ⟨yS,by simp [Er]⟩
 ·have:fM b=(zQ,4):=by unfold fM;rw [aw (by omega)]
  rw [this];exact ⟨yS,by simp [Er]⟩
theorem aeX (k:MdOk m) (j:Bs b) (l:0<=seat/\seat<16):lZ m (pL (m,seat,b)):=by
 rw [Na];unfold zX;rw [AX k,ai];simp only [al,ax,aa];rw [aq (by omega),aq (by omega)];simp only [aa];rw [Ov j,ai];by_cases d:(fM b).2=0
 ·rw [aF d,ah];obtain ⟨a,h,_⟩:=ad9 j d;generalize (fM b).1=r at a h ⊢;have q:IntKind.wrap .u64 seat=seat:=RB.ln (by omega) (by omega);have s:GdOk (m.1.1,m.1.2.1,m.1.2.2.1,m.1.2.2.2.1,[]):=⟨k.gd.wl,k.gd.ar,k.gd.rt,k.gd.ky,k.gd.kr,⟨by simp,by simp,List.Pairwise.nil,by simp⟩⟩;have t:rG ((m.1.1,m.1.2.1,m.1.2.2.1,m.1.2.2.2.1,[]),r,seat)=_:=On s a ⟨by omega,by omega⟩;rw [q,t,ai];have i:lZ m (j3 m r (11,[],(m,seat,r,0,0,0,0,0,[],[],0,[],0))):=pn k a (show (11:Int)≠0 by decide) (show Er 11 from ⟨by decide,by decide⟩);generalize wc (m.1.1,m.1.2.1,m.1.2.2.1,m.1.2.2.2.1,[]) r seat=g
  cases (bif (!decide (g.2=0)) then true else (!g.1)) with
  |true=>exact i
  |false=>
   rw [aa,Oe a,aw h,ai];simp only [al,ax,aa];by_cases n:r.key=0
   ·rw [aF (show r.2.2.1=0 from n)];exact LP k a h l
   ·rw [aq (show ¬r.2.2.1=0 from n),bm,ah,agz k.gd.ky,ai];generalize o:tf m.1.2.2.2.1 r.2.2.1 ((mH r).flatMap bG) m.1.1.2.2.2.2.2.2.2=L;have e:=aex m.1.2.2.2.1 r.2.2.1 ((mH r).flatMap bG) m.1.1.2.2.2.2.2.2.2;rw [o] at e;by_cases p:L.2=5
    ·rw [aF p];exact LP k a h l
    ·rw [aq p,bm,ah];by_cases c:L.2=0
     ·have:Fp L.1/\L.1.length<=4096:=by
       rw [<-o] at c ⊢;unfold tf at c ⊢;split at c
       ·rename_i g1;rw [aw g1];split at c
        ·rename_i u;rw [aw u];have v:=(fN (z:=zK) (vT k.gd.ky m.1.1.2.2.2.2.2.2.2).inc g1).2.2.1;have f:=(nH.1 v).1;exact ⟨k.gd.kr _ f,(k.gd.ky.sh _ f).2⟩
        ·simp at c
       ·simp at c
      exact EK k c rfl rfl this.1.1 this.2
     ·exact pn k a c e
 ·rw [aq d,aa,bm,ah];obtain ⟨a,w⟩:=aea d;have:=pn k a (x:=((fM b).2,[],(m,seat,(fM b).1,0,0,0,0,0,[],[],0,[],0))) d w;unfold j3 at this;rw [aq d] at this;exact this
end Go.Proofs.YtkihadlgknhpkaaGreatDoor.T
