/- Part 50: lemmas that the last text needs. -/
import Derived.Test.YtkihadlgknhpkaaGreatDoorX49
set_option linter.all false
set_option autoImplicit true
set_option relaxedAutoImplicit true
namespace Go.Proofs.YtkihadlgknhpkaaGreatDoor.T
open Go Go.Fw Go.Proofs RB
open T.Se
set_option maxRecDepth 20000
def fk (p:cn) (i:Nat):List (List Int):=(bg YS p.2 (i:Int)).2.2.2.1
theorem ag4 (k:PlOk p) (h:∀i,i<16->fk p i= []):BK p=some (0,0):=by
 unfold BK;rw [BN k,ai];simp only [al,ax,aa];refine fA 16 (λi=>((0:Int),(i:Int))) (λx=>x.2.toNat) (λi _=>by simp) _ (λi c a=> ?_) (λa=> ?_)
 ·have b:0<= (i:Int)/\(i:Int) <16:=⟨by omega,by omega⟩;have d:(bg (.pair .bool cG) p.2 (i:Int)).2.2.2.1= []:=h i c;simp only;rw [aF b.2,ah,nX b,ah,cx (by omega)]
  erw [d]
  rfl
 ·simp only;rw [aq (by decide),aa]
theorem Xx (k:PlOk p) {j:Nat} (S:j<16) (J:(bg YS p.2 (j:Int)).1=true):
 ∃v o w,fS (p,dU 5 (j:Int) 16384 [])=some (v,true)/\F9 (v,dU 4 (j:Int) 0 [])=some (w,o,0)/\PlOk w/\(fk p j= []->o.1=5)/\(fk p j≠ []->o.1=0)/\fk w j=(fk p j).tail/\∀i,i<16->i≠j->bg YS w.2 (i:Int)=bg YS p.2 (i:Int):=by
 have a:0<= (j:Int)/\(j:Int) <16:=⟨by omega,by omega⟩
 have C:∀ (c n),c=5\/c=4->mI (dU c (j:Int) n [])=true:=by
  intro c n T;unfold mI dU;simp only [mE,bb,db];exact .inr ⟨by omega,by omega,a.1,a.2⟩
 obtain ⟨y,U,K,D,t3⟩:=EB k (mv:=dU 5 (j:Int) 16384 []) rfl a;obtain ⟨z0,s,L,M,z3,z4⟩:=t3 J rfl;obtain ⟨E,_,u⟩:=zq D.1;have N:=pC k (te (by simp [cd])) (C 5 16384 (.inl rfl)) K D.1
 have x:fS (p,dU 5 (j:Int) 16384 [])=some (dL y,true):=by
  unfold fS;rw [N,ai,z0];rfl
 have F:(dL y).2=da p.2 (j:Int) s:=by rw [u,L];rfl
 have m:bg YS (dL y).2 (j:Int)=s:=by
  rw [F];have:=sU (t:=YS) (A:=p.2) (v:=s) a a;rw [aw rfl] at this;exact this
 have G:∀i,i<16->i≠j->bg YS (dL y).2 (i:Int)=bg YS p.2 (i:Int):=λi z d=>by
  rw [F];have:=sU (t:=YS) (A:=p.2) (v:=s) (i:=(j:Int)) (j:=(i:Int)) a ⟨by omega,by omega⟩;rw [ak (by omega)] at this;exact this
 obtain ⟨w,o,O,H,P⟩:=EC E (mv:=dU 4 (j:Int) 0 []) rfl a;have g:=P (by show (bg YS (dL y).2 (j:Int)).1=true;rw [m];exact M) (by show (bg YS (dL y).2 (j:Int)).2.2.2.2.length<=12286;rw [m,z4];simp)
 have B:(bg YS (dL y).2 (dU 4 (j:Int) 0 []).2.1).2.2.2.1=fk p j:=by
  show (bg YS (dL y).2 (j:Int)).2.2.2.1=_;rw [m];exact z3
 rw [B] at g;obtain ⟨Q,_,l⟩:=zq H.1;have R:F9 (dL y,dU 4 (j:Int) 0 [])=some (dL w,o,0):=pC E (te (by simp [cd])) (C 4 0 (.inr rfl)) O H.1;refine ⟨dL y,o,dL w,x,R,Q,λh=>(g.1 h).2,λh=> ?_,?_,λi z d=> ?_⟩
 ·cases b:fk p j with
  |nil=>exact absurd b h
  |cons f r=>exact (g.2 f r b).1
 ·cases b:fk p j with
  |nil=>
   obtain ⟨e,_⟩:=g.1 b;unfold fk at b ⊢;rw [l,e,m,z3];exact b
  |cons f r=>
   obtain ⟨_,_,q,e,_,I⟩:=g.2 f r b;unfold fk;rw [l,e];have:=sU (t:=YS) (A:=(dL y).2) (v:=q) a a;rw [aw rfl] at this;show (bg YS (da (dL y).2 (j:Int) q) (j:Int)).2.2.2.1=r;rw [this];exact I
 ·rw [l]
  cases b:fk p j with
  |nil=>rw [(g.1 b).1];exact G i z d
  |cons f r=>
   obtain ⟨_,_,q,e,_,I⟩:=g.2 f r b;rw [e];have:=sU (t:=YS) (A:=(dL y).2) (v:=q) (i:=(j:Int)) (j:=(i:Int)) a ⟨by omega,by omega⟩;rw [ak (by omega)] at this;exact this.trans (G i z d)
theorem afY (Y:∀x ∈ l,ay x) (Z:∀m ∈ M,MvTy m) (hM:M.length<=9223372036854775807):F4 (l,M)=some true:=by
 obtain ⟨fb,f1,f2⟩:=NN (l:=l) hM;unfold F4;dsimp -beta -proj only;simp only;rw [NQ,ai,ax,aa,f1,ai]
 cases hb:fb with
 |false=>rfl
 |true=>
  obtain ⟨l3,m50⟩:=f2 hb;rw [ax,aa];obtain ⟨p0,t0,e0,J,hp⟩:=Lp Y (by omega);rw [J,ai];by_cases f:e0=0
  ·obtain ⟨kp,kd⟩:=hp f;simp only [aF f,ax,aa];refine bE (λx=>∃i,i<=M.length/\x.1=(i:Int)/\PlOk x.2) (λx=>M.length - x.1.toNat) (λ_=>true) ?_ _ ⟨0,gK _,rfl,kp⟩;rintro ⟨i',p⟩ ⟨i,a,g1,z⟩ K A;simp only at g1 z ⊢;subst g1;rcases jh i M.length with c|hge
   ·have tm:=Z _ (bt c);rw [aF (eA c),aV c,aU (t:=eL) c,ah,ah];have S:IntKind.wrap .i64 ((i:Int)+1)=((i+1:Nat):Int):=cx (by omega);have next:∀ (L:cn),PlOk L->K (((i+1:Nat):Int),L)=some true:=λL k'=>A _ ⟨i+1,c,rfl,k'⟩ (by simp only [bu];omega)
    rcases Mx z tm with ⟨e,v,o,hd,he⟩| ⟨hm,v,o,hd,kv,kt,kc⟩
    ·rw [hd,ai];simp only [aq he,aa,S];exact next p z
    ·rw [hd,ai];simp only [al,ah,S];exact next v kv
   ·have:i=M.length:=by omega
    subst this;rw [aq (by omega),aa]
    refine bE (λx:pO=>∃n:Nat,n<=8/\x.2.1=(n:Int)/\PlOk x.2.2/\∀j,j<16->(fk x.2.2 j).length+n<=8) (λx=>8 - x.2.1.toNat) (λ_=>true) ?_ _ ⟨0,gK _,rfl,z,λj g=>by
     have:=Ni (z.at (i:=(j:Int)) ⟨by omega,by omega⟩)
     exact this.2.1⟩
    rintro ⟨b,n',q⟩ ⟨n,hn8,T,D,a3⟩ U k;simp only at T D a3 ⊢;subst T;by_cases J:n<8
    ·rw [aF (show (n:Int) <8 by omega),ah];refine bE (λx:pO=>∃j:Nat,j<=16/\x.2.1=(j:Int)/\PlOk x.2.2/\(∀i,i<16->j<=i->bg YS x.2.2.2 (i:Int)=bg YS q.2 (i:Int))/\∀i,i<16->i<j->(fk x.2.2 i).length<= (fk q i).length - 1) (λx=>16 - x.2.1.toNat) (λ_=>true) ?_ _ ⟨0,gK _,rfl,D,λi _ _=>rfl,λi _ h=>by omega⟩;rintro ⟨b',j',v⟩ ⟨j,V,b1,E,F,G⟩ B d;simp only at b1 E F G ⊢;subst b1;by_cases g:j<16
     ·have N:0<= (j:Int)/\(j:Int) <16:=⟨by omega,by omega⟩;have O:IntKind.wrap .i64 ((j:Int)+1)=((j+1:Nat):Int):=cx (by omega);rw [aF N.2,ah,nX N,ah];have P:=F j g (aR _);by_cases H:(bg YS q.2 (j:Int)).1=true
      ·have r:(bg (.pair .bool cG) q.2 (j:Int)).1=true:=H;rw [r,ax,aa];obtain ⟨y,o,w,t1,t2,t3,t4,t5,t6,W⟩:=Xx E g (by rw [P];exact H);show ((fS (v,dU 5 (j:Int) 16384 [])).bind _)=_;rw [t1,ai];show ((F9 (y,dU 4 (j:Int) 0 [])).bind _)=_;rw [t2,ai];have C:fk v j=fk q j:=by unfold fk;rw [P]
       have go:B (b',((j+1:Nat):Int),w)=some true:=d _ ⟨j+1,g,rfl,t3,λi a Q=>by rw [W i a (by omega)];exact F i a (by omega),λi a s=>by
        rcases Nat.lt_or_eq_of_le (Nat.le_of_lt_succ s) with h|h
        ·have:fk w i=fk v i:=by unfold fk;rw [W i a (by omega)]
         rw [this];exact G i a h
        ·subst h
         rw [t6,C,List.length_tail];exact aR _⟩ (by simp only [bu];omega)
       have hlen:((bg (.pair .bool cG) q.2 (j:Int)).2.2.2.1.length:Int)=((fk q j).length:Int):=rfl;rw [C] at t4 t5;by_cases I:fk q j= []
       ·have R:=t4 I;have u:((bg (.pair .bool cG) q.2 (j:Int)).2.2.2.1.length:Int)=0:=by rw [hlen,I];rfl
        simp only [R,u,al,ax,aa,bJ,ah,O,show decide ((5:Int)=0)=false from rfl,bm];exact go
       ·have R:=t5 I;have X:=oR.2 I;have u:¬ ((bg (.pair .bool cG) q.2 (j:Int)).2.2.2.1.length:Int)=0:=by rw [hlen];omega
        simp only [R,aq u,al,ax,aa,bJ,ah,O,show decide ((0:Int)=5)=false from rfl];exact go
      ·have r:(bg (.pair .bool cG) q.2 (j:Int)).1=false:=by
        cases h:(bg (.pair .bool cG) q.2 (j:Int)).1 with
        |true=>exact absurd h H
        |false=>rfl
       rw [r,bm,ah,O];refine d _ ⟨j+1,g,rfl,E,λi a Q=>F i a (by omega),λi a s=> ?_⟩ (by simp only [bu];omega);rcases Nat.lt_or_eq_of_le (Nat.le_of_lt_succ s) with h|h
       ·exact G i a h
       ·subst h;have ks:=D.at N
        have:bg YS q.2 (i:Int)=cL:=by
         rcases ks.st with h|h
         ·exact h
         ·exact absurd h.2 H
        show (fk v i).length<=_;unfold fk;rw [P,this];exact gK _
     ·have:j=16:=by omega
      subst this;rw [aq (by decide),aa,cx (by omega)];refine k _ ⟨n+1,J,rfl,E,λi a=> ?_⟩ (by simp only [bu];omega);have h1:=G i a a;have h2:=a3 i a;simp only;omega
    ·have:n=8:=by omega
     subst this;rw [aq (by decide),aa,ag4 D (λj g=>jK.1 (by have:=a3 j g;omega))];rfl
  ·simp only [aq f,bm,ah]
theorem af3 (a:∀x ∈ l,ay x) (b:∀m ∈ M,MvTy m) (c:M.length<=9223372036854775807):F3 (l,M)=some true:=af2 a b c NQ
theorem Lu (h:Fw.Good eL m):MvTy m:=
 have g:=h.2.2.2.2;have c:=g.2.2.2.2.2
 ⟨afz h.2.2.2.1,⟨jZ g.2.1,jZ g.2.2.1,jZ g.2.2.2.1,⟨jZ c.1,jZ c.2.1,jZ c.2.2.1,jZ c.2.2.2.1,jZ c.2.2.2.2.1,λx a=>⟨jZ (c.2.2.2.2.2.1.2 x a).1,jZ (c.2.2.2.2.2.1.2 x a).2⟩⟩⟩⟩
theorem pure3 (b) (h:Ds [.one gC,.one (.slice 68 eL)] b):F3 b=some true:=
 af3 (λx a=>jZ (h.1.2 x a)) (λm c=>Lu (h.2.2 m c)) h.2.1
theorem pure4 (b) (h:Ds [.one gC,.one (.slice 68 eL)] b):F4 b=some true:=
 afY (λx a=>jZ (h.1.2 x a)) (λm c=>Lu (h.2.2 m c)) h.2.1
end Go.Proofs.YtkihadlgknhpkaaGreatDoor.T
