/- Part 28: lemmas that the last text needs. -/
import Derived.Test.YtkihadlgknhpkaaGreatDoorX22
import Derived.Test.YtkihadlgknhpkaaGreatDoorX25
set_option linter.all false
set_option autoImplicit true
set_option relaxedAutoImplicit true
namespace Go.Proofs.YtkihadlgknhpkaaGreatDoor.T
open Go Go.Fw Go.Proofs
open Go.RowKit (Below)
set_option maxRecDepth 100000
theorem L3 {C:Ctx} (h:C.GlobW w ok) (d:∀b,ok b->b<w.heap.size) (c:Below w.heap.size w W):C.GlobW W ok:=λg t l a=>
 ⟨(h g t l a).1,(h g t l a).2.move c.size (c.block g (h g t l a).2.1)⟩
theorem MO {W C:World} (h:Xg C ok' 5 (.int .u8) l v I) (f:∀b ∈ I,W.heap.size<=b):∃s:SV,v= .slice s.1 s.2.1 s.2.2/\aJ C (By W.heap.size C) (.slice 5 (.int .u8)) l [v]:=by
 obtain ⟨A,n,rfl,k,m,a⟩:=h;refine ⟨(A,l.length,n),rfl,A,n,rfl,k,m,λw=> ?_⟩;rcases a with ⟨a,_⟩| ⟨g,a,rfl,cs,⟨e,o,p⟩,y,q,_⟩
 ·omega
 ·have r:=f g (by grind);have:=p 5 rfl;subst this;refine ⟨g,0,rfl,⟨r,cs,o⟩,λj x t=> ?_⟩;obtain ⟨c,hd,_,d⟩:=aT.get j q t;refine ⟨c,hd,λi u z=> ?_⟩
  grind[World.cell?]
theorem acS (a:∀b,ok b->b<w.heap.size) (d:Below w.heap.size w W) (h:au (cA w ok) l vs):au (cA W ok) l vs:=
 au.move (c:=cA w ok) (c1:=cA W ok) (S:=λ_=>True) ⟨λb h=>d.block b (a b h),λ_ h=>h,λ_ _=>rfl,λ_ _=>rfl,λk e t l _ f=>⟨e,l,f,rfl⟩⟩ _ _ (λ_ _=>aO) h
def qW (w:World) (ok:Nat->Prop) (e0:Int):={p:D0×KV // aJ w ok bA p.1 (bM p.2).toList/\(e0=0->p.1.2.1.length<=4096/\p.1.2.2.1.length<=4096)}
theorem adO (h:aJ w ok bA x c):∃z,c=(bM z).toList/\z.2.2.2=x.2.2.2:=by
 obtain ⟨c1,i,rfl,a,j,k,rfl,b,l,m,rfl,d,e⟩:=h;obtain ⟨A,n,rfl,_⟩:=b;obtain ⟨f,g,rfl,_⟩:=d;rw [a.1,e.1];exact ⟨(x.1,(A,x.2.1.length,n),(f,x.2.2.1.length,g),x.2.2.2),rfl,rfl⟩
theorem adN (h:aJ w ok bA x (bM z).toList):z.1=x.1/\z.2.2.2=x.2.2.2:=by
 obtain ⟨c1,f,e,a,g,i,rfl,b,j,k,rfl,c,d⟩:=h;obtain ⟨A,n,rfl,_⟩:=b;obtain ⟨l,m,rfl,_⟩:=c;rw [a.1,d.1] at e
 grind[bM]
theorem adP (e:∀b,ok b->b<w.heap.size) (h:jH w ok bA A l) (k:e0=0->∀x ∈ l,x.2.1.length<=4096/\x.2.2.1.length<=4096):
 ∃zs,zs.map (λz=>z.1.1)=l/\na (λz:qW w ok e0=>z.1.2) w.heap.size w (.slice A zs.length cap) zs:=by
 cases m:l with
 |nil=>exact ⟨[],rfl,A,cap,rfl,λf=>absurd f (by simp)⟩
 |cons x0 r=>
  have f:0<l.length:=by grind
  obtain ⟨b,off,rfl,n,o⟩:=h f
  have a:∀j:Fin l.length,∃z:qW w ok e0,z.1.1=l[j]/\∀ (i:Nat) (u:Value),(bM z.1.2)[i]?=some u->w.cell? ⟨b,off+j.1*4+i,none⟩=some u:=λj=>by
   obtain ⟨c,hd,d⟩:=o j.1 l[j] (cK j.2);obtain ⟨z,rfl,s⟩:=adO hd;exact ⟨⟨(l[j],z),hd,λp=>k p _ (bt j.2)⟩,rfl,λi u q=>d i u (by grind)⟩
  let g:Fin l.length->qW w ok e0:=λj=>(a j).choose
  have t:=λj=>(a j).choose_spec
  refine ⟨List.ofFn g,?_,some ⟨b,off,none⟩,cap,rfl,λ_=>⟨b,off,rfl,e b n,λj x v i u q=> ?_⟩⟩
  ·rw [<-m];refine JU (by simp) (λi y B=> ?_)
   grind
  grind
theorem LN {C:Ctx} (hP:C.P=Tryz.prog) 
 (F:iH C.P C.GlobW 112 [.sl 169 bA l] (.int .i64 e0)) (hs:e0=0->l.length<=1000/\∀x ∈ l,x.2.1.length<=4096/\x.2.2.1.length<=4096)
 (G:∀x:D0,x.2.1.length<=4096->x.2.2.1.length<=4096->iH C.P C.GlobW 317 [.agg (bA.leaves x)] (.agg [.int .u64 x.1,.fresh 5 (.int .u8) x.2.1,.fresh 5 (.int .u8) x.2.2.1,.int .u64 x.2.2.2])):
 iH C.P C.GlobW 332 [.sl 169 bA l,.int .u64 tick] (.tup [.fresh 169 bA (if e0=0 then l.filter (λx=>decide (tick<=x.2.2.2)) else []),.int .i64 e0]):=by
 intro w ok vs hg f Y;rw [hP] at F G ⊢;have ha0:=Y;simp only [au] at Y;obtain ⟨v0,r0,hvs,⟨A,n,rfl,Z,hn2,I⟩,v1,r1,rfl,⟨rfl,ht⟩,rfl⟩:=Y;have Q:vs= #[.slice A l.length n,.int .u64 tick]:=by grind
 subst Q;obtain ⟨zs,hz,y⟩:=adP (e0:=e0) (cap:=n) f I (λu=>(hs u).2);have K:zs.length=l.length:=by grind
 rw [K] at y
 have R:∀ (m:Nat) (W:World),Below w.heap.size w W->CallsIn Fence.wide m Tryz.prog 112 #[.slice A zs.length n] W λe j=>e= .returned (.int .i64 e0)/\ff W j/\(Lit.int .i64 e0).wf=true:=by
  intro m W M;rw [K];have ha1:au (cA W ok) [.sl 169 bA l] [.slice A l.length n]:=acS f M ⟨_,_,rfl,⟨A,n,rfl,Z,hn2,I⟩,rfl⟩;refine callsIn_wide.2 ((F W ok #[.slice A l.length n] (L3 hg f M) (λb i=>eW (f b i) M.size) ha1).mono ?_);rintro e j ⟨v,ok',bs,rfl,y,_,_,D,_⟩;simp only [hZ,gJ,gx,RepV] at D;rw [D.2.1];exact ⟨rfl,⟨y.below,y.drawn⟩,D.2.2⟩
 have S:e0=0->∀ (m:Nat) (W:World) (x:qW w ok e0),Below w.heap.size w W->CallsIn Fence.wide m Tryz.prog 317 #[.agg (bM x.1.2)] W λe j=>∃z:KV,e= .returned (.agg #[.int .u64 z.1,.slice z.2.1.1 z.2.1.2.1 z.2.1.2.2,.slice z.2.2.1.1 z.2.2.1.2.1 z.2.2.1.2.2,.int .u64 z.2.2.2])/\ff W j/\aT j (By W.heap.size j) KT [x.1.1] (bM z).toList:=by
  intro u m W x M;obtain ⟨⟨d,z⟩,hd,E⟩:=x;have T:aJ W ok bA d (bM z).toList:=hd.move (λb i=>M.block b (f b i)) (λb i=>i);have hl:=aJ.leaves (c:=cA W ok) T;have E:=E u;refine callsIn_wide.2 ((G d E.1 E.2 W ok #[.agg (bM z)] (L3 hg f M) (λb i=>eW (f b i) M.size) ⟨_,_,rfl,⟨_,rfl,hl⟩,rfl⟩).mono ?_);rintro e j ⟨v,ok',bs,rfl,y,_,_,D,_,U⟩;simp only [hZ,gJ] at D;obtain ⟨a,rfl,D⟩:=D;simp only [iD] at D;obtain ⟨v1,r1,b1,b1',e1,rfl,⟨_,g1⟩,v2,r2,b2,b2',e2,rfl,g2,v3,r3,b3,b3',e3,rfl,g3,v4,r4,b4,b4',e4,rfl,⟨_,g4⟩,e5,_⟩:=D;simp only [gx] at g2 g3;obtain ⟨q,rfl,d1⟩:=MO (W:=W) g2 (λb i=>(U b (by grind)).1);obtain ⟨p,rfl,d2⟩:=MO (W:=W) g3 (λb i=>(U b (by grind)).1);simp only [RepV] at g1 g4;obtain ⟨rfl,_⟩:=g1;obtain ⟨rfl,_⟩:=g4;subst e5 e4 e3 e2
  have ea:a= #[.int .u64 d.1,.slice q.1 q.2.1 q.2.2,.slice p.1 p.2.1 p.2.2,.int .u64 d.2.2.2]:=by
   grind
  subst ea;have r:=T;obtain ⟨c1,c2,_,w1,c3,c4,_,_,c5,c6,_,_,w4⟩:=r;refine ⟨(d.1,q,p,d.2.2.2),rfl,⟨y.below,y.drawn⟩,?_⟩;refine ⟨(bM (d.1,q,p,d.2.2.2)).toList,[],by simp,?_,rfl⟩;exact ⟨[.int .u64 d.1],[.slice q.1 q.2.1 q.2.2,.slice p.1 p.2.1 p.2.2,.int .u64 d.2.2.2],rfl,⟨rfl,w1.2⟩,[.slice q.1 q.2.1 q.2.2],[.slice p.1 p.2.1 p.2.2,.int .u64 d.2.2.2],rfl,d1,[.slice p.1 p.2.1 p.2.2],[.int .u64 d.2.2.2],rfl,d2,⟨rfl,w4.2⟩⟩
 have H:=ahH (λz:qW w ok e0=>z.1.2) (λz=>z.1.1) 3 (aR _) tick A n zs w e0 (λu=>by omega) (by grind) R S;rw [K] at H;refine (callsIn_wide.1 H).mono ?_;rintro e j ⟨⟨⟨i,hd⟩,r⟩,N⟩;have o:Kept (λ_=>False) w j:=⟨i.os,i.tape,i.output,i.size,λk y _=>i.block k y,hd⟩;rcases N with ⟨u,rfl⟩| ⟨u,v,cs,B,hB,rfl,s,t⟩
 ·rw [ak u];refine ⟨_,ok,[],rfl,o,λ_ h=>h,λb h=>⟨eW (f b h) i.size,.inl h⟩,?_,mD,by simp⟩;refine ⟨_,rfl,_,_,[],[],rfl,rfl,⟨none,0,rfl,aR _,by omega,.inl ⟨rfl,rfl⟩⟩,_,[],[],[],rfl,rfl,⟨rfl,rfl,r⟩,rfl,rfl⟩
 ·rw [aw u]
  have O:(gF (λz:qW w ok e0=>z.1.2) tick zs).map (λz=>z.1.1)=l.filter (λx=>decide (tick<=x.2.2.2)):=by
   grind[gF,List.filter_congr,adN]
  rw [O] at t;have hlen:(gF (λz:qW w ok e0=>z.1.2) tick zs).length=(l.filter (λx=>decide (tick<=x.2.2.2))).length:=by grind
  rw [hlen] at s;generalize l.filter (λx=>decide (tick<=x.2.2.2))=L at t s ⊢
  have J:∀b,(ok b\/By (B+2) j b)->b<j.heap.size/\(ok b\/w.heap.size<=b):=λb h=>by
   rcases h with h|h
   ·exact ⟨eW (f b h) i.size,.inl h⟩
   ·exact ⟨h.lt,.inr (by have:=h.1;omega)⟩
  have hdat':aT j (λb=>ok b\/By (B+2) j b) bA L cs:=aT.move (λ_ _=>rfl) (λb i=> .inr i) t;rcases s.2 with ⟨rfl,h0⟩| ⟨g,cp,cur,rfl,hg1,V,hg3,hg4,hg5,hg6⟩
  ·refine ⟨_,λb=>ok b\/By (B+2) j b,[],rfl,o,λ_ h=> .inl h,J,?_,mD,by simp⟩;refine ⟨_,rfl,_,_,[],[],rfl,rfl,⟨none,0,by rw [h0],by omega,by omega,.inl ⟨rfl,rfl⟩⟩,_,[],[],[],rfl,rfl,⟨rfl,by rw [u],r⟩,rfl,rfl⟩
  ·refine ⟨_,λb=>ok b\/By (B+2) j b,[g],rfl,o,λ_ h=> .inl h,J,?_,by simp,λb X=> ?_⟩
   ·refine ⟨_,rfl,_,_,[g],[],rfl,rfl,⟨some ⟨g,0,none⟩,cp,rfl,hg3,by grind[maxLen],.inr ⟨g,rfl,rfl,cur,⟨169,V,λx h=>by grind⟩,by rw [hg5];rfl,?_,by decide⟩⟩,_,[],[],[],rfl,rfl,⟨rfl,by rw [u],r⟩,rfl,rfl⟩
    grind[Ty.size]
   ·rw [eP] at X;subst X;refine ⟨by omega,(gM.1 V).1,λh=> ?_⟩;rcases h with h| ⟨_,cs',h⟩
    all_goals grind
end Go.Proofs.YtkihadlgknhpkaaGreatDoor.T
