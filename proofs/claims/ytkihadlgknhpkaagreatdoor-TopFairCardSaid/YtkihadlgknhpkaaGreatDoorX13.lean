/- Part 13: lemmas that the last text needs. -/
import Derived.Test.YtkihadlgknhpkaaGreatDoorX12
import Derived.Test.YtkihadlgknhpkaaGreatDoorX2
import Derived.Test.YtkihadlgknhpkaaGreatDoorX11
import Derived.LoopN
import Derived.Scope
set_option linter.all false
set_option autoImplicit true
set_option relaxedAutoImplicit true
namespace Go.Fw
theorem U8 (h:aD B s=some r):∃n,iter B n s=some r:=by
 unfold aD at h;split at h
 ·rename_i a;obtain ⟨n,b⟩:=a.choose_spec;exact ⟨n,by grind⟩
 grind
theorem rY (n) (h:∀m,n<=m->iter B m s=some r):aD B s=some r:=by
 have a:∃r n,∀m,n<=m->iter B m s=some r:=⟨r,n,h⟩;unfold aD;rw [dif_pos a];obtain ⟨k,b⟩:=a.choose_spec;have c:=b (max n k) (Nat.le_max_right _ _)
 grind
theorem bE (I:S->Prop) (b:S->Nat) (f:S->R)
 (h:∀x,I x->∀a,(∀y,I y->b y<b x->a y=some (f y))->B a x=some (f x)) (x) (c:I x):aD B x=some (f x):=by
 have key:∀n m x,I x->b x<m->m<=n->iter B m x=some (f x):=by
  intro n
  induction n with
  |zero=>omega
  |succ n d=>
   intro m x c i j
   cases m with
   |zero=>omega
   |succ m=>exact h x c _ λy e g=>d m y e (by omega) (by omega)
 exact rY (b x+1) λm k=>key m m x c (by omega) (aR _)
theorem UC (ops) (c:l=ops.toList) (d:o ∈ l):Slots (ops.toList.filterMap (·.dst)) ops o:=by
 subst c;refine ⟨λx a=>JK.2 ⟨o,d,a⟩,λj w e s f=> ?_,λo' b x a=>JK.2 ⟨o',b,a⟩⟩
 grind
theorem aiH (a) (e:s ∈ D):Agree D a (xM a s):=by
 unfold xM;split
 ·grind[Jo]
 ·split
  ·rename_i p st1 c;exact Agree.put (Obj.plain c) (d:=some s) (λx b=>by grind) p
  grind[Agree.refl]
 ·split
  ·exact Agree.put (Obj.setO _ _ _) (d:=some s) (λx b=>by grind) _
  grind[Agree.refl]
 ·split
  ·exact Agree.put (Obj.setO _ _ _) (d:=some s) (λx b=>by grind) _
  grind[Agree.refl]
 grind[Agree.refl]
theorem HG (ops):∀ (l) (a),Agree (ops.toList.filterMap (·.dst)) a (uH ops l a)
 | [],a=>Agree.refl _ _
 |s::l,a=>by
  have j:=λa=>HG ops l a
  simp only [uH,nK] at j ⊢
  cases b:ops.toList.any (λo=>mn o.dst s) with
  |false=>grind
  |true=>
   simp only [ah];refine (aiH a ?_).trans (j _);obtain ⟨o',c,hd⟩:=qB.1 b;unfold mn at hd
   grind[dD]
theorem Cy (h:Rep m w0 st a c) (hp:RepV c p (a.tmps.getD s undef)) (hg:p.isGd=false):Rep m w0 (st.set s p) a c:=by
 refine ⟨h.size.set _ _,λd=> ?_,h.defers,h.ob,h.objs,h.apart,h.mine,h.ok,h.kept,h.old,h.new,h.pin⟩;have:(st.set s p).get d=if d=s/\st.s.has s=true then p else st.get d:=qd _ _ _ _
 rw [this];split
 ·grind[bI.of,np]
 ·exact h.slots d
theorem aiG (h:Rep m w0 g a c) (s):∃J,J.w=c.w/\Rep m w0 (xM g s) a J:=by
 have r:=h.slots s;unfold xM;split
 ·rename_i e t l y;rw [y] at r;simp only [bI,RepV] at r;obtain ⟨A,T,U,V⟩:=r;refine ⟨c,rfl,Cy h ?_ rfl⟩
  grind[RepV]
 ·rename_i k y;rw [y] at r;have z:=r;split
  ·rename_i p st1 x;obtain ⟨c1,L,E,M,W,X⟩:=CF h z x;refine ⟨c1,L,Cy E M ?_⟩;unfold St.plain at x;split at x
   ·split at x
    ·simp only [aB,aL] at x;rw [<-x.1];rfl
    ·simp only [aB,aL] at x;rw [<-x.1];rfl
    grind
   grind
  grind
 ·rename_i k y;rw [y] at r;have z:=r;split
  ·rename_i K l F;have j:c.ob k=some (.mp K l):=by rw [h.ob];exact F
   obtain ⟨N,B,q1,G⟩:=h.objs k _ j;have q:bf c k:=⟨_,j,aO⟩
   let ok1:Nat->Prop:=λb=>c.ok b\/(bf c k/\b=c.ρ k)
   have E:Rep m w0 (g.del k) a {w:=c.w,ok:=ok1,ρ:=c.ρ,σ:=c.σ,pin:=c.pin,ob:=(g.setO k .gone).obj}:=by
    refine h.setObj (o:= .mp K l) (o':= .gone) F ok1 h.kept (aR _) (λ_ _=>rfl) (λb d=> .inl d) (λb d=> ?_) (by simp) aO (λO=>by grind[gm]);rcases d with d| ⟨d,rfl⟩
    ·exact ⟨h.ok b d,λC _ f v=>(h.mine C f).1 (v ▸ d)⟩
    ·exact ⟨(h.mine k d).2.2,λC D f v=>D (h.apart C k f d v)⟩
   refine ⟨{w:=c.w,ok:=ok1,ρ:=c.ρ,σ:=c.σ,pin:=c.pin,ob:=(g.setO k .gone).obj},rfl,Cy E ?_ rfl⟩;simp only [RepV] at z ⊢;exact ⟨some (c.ρ k),z,.inr ⟨_,N,B,rfl,.inr ⟨q,rfl⟩,q1,G.1.move (λ_ _=>rfl) (λb d=> .inl d),G.2.born⟩⟩
  grind
 ·rename_i k off y;rw [y] at r;have z:RepV c (.ptr k off) (a.tmps.getD s undef):=r;split
  ·rename_i l F;have j:c.ob k=some (.box l):=by rw [h.ob];exact F
   obtain ⟨cs,q1,G⟩:=h.objs k _ j;have q:bf c k:=⟨_,j,aO⟩
   let ok1:Nat->Prop:=λb=>c.ok b\/(bf c k/\b=c.ρ k)
   have E:Rep m w0 (g.del k) a {w:=c.w,ok:=ok1,ρ:=c.ρ,σ:=c.σ,pin:=c.pin,ob:=(g.setO k .gone).obj}:=by
    refine h.setObj (o:= .box l) (o':= .gone) F ok1 h.kept (aR _) (λ_ _=>rfl) (λb d=> .inl d) (λb d=> ?_) (by simp) aO (λO=>by grind[gm]);rcases d with d| ⟨d,rfl⟩
    ·exact ⟨h.ok b d,λC _ f v=>(h.mine C f).1 (v ▸ d)⟩
    ·exact ⟨(h.mine k d).2.2,λC D f v=>D (h.apart C k f d v)⟩
   have P:Mv (λ_=>True) c {w:=c.w,ok:=ok1,ρ:=c.ρ,σ:=c.σ,pin:=c.pin,ob:=(g.setO k .gone).obj}:=by
    refine ⟨λ_ _=>rfl,λb d=> .inl d,λ_ _=>rfl,λ_ _=>rfl,λi e t H _ Q=>⟨e,H,?_,rfl⟩⟩;have v:(g.setO k .gone).obj i=if i=k then some .gone else g.obj i:=by grind[gR]
    have I:(g.setO k .gone).obj i=some (.row e t H)\/∃n,(g.setO k .gone).obj i=some (.arr e t n H):=Q;rw [v] at I;rw [h.ob]
    grind
   refine ⟨{w:=c.w,ok:=ok1,ρ:=c.ρ,σ:=c.σ,pin:=c.pin,ob:=(g.setO k .gone).obj},rfl,Cy E ?_ rfl⟩;simp only [RepV] at z ⊢;refine ⟨c.ρ k,off,cs.toList.drop off,z,.inr ⟨q,rfl⟩,au.drop off (au.move P _ _ (λ_ _=>aO) G),λi u S=> ?_⟩;rw [qy] at S;rw [q1.cell (off+i)]
   grind
  grind
 grind
theorem HF (ops):∀ (l) {b} {c},Rep m w0 b a c->∃j,j.w=c.w/\Rep m w0 (uH ops l b) a j
 | [],b,c,h=>⟨c,rfl,h⟩
 |s::l,b,c,h=>by
  have C:=λ(b:St) (c:Cx) (h:Rep m w0 b a c)=>HF ops l h
  simp only [uH,nK] at C ⊢
  cases ops.toList.any (λo=>mn o.dst s) with
  |false=>grind
  |true=>
   obtain ⟨c1,d,e⟩:=aiG h s
   grind
theorem Obj.agree (h:Obj j st1):Agree D j st1:=⟨λi=>by rw [h.s],λd _ _=>by simp only [St.get,h.s],h.ob⟩
theorem aiJ (a) (k):Obj a (xL a k):=by
 unfold xL;split
 ·split
  ·rename_i b;split
   ·exact (Obj.JF b).trans (Obj.setO _ _ _)
   grind[Obj.refl]
  grind[Obj.refl]
 grind[Obj.refl]
theorem HI:∀ (l) (a),Obj a (Ch l a)
 | [],a=>Obj.refl _
 |k::l,a=>(aiJ a k).trans (HI l _)
theorem aiI (h:Rep m w0 A a c) (v):∃C,C.w=c.w/\Rep m w0 (xL A v) a C:=by
 unfold xL;generalize v % 1099511627776=k;generalize v / 1099511627776=x;split
 ·rename_i L B;split
  ·rename_i g st1 D;split
   ·rename_i n r;obtain ⟨cs,q1,E⟩:=h.objs k _ (by rw [h.ob];exact B);obtain ⟨c1,y,d,F,M,G⟩:=Ic h E D;have f:c1.ob k=some (.box n):=by rw [d.ob];omega
    obtain ⟨p,z,N⟩:=d.objs k _ f
    have s:p=cs:=by
     obtain ⟨O,H,_⟩:=q1;obtain ⟨P,I,_⟩:=z;rw [y,G.ρ k aO,H] at I
     grind
    subst s;have q:bf c1 k:=⟨_,f,aO⟩;refine ⟨{w:=c1.w,ok:=c1.ok,ρ:=c1.ρ,σ:=c1.σ,pin:=c1.pin,ob:=(st1.setO k (.box g)).obj},y,d.setObj (o:= .box n) (o':= .box g) r c1.ok d.kept (aR _) (λ_ _=>rfl) (λ_ j=>j) (λb j=>⟨d.ok b j,λJ _ u K=>(d.mine J u).1 (K ▸ j)⟩) (by simp) ?_ (λ_=>⟨aO,(d.mine k q).1⟩)⟩;refine ⟨p,z,au.move (S:=λ_=>True) (c:=c1) (c1:={w:=c1.w,ok:=c1.ok,ρ:=c1.ρ,σ:=c1.σ,pin:=c1.pin,ob:=(st1.setO k (.box g)).obj}) ⟨λ_ _=>rfl,λ_ j=>j,λ_ _=>rfl,λ_ _=>rfl,λi e t l _ Q=>⟨e,l,?_,rfl⟩⟩ _ _ (λ_ _=>aO) F⟩;rw [d.ob]
    grind[gR]
   grind
  grind
 grind
theorem HH :∀ (l) {b} {c},Rep m w0 b a c->∃j,j.w=c.w/\Rep m w0 (Ch l b) a j
 | [],b,c,h=>⟨c,rfl,h⟩
 |k::l,b,c,h=>by
  obtain ⟨c1,C,I⟩:=aiI h k;obtain ⟨d,e,f⟩:=HH l I;exact ⟨d,e.trans C,f⟩
section
variable {R:Type}
theorem V0 (C) (d:C.nC) (H) (id) (ops) (a) (b) (h:∀j,Agree (cS (.region id ops a)) b j->K j=K' j):sn C H id ops a b K=sn C H id ops a b K':=by
 unfold sn;congr 1
 ·congr 1;exact aky d (D:=cS (.region id ops a)) (λi o f=>UC ops rfl (by grind)) _ λst1 c=>h _ (((c.trans (WD _)).trans (HG ops _ _)).trans (HI _ _).agree)
 ·refine IW C d (D:=cS (.region id ops a)) _ _ (λo e=>UC ops rfl e) λst1 c=>h _ (((c.trans ?_).trans (HG ops _ _)).trans (HI _ _).agree)
  grind[WD,Agree.refl]
theorem jE (C) (g:C.nC) (H):∀ (b) (a) (K K':Ex->St->Option R),(∀e j,Agree (cS b) a j->K e j=K' e j)->cF C H b a K=cF C H b a K'
 | .skip,a,K,K',h=>h _ a (Agree.refl _ _)
 | .region id ops dr,a,K,K',h=>by
   simp only [cF];split
   ·grind[V0]
   ·generalize kj (H (12000000+id)) a=hd
    cases U:gw hd (cS (.region id ops dr)) a with
    |false=>rfl
    |true=>
     simp only [ah];congr 1
     grind[CX]
 | .seq x y,a,K,K',h=>by
   simp only [cF];refine jE C g H x a _ _ λe st1 I=> ?_
   have h1':Agree (cS (.seq x y)) a st1:=I.mono λd hd=>lL _ hd
   cases e with
   |normal=>exact jE C g H y st1 _ _ λe p r=>h _ _ (h1'.trans (r.mono λd hd=>lK _ hd))
   |exit i=>grind
   |ret=>grind
 | .cond c x y,a,K,K',h=>by
   simp only [cF];split
   ·split
    ·congr 1
     ·exact jE C g H x a _ _ λe st1 I=>h _ _ (I.mono λd hd=>lL _ hd)
     ·exact jE C g H y a _ _ λe st1 I=>h _ _ (I.mono λd hd=>lK _ hd)
    ·generalize kj (H (8000000+ly (.cond c x y))) a=hd
     cases U:gw hd (cS x++cS y) a with
     |false=>rfl
     |true=>
      simp only [ah];congr 1
      ·funext q;exact h _ _ (CX U q)
      ·funext J
       have m:∀e st1,Agree (cS (.cond c x y)) a st1->nr hd a K J e st1=nr hd a K' J e st1:=by
        intro e st1 I
        cases e with
        |normal=>rfl
        |exit i=>exact h _ _ I
        |ret=>exact h _ _ I
       congr 1
       ·exact jE C g H x a _ _ λe st1 I=>m _ _ (I.mono λd hd=>lL _ hd)
       ·exact jE C g H y a _ _ λe st1 I=>m _ _ (I.mono λd hd=>lK _ hd)
   ·rfl
 | .block id x,a,K,K',h=>by
   simp only [cF];refine jE C g H x a _ _ λe st1 I=> ?_
   cases e with
   |normal=>exact h _ _ I
   |exit i=>simp only;congr 1 <;>exact h _ _ I
   |ret=>exact h _ _ I
 | .loop x,a,K,K',h=>by
   simp only [cF];split
   ·have key:∀ (n) (j),Agree (cS x) a j->pU (λa K=>cF C H x a K) n j K=pU (λa K=>cF C H x a K) n j K':=by
     intro n
     induction n with
     |zero=>intro j _;rfl
     |succ n s=>
      intro j k;simp only [pU];refine jE C g H x j _ _ λe st1 I=> ?_
      cases e with
      |normal=>exact s st1 (k.trans I)
      |exit i=>exact h _ _ (k.trans I)
      |ret=>exact h _ _ (k.trans I)
    grind[Agree.refl]
   split
   ·rename_i z t
    cases U:(gw (H (cy x)) (cS x) a && nh (H (cy x)) a) with
    |false=>rfl
    |true=>
     simp only [ah];simp only [bb] at U
     have:∀ (f:sr (H (cy x)).vars->Option R) (q:sr (H (cy x)).vars),(cF C H x (fw (dY (H (cy x)) (cS x) a) (H (cy x)).vars q) λe j=>match e with
      | .normal=>(match iA j (H (cy x)).vars with
        |some l=>bif ng (H (cy x)) a j && nh (H (cy x)) j then f l else none
        |none=>none)
      |e=>K e j)=cF C H x (fw (dY (H (cy x)) (cS x) a) (H (cy x)).vars q) λe j=>match e with
      | .normal=>(match iA j (H (cy x)).vars with
        |some l=>bif ng (H (cy x)) a j && nh (H (cy x)) j then f l else none
        |none=>none)
      |e=>K' e j:=by
      intro f q;refine jE C g H x _ _ _ λe st1 I=> ?_
      have o:Agree (cS x) a st1:=by
       exact (CX U.1 q).trans I
      cases e with
      |normal=>rfl
      |exit i=>exact h _ _ o
      |ret=>exact h _ _ o
     congr 1;funext f q;exact this f q
   ·rfl
 | .exit id,a,K,K',h=>h _ _ (Agree.refl _ _)
 | .ret,a,K,K',h=>h _ _ (Agree.refl _ _)
 | .goto _,_,_,_,_=>rfl
 | .label _,a,K,K',h=>h _ _ (Agree.refl _ _)
 | .scope x,a,K,K',h=>by
   simp only [cF];exact jE C g H x a K K' h
 | .rangeFunc ..,_,_,_,_=>rfl
 | .refuse _,_,_,_,_=>rfl
def HE:Ex->Exit
 | .normal=> .normal
 | .exit i=> .exit i
 | .ret=> .ret
theorem VZ (k:C.P.follows .mixedOrders=true) (f:C.Sound) (H) {id} 
 (g:C.GlobM m w0) (h:Rep m w0 l a c) (b:sn C H id ops U l K=some r) (n:∀p a w,¬Q (.panic p) a w) (z:∀j I J,K j=some r->Rep m w0 j I J->Q .normal I J.w):(Code.region id ops U).wp C.P Q a c.w:=by
 unfold sn at b
 cases U with
 |true=>
  simp only [ah] at b;obtain ⟨d,b⟩:=b6 b
  exact ajh k f.1 d n g h b λj I J q i=>by
   obtain ⟨s,t,e⟩:=HF ops (H (1000000+id)).stay (Uk i);obtain ⟨u,v,x⟩:=HH (H (3000000+id)).stay e
   grind
 |false=>
  simp only [aa] at b;refine ajg ⟨f.1,g⟩ h b λj I J q i=> ?_
  have y:Rep m w0 (bif ops.any (λo=>o.guard.isSome) then j.ungd else j) I J:=by
   grind[Uk]
  obtain ⟨s,t,e⟩:=HF ops (H (1000000+id)).stay y;obtain ⟨u,v,x⟩:=HH (H (3000000+id)).stay e
  grind
theorem lD (v:C.P.follows .mixedOrders=true) (s:C.Sound) (H):∀ (L) (b) (K:Ex->St->Option R) (r:R) (m:MM) (w0:World) (a:Act) (c:Cx) (Q:Exit->Act->World->Prop),
 C.GlobM m w0->Rep m w0 b a c->cF C H L b K=some r->(∀A a w,¬Q (.panic A) a w)->(∀e j a' c',K e j=some r->Rep m w0 j a' c'->Q (HE e) a' c'.w)->L.wp C.P Q a c.w
 | .skip,b,K,r,m,w0,a,c,Q,hG,h,I,hp,f=>wp_skip (f .normal b a c I h)
 | .region id ops dr,b,K,r,m,w0,a,c,Q,hG,h,I,hp,f=>by
   simp only [cF] at I;split at I
   ·exact VZ v s H hG h I hp λj a' c' U h'=>f .normal j a' c' U h'
   ·generalize kj (H (12000000+id)) b=hd at I;obtain ⟨hh,I⟩:=b6 I;rw [jc] at I
    open Classical in
    rw [V0 C s.2 H id ops dr b (K':=λj=>if Agree (cS (.region id ops dr)) b j then nr hd b K (λq=>K .normal (fw (dY hd (cS (.region id ops dr)) b) hd.vars q)) .normal j else none) (λj g=>(aw g).symm)] at I;refine VZ v s H hG h I hp λj a' c' U h'=> ?_
    split at U
    ·rename_i g;simp only [nr] at U;split at U
     ·rename_i E B;obtain ⟨D,U⟩:=b6 U;simp only [bb] at D;obtain ⟨X,F,Y⟩:=CV hh D.2 g D.1 B h';have:=f .normal _ a' X U Y;rw [F] at this;exact this
     grind
    grind
 | .seq x y,b,K,r,m,w0,a,c,Q,hG,h,I,hp,f=>by
   simp only [cF] at I;refine wp_seq (lD v s H x b _ r m w0 a c _ hG h I (λA a w G=>hp A a w G) λe j a' c' U h'=> ?_)
   cases e with
   |normal=>exact lD v s H y j _ r m w0 a' c' Q hG h' U hp f
   |exit i=>exact f (.exit i) j a' c' U h'
   |ret=>exact f .ret j a' c' U h'
 | .cond x y z,b,K,r,m,w0,a,c,Q,hG,h,I,hp,f=>by
   simp only [cF] at I;have Z:=aZ h x;split at I
   ·rename_i t ht;rw [ht] at Z;simp only [RepV] at Z;refine wp_cond Z ?_;split at I
    ·cases t with
     |true=>exact lD v s H y b K r m w0 a c Q hG h I hp f
     |false=>exact lD v s H z b K r m w0 a c Q hG h I hp f
    ·generalize kj (H (8000000+ly (.cond x y z))) b=hd at I;obtain ⟨hh,I⟩:=b6 I;rw [jc] at I;generalize hJ:(λq=>K .normal (fw (dY hd (cS y++cS z) b) hd.vars q))=J at I
     have V:∀u,(∀d ∈ cS u,d ∈ cS y++cS z)->(∀ (T:Ex->St->Option R),cF C H u b T=some r->(∀e j a' c',T e j=some r->Rep m w0 j a' c'->Q (HE e) a' c'.w)->u.wp C.P Q a c.w)->
      cF C H u b (nr hd b K J)=some r->u.wp C.P Q a c.w:=by
      intro u hu W I
      open Classical in
      rw [jE C s.2 H u _ _ (λe j=>if Agree (cS u) b j then nr hd b K J e j else none) (λe j g=>(aw g).symm)] at I;refine W _ I λe j a' c' U h'=> ?_
      split at U
      ·rename_i g
       cases e with
       |normal=>
        simp only [nr] at U;split at U
        ·rename_i E B;obtain ⟨D,U⟩:=b6 U;simp only [bb] at D;obtain ⟨X,F,Y⟩:=CV hh D.2 (g.mono hu) D.1 B h'
         grind
        grind
       |exit i=>exact f (.exit i) j a' c' U h'
       |ret=>exact f .ret j a' c' U h'
      grind
     cases t with
     |true=>exact V y (λd hd=>lL _ hd) (λT N O=>lD v s H y b T r m w0 a c Q hG h N hp O) I
     |false=>exact V z (λd hd=>lK _ hd) (λT N O=>lD v s H z b T r m w0 a c Q hG h N hp O) I
   grind
 | .block id x,b,K,r,m,w0,a,c,Q,hG,h,I,hp,f=>by
   simp only [cF] at I;refine wp_block (lD v s H x b _ r m w0 a c _ hG h I (λA a w G=>hp A a w G) λe j a' c' U h'=> ?_)
   cases e with
   |normal=>exact f .normal j a' c' U h'
   |exit i=>
    grind[HE,Exit.inBlock,sA]
   |ret=>exact f .ret j a' c' U h'
 | .loop x,b,K,r,m,w0,a,c,Q,hG,h,I,hp,f=>by
   simp only [cF] at I;split at I
   ·rename_i n' tl _;refine wp_loop_rounds n' ?_
    have key:∀ (n:Nat) (b:St) (a:Act) (c:Cx),Rep m w0 b a c->pU (λb K=>cF C H x b K) n b K=some r->Code.rounds C.P x Q n a c.w:=by
     intro n
     induction n with
     |zero=>grind[pU]
     |succ n W=>
      intro b a c R1 M;rw [rounds_succ];simp only [pU] at M;refine lD v s H x _ _ r m w0 a c _ hG R1 M (λA a w G=>hp A a w G) λe j a' c' U h'=> ?_
      cases e with
      |normal=>exact W j a' c' h' U
      |exit i=>exact f (.exit i) j a' c' U h'
      |ret=>exact f .ret j a' c' U h'
    grind
   split at I
   ·rename_i z hz;obtain ⟨hh,I⟩:=b6 I;simp only [bb] at hh;obtain ⟨n,M⟩:=U8 I;refine wp_loop_rounds n ?_
    have l:ng (H (cy x)) b b=true:=by
     unfold ng;refine gU.2 λk _=> ?_
     cases St.dH b.o k with
     |none=>rfl
     |some p=>simp_all
    obtain ⟨c0,hc0,R0⟩:=CV hh.1 hh.2 (Agree.refl _ _) l hz h;rw [<-hc0]
    have key:∀ (n:Nat) (q:sr (H (cy x)).vars) (a:Act) (c:Cx),Rep m w0 (fw (dY (H (cy x)) (cS x) b) (H (cy x)).vars q) a c->iter (λS q=>cF C H x (fw (dY (H (cy x)) (cS x) b) (H (cy x)).vars q) λe j=>match e with
     | .normal=>(match iA j (H (cy x)).vars with
       |some E=>bif ng (H (cy x)) b j && nh (H (cy x)) j then S E else none
       |none=>none)
     |e=>K e j) n q=some r->Code.rounds C.P x Q n a c.w:=by
     intro n
     induction n with
     |zero=>grind[iter]
     |succ n W=>
      intro q a c R1 M;rw [rounds_succ];simp only [iter] at M
      open Classical in
      rw [jE C s.2 H x _ _ (λe j=>if Agree (cS x) b j then (match e with
       | .normal=>(match iA j (H (cy x)).vars with
         |some E=>bif ng (H (cy x)) b j && nh (H (cy x)) j then iter (λS q=>cF C H x (fw (dY (H (cy x)) (cS x) b) (H (cy x)).vars q) λe j=>match e with
          | .normal=>(match iA j (H (cy x)).vars with
            |some E=>bif ng (H (cy x)) b j && nh (H (cy x)) j then S E else none
            |none=>none)
          |e=>K e j) n E else none
         |none=>none)
       |e=>K e j) else none) (λe j g=>(aw ((CX hh.1 q).trans g)).symm)] at M
      refine lD v s H x _ _ r m w0 a c _ hG R1 M (λA a w G=>hp A a w G) λe j a' c' U h'=> ?_
      split at U
      ·rename_i g
       cases e with
       |normal=>
        simp only at U;split at U
        ·rename_i E B;obtain ⟨D,U⟩:=b6 U;simp only [bb] at D;obtain ⟨X,F,Y⟩:=CV hh.1 D.2 g D.1 B h';have:=W E a' X Y U;rw [F] at this;exact this
        grind
       |exit i=>exact f (.exit i) j a' c' U h'
       |ret=>exact f .ret j a' c' U h'
      grind
    exact key n z a c0 R0 M
   grind
 | .exit id,b,K,r,m,w0,a,c,Q,hG,h,I,hp,f=>wp_exit (f (.exit id) b a c I h)
 | .ret,b,K,r,m,w0,a,c,Q,hG,h,I,hp,f=>wp_ret (f .ret b a c I h)
 | .goto _,b,K,r,m,w0,a,c,Q,hG,h,I,hp,f=>by grind[cF]
 | .label _,b,K,r,m,w0,a,c,Q,hG,h,I,hp,f=>wp_label (f .normal b a c I h)
 | .scope x,b,K,r,m,w0,a,c,Q,hG,h,I,hp,f=>by
   simp only [cF] at I;refine wp_scope_straight (lD v s H x b K r m w0 a c _ hG h I (λA a w G=>hp A a w G) λe j a' c' U h'=> ?_)
   cases e with
   |normal=>exact f .normal j a' c' U h'
   |exit i=>exact f (.exit i) j a' c' U h'
   |ret=>exact f .ret j a' c' U h'
 | .rangeFunc ..,b,K,r,m,w0,a,c,Q,hG,h,I,hp,f=>by grind[cF]
 | .refuse _,b,K,r,m,w0,a,c,Q,hG,h,I,hp,f=>by grind[cF]
end
section
variable {P:Program} {m:MM} {w0:World} {st:St} {a:Act} {c:Cx}
structure Out (m:MM) (w0:World) (st st':St) (a:Act) (c c':Cx) (bs:List Nat):Prop where
 w:c'.w=c.w
 ok:c'.ok=c.ok
 mv:Mv (λ_=>True) c c'
 ρ:c'.ρ=c.ρ
 rep:Rep m w0 st' a c'
 own:∀k,bf c' k->bf c k
 nodup:bs.Nodup
 src:∀b ∈ bs,∃k,bf c k/\¬bf c' k/\c.ρ k=b
theorem Out.refl (h:Rep m w0 st a c):Out m w0 st st a c c []:=
 ⟨rfl,rfl,⟨λ_ _=>rfl,λ_ h=>h,λ_ _=>rfl,λ_ _=>rfl,λk e t l _ b=>⟨e,l,b,rfl⟩⟩,rfl,h,λ_ h=>h,mD,by simp⟩
theorem Out.trans (p:Rep m w0 st a c) (h:Out m w0 st st1 a c c1 b1) (k:Out m w0 st1 C a c1 I J):Out m w0 st C a c I (b1++J):=by
 refine ⟨k.w.trans h.w,k.ok.trans h.ok,⟨λb d=> ?_,λb d=>k.mv.ok b (h.mv.ok b d),λi _=>(k.mv.ρ i aO).trans (h.mv.ρ i aO),λi _=>(k.mv.σ i aO).trans (h.mv.σ i aO),λi e t l _ q=> ?_⟩,k.ρ.trans h.ρ,k.rep,λi r=>h.own i (k.own i r),?_,?_⟩
 ·rw [k.w,h.w]
 ·obtain ⟨x,y,g1,z⟩:=k.mv.ob i e t l aO q;obtain ⟨A,B,D,E⟩:=h.mv.ob i _ _ _ aO g1
  grind
 ·refine nG.2 ⟨h.nodup,k.nodup,λb d F o s=> ?_⟩;subst s;obtain ⟨i,f,n,g⟩:=h.src b d;obtain ⟨j,u,G,j3⟩:=k.src b o;have:i=j:=p.apart i j f (h.own j u) (by rw [g,<-j3,h.ρ])
  grind
 ·intro b d;rcases cz.1 d with d|d
  ·obtain ⟨i,f,n,g⟩:=h.src b d;exact ⟨i,f,λv=>n (k.own i v),g⟩
  ·obtain ⟨i,f,n,g⟩:=k.src b d;exact ⟨i,h.own i f,n,by rw [<-h.ρ];exact g⟩
theorem aiF (h:RepV c p v) (d:∀k,p.refs k=false):RepV (cA c.w c.ok) p v:=
 RepV.move (S:=λ_=>False) (c:=c) (c1:=cA c.w c.ok) ⟨λ_ _=>rfl,λ_ b=>b,λ_ h=>h.elim,λ_ h=>h.elim,λ_ _ _ _ h=>h.elim⟩ p v (λk e=>by grind) h
theorem UQ (h:Rep m w0 st a c) (C:RepV c p v) (d:uQ st p=some (I,j)):∃J f,Out m w0 st j a c J f/\gx c.w c.ok I v f:=by
 have plain:(∀k,p.refs k=false)->(∀e t l,p≠ .fresh e t l)->p=I->st=j->∃J f,Out m w0 st j a c J f/\gx c.w c.ok I v f:=by
  rintro K L rfl rfl;refine ⟨c,[],Out.refl h,?_⟩;have:=aiF C K
  cases p <;>first
   |exact absurd rfl (L _ _ _)
   |exact ⟨rfl,this⟩
 cases p <;>simp only [uQ] at d <;>try (simp at d;done)
 all_goals try (simp only [aB,aL] at d;exact plain (by simp [PV.refs]) (by simp) d.1 d.2)
 case own k=>
  simp only [RepV] at C
  cases q:st.obj k with
  |none=>grind
  |some o=>
   rw [q] at d;cases o <;>simp only at d <;>try (simp at d;done)
   case row e t l=>
    simp only [aB,aL] at d;obtain ⟨rfl,rfl⟩:=d;have g:c.ob k=some (.row e t l):=by rw [h.ob];omega
    obtain ⟨A,n,q1,u,y,z⟩:=h.objs k _ g;have rep:=h.del q
    have hd:∀i,(st.del k).obj i=if i=k then some .gone else st.obj i:=by
     grind[St.del,gR]
    have base:∀f,f.Nodup->(∀b ∈ f,bf c k/\c.ρ k=b)->Out m w0 st (st.del k) a c {c with ob:=(st.del k).obj} f:=by
     intro f D s
     have G:¬bf {c with ob:=(st.del k).obj} k:=by
      rintro ⟨o,d,E⟩;simp only [hd,aI,aB] at d;subst d;exact E
     refine ⟨rfl,rfl,⟨λ_ _=>rfl,λ_ s=>s,λ_ _=>rfl,λ_ _=>rfl,λi M Q N _ H=>⟨M,N,?_,rfl⟩⟩,rfl,rep,?_,D,λb B=>⟨k,(s b B).1,G,(s b B).2⟩⟩
     ·simp only [hd] at H;by_cases F:i=k
      ·grind
      ·rw [ak F] at H;rw [h.ob];exact H
     ·rintro i ⟨o,d,E⟩;simp only [hd] at d;by_cases F:i=k
      ·rw [aw F] at d;simp only [aB] at d;subst d;exact E.elim
      ·rw [ak F] at d;exact ⟨o,by rw [h.ob];exact d,E.congr rfl⟩
    by_cases D:n=0
    ·exact ⟨_,[],base [] mD (by simp),A,n,by grind,u,y,.inl ⟨D,rfl⟩⟩
    ·rcases z with z| ⟨z,cs,O⟩
     ·omega
     ·refine ⟨_,[c.ρ k],base [c.ρ k] (by simp) (λb s=> ?_),A,n,by grind,u,y,.inr ⟨c.ρ k,rfl,z,cs,O⟩⟩;simp only [eP] at s;exact ⟨⟨_,g,A,_,n,q1,D⟩,s.symm⟩
   case frow e t l=>
    simp only [aB,aL] at d;obtain ⟨rfl,rfl⟩:=d;obtain ⟨A,n,q1,u,y,z⟩:=h.objs k _ (by rw [h.ob];exact q);refine ⟨c,[],Out.refl h,rfl,?_⟩;simp only [RepV];exact ⟨A,n,by grind,u,y,z⟩
 case full e t l=>
  simp only [RepV] at C;obtain ⟨A,q1,u,y⟩:=C
  cases l with
  |nil=>
   simp only [aB,aL] at d;obtain ⟨rfl,rfl⟩:=d;exact ⟨c,[],Out.refl h,A,0,q1,aR _,by omega,.inl ⟨rfl,rfl⟩⟩
  |cons x r=>
   simp only [aB,aL] at d;obtain ⟨rfl,rfl⟩:=d;refine ⟨c,[],Out.refl h,rfl,?_⟩;simp only [RepV];exact ⟨A,_,q1,aR _,u,y⟩
theorem Out.move (o:Out m w0 st j a c C I) (h:au c l vs):au C l vs:=au.move o.mv l vs (λ_ _=>aO) h
theorem UP:∀{l J} {vs} {st j} {c},Rep m w0 st a c->au c l vs->xS st l=some (J,j)->∃R d,Out m w0 st j a c R d/\iD c.w c.ok J vs d
 | [],_,vs,st,j,c,h,I,C=>by
   simp only [xS,aB,aL] at C;obtain ⟨rfl,rfl⟩:=C;exact ⟨c,[],Out.refl h,I,rfl⟩
 |p::r,_,vs,st,j,c,h,I,C=>by
  simp only [au] at I;obtain ⟨v,g,rfl,i,I⟩:=I;simp only [xS] at C;split at C
  ·rename_i u st1 k;split at C
   ·rename_i x n o;simp only [aB,aL] at C;obtain ⟨rfl,rfl⟩:=C;obtain ⟨c1,b1,b,q⟩:=UQ h i k;obtain ⟨s,e,t,f⟩:=UP b.rep (b.move I) o;rw [b.w,b.ok] at f;exact ⟨s,b1++e,b.trans h t,v,g,b1,e,rfl,rfl,q,f⟩
   grind
  grind
theorem ajp (h:Rep m w0 st a c) (f:RepV c p v) (b:CI st p=some (I,C)):∃j d,Out m w0 st C a c j d/\gJ c.w c.ok I v d:=by
 unfold CI at b;split at b
 ·rename_i n;split at b
  ·rename_i q g i;simp only [aB,aL] at b;obtain ⟨rfl,rfl⟩:=b;simp only [RepV] at f;obtain ⟨k,rfl,l⟩:=f;obtain ⟨j,d,o,e⟩:=UP h l i;exact ⟨j,d,o,k,rfl,e⟩
  grind
 ·obtain ⟨j,d,o,e⟩:=UQ h f b;refine ⟨j,d,o,?_⟩;cases p <;>simp only [uQ] at b <;>try (simp at b;done)
  all_goals try (simp only [aB,aL] at b;rw [<-b.1] at e ⊢;exact e)
  all_goals split at b
  all_goals first
   | (simp only [aB,aL] at b;rw [<-b.1] at e ⊢;exact e)
   |grind
theorem Ih:∀{l J} {vs} {st j} {c},Rep m w0 st a c->au c l vs->nm st l=some (J,j)->∃R d,Out m w0 st j a c R d/\iF c.w c.ok J vs d
 | [],_,vs,st,j,c,h,I,C=>by
   simp only [nm,aB,aL] at C;obtain ⟨rfl,rfl⟩:=C;exact ⟨c,[],Out.refl h,I,rfl⟩
 |p::r,_,vs,st,j,c,h,I,C=>by
  simp only [au] at I;obtain ⟨v,g,rfl,i,I⟩:=I;simp only [nm] at C;split at C
  ·rename_i u st1 k;split at C
   ·rename_i x n o;simp only [aB,aL] at C;obtain ⟨rfl,rfl⟩:=C;obtain ⟨c1,b1,b,q⟩:=ajp h i k;obtain ⟨s,e,t,f⟩:=Ih b.rep (b.move I) o;rw [b.w,b.ok] at f;exact ⟨s,b1++e,b.trans h t,v,g,b1,e,rfl,rfl,q,f⟩
   grind
  grind
def uO (tmps:Array Value):ResultVar->Sem Value
 | .tmp t=>pure (tmps.getD t undef)
 | .cell b t=>do loadVar t (<-asAddr (tmps.getD b undef))
theorem ajf (h:Rep m w0 st a c) (e:Cu P st x t=some p):
 ∃v,(uO a.tmps x).run P c.w= .ok v c.w/\RepV c p v:=by
 cases x with
 |tmp d=>
  simp only [Cu,aB] at e;subst e;exact ⟨_,by grind[uO,Sem.run_pure],eM (h.slots d).rep t⟩
 |cell b j=>
  simp only [Cu] at e;split at e
  ·rename_i k f;obtain ⟨l,off,cs,n,g,i⟩:=Jc h (h.slots b).rep f;obtain ⟨v,o,q⟩:=U3 (P:=P) g i e
   grind[uO,asAddr]
  grind
theorem Cs (h:Rep m w0 st a c):∀{d} {ts} {b},p6 P st d ts=some b->
 ∃vs,(d.mapM (uO a.tmps)).run P c.w= .ok vs c.w/\au c b vs
 | [],_,b,j=>by
   simp only [p6,aB] at j;subst j;exact ⟨[],by simp_all,rfl⟩
 |x::d,ts,b,j=>by
  simp only [p6] at j;split at j
  ·rename_i p q C I;simp only [aB] at j;subst j;obtain ⟨v,J,R⟩:=ajf (P:=P) h C;obtain ⟨vs,e,f⟩:=Cs h I;refine ⟨v::vs,?_,by grind[au]⟩
   simp_all
  grind
theorem HR (h:(fn.results.toList.mapM (uO tmps)).run P w= .ok vs w):
 (results fn tmps).run P w= .ok (match vs with| [v]=>v|vs=> .tuple vs.toArray) w:=by
 have b:results fn tmps=(do
  let vs<-fn.results.mapM (uO tmps)
  pure (if h:vs.size=1 then vs[0] else .tuple vs)):=by
  unfold results;congr 1
 rw [b,Kb];simp only [Sem.run_bind,map_eq_pure_bind,h,Result.andThen_ok,Sem.run_pure];congr 1
 match vs with
 | []=>rfl
 | [v]=>rfl
 |v::u::r=>simp
theorem ajq (h:nm st l=some ([q],j)) (c):q≠ .tup c:=by
 rintro rfl
 cases l with
 |nil=>grind[nm]
 |cons p r=>
  simp only [nm] at h;split at h
  ·rename_i d st1 b;split at h
   ·simp only [aB,aL,oU] at h;obtain ⟨⟨rfl,_⟩,_⟩:=h;unfold CI at b;split at b
    ·grind
    ·cases p <;>simp only [uQ] at b <;>try (simp at b;done)
     all_goals grind
   grind
  grind
theorem iF.length :∀{l} {vs} {b},iF w ok l vs b->vs.length=l.length
 | [],_,_,⟨h,_⟩=>by grind
 |_::_,_,_,⟨_,_,_,_,h,_,_,j⟩=>by rw [h,aW,aW,iF.length j]
def WI (p q):=∀ (w) (ok) (v) (e),hZ w ok p v e->∃f d,(f++d).Perm e/\hZ w (λb=>ok b\/b ∈ f) q v d
theorem IZ {R:Type} {dec:PV->Option R} {enc:R->PV} (hdec:∀v r,dec v=some r->WI v (enc r)) (hm:C.P.follows .mixedOrders=true) (hS:C.Sound) {H:Nat->Head} {f:FuncId} {fn:Func} (hf:C.P.funcs[f]?=some fn) {args:List PV} {res:R}
 (hgd:∀p ∈ args,p.isGd=false) (hr:iC C H fn args dec=some res):iH C.P C.GlobW f args (enc res):=by
 intro w ok vs hgw hok hargs;have hG:C.GlobM ⟨λ_=>False,ok,λ_=> []⟩ w:=λg t l hg=>⟨(hgw g t l hg).1,id,(hgw g t l hg).2⟩
 unfold iC at hr;split at hr
 ·rename_i code hb;have hlen:=hargs.length
  have R0:Rep ⟨λ_=>False,ok,λ_=> []⟩ w ⟨Sl.oP (args.length+ (fn.ntmps - args.length)) args,[]⟩ {tmps:=vs++Array.replicate (fn.ntmps - vs.size) undef,defers:= []} (cA w ok):=by
   have hsz:vs.size=args.length:=by omega
   refine ⟨by grind[Sized.Jz],λd=> ?_,rfl,λ_=>rfl,λk o ho=>by grind[cA],λk k' hk=> ?_,λk hk=> ?_,hok,Kept.refl _ _,λ_ hb=>hb,λ_ hb=> .inl hb,rfl⟩
   ·have hg:St.get ⟨Sl.oP (args.length+ (fn.ntmps - args.length)) args,[]⟩ d=(args[d]?).getD .undef:=by
     exact VH args (by omega) d
    rw [hg]
    cases hd:args[d]? with
    |none=>simp [bI,RepV]
    |some p=>
     obtain ⟨v,hv1,hv2⟩:=hargs.get d hd;simp only [yG]
     have:(vs++Array.replicate (fn.ntmps - vs.size) undef).getD d undef=v:=by
      rw [oV,Kc]
      grind
     rw [this];exact bI.of hv2 (np (hgd p (kG hd)))
   ·obtain ⟨o,ho,_⟩:=hk;grind[cA]
   ·obtain ⟨o,ho,_⟩:=hk;grind[cA]
  refine calls_of_wp hf hb (lD (C:={C with marks:=(H 4000000).stay}) hm hS H code _ _ res _ _ _ _ _ hG R0 hr ?_ ?_)
  ·rintro ch a w' ⟨_,v,ok',bs,he,_⟩
   grind
  ·intro e st' a' c' hk h'
   have fin:∀ (e:Ex),(match e with| .exit _=>none|_=>match p6 C.P st' fn.results.toList fn.resultTypes.toList with
    |some vs=>match nm st' vs with
     |some ([v],_)=>dec v
     |some (vs,_)=>dec (.tup vs)
     |none=>none
    |none=>none)=some res->(∀i,e≠ .exit i)->∃v,(results fn a'.tmps).run C.P c'.w= .ok v c'.w/\∃v' ok' bs,Ending.returned v= .returned v'/\Kept (λ_=>False) w c'.w/\(∀b,ok b->ok' b)/\(∀b,ok' b->b<c'.w.heap.size/\(ok b\/w.heap.size<=b))/\
     hZ c'.w ok' (enc res) v' bs/\bs.Nodup/\∀b ∈ bs,w.heap.size<=b/\b<c'.w.heap.size/\¬ok' b:=by
    intro e he hne
    have he2:(match p6 C.P st' fn.results.toList fn.resultTypes.toList with
     |some vs=>match nm st' vs with
      |some ([v],_)=>dec v
      |some (vs,_)=>dec (.tup vs)
      |none=>none
     |none=>none)=some res:=by
     grind
    split at he2
    ·rename_i ps hps;obtain ⟨us,hrun,hus⟩:=Cs h' hps;have hres:=HR hrun
     have rest:∀ (c2:Cx) (st2:St) (bs:List Nat),Out ⟨λ_=>False,ok,λ_=> []⟩ w st' st2 a' c' c2 bs->Kept (λ_=>False) w c'.w/\(∀b,ok b->c'.ok b)/\(∀b,c'.ok b->b<c'.w.heap.size/\(ok b\/w.heap.size<=b))/\bs.Nodup/\∀b ∈ bs,w.heap.size<=b/\b<c'.w.heap.size/\¬c'.ok b:=by
      intro c2 st2 bs o;refine ⟨h'.kept,h'.old,λb hb=>⟨h'.ok b hb,?_⟩,o.nodup,λb hb=> ?_⟩
      ·rcases h'.new b hb with h1|h1|h1
       all_goals grind
      ·obtain ⟨k,k1,_,rfl⟩:=o.src b hb;obtain ⟨m1,m2,m3⟩:=h'.mine k k1
       grind
     have close:∀ (p:PV) (v:Value) (bs:List Nat),dec p=some res->(∀b,ok b->c'.ok b)->(∀b,c'.ok b->b<c'.w.heap.size/\(ok b\/w.heap.size<=b))->bs.Nodup->(∀b ∈ bs,w.heap.size<=b/\b<c'.w.heap.size/\¬c'.ok b)->hZ c'.w c'.ok p v bs->
      ∃ok' bs',(∀b,ok b->ok' b)/\(∀b,ok' b->b<c'.w.heap.size/\(ok b\/w.heap.size<=b))/\hZ c'.w ok' (enc res) v bs'/\bs'.Nodup/\∀b ∈ bs',w.heap.size<=b/\b<c'.w.heap.size/\¬ok' b:=by
      intro p v bs hd r2 r3 r4 r5 hR;obtain ⟨ad,bs2,hp,hR2⟩:=hdec _ _ hd _ _ _ _ hR;have hnd:=hp.nodup_iff.2 r4;obtain ⟨n1,n2,n3⟩:=nG.1 hnd;refine ⟨λb=>c'.ok b\/b ∈ ad,bs2,λb hb=> .inl (r2 b hb),λb hb=> ?_,hR2,n2,λb hb=> ?_⟩
      all_goals grind
     split at he2
     ·rename_i q st2 ho;obtain ⟨c2,bs,o,ra⟩:=Ih h' hus ho;obtain ⟨r1,r2,r3,r4,r5⟩:=rest c2 st2 bs o;obtain ⟨v,r',b1,b2,rfl,rfl,e1,e2,e3⟩:=ra;subst e2;subst e3;rw [ji] at r4 r5;have hnt:=ajq ho
      have hR:hZ c'.w c'.ok q v b1:=by
       cases q <;>first
        |exact e1
        |grind
      grind
     ·rename_i qs st2 hq ho;obtain ⟨c2,bs,o,ra⟩:=Ih h' hus ho;obtain ⟨r1,r2,r3,r4,r5⟩:=rest c2 st2 bs o;have hl:=ra.length
      have hres':(results fn a'.tmps).run C.P c'.w= .ok (.tuple us.toArray) c'.w:=by
       rw [hres];congr 1;split
       all_goals grind[List.length_eq_one_iff]
      obtain ⟨ok',bs',z1,z2,z3,z4,z5⟩:=close (.tup qs) (.tuple us.toArray) bs he2 r2 r3 r4 r5 ⟨us.toArray,rfl,by omega⟩
      grind
     grind
    grind
   cases e with
   |normal=>exact ⟨h'.defers,fin .normal hk (by simp)⟩
   |exit i=>grind
   |ret=>exact ⟨h'.defers,fin .ret hk (by simp)⟩
 grind
end
end Go.Fw
