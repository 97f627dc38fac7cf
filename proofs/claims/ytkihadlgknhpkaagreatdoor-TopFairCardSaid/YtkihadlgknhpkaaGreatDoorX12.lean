/- Part 12: lemmas that the last text needs. -/
import Derived.Test.YtkihadlgknhpkaaGreatDoorX10
set_option linter.all false
set_option autoImplicit true
set_option relaxedAutoImplicit true
namespace Go.Fw
theorem Wz {l:List Nat} :l.any (Nat.beq k)=true↔k ∈ l:=by
 simp_all
theorem Wy {l:List Nat} :l.any (Nat.beq k)=false↔k ∉ l:=by
 grind[Wz]
theorem Dd (h):∀ (l) (k),St.dH (yd h l) k=(St.dH l k).map λx=>if k ∈ h then x else (x.1+1,.gone)
 | [],k=>by simp [yd,St.dH]
 | (j,v,o)::r,k=>by
   simp only [yd]
   cases I:h.any (Nat.beq j) with
   |true=>
    simp only [ah,St.dH]
    cases C:Nat.beq j k with
    |true=>simp_all
    |false=>simp only [aa];exact Dd h r k
   |false=>
    simp only [aa,St.dH]
    cases C:Nat.beq j k with
    |true=>grind
    |false=>simp only [aa];exact Dd h r k
theorem Wt (h) (w) (st) (d):(dY h w st).get d=if d ∈ w then .undef else Fw.ungd (st.get d):=by
 exact VJ w st.s d
theorem akU (b:(dY h w st).obj k=some o):o= .gone\/(k ∈ h.stay/\st.obj k=some o):=by
 grind[St.obj,dY,Dd]
theorem Obj.layO (st) (k) (o):Obj st (st.layO k o):=by
 unfold St.layO;split
 ·rename_i b;refine ⟨rfl,λi v x d=>⟨v,x,?_,aR _,λ_=>rfl⟩⟩
  grind[St.dH,dD]
 grind[Obj.setO]
theorem ajv (st:St) (k) (o) (i):(st.layO k o).obj i=if i=k then some o else st.obj i:=by
 grind[St.layO,St.obj,St.dH,sA,gR]
theorem VL (st:St) (i) (v) (d):(st.set i v).get d=if d=i/\st.s.has i=true then v else st.get d:=qd _ _ _ _
theorem VM (st:St) (k) (o) (d):(st.layO k o).get d=st.get d:=by
 simp only [St.get,(Obj.layO st k o).s]
def yw:(v:HV)->v.den->Nat->PV->Prop
 | .data s t,y,d,p=>d=s/\t.leaves y= [p]
 | .row s K _ _,_,d,p=>d=s/\p= .own K
 |_,_,_,_=>False
def JE:(v:HV)->v.den->Nat->Ob->Prop
 | .data ..,_,_,_=>False
 | .row _ K e t,y,k,o=>k=K/\o= .row e t y
 | .arr j e t n,y,k,o=>k=j/\o= .arr e t n y
 | .box j t,y,k,o=>k=j/\o= .box (t.leaves y)
 | .rowk j e t,y,k,o=>k=j/\o= .row e t y
 | .crow _ _ K e t,y,k,o=>k=K/\o= .row e t y
 | .mpk j m,y,k,o=>k=j/\o= .mp m y
 | .iterk j m,y,k,o=>k=j/\o= .iter m y none
 | .boxr j K a b,y,k,o=>k=j/\o= .box (a.leaves y.1++ .own K::b.leaves y.2)
 | .boxs j K K' a b c,y,k,o=>k=j/\o= .box (a.leaves y.1++ .own K::(b.leaves y.2.1++ .own K'::c.leaves y.2.2))
def HV.yB:HV->Option Nat
 | .arr k ..| .box k _| .rowk k ..| .boxr k ..| .boxs k ..| .mpk k _| .iterk k _=>some k
 |_=>none
theorem Vc (n) (st) (v:HV) (y) (h:Sized n st.s):Sized n (v.lay st y).s:=by
 cases v <;>simp only [HV.lay]
 ·split
  ·exact h.set _ _
  omega
 ·rw [(Obj.layO _ _ _).s];exact h.set _ _
 all_goals rw [(Obj.layO _ _ _).s];exact h
theorem CW (st) (v) (y) (d):(v.lay st y).get d=st.get d\/yw v y d ((v.lay st y).get d):=by
 cases v <;>simp only [HV.lay]
 ·split
  ·rename_i p b;rw [VL];split
   ·rename_i h;exact .inr ⟨h.1,b⟩
   grind
  grind
 ·rw [VM,VL];split
  ·rename_i h;exact .inr ⟨h.1,rfl⟩
  grind
 all_goals grind[VM]
theorem Va (st) (v) (y) (h:(v.lay st y).obj k=some o):st.obj k=some o\/JE v y k o:=by
 cases v <;>simp only [HV.lay] at h
 ·split at h
  ·exact .inl h
  grind
 all_goals
  rw [ajv] at h;split at h
  ·rename_i b;simp only [aB] at h;exact .inr ⟨b,h.symm⟩
  ·exact .inl h
theorem Vb (st) (v:HV) (y):ia st.o (v.lay st y).o:=by
 cases v <;>simp only [HV.lay]
 ·split
  ·exact ia.refl _
  grind[ia.refl]
 ·exact (Obj.layO (st.set _ _) _ _).ob
 all_goals exact (Obj.layO _ _ _).ob
theorem Vd (st) (v:HV) (y) (i):(v.lay st y).s.has i=st.s.has i:=by
 cases v <;>simp only [HV.lay]
 ·split
  ·exact C5 _ _ _ _
  ·rfl
 ·rw [(Obj.layO _ _ _).s];exact C5 _ _ _ _
 all_goals rw [(Obj.layO _ _ _).s]
theorem Vh (i):∀ (vs) (st) (x),(fw st vs x).s.has i=st.s.has i
 | [],_,_=>rfl
 | [v],st,x=>Vd st v x i
 |v::w::r,st,x=>by rw [show fw st (v::w::r) x=fw (v.lay st x.1) (w::r) x.2 from rfl,Vh i (w::r),Vd]
theorem Vf (n):∀ (vs) (st) (x),Sized n st.s->Sized n (fw st vs x).s
 | [],_,_,h=>h
 | [v],st,x,h=>Vc n st v x h
 |v::w::r,st,x,h=>Vf n (w::r) _ _ (Vc n st v x.1 h)
theorem Ve:∀ (vs) (st) (x),ia st.o (fw st vs x).o
 | [],_,_=>ia.refl _
 | [v],st,x=>Vb st v x
 |v::w::r,st,x=>(Vb st v x.1).trans (Ve (w::r) _ x.2)
theorem Vi:∀ (vs) (st) (x) (st'),iA st' vs=some x->∀d,(fw st vs x).get d=st.get d\/∃v ∈ vs,∃y,v.read st'=some y/\yw v y d ((fw st vs x).get d)
 | [],_,_,_,_,d=> .inl rfl
 | [v],st,x,st',j,d=>(CW st v x d).imp_right λh=>⟨v,by simp,x,j,h⟩
 |v::w::r,st,x,st',j,d=>by
  simp only [iA] at j;split at j
  ·rename_i y z I C;simp only [aB] at j;subst j;rcases Vi (w::r) (v.lay st y) z st' C d with h| ⟨u,J,q,R,U⟩
   all_goals grind[CW,fw]
  grind
theorem CY:∀ (vs) (st) (x) (st'),iA st' vs=some x->∀k o,(fw st vs x).obj k=some o->st.obj k=some o\/∃v ∈ vs,∃y,v.read st'=some y/\JE v y k o
 | [],_,_,_,_,k,o,h=> .inl h
 | [v],st,x,st',j,k,o,h=>(Va st v x h).imp_right λh=>⟨v,by simp,x,j,h⟩
 |v::w::r,st,x,st',j,k,o,h=>by
  simp only [iA] at j;split at j
  ·rename_i y z I C;simp only [aB] at j;subst j;rcases CY (w::r) (v.lay st y) z st' C k o h with h| ⟨u,J,q,R,U⟩
   all_goals grind[Va]
  grind
theorem Jm :∀{l},yt stay l=true->(∀k ∈ l,k ∉ stay)/\l.Nodup
 | [],_=>⟨by simp,mD⟩
 |k::r,h=>by
  simp only [yt,bb,sL] at h;obtain ⟨j,C⟩:=Jm h.2
  grind[Wy]
theorem IP {α:Type} {f}:∀{l:List α},(l.filterMap f).Nodup->∀{v j} {i:Nat},v ∈ l->j ∈ l->f v=some i->f j=some i->v=j
 | [],_,v,_,_,I,_,_,_=>by grind
 |u::r,h,v,j,i,I,C,J,R=>by
  have U:(r.filterMap f).Nodup:=by
   grind
  rcases a8.1 I with e|b <;>rcases a8.1 C with g|d
  ·grind
  ·grind
  ·grind
  ·exact IP U b d J R
inductive Loc where
 |slot (s:Nat)
 |cell (k i:Nat)
def HV.loc:HV->Option (Nat×Loc)
 | .row s K _ _=>some (K,.slot s)
 | .crow k i K _ _=>some (K,.cell k i)
 |_=>none
def fF:List HV->Nat->Option Loc
 | [],_=>none
 |v::r,k=>match v.loc with
  |some (K,l)=>if K=k then some l else fF r k
  |none=>fF r k
theorem Cr:∀{vs} {k} {l},fF vs k=some l->∃v ∈ vs,v.loc=some (k,l)
 | [],_,_,h=>by grind[fF]
 |v::r,k,l,h=>by
  have j:fF r k=some l->∃u ∈ v::r,u.loc=some (k,l):=λb=>by
   obtain ⟨u,d,e⟩:=Cr b
   grind
  grind[fF]
theorem CS {v:HV} (h:v.loc=some (K,l)):v.kz=some K:=by
 cases v <;>simp only [HV.loc,aB,aL,reduceCtorEq] at h
 all_goals grind[HV.kz]
theorem jy (f:(vs.filterMap HV.kz).Nodup) (h:v ∈ vs) (g:v.loc=some (K,l)):fF vs K=some l:=by
 have:∀ (b),v ∈ b->∃e,fF b K=some e:=by
  intro b
  induction b with
  |nil=>grind
  |cons u r k=>
   intro h;simp only [fF];rcases a8.1 h with rfl|h
   ·simp_all
   grind
 obtain ⟨e,d⟩:=this vs h;obtain ⟨u,i,j⟩:=Cr d;have:=IP f i h (CS j) (CS g)
 grind
section
variable {P:Program} {m:MM} {w0:World} {st0 st st':St} {a:Act} {c:Cx}
theorem ake (b:gw h w st=true) (e:v ∈ h.vars) (f:yw v y d p):d ∈ w:=by
 grind[gw,yw,Wz]
theorem akg (b:gw h w st=true):(h.vars.filterMap HV.kz).Nodup:=(Jm (Bool.and_eq_true_iff.1 b).1).2
theorem akf (b:gw h w st=true) (d:v ∈ h.vars) (e:v.kz=some K):
 K ∉ h.stay/\(dY h w st).s.refs K=false/\jz (dY h w st).o K=false:=by
 grind[gw,HV.kz,Wy]
theorem IG (b:gw h w st=true) (d:fF h.vars K=some l):
 K ∉ h.stay/\(dY h w st).s.refs K=false/\jz (dY h w st).o K=false:=by
 grind[Cr,akf,CS]
theorem jB (b:gw h w st=true) (d:v ∈ h.vars) (e:v.yB=some k):fF h.vars k=none:=by
 unfold gw at b;have:=gU.1 (Bool.and_eq_true_iff.1 b).2 v d
 cases f:fF h.vars k with
 |none=>rfl
 |some l=>
  grind[Cr,CS,sA,HV.yB]
theorem akV (st):Agree w st (dY h w st):=by
 refine ⟨λi=>VE _ _ _,λd hd b=> ?_,λk v x f=> ?_⟩
 ·rw [Wt,ak hd];cases e:st.get d <;>rw [e] at b <;>simp [Fw.ungd] <;>simp [PV.isGd] at b
 grind[dY,Dd]
theorem Vg:∀ (vs) (st) (x) (d),(∀v ∈ vs,∀y p,¬yw v y d p)->(fw st vs x).get d=st.get d
 | [],_,_,_,_=>rfl
 | [v],st,x,d,h=>(CW st v x d).resolve_right (h v (by simp) _ _)
 |v::w::r,st,x,d,h=>(Vg (w::r) (v.lay st x.1) x.2 d (λu b=>h u (iL _ b))).trans ((CW st v x.1 d).resolve_right (h v (by simp) _ _))
theorem CX (b:gw h w st0=true) (x):Agree w st0 (fw (dY h w st0) h.vars x):=by
 refine (akV st0).trans ⟨λi=>Vh i _ _ _,λd hd _=> ?_,Ve _ _ _⟩
 grind[Vg,ake]
noncomputable def Loc.pv (st:St):Loc->PV
 | .slot s=>st.get s
 | .cell k i=>st.cellPV k i
def Loc.val (a:Act) (c:Cx):Loc->Value
 | .slot s=>a.tmps.getD s undef
 | .cell k i=>match c.w.heap[c.ρ k]? with|some (.cells cs _ _)=>cs.getD i undef|_=>undef
theorem Ir (h:Rep m w0 st a c) (l:Loc):RepV c (l.pv st) (l.val a c):=by
 cases l with
 |slot s=>exact (h.slots s).rep
 |cell k i=>
  simp only [Loc.pv,St.cellPV];split
  ·rename_i b d;obtain ⟨cs,⟨e,q1,_⟩,f⟩:=h.objs k _ (by rw [h.ob];exact d);simp only [Loc.val,q1]
   cases g:b[i]? with
   |none=>simp [RepV]
   |some p=>
    obtain ⟨v,j,n⟩:=f.get i g
    simp_all
  ·simp [RepV]
noncomputable def ni (h:Head) (st:St) (k:Nat):Nat:=match fF h.vars k with
 |some l=>match l.pv st with| .own b=>b|_=>k
 |none=>k
noncomputable def ej (h:Head) (st b:St) (a:Act) (c:Cx):Cx:=
 {w:=c.w,ok:=c.ok,ρ:=λk=>c.ρ (ni h st k),σ:=λk=>match fF h.vars k with|some l=>l.val a c|none=>c.σ k,pin:=c.pin,ob:=b.obj}
theorem CT:∀ (t:Ty) (x) (p),p ∈ t.leaves x->p.isGd=false
 | .int _,_,p,h=>by simp only [Ty.leaves,eP] at h;subst h;rfl
 | .bool,_,p,h=>by simp only [Ty.leaves,eP] at h;subst h;rfl
 | .flt,x,p,h=>by simp only [Ty.leaves,eP] at h;subst h;rfl
 | .str,_,p,h=>by simp only [Ty.leaves,eP] at h;subst h;rfl
 | .unit,_,p,h=>by grind[Ty.leaves]
 | .pair a b,x,p,h=>by
   simp only [Ty.leaves] at h;rcases cz.1 h with h|h
   ·exact CT a _ p h
   ·exact CT b _ p h
 | .slice _ _,_,p,h=>by simp only [Ty.leaves,eP] at h;subst h;rfl
theorem aki (b:gw h w st=true) (d:HV.boxr k K j C ∈ h.vars):∃e t,HV.crow k j.size K e t ∈ h.vars:=by
 grind[gw,dD]
theorem akh (d:gw h w st=true) (f:HV.boxs k K K' b j C ∈ h.vars):(∃e t,HV.crow k b.size K e t ∈ h.vars)/\∃e t,HV.crow k (b.size+1+j.size) K' e t ∈ h.vars:=by
 grind[gw,dD]
theorem HX:∀{vs} {x},iA st vs=some x->∀{v},v ∈ vs->∃y,v.read st=some y
 | [],_,_,_,h=>by grind
 | [u],x,j,v,h=>by simp at h;subst h;exact ⟨x,j⟩
 |u::w::r,x,j,v,h=>by
  simp only [iA] at j;split at j
  ·rename_i y z I C;rcases a8.1 h with rfl|h
   ·grind
   ·exact HX C h
  grind
theorem CV (hh:gw h w st0=true) (hs:nh h st=true) (hag:Agree w st0 st) (hst:ng h st0 st=true)
 (hr:iA st h.vars=some x) (R:Rep m w0 st a c):∃c2:Cx,c2.w=c.w/\Rep m w0 (fw (dY h w st0) h.vars x) a c2:=by
 obtain ⟨hs1,hs2⟩:=Jm hs;have hnd:=akg hh
 let st2:=fw (dY h w st0) h.vars x
 refine ⟨ej h st st2 a c,rfl,?_⟩;have hgc:(ej h st st2 a c).ob=st2.obj:=rfl
 have hstay:∀k o,(dY h w st0).obj k=some o->o= .gone\/(k ∈ h.stay/\st.obj k=some o):=by
  intro k o ho;rcases akU ho with h1| ⟨h1,h2⟩
  ·grind
  ·refine .inr ⟨h1,?_⟩;have hv:=gU.1 hst k h1;unfold St.obj at h2 ⊢
   cases hf:St.dH st0.o k with
   |none=>grind
   |some p=>
    obtain ⟨v,q⟩:=p;rw [hf] at h2 hv;simp only [aB] at h2;subst h2;obtain ⟨v',x',g1,g2,g3⟩:=hag.ob k v q hf
    simp_all
 have hnrow:∀k,k ∈ h.stay->fF h.vars k=none:=by
  intro k hk
  cases hr:fF h.vars k with
  |none=>rfl
  |some s=>grind[IG]
 have hsrc:∀k,fF h.vars k=none->ni h st k=k:=by
  grind[ni]
 have hσ:∀k,fF h.vars k=none->(ej h st st2 a c).σ k=c.σ k:=by
  grind[ej]
 have hρ:∀k,fF h.vars k=none->(ej h st st2 a c).ρ k=c.ρ k:=by
  grind[ej]
 have hmv:Mv (λk=>fF h.vars k=none) c (ej h st st2 a c):=by
  refine ⟨λ_ _=>rfl,λ_ hb=>hb,hρ,hσ,λk e t l hk hl=> ?_⟩
  have one:∀o,st2.obj k=some o->(∃e t l,o= .row e t l)\/(∃e t n l,o= .arr e t n l)->st.obj k=some o:=by
   intro o ho hrow;rcases CY _ _ x st hr k o ho with h1| ⟨v,hv,y,h1,h2⟩
   ·grind
   ·cases v <;>simp only [JE] at h2
    ·rw [h2.1,jy hnd hv rfl] at hk;grind
    ·grind[HV.read]
    ·grind
    ·grind[HV.read]
    ·rw [h2.1,jy hnd hv rfl] at hk;grind
    all_goals grind
  rcases hl with hl| ⟨n,hl⟩
  ·exact ⟨e,l,.inl (by rw [R.ob];simp_all),rfl⟩
  ·exact ⟨e,l,.inr ⟨n,by rw [R.ob];simp_all⟩,rfl⟩
 have hrowv:∀v K l e t (y:List t.den),v ∈ h.vars->v.loc=some (K,l)->CA st e t (l.pv st)=some y->
  (∃k0,l.pv st= .own k0/\st.obj k0=some (.row e t y)/\l.val a c=c.σ k0/\ni h st K=k0)\/
  (y= []/\∃A,l.val a c= .slice A 0 0):=by
  intro v K l e t y hv hl hy;have hsl:=Ir R l;unfold CA at hy;split at hy
  ·rename_i k0 hg;rw [hg] at hsl;simp only [RepV] at hsl;split at hy
   ·rename_i e2 t2 l2 ho;split at hy
    ·rename_i he;split at hy
     ·rename_i ht;subst ht;simp only [aB] at hy;subst hy;refine .inl ⟨k0,hg,by grind,hsl.1,?_⟩;unfold ni;rw [jy hnd hv hl]
      grind
     grind
    grind
   grind
  all_goals grind[RepV]
 have hone:∀ (p q:PV) (u:Value),(match p with| .full e t l=> .sl e t l|v=>v)=q->bI c a p u->∀ (t:Ty) (y:t.den),t.of [q]=some y->aJ c.w c.ok t y [u]:=by
  intro p q u hq hp t y hy;refine Ty.fU (c:=c) hy ?_
  have:RepV c q u:=by
   have hp:=hp.rep
   grind[RepV]
  grind[au]
 have hown:∀k,bf (ej h st st2 a c) k->bf c (ni h st k)/\((k ∈ h.stay/\ni h st k=k)\/∃v ∈ h.vars,HV.src st v=some (ni h st k)/\(v.kz=some k\/v.yB=some k)):=by
  rintro k ⟨o,ho,hw⟩;rcases CY _ _ x st hr k o ho with h1| ⟨v,hv,y,h1,h2⟩
  ·rcases hstay k o h1 with rfl| ⟨h2,h3⟩
   ·exact hw.elim
   ·have hn:=hnrow k h2;rw [hsrc k hn];exact ⟨⟨o,by rw [R.ob];exact h3,hw.congr (hσ k hn).symm⟩,.inl ⟨h2,rfl⟩⟩
  ·cases v with
   |data s t=>exact h2.elim
   |row s K e t=>
    obtain ⟨rfl,rfl⟩:=h2;rcases hrowv _ _ _ e t y hv rfl h1 with ⟨k0,g1,g2,g3,g4⟩| ⟨rfl,A,g⟩
    ·rw [g4];refine ⟨⟨_,by rw [R.ob];exact g2,?_⟩,.inr ⟨_,hv,by grind[Loc.pv,HV.src],.inl rfl⟩⟩;obtain ⟨A,n,mm,q1,q2⟩:=hw;simp only [ej,jy hnd hv rfl] at q1;exact ⟨A,n,mm,by grind,q2⟩
    ·obtain ⟨A',n,mm,q1,q2⟩:=hw;simp only [ej,jy hnd hv rfl] at q1
     grind
   |crow k' i K e t=>
    obtain ⟨rfl,rfl⟩:=h2;rcases hrowv _ _ _ e t y hv rfl h1 with ⟨k0,g1,g2,g3,g4⟩| ⟨rfl,A,g⟩
    ·rw [g4];refine ⟨⟨_,by rw [R.ob];exact g2,?_⟩,.inr ⟨_,hv,by grind[Loc.pv,HV.src],.inl rfl⟩⟩;obtain ⟨A,n,mm,q1,q2⟩:=hw;simp only [ej,jy hnd hv rfl] at q1;exact ⟨A,n,mm,by grind,q2⟩
    ·obtain ⟨A',n,mm,q1,q2⟩:=hw;simp only [ej,jy hnd hv rfl] at q1
     grind
   |boxr k' K ta tb=>
    obtain ⟨rfl,rfl⟩:=h2;have hn:=jB hh hv (k:=_) rfl;rw [hsrc _ hn];refine ⟨?_,.inr ⟨_,hv,by grind[HV.src],.inr rfl⟩⟩;simp only [HV.read] at h1;split at h1
    ·rename_i ho2;exact ⟨_,(R.ob _).trans ho2,aO⟩
    grind
   |boxs k' K K' ta tb tc=>
    obtain ⟨rfl,rfl⟩:=h2;have hn:=jB hh hv (k:=_) rfl;rw [hsrc _ hn];refine ⟨?_,.inr ⟨_,hv,by grind[HV.src],.inr rfl⟩⟩;simp only [HV.read] at h1;split at h1
    ·rename_i ho2;exact ⟨_,(R.ob _).trans ho2,aO⟩
    grind
   |mpk k' mt=>
    obtain ⟨rfl,rfl⟩:=h2;have hn:=jB hh hv (k:=_) rfl;rw [hsrc _ hn];refine ⟨?_,.inr ⟨_,hv,by grind[HV.src],.inr rfl⟩⟩;simp only [HV.read] at h1;split at h1
    ·rename_i ho2;exact ⟨_,(R.ob _).trans ho2,aO⟩
    grind
   |iterk k' mt=>
    obtain ⟨rfl,rfl⟩:=h2;have hn:=jB hh hv (k:=_) rfl;rw [hsrc _ hn];refine ⟨?_,.inr ⟨_,hv,by grind[HV.src],.inr rfl⟩⟩;simp only [HV.read] at h1;split at h1
    ·rename_i ho2;exact ⟨_,(R.ob _).trans ho2,aO⟩
    grind
   |arr k' e t n=>
    obtain ⟨rfl,rfl⟩:=h2;have hn:=jB hh hv (k:=_) rfl;rw [hsrc _ hn];refine ⟨?_,.inr ⟨_,hv,by grind[HV.src],.inr rfl⟩⟩;simp only [HV.read] at h1;split at h1
    ·rename_i e2 t2 n2 l2 ho2;exact ⟨_,(R.ob _).trans ho2,aO⟩
    grind
   |box k' t=>
    obtain ⟨rfl,rfl⟩:=h2;have hn:=jB hh hv (k:=_) rfl;rw [hsrc _ hn];refine ⟨?_,.inr ⟨_,hv,by grind[HV.src],.inr rfl⟩⟩;simp only [HV.read] at h1;split at h1
    ·rename_i ho2;exact ⟨_,(R.ob _).trans ho2,aO⟩
    grind
   |rowk k' e t=>
    obtain ⟨rfl,rfl⟩:=h2;have hn:=jB hh hv (k:=_) rfl;rw [hsrc _ hn];refine ⟨?_,.inr ⟨_,hv,by grind[HV.src],.inr rfl⟩⟩;simp only [HV.read] at h1;split at h1
    ·rename_i e2 t2 l2 ho2;obtain ⟨A,n,mm,q1,q2⟩:=hw;rw [hσ _ hn] at q1;exact ⟨_,(R.ob _).trans ho2,A,n,mm,q1,q2⟩
    grind
 have hmem:∀v i,v ∈ h.vars->HV.src st v=some i->i ∈ h.vars.filterMap (HV.src st):=λv i hv hi=>JK.2 ⟨v,hv,hi⟩
 refine ⟨?_,λd=> ?_,R.defers,λk=>rfl,λk o ho=> ?_,λk k' hk hk' he=> ?_,λk hk=> ?_,R.ok,R.kept,R.old,R.new,R.pin⟩
 ·refine Vf _ _ _ _ ⟨λi=> ?_,λi s' w' v he=> ?_⟩
  ·show (vf w st0.s).has i=_;rw [VE,<-hag.len,R.size.has]
  ·have he':(vf w st0.s).go i= .gd s' w' v:=he;rw [VJ] at he';split at he'
   ·grind
   ·cases hp:st0.s.go i <;>rw [hp] at he' <;>simp [Fw.ungd] at he'
 ·
  rcases Vi _ (dY h w st0) x st hr d with h1| ⟨v,hv,y,h1,h2⟩
  ·rw [h1];have hb:=Wt h w st0 d;split at hb
   ·grind[bI,RepV]
   ·rename_i hd
    cases hg:(st0.get d).isGd with
    |true=>
     rw [hb];cases hp:st0.get d <;>rw [hp] at hg <;>simp [PV.isGd] at hg;simp [Fw.ungd,bI,RepV]
    |false=>
     have he:(dY h w st0).get d=st.get d:=by
      rw [hb,hag.get d hd hg];cases hp:st0.get d <;>rw [hp] at hg <;>simp [Fw.ungd] <;>simp [PV.isGd] at hg
     have hrefs:∀k,(st.get d).refs k=true->fF h.vars k=none:=by
      intro k hk
      cases hrs:fF h.vars k with
      |none=>rfl
      |some s=>
       have:=(IG hh hrs).2.1;rw [<-he] at hk;rw [Da (dY h w st0).s d k hk] at this
       grind
     rw [he];exact bI.move hmv hrefs (R.slots d)
  ·cases v with
   |data s t=>
    obtain ⟨rfl,h4⟩:=h2;simp only [HV.read] at h1;have hd:=hone _ _ _ rfl (R.slots d) t y h1;have:=aJ.leaves (c:=ej h st st2 a c) (show aJ _ _ t y [_] from hd);rw [h4] at this;simp only [au] at this;obtain ⟨v,r',e1,e2,_⟩:=this;simp only [oU] at e1;rw [e1.1];refine bI.of e2 ?_;intro s' w' q hq;rw [hq] at h4;have:=CT t y (.gd s' w' q) (by grind)
    grind[PV.isGd]
   |row s K e t=>
    obtain ⟨rfl,h4⟩:=h2;rw [h4];simp only [bI,RepV];refine ⟨by simp only [ej,jy hnd hv rfl];rfl,?_⟩;rcases hrowv _ K _ e t y hv rfl h1 with ⟨k0,g1,g2,g3,g4⟩| ⟨rfl,A,g⟩
    ·have:=(R.slots d).rep
     grind[Loc.pv,RepV]
    ·exact ⟨A,0,0,g⟩
   |arr _ _ _ _=>exact h2.elim
   |box _ _=>exact h2.elim
   |rowk _ _ _=>exact h2.elim
   |crow _ _ _ _ _=>exact h2.elim
   |boxr _ _ _ _=>exact h2.elim
   |boxs _ _ _ _ _ _=>exact h2.elim
   |mpk _ _=>exact h2.elim
   |iterk _ _=>exact h2.elim
 ·
  rcases CY _ _ x st hr k o ho with h1| ⟨v,hv,y,h1,h2⟩
  ·rcases hstay k o h1 with rfl| ⟨h2,h3⟩
   ·trivial
   ·have hn:=hnrow k h2;refine (R.objs k o (by rw [R.ob];exact h3)).move hmv (λi hi=> ?_) hn (λ_=>rfl)
    cases hrs:fF h.vars i with
    |none=>rfl
    |some s=>
     grind[IG,St.obj,IN]
  ·cases v with
   |data s t=>exact h2.elim
   |row s K e t=>
    obtain ⟨rfl,rfl⟩:=h2;rcases hrowv _ _ _ e t y hv rfl h1 with ⟨k0,g1,g2,g3,g4⟩| ⟨rfl,A,g⟩
    ·obtain ⟨A,n,q1,q2⟩:=R.objs k0 _ (by rw [R.ob];exact g2);refine ⟨A,n,?_,?_⟩
     ·simp only [ej,jy hnd hv rfl];grind
     grind[ej]
    ·exact ⟨A,0,by simp only [ej,jy hnd hv rfl];exact g,aR _,by omega,.inl rfl⟩
   |crow k' i K e t=>
    obtain ⟨rfl,rfl⟩:=h2;rcases hrowv _ _ _ e t y hv rfl h1 with ⟨k0,g1,g2,g3,g4⟩| ⟨rfl,A,g⟩
    ·obtain ⟨A,n,q1,q2⟩:=R.objs k0 _ (by rw [R.ob];exact g2);refine ⟨A,n,?_,?_⟩
     ·simp only [ej,jy hnd hv rfl];grind
     grind[ej]
    ·exact ⟨A,0,by simp only [ej,jy hnd hv rfl];exact g,aR _,by omega,.inl rfl⟩
   |boxr k' K ta tb=>
    obtain ⟨rfl,rfl⟩:=h2;have hn:=jB hh hv (k:=_) rfl;obtain ⟨e,t,hu⟩:=aki hh hv;simp only [HV.read] at h1;split at h1
    ·rename_i cl ho2;split at h1
     ·rename_i x1 x2 hx1 hx2;obtain ⟨hlen,h1⟩:=b6 h1;have hlen:=Dz hlen;simp only [aB] at h1;subst h1;obtain ⟨cs,q1,q2⟩:=R.objs k _ (by rw [R.ob];exact ho2);refine ⟨cs,by rw [hρ k hn];exact q1,?_⟩;have hcl:cs.toList.length=cl.length:=q2.length
      have hsplit:cs.toList=cs.toList.take ta.size++ (cs.toList[ta.size]'(by omega))::cs.toList.drop (ta.size+1):=by
       rw [<-gT,mC]
      rw [hsplit];refine au.append (aJ.leaves (c:=ej h st st2 a c) (show aJ _ _ ta x1 _ from Ty.fU (c:=c) hx1 (q2.take _))) ?_;simp only [au];refine ⟨_,_,rfl,?_,aJ.leaves (c:=ej h st st2 a c) (show aJ _ _ tb x2 _ from Ty.fU (c:=c) hx2 (q2.drop _))⟩
      have hval:Loc.val a c (.cell k ta.size)=cs.toList[ta.size]'(by omega):=by
       obtain ⟨e',q3,_⟩:=q1;simp only [Loc.val,q3];have:ta.size<cs.size:=by grind
       simp [oV,this]
      simp only [RepV];refine ⟨by simp only [ej,jy hnd hu rfl];grind,?_⟩;obtain ⟨z,hz⟩:=HX hr hu;rcases hrowv _ _ _ e t z hu rfl hz with ⟨k0,g1,g2,g3,g4⟩| ⟨rfl,A,g⟩
      ·have:=Ir R (.cell k ta.size)
       grind[RepV]
      grind
     grind
    grind
   |boxs k' K K' ta tb tc=>
    obtain ⟨rfl,rfl⟩:=h2;have hn:=jB hh hv (k:=_) rfl;obtain ⟨⟨e,t,hu⟩,e',t',hu'⟩:=akh hh hv;simp only [HV.read] at h1;split at h1
    ·rename_i cl ho2;split at h1
     ·rename_i x1 x2 x3 hx1 hx2 hx3;obtain ⟨hlen,h1⟩:=b6 h1;have hlen:=Dz hlen;simp only [aB] at h1;subst h1;obtain ⟨cs,q1,q2⟩:=R.objs k _ (by rw [R.ob];exact ho2);refine ⟨cs,by rw [hρ k hn];exact q1,?_⟩;have hcl:cs.toList.length=cl.length:=q2.length
      have hsplit:cs.toList=cs.toList.take ta.size++ (cs.toList[ta.size]'(by omega))::((cs.toList.drop (ta.size+1)).take tb.size++ (cs.toList[ta.size+1+tb.size]'(by omega))::cs.toList.drop (ta.size+1+tb.size+1)):=by
       have h2:(cs.toList.drop (ta.size+1)).take tb.size++cs.toList.drop (ta.size+1+tb.size)=cs.toList.drop (ta.size+1):=by
        grind[List.drop_drop,List.take_append_drop]
       rw [<-gT,h2,<-gT,mC]
      rw [hsplit]
      have cell:∀ (i:Nat) (hi:i<cs.toList.length) (K:Nat) (e:TypeId) (t:Ty),HV.crow k i K e t ∈ h.vars->RepV (ej h st st2 a c) (.own K) (cs.toList[i]'hi):=by
       intro i hi K e t hu
       have hval:Loc.val a c (.cell k i)=cs.toList[i]'hi:=by
        obtain ⟨e',q3,_⟩:=q1;simp only [Loc.val,q3];have:i<cs.size:=by omega
        simp [oV,this]
       simp only [RepV];refine ⟨by simp only [ej,jy hnd hu rfl];grind,?_⟩;obtain ⟨z,hz⟩:=HX hr hu;rcases hrowv _ _ _ e t z hu rfl hz with ⟨k0,g1,g2,g3,g4⟩| ⟨rfl,A,g⟩
       ·have:=Ir R (.cell k i)
        grind[RepV]
       grind
      refine au.append (aJ.leaves (c:=ej h st st2 a c) (show aJ _ _ ta x1 _ from Ty.fU (c:=c) hx1 (q2.take _))) ?_;simp only [au];refine ⟨_,_,rfl,cell _ _ _ e t hu,?_⟩;refine au.append (aJ.leaves (c:=ej h st st2 a c) (show aJ _ _ tb x2 _ from Ty.fU (c:=c) hx2 ((q2.drop _).take _))) ?_;simp only [au];exact ⟨_,_,rfl,cell _ _ _ e' t' hu',aJ.leaves (c:=ej h st st2 a c) (show aJ _ _ tc x3 _ from Ty.fU (c:=c) hx3 (q2.drop _))⟩
     grind
    grind
   |arr k' e t n=>
    obtain ⟨rfl,rfl⟩:=h2;have hn:=jB hh hv (k:=_) rfl;simp only [HV.read] at h1;split at h1
    ·rename_i e2 t2 n2 l2 ho2;split at h1
     ·rename_i he;split at h1
      ·rename_i ht;subst ht;simp only [aB] at h1;subst h1;have:=R.objs k _ (by rw [R.ob];exact ho2);rw [he.1,he.2] at this;refine this.move hmv (λi hi=>by grind[Ob.refs]) hn (λ_=>rfl)
      grind
     grind
    grind
   |box k' t=>
    obtain ⟨rfl,rfl⟩:=h2;have hn:=jB hh hv (k:=_) rfl;simp only [HV.read] at h1;split at h1
    ·rename_i cl ho2;obtain ⟨cs,q1,q2⟩:=R.objs k _ (by rw [R.ob];exact ho2);refine ⟨cs,by rw [hρ k hn];exact q1,?_⟩
     grind[aJ.leaves,ej,Ty.fU]
    grind
   |rowk k' e t=>
    obtain ⟨rfl,rfl⟩:=h2;have hn:=jB hh hv (k:=_) rfl;simp only [HV.read] at h1;split at h1
    ·rename_i e2 t2 l2 ho2;split at h1
     ·rename_i he;split at h1
      ·rename_i ht;subst ht;simp only [aB] at h1;subst h1;have:=R.objs k _ (by rw [R.ob];exact ho2);rw [he] at this;refine this.move hmv (λi hi=>by grind[Ob.refs]) hn (λ_=>rfl)
      grind
     grind
    grind
   |mpk k' mt=>
    obtain ⟨rfl,rfl⟩:=h2;have hn:=jB hh hv (k:=_) rfl;simp only [HV.read] at h1;split at h1
    ·rename_i m2 l2 ho2;split at h1
     ·rename_i hm2;subst hm2;simp only [aB] at h1;subst h1;have:=R.objs k _ (by rw [R.ob];exact ho2);refine this.move hmv (λi hi=>by grind[Ob.refs]) hn (λ_=>rfl)
     grind
    grind
   |iterk k' mt=>
    obtain ⟨rfl,rfl⟩:=h2;have hn:=jB hh hv (k:=_) rfl;simp only [HV.read] at h1;split at h1
    ·rename_i m2 l2 cur2 ho2;split at h1
     ·rename_i hm2;subst hm2;simp only [aB] at h1;subst h1;obtain ⟨bo,since,seen,last,g1,g2⟩:=R.objs k _ (by rw [R.ob];exact ho2)
      have:=(show mz c k (.iter m2 l2 none) from ⟨bo,since,seen,last,g1,by
       rcases g2 with ⟨q1,q2,_⟩| ⟨b,es,q1,q2,q3,q4,q5,q6,q7⟩
       ·exact .inl ⟨q1,q2,rfl⟩
       ·exact .inr ⟨b,es,q1,q2,q3,q4,q5,q6,λx y hc=>by grind⟩⟩)
      refine this.move hmv (λi hi=>by grind[Ob.refs]) hn (λ_=>rfl)
     grind
    grind
 ·
  obtain ⟨o1,c1⟩:=hown k hk;obtain ⟨o2,c2⟩:=hown k' hk';have hsk:ni h st k=ni h st k':=R.apart _ _ o1 o2 he;rcases c1 with ⟨s1,e1⟩| ⟨v,hv,hs1',hk1⟩ <;>rcases c2 with ⟨s2,e2⟩| ⟨v',hv',hs2',hk2⟩
  ·omega
  ·grind
  ·grind
  ·have:v=v':=IP hs2 hv hv' hs1' (hsk ▸ hs2');subst this;rcases hk1 with hk1|hk1 <;>rcases hk2 with hk2|hk2
   ·grind
   ·cases v <;>simp [HV.yB,HV.kz] at hk1 hk2
   ·cases v <;>simp [HV.yB,HV.kz] at hk1 hk2
   grind
 ·
  obtain ⟨o1,_⟩:=hown k hk;exact R.mine _ o1
end
end Go.Fw
