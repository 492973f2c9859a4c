/-
  A function's own verification condition over owned data, and that it gives the contract; What a reading of the arguments tells: the data that lie in memory; A f.
-/
import Derived.Test.YtjnappfomhkeeaaGreatM2
import Derived.WideShapes
import Derived.ChangeSame
import Derived.Test.YtjnappfomhkeeaaGreatProg
import Derived.KernelRfl
import Derived.IntWalk

section
set_option linter.unusedVariables false
set_option linter.unusedSimpArgs false
namespace Go.Vc
open Go
variable {P:Program} {X:Ctx} {w0:World} {foot:gM} {base:Mem} {S T:St} {E:Env} {a:Act} {w:World} {ctx:c9}
def slotsOf:List SV->Nat->List (Nat×(c9×SV))
 |[],_=>[]
 |s::ss,i=>(i,[],s)::slotsOf ss (i+1)
def lG:Nat:=1000000
def oS0 (fn:Func) (c:fG) (x:(cW c.args).den):St:=
 let r:=cO (cW c.args) x lG
 {sl:=slotsOf (Xz c.al (S4 c.args r.1) r.2.2.1) 0,bl:=r.2.1,used:=r.2.2.1.ids,n:=fn.ntmps,oJ:=r.2.2.1.ids}
def FA:(o:eU)->o.den->o.den->List Prop
 | .pair a b,x,y=>FA a x.1 y.1++FA b x.2 y.2
 | .cells _ o,x,y=>FA o x y
 | .iH _ o,x,y=>FA o x y
 | .gone o,x,y=>FA o x y
 | .map a b,x,y=>[List.Perm (α:=a.den×b.den) x y]
 | .unit,_,_=>[]
 |_,x,y=>[x=y]
theorem pY:∀{o:eU} {x y:o.den},(∀p∈FA o x y,p)->o.DY x y
 | .pair a b,x,y,h=>by
  have h1:=pY (o:=a) (x:=x.1) (y:=y.1) fun p hp=>h p (List.mem_append_left _ hp)
  have h2:=pY (o:=b) (x:=x.2) (y:=y.2) fun p hp=>h p (List.mem_append_right _ hp)
  exact⟨h1,h2⟩
 | .cells _ o,x,y,h=>pY (o:=o) h
 | .iH _ o,x,y,h=>pY (o:=o) h
 | .gone o,x,y,h=>pY (o:=o) h
 | .unit,_,_,_=>trivial
 | .aG t,x,y,h=>h _ (List.mem_singleton.2 rfl)
 | .row e t,x,y,h=>h _ (List.mem_singleton.2 rfl)
 | .map _ _,x,y,h=>h _ (List.mem_singleton.2 rfl)
def MD:Option Nat->Option Nat->Bool
 |none,none=>true
 |some m,some n=>Nat.beq m n
 |_,_=>false
def v8:eU->Bool->IT->IT->Bool
 | .row _ _,top,.row a,.row b=> !top||MD a b
 | .row _ _,top,_,_=> !top
 | .map _ _,top,.row a,.row b=> !top||MD a b
 | .map _ _,top,_,_=> !top
 | .cells fx o,top,.cells m t,.cells m' t'=> !(fx||top)||(Nat.beq m m'&&v8 o false t t')
 | .iH _ o,_,t,t'=>v8 o false t t'
 | .pair a b,_,.pair p q,.pair p' q'=>v8 a false p p'&&v8 b false q q'
 |_,_,_,_=>true
theorem Ae:∀{t:IT} {p q:PT},nB E t p->nB E t q->p=q
 | .nil,.nil,.nil,_,_=>rfl
 | .row none,.row p,.row q,h,k=>by rw[show p=_ from h,show q=_ from k]
 | .row (some n),.row p,.row q,h,k=>by
  have h:E.place n=some p:=h
  have k:E.place n=some q:=k
  rw[h] at k
  cases k
  rfl
 | .cells n t,.cells p q,.cells p' q',h,k=>by
  have h1:=h.1
  rw[k.1] at h1
  cases h1
  rw[Ae h.2 k.2]
 | .pair a b,.pair p q,.pair p' q',h,k=>by rw[Ae h.1 k.1,Ae h.2 k.2]
theorem Pn:∀{o:eU} {top:Bool} {t t':IT} {p p':PT},v8 o top t t'=true->nB E t p->nB E t' p'->Jq o top p p':=by
 intro o
 induction o with
 |row e ty=>
  intro top t t' p p' h hp dn Px
  subst Px
  cases t with
  |row a=>
   cases t' with
   |row b=>
    have zA:a=b:=by
     simp only[v8,Bool.not_true,Bool.false_or] at h
     cases a<;>cases b<;>simp[MD] at h ⊢
     exact h
    subst zA
    exact Ae dn hp
   |nil=>cases h
   |cells _ _=>cases h
   |pair _ _=>cases h
  |nil=>cases h
  |cells _ _=>cases h
  |pair _ _=>cases h
 |map a' b'=>
  intro top t t' p p' h hp dn Px
  subst Px
  cases t with
  |row a=>
   cases t' with
   |row b=>
    have zA:a=b:=by
     simp only[v8,Bool.not_true,Bool.false_or] at h
     cases a<;>cases b<;>simp[MD] at h ⊢
     exact h
    subst zA
    exact Ae dn hp
   |nil=>cases h
   |cells _ _=>cases h
   |pair _ _=>cases h
  |nil=>cases h
  |cells _ _=>cases h
  |pair _ _=>cases h
 |cells fx o ih=>
  intro top t t' p p' h hp dn
  cases p with
  |cells q0 q=>
   cases p' with
   |cells q0' q'=>
    intro Px
    cases t with
    |cells m u=>
     cases t' with
     |cells m' u'=>
      simp only[v8,Px,Bool.not_true,Bool.false_or,Bool.and_eq_true] at h
      have hm:=Nat.eq_of_beq_eq_true h.1
      subst hm
      have h1:=hp.1
      rw[dn.1] at h1
      cases h1
      exact⟨rfl,ih h.2 hp.2 dn.2⟩
     |nil=>cases dn
     |row b=>cases b<;>cases dn
     |pair _ _=>cases dn
    |nil=>cases hp
    |row b=>cases b<;>cases hp
    |pair _ _=>cases hp
   |nil=>trivial
   |row _=>trivial
   |pair _ _=>trivial
  |nil=>trivial
  |row _=>trivial
  |pair _ _=>trivial
 |iH k o ih=>
  intro top t t' p p' h hp dn
  have:=ih h hp dn
  cases p<;>cases p'<;>exact this
 |pair a b XC XB=>
  intro top t t' p p' h hp dn
  cases p with
  |pair p q=>
   cases p' with
   |pair p' q'=>
    cases t with
    |pair u v=>
     cases t' with
     |pair u' v'=>
      simp only[v8,Bool.and_eq_true] at h
      exact⟨XC h.1 hp.1 dn.1,XB h.2 hp.2 dn.2⟩
     |nil=>cases dn
     |row b=>cases b<;>cases dn
     |cells _ _=>cases dn
    |nil=>cases hp
    |row b=>cases b<;>cases hp
    |cells _ _=>cases hp
   |nil=>trivial
   |row _=>trivial
   |cells _ _=>trivial
  |nil=>trivial
  |row _=>trivial
  |cells _ _=>trivial
 |aG t=>intro top t t' p p' _ _ _;trivial
 |unit=>intro top t t' p p' _ _ _;cases p<;>cases p'<;>trivial
 |gone o _=>intro top t t' p p' _ _ _;trivial
def GO:(os:List eU)->List C->IT->(cW os).den->RM (List Prop×ij×IT)
 |[],_,_,_=> .ret ([],[],.nil)
 |o::os,cs,it,y=>(match it with
  | .pair s t=>do
   let q <-GO os (cs.drop o.size) t y.2
   match o.kept with
   |true=>(do
    let r <-mK o (cs.take o.size)
    cS (v8 o true s r.2.2&&pb r.2.1 q.2.1)
    return (FA o r.1 y.1++q.1,r.2.1++q.2.1,.pair r.2.2 q.2.2))
   |false=> .ret (q.1,q.2.1,.pair .nil q.2.2)
  |_=> .fail)
def GC (X:Ctx):List ResultVar->RM (List SV)
 |[]=> .ret []
 |r::rs=>do
  let s <-OO X r
  let ss <-GC X rs
  return (s::ss)
def Ra (X:Ctx) (rs:List ResultVar) (c:fG) (x:(cW c.args).den):RM (List Prop):=do
 let ss <-GC X rs
 let cs <-wy c.outs ss
 let r <-mK (cW c.outs) cs
 let i:=cO (cW c.args) x lG
 let k <-GO c.args i.1 i.2.2.1 (c.fS x)
 let ids:=k.2.2.ids++r.2.2.ids
 cS (pb k.2.1 r.2.1&&(CM ids&&Ab (k.2.1++r.2.1) ids))
 return (FA (cW c.outs) r.1 (c.fn x)++k.1)
def UU (X:Ctx) (rs:List ResultVar) (c:fG) (x:(cW c.args).den):Ex->St->Prop
 | .exit _,_=>False
 |_,S=>match(Ra X rs c x).run S [] with
  |some ps=>u5 ps True
  |none=>False
@[irreducible] def bS (X:Ctx) (fn:Func) (c:fG) (A:eA) (x:(cW c.args).den):Prop:=
 match fn.body with
 |some code=>vc X A code (oS0 fn c x) (UU X fn.results.toList c x)
 |none=>False
def Rv (fn:Func) (c:fG):Bool:=Nat.ble (c.args.length+N1 c.al) fn.ntmps&&(fn.body.isSome&&((cW c.args).ok&&((cW c.outs).ok&&Nat.beq fn.results.toList.length c.outs.length)))
theorem Ma:∀{os:List eU},(cW os).ok=true->∀o∈os,o.ok=true
 |[],_,o,ho=>by cases ho
 |o'::os,h,o,ho=>by
  simp only[cW,eU.ok,Bool.and_eq_true] at h
  rcases List.mem_cons.1 ho with rfl|ho
  ·exact h.1
  ·exact Ma h.2 o ho
theorem xt:∀{ss:List SV} {vs:List Value} {i:Nat},gF E ss vs->∀n tags v,find (slotsOf ss i) n=some (tags,v)->tags=[]/\i<=n/\n<i+vs.length/\fz E v (vs.getD (n - i) undef)
 |[],vs,i,h,n,tags,v,hf=>by cases hf
 |s::ss,vs,i,h,n,tags,v,hf=>by
  obtain⟨u,us,rfl,k1,k2⟩:=h
  unfold slotsOf at hf
  by_cases e:i=n
  ·subst e
   have:some (([]:c9),s)=some (tags,v):=by simpa [find] using hf
   cases this
   exact⟨rfl,Nat.le_refl _,by simp,by simpa using k1⟩
  ·rw[ei e] at hf
   obtain⟨h1,h2,h3,h4⟩:=xt k2 n tags v hf
   refine⟨h1,by omega,by simp only[List.length_cons];omega,?_⟩
   have:n - i=(n - (i+1))+1:=by omega
   rw[this]
   simpa using h4
def placeOf (bd:List (Nat×Place)) (n:Nat):Option Place:=find bd n
theorem O1 {fn:Func} {c:fG} {x:(cW c.args).den} {F:Mem} {vs:List Value} {pl:PT} (mY:(cW c.args).ok=true) (hlen:c.args.length+N1 c.al<=fn.ntmps) (hF:∀b o,F b=some o->w.heap[b]? =some o)
  (hx:lI F w (cW c.args) x (gB vs) pl) (hs:Shape c.args vs) (RZ:mj pl.list) (EI:∀p∈pl.list,p.nil=false->F p.bp=none) (EH:ZF c.al pl):
  nB ⟨F,placeOf (cV (cO (cW c.args) x lG).2.2.1 pl)⟩ (cO (cW c.args) x lG).2.2.1 pl/\
  ek w ⟨ox pl.list,placeOf (cV (cO (cW c.args) x lG).2.2.1 pl)⟩ F (oS0 fn c x) ⟨F,placeOf (cV (cO (cW c.args) x lG).2.2.1 pl)⟩ {tmps:=(Bk c.al vs pl).toArray++Array.replicate (fn.ntmps - (Bk c.al vs pl).toArray.size) undef,defers:=[]} w:=by
 obtain⟨h1,h2,h3,h4⟩:=mq (cW c.args) x lG
 have zz:=fZ (x:=x) (n:=lG) hx
 obtain⟨Pj,Tm⟩:=nQ zz
 have nd:((cV (cO (cW c.args) x lG).2.2.1 pl).map (·.1)).Nodup:=by rw[Pj];exact h3
 have place:∀i p,(i,p)∈cV (cO (cW c.args) x lG).2.2.1 pl->placeOf (cV (cO (cW c.args) x lG).2.2.1 pl) i=some p:=fun i p hm=>vK nd hm
 have mZ:nB ⟨F,placeOf (cV (cO (cW c.args) x lG).2.2.1 pl)⟩ (cO (cW c.args) x lG).2.2.1 pl:=r8 zz place
 obtain⟨mF,pI⟩:=gK (E:=⟨F,placeOf (cV (cO (cW c.args) x lG).2.2.1 pl)⟩) (n:=lG) rfl mY hx mZ
 have XN:=Ak mF hs
 have abD:=hs.length
 have zu:gF ⟨F,placeOf (cV (cO (cW c.args) x lG).2.2.1 pl)⟩ (Xz c.al (S4 c.args (cO (cW c.args) x lG).1) (cO (cW c.args) x lG).2.2.1) (Bk c.al vs pl):=by
  cases hc:c.al with
  |none=>exact XN
  |some a=>
   obtain⟨pos,path⟩:=a
   rw[hc] at EH
   obtain⟨p,hp,qv⟩:=EH
   obtain⟨n,hn⟩:=xx zz hp
   obtain⟨p',k1,k2⟩:=yQ mZ hn
   rw[hp] at k1
   cases k1
   unfold Xz Bk
   simp only[hp,hn]
   exact XN.ins ⟨p,k2,qv,rfl⟩
 have Nd:(Bk c.al vs pl).length=c.args.length+N1 c.al:=by
  cases hc:c.al with
  |none=>exact abD
  |some a=>
   obtain⟨pos,path⟩:=a
   rw[hc] at EH
   obtain⟨p,hp,qv⟩:=EH
   unfold Bk N1
   simp only[hp]
   rw[Bl,abD]
 clear XN
 have bnd:∀i p,placeOf (cV (cO (cW c.args) x lG).2.2.1 pl) i=some p->(i,p)∈cV (cO (cW c.args) x lG).2.2.1 pl:=fun i p h=>AD h
 have inL:∀i p,placeOf (cV (cO (cW c.args) x lG).2.2.1 pl) i=some p->p∈pl.list/\i∈(cO (cW c.args) x lG).2.2.1.ids:=fun i p h=>by
  have hm:=bnd i p h
  exact⟨by rw[<-Tm];exact List.mem_map_of_mem (f:=(·.2)) hm,by rw[<-Pj];exact List.mem_map_of_mem (f:=(·.1)) hm⟩
 refine⟨mZ,{keep:= .refl _ _,m7:=hF,src:=fun b o hb=> .inl hb,cn:=fun i B hf=> ?_,own:=fun i B p hf hp hn=> ?_,inj:=fun i j B D p q hf eh hp hq hn dB k6=> ?_,used:=fun i p hp=>(inL i p hp).2,ib:=fun n tags v hf ht=> ?_,size:= ?_,defers:=rfl,pins:=fun n p hp=>⟨(inL n p hp).2,hp⟩,dY:=fun n tags v hf ht=> ?_}⟩
 ·obtain⟨p,e1,e2,_⟩:=pI i B (AD hf)
  exact⟨p,e1,e2⟩
 ·obtain⟨hm,_⟩:=inL i p hp
  exact⟨.inr ⟨p,hm,hn,rfl⟩,fun _=>EI p hm hn⟩
 ·refine mj.apart (l:=cV (cO (cW c.args) x lG).2.2.1 pl) (by rw[Tm];exact RZ) (bnd i p hp) (bnd j q hq) k6 hn dB
 ·obtain⟨g1,g2,g3,g4⟩:=xt zu n tags v hf
  rw[Nat.sub_zero] at g4
  generalize Bk c.al vs pl=ws at *
  have hn:n<ws.length:=by omega
  have:(ws.toArray++Array.replicate (fn.ntmps - ws.toArray.size) undef).getD n undef=ws.getD n undef:=by
   rw[Array.getD_eq_getD_getElem?,Array.getElem?_append_left (by simpa using hn)]
   simp[List.getD_eq_getElem?_getD]
  show fz _ v ((ws.toArray++Array.replicate (fn.ntmps - ws.toArray.size) undef).getD n undef)
  rw[this]
  exact g4
 ·generalize Bk c.al vs pl=ws at *
  show(ws.toArray++Array.replicate (fn.ntmps - ws.toArray.size) undef).size=fn.ntmps
  simp
  omega
 ·obtain⟨g1,_⟩:=xt zu n tags v hf
  subst g1
  exact absurd (fun t ht=>by cases ht) ht
theorem Fu (hT:dx P X.aA) (h:ek w0 foot base S E a w):∀{rs:List ResultVar} {ss:List SV},(GC X rs).run S []=some ss->∃vs,(rs.mapM (rd a.tmps)).run P w= .ok vs w/\gF E ss vs
 |[],ss,hr=>by cases hr;exact⟨[],rfl,rfl⟩
 |r::rs,ss,hr=>by
  unfold GC at hr
  obtain⟨s,h1,hr⟩:=RM.run_bind' hr
  obtain⟨Z0,h2,hr⟩:=RM.run_bind' hr
  cases RM.run_pure' hr
  obtain⟨v,g1,g2⟩:=yV hT h h1
  obtain⟨vs,k1,k2⟩:=Fu hT h h2
  exact⟨v::vs,by simp[List.mapM_cons,g1,k1],v,vs,rfl,g2,k2⟩
theorem vh.of:∀{os:List eU} {cs:List C} {it0:IT} {y:(cW os).den} {ps:List Prop} {fr:ij} {it:IT} {vs:List Value} {pl:PT},
  (GO os cs it0 y).run S ctx=some (ps,fr,it)->
  (kV S.bl fr/\(∀n∈it.ids,∃B,find S.bl n=some B/\B.mut=true))/\
  ((∀p∈ps,p)->b7 E cs vs->nB E it0 pl->ft S.bl E w fr->(∀n∈it.ids,∀B,find S.bl n=some B->∃p,E.place n=some p/\gg E w p B)->∃gP,nB E it gP/\vh E.F w os y vs pl gP)
 |[],cs,it0,y,ps,fr,it,vs,pl,hr=>by
  cases hr
  exact⟨⟨.nil,fun n hn=>(by cases hn)⟩,fun _ _ _ _ _=>⟨.nil,trivial,rfl⟩⟩
 |o::os,cs,it0,y,ps,fr,it,vs,pl,hr=>by
  unfold GO at hr
  split at hr
  ·rename_i s t
   obtain⟨⟨qs,g,u⟩,h1,hr⟩:=RM.run_bind' hr
   obtain⟨⟨k1,k2⟩,k3⟩:=vh.of (vs:=vs.drop o.size) (pl:=match pl with | .pair _ q=>q|_=> .nil) h1
   split at hr
   ·rename_i hk
    obtain⟨⟨z,f,v⟩,h2,hr⟩:=RM.run_bind' hr
    obtain⟨_,h3,hr⟩:=RM.run_bind' hr
    cases RM.run_pure' hr
    have hg:=bR h3
    simp only[Bool.and_eq_true] at hg
    obtain⟨c1,c2,c3⟩:=lY h2
    refine⟨⟨c1.append k1 hg.2,fun n hn=> ?_⟩,fun hp mF mZ hf hb=> ?_⟩
    ·simp only[IT.ids,List.mem_append] at hn
     rcases hn with hn|hn
     ·exact c2 n hn
     ·exact k2 n hn
    ·cases pl with
     |pair p q=>
      obtain⟨q',m1,m2⟩:=k3 (fun p dn=>hp p (List.mem_append_right _ dn)) (mF.drop _) mZ.2 hf.right fun n hn=>hb n (by simp[IT.ids,hn])
      obtain⟨p',n1,n2⟩:=c3 E w _ (mF.take o.size) hf.left fun n hn=>hb n (by simp[IT.ids,hn])
      have hz:o.DY z y.1:=pY fun p dn=>hp p (List.mem_append_left _ dn)
      refine⟨.pair p' q',⟨n1,m1⟩,p,q,p',q',rfl,rfl,m2,?_⟩
      rw[hk]
      exact⟨n2.HW hz,Pn hg.1 mZ.1 n1⟩
     |nil=>cases mZ
     |row _=>cases mZ
     |cells _ _=>cases mZ
   ·rename_i hk
    cases hr
    refine⟨⟨k1,fun n hn=> ?_⟩,fun hp mF mZ hf hb=> ?_⟩
    ·simp only[IT.ids,List.nil_append] at hn
     exact k2 n hn
    ·cases pl with
     |pair p q=>
      obtain⟨q',m1,m2⟩:=k3 hp (mF.drop _) mZ.2 hf fun n hn=>hb n (by simp[IT.ids,hn])
      refine⟨.pair .nil q',⟨trivial,m1⟩,p,q,.nil,q',rfl,rfl,m2,?_⟩
      rw[hk]
     |nil=>cases mZ
     |row _=>cases mZ
     |cells _ _=>cases mZ
  ·cases hr
theorem fq.of (hT:dx P X.aA) (hK:∀f dD,X.dD f=some dD->mB P f dD) {f:Nat} {fn:Func} {c:fG} {A:(cW c.args).den->eA} (hf:P.funcs[f]? =some fn) (hn:(fn.name=="runtime.NumGoroutine")=false)
  (ho:Rv fn c=true) (hv:∀x,(cW c.args).wf x->c.pre x->bS X fn c (A x) x):fq P f c:=by
 simp only[Rv,Bool.and_eq_true] at ho
 obtain⟨hlen,B0,XU,ais,Tr⟩:=ho
 have hlen:=Nat.le_of_ble_eq_true hlen
 have Tr:=Nat.eq_of_beq_eq_true Tr
 refine⟨?_,Ma XU,ais,fun F w x vs pl hF hx hs RZ EI pj EH=> ?_⟩
 ·obtain⟨code,hb⟩:=Option.isSome_iff_exists.1 B0
  exact⟨fn,code,hf,hn,hb⟩
 ·have h:=hv x hx.wf pj
  unfold bS at h
  cases hb:fn.body with
  |none=>rw[hb] at h;cases h
  |some code=>
   rw[hb] at h
   obtain⟨ai4,ai1⟩:=O1 (fn:=fn) XU hlen hF hx hs RZ EI EH
   refine calls_of_wp hf hb ?_
   refine wp_mono (oV hT hK h ai1) fun e a w' hp=> ?_
   have done:∀S E,(match(Ra X fn.results.toList c x).run S [] with |some ps=>u5 ps True|none=>False)->ek w ⟨ox pl.list,placeOf (cV (cO (cW c.args) x lG).2.2.1 pl)⟩ F S E a w'->a.defers=[]/\∃v,(results fn a.tmps).run P w'= .ok v w'/\
     ∃v' F' Bv gP qs,Ending.returned v= .returned v'/\F.le F'/\(∀b o,F' b=some o->w'.heap[b]? =some o)/\(∀b o,F' b=some o->F b=some o\/w.heap.size<=b\/ox pl.list b)/\
     sQ (ox pl.list) w w'/\Qw c.outs v' Bv/\Shape c.outs Bv/\lI F' w' (cW c.outs) (c.fn x) (gB Bv) qs/\vh F' w' c.args (c.fS x) (gB vs) pl gP/\
     mj (gP.list++qs.list)/\∀p∈gP.list++qs.list,p.nil=false->(ox pl.list p.bp\/w.heap.size<=p.bp)/\F' p.bp=none:=fun S E hq hR=>by
    split at hq
    ·rename_i ps AX
     have hq:=(iW hq).1
     unfold Ra at AX
     obtain⟨ss,h1,AX⟩:=RM.run_bind' AX
     obtain⟨cs,h2,AX⟩:=RM.run_bind' AX
     obtain⟨⟨y,fr,it⟩,h3,AX⟩:=RM.run_bind' AX
     obtain⟨⟨ks,fk,ik⟩,h4,AX⟩:=RM.run_bind' AX
     obtain⟨_,h5,AX⟩:=RM.run_bind' AX
     cases RM.run_pure' AX
     have hg:=bR h5
     simp only[Bool.and_eq_true] at hg
     obtain⟨PO,hnd,o9⟩:=hg
     have hnd:=xD hnd
     have o9:=wm o9
     obtain⟨Bv,r1,r2⟩:=Fu hT hR h1
     obtain⟨d1,d2,d3⟩:=lY h3
     obtain⟨⟨e1,e2⟩,_⟩:=vh.of (E:=E) (w:=w') (vs:=[]) (pl:= .nil) h4
     have Ii:=e1.append d1 PO
     obtain⟨E1,l1,q1,f1,zB⟩:=hR.toHRel.cE Ii
     have hfz:=ft.qi Ii zB
     have X6:∀n∈(IT.pair ik it).ids,∃B,find S.bl n=some B/\B.mut=true:=fun n hn=>by
      simp only[IT.ids,List.mem_append] at hn
      rcases hn with hn|hn
      ·exact e2 n hn
      ·exact d2 n hn
     have uV:∀n∈(IT.pair ik it).ids,find (cE (fk++fr) S.bl) n=find S.bl n:=fun n hn=>iv (o9 n hn)
     have hFw:∀b o,F b=some o->w'.heap[b]? =some o:=fun b o hb=>by
      rw[zB.keep.block b (dR (hF b o hb)) fun h=> ?_]
      ·exact hF b o hb
      ·obtain⟨p,hp,qv,hpb⟩:=h
       rw[<-hpb,EI p hp qv] at hb
       cases hb
     have j1:F.le (fc F E1.F):=fun b o hb=>by unfold fc;rw[hb]
     have j2:E1.F.le (fc F E1.F):=fun b o hb=>by
      unfold fc
      split
      ·rename_i o' rQ
       rw[<-hFw b o' rQ,zB.m7 b o hb]
      ·exact hb
     have j3:∀b o,fc F E1.F b=some o->w'.heap[b]? =some o:=fun b o hb=>by
      unfold fc at hb
      split at hb
      ·rename_i o' rQ;cases hb;exact hFw b _ rQ
      ·exact zB.m7 b o hb
     have j4:∀b o,fc F E1.F b=some o->F b=some o\/w.heap.size<=b\/ox pl.list b:=fun b o hb=>by
      unfold fc at hb
      split at hb
      ·rename_i o' rQ;cases hb;exact .inl rQ
      ·exact zB.src b o hb
     have lJ:E1.le ⟨fc F E1.F,E1.place⟩:=⟨j2,fun _ _ h=>h⟩
     have oN:∀n∈(IT.pair ik it).ids,∀B,find S.bl n=some B->∃p,E1.place n=some p/\gg ⟨fc F E1.F,E1.place⟩ w' p B:=fun n hn B hB=>by
      obtain⟨p,g1,g2⟩:=zB.cn n B (by rw[uV n hn];exact hB)
      exact⟨p,g1,g2.mono lJ⟩
     have abL:ft S.bl ⟨fc F E1.F,E1.place⟩ w' (fk++fr):=fun q hq=>by
      obtain⟨p,g1,g2⟩:=hfz q hq
      exact⟨p,g1,g2.mono lJ⟩
     have nd0:((cV (cO (cW c.args) x lG).2.2.1 pl).map (·.1)).Nodup:=by
      rw[(nQ (fZ hx)).1]
      exact(mq (cW c.args) x lG).2.2.1
     have XR:nB ⟨fc F E1.F,E1.place⟩ (cO (cW c.args) x lG).2.2.1 pl:=by
      refine r8 (fZ hx) fun i p hm=> ?_
      show E1.place i=some p
      rw[q1]
      exact(hR.pins i p (vK nd0 hm)).2
     have aiX:b7 ⟨fc F E1.F,E1.place⟩ (cO (cW c.args) x lG).1 (gB vs):=by
      have:=(gK (E:=⟨F,placeOf (cV (cO (cW c.args) x lG).2.2.1 pl)⟩) (n:=lG) rfl XU hx ai4).1
      exact this.mono ⟨j1,fun i p hp=>by show E1.place i=some p;rw[q1];exact(hR.pins i p hp).2⟩
     obtain⟨aiW,abF⟩:=xm h2 r2
     obtain⟨qs,m1,m2⟩:=d3 ⟨fc F E1.F,E1.place⟩ w' (gB Bv) (aiW.mono ((show E.le E1 from l1).trans lJ)) abL.right fun n hn=>oN n (by simp[IT.ids,hn])
     have hy:(cW c.outs).DY y (c.fn x):=pY fun p hp=>hq p (List.mem_append_left _ hp)
     obtain⟨_,e3⟩:=vh.of (E:=⟨fc F E1.F,E1.place⟩) (w:=w') (vs:=gB vs) (pl:=pl) h4
     obtain⟨gP,n1,n2⟩:=e3 (fun p hp=>hq p (List.mem_append_right _ hp)) aiX XR abL.left fun n hn=>oN n (by simp[IT.ids,hn])
     have PN:nB ⟨fc F E1.F,E1.place⟩ (.pair ik it) (.pair gP qs):=⟨n1,m1⟩
     obtain⟨g1,g2⟩:=sR PN hnd fun i hi j hj k6 p r hp hr qv XP=>by
      obtain⟨B,hB,_⟩:=X6 i hi
      obtain⟨D,hD,_⟩:=X6 j hj
      exact zB.inj i j B D p r (by rw[uV i hi];exact hB) (by rw[uV j hj];exact hD) hp hr qv XP k6
     refine⟨hR.defers,_,xA r1,_,fc F E1.F,Bv,gP,qs,rfl,j1,j3,j4,zB.keep,?_,abF,m2.HW hy,n2,g1,fun p hp qv=> ?_⟩
     ·unfold Qw
      have hl:=abF.length
      split
      ·rename_i o heq
       rw[heq] at hl
       obtain⟨v,hv⟩:=List.length_eq_one_iff.1 hl
       subst hv
       rfl
      ·rename_i kz
       rw[dif_neg]
       intro nY
       rw[nY] at hl
       obtain⟨o,ho⟩:=List.length_eq_one_iff.1 hl.symm
       exact kz o ho
     ·rcases g2 p hp with h|⟨i,hi,h⟩
      ·rw[h] at qv;cases qv
      ·obtain⟨B,hB,hm⟩:=X6 i hi
       have ho:=zB.own i B p (by rw[uV i hi];exact hB) h qv
       refine⟨ho.1.symm,?_⟩
       unfold fc
       split
       ·rename_i o' rQ
        rcases ho.1 with nY|⟨p',dn,KI,hpb⟩
        ·have:=dR (hF _ _ rQ);omega
        ·rw[<-hpb,EI p' dn KI] at rQ;cases rQ
       ·exact ho.2 hm
    ·cases hq
   cases e with
   |normal=>obtain⟨S,E,hq,hR⟩:=hp;exact done S E hq hR
   |ret=>obtain⟨S,E,hq,hR⟩:=hp;exact done S E hq hR
   |exit id=>obtain⟨S,E,hq,hR⟩:=hp;cases hq
   |goto l=>cases hp
   |panic ch=>cases hp
   |outgrown=>cases hp
structure AC where
 dD:SX
 ok:Program->Nat->Prop
 sound:∀P f,ok P f->mB P f dD
instance:Coe bg AC:=⟨fun c=>⟨c.dD,fun P f=>aN P f c,fun P f h=>h.dD⟩⟩
instance:Coe fG AC:=⟨fun c=>⟨c.dD,fun P f=>fq P f c,fun P f h=>h.dD⟩⟩
def NN:List SV->Nat
 |[]=>0
 | .one (.aG (.lN k _) _)::_=>k+1
 |_::l=>NN l
def keyed:List (Nat×AC)->Nat->Bool
 |[],_=>false
 |(m,_)::l,n=>match Nat.beq (m % 10000) n with
  |true=>true
  |false=>keyed l n
def Sw (l:List (Nat×AC)) (f:Nat):Option SX:=
 match keyed l f with
 |true=>some {run:=fun vs d=>match find l (f+10000*NN vs) with
  |some c=>c.dD.run vs d
  |none=> .fail}
 |false=>none
def aj (aA:List TI) (l:List (Nat×AC)) (wraps:List Nat:=[]) (clos:List (Nat×Ty):=[]) (mclos:List Nat:=[]):Ctx:={aA:=aA,dD:=Sw l,wraps:=wraps,clos:=clos,mclos:=mclos}
def A3 (P:Program):List (Nat×AC)->Prop
 |[]=>True
 |(f,c)::l=>c.ok P (f % 10000)/\A3 P l
theorem A3.find:∀{l:List (Nat×AC)},A3 P l->∀{k c},Vc.find l k=some c->c.ok P (k % 10000)
 |[],_,k,c,h=>by cases h
 |(m,c')::l,hl,k,c,h=>by
  unfold Vc.find at h
  split at h
  ·rename_i hb
   have:=Nat.eq_of_beq_eq_true hb
   subst this
   cases h
   exact hl.1
  ·exact A3.find hl.2 h
theorem A3.keyed:∀{l:List (Nat×AC)},A3 P l->∀{f},Vc.keyed l f=true->∃c:AC,c.ok P f
 |[],_,f,h=>by cases h
 |(m,c')::l,hl,f,h=>by
  unfold Vc.keyed at h
  split at h
  ·rename_i hb
   have:=Nat.eq_of_beq_eq_true hb
   exact⟨c',this▸hl.1⟩
  ·exact A3.keyed hl.2 h
theorem A3.small:∀{l:List (Nat×AC)} {f:Nat},Vc.keyed l f=true->f<10000
 |[],f,h=>by cases h
 |(m,c')::l,f,h=>by
  unfold Vc.keyed at h
  split at h
  ·rename_i hb
   have:=Nat.eq_of_beq_eq_true hb
   omega
  ·exact A3.small h
theorem A3.dD {l:List (Nat×AC)} (hl:A3 P l) (f:Nat) (dD:SX) (h:Sw l f=some dD):mB P f dD:=by
 unfold Sw at h
 split at h
 ·rename_i hk
  cases h
  obtain⟨c0,hc0⟩:=hl.keyed hk
  have hf:=A3.small hk
  refine⟨(c0.sound P f hc0).fn,fun w0 foot base S ctx E w args vs d r hR hv hr cr hn=> ?_⟩
  simp only at hr
  split at hr
  ·rename_i c hc
   have:=hl.find hc
   rw[show(f+10000*NN args) % 10000=f by omega] at this
   exact(c.sound P f this).calls w0 foot base S ctx E w args vs d r hR hv hr cr hn
  ·cases hr
 ·cases h
theorem aN.b3 {aA:List TI} {l:List (Nat×AC)} {wraps:List Nat} {clos:List (Nat×Ty)} {mclos:List Nat} (hT:dx P aA) (hK:A3 P l) {f:Nat} {fn:Func} {c:bg} {A:kC c.args->eA} (hf:P.funcs[f]? =some fn) (hn:(fn.name=="runtime.NumGoroutine")=false)
  (ho:TC fn c=true) (hv:∀x,QM c.args x->c.pre x->ah (aj aA l wraps clos mclos) fn c (A x) x):aN P f c:=
 aN.of (X:=aj aA l wraps clos mclos) (A:=A) hT (A3.dD hK) hf hn ⟨ho,hv⟩
theorem fq.b3 {aA:List TI} {l:List (Nat×AC)} {wraps:List Nat} {clos:List (Nat×Ty)} {mclos:List Nat} (hT:dx P aA) (hK:A3 P l) {f:Nat} {fn:Func} {c:fG} {A:(cW c.args).den->eA} (hf:P.funcs[f]? =some fn) (hn:(fn.name=="runtime.NumGoroutine")=false)
  (ho:Rv fn c=true) (hv:∀x,(cW c.args).wf x->c.pre x->bS (aj aA l wraps clos mclos) fn c (A x) x):fq P f c:=
 fq.of (X:=aj aA l wraps clos mclos) (A:=A) hT (A3.dD hK) hf hn ho hv
def ar:eA:={loop:=fun _=>none,split:=fun _=>false}
def aby:List (Nat×(St->LA))->Nat->Option (St->LA)
 |[],_=>none
 |(m,a)::l,n=>match Nat.beq m n with
  |true=>some a
  |false=>aby l n
def bh (l:List (Nat×(St->LA))) (split:List Nat:=[]):eA:={loop:=aby l,split:=has split}
theorem aN.asData {f:Nat} {args:List Ty} {e:Nat} {t:Ty} {pre:kC args->Prop} {fn:kC args->kC [.list t]} (h:aN P f {args:=args,out:= .row e t,pre:=pre,fn:=fn}):
  aN P f {args:=args,out:= .data [.list t],pre:=pre,fn:=fn} where
 fn:=h.fn
 calls F w x vs hF hx pj:=by
  refine(h.calls F w x vs hF hx pj).mono fun en w' hp=> ?_
  obtain⟨v,F',h1,h2,h3,h4,h5,p,h6,h7,h8⟩:=hp
  have h7:gg ⟨F',fun _=>none⟩ w' p (.row false e t (fn x).1):=h7
  rcases h7 with ⟨hn,XI,hl⟩|⟨hn,h0,⟨g1,g2⟩,us,g3,g4,g5,g6⟩
  ·refine⟨v,F',h1,h2,h3,h4,h5,?_⟩
   rcases h8 with ⟨_,hv,_⟩|⟨dB,_⟩
   ·have hr:dj F' (.list t) (fn x).1 [v]:=by
     rw[hv,XI]
     exact⟨none,0,rfl,Nat.le_refl _,by simp[aM],fun _=>rfl,fun p hp=>by cases hp⟩
    exact hr
   ·rw[hn] at dB;cases dB
  ·obtain⟨k1,k2⟩:=h6 hn
   have hle:F'.le (fun b=>if b=p.bp then some (.cells us e (0,0)) else F' b):=fun b o hb=>by
    simp only
    split
    ·rename_i ju;subst ju;rw[k2] at hb;cases hb
    ·exact hb
   refine⟨v,fun b=>if b=p.bp then some (.cells us e (0,0)) else F' b,h1,h2.trans hle,fun b o hb=> ?_,fun b o hb=> ?_,h5,?_⟩
   ·simp only at hb
    split at hb
    ·rename_i ju;subst ju;cases hb;exact g3
    ·exact h3 b o hb
   ·simp only at hb
    split at hb
    ·rename_i ju;subst ju;exact .inr k1
    ·exact h4 b o hb
   ·have hB:gg ⟨fun b=>if b=p.bp then some (.cells us e (0,0)) else F' b,fun _=>none⟩ w' p (.row true e t (fn x).1):= .inr ⟨hn,h0,⟨g1,g2⟩,us,g3,g4,fun _=>by simp,fun i y hy=>by
     obtain⟨ws,m1,m2⟩:=g6 i y hy
     exact⟨ws,m1.mono hle,m2⟩⟩
    have:=Hq (lo:=0) (len:=(fn x).1.length) hB (by omega) (v:=v) (by
     rcases h8 with ⟨dB,_⟩|⟨_,hv,_⟩
     ·rw[hn] at dB;cases dB
     ·exact .inr ⟨hn,_,by rw[hv,g1];rfl,.inr (by simp)⟩)
    rw[Kw] at this
    exact this
end Go.Vc
end

section
set_option linter.unusedVariables false
set_option linter.unusedSimpArgs false
namespace Go.Vc
open Go Go.WideShapes
variable {P:Program} {w:World}
def oi (P:Program):Ty->(Nat->Bool)×(List Field->Nat->Bool)
 | .int k=>(fun t=>match P.underlying t with
  |some (.int j)=>pF j k
  |_=>false,fun _ _=>false)
 | .bool=>(fun t=>match P.underlying t with
  |some .bool=>true
  |_=>false,fun _ _=>false)
 | .str=>(fun t=>match P.underlying t with
  |some .string=>true
  |_=>false,fun _ _=>false)
 | .list a=>(fun t=>match P.underlying t with
  |some (.slice e)=>(oi P a).1 e&&(Nat.beq (P.cellsOf e) a.size&&Nat.blt 0 a.size)
  |_=>false,fun _ _=>false)
 | .unit=>(fun _=>false,fun fs _=>fs.isEmpty)
 | .ref _| .ptr _| .lN _ _| .map _ _=>(fun _=>false,fun _ _=>false)
 | .pair a b=>
  let PZ:List Field->Nat->Bool:=fun fs off=>match fs with
   |[]=>false
   |[f]=>Nat.beq f.offset off&&(Nat.beq (P.cellsOf f.type) a.size&&((oi P a).1 f.type&&(oi P b).2 [] (off+a.size)))
   |[f,g]=>Nat.beq f.offset off&&(Nat.beq (P.cellsOf f.type) a.size&&((oi P a).1 f.type&&(Nat.beq g.offset (off+a.size)&&(Nat.beq (P.cellsOf g.type) b.size&&(oi P b).1 g.type))))
   |f::fs=>Nat.beq f.offset off&&(Nat.beq (P.cellsOf f.type) a.size&&((oi P a).1 f.type&&(oi P b).2 fs (off+a.size)))
  (fun t=>match P.underlying t with
   |some (.struct fs)=>Nat.beq (P.cellsOf t) (a.size+b.size)&&PZ fs.toList 0
   |_=>false,PZ)
def sW (w:World):Mem:=fun b=>w.heap[b]?
theorem KX {a:Addr} {u:Value} (h:w.cell? a=some u):a.spot=none/\(sW w).cell a.block a.off u:=by
 unfold World.cell? at h
 split at h
 ·rename_i c e m hb
  split at h
  ·cases h
  ·rename_i hs
   exact⟨by simpa using hs,c,e,m,hb,h⟩
 ·cases h
theorem mapM_some {α β:Type} {f:α->Option β}:∀{l:List α} {r:List β},l.mapM f=some r->r.length=l.length/\∀(i:Nat) (x:α),l[i]? =some x->∃y,r[i]? =some y/\f x=some y
 |[],r,h=>by
  simp at h
  subst h
  exact⟨rfl,fun i x hx=>by simp at hx⟩
 |a::l,r,h=>by
  rw[List.mapM_cons] at h
  cases hf:f a with
  |none=>rw[hf] at h;cases h
  |some b=>
   rw[hf] at h
   cases hm:l.mapM f with
   |none=>simp[hm] at h
   |some bs=>
    simp[hm] at h
    subst h
    obtain⟨h1,h2⟩:=mapM_some hm
    refine⟨by simp[h1],fun i x hx=> ?_⟩
    cases i with
    |zero=>simp at hx;subst hx;exact⟨b,rfl,hf⟩
    |succ i=>exact h2 i x (by simpa using hx)
theorem F8 {a:Addr} {n:Nat} {us:List Value} (h:w.cells? 0 a n=some us):us.length=n/\∀(j:Nat) (u:Value),us[j]? =some u->w.cell? (a.add j)=some u:=by
 unfold World.cells? at h
 rw[if_pos (Nat.zero_le _)] at h
 obtain⟨h1,h2⟩:=mapM_some h
 refine⟨by simpa using h1,fun j u hu=> ?_⟩
 have hj:j<n:=by
  have:=(List.getElem?_eq_some_iff.1 hu).1
  rw[h1] at this
  simpa using this
 obtain⟨y,k1,k2⟩:=h2 j j (by simp[hj])
 rw[hu] at k1
 cases k1
 exact k2
theorem Pe {α:Type} {Q:Nat->α->Prop}:∀(n:Nat),(∀i,i<n->∃x,Q i x)->∃xs:List α,xs.length=n/\∀(i:Nat) (x:α),xs[i]? =some x->Q i x
 |0,_=>⟨[],rfl,fun i x h=>by simp at h⟩
 |n+1,h=>by
  obtain⟨xs,h1,h2⟩:=Pe n fun i hi=>h i (by omega)
  obtain⟨x,hx⟩:=h n (Nat.lt_succ_self n)
  refine⟨xs++[x],by simp[h1],fun i y hy=> ?_⟩
  by_cases hi:i<n
  ·rw[List.getElem?_append_left (by omega)] at hy
   exact h2 i y hy
  ·rw[List.getElem?_append_right (by omega)] at hy
   have:i - xs.length=0:=by
    have:=(List.getElem?_eq_some_iff.1 hy).1
    simp at this
    omega
   rw[this] at hy
   simp at hy
   subst hy
   have:i=n:=by omega
   rw[this]
   exact hx
section
variable {H:Type} {enc:TypeId×Value->H} {sp:Nat->Bool} {held:Bool} {t fuel:Nat} {cs:List Value} {d:DataW H} {ps:List MemPlace}
theorem trod_int {k:IntKind} (hu:P.underlying t=some (.int k)) (h:DataW.trod enc P w 0 sp held fuel t cs=some (d,ps)):∃n:Int,cs=[.int k n]/\bo k n:=by
 cases fuel with
 |zero=>cases h
 |succ fuel=>
  rcases cs with _|⟨v,_|⟨v2,cs⟩⟩
  ·simp[DataW.trod,hu] at h
  ·cases v<;>simp[DataW.trod,hu] at h
   obtain⟨⟨rfl,h1⟩,_⟩:=h
   simp only[Lit.wf,Bool.and_eq_true,decide_eq_true_eq] at h1
   exact⟨_,rfl,h1⟩
  ·simp[DataW.trod,hu] at h
theorem trod_bool (hu:P.underlying t=some .bool) (h:DataW.trod enc P w 0 sp held fuel t cs=some (d,ps)):∃b:Bool,cs=[.bool b]:=by
 cases fuel with
 |zero=>cases h
 |succ fuel=>
  rcases cs with _|⟨v,_|⟨v2,cs⟩⟩
  ·simp[DataW.trod,hu] at h
  ·cases v<;>simp[DataW.trod,hu] at h
   exact⟨_,rfl⟩
  ·simp[DataW.trod,hu] at h
theorem Uw (hu:P.underlying t=some .string) (h:DataW.trod enc P w 0 sp held fuel t cs=some (d,ps)):∃s:ByteArray,cs=[.string s]/\s.size<=maxLen:=by
 cases fuel with
 |zero=>cases h
 |succ fuel=>
  rcases cs with _|⟨v,_|⟨v2,cs⟩⟩
  ·simp[DataW.trod,hu] at h
  ·cases v<;>simp[DataW.trod,hu] at h
   exact⟨_,rfl,h.1⟩
  ·simp[DataW.trod,hu] at h
theorem trod_slice {e:Nat} (hu:P.underlying t=some (.slice e)) (h:DataW.trod enc P w 0 sp held (fuel+1) t cs=some (d,ps)):
  cs=[.slice none 0 0]\/∃a len cap,cs=[.slice (some a) len cap]/\len<=cap/\cap<=maxLen/\
   ∀i,i<len->∃us d' ps',w.cells? 0 (a.add (i*P.cellsOf e)) (P.cellsOf e)=some us/\DataW.trod enc P w 0 sp held fuel e us=some (d',ps'):=by
 rcases cs with _|⟨v,_|⟨v2,cs⟩⟩
 ·simp[DataW.trod,hu] at h
 ·cases v with
  |slice a len cap=>
   cases a with
   |none=>
    unfold DataW.trod at h
    simp only[hu] at h
    split at h<;>simp_all
   |some a=>
    unfold DataW.trod at h
    simp only[hu] at h
    split at h
    ·rename_i hc
     refine .inr ⟨a,len,cap,rfl,hc.2.1,hc.2.2,fun i hi=> ?_⟩
     rw[Option.bind_eq_some_iff] at h
     obtain⟨elems,h1,_⟩:=h
     obtain⟨_,h2⟩:=mapM_some h1
     obtain⟨y,_,h3⟩:=h2 i i (by simp[hi])
     rw[Option.bind_eq_some_iff] at h3
     obtain⟨us,h4,h5⟩:=h3
     exact⟨us,y.1,y.2,h4,h5⟩
    ·cases h
  |_=>simp[DataW.trod,hu] at h
 ·simp[DataW.trod,hu] at h
theorem trod_struct {fs:Array Field} (hu:P.underlying t=some (.struct fs)) (h:DataW.trod enc P w 0 sp held (fuel+1) t cs=some (d,ps)):
  cs.length=P.cellsOf t/\∃xs,fs.toList.mapM (fun f=>DataW.trod enc P w 0 sp held fuel f.type ((cs.drop f.offset).take (P.cellsOf f.type)))=some xs:=by
 unfold DataW.trod at h
 simp only[hu] at h
 split at h
 ·rename_i hc
  refine⟨hc,?_⟩
  rw[Option.map_eq_some_iff] at h
  obtain⟨xs,h1,_⟩:=h
  exact⟨xs,h1⟩
 ·cases h
end
theorem qY {f:Field} {fs:List Field} {fuel:Nat} {cs:List Value} {H:Type} {enc:TypeId×Value->H} {sp:Nat->Bool} {held:Bool} {xs:List (DataW H×List MemPlace)}
  (h:(f::fs).mapM (fun f=>DataW.trod enc P w 0 sp held fuel f.type ((cs.drop f.offset).take (P.cellsOf f.type)))=some xs):
  (∃y,DataW.trod enc P w 0 sp held fuel f.type ((cs.drop f.offset).take (P.cellsOf f.type))=some y)/\∃ys,fs.mapM (fun f=>DataW.trod enc P w 0 sp held fuel f.type ((cs.drop f.offset).take (P.cellsOf f.type)))=some ys:=by
 rw[List.mapM_cons] at h
 cases hf:DataW.trod enc P w 0 sp held fuel f.type ((cs.drop f.offset).take (P.cellsOf f.type)) with
 |none=>rw[hf] at h;cases h
 |some b=>
  rw[hf] at h
  refine⟨⟨b,rfl⟩,?_⟩
  cases hm:fs.mapM (fun f=>DataW.trod enc P w 0 sp held fuel f.type ((cs.drop f.offset).take (P.cellsOf f.type))) with
  |none=>simp[hm] at h
  |some bs=>exact⟨bs,rfl⟩
theorem DU (x:Addr) (n:Nat):(x.add n).off=x.off+n/\(x.add n).block=x.block:=by
 unfold Addr.add
 split<;>simp_all
theorem add_zero' (x:Addr):(x.add 0)=x:=by simp[Addr.add]
theorem tI {H:Type} {enc:TypeId×Value->H} {sp:Nat->Bool} {held:Bool}:∀{ty:Ty},
  (∀{t fuel:Nat} {cs:List Value} {d:DataW H} {ps:List MemPlace},(oi P ty).1 t=true->DataW.trod enc P w 0 sp held fuel t cs=some (d,ps)->∃x,dj (sW w) ty x cs)/\
  (∀{fs:List Field} {off fuel:Nat} {cs:List Value} {xs:List (DataW H×List MemPlace)},(oi P ty).2 fs off=true->cs.length=off+ty.size->
   fs.mapM (fun f=>DataW.trod enc P w 0 sp held fuel f.type ((cs.drop f.offset).take (P.cellsOf f.type)))=some xs->∃x,dj (sW w) ty x (cs.drop off))
 | .int k=>by
  refine⟨fun {t fuel cs d ps} ht h=> ?_,fun h=>by cases h⟩
  simp only[oi] at ht
  split at ht
  ·rename_i j hu
   have:=ql ht
   subst this
   obtain⟨n,rfl,hn⟩:=trod_int hu h
   exact⟨n,rfl,hn⟩
  ·cases ht
 | .ref _=>⟨fun {t fuel cs d ps} ht h=>(by cases ht),fun h=>by cases h⟩
 | .ptr _=>⟨fun {t fuel cs d ps} ht h=>(by cases ht),fun h=>by cases h⟩
 | .lN _ _=>⟨fun {t fuel cs d ps} ht h=>(by cases ht),fun h=>by cases h⟩
 | .map _ _=>⟨fun {t fuel cs d ps} ht h=>(by cases ht),fun h=>by cases h⟩
 | .bool=>by
  refine⟨fun {t fuel cs d ps} ht h=> ?_,fun h=>by cases h⟩
  simp only[oi] at ht
  split at ht
  ·rename_i hu
   obtain⟨b,rfl⟩:=trod_bool hu h
   exact⟨b,rfl⟩
  ·cases ht
 | .str=>by
  refine⟨fun {t fuel cs d ps} ht h=> ?_,fun h=>by cases h⟩
  simp only[oi] at ht
  split at ht
  ·rename_i hu
   obtain⟨s,rfl,hs⟩:=Uw hu h
   refine⟨s.data.toList,rfl,?_⟩
   have:s.data.toList.length=s.size:=rfl
   show s.data.toList.length<=_
   rw[this]
   exact hs
  ·cases ht
 | .list a=>by
  refine⟨fun {t fuel cs d ps} ht h=> ?_,fun h=>by cases h⟩
  simp only[oi] at ht
  split at ht
  ·rename_i e hu
   simp only[Bool.and_eq_true] at ht
   obtain⟨h1,h2,h3⟩:=ht
   have h2:=Nat.eq_of_beq_eq_true h2
   have h3:0<a.size:=Nat.lt_of_lt_of_le (Nat.zero_lt_one) (Nat.le_of_ble_eq_true h3)
   cases fuel with
   |zero=>cases h
   |succ fuel=>
    rcases trod_slice hu h with rfl|⟨ad,len,cap,rfl,R2,hcm,No⟩
    ·exact⟨[],none,0,rfl,Nat.le_refl _,Nat.zero_le _,fun _=>rfl,fun p hp=>by cases hp⟩
    ·obtain⟨xs,hl,H5⟩:=Pe (Q:=fun i x=>ad.spot=none/\∃us:List Value,dj (sW w) a x us/\us.length=a.size/\∀(j:Nat) u,us[j]? =some u->(sW w).cell ad.block (ad.off+(i*a.size+j)) u) len fun i hi=>by
      obtain⟨us,d',ps',k1,k2⟩:=No i hi
      rw[h2] at k1
      obtain⟨q1,q2⟩:=F8 k1
      obtain⟨x,hx⟩:=tI.1 h1 k2
      have qV:∀(j:Nat) u,us[j]? =some u->(sW w).cell ad.block (ad.off+(i*a.size+j)) u:=fun j u hu=>by
       obtain⟨_,g2⟩:=KX (q2 j u hu)
       rw[(DU _ _).1,(DU _ _).1,(DU _ _).2,(DU _ _).2,Nat.add_assoc] at g2
       exact g2
      have aeh:ad.spot=none:=by
       obtain⟨ZX,_,_,k1,_⟩:=No 0 (by omega)
       rw[h2,Nat.zero_mul,add_zero'] at k1
       obtain⟨q1,q2⟩:=F8 k1
       have h0:0<ZX.length:=by omega
       have:=(KX (q2 0 ZX[0] (List.getElem?_eq_getElem h0))).1
       rwa [add_zero'] at this
      exact⟨x,aeh,us,hx,q1,qV⟩
     refine⟨xs,some ad,cap,?_,?_,hcm,fun h=>(by cases h),fun p hp i x hx=> ?_⟩
     ·show _=[Value.slice (some ad) xs.length cap]
      rw[hl]
     ·show xs.length<=cap
      omega
     ·cases hp
      exact H5 i x hx
  ·cases ht
 | .unit=>by
  refine⟨fun h=>(by cases h),fun {fs off fuel cs xs} hf hl h=>⟨(),?_⟩⟩
  have hl:cs.length=off:=hl
  show cs.drop off=[]
  rw[List.drop_eq_nil_of_le (by omega)]
 | .pair a b=>by
  have PZ:∀{fs:List Field} {off fuel:Nat} {cs:List Value} {xs:List (DataW H×List MemPlace)},(oi P (.pair a b)).2 fs off=true->cs.length=off+(Ty.pair a b).size->
   fs.mapM (fun f=>DataW.trod enc P w 0 sp held fuel f.type ((cs.drop f.offset).take (P.cellsOf f.type)))=some xs->∃x,dj (sW w) (.pair a b) x (cs.drop off):=fun {fs off fuel cs xs} hf hl h=>by
   have hl:cs.length=off+(a.size+b.size):=hl
   have aav:cs.drop off=(cs.drop off).take a.size++cs.drop (off+a.size):=by
    rw[<-List.drop_drop,List.take_append_drop]
   have one:∀{f:Field} {fs:List Field} {xs:List (DataW H×List MemPlace)},Nat.beq f.offset off=true->Nat.beq (P.cellsOf f.type) a.size=true->(oi P a).1 f.type=true->
     (f::fs).mapM (fun f=>DataW.trod enc P w 0 sp held fuel f.type ((cs.drop f.offset).take (P.cellsOf f.type)))=some xs->(∃y,dj (sW w) b y (cs.drop (off+a.size)))->∃x,dj (sW w) (.pair a b) x (cs.drop off):=fun {f fs xs} e1 e2 e3 h hb=>by
    obtain⟨⟨⟨d,ps⟩,h1⟩,_⟩:=qY h
    rw[Nat.eq_of_beq_eq_true e1,Nat.eq_of_beq_eq_true e2] at h1
    obtain⟨x,hx⟩:=tI.1 e3 h1
    obtain⟨y,hy⟩:=hb
    exact⟨(x,y),_,_,aav,hx,hy⟩
   simp only[oi] at hf
   split at hf
   ·cases hf
   ·rename_i f
    simp only[Bool.and_eq_true] at hf
    obtain⟨e1,e2,e3,e4⟩:=hf
    refine one e1 e2 e3 h ?_
    obtain⟨_,ys,Gs⟩:=qY h
    exact tI.2 e4 (by omega) Gs
   ·rename_i f g
    simp only[Bool.and_eq_true] at hf
    obtain⟨e1,e2,e3,e4,e5,e6⟩:=hf
    refine one e1 e2 e3 h ?_
    obtain⟨_,ys,Gs⟩:=qY h
    obtain⟨⟨⟨d,ps⟩,h1⟩,_⟩:=qY Gs
    rw[Nat.eq_of_beq_eq_true e4,Nat.eq_of_beq_eq_true e5] at h1
    obtain⟨y,hy⟩:=tI.1 e6 h1
    rw[List.take_of_length_le (by simp;omega)] at hy
    exact⟨y,hy⟩
   ·rename_i f fs _ _
    simp only[Bool.and_eq_true] at hf
    obtain⟨e1,e2,e3,e4⟩:=hf
    refine one e1 e2 e3 h ?_
    obtain⟨_,ys,Gs⟩:=qY h
    exact tI.2 e4 (by omega) Gs
  refine⟨fun {t fuel cs d ps} ht h=> ?_,PZ⟩
  have ht0:=ht
  simp only[oi] at ht0
  split at ht0
  ·rename_i fs hu
   have hb:=(Bool.and_eq_true _ _▸ht0:_/\_)
   have iT:=Nat.eq_of_beq_eq_true hb.1
   cases fuel with
   |zero=>cases h
   |succ fuel=>
    obtain⟨hl,xs,H5⟩:=trod_struct hu h
    obtain⟨x,hx⟩:=PZ (fs:=fs.toList) (off:=0) (by simp only[oi];exact hb.2) (by rw[hl,iT];simp[Ty.size]) H5
    exact⟨x,by simpa using hx⟩
  ·cases ht0
theorem val_rep {H:Type} {enc:TypeId×Value->H} {sp:Nat->Bool} {held:Bool} {ty:Ty} {t base:Nat} {r:Reach} {v:Value} {d:DataW H} {ps:List MemPlace} (ht:(oi P ty).1 t=true) (hk:Value.okWide P w r base t v)
  (h:DataW.Trod enc P w 0 sp held t v d ps):∃x,nA (sW w) ty x v:=by
 obtain⟨fuel,h⟩:=h
 obtain⟨x,hx⟩:=tI.1 ht h
 refine⟨x,?_⟩
 unfold nA
 cases ty with
 |int k=>
  simp only[oi] at ht
  split at ht
  ·rename_i hu;obtain⟨n,rfl⟩:=okWide_int hu hk;exact hx
  ·cases ht
 |bool=>
  simp only[oi] at ht
  split at ht
  ·rename_i hu;obtain⟨n,rfl⟩:=okWide_bool hu hk;exact hx
  ·cases ht
 |str=>
  simp only[oi] at ht
  split at ht
  ·rename_i hu;obtain⟨n,rfl⟩:=okWide_string hu hk;exact hx
  ·cases ht
 |list a=>
  simp only[oi] at ht
  split at ht
  ·rename_i e hu;obtain⟨a,len,cap,rfl⟩:=okWide_slice hu hk;exact hx
  ·cases ht
 |unit=>cases ht
 |ref _=>cases ht
 |ptr _=>cases ht
 |lN _ _=>cases ht
 |map _ _=>cases ht
 |pair a b=>
  simp only[oi] at ht
  split at ht
  ·rename_i fs hu
   simp only[Value.okWide,hu] at hk
   obtain⟨cs,rfl,_⟩:=hk
   exact⟨cs,rfl,hx⟩
  ·cases ht
end Go.Vc
end

section
set_option linter.unusedVariables false
set_option linter.unusedSimpArgs false
namespace Go.Vc
open Go
variable {P:Program} {w:World}
theorem vm {F:Mem} {t:Ty} {x:t.den} {v:Value} (h:nA F t x v):dj F t x v.cells.toList/\(match(eU.aG t).isAgg with
  |true=>∃ws,v= .agg ws/\ws.size=(eU.aG t).size
  |false=>v.cells= #[v]/\(eU.aG t).size=1):=by
 unfold nA at h
 cases hb:t.isAgg with
 |true=>
  rw[hb] at h
  obtain⟨ws,rfl,h⟩:=h
  have hl:=h.length
  refine⟨h,?_⟩
  show(match t.isAgg with |true=>_|false=>_)
  rw[hb]
  exact⟨ws,rfl,by show ws.size=t.size;simpa using hl⟩
 |false=>
  rw[hb] at h
  have h:dj F t x [v]:=h
  have h1:=(gN (E:=⟨F,fun _=>none⟩) h).oK v (List.mem_singleton.2 rfl)
  have h2:=Value.Cb h1
  have hl:=h.length
  refine⟨by rw[h2];exact h,?_⟩
  show(match t.isAgg with |true=>_|false=>_)
  rw[hb]
  exact⟨h2,hl.symm⟩
theorem fq.YX {f:Nat} {t1 t2 t3 t4 u:Ty} {e:Nat} {t:Ty} {pre:kC [t1,t2,t3,t4]->Prop} {fn:kC [t1,t2,t3,t4]->kC [.pair (.list t) u]} (ht:t.jf=true) (hu:u.jf=true)
  (h:fq P f {args:=[.aG t1,.aG t2,.aG t3,.aG t4],outs:=[.pair (.row e t) (.aG u)],pre:=pre,fn:=fn,fS:=fun x=>x}):
  aN P f {args:=[t1,t2,t3,t4],out:= .fresh [.pair (.list t) u],pre:=pre,fn:=fn} where
 fn:=h.fn
 calls F w x vs hF hx pj:=by
  obtain⟨v1,vs1,rfl,h1,v2,vs2,rfl,h2,v3,vs3,rfl,h3,v4,vs4,rfl,h4,rfl⟩:=hx
  obtain⟨r1,s1⟩:=vm h1
  obtain⟨r2,s2⟩:=vm h2
  obtain⟨r3,s3⟩:=vm h3
  obtain⟨r4,s4⟩:=vm h4
  have hO:lI F w (cW [.aG t1,.aG t2,.aG t3,.aG t4]) x (gB [v1,v2,v3,v4]) (.pair .nil (.pair .nil (.pair .nil (.pair .nil .nil)))):=
   ⟨_,_,_,_,rfl,rfl,⟨rfl,r1⟩,_,_,_,_,rfl,rfl,⟨rfl,r2⟩,_,_,_,_,rfl,rfl,⟨rfl,r3⟩,_,_,_,_,rfl,rfl,⟨rfl,r4⟩,rfl,rfl⟩
  have hS:Shape [.aG t1,.aG t2,.aG t3,.aG t4] [v1,v2,v3,v4]:=⟨v1,_,rfl,s1,v2,_,rfl,s2,v3,_,rfl,s3,v4,_,rfl,s4,rfl⟩
  refine(h.calls F w x [v1,v2,v3,v4] _ hF hO hS (by simp[PT.list,mj]) (fun p hp=>by simp[PT.list] at hp) pj trivial).mono fun en w' hp=> ?_
  obtain⟨v,F',Bv,gP,qs,e1,l1,f1,src,keep,ov,sh,ahl,kr,nd,own⟩:=hp
  have ov:Bv=[v]:=ov
  subst ov
  obtain⟨v',Gn,e2,hv,rfl⟩:=sh
  cases e2
  obtain⟨ws,hv,iT⟩:=hv
  subst hv
  obtain⟨us,ws2,q1,q2,e3,rfl,⟨us3,Wq,q3,q4,rfl,rfl,⟨p,v3',rfl,rfl,Db,hB⟩,rfl,aeH⟩,rfl,rfl⟩:=ahl
  have e3:ws.toList=[v3']++Wq:=by
   have:gB [Value.agg ws]=ws.toList:=by simp[gB,Value.cells]
   rw[this] at e3
   rw[e3];simp
  have hk:sQ (fun _=>False) w w':=⟨keep.os,keep.tape,keep.output,keep.size,fun k hk _=>keep.block k hk fun⟨q,hq,_⟩=>by simp[PT.list] at hq⟩
  have abk:∀b o,F' b=some o->F b=some o\/w.heap.size<=b:=fun b o hb=>by
   rcases src b o hb with h|h|⟨q,hq,_⟩
   ·exact .inl h
   ·exact .inr h
   ·simp[PT.list] at hq
  have Ys:∀G:Mem,dj G u (fn x).1.2 Wq:=fun G=>dj.jf hu aeH
  rcases hB with ⟨hn,H5,hl⟩|⟨hn,g0,⟨g1,g2⟩,cs,g3,g4,_,g6⟩
  ·rcases Db with ⟨_,hvv,_⟩|⟨dB,_⟩
   ·refine⟨_,F',e1,l1,f1,abk,hk,fun _=>none,fun b o hb=>(by cases hb),fun b o hb=>(by cases hb),?_⟩
    refine⟨ws,rfl,[v3'],Wq,e3,?_,Ys _⟩
    have H5:(fn x).1.1=[]:=H5
    rw[hvv,H5]
    exact⟨none,0,rfl,Nat.le_refl _,by simp[aM],fun _=>rfl,fun p hp=>by cases hp⟩
   ·rw[hn] at dB;cases dB
  ·rcases Db with ⟨dB,_⟩|⟨_,hvv,BZ,Vo⟩
   ·rw[hn] at dB;cases dB
   ·have rC:=own p (by simp[PT.list]) hn
    have qn:w.heap.size<=p.bp:=by
     rcases rC.1 with ⟨q,hq,_⟩|h
     ·simp[PT.list] at hq
     ·exact h
    have hle:F'.le (fun b=>if b=p.bp then some (.cells cs e (0,0)) else F' b):=fun b o hb=>by
     simp only
     split
     ·rename_i ju;subst ju;rw[rC.2] at hb;cases hb
     ·exact hb
    have hG:Mem.le (fun b=>if b=p.bp then some (.cells cs e (0,0)) else none) (fun b=>if b=p.bp then some (.cells cs e (0,0)) else F' b):=fun b o hb=>by
     simp only at hb ⊢
     split at hb
     ·rename_i ju;rw[if_pos ju];exact hb
     ·cases hb
    refine⟨_,_,e1,l1.trans hle,fun b o hb=> ?_,fun b o hb=> ?_,hk,_,hG,fun b o hb=> ?_,ws,rfl,[v3'],Wq,e3,?_,Ys _⟩
    ·split at hb
     ·rename_i ju;subst ju;cases hb;exact g3
     ·exact f1 b o hb
    ·split at hb
     ·rename_i ju;subst ju;exact .inr qn
     ·exact abk b o hb
    ·split at hb
     ·rename_i ju;subst ju;exact qn
     ·cases hb
    ·rw[hvv]
     have g1:(fn x).1.1.length=p.len:=g1
     refine⟨some ⟨p.bp,0,none⟩,p.cap,by rw[g1],by rw[g1];exact g2,Vo,(fun h=>by cases h),fun q hq i y hy=> ?_⟩
     cases hq
     obtain⟨us,k1,k2,k3⟩:=g6 i y hy
     refine⟨rfl,us,dj.jf ht k1,k2,fun j z hz=>⟨cs,e,(0,0),if_pos rfl,?_⟩⟩
     rw[Nat.zero_add]
     exact k3 j z hz
end Go.Vc
end

section
set_option maxRecDepth 100000
namespace Go.Proofs
open Go.Vc
namespace YtjnappfomhkeeaaGreat
def b6:Go.Value:= .int .i64 (0)
def cG:Go.Value:= .slice none 0 0
def mO:Go.Value:= .bool false
abbrev ag:Ty:= .int .i64
def pW:Go.Value:= .pointer none
def aA:List TI:=[
 ⟨2,.int .i64,1,8,b6,some ag,false⟩,
⟨3,.int .i64,1,8,b6,some ag,false⟩,
⟨4,.bool,1,1,mO,some .bool,false⟩,
⟨5,(.int .u8),1,1,(.int .u8 (0)),some (.int .u8),false⟩,
⟨6,(.int .u8),1,1,(.int .u8 (0)),some (.int .u8),false⟩,
⟨7,(.struct [(0,1,2),(1,1,3),(2,1,4),(3,1,6)]),4,24,(.agg #[b6,b6,mO,(.int .u8 (0))]),some (.pair ag (.pair ag (.pair .bool (.int .u8)))),true⟩,
⟨8,(.struct [(0,1,2),(1,1,3),(2,1,4),(3,1,6)]),4,24,(.agg #[b6,b6,mO,(.int .u8 (0))]),some (.pair ag (.pair ag (.pair .bool (.int .u8)))),true⟩,
⟨9,.str,1,16,(.string ⟨⟨[]⟩⟩),some .str,false⟩,
⟨10,.str,1,16,(.string ⟨⟨[]⟩⟩),some .str,false⟩,
⟨11,.str,1,16,(.string ⟨⟨[]⟩⟩),some .str,false⟩,
⟨12,(.int .u64),1,8,(.int .u64 (0)),some (.int .u64),false⟩,
⟨13,(.struct [(0,1,9),(1,1,12)]),2,24,(.agg #[(.string ⟨⟨[]⟩⟩),(.int .u64 (0))]),some (.pair .str (.int .u64)),false⟩,
⟨14,(.struct [(0,1,9),(1,1,12)]),2,24,(.agg #[(.string ⟨⟨[]⟩⟩),(.int .u64 (0))]),some (.pair .str (.int .u64)),false⟩,
⟨15,.vX,1,8,pW,none,false⟩,
⟨16,.vX,1,8,pW,none,false⟩,
⟨17,.vX,1,8,pW,none,false⟩,
⟨18,(.struct [(0,1,17)]),1,8,(.agg #[pW]),none,false⟩,
⟨19,(.struct [(0,1,17)]),1,8,(.agg #[pW]),none,false⟩,
⟨21,(.int .i32),1,4,(.int .i32 (0)),some (.int .i32),false⟩,
⟨22,(.slice 81),1,24,cG,some (.list (.pair .str (.pair ag ag))),false⟩,
⟨23,(.slice 158),1,24,cG,some (.list (.pair (.pair ag ag) (.pair ag ag))),false⟩,
⟨24,(.slice 161),1,24,cG,some (.list (.pair .str (.pair (.pair ag ag) .bool))),false⟩,
⟨25,(.slice 174),1,24,cG,some (.list (.pair .str (.list ag))),false⟩,
⟨26,(.struct [(0,1,22),(1,1,23),(2,1,24),(3,1,25),(4,1,3),(5,1,3),(6,1,3),(7,1,3),(8,1,4)]),9,136,(.agg #[cG,cG,cG,cG,b6,b6,b6,b6,mO]),some (.pair (.list (.pair .str (.pair ag ag))) (.pair (.list (.pair (.pair ag ag) (.pair ag ag))) (.pair (.list (.pair .str (.pair (.pair ag ag) .bool))) (.pair (.list (.pair .str (.list ag))) (.pair ag (.pair ag (.pair ag (.pair ag .bool)))))))),true⟩,
⟨27,(.struct [(0,1,22),(1,1,23),(2,1,24),(3,1,25),(4,1,3),(5,1,3),(6,1,3),(7,1,3),(8,1,4)]),9,136,(.agg #[cG,cG,cG,cG,b6,b6,b6,b6,mO]),some (.pair (.list (.pair .str (.pair ag ag))) (.pair (.list (.pair (.pair ag ag) (.pair ag ag))) (.pair (.list (.pair .str (.pair (.pair ag ag) .bool))) (.pair (.list (.pair .str (.list ag))) (.pair ag (.pair ag (.pair ag (.pair ag .bool)))))))),true⟩,
⟨29,(.slice 49),1,24,cG,some (.list (.pair ag (.pair ag (.pair ag (.pair (.list (.pair ag (.pair ag ag))) (.pair (.list (.pair ag ag)) (.pair (.list (.pair ag ag)) (.pair (.list ag) (.pair (.list ag) .bool))))))))),false⟩,
⟨32,(.struct [(0,9,27),(9,1,29)]),10,160,(.agg #[cG,cG,cG,cG,b6,b6,b6,b6,mO,cG]),some (.pair (.pair (.list (.pair .str (.pair ag ag))) (.pair (.list (.pair (.pair ag ag) (.pair ag ag))) (.pair (.list (.pair .str (.pair (.pair ag ag) .bool))) (.pair (.list (.pair .str (.list ag))) (.pair ag (.pair ag (.pair ag (.pair ag .bool)))))))) (.list (.pair ag (.pair ag (.pair ag (.pair (.list (.pair ag (.pair ag ag))) (.pair (.list (.pair ag ag)) (.pair (.list (.pair ag ag)) (.pair (.list ag) (.pair (.list ag) .bool)))))))))),true⟩,
⟨33,(.struct [(0,9,27),(9,1,29)]),10,160,(.agg #[cG,cG,cG,cG,b6,b6,b6,b6,mO,cG]),some (.pair (.pair (.list (.pair .str (.pair ag ag))) (.pair (.list (.pair (.pair ag ag) (.pair ag ag))) (.pair (.list (.pair .str (.pair (.pair ag ag) .bool))) (.pair (.list (.pair .str (.list ag))) (.pair ag (.pair ag (.pair ag (.pair ag .bool)))))))) (.list (.pair ag (.pair ag (.pair ag (.pair (.list (.pair ag (.pair ag ag))) (.pair (.list (.pair ag ag)) (.pair (.list (.pair ag ag)) (.pair (.list ag) (.pair (.list ag) .bool)))))))))),true⟩,
⟨34,.vX,1,8,pW,none,false⟩,
⟨35,.int .i64,1,8,b6,some ag,false⟩,
⟨40,(.slice 73),1,24,cG,some (.list (.pair ag (.pair ag (.pair .bool (.list .bool))))),false⟩,
⟨42,(.slice 3),1,24,cG,some (.list ag),false⟩,
⟨44,.vX,1,8,pW,some (.ptr (.pair ag (.pair (.map ag (.list ag)) (.pair (.map ag (.list ag)) (.pair (.map ag (.list (.pair ag ag))) (.map ag (.list (.pair ag ag)))))))),false⟩,
⟨46,(.slice 76),1,24,cG,some (.list (.pair ag (.pair ag ag))),false⟩,
⟨47,(.slice 90),1,24,cG,some (.list (.pair ag ag)),false⟩,
⟨48,(.struct [(0,1,3),(1,1,3),(2,1,3),(3,1,46),(4,1,47),(5,1,47),(6,1,42),(7,1,42),(8,1,4)]),9,152,(.agg #[b6,b6,b6,cG,cG,cG,cG,cG,mO]),some (.pair ag (.pair ag (.pair ag (.pair (.list (.pair ag (.pair ag ag))) (.pair (.list (.pair ag ag)) (.pair (.list (.pair ag ag)) (.pair (.list ag) (.pair (.list ag) .bool)))))))),true⟩,
⟨49,(.struct [(0,1,3),(1,1,3),(2,1,3),(3,1,46),(4,1,47),(5,1,47),(6,1,42),(7,1,42),(8,1,4)]),9,152,(.agg #[b6,b6,b6,cG,cG,cG,cG,cG,mO]),some (.pair ag (.pair ag (.pair ag (.pair (.list (.pair ag (.pair ag ag))) (.pair (.list (.pair ag ag)) (.pair (.list (.pair ag ag)) (.pair (.list ag) (.pair (.list ag) .bool)))))))),true⟩,
⟨53,(.slice 70),1,24,cG,some (.list (.pair ag (.pair (.list .bool) (.pair (.list ag) (.pair (.list (.int .u8)) (.pair (.list ag) (.list ag))))))),false⟩,
⟨56,.vX,1,8,pW,some (.ptr (.pair (.pair (.pair (.list (.pair .str (.pair ag ag))) (.pair (.list (.pair (.pair ag ag) (.pair ag ag))) (.pair (.list (.pair .str (.pair (.pair ag ag) .bool))) (.pair (.list (.pair .str (.list ag))) (.pair ag (.pair ag (.pair ag (.pair ag .bool)))))))) (.list (.pair ag (.pair ag (.pair ag (.pair (.list (.pair ag (.pair ag ag))) (.pair (.list (.pair ag ag)) (.pair (.list (.pair ag ag)) (.pair (.list ag) (.pair (.list ag) .bool)))))))))) (.pair (.list (.pair ag (.pair ag (.pair .bool (.list .bool))))) (.pair (.ptr (.pair ag (.list (.pair ag (.pair (.list ag) (.pair (.list ag) (.pair (.list (.pair ag ag)) (.list (.pair ag ag))))))))) (.pair (.list ag) (.list ag)))))),false⟩,
⟨59,(.slice 35),1,24,cG,some (.list ag),false⟩,
⟨60,(.struct [(0,1,42),(1,1,42),(2,1,59)]),3,72,(.agg #[cG,cG,cG]),some (.pair (.list ag) (.pair (.list ag) (.list ag))),true⟩,
⟨61,(.struct [(0,1,42),(1,1,42),(2,1,59)]),3,72,(.agg #[cG,cG,cG]),some (.pair (.list ag) (.pair (.list ag) (.list ag))),true⟩,
⟨64,(.slice 4),1,24,cG,some (.list .bool),false⟩,
⟨65,(.struct [(0,1,64),(1,1,42),(2,1,64),(3,1,64)]),4,96,(.agg #[cG,cG,cG,cG]),some (.pair (.list .bool) (.pair (.list ag) (.pair (.list .bool) (.list .bool)))),true⟩,
⟨66,(.struct [(0,1,64),(1,1,42),(2,1,64),(3,1,64)]),4,96,(.agg #[cG,cG,cG,cG]),some (.pair (.list .bool) (.pair (.list ag) (.pair (.list .bool) (.list .bool)))),true⟩,
⟨68,(.slice 5),1,24,cG,some (.list (.int .u8)),false⟩,
⟨69,(.struct [(0,1,3),(1,1,64),(2,1,42),(3,1,68),(4,1,42),(5,1,42)]),6,128,(.agg #[b6,cG,cG,cG,cG,cG]),some (.pair ag (.pair (.list .bool) (.pair (.list ag) (.pair (.list (.int .u8)) (.pair (.list ag) (.list ag)))))),true⟩,
⟨70,(.struct [(0,1,3),(1,1,64),(2,1,42),(3,1,68),(4,1,42),(5,1,42)]),6,128,(.agg #[b6,cG,cG,cG,cG,cG]),some (.pair ag (.pair (.list .bool) (.pair (.list ag) (.pair (.list (.int .u8)) (.pair (.list ag) (.list ag)))))),true⟩,
⟨72,(.struct [(0,1,3),(1,1,3),(2,1,4),(3,1,64)]),4,48,(.agg #[b6,b6,mO,cG]),some (.pair ag (.pair ag (.pair .bool (.list .bool)))),true⟩,
⟨73,(.struct [(0,1,3),(1,1,3),(2,1,4),(3,1,64)]),4,48,(.agg #[b6,b6,mO,cG]),some (.pair ag (.pair ag (.pair .bool (.list .bool)))),true⟩,
⟨75,(.struct [(0,1,3),(1,1,3),(2,1,3)]),3,24,(.agg #[b6,b6,b6]),some (.pair ag (.pair ag ag)),true⟩,
⟨76,(.struct [(0,1,3),(1,1,3),(2,1,3)]),3,24,(.agg #[b6,b6,b6]),some (.pair ag (.pair ag ag)),true⟩,
⟨80,(.struct [(0,1,9),(1,1,3),(2,1,3)]),3,32,(.agg #[(.string ⟨⟨[]⟩⟩),b6,b6]),some (.pair .str (.pair ag ag)),true⟩,
⟨81,(.struct [(0,1,9),(1,1,3),(2,1,3)]),3,32,(.agg #[(.string ⟨⟨[]⟩⟩),b6,b6]),some (.pair .str (.pair ag ag)),true⟩,
⟨89,(.struct [(0,1,3),(1,1,3)]),2,16,(.agg #[b6,b6]),some (.pair ag ag),true⟩,
⟨90,(.struct [(0,1,3),(1,1,3)]),2,16,(.agg #[b6,b6]),some (.pair ag ag),true⟩,
⟨102,.vX,1,8,pW,some (.ptr (.pair (.pair (.list (.pair .str (.pair ag ag))) (.pair (.list (.pair (.pair ag ag) (.pair ag ag))) (.pair (.list (.pair .str (.pair (.pair ag ag) .bool))) (.pair (.list (.pair .str (.list ag))) (.pair ag (.pair ag (.pair ag (.pair ag .bool)))))))) (.pair (.map (.pair ag ag) (.pair ag ag)) (.pair (.map (.pair ag ag) ag) (.pair (.map ag (.pair ag ag)) (.map ag ag)))))),false⟩,
⟨107,.vX,1,8,pW,some (.ptr (.pair (.ptr (.pair (.pair (.list (.pair .str (.pair ag ag))) (.pair (.list (.pair (.pair ag ag) (.pair ag ag))) (.pair (.list (.pair .str (.pair (.pair ag ag) .bool))) (.pair (.list (.pair .str (.list ag))) (.pair ag (.pair ag (.pair ag (.pair ag .bool)))))))) (.pair (.map (.pair ag ag) (.pair ag ag)) (.pair (.map (.pair ag ag) ag) (.pair (.map ag (.pair ag ag)) (.map ag ag)))))) (.map (.pair ag ag) .bool))),false⟩,
⟨109,(.struct [(0,10,33),(10,1,40),(11,1,44),(12,1,107),(13,1,42)]),14,224,(.agg #[cG,cG,cG,cG,b6,b6,b6,b6,mO,cG,cG,pW,pW,cG]),none,true⟩,
⟨110,(.struct [(0,10,33),(10,1,40),(11,1,44),(12,1,107),(13,1,42)]),14,224,(.agg #[cG,cG,cG,cG,b6,b6,b6,b6,mO,cG,cG,pW,pW,cG]),none,true⟩,
⟨116,(.map 3 42),1,8,(.map none),some (.map ag (.list ag)),false⟩,
⟨117,(.map 3 47),1,8,(.map none),some (.map ag (.list (.pair ag ag))),false⟩,
⟨118,(.struct [(0,1,3),(1,1,116),(2,1,116),(3,1,117),(4,1,117)]),5,40,(.agg #[b6,(.map none),(.map none),(.map none),(.map none)]),some (.pair ag (.pair (.map ag (.list ag)) (.pair (.map ag (.list ag)) (.pair (.map ag (.list (.pair ag ag))) (.map ag (.list (.pair ag ag))))))),true⟩,
⟨119,(.struct [(0,1,3),(1,1,116),(2,1,116),(3,1,117),(4,1,117)]),5,40,(.agg #[b6,(.map none),(.map none),(.map none),(.map none)]),some (.pair ag (.pair (.map ag (.list ag)) (.pair (.map ag (.list ag)) (.pair (.map ag (.list (.pair ag ag))) (.map ag (.list (.pair ag ag))))))),true⟩,
⟨125,(.map 3 4),1,8,(.map none),some (.map ag .bool),false⟩,
⟨128,(.struct [(0,1,64),(1,1,4),(2,1,4),(3,1,4),(4,1,4),(5,1,4),(6,1,4)]),7,32,(.agg #[cG,mO,mO,mO,mO,mO,mO]),some (.pair (.list .bool) (.pair .bool (.pair .bool (.pair .bool (.pair .bool (.pair .bool .bool)))))),true⟩,
⟨129,(.struct [(0,1,64),(1,1,4),(2,1,4),(3,1,4),(4,1,4),(5,1,4),(6,1,4)]),7,32,(.agg #[cG,mO,mO,mO,mO,mO,mO]),some (.pair (.list .bool) (.pair .bool (.pair .bool (.pair .bool (.pair .bool (.pair .bool .bool)))))),true⟩,
⟨144,.vX,1,8,pW,some (.ptr (.pair ag (.list (.pair ag (.pair (.list ag) (.pair (.list ag) (.pair (.list (.pair ag ag)) (.list (.pair ag ag))))))))),false⟩,
⟨145,(.struct [(0,10,33),(10,1,40),(11,1,144),(12,1,42),(13,1,42)]),14,240,(.agg #[cG,cG,cG,cG,b6,b6,b6,b6,mO,cG,cG,pW,cG,cG]),some (.pair (.pair (.pair (.list (.pair .str (.pair ag ag))) (.pair (.list (.pair (.pair ag ag) (.pair ag ag))) (.pair (.list (.pair .str (.pair (.pair ag ag) .bool))) (.pair (.list (.pair .str (.list ag))) (.pair ag (.pair ag (.pair ag (.pair ag .bool)))))))) (.list (.pair ag (.pair ag (.pair ag (.pair (.list (.pair ag (.pair ag ag))) (.pair (.list (.pair ag ag)) (.pair (.list (.pair ag ag)) (.pair (.list ag) (.pair (.list ag) .bool)))))))))) (.pair (.list (.pair ag (.pair ag (.pair .bool (.list .bool))))) (.pair (.ptr (.pair ag (.list (.pair ag (.pair (.list ag) (.pair (.list ag) (.pair (.list (.pair ag ag)) (.list (.pair ag ag))))))))) (.pair (.list ag) (.list ag))))),true⟩,
⟨146,(.struct [(0,10,33),(10,1,40),(11,1,144),(12,1,42),(13,1,42)]),14,240,(.agg #[cG,cG,cG,cG,b6,b6,b6,b6,mO,cG,cG,pW,cG,cG]),some (.pair (.pair (.pair (.list (.pair .str (.pair ag ag))) (.pair (.list (.pair (.pair ag ag) (.pair ag ag))) (.pair (.list (.pair .str (.pair (.pair ag ag) .bool))) (.pair (.list (.pair .str (.list ag))) (.pair ag (.pair ag (.pair ag (.pair ag .bool)))))))) (.list (.pair ag (.pair ag (.pair ag (.pair (.list (.pair ag (.pair ag ag))) (.pair (.list (.pair ag ag)) (.pair (.list (.pair ag ag)) (.pair (.list ag) (.pair (.list ag) .bool)))))))))) (.pair (.list (.pair ag (.pair ag (.pair .bool (.list .bool))))) (.pair (.ptr (.pair ag (.list (.pair ag (.pair (.list ag) (.pair (.list ag) (.pair (.list (.pair ag ag)) (.list (.pair ag ag))))))))) (.pair (.list ag) (.list ag))))),true⟩,
⟨155,(.struct [(0,1,3),(1,1,3)]),2,16,(.agg #[b6,b6]),some (.pair ag ag),true⟩,
⟨156,(.struct [(0,1,3),(1,1,3)]),2,16,(.agg #[b6,b6]),some (.pair ag ag),true⟩,
⟨157,(.struct [(0,2,156),(2,2,156)]),4,32,(.agg #[b6,b6,b6,b6]),some (.pair (.pair ag ag) (.pair ag ag)),true⟩,
⟨158,(.struct [(0,2,156),(2,2,156)]),4,32,(.agg #[b6,b6,b6,b6]),some (.pair (.pair ag ag) (.pair ag ag)),true⟩,
⟨160,(.struct [(0,1,9),(1,2,156),(3,1,4)]),4,40,(.agg #[(.string ⟨⟨[]⟩⟩),b6,b6,mO]),some (.pair .str (.pair (.pair ag ag) .bool)),true⟩,
⟨161,(.struct [(0,1,9),(1,2,156),(3,1,4)]),4,40,(.agg #[(.string ⟨⟨[]⟩⟩),b6,b6,mO]),some (.pair .str (.pair (.pair ag ag) .bool)),true⟩,
⟨167,(.map 156 156),1,8,(.map none),some (.map (.pair ag ag) (.pair ag ag)),false⟩,
⟨168,(.map 156 3),1,8,(.map none),some (.map (.pair ag ag) ag),false⟩,
⟨169,(.map 3 176),1,8,(.map none),some (.map ag (.pair ag ag)),false⟩,
⟨170,(.map 3 3),1,8,(.map none),some (.map ag ag),false⟩,
⟨171,(.struct [(0,9,27),(9,1,167),(10,1,168),(11,1,169),(12,1,170)]),13,168,(.agg #[cG,cG,cG,cG,b6,b6,b6,b6,mO,(.map none),(.map none),(.map none),(.map none)]),some (.pair (.pair (.list (.pair .str (.pair ag ag))) (.pair (.list (.pair (.pair ag ag) (.pair ag ag))) (.pair (.list (.pair .str (.pair (.pair ag ag) .bool))) (.pair (.list (.pair .str (.list ag))) (.pair ag (.pair ag (.pair ag (.pair ag .bool)))))))) (.pair (.map (.pair ag ag) (.pair ag ag)) (.pair (.map (.pair ag ag) ag) (.pair (.map ag (.pair ag ag)) (.map ag ag))))),true⟩,
⟨172,(.struct [(0,9,27),(9,1,167),(10,1,168),(11,1,169),(12,1,170)]),13,168,(.agg #[cG,cG,cG,cG,b6,b6,b6,b6,mO,(.map none),(.map none),(.map none),(.map none)]),some (.pair (.pair (.list (.pair .str (.pair ag ag))) (.pair (.list (.pair (.pair ag ag) (.pair ag ag))) (.pair (.list (.pair .str (.pair (.pair ag ag) .bool))) (.pair (.list (.pair .str (.list ag))) (.pair ag (.pair ag (.pair ag (.pair ag .bool)))))))) (.pair (.map (.pair ag ag) (.pair ag ag)) (.pair (.map (.pair ag ag) ag) (.pair (.map ag (.pair ag ag)) (.map ag ag))))),true⟩,
⟨173,(.struct [(0,1,9),(1,1,42)]),2,40,(.agg #[(.string ⟨⟨[]⟩⟩),cG]),some (.pair .str (.list ag)),true⟩,
⟨174,(.struct [(0,1,9),(1,1,42)]),2,40,(.agg #[(.string ⟨⟨[]⟩⟩),cG]),some (.pair .str (.list ag)),true⟩,
⟨176,(.array 2 3),2,16,(.agg #[b6,b6]),some (.pair ag ag),false⟩,
⟨177,(.map 195 4),1,8,(.map none),some (.map (.pair ag ag) .bool),false⟩,
⟨178,(.struct [(0,1,102),(1,1,177)]),2,16,(.agg #[pW,(.map none)]),some (.pair (.ptr (.pair (.pair (.list (.pair .str (.pair ag ag))) (.pair (.list (.pair (.pair ag ag) (.pair ag ag))) (.pair (.list (.pair .str (.pair (.pair ag ag) .bool))) (.pair (.list (.pair .str (.list ag))) (.pair ag (.pair ag (.pair ag (.pair ag .bool)))))))) (.pair (.map (.pair ag ag) (.pair ag ag)) (.pair (.map (.pair ag ag) ag) (.pair (.map ag (.pair ag ag)) (.map ag ag)))))) (.map (.pair ag ag) .bool)),true⟩,
⟨179,(.struct [(0,1,102),(1,1,177)]),2,16,(.agg #[pW,(.map none)]),some (.pair (.ptr (.pair (.pair (.list (.pair .str (.pair ag ag))) (.pair (.list (.pair (.pair ag ag) (.pair ag ag))) (.pair (.list (.pair .str (.pair (.pair ag ag) .bool))) (.pair (.list (.pair .str (.list ag))) (.pair ag (.pair ag (.pair ag (.pair ag .bool)))))))) (.pair (.map (.pair ag ag) (.pair ag ag)) (.pair (.map (.pair ag ag) ag) (.pair (.map ag (.pair ag ag)) (.map ag ag)))))) (.map (.pair ag ag) .bool)),true⟩,
⟨184,(.int .u64),1,8,(.int .u64 (0)),some (.int .u64),false⟩,
⟨192,(.slice 195),1,24,cG,some (.list (.pair ag ag)),false⟩,
⟨194,(.struct [(0,1,3),(1,1,3)]),2,16,(.agg #[b6,b6]),some (.pair ag ag),true⟩,
⟨195,(.struct [(0,1,3),(1,1,3)]),2,16,(.agg #[b6,b6]),some (.pair ag ag),true⟩,
⟨196,(.array 24 3),24,192,(.agg #[b6,b6,b6,b6,b6,b6,b6,b6,b6,b6,b6,b6,b6,b6,b6,b6,b6,b6,b6,b6,b6,b6,b6,b6]),none,false⟩,
⟨197,(.array 24 3),24,192,(.agg #[b6,b6,b6,b6,b6,b6,b6,b6,b6,b6,b6,b6,b6,b6,b6,b6,b6,b6,b6,b6,b6,b6,b6,b6]),none,false⟩,
⟨203,(.struct [(0,1,64),(1,1,4),(2,1,4),(3,1,4),(4,1,4),(5,1,4),(6,1,4)]),7,32,(.agg #[cG,mO,mO,mO,mO,mO,mO]),some (.pair (.list .bool) (.pair .bool (.pair .bool (.pair .bool (.pair .bool (.pair .bool .bool)))))),true⟩,
⟨208,(.struct [(0,1,3),(1,1,42),(2,1,42),(3,1,47),(4,1,47)]),5,104,(.agg #[b6,cG,cG,cG,cG]),some (.pair ag (.pair (.list ag) (.pair (.list ag) (.pair (.list (.pair ag ag)) (.list (.pair ag ag)))))),true⟩,
⟨209,(.struct [(0,1,3),(1,1,42),(2,1,42),(3,1,47),(4,1,47)]),5,104,(.agg #[b6,cG,cG,cG,cG]),some (.pair ag (.pair (.list ag) (.pair (.list ag) (.pair (.list (.pair ag ag)) (.list (.pair ag ag)))))),true⟩,
⟨211,(.slice 209),1,24,cG,some (.list (.pair ag (.pair (.list ag) (.pair (.list ag) (.pair (.list (.pair ag ag)) (.list (.pair ag ag))))))),false⟩,
⟨212,(.struct [(0,1,3),(1,1,211)]),2,32,(.agg #[b6,cG]),some (.pair ag (.list (.pair ag (.pair (.list ag) (.pair (.list ag) (.pair (.list (.pair ag ag)) (.list (.pair ag ag)))))))),true⟩,
⟨213,(.struct [(0,1,3),(1,1,211)]),2,32,(.agg #[b6,cG]),some (.pair ag (.list (.pair ag (.pair (.list ag) (.pair (.list ag) (.pair (.list (.pair ag ag)) (.list (.pair ag ag)))))))),true⟩,
⟨214,(.slice 216),1,24,cG,some (.list (.pair ag ag)),false⟩,
⟨216,(.struct [(0,1,3),(1,1,3)]),2,16,(.agg #[b6,b6]),some (.pair ag ag),true⟩,
⟨220,(.map 156 4),1,8,(.map none),some (.map (.pair ag ag) .bool),false⟩,
⟨221,(.slice 156),1,24,cG,some (.list (.pair ag ag)),false⟩,
⟨228,.vX,1,8,pW,some (.ptr (.pair ag (.pair ag (.pair ag (.pair (.list (.pair ag (.pair ag ag))) (.pair (.list (.pair ag ag)) (.pair (.list (.pair ag ag)) (.pair (.list ag) (.pair (.list ag) .bool))))))))),false⟩,
⟨232,(.slice 9),1,24,cG,some (.list .str),false⟩,
⟨237,.vX,1,8,pW,some (.ptr (.pair (.pair (.list (.pair .str (.pair ag ag))) (.pair (.list (.pair (.pair ag ag) (.pair ag ag))) (.pair (.list (.pair .str (.pair (.pair ag ag) .bool))) (.pair (.list (.pair .str (.list ag))) (.pair ag (.pair ag (.pair ag (.pair ag .bool)))))))) (.pair (.pair ag (.pair ag (.pair ag (.pair (.list (.pair ag (.pair ag ag))) (.pair (.list (.pair ag ag)) (.pair (.list (.pair ag ag)) (.pair (.list ag) (.pair (.list ag) .bool)))))))) (.list (.pair ag ag))))),false⟩,
⟨238,(.struct [(0,9,27),(9,9,49),(18,1,221)]),19,312,(.agg #[cG,cG,cG,cG,b6,b6,b6,b6,mO,b6,b6,b6,cG,cG,cG,cG,cG,mO,cG]),some (.pair (.pair (.list (.pair .str (.pair ag ag))) (.pair (.list (.pair (.pair ag ag) (.pair ag ag))) (.pair (.list (.pair .str (.pair (.pair ag ag) .bool))) (.pair (.list (.pair .str (.list ag))) (.pair ag (.pair ag (.pair ag (.pair ag .bool)))))))) (.pair (.pair ag (.pair ag (.pair ag (.pair (.list (.pair ag (.pair ag ag))) (.pair (.list (.pair ag ag)) (.pair (.list (.pair ag ag)) (.pair (.list ag) (.pair (.list ag) .bool)))))))) (.list (.pair ag ag)))),true⟩,
⟨239,(.struct [(0,9,27),(9,9,49),(18,1,221)]),19,312,(.agg #[cG,cG,cG,cG,b6,b6,b6,b6,mO,b6,b6,b6,cG,cG,cG,cG,cG,mO,cG]),some (.pair (.pair (.list (.pair .str (.pair ag ag))) (.pair (.list (.pair (.pair ag ag) (.pair ag ag))) (.pair (.list (.pair .str (.pair (.pair ag ag) .bool))) (.pair (.list (.pair .str (.list ag))) (.pair ag (.pair ag (.pair ag (.pair ag .bool)))))))) (.pair (.pair ag (.pair ag (.pair ag (.pair (.list (.pair ag (.pair ag ag))) (.pair (.list (.pair ag ag)) (.pair (.list (.pair ag ag)) (.pair (.list ag) (.pair (.list ag) .bool)))))))) (.list (.pair ag ag)))),true⟩,
⟨257,.int .i64,1,8,b6,some ag,false⟩,
⟨264,(.int .u32),1,4,(.int .u32 (0)),some (.int .u32),false⟩,
⟨266,(.int .u64),1,8,(.int .u64 (0)),some (.int .u64),false⟩,
⟨269,(.slice 47),1,24,cG,some (.list (.list (.pair ag ag))),false⟩,
⟨283,.vX,1,8,pW,some (.ptr (.pair ag (.pair (.list (.pair ag (.pair ag ag))) (.pair (.list ag) (.list (.list (.pair ag ag))))))),false⟩,
⟨284,(.slice 289),1,24,cG,some (.list (.list (.pair ag ag))),false⟩,
⟨285,(.struct [(0,1,3),(1,1,46),(2,1,42),(3,1,284)]),4,80,(.agg #[b6,cG,cG,cG]),some (.pair ag (.pair (.list (.pair ag (.pair ag ag))) (.pair (.list ag) (.list (.list (.pair ag ag)))))),true⟩,
⟨286,(.struct [(0,1,3),(1,1,46),(2,1,42),(3,1,284)]),4,80,(.agg #[b6,cG,cG,cG]),some (.pair ag (.pair (.list (.pair ag (.pair ag ag))) (.pair (.list ag) (.list (.list (.pair ag ag)))))),true⟩,
⟨289,(.slice 291),1,24,cG,some (.list (.pair ag ag)),false⟩,
⟨290,(.struct [(0,1,3),(1,1,3)]),2,16,(.agg #[b6,b6]),some (.pair ag ag),true⟩,
⟨291,(.struct [(0,1,3),(1,1,3)]),2,16,(.agg #[b6,b6]),some (.pair ag ag),true⟩,
⟨302,(.map 9 4),1,8,(.map none),some (.map .str .bool),false⟩,
⟨304,(.int .u64),1,8,(.int .u64 (0)),some (.int .u64),false⟩,
⟨308,.vX,1,8,pW,some (.ptr ag),false⟩,
⟨322,.vX,1,8,pW,some (.ptr (.int .u64)),false⟩,
⟨329,(.array 4 3),4,32,(.agg #[b6,b6,b6,b6]),some (.pair ag (.pair ag (.pair ag ag))),false⟩,
⟨330,(.array 3 3),3,24,(.agg #[b6,b6,b6]),some (.pair ag (.pair ag ag)),false⟩,
⟨335,(.struct [(0,1,17),(1,1,17),(2,1,17),(3,1,9)]),4,40,(.agg #[pW,pW,pW,(.string ⟨⟨[]⟩⟩)]),none,false⟩,
⟨336,(.struct [(0,1,17),(1,1,17),(2,1,17),(3,1,9)]),4,40,(.agg #[pW,pW,pW,(.string ⟨⟨[]⟩⟩)]),none,false⟩,
⟨337,(.array 0 16),0,0,(.agg #[]),none,false⟩,
⟨338,(.struct [(0,0,337)]),0,0,(.agg #[]),none,false⟩,
⟨339,(.struct [(0,0,337)]),0,0,(.agg #[]),none,false⟩,
⟨340,(.int .u8),1,1,(.int .u8 (0)),some (.int .u8),false⟩,
⟨341,(.int .u8),1,1,(.int .u8 (0)),some (.int .u8),false⟩,
⟨343,.vX,1,8,pW,some (.ptr (.int .u8)),false⟩,
⟨344,(.int .i32),1,4,(.int .i32 (0)),some (.int .i32),false⟩,
⟨345,(.int .i32),1,4,(.int .i32 (0)),some (.int .i32),false⟩]
theorem aJ:dx Tryz.prog aA where
 WD:=by kernel_rfl
 infos:=by kernel_rfl
 eqs:=by kernel_rfl
 mixed:=by kernel_rfl
end YtjnappfomhkeeaaGreat
end Go.Proofs
end

section
set_option maxRecDepth 100000
set_option linter.unusedVariables false
set_option linter.unusedSimpArgs false
set_option maxHeartbeats 2000000
namespace Go.Proofs
open Go Go.Vc
namespace YtjnappfomhkeeaaGreat
abbrev I:=Ty.int .i64
abbrev Cn:Ty:= .pair .str (.pair I I)
abbrev aO:Ty:= .pair I I
abbrev Cm:Ty:= .pair aO aO
abbrev xa:Ty:= .pair .str (.pair aO .bool)
abbrev yd:Ty:= .pair .str (.list I)
abbrev PlanT:Ty:= .pair (.list Cn) (.pair (.list Cm) (.pair (.list xa) (.pair (.list yd) (.pair I (.pair I (.pair I (.pair I .bool)))))))
abbrev Gg:Ty:= .pair I I
abbrev n4:=List UInt8
abbrev mA:=n4×Int×Int
abbrev ak:=Int×Int
abbrev nm:=ak×ak
abbrev gy:=n4×ak×Bool
abbrev ly:=n4×List Int
abbrev ab:=List mA×List nm×List gy×List ly×Int×Int×Int×Int×Bool
def zE:mA:=([],0,0)
def zP:ak:=(0,0)
def zJ:nm:=((0,0),(0,0))
def zS:gy:=([],(0,0),false)
def zL:ly:=([],[])
def de (p:Nat->Bool):Nat->Bool
 |0=>true
 |k+1=>de p k&&p k
def cj (p:Nat->Bool):Nat->Bool
 |0=>false
 |k+1=>cj p k||p k
def gI (p:Nat->Bool) (n:Nat):Option Nat:=(List.range n).find? p
def wa (o:Option Nat):Int:=match o with |some i=>(i:Int)|none=> -1
def rq (lo hi n:Int):Bool:=decide (lo<=n)&&decide (n<=hi)
@[irreducible] def cQ (k:Int):Int:=bif k==1 then 2 else bif k==2 then 3 else bif k==3 then 4 else bif k==4 then 1 else 0
@[irreducible] def aK (p:ab) (e:Int):Int:=bif decide (e<0)||decide ((p.1.length:Int)<=e) then 0 else(p.1.getD e.toNat zE).2.1
@[irreducible] def q7 (p:ab) (e:Int):Int:=bif decide (e<0)||decide ((p.1.length:Int)<=e) then 0 else(p.1.getD e.toNat zE).2.2
@[irreducible] def dC (p:ab) (x:ak):Bool:=decide (0<=x.1)&&(decide (x.1<(p.1.length:Int))&&(decide (0<=x.2)&&decide (x.2<cQ (aK p x.1))))
def xF (o:Option nm) (x:ak):ak×Bool:=match o with
 |some j=>(bif j.1==x then j.2 else j.1,true)
 |none=>((0,0),false)
@[irreducible] def bx (p:ab) (x:ak):ak×Bool:=xF (p.2.1.find? fun j=>j.1==x||j.2==x) x
@[irreducible] def cc (p:ab) (x:ak):Int:=wa (gI (fun i=>(p.2.2.1.getD i zS).2.1==x) p.2.2.1.length)
@[irreducible] def bN (l:List Int) (n:Int):Bool:=l.any fun y=>y==n
def ka (v b:Int):Nat->Int
 |0=>0
 |k+1=>ka v b k+(v - b*((k:Int)+1))
def qA (v b:Int):Nat:=(gI (fun k=>decide (v - b*((k:Int)+1)<=0)) 100).getD 0
@[irreducible] def m9 (v b:Int):Int:=bif rq 0 60 v&&rq 1 10 b then ka v b (qA v b) else 0
def u3 (c:UInt8):Bool:=(decide (97<=c.toNat)&&decide (c.toNat<=122))||(decide (65<=c.toNat)&&decide (c.toNat<=90))
def NH (c:UInt8):Bool:=decide (48<=c.toNat)&&decide (c.toNat<=57)
def jv (s:n4) (i:Nat):Bool:=u3 (s.getD i 0)||(!(i==0)&&NH (s.getD i 0))
@[irreducible] def kB (s:n4):Bool:=de (jv s) s.length&&(decide (1<=s.length)&&decide (s.length<=8))
@[irreducible] def lL (p:ab) (s:Int):ak×Bool:=bif decide (s<0)||decide ((p.2.2.1.length:Int)<=s) then((0,0),false) else((p.2.2.1.getD s.toNat zS).2.1,true)
def tD (i:Int):Int:=bif i==0 then 1 else bif i==1 then 0 else bif i==2 then 3 else 2
@[irreducible] def bG (p:ab) (e i:Int):List (Int×Int):=
 bif !dC p (e,i) then[] else bif aK p e==1 then[(1 - i,0)] else bif aK p e==3 then[(tD i,0)] else bif aK p e==2 then(bif i==0 then[(1,1),(2,2)] else[(0,i)]) else[]
def G7 (o:Option (Int×Int)):Int×Bool:=match o with
 |some w=>(w.1,true)
 |none=>(0,false)
@[irreducible] def cx (p:ab) (e i pos:Int):Int×Bool:=G7 ((bG p e i).find? fun w=>w.2==0||w.2==pos)
def FR (o:Option Nat):Int×Bool:=match o with
 |some i=>((i:Int),true)
 |none=>(0,false)
@[irreducible] def mw (p:ab) (e out pos:Int):Int×Bool:=FR (gI (fun i=>(cx p e (i:Int) pos).2&&(cx p e (i:Int) pos).1==out) (cQ (aK p e)).toNat)
@[irreducible] def dT (l:List n4):Bool:=cj (fun i=>cj (fun k=>l.getD i []==l.getD k []) i) l.length
@[irreducible] def gJ (e:mA):Bool:=kB e.1&&(!(cQ e.2.1==0)&&(bif e.2.1==4 then e.2.2==0 else rq 1 4000 e.2.2))
@[irreducible] def oP (p:ab):Bool:=rq 1 60 p.2.2.2.2.1&&(rq 1 10 p.2.2.2.2.2.1&&(rq 1 4000 p.2.2.2.2.2.2.1&&(rq 1 20 p.2.2.2.2.2.2.2.1&& !decide (p.1.length=0))))
@[irreducible] def fArgs (p:ab):Bool:=oP p&&(p.1.all gJ&&((p.2.2.1.all fun s=>kB s.1)&&p.2.2.2.1.all fun l=>kB l.1))
def bW (p:ab):List ak:=p.2.1.flatMap fun j=>[j.1,j.2]
def kR (p:ab) (i:Nat):Bool:=dC p ((bW p).getD i zP)&& !cj (fun k=>(bW p).getD k zP==(bW p).getD i zP) i
def kh (p:ab) (i:Nat):Bool:=bif(p.1.getD i zE).2.1==4 then(bx p ((i:Int),0)).2&& !(aK p (bx p ((i:Int),0)).1.1==4) else true
@[irreducible] def bT (p:ab):Bool:=de (kR p) (bW p).length&&de (kh p) p.1.length
def CB (p:ab) (x:ak) (i:Int):Bool:=dC p x&&((aK p x.1==1||aK p x.1==4)&&((bx p x).2&&(!(aK p (bx p x).1.1==4)&&cc p x==i)))
def lb (p:ab) (i:Nat):Bool:=CB p (p.2.2.1.getD i zS).2.1 (i:Int)
def jZ (p:ab) (i:Nat):Bool:=bif(p.1.getD i zE).2.1==4 then decide (0<=cc p ((i:Int),0)) else true
@[irreducible] def dq (p:ab):Bool:=de (lb p) p.2.2.1.length&&de (jZ p) p.1.length
def qK (p:ab) (l:List Int) (e:Int):Bool:=(bx p (l.getD 0 0,e)).2&&(bx p (l.getD 0 0,e)).1.1==l.getD 1 0
def fN (p:ab) (l:List Int):Int:=bif qK p l 0 then 0 else bif qK p l 1 then 1 else -1
def oe (p:ab) (l:List Int) (k:Nat) (out:Int):ak×Bool:=bx p (l.getD k 0,out)
def ed (p:ab) (l:List Int) (out:Int):Nat->List Int×Int×Bool
 |0=>([1 - out],out,true)
 |k+1=>bif(ed p l out k).2.2&&((oe p l k (ed p l out k).2.1).2&&(oe p l k (ed p l out k).2.1).1.1==l.getD (k+1) 0) then
   ((ed p l out k).1++[(oe p l k (ed p l out k).2.1).1.2],1 - (oe p l k (ed p l out k).2.1).1.2,true)
  else((ed p l out k).1,(ed p l out k).2.1,false)
@[irreducible] def eD (p:ab) (l:List Int):List Int×Bool:=
 bif decide (l.length=0)|| !l.all (fun e=>aK p e==1) then([],false) else bif decide (l.length=1) then([0],true) else bif decide (fN p l<0) then([],false) else
  bif(ed p l (fN p l) (l.length - 1)).2.2 then((ed p l (fN p l) (l.length - 1)).1,true) else([],false)
def kN (p:ab) (i:Nat):List Int:=(p.2.2.2.1.take i).flatMap fun l=>l.2
def ma (p:ab) (i k:Nat):Bool:= !bN (kN p i++(p.2.2.2.1.getD i zL).2.take k) ((p.2.2.2.1.getD i zL).2.getD k 0)
def jk (p:ab) (i:Nat):Bool:=de (ma p i) (p.2.2.2.1.getD i zL).2.length&&(eD p (p.2.2.2.1.getD i zL).2).2
@[irreducible] def fO (p:ab):Bool:=de (jk p) p.2.2.2.1.length
def jU (p:ab) (s:gy):Bool:= !(aK p s.2.1.1==1&&decide (q7 p s.2.1.1<p.2.2.2.2.2.2.1))
def iw (p:ab) (e:mA):Bool:= !(!(e.2.1==4)&&decide (e.2.2<p.2.2.2.2.1))
@[irreducible] def lu (p:ab):Bool:= !decide (p.2.2.2.2.2.2.1<p.2.2.2.2.1+m9 p.2.2.2.2.1 p.2.2.2.2.2.1)&&(p.2.2.1.all (jU p)&&p.1.all (iw p))
@[irreducible] def lC (p:ab):Bool:=decide (p.1.length<=40)&&(decide (p.2.2.1.length<=24)&&(decide (p.2.2.2.1.length<=4)&&decide (p.2.1.length<=80)))
@[irreducible] def bX (p:ab):Int:=
 bif !lC p then 3 else bif !fArgs p then 1 else bif dT (p.1.map fun e=>e.1)||(dT (p.2.2.1.map fun s=>s.1)||dT (p.2.2.2.1.map fun l=>l.1)) then 4 else
 bif !bT p then 6 else bif !dq p then 7 else bif !fO p then 8 else bif !lu p then 9 else 0
@[irreducible] def sN (p:ab):Bool:=decide (p.1.length<=60)&&(decide (p.2.1.length<=120)&&(decide (p.2.2.1.length<=60)&&(decide (p.2.2.2.1.length<=20)&&
 ((p.2.2.2.1.all fun l=>decide (l.2.length<=60)&&decide (l.1.length<=100))&&((p.1.all fun e=>decide (e.1.length<=100))&&p.2.2.1.all fun s=>decide (s.1.length<=100))))))
@[irreducible] def oQ (p:ab):Bool:=sN p&&bX p==0
def cY (p:ab):Prop:=∀l∈p.2.2.2.1,l.2.length<=1000
def ay {A B C D E F G H J:Type} (p:A×B×C×D×E×F×G×H×J) (R:Prop):Prop:=
 p.fst=p.fst/\p.snd.fst=p.snd.fst/\p.snd.snd.fst=p.snd.snd.fst/\p.snd.snd.snd.fst=p.snd.snd.snd.fst/\p.snd.snd.snd.snd.fst=p.snd.snd.snd.snd.fst/\p.snd.snd.snd.snd.snd.fst=p.snd.snd.snd.snd.snd.fst/\
 p.snd.snd.snd.snd.snd.snd.fst=p.snd.snd.snd.snd.snd.snd.fst/\p.snd.snd.snd.snd.snd.snd.snd.fst=p.snd.snd.snd.snd.snd.snd.snd.fst/\p.snd.snd.snd.snd.snd.snd.snd.snd=p.snd.snd.snd.snd.snd.snd.snd.snd/\R
theorem dp {A B C D E F G H J:Type} (p:A×B×C×D×E×F×G×H×J) (R:Prop):ay p R=R:=by
 unfold ay
 simp only[true_and]
def V7:bg where
 args:=[.list I,.list I]
 out:= .data [.bool]
 pre:=fun(x:List Int×List Int×Unit)=>True
 fn:=fun(x:List Int×List Int×Unit)=>(x.1==x.2.1,())
def TY:bg where
 args:=[I,I,I,I]
 out:= .data [Cm]
 pre:=fun(x:Int×Int×Int×Int×Unit)=>True
 fn:=fun(x:Int×Int×Int×Int×Unit)=>(((x.1,x.2.1),(x.2.2.1,x.2.2.2.1)),())
def Qi:bg where
 args:=[I,I,I]
 out:= .data [.bool]
 pre:=fun(x:Int×Int×Int×Unit)=>True
 fn:=fun(x:Int×Int×Int×Unit)=>(rq x.2.1 x.2.2.1 x.1,())
def Lb:bg where
 args:=[.str]
 out:= .data [.bool]
 pre:=fun(x:n4×Unit)=>True
 fn:=fun(x:n4×Unit)=>(kB x.1,())
def Bq:bg where
 args:=[I]
 out:= .data [I]
 pre:=fun(x:Int×Unit)=>True
 fn:=fun(x:Int×Unit)=>(cQ x.1,())
def Br:bg where
 args:=[PlanT,aO]
 out:= .data [.bool]
 pre:=fun(x:ab×ak×Unit)=>True
 fn:=fun(x:ab×ak×Unit)=>(dC x.1 x.2.1,())
def ow:bg where
 args:=[PlanT,aO]
 out:= .data [aO,.bool]
 pre:=fun(x:ab×ak×Unit)=>True
 fn:=fun(x:ab×ak×Unit)=>((bx x.1 x.2.1).1,(bx x.1 x.2.1).2,())
def pn:bg where
 args:=[PlanT,I]
 out:= .data [I]
 pre:=fun(x:ab×Int×Unit)=>True
 fn:=fun(x:ab×Int×Unit)=>(aK x.1 x.2.1,())
def yu:bg:=pn
def yr:bg where
 args:=[PlanT,aO]
 out:= .data [I]
 pre:=fun(x:ab×ak×Unit)=>True
 fn:=fun(x:ab×ak×Unit)=>(cc x.1 x.2.1,())
def yB:bg where
 args:=[.list I,I]
 out:= .data [.bool]
 pre:=fun(x:List Int×Int×Unit)=>True
 fn:=fun(x:List Int×Int×Unit)=>(bN x.1 x.2.1,())
def La:bg where
 args:=[I,I]
 out:= .data [I]
 pre:=fun(x:Int×Int×Unit)=>True
 fn:=fun(x:Int×Int×Unit)=>(m9 x.1 x.2.1,())
def Qh:bg where
 args:=[PlanT,I]
 out:= .data [I]
 pre:=fun(x:ab×Int×Unit)=>True
 fn:=fun(x:ab×Int×Unit)=>(q7 x.1 x.2.1,())
def TN:bg where
 args:=[PlanT,I]
 out:= .data [aO,.bool]
 pre:=fun(x:ab×Int×Unit)=>True
 fn:=fun(x:ab×Int×Unit)=>((lL x.1 x.2.1).1,(lL x.1 x.2.1).2,())
def F9:bg where
 args:=[PlanT,I,I]
 out:= .data [.list Gg]
 pre:=fun(x:ab×Int×Int×Unit)=>True
 fn:=fun(x:ab×Int×Int×Unit)=>(bG x.1 x.2.1 x.2.2.1,())
def KZ:bg where
 args:=[PlanT,I,I,I]
 out:= .data [I,.bool]
 pre:=fun(x:ab×Int×Int×Int×Unit)=>True
 fn:=fun(x:ab×Int×Int×Int×Unit)=>((cx x.1 x.2.1 x.2.2.1 x.2.2.2.1).1,(cx x.1 x.2.1 x.2.2.1 x.2.2.2.1).2,())
def K2:bg where
 args:=[PlanT,I,I,I]
 out:= .data [I,.bool]
 pre:=fun(x:ab×Int×Int×Int×Unit)=>True
 fn:=fun(x:ab×Int×Int×Int×Unit)=>((mw x.1 x.2.1 x.2.2.1 x.2.2.2.1).1,(mw x.1 x.2.1 x.2.2.1 x.2.2.2.1).2,())
def LM:bg where
 args:=[.list .str]
 out:= .data [.bool]
 pre:=fun(x:List n4×Unit)=>True
 fn:=fun(x:List n4×Unit)=>(dT x.1,())
def Eo (p:ab):Prop:=p.1.length<=1000/\p.2.2.1.length<=1000/\p.2.2.2.1.length<=1000
def LO:bg where
 args:=[PlanT]
 out:= .data [.list .str,.list .str,.list .str]
 pre:=fun(x:ab×Unit)=>Eo x.1
 fn:=fun(x:ab×Unit)=>(x.1.1.map (fun e=>e.1),x.1.2.2.1.map (fun s=>s.1),x.1.2.2.2.1.map (fun l=>l.1),())
def LN:bg where
 args:=[PlanT]
 out:= .data [.bool]
 pre:=fun(x:ab×Unit)=>True
 fn:=fun(x:ab×Unit)=>(fArgs x.1,())
def LL:bg where
 args:=[PlanT]
 out:= .data [.bool]
 pre:=fun(x:ab×Unit)=>x.1.2.1.length<=1000
 fn:=fun(x:ab×Unit)=>(bT x.1,())
def LK:bg where
 args:=[PlanT]
 out:= .data [.bool]
 pre:=fun(x:ab×Unit)=>True
 fn:=fun(x:ab×Unit)=>(dq x.1,())
def Lk:bg where
 args:=[PlanT,.list I]
 out:= .data [.list I,.bool]
 pre:=fun(x:ab×List Int×Unit)=>bT x.1=true/\x.2.1.length<=1000
 fn:=fun(x:ab×List Int×Unit)=>((eD x.1 x.2.1).1,(eD x.1 x.2.1).2,())
def LJ:bg where
 args:=[PlanT]
 out:= .data [.bool]
 pre:=fun(x:ab×Unit)=>bT x.1=true/\cY x.1/\x.1.2.2.2.1.length<=1000
 fn:=fun(x:ab×Unit)=>(fO x.1,())
def LI:bg where
 args:=[PlanT]
 out:= .data [.bool]
 pre:=fun(x:ab×Unit)=>oP x.1=true
 fn:=fun(x:ab×Unit)=>(lu x.1,())
def Gb:bg where
 args:=[PlanT]
 out:= .data [I]
 pre:=fun(x:ab×Unit)=>cY x.1
 fn:=fun(x:ab×Unit)=>(bX x.1,())
def Qo:bg where
 args:=[PlanT]
 out:= .data [.bool]
 pre:=fun(x:ab×Unit)=>True
 fn:=fun(x:ab×Unit)=>(sN x.1,())
def c47:bg where
 args:=[PlanT]
 out:= .data [.bool]
 pre:=fun(x:ab×Unit)=>True
 fn:=fun(x:ab×Unit)=>(oQ x.1,())
def dH (n:Nat) (ok:Nat->Prop) (slot:Nat) (keep cv:List Nat):LA where
 σ:=Nat
 ok:=fun k=>k<=n/\ok k
 mu:=fun k=>n - k
 sl:=fun k=>[(slot,.one (.aG I (k:Int)))]
 bl:=fun _=>[]
 keep:=keep
 cv:=cv
def mS (n:Nat) (slot row id e:Nat) (t:Ty) (xs:Nat->List t.den) (keep cv:List Nat):LA where
 σ:=Nat
 ok:=fun k=>k<=n
 mu:=fun k=>n - k
 sl:=fun k=>[(slot,.one (.aG I (k:Int))),(row,.one (.row t id))]
 bl:=fun k=>[(id,.row false e t (xs k))]
 keep:=keep
 cv:=cv
def fg {α:Type} (p:α->Bool) (xs:List α) (k:Nat):Prop:=(xs.take k).all p=true
def dX (p:Nat->Bool) (k:Nat):Prop:=de p k=true
def eb (p:Nat->Bool) (k:Nat):Prop:=cj p k=false
def kM {α:Type} (p:α->Bool) (xs:List α) (k:Nat):Prop:=(xs.take k).any p=false
def oc {α:Type} (xs ys:List α) (k:Nat):Prop:=xs.length=ys.length/\xs.take k=ys.take k
def da (S:St) (n:Nat):Int:=
 match find S.sl n with
 |some (_,.one (.aG (.int _) x))=>Ty.I x
 |_=>0
def a37 (x:List Int×List Int×Unit):eA:=bh [(4,fun _=>dH x.1.length (oc x.1 x.2.1) 5 [0,1] [])]
def Za (x:n4×Unit):eA:=bh [(2,fun _=>dH x.1.length (dX (jv x.1)) 3 [0] [])]
def tu (x:ak) (j:nm):Bool:=j.1==x||j.2==x
def a227 (x:ab×ak×Unit):eA:=bh [(2,fun _=>dH x.1.2.1.length (kM (tu x.2.1) x.1.2.1) 6 [2,3,4] [2,3,4])]
def fF (p:ab) (x:ak) (i:Nat):Bool:=(p.2.2.1.getD i zS).2.1==x
def a229 (x:ab×ak×Unit):eA:=bh [(2,fun _=>dH x.1.2.2.1.length (eb (fF x.1 x.2.1)) 5 [2,3] [2,3])]
def a31 (x:List Int×Int×Unit):eA:=bh [(2,fun _=>dH x.1.length (kM (fun y=>y==x.2.1) x.1) 5 [0,1] [])]
def gR (v b:Int) (k:Nat):Bool:=decide (v - b*((k:Int)+1)<=0)
def Y9 (x:Int×Int×Unit):eA:=bh [(5,fun _=>{
 σ:=Nat
 ok:=fun k=>k<=60/\eb (gR x.1 x.2.1) k
 mu:=fun k=>60 - k
 sl:=fun k=>[(0,.one (.aG I (x.1 - x.2.1*((k:Int)+1)))),(5,.one (.aG I (ka x.1 x.2.1 k)))]
 bl:=fun _=>[]
 keep:=[1]
 cv:=[]})]
def jm (pos:Int) (w:Int×Int):Bool:=w.2==0||w.2==pos
def Y3 (x:ab×Int×Int×Int×Unit):eA:=bh [(3,fun _=>dH (bG x.1 x.2.1 x.2.2.1).length (kM (jm x.2.2.2.1) (bG x.1 x.2.1 x.2.2.1)) 11 [3,10] [])]
def tx (p:ab) (e out pos:Int) (i:Nat):Bool:=(cx p e (i:Int) pos).2&&(cx p e (i:Int) pos).1==out
def Y5 (x:ab×Int×Int×Int×Unit):eA:=bh [(2,fun _=>dH (cQ (aK x.1 x.2.1)).toNat (eb (tx x.1 x.2.1 x.2.2.1 x.2.2.2.1)) 10 [1,2,3,4] [4])]
def jz (l:List n4) (i k:Nat):Bool:=l.getD i []==l.getD k []
def a154 (x:List n4×Unit):eA:=bh [(2,fun _=>dH x.1.length (eb (fun i=>cj (jz x.1 i) i)) 3 [0] []),
 (5,fun S=>dH (da S 3).toNat (eb (jz x.1 (da S 3).toNat)) 4 [0,3] [])]
def a152 (x:ab×Unit):eA:=bh [(3,fun _=>mS x.1.1.length 8 5 1000 9 .str (fun k=>(x.1.1.take k).map fun e=>e.1) [1,6,7] [1]),
 (7,fun _=>mS x.1.2.2.1.length 9 6 1001 9 .str (fun k=>(x.1.2.2.1.take k).map fun e=>e.1) [1,5,7] [1,1000]),
 (11,fun _=>mS x.1.2.2.2.1.length 10 7 1002 9 .str (fun k=>(x.1.2.2.2.1.take k).map fun e=>e.1) [1,5,6] [1,1000,1001])]
def ld (s:gy):Bool:=kB s.1
def jC (l:ly):Bool:=kB l.1
def Zj (x:ab×Unit):eA:=bh [(4,fun _=>dH x.1.1.length (fg gJ x.1.1) 3 [1] [1]),
 (10,fun _=>dH x.1.2.2.1.length (fg ld x.1.2.2.1) 5 [1] [1]),
 (15,fun _=>dH x.1.2.2.2.1.length (fg jC x.1.2.2.2.1) 6 [1] [1])]
def qF (p:ab) (i k:Nat):Bool:=(bW p).getD k zP==(bW p).getD i zP
def Zi (x:ab×Unit):eA:=bh [(3,fun _=>mS x.1.2.1.length 4 3 1000 156 aO (fun k=>(x.1.2.1.take k).flatMap fun j=>[j.1,j.2]) [1] [1]),
 (7,fun _=>dH (bW x.1).length (dX (kR x.1)) 5 [1,3] [1,1000]),
 (12,fun S=>dH (da S 5).toNat (eb (qF x.1 (da S 5).toNat)) 6 [1,3,5] [1,1000]),
 (17,fun _=>dH x.1.1.length (dX (kh x.1)) 7 [1] [1])]
def a156 (x:ab×Unit):eA:=bh [(2,fun _=>dH x.1.2.2.1.length (dX (lb x.1)) 3 [1] [1]),
 (12,fun _=>dH x.1.1.length (dX (jZ x.1)) 8 [1] [1])]
def mX (p:ab) (e:Int):Bool:=aK p e==1
def vY (p:ab) (l:List Int):Nat->Int
 |0=> -1
 |1=>bif qK p l 1 then 1 else -1
 |_=>fN p l
def a206 (x:ab×List Int×Unit):eA:=bh [(4,fun _=>dH x.2.1.length (fg (mX x.1) x.2.1) 6 [1,2] [2]),
 (12,fun _=>{
  σ:=Nat
  ok:=fun k=>k<=2
  mu:=fun k=>2 - k
  sl:=fun k=>[(8,.one (.aG I (1 - (k:Int)))),(7,.one (.aG I (vY x.1 x.2.1 k)))]
  bl:=fun _=>[]
  keep:=[1,2]
  cv:=[2]}),
 (21,fun _=>{
  σ:=Nat
  ok:=fun k=>k<x.2.1.length/\(ed x.1 x.2.1 (fN x.1 x.2.1) k).2.2=true
  mu:=fun k=>x.2.1.length - k
  sl:=fun k=>[(12,.one (.aG I ((k:Int)+1))),(7,.one (.aG I (ed x.1 x.2.1 (fN x.1 x.2.1) k).2.1)),(11,.one (.row I 1000))]
  bl:=fun k=>[(1000,.row false 3 I (ed x.1 x.2.1 (fN x.1 x.2.1) k).1)]
  keep:=[1,2]
  cv:=[2]})]
def a157 (x:ab×Unit):eA:=bh [(3,fun _=>{
  σ:=Nat
  ok:=fun k=>k<=x.1.2.2.2.1.length/\dX (jk x.1) k
  mu:=fun k=>x.1.2.2.2.1.length - k
  sl:=fun k=>[(4,.one (.aG I (k:Int))),(3,.one (.row I 1000))]
  bl:=fun k=>[(1000,.row false 3 I (kN x.1 k))]
  keep:=[1]
  cv:=[1]}),
 (7,fun S=>{
  σ:=Nat
  ok:=fun k=>k<=(x.1.2.2.2.1.getD (da S 4).toNat zL).2.length/\dX (ma x.1 (da S 4).toNat) k
  mu:=fun k=>(x.1.2.2.2.1.getD (da S 4).toNat zL).2.length - k
  sl:=fun k=>[(6,.one (.aG I (k:Int))),(3,.one (.row I 1001))]
  bl:=fun k=>[(1001,.row false 3 I (kN x.1 (da S 4).toNat++(x.1.2.2.2.1.getD (da S 4).toNat zL).2.take k))]
  keep:=[1,4,5]
  cv:=[1]})]
def Zh (x:ab×Unit):eA:=bh [(4,fun _=>dH x.1.2.2.1.length (fg (jU x.1) x.1.2.2.1) 3 [1] [1]),
 (10,fun _=>dH x.1.1.length (fg (iw x.1) x.1.1) 5 [1] [1])]
def qZ (l:ly):Bool:=decide (l.2.length<=60)&&decide (l.1.length<=100)
def sM (e:mA):Bool:=decide (e.1.length<=100)
def vL (e:gy):Bool:=decide (e.1.length<=100)
def Zo (x:ab×Unit):eA:=bh [(4,fun _=>dH x.1.2.2.2.1.length (fg qZ x.1.2.2.2.1) 3 [1] [1]),
 (9,fun _=>dH x.1.1.length (fg sM x.1.1) 4 [1] [1]),
 (14,fun _=>dH x.1.2.2.1.length (fg vL x.1.2.2.1) 5 [1] [1])]
theorem AA {n:Int} (h1: -9223372036854775808<=n) (h2:n<=9223372036854775807):bo .i64 n:=by
 show IntKind.min .i64<=n/\n<=IntKind.max .i64
 have e1:IntKind.min .i64= -9223372036854775808:=by decide
 have e2:IntKind.max .i64=9223372036854775807:=by decide
 omega
theorem aY {n:Int} (h1: -1000000000000<=n) (h2:n<=1000000000000):bo .i64 n:=AA (by omega) (by omega)
theorem dw {s n:Nat} (h:s<n) (hn:n<=aM):bo .i64 ((s:Int)+1):=by
 have:aM=9223372036854775807:=rfl
 exact AA (by omega) (by omega)
theorem cT {n b:Nat} (h:n<=2000000000) (hb:b<=1000):roomFor n b:=by
 unfold roomFor
 have:n*(b+1)<=2000000000*1001:=Nat.mul_le_mul h (by omega)
 omega
theorem Sd (a:Nat) (n:Int) (k:Nat) (e:n=(k:Int)):decide ((a:Int)>=n)=decide (k<=a):=by
 rw[e]
 by_cases h:k<=a
 ·rw[decide_eq_true h,decide_eq_true (by omega)]
 ·rw[decide_eq_false h,decide_eq_false (by omega)]
theorem leN (a:Nat) (n:Int) (k:Nat) (e:n=(k:Int)):decide ((a:Int)<=n)=decide (a<=k):=by
 rw[e]
 by_cases h:a<=k
 ·rw[decide_eq_true h,decide_eq_true (by omega)]
 ·rw[decide_eq_false h,decide_eq_false (by omega)]
theorem ltN (a:Nat) (n:Int) (k:Nat) (e:n=(k:Int)):decide ((a:Int)<n)= !decide (k<=a):=by
 rw[e]
 by_cases h:k<=a
 ·rw[decide_eq_true h,decide_eq_false (by omega)];rfl
 ·rw[decide_eq_false h,decide_eq_true (by omega)];rfl
theorem wc (a:Nat) (n:Int) (k:Nat) (e:n=(k:Int)):decide ((a:Int)>n)= !decide (a<=k):=by
 rw[e]
 by_cases h:a<=k
 ·rw[decide_eq_true h,decide_eq_false (by omega)];rfl
 ·rw[decide_eq_false h,decide_eq_true (by omega)];rfl
theorem eqN (a:Nat) (n:Int) (k:Nat) (e:n=(k:Int)):((a:Int)==n)=(a==k):=by
 rw[e]
 by_cases h:a=k
 ·subst h;rw[beq_self_eq_true,beq_self_eq_true]
 ·rw[beq_eq_false_iff_ne.2 h,beq_eq_false_iff_ne.2 (by omega)]
theorem F3 (a:Nat) (n:Int) (k:Nat) (e:n=(k:Int)):((a:Int)==n)=decide (a=k):=by
 rw[eqN a n k e]
 by_cases h:a=k
 ·subst h;rw[beq_self_eq_true,decide_eq_true rfl]
 ·rw[decide_eq_false h,beq_eq_false_iff_ne.2 h]
theorem CX (a n:Int):decide (a<n)= !decide (n<=a):=by
 by_cases h:n<=a
 ·rw[decide_eq_true h,decide_eq_false (by omega)];rfl
 ·rw[decide_eq_false h,decide_eq_true (by omega)];rfl
theorem Nu (a n:Int):decide (a>n)= !decide (a<=n):=by
 by_cases h:a<=n
 ·rw[decide_eq_true h,decide_eq_false (by omega)];rfl
 ·rw[decide_eq_false h,decide_eq_true (by omega)];rfl
theorem wY (a n:Int):decide (a>=n)=decide (n<=a):=rfl
theorem iy (a b:Int):(a !=b)= !(a==b):=rfl
theorem aZ {a b:Nat} {y:Bool} (e:y=decide ((a:Int)<(b:Int))) (h:y=true):a<b:=by
 rw[e] at h
 have:=of_decide_eq_true h
 omega
theorem bt {a b:Nat} {y:Bool} (e:y=decide ((a:Int)<(b:Int))) (h:y=false):b<=a:=by
 rw[e] at h
 have:=of_decide_eq_false h
 omega
theorem su {a b:Bool} (h:(bif a then true else b)=false):a=false/\b=false:=by
 cases a
 ·exact⟨rfl,h⟩
 ·cases h
theorem sH (a b:ak):(a.1==b.1&&(a.2==b.2&&true))=(a==b):=by
 rw[Bool.and_true]
 rfl
theorem gx {p:Nat->Bool}:∀{n:Nat},de p n=true↔∀i,i<n->p i=true
 |0=>⟨fun _ i hi=>by omega,fun _=>rfl⟩
 |n+1=>by
  show(de p n&&p n)=true↔_
  rw[Bool.and_eq_true,gx (n:=n)]
  exact⟨fun h i hi=>by
   by_cases e:i=n
   ·rw[e];exact h.2
   ·exact h.1 i (by omega),fun h=>⟨fun i hi=>h i (by omega),h n (by omega)⟩⟩
theorem iX {p:Nat->Bool}:∀{n:Nat},cj p n=false↔∀i,i<n->p i=false
 |0=>⟨fun _ i hi=>by omega,fun _=>rfl⟩
 |n+1=>by
  show(cj p n||p n)=false↔_
  rw[Bool.or_eq_false_iff,iX (n:=n)]
  exact⟨fun h i hi=>by
   by_cases e:i=n
   ·rw[e];exact h.2
   ·exact h.1 i (by omega),fun h=>⟨fun i hi=>h i (by omega),h n (by omega)⟩⟩
theorem ff {p:Nat->Bool} {k:Nat} (h:de p k=true) (h1:p k=true):de p (k+1)=true:=by
 show(de p k&&p k)=true
 rw[h,h1];rfl
theorem j6 {p:Nat->Bool} {k:Nat} (h:cj p k=false) (h1:p k=false):cj p (k+1)=false:=by
 show(cj p k||p k)=false
 rw[h,h1];rfl
theorem fX {p:Nat->Bool} {n k:Nat} (hk:k<n) (h:p k=false):de p n=false:=by
 cases hc:de p n with
 |false=>rfl
 |true=>rw[gx.1 hc k hk] at h;cases h
theorem nR {p:Nat->Bool} {n k:Nat} (hk:k<n) (h:p k=true):cj p n=true:=by
 cases hc:cj p n with
 |true=>rfl
 |false=>rw[iX.1 hc k hk] at h;cases h
theorem sL {p:Nat->Bool} {n k:Nat} (hk:k<n) (h0:cj p k=false) (h:p k=true):gI p n=some k:=by
 unfold gI
 rw[List.find?_range_eq_some]
 refine⟨h,by simpa using hk,fun j hj=> ?_⟩
 rw[iX.1 h0 j hj]
 rfl
theorem Bp {p:Nat->Bool} {n:Nat} (h0:cj p n=false):gI p n=none:=by
 unfold gI
 rw[List.find?_eq_none]
 intro x hx
 rw[iX.1 h0 x (List.mem_range.1 hx)]
 simp
theorem Bo {p:Nat->Bool} {n k:Nat} (h:gI p n=some k):k<n/\p k=true:=by
 unfold gI at h
 exact⟨List.mem_range.1 (List.mem_of_find?_eq_some h),List.find?_some h⟩
theorem eW {α:Type} {xs:List α} {s:Nat} (d:α) (h:s<xs.length):xs.getD s d=xs[s]:=by simp[List.getD_eq_getElem?_getD,h]
theorem fJ {α:Type} {l:List α} {s:Nat} (d:α) (h:s<l.length):l.getD s d∈l:=by rw[eW d h];exact List.getElem_mem h
theorem eQ {α:Type} {xs:List α} {s:Nat} (d:α) (h:s<xs.length):xs.take (s+1)=xs.take s++[xs.getD s d]:=by
 rw[List.take_succ_eq_append_getElem h,eW d h]
theorem any_succ {α:Type} {p:α->Bool} {xs:List α} {s:Nat} (d:α) (h:s<xs.length) (h0:(xs.take s).any p=false) (h1:p (xs.getD s d)=false):(xs.take (s+1)).any p=false:=by
 rw[eQ d h,List.any_append,h0]
 simp only[List.any_cons,List.any_nil,Bool.or_false,Bool.false_or]
 exact h1
theorem lU {α:Type} {p:α->Bool} {l:List α} {s:Nat} (h:l.length<=s) (h0:(l.take s).any p=false):l.any p=false:=by
 rw[List.take_of_length_le h] at h0
 exact h0
theorem nZ {α:Type} {p:α->Bool} {l:List α} {s:Nat} (d:α) (h:s<l.length) (h1:p (l.getD s d)=true):l.any p=true:=
 List.any_eq_true.2 ⟨_,fJ d h,h1⟩
theorem all_succ {α:Type} {p:α->Bool} {l:List α} {s:Nat} (d:α) (h:s<l.length) (h0:(l.take s).all p=true) (h1:p (l.getD s d)=true):(l.take (s+1)).all p=true:=by
 rw[eQ d h,List.all_append,h0]
 simpa using h1
theorem mM {α:Type} {p:α->Bool} {l:List α} {s:Nat} (d:α) (h:s<l.length) (h1:p (l.getD s d)=false):l.all p=false:=by
 cases hc:l.all p with
 |false=>rfl
 |true=>
  have:=List.all_eq_true.1 hc (l.getD s d) (fJ d h)
  rw[this] at h1
  cases h1
theorem jG {α:Type} {p:α->Bool} {l:List α} {s:Nat} (h:l.length<=s) (h0:(l.take s).all p=true):l.all p=true:=by
 rw[List.take_of_length_le h] at h0
 exact h0
theorem Dk {α:Type} {p:α->Bool} {xs:List α} {s:Nat} (d:α) (h:s<xs.length) (h0:(xs.take s).any p=false) (h1:p (xs.getD s d)=true):xs.find? p=some (xs.getD s d):=by
 rw[eW d h] at h1 ⊢
 rw[List.find?_eq_some_iff_getElem]
 refine⟨h1,s,h,rfl,fun j hj=> ?_⟩
 have:=List.any_eq_false.1 h0 xs[j] (by rw[List.mem_take_iff_getElem];exact⟨j,by omega,rfl⟩)
 simpa using this
theorem xU {α:Type} {p:α->Bool} {xs:List α} {s:Nat} (h:xs.length<=s) (h0:(xs.take s).any p=false):xs.find? p=none:=by
 rw[List.take_of_length_le h] at h0
 rw[List.find?_eq_none]
 intro x hx hp
 have:=List.any_eq_false.1 h0 x hx
 exact this hp
theorem MM {α:Type} [BEq α] [LawfulBEq α] {xs ys:List α} {y:Bool} (e:y=((xs.length:Int) !=(ys.length:Int))) (h:y=true):false=(xs==ys):=by
 rw[e] at h
 symm
 rw[beq_eq_false_iff_ne]
 rintro rfl
 simp at h
theorem EL {α:Type} {xs ys:List α} {y:Bool} (e:y=((xs.length:Int) !=(ys.length:Int))) (h:y=false):xs.length=ys.length:=by
 rw[e] at h
 have:(xs.length:Int)=ys.length:=by simpa using h
 omega
theorem BA {α:Type} {xs ys:List α} {s:Nat} (d:α) (hl:xs.length=ys.length) (h:xs.take s=ys.take s) (hs:s<xs.length) (e:xs.getD s d=ys.getD s d):xs.take (s+1)=ys.take (s+1):=by
 rw[eQ d hs,eQ d (hl▸hs),h,e]
theorem BB {α:Type} [BEq α] [LawfulBEq α] {xs ys:List α} {s:Nat} (hl:xs.length=ys.length) (h:xs.take s=ys.take s) (hs:xs.length<=s):true=(xs==ys):=by
 rw[List.take_of_length_le hs,List.take_of_length_le (hl▸hs)] at h
 simp[h]
theorem Eh {α:Type} [BEq α] [LawfulBEq α] {xs ys:List α} {s:Nat} (d:α) (e:xs.getD s d≠ys.getD s d):false=(xs==ys):=by
 symm
 rw[beq_eq_false_iff_ne]
 rintro rfl
 exact e rfl
theorem p8 {α β:Type} (f:α->List β) {l:List α} {s:Nat} (d:α) (h:s<l.length):(l.take (s+1)).flatMap f=(l.take s).flatMap f++f (l.getD s d):=by
 rw[eQ d h,List.flatMap_append]
 simp
theorem oa {α β:Type} (f:α->β) {l:List α} {s:Nat} (d:α) (h:s<l.length):(l.take (s+1)).map f=(l.take s).map f++[f (l.getD s d)]:=by
 rw[eQ d h,List.map_append]
 rfl
theorem tK {α:Type} {l:List α} {s:Nat} {y:Bool} (e:y=decide ((s:Int)<(l.length:Int))) (h:y=false):l.take s=l:=
 List.take_of_length_le (bt e h)
def pQ (p:ab):Prop:=p.1.length<=aM/\p.2.1.length<=aM/\p.2.2.1.length<=aM/\p.2.2.2.1.length<=aM
theorem lj {p:ab} (h:PlanT.wf p):pQ p:=⟨h.1.1,h.2.1.1,h.2.2.1.1,h.2.2.2.1.1⟩
theorem v37 (a:List Int) (b:List Int):ah (aj aA []) Tryz.f37 V7 (a37 (a,b,())) (a,b,())=(
U ((↑a.length:Int) !=(↑b.length:Int)) fun(y2:Bool)=>
(y2=true->false=(a==b)/\True)/\
(y2=false->
(∃(fB:Nat),(fB<=a.length/\oc a b fB)/\(↑fB:Int)=(0:Int)/\a=a/\b=b/\True)/\
∀(s3:Nat),
U (decide ((↑s3:Int)<(↑a.length:Int))) fun(y4:Bool)=>
U (a.getD (↑s3:Int).toNat (0:Int) !=b.getD (↑s3:Int).toNat (0:Int)) fun(y5:Bool)=>
s3<=a.length/\oc a b s3->
(y4=true->
aL (↑s3:Int) a.length/\
aL (↑s3:Int) b.length/\
(y5=true->false=(a==b)/\True)/\
(y5=false->
bo IntKind.i64 ((↑s3:Int)+(1:Int))/\
∃(eV:Nat),(eV<=a.length/\oc a b eV)/\a.length - eV<a.length - s3/\(↑eV:Int)=(↑s3:Int)+(1:Int)/\a=a/\b=b/\True))/\
(y4=false->true=(a==b)/\True))):=by kernel_rfl
theorem b37 (a:List Int) (b:List Int) (hw:a.length<=aM):ah (aj aA []) Tryz.f37 V7 (a37 (a,b,())) (a,b,()):=by
 rw[v37]
 refine U.mk fun y2 e2=> ?_
 simp only[true_and,and_true,Int.toNat_natCast]
 refine⟨MM e2,fun h=> ?_⟩
 have h:=EL e2 h
 refine⟨⟨0,⟨by omega,h,rfl⟩,rfl⟩,fun s=>U.mk fun y4 e4=>U.mk fun y5 e5=> ?_⟩
 rintro⟨h1,h2,h3⟩
 refine⟨fun hs=> ?_,fun hs=> ?_⟩
 ·have hs:=aZ e4 hs
  refine⟨⟨by omega,by omega⟩,⟨by omega,by omega⟩,fun e=> ?_,fun e=>⟨dw hs hw,s+1,⟨by omega,h,?_⟩,by omega,by omega⟩⟩
  ·exact Eh (s:=s) 0 (by rw[e5] at e;simpa using e)
  ·exact BA 0 h h3 hs (by rw[e5] at e;simpa using e)
 ·exact BB h h3 (bt e4 hs)
theorem ahN:aN Tryz.prog 37 V7:=
 aN.b3 (l:=[]) (A:=a37) aJ trivial Tryz.func37 (by kernel_rfl) (by kernel_rfl) fun x hw _=>b37 x.1 x.2.1 hw.1.1
theorem ahf (a:Int) (x:Int) (b:Int) (y:Int):ah (aj aA []) Tryz.f100 TY ar (a,x,b,y,())=(
U ((a,x),b,y) fun(y4:(Int×Int)×Int×Int)=>y4=y4/\True):=by kernel_rfl
theorem adP:aN Tryz.prog 100 TY:=
 aN.b3 (l:=[]) (A:=fun _=>ar) aJ trivial Tryz.func100 (by kernel_rfl) (by kernel_rfl) fun x _ hp=>by
  obtain⟨a,x,b,y,⟨⟩⟩:=x
  rw[ahf]
  exact U.mk fun y4 e4=>⟨rfl,trivial⟩
theorem ago (n:Int) (lo:Int) (hi:Int):ah (aj aA []) Tryz.f224 Qi ar (n,lo,hi,())=(
(bif decide (n>=lo) then decide (n<=hi) else false)=rq lo hi n/\True):=by kernel_rfl
theorem acG:aN Tryz.prog 224 Qi:=
 aN.b3 (l:=[]) (A:=fun _=>ar) aJ trivial Tryz.func224 (by kernel_rfl) (by kernel_rfl) fun x _ hp=>by
  obtain⟨n,lo,hi,⟨⟩⟩:=x
  rw[ago]
  refine⟨?_,trivial⟩
  have key:∀a b:Bool,(bif a then b else false)=(a&&b):=by decide
  exact key _ _
theorem agn (s:List UInt8):ah (aj aA []) Tryz.f225 Lb (Za (s,())) (s,())=(
(∃(rn:Nat),(rn<=s.length/\dX (jv s) rn)/\(↑rn:Int)=(0:Int)/\s=s/\True)/\
∀(s1:Nat),
U (decide ((↑s1:Int)<(↑s.length:Int))) fun(y2:Bool)=>
U
(bif
!bif bif decide ((↑(s.getD (↑s1:Int).toNat (0:UInt8)).toNat:Int)>=(97:Int)) then decide ((↑(s.getD (↑s1:Int).toNat (0:UInt8)).toNat:Int)<=(122:Int)) else false then true
else bif decide ((↑(s.getD (↑s1:Int).toNat (0:UInt8)).toNat:Int)>=(65:Int)) then decide ((↑(s.getD (↑s1:Int).toNat (0:UInt8)).toNat:Int)<=(90:Int)) else false then
bif bif(↑s1:Int)==(0:Int) then true else decide ((↑(s.getD (↑s1:Int).toNat (0:UInt8)).toNat:Int)<(48:Int)) then true
else decide ((↑(s.getD (↑s1:Int).toNat (0:UInt8)).toNat:Int)>(57:Int))
else false)
fun(y3:Bool)=>
s1<=s.length/\dX (jv s) s1->
(y2=true->
aL (↑s1:Int) s.length/\
(y3=true->false=kB s/\True)/\
(y3=false->
bo IntKind.i64 ((↑s1:Int)+(1:Int))/\
∃(OC:Nat),(OC<=s.length/\dX (jv s) OC)/\s.length - OC<s.length - s1/\(↑OC:Int)=(↑s1:Int)+(1:Int)/\s=s/\True))/\
(y2=false->(bif decide ((↑s.length:Int)>=(1:Int)) then decide ((↑s.length:Int)<=(8:Int)) else false)=kB s/\True)):=by kernel_rfl
theorem ajU (s:n4) (hw:s.length<=aM):ah (aj aA []) Tryz.f225 Lb (Za (s,())) (s,()):=by
 rw[agn]
 simp only[true_and,and_true,Int.toNat_natCast]
 refine⟨⟨0,⟨by omega,rfl⟩,rfl⟩,fun i=>U.mk fun y2 e2=>U.mk fun y3 e3=> ?_⟩
 rintro⟨h1,h2⟩
 have hc:jv s i= !y3:=by
  rw[Sd _ 97 97 rfl,leN _ 122 122 rfl,Sd _ 65 65 rfl,leN _ 90 90 rfl,eqN _ 0 0 rfl,ltN _ 48 48 rfl,wc _ 57 57 rfl] at e3
  rw[e3]
  unfold jv u3 NH
  have key:∀a b c d z e f:Bool,(((a&&b)||(c&&d))||(!z&&(e&&f)))= !(bif !(bif(bif a then b else false) then true else(bif c then d else false)) then(bif(bif z then true else !e) then true else !f) else false):=by decide
  exact key _ _ _ _ _ _ _
 refine⟨fun hs=> ?_,fun hs=> ?_⟩
 ·have hs:=aZ e2 hs
  refine⟨⟨by omega,by omega⟩,fun e=> ?_,fun e=>⟨dw hs hw,i+1,⟨by omega,?_⟩,by omega,by omega⟩⟩
  ·unfold kB
   rw[fX hs (by rw[hc,e];rfl)]
   rfl
  ·exact ff h2 (by rw[hc,e];rfl)
 ·have hs:=bt e2 hs
  have:i=s.length:=by omega
  subst this
  have h2:de (jv s) s.length=true:=h2
  unfold kB
  rw[h2,Sd _ 1 1 rfl,leN _ 8 8 rfl]
  have key:∀a b:Bool,(bif a then b else false)=(true&&(a&&b)):=by decide
  exact key _ _
theorem acF:aN Tryz.prog 225 Lb:=
 aN.b3 (l:=[]) (A:=Za) aJ trivial Tryz.func225 (by kernel_rfl) (by kernel_rfl) fun x hw _=>ajU x.1 hw.1
theorem v226 (k:Int):ah (aj aA []) Tryz.f226 Bq ar (k,())=(
((k==(1:Int))=true->(2:Int)=cQ k/\True)/\
((k==(1:Int))=false->
((k==(2:Int))=true->(3:Int)=cQ k/\True)/\
((k==(2:Int))=false->
((k==(3:Int))=true->(4:Int)=cQ k/\True)/\
((k==(3:Int))=false->((k==(4:Int))=true->(1:Int)=cQ k/\True)/\((k==(4:Int))=false->(0:Int)=cQ k/\True))))):=by kernel_rfl
theorem Rg:aN Tryz.prog 226 Bq:=
 aN.b3 (l:=[]) (A:=fun _=>ar) aJ trivial Tryz.func226 (by kernel_rfl) (by kernel_rfl) fun x _ hp=>by
  obtain⟨k,⟨⟩⟩:=x
  rw[v226]
  unfold cQ
  cases k==1<;>cases k==2<;>cases k==3<;>cases k==4<;>simp
theorem F5 (k:Int):0<=cQ k/\cQ k<=4:=by
 unfold cQ
 cases k==1<;>cases k==2<;>cases k==3<;>cases k==4<;>simp
theorem v228 (p:ab) (e:Int):ah (aj aA []) Tryz.f228 pn ar (p,e,())=(
U (bif decide (e<(0:Int)) then true else decide (e>=(↑p.1.length:Int))) fun(y2:Bool)=>
(y2=true->(0:Int)=aK p e/\True)/\(y2=false->aL e p.1.length/\(p.1.getD e.toNat ([],(0:Int),(0:Int))).2.1=aK p e/\True)):=by kernel_rfl
theorem U5 {p:ab} {e:Int} (h:(decide (e<0)||decide ((p.1.length:Int)<=e))=true):aK p e=0:=by
 unfold aK
 rw[h]
 rfl
theorem Ph {p:ab} {e:Int} (h0:0<=e) (h1:e<p.1.length):aK p e=(p.1.getD e.toNat zE).2.1:=by
 unfold aK
 rw[decide_eq_false (by omega),decide_eq_false (by omega)]
 rfl
theorem BL:aN Tryz.prog 228 pn:=
 aN.b3 (l:=[]) (A:=fun _=>ar) aJ trivial Tryz.func228 (by kernel_rfl) (by kernel_rfl) fun x _ hp=>by
  obtain⟨p,e,⟨⟩⟩:=x
  rw[v228]
  refine U.mk fun y2 e2=>⟨fun h=>⟨?_,trivial⟩,fun h=> ?_⟩
  ·refine(U5 ?_).symm
   rw[<-h,e2,wY]
   have key:∀a b:Bool,(a||b)=(bif a then true else b):=by decide
   exact key _ _
  ·rw[h] at e2
   obtain⟨h1,h2⟩:=su e2.symm
   have h1:=of_decide_eq_false h1
   have h2:=of_decide_eq_false h2
   exact⟨⟨by omega,by omega⟩,(Ph (by omega) (by omega)).symm,trivial⟩
theorem agw (p:ab) (e:Int):ah (aj aA [(228,pn)]) Tryz.f207 yu ar (p,e,())=(
True/\aK p e=aK p e/\True):=by kernel_rfl
theorem Rj:aN Tryz.prog 207 yu:=
 aN.b3 (l:=[(228,pn)]) (A:=fun _=>ar) aJ ⟨BL,trivial⟩ Tryz.func207 (by kernel_rfl) (by kernel_rfl) fun x _ hp=>by
  obtain⟨p,e,⟨⟩⟩:=x
  rw[agw]
  exact⟨trivial,rfl,trivial⟩
theorem agl (p:ab) (e:Int):ah (aj aA []) Tryz.f231 Qh ar (p,e,())=(
U (bif decide (e<(0:Int)) then true else decide (e>=(↑p.1.length:Int))) fun(y2:Bool)=>
(y2=true->(0:Int)=q7 p e/\True)/\(y2=false->aL e p.1.length/\(p.1.getD e.toNat ([],(0:Int),(0:Int))).2.2=q7 p e/\True)):=by kernel_rfl
theorem acD:aN Tryz.prog 231 Qh:=
 aN.b3 (l:=[]) (A:=fun _=>ar) aJ trivial Tryz.func231 (by kernel_rfl) (by kernel_rfl) fun x _ hp=>by
  obtain⟨p,e,⟨⟩⟩:=x
  rw[agl]
  refine U.mk fun y2 e2=>⟨fun h=>⟨?_,trivial⟩,fun h=> ?_⟩
  ·unfold q7
   have:(decide (e<0)||decide ((p.1.length:Int)<=e))=true:=by
    rw[<-h,e2,wY]
    have key:∀a b:Bool,(a||b)=(bif a then true else b):=by decide
    exact key _ _
   rw[this]
   rfl
  ·rw[h] at e2
   obtain⟨h1,h2⟩:=su e2.symm
   have nY:=of_decide_eq_false h1
   have zF:=of_decide_eq_false h2
   refine⟨⟨by omega,by omega⟩,?_,trivial⟩
   unfold q7
   rw[decide_eq_false (by omega),decide_eq_false (by omega)]
   rfl
theorem agv (p:ab) (s:Int):ah (aj aA []) Tryz.f213 TN ar (p,s,())=(
U (bif decide (s<(0:Int)) then true else decide (s>=(↑p.2.2.1.length:Int))) fun(y2:Bool)=>
(y2=true->((0:Int),(0:Int))=(lL p s).1/\false=(lL p s).2/\True)/\
(y2=false->aL s p.2.2.1.length/\(p.2.2.1.getD s.toNat ([],((0:Int),(0:Int)),false)).2.1=(lL p s).1/\true=(lL p s).2/\True)):=by kernel_rfl
theorem acP:aN Tryz.prog 213 TN:=
 aN.b3 (l:=[]) (A:=fun _=>ar) aJ trivial Tryz.func213 (by kernel_rfl) (by kernel_rfl) fun x _ hp=>by
  obtain⟨p,e,⟨⟩⟩:=x
  rw[agv]
  refine U.mk fun y2 e2=>⟨fun h=> ?_,fun h=> ?_⟩
  ·have:(decide (e<0)||decide ((p.2.2.1.length:Int)<=e))=true:=by
    rw[<-h,e2,wY]
    have key:∀a b:Bool,(a||b)=(bif a then true else b):=by decide
    exact key _ _
   unfold lL
   rw[this]
   exact⟨rfl,rfl,trivial⟩
  ·rw[h] at e2
   obtain⟨h1,h2⟩:=su e2.symm
   have nY:=of_decide_eq_false h1
   have zF:=of_decide_eq_false h2
   refine⟨⟨by omega,by omega⟩,?_⟩
   unfold lL
   rw[decide_eq_false (by omega),decide_eq_false (by omega)]
   exact⟨rfl,rfl,trivial⟩
theorem agx (p:ab) (x:Int×Int):ah (aj aA [(226,Bq)]) Tryz.f205 Br ar (p,x,())=(
U (bif bif decide (x.1>=(0:Int)) then decide (x.1<(↑p.1.length:Int)) else false then decide (x.2>=(0:Int)) else false) fun(y2:Bool)=>
U (cQ (p.1.getD x.1.toNat ([],(0:Int),(0:Int))).2.1) fun(y3:Int)=>
(y2=true->aL x.1 p.1.length)/\(y2=true->True)/\(bif y2 then decide (x.2<y3) else false)=dC p x/\True):=by kernel_rfl
theorem Rn:aN Tryz.prog 205 Br:=
 aN.b3 (l:=[(226,Bq)]) (A:=fun _=>ar) aJ ⟨Rg,trivial⟩ Tryz.func205 (by kernel_rfl) (by kernel_rfl) fun x _ hp=>by
  obtain⟨p,x,⟨⟩⟩:=x
  rw[agx]
  refine U.mk fun y2 e2=>U.mk fun y3 e3=> ?_
  rw[wY,wY] at e2
  cases h0:decide (0<=x.1) with
  |false=>
   rw[h0] at e2
   refine⟨(fun h=>by rw[e2] at h;cases h),fun _=>trivial,?_,trivial⟩
   rw[e2]
   unfold dC
   rw[h0]
   rfl
  |true=>
   cases h1:decide (x.1<(p.1.length:Int)) with
   |false=>
    rw[h0,h1] at e2
    refine⟨(fun h=>by rw[e2] at h;cases h),fun _=>trivial,?_,trivial⟩
    rw[e2]
    unfold dC
    rw[h0,h1]
    rfl
   |true=>
    have h0':=of_decide_eq_true h0
    have nY:=of_decide_eq_true h1
    refine⟨fun h=>⟨h0',nY⟩,fun _=>trivial,?_,trivial⟩
    have e3:y3=cQ (aK p x.1):=by rw[e3,Ph h0' nY];rfl
    rw[e2,h0,h1,e3]
    unfold dC
    rw[h0,h1]
    have key:∀a b:Bool,(bif(bif(bif true then true else false) then a else false) then b else false)=(true&&(true&&(a&&b))):=by decide
    exact key _ _
theorem xQ {p:ab} {x:ak} (h:dC p x=true):(0<=x.1/\x.1<p.1.length)/\0<=x.2/\x.2<cQ (aK p x.1):=by
 unfold dC at h
 simp only[Bool.and_eq_true] at h
 exact⟨⟨of_decide_eq_true h.1,of_decide_eq_true h.2.1⟩,of_decide_eq_true h.2.2.1,of_decide_eq_true h.2.2.2⟩
theorem uW {p:ab} {x:ak} (h:dC p x=true):0<=x.2/\x.2<=3:=by
 have h1:=(xQ h).2
 have h2:=F5 (aK p x.1)
 omega
theorem v227 (p:ab) (x:Int×Int):ah (aj aA []) Tryz.f227 ow (a227 (p,x,())) (p,x,())=(
U (((0:Int),(0:Int)),(0:Int),(0:Int)) fun(y2:(Int×Int)×Int×Int)=>
(∃(fB:Nat),
(fB<=p.2.1.length/\kM (tu x) p.2.1 fB)/\
(↑fB:Int)=(0:Int)/\
ay p (x.1=x.1/\x.2=x.2/\(0:Int)=(0:Int)/\(0:Int)=(0:Int)/\True))/\
∀(s3:Nat),
U (decide ((↑s3:Int)<(↑p.2.1.length:Int))) fun(y4:Bool)=>
U (p.2.1.getD (↑s3:Int).toNat y2) fun(y5:(Int×Int)×Int×Int)=>
U (y5.1.1==x.1&&(y5.1.2==x.2&&true)) fun(y6:Bool)=>
U (y5.2.1==x.1&&(y5.2.2==x.2&&true)) fun(y7:Bool)=>
s3<=p.2.1.length/\kM (tu x) p.2.1 s3->
(y4=true->
aL (↑s3:Int) p.2.1.length/\
(y6=true->aL (↑s3:Int) p.2.1.length/\y5.2=(bx p x).1/\true=(bx p x).2/\True)/\
(y6=false->
aL (↑s3:Int) p.2.1.length/\
(y7=true->aL (↑s3:Int) p.2.1.length/\y5.1=(bx p x).1/\true=(bx p x).2/\True)/\
(y7=false->
bo IntKind.i64 ((↑s3:Int)+(1:Int))/\
∃(jq:Nat),
(jq<=p.2.1.length/\kM (tu x) p.2.1 jq)/\
p.2.1.length - jq<p.2.1.length - s3/\
(↑jq:Int)=(↑s3:Int)+(1:Int)/\
ay p (x.1=x.1/\x.2=x.2/\(0:Int)=(0:Int)/\(0:Int)=(0:Int)/\True))))/\
(y4=false->((0:Int),(0:Int))=(bx p x).1/\false=(bx p x).2/\True)):=by kernel_rfl
theorem ajT (p:ab) (x:ak) (hw:pQ p):ah (aj aA []) Tryz.f227 ow (a227 (p,x,())) (p,x,()):=by
 rw[v227]
 refine U.mk fun y2 e2=> ?_
 simp only[dp,true_and,and_true,Int.toNat_natCast]
 refine⟨⟨0,⟨by omega,rfl⟩,rfl⟩,fun s=>U.mk fun y4 e4=>U.mk fun y5 e5=>U.mk fun y6 e6=>U.mk fun y7 e7=> ?_⟩
 rintro⟨h1,h2⟩
 have h2:(p.2.1.take s).any (tu x)=false:=h2
 have e6:y6=(y5.1==x):=by rw[e6];exact sH _ _
 have e7:y7=(y5.2==x):=by rw[e7];exact sH _ _
 have hj:tu x y5=(y6||y7):=by rw[e6,e7];rfl
 refine⟨fun hs=> ?_,fun hs=> ?_⟩
 ·have hs:=aZ e4 hs
  have nJ:aL (s:Int) p.2.1.length:=⟨by omega,by omega⟩
  have hf:tu x y5=true->bx p x=(bif y5.1==x then y5.2 else y5.1,true):=fun h=>by
   have hf:p.2.1.find? (tu x)=some y5:=by
    rw[e5] at h ⊢
    exact Dk y2 hs h2 h
   unfold bx
   exact congrArg (fun o=>xF o x) hf
  refine⟨nJ,fun h6=>⟨nJ,?_⟩,fun h6=>⟨nJ,fun h7=>⟨nJ,?_⟩,fun h7=>⟨dw hs hw.2.1,s+1,⟨by omega,?_⟩,by omega,by omega⟩⟩⟩
  ·rw[hf (by rw[hj,h6];rfl),<-e6,h6]
   exact⟨rfl,rfl⟩
  ·rw[hf (by rw[hj,h6,h7];rfl),<-e6,h6]
   exact⟨rfl,rfl⟩
  ·exact any_succ y2 hs h2 (by rw[<-e5,hj,h6,h7];rfl)
 ·have hf:p.2.1.find? (tu x)=none:=xU (bt e4 hs) h2
  have:bx p x=((0,0),false):=by
   unfold bx
   exact congrArg (fun o=>xF o x) hf
  rw[this]
  exact⟨rfl,rfl⟩
theorem ze:aN Tryz.prog 227 ow:=
 aN.b3 (l:=[]) (A:=a227) aJ trivial Tryz.func227 (by kernel_rfl) (by kernel_rfl) fun x hw _=>ajT x.1 x.2.1 (lj hw.1)
theorem o7 {p:ab} {x:ak} (h:(bx p x).2=true):(bx p x).1∈bW p:=by
 unfold bx at h ⊢
 cases hf:p.2.1.find? (fun j=>j.1==x||j.2==x) with
 |none=>rw[hf] at h;cases h
 |some j=>
  have hm:=List.mem_of_find?_eq_some hf
  unfold bW
  rw[List.mem_flatMap]
  refine⟨j,hm,?_⟩
  show(bif j.1==x then j.2 else j.1)∈[j.1,j.2]
  cases j.1==x<;>simp
theorem v229 (p:ab) (x:Int×Int):ah (aj aA []) Tryz.f229 yr (a229 (p,x,())) (p,x,())=(
(∃(dr:Nat),
(dr<=p.2.2.1.length/\eb (fF p x) dr)/\
(↑dr:Int)=(0:Int)/\
ay p (x.1=x.1/\x.2=x.2/\True))/\
∀(s2:Nat),
U (decide ((↑s2:Int)<(↑p.2.2.1.length:Int))) fun(y3:Bool)=>
U (p.2.2.1.getD (↑s2:Int).toNat ([],((0:Int),(0:Int)),false)).2.1 fun(y4:Int×Int)=>
U (y4.1==x.1&&(y4.2==x.2&&true)) fun(y5:Bool)=>
s2<=p.2.2.1.length/\eb (fF p x) s2->
(y3=true->
aL (↑s2:Int) p.2.2.1.length/\
(y5=true->(↑s2:Int)=cc p x/\True)/\
(y5=false->
bo IntKind.i64 ((↑s2:Int)+(1:Int))/\
∃(eV:Nat),
(eV<=p.2.2.1.length/\eb (fF p x) eV)/\
p.2.2.1.length - eV<p.2.2.1.length - s2/\
(↑eV:Int)=(↑s2:Int)+(1:Int)/\
ay p (x.1=x.1/\x.2=x.2/\True)))/\
(y3=false->(-1:Int)=cc p x/\True)):=by kernel_rfl
theorem ajS (p:ab) (x:ak) (hw:pQ p):ah (aj aA []) Tryz.f229 yr (a229 (p,x,())) (p,x,()):=by
 rw[v229]
 simp only[dp,true_and,and_true,Int.toNat_natCast]
 refine⟨⟨0,⟨by omega,rfl⟩,rfl⟩,fun s=>U.mk fun y3 e3=>U.mk fun y4 e4=>U.mk fun y5 e5=> ?_⟩
 rintro⟨h1,h2⟩
 have h2:cj (fF p x) s=false:=h2
 have e5:fF p x s=y5:=by rw[e5,sH,e4];rfl
 refine⟨fun hs=> ?_,fun hs=> ?_⟩
 ·have hs:=aZ e3 hs
  refine⟨⟨by omega,by omega⟩,fun h=> ?_,fun h=>⟨dw hs hw.2.2.1,s+1,⟨by omega,?_⟩,by omega,by omega⟩⟩
  ·unfold cc
   exact(congrArg wa (sL (p:=fF p x) hs h2 (by rw[e5,h]))).symm
  ·exact j6 h2 (by rw[e5,h])
 ·have hs:=bt e3 hs
  have:s=p.2.2.1.length:=by omega
  subst this
  unfold cc
  exact(congrArg wa (Bp (p:=fF p x) h2)).symm
theorem Rf:aN Tryz.prog 229 yr:=
 aN.b3 (l:=[]) (A:=a229) aJ trivial Tryz.func229 (by kernel_rfl) (by kernel_rfl) fun x hw _=>ajS x.1 x.2.1 (lj hw.1)
theorem v31 (l:List Int) (n:Int):ah (aj aA []) Tryz.f31 yB (a31 (l,n,())) (l,n,())=(
(∃(dr:Nat),(dr<=l.length/\kM (fun(y:Int)=>y==n) l dr)/\(↑dr:Int)=(0:Int)/\l=l/\n=n/\True)/\
∀(s2:Nat),
U (decide ((↑s2:Int)<(↑l.length:Int))) fun(y3:Bool)=>
U (l.getD (↑s2:Int).toNat (0:Int)==n) fun(y4:Bool)=>
s2<=l.length/\kM (fun(y:Int)=>y==n) l s2->
(y3=true->
aL (↑s2:Int) l.length/\
(y4=true->true=bN l n/\True)/\
(y4=false->
bo IntKind.i64 ((↑s2:Int)+(1:Int))/\
∃(gO:Nat),(gO<=l.length/\kM (fun(y:Int)=>y==n) l gO)/\l.length - gO<l.length - s2/\(↑gO:Int)=(↑s2:Int)+(1:Int)/\l=l/\n=n/\True))/\
(y3=false->false=bN l n/\True)):=by kernel_rfl
theorem b31 (l:List Int) (n:Int) (hw:l.length<=aM):ah (aj aA []) Tryz.f31 yB (a31 (l,n,())) (l,n,()):=by
 rw[v31]
 simp only[true_and,and_true,Int.toNat_natCast]
 refine⟨⟨0,⟨by omega,rfl⟩,rfl⟩,fun s=>U.mk fun y3 e3=>U.mk fun y4 e4=> ?_⟩
 rintro⟨h1,h2⟩
 have h2:(l.take s).any (fun y=>y==n)=false:=h2
 refine⟨fun hs=> ?_,fun hs=> ?_⟩
 ·have hs:=aZ e3 hs
  refine⟨⟨by omega,by omega⟩,fun h=> ?_,fun h=>⟨dw hs hw,s+1,⟨by omega,?_⟩,by omega,by omega⟩⟩
  ·unfold bN
   exact(nZ (p:=fun y=>y==n) 0 hs (by rw[<-h,e4])).symm
  ·exact any_succ (p:=fun y=>y==n) 0 hs h2 (by rw[<-h,e4])
 ·unfold bN
  exact(lU (bt e3 hs) h2).symm
theorem OZ:aN Tryz.prog 31 yB:=
 aN.b3 (l:=[]) (A:=a31) aJ trivial Tryz.func31 (by kernel_rfl) (by kernel_rfl) fun x hw _=>b31 x.1 x.2.1 hw.1.1
theorem agm (v:Int) (b:Int):ah (aj aA []) Tryz.f230 La (Y9 (v,b,())) (v,b,())=(
U (bif bif bif decide (v<(0:Int)) then true else decide (v>(60:Int)) then true else decide (b<(1:Int)) then true else decide (b>(10:Int))) fun(y2:Bool)=>
(y2=true->(0:Int)=m9 v b/\True)/\
(y2=false->
bo IntKind.i64 (v - b)/\
(∃(fB:Nat),(fB<=(60:Nat)/\eb (gR v b) fB)/\v - b*((↑fB:Int)+(1:Int))=v - b/\ka v b fB=(0:Int)/\b=b/\True)/\
∀(s3:Nat),
U (v - b*((↑s3:Int)+(1:Int))) fun(y4:Int)=>
U (ka v b s3+y4) fun(y5:Int)=>
s3<=(60:Nat)/\eb (gR v b) s3->
(decide (y4>(0:Int))=true->
bo IntKind.i64 y5/\
bo IntKind.i64 (y4 - b)/\
∃(eV:Nat),
(eV<=(60:Nat)/\eb (gR v b) eV)/\(60:Nat) - eV<(60:Nat) - s3/\v - b*((↑eV:Int)+(1:Int))=y4 - b/\ka v b eV=y5/\b=b/\True)/\
(decide (y4>(0:Int))=false->ka v b s3=m9 v b/\True))):=by kernel_rfl
theorem yL {v b:Int} (hb:1<=b) (k:Nat):b*((k:Int)+1)>=(k:Int)+1:=by
 have:=Int.mul_le_mul_of_nonneg_right hb (show(0:Int)<=(k:Int)+1 by omega)
 rw[Int.one_mul] at this
 exact this
theorem vn {v b:Int} (hv:0<=v/\v<=60) (hb:1<=b):∀k,cj (gR v b) k=false->0<=ka v b k/\ka v b k<=60*(k:Int)
 |0,_=>by show(0:Int)<=0/\(0:Int)<=60*((0:Nat):Int);omega
 |k+1,h=>by
  have h':(cj (gR v b) k||gR v b k)=false:=h
  rw[Bool.or_eq_false_iff] at h'
  obtain⟨i1,i2⟩:=vn hv hb k h'.1
  have h2:=of_decide_eq_false h'.2
  have h3:=yL (v:=v) hb k
  show 0<=ka v b k+(v - b*((k:Int)+1))/\ka v b k+(v - b*((k:Int)+1))<=60*((k+1:Nat):Int)
  generalize b*((k:Int)+1)=q at *
  omega
theorem ajR (v:Int) (b:Int):ah (aj aA []) Tryz.f230 La (Y9 (v,b,())) (v,b,()):=by
 rw[agm]
 refine U.mk fun y2 e2=> ?_
 simp only[true_and,and_true,Int.toNat_natCast]
 have e2:y2= !(rq 0 60 v&&rq 1 10 b):=by
  rw[e2,CX,Nu,CX,Nu]
  unfold rq
  have key:∀a b c d:Bool,(bif(bif(bif !a then true else !b) then true else !c) then true else !d)= !((a&&b)&&(c&&d)):=by decide
  exact key _ _ _ _
 refine⟨fun h=> ?_,fun h=> ?_⟩
 ·rw[e2] at h
  simp only[Bool.not_eq_true'] at h
  unfold m9
  rw[h]
  rfl
 rw[e2] at h
 simp only[Bool.not_eq_false'] at h
 have hS:m9 v b=ka v b (qA v b):=by
  unfold m9
  rw[h]
  rfl
 rw[Bool.and_eq_true] at h
 unfold rq at h
 rw[Bool.and_eq_true,Bool.and_eq_true] at h
 obtain⟨⟨h1,h2⟩,h3,h4⟩:=h
 have h1:=of_decide_eq_true h1
 have h2:=of_decide_eq_true h2
 have h3:=of_decide_eq_true h3
 have h4:=of_decide_eq_true h4
 refine⟨aY (by omega) (by omega),⟨0,⟨by omega,rfl⟩,by simp,rfl⟩,fun s=>U.mk fun y4 e4=>U.mk fun y5 e5=> ?_⟩
 rintro⟨g1,g2⟩
 have g2:cj (gR v b) s=false:=g2
 have hr:=vn ⟨h1,h2⟩ h3 s g2
 have hq:=yL (v:=v) h3 s
 refine⟨fun h=> ?_,fun h=> ?_⟩
 ·have h:=of_decide_eq_true h
  refine⟨aY (by omega) (by omega),aY (by omega) (by omega),s+1,⟨by omega,?_⟩,by omega,?_,?_⟩
  ·exact j6 g2 (decide_eq_false (by omega))
  ·have:((s+1:Nat):Int)=(s:Int)+1:=by omega
   rw[this,e4,Int.mul_add b ((s:Int)+1) 1,Int.mul_one]
   omega
  ·rw[e5,e4]
   rfl
 ·have h:=of_decide_eq_false h
  have:qA v b=s:=by
   unfold qA
   have:=sL (p:=gR v b) (n:=100) (k:=s) (by omega) g2 (decide_eq_true (by omega))
   exact congrArg (fun o=>Option.getD o 0) this
  rw[hS,this]
theorem acE:aN Tryz.prog 230 La:=
 aN.b3 (l:=[]) (A:=Y9) aJ trivial Tryz.func230 (by kernel_rfl) (by kernel_rfl) fun x hw _=>ajR x.1 x.2.1
theorem Dm (v b:Int):0<=m9 v b/\m9 v b<=10000:=by
 unfold m9
 cases h:(rq 0 60 v&&rq 1 10 b) with
 |false=>exact⟨Int.le_refl 0,show(0:Int)<=10000 by decide⟩
 |true=>
  rw[Bool.and_eq_true] at h
  unfold rq at h
  rw[Bool.and_eq_true,Bool.and_eq_true] at h
  obtain⟨⟨h1,h2⟩,h3,h4⟩:=h
  have h1:=of_decide_eq_true h1
  have h2:=of_decide_eq_true h2
  have h3:=of_decide_eq_true h3
  show 0<=ka v b (qA v b)/\ka v b (qA v b)<=10000
  have hk:qA v b<=99/\cj (gR v b) (qA v b)=false:=by
   unfold qA
   cases hf:gI (fun k=>decide (v - b*((k:Int)+1)<=0)) 100 with
   |none=>exact⟨by decide,rfl⟩
   |some k=>
    have h5:=(Bo hf).1
    refine⟨by show k<=99;omega,?_⟩
    show cj (gR v b) k=false
    rw[iX]
    intro i hi
    unfold gI at hf
    rw[List.find?_range_eq_some] at hf
    have:=hf.2.2 i hi
    simp only[Bool.not_eq_true'] at this
    exact this
  have:=vn ⟨h1,h2⟩ h3 _ hk.2
  omega
theorem agb (p:ab) (e:Int) (i:Int):ah (aj aA [(205,Br),(228,pn)]) Tryz.f254 F9 ar (p,e,i,())=(
U (!dC p (e,i)) fun(y3:Bool)=>
True/\
(y3=true->[]=bG p e i/\True)/\
(y3=false->
True/\
((aK p e==(1:Int))=true->bo IntKind.i64 ((1:Int) - i)/\(List.replicate (1:Nat) ((0:Int),(0:Int))).set (0:Nat) ((1:Int) - i,(0:Int))=bG p e i/\True)/\
((aK p e==(1:Int))=false->
((aK p e==(3:Int))=true->(List.replicate (1:Nat) ((0:Int),(0:Int))).set (0:Nat) (bitsOf BinOp.xor IntKind.i64 i (1:Int),(0:Int))=bG p e i/\True)/\
((aK p e==(3:Int))=false->
((aK p e==(2:Int))=true->
((i==(0:Int))=true->((List.replicate (2:Nat) ((0:Int),(0:Int))).set (0:Nat) ((1:Int),(1:Int))).set (1:Nat) ((2:Int),(2:Int))=bG p e i/\True)/\
((i==(0:Int))=false->(List.replicate (1:Nat) ((0:Int),(0:Int))).set (0:Nat) ((0:Int),i)=bG p e i/\True))/\
((aK p e==(2:Int))=false->[]=bG p e i/\True))))):=by kernel_rfl
theorem QH {i:Int} (he:0<=i/\i<=3):bitsOf BinOp.xor IntKind.i64 i 1=tD i:=by
 have hc:i=0\/i=1\/i=2\/i=3:=by omega
 rcases hc with rfl|rfl|rfl|rfl<;>decide
theorem W5:aN Tryz.prog 254 F9:=
 aN.b3 (l:=[(205,Br),(228,pn)]) (A:=fun _=>ar) aJ ⟨Rn,BL,trivial⟩ Tryz.func254 (by kernel_rfl) (by kernel_rfl) fun x _ hp=>by
  obtain⟨p,e,i,⟨⟩⟩:=x
  rw[agb]
  refine U.mk fun y3 e3=>⟨trivial,fun h=>⟨?_,trivial⟩,fun h=> ?_⟩
  ·unfold bG
   rw[<-e3,h]
   rfl
  rw[e3] at h
  have hh:dC p (e,i)=true:=by simpa using h
  have he:=uW hh
  have he:0<=i/\i<=3:=he
  refine⟨trivial,fun h1=>⟨aY (by omega) (by omega),?_,trivial⟩,fun h1=>⟨fun h3=>⟨?_,trivial⟩,fun h3=>⟨fun h2=>⟨fun h0=>⟨?_,trivial⟩,fun h0=>⟨?_,trivial⟩⟩,fun h2=>⟨?_,trivial⟩⟩⟩⟩
  ·unfold bG
   rw[h,h1]
   rfl
  ·unfold bG
   rw[h,h1,h3]
   rw[QH he]
   rfl
  ·unfold bG
   rw[h,h1,h3,h2,h0]
   rfl
  ·unfold bG
   rw[h,h1,h3,h2,h0]
   rfl
  ·unfold bG
   rw[h,h1,h3,h2]
   rfl
theorem Aq (p:ab) (e i:Int):(bG p e i).length<=2:=by
 unfold bG
 cases !dC p (e,i)<;>cases aK p e==1<;>cases aK p e==3<;>cases aK p e==2<;>cases i==0<;>simp
theorem af3 (p:ab) (e:Int) (i:Int) (pos:Int):ah (aj aA [(254,F9)]) Tryz.f271 KZ (Y3 (p,e,i,pos,())) (p,e,i,pos,())=(
U (cx p e i pos).1 fun(y4:Int)=>
U (cx p e i pos).2 fun(y5:Bool)=>
True/\
(∃(gG:Nat),(gG<=(bG p e i).length/\kM (jm pos) (bG p e i) gG)/\(↑gG:Int)=(0:Int)/\pos=pos/\bG p e i=bG p e i/\True)/\
∀(s6:Nat),
U (decide ((↑s6:Int)<(↑(bG p e i).length:Int))) fun(y7:Bool)=>
U ((bG p e i).getD (↑s6:Int).toNat ((0:Int),(0:Int))) fun(y8:Int×Int)=>
U (bif y8.2==(0:Int) then true else y8.2==pos) fun(y9:Bool)=>
s6<=(bG p e i).length/\kM (jm pos) (bG p e i) s6->
(y7=true->
aL (↑s6:Int) (bG p e i).length/\
((y8.2==(0:Int))=false->aL (↑s6:Int) (bG p e i).length)/\
(y9=true->aL (↑s6:Int) (bG p e i).length/\y8.1=y4/\true=y5/\True)/\
(y9=false->
bo IntKind.i64 ((↑s6:Int)+(1:Int))/\
∃(cU:Nat),
(cU<=(bG p e i).length/\kM (jm pos) (bG p e i) cU)/\
(bG p e i).length - cU<(bG p e i).length - s6/\(↑cU:Int)=(↑s6:Int)+(1:Int)/\pos=pos/\bG p e i=bG p e i/\True))/\
(y7=false->(0:Int)=y4/\false=y5/\True)):=by kernel_rfl
theorem ajD (p:ab) (e:Int) (i:Int) (pos:Int):ah (aj aA [(254,F9)]) Tryz.f271 KZ (Y3 (p,e,i,pos,())) (p,e,i,pos,()):=by
 have hl:=Aq p e i
 rw[af3]
 refine U.mk fun y4 e4=>U.mk fun y5 e5=> ?_
 simp only[true_and,and_true,Int.toNat_natCast]
 refine⟨⟨0,⟨by omega,rfl⟩,rfl⟩,fun s=>U.mk fun y7 e7=>U.mk fun y8 e8=>U.mk fun y9 e9=> ?_⟩
 rintro⟨h1,h2⟩
 have h2:((bG p e i).take s).any (jm pos)=false:=h2
 have e9:jm pos y8=y9:=by
  rw[e9]
  unfold jm
  have key:∀a b:Bool,(a||b)=(bif a then true else b):=by decide
  exact key _ _
 refine⟨fun hs=> ?_,fun hs=> ?_⟩
 ·have hs:=aZ e7 hs
  have nJ:aL (s:Int) (bG p e i).length:=⟨by omega,by omega⟩
  refine⟨nJ,fun _=>nJ,fun h=>⟨nJ,?_⟩,fun h=>⟨aY (by omega) (by omega),s+1,⟨by omega,?_⟩,by omega,by omega⟩⟩
  ·have hf:(bG p e i).find? (jm pos)=some y8:=by
    rw[e8]
    exact Dk (0,0) hs h2 (by rw[<-e8,e9,h])
   have:cx p e i pos=(y8.1,true):=by
    unfold cx
    exact congrArg G7 hf
   rw[e4,e5,this]
   exact⟨rfl,rfl⟩
  ·exact any_succ (0,0) hs h2 (by rw[<-e8,e9,h])
 ·have hf:(bG p e i).find? (jm pos)=none:=xU (bt e7 hs) h2
  have:cx p e i pos=(0,false):=by
   unfold cx
   exact congrArg G7 hf
  rw[e4,e5,this]
  exact⟨rfl,rfl⟩
theorem acp:aN Tryz.prog 271 KZ:=
 aN.b3 (l:=[(254,F9)]) (A:=Y3) aJ ⟨W5,trivial⟩ Tryz.func271 (by kernel_rfl) (by kernel_rfl) fun x _ _=>ajD x.1 x.2.1 x.2.2.1 x.2.2.2.1
theorem af7 (p:ab) (e:Int) (out:Int) (pos:Int):ah (aj aA [(228,pn),(226,Bq),(271,KZ)]) Tryz.f258 K2 (Y5 (p,e,out,pos,())) (p,e,out,pos,())=(
U (mw p e out pos).1 fun(y4:Int)=>
U (mw p e out pos).2 fun(y5:Bool)=>
(∃(gG:Nat),
(gG<=(cQ (aK p e)).toNat/\eb (tx p e out pos) gG)/\
(↑gG:Int)=(0:Int)/\
e=e/\
out=out/\
pos=pos/\
ay p (True))/\
∀(s6:Nat),
U (decide ((↑s6:Int)<cQ (aK p e))) fun(y7:Bool)=>
U (cx p e (↑s6:Int) pos) fun(y8:Int×Bool)=>
U (bif y8.2 then y8.1==out else false) fun(y9:Bool)=>
s6<=(cQ (aK p e)).toNat/\eb (tx p e out pos) s6->
True/\
True/\
(y7=true->
True/\
(y9=true->(↑s6:Int)=y4/\true=y5/\True)/\
(y9=false->
bo IntKind.i64 ((↑s6:Int)+(1:Int))/\
∃(cU:Nat),
(cU<=(cQ (aK p e)).toNat/\eb (tx p e out pos) cU)/\
(cQ (aK p e)).toNat - cU<(cQ (aK p e)).toNat - s6/\
(↑cU:Int)=(↑s6:Int)+(1:Int)/\
e=e/\
out=out/\
pos=pos/\
ay p (True)))/\
(y7=false->(0:Int)=y4/\false=y5/\True)):=by kernel_rfl
theorem ajG (p:ab) (e:Int) (out:Int) (pos:Int):ah (aj aA [(228,pn),(226,Bq),(271,KZ)]) Tryz.f258 K2 (Y5 (p,e,out,pos,())) (p,e,out,pos,()):=by
 have hr:=F5 (aK p e)
 rw[af7]
 refine U.mk fun y4 e4=>U.mk fun y5 e5=> ?_
 simp only[dp,true_and,and_true,Int.toNat_natCast]
 refine⟨⟨0,⟨by omega,rfl⟩,rfl⟩,fun s=>U.mk fun y7 e7=>U.mk fun y8 e8=>U.mk fun y9 e9=> ?_⟩
 rintro⟨h1,h2⟩
 have h2:cj (tx p e out pos) s=false:=h2
 have e9:tx p e out pos s=y9:=by
  rw[e9,e8]
  unfold tx
  have key:∀a b:Bool,(a&&b)=(bif a then b else false):=by decide
  exact key _ _
 refine⟨fun hs=> ?_,fun hs=> ?_⟩
 ·rw[e7] at hs
  have hs:=of_decide_eq_true hs
  have hs:s<(cQ (aK p e)).toNat:=by omega
  refine⟨fun h=> ?_,fun h=>⟨aY (by omega) (by omega),s+1,⟨by omega,?_⟩,by omega,by omega⟩⟩
  ·have:mw p e out pos=((s:Int),true):=by
    unfold mw
    exact congrArg FR (sL (p:=tx p e out pos) hs h2 (by rw[e9,h]))
   rw[e4,e5,this]
   exact⟨rfl,rfl⟩
  ·exact j6 h2 (by rw[e9,h])
 ·rw[e7] at hs
  have hs:=of_decide_eq_false hs
  have:s=(cQ (aK p e)).toNat:=by omega
  subst this
  have:mw p e out pos=(0,false):=by
   unfold mw
   exact congrArg FR (Bp (p:=tx p e out pos) h2)
  rw[e4,e5,this]
  exact⟨rfl,rfl⟩
theorem acs:aN Tryz.prog 258 K2:=
 aN.b3 (l:=[(228,pn),(226,Bq),(271,KZ)]) (A:=Y5) aJ ⟨BL,Rg,acp,trivial⟩ Tryz.func258 (by kernel_rfl) (by kernel_rfl) fun x _ _=>ajG x.1 x.2.1 x.2.2.1 x.2.2.2.1
theorem v154 (l:List (List UInt8)):ah (aj aA []) Tryz.f154 LM (a154 (l,())) (l,())=(
(∃(rn:Nat),(rn<=l.length/\eb (fun(i:Nat)=>cj (jz l i) i) rn)/\(↑rn:Int)=(0:Int)/\l=l/\True)/\
∀(s1:Nat),
U (decide ((↑s1:Int)<(↑l.length:Int))) fun(y2:Bool)=>
s1<=l.length/\eb (fun(i:Nat)=>cj (jz l i) i) s1->
(y2=true->
(∃(fB:Nat),(fB<=(↑s1:Int).toNat/\eb (jz l (↑s1:Int).toNat) fB)/\(↑fB:Int)=(0:Int)/\l=l/\(↑s1:Int)=(↑s1:Int)/\True)/\
∀(s3:Nat),
U (decide ((↑s3:Int)<(↑s1:Int))) fun(y4:Bool)=>
U (l.getD (↑s1:Int).toNat []==l.getD (↑s3:Int).toNat []) fun(y5:Bool)=>
s3<=(↑s1:Int).toNat/\eb (jz l (↑s1:Int).toNat) s3->
(y4=true->
aL (↑s1:Int) l.length/\
aL (↑s3:Int) l.length/\
(y5=true->true=dT l/\True)/\
(y5=false->
bo IntKind.i64 ((↑s3:Int)+(1:Int))/\
∃(eV:Nat),
(eV<=(↑s1:Int).toNat/\eb (jz l (↑s1:Int).toNat) eV)/\
(↑s1:Int).toNat - eV<(↑s1:Int).toNat - s3/\(↑eV:Int)=(↑s3:Int)+(1:Int)/\l=l/\(↑s1:Int)=(↑s1:Int)/\True))/\
(y4=false->
bo IntKind.i64 ((↑s1:Int)+(1:Int))/\
∃(eV:Nat),
(eV<=l.length/\eb (fun(i:Nat)=>cj (jz l i) i) eV)/\l.length - eV<l.length - s1/\(↑eV:Int)=(↑s1:Int)+(1:Int)/\l=l/\True))/\
(y2=false->false=dT l/\True)):=by kernel_rfl
theorem akh (l:List n4) (hw:l.length<=aM):ah (aj aA []) Tryz.f154 LM (a154 (l,())) (l,()):=by
 rw[v154]
 simp only[true_and,and_true,Int.toNat_natCast]
 refine⟨⟨0,⟨by omega,rfl⟩,rfl⟩,fun s=>U.mk fun y2 e2=> ?_⟩
 rintro⟨h1,h2⟩
 have h2:cj (fun i=>cj (jz l i) i) s=false:=h2
 refine⟨fun hs=> ?_,fun hs=> ?_⟩
 ·have hs:=aZ e2 hs
  refine⟨⟨0,⟨by omega,rfl⟩,rfl⟩,fun t=>U.mk fun y4 e4=>U.mk fun y5 e5=> ?_⟩
  rintro⟨g1,g2⟩
  have g2:cj (jz l s) t=false:=g2
  refine⟨fun ht=> ?_,fun ht=> ?_⟩
  ·have ht:=aZ e4 ht
   refine⟨⟨by omega,by omega⟩,⟨by omega,by omega⟩,fun h=> ?_,fun h=>⟨dw (n:=l.length) (by omega) hw,t+1,⟨by omega,?_⟩,by omega,by omega⟩⟩
   ·unfold dT
    exact(nR (p:=fun i=>cj (jz l i) i) hs (nR ht (by rw[<-h,e5];rfl))).symm
   ·exact j6 g2 (by rw[<-h,e5];rfl)
  ·have ht:=bt e4 ht
   have:t=s:=by omega
   subst this
   refine⟨dw hs hw,t+1,⟨by omega,?_⟩,by omega,by omega⟩
   exact j6 (p:=fun i=>cj (jz l i) i) h2 g2
 ·have hs:=bt e2 hs
  have:s=l.length:=by omega
  subst this
  unfold dT
  exact h2.symm
theorem adp:aN Tryz.prog 154 LM:=
 aN.b3 (l:=[]) (A:=a154) aJ trivial Tryz.func154 (by kernel_rfl) (by kernel_rfl) fun x hw _=>akh x.1 hw.1.1
theorem v152 (p:ab):ah (aj aA []) Tryz.f152 LO (a152 (p,())) (p,())=(
U ([],((0:Int),(0:Int)),false) fun(y1:List UInt8×(Int×Int)×Bool)=>
(∃(dr:Nat),
dr<=p.1.length/\
(↑dr:Int)=(0:Int)/\
List.map (fun(e:mA)=>e.1) (List.take dr p.1)=[]/\
ay p (True))/\
∀(s2:Nat),
U (decide ((↑s2:Int)<(↑p.1.length:Int))) fun(y3:Bool)=>
U (List.map (fun(e:mA)=>e.1) (List.take s2 p.1)) fun(y4:List (List UInt8))=>
U ((List.replicate (1:Nat) []).set (0:Nat) (p.1.getD (↑s2:Int).toNat ([],(0:Int),(0:Int))).1) fun(y5:List (List UInt8))=>
s2<=p.1.length->
(y3=true->
aL (↑s2:Int) p.1.length/\
roomFor (y4.length+y5.length) (16:Nat)/\
bo IntKind.i64 ((↑s2:Int)+(1:Int))/\
∃(eV:Nat),
eV<=p.1.length/\
p.1.length - eV<p.1.length - s2/\
(↑eV:Int)=(↑s2:Int)+(1:Int)/\
List.map (fun(e:mA)=>e.1) (List.take eV p.1)=y4++y5/\
ay p (True))/\
(y3=false->
(∃(gG:Nat),
gG<=p.2.2.1.length/\
(↑gG:Int)=(0:Int)/\
List.map (fun(e:gy)=>e.1) (List.take gG p.2.2.1)=[]/\
ay p (y4=y4/\True))/\
∀(s6:Nat),
U (decide ((↑s6:Int)<(↑p.2.2.1.length:Int))) fun(y7:Bool)=>
U (List.map (fun(e:gy)=>e.1) (List.take s6 p.2.2.1)) fun(y8:List (List UInt8))=>
U ((List.replicate (1:Nat) []).set (0:Nat) (p.2.2.1.getD (↑s6:Int).toNat y1).1) fun(y9:List (List UInt8))=>
s6<=p.2.2.1.length->
(y7=true->
aL (↑s6:Int) p.2.2.1.length/\
roomFor (y8.length+y9.length) (16:Nat)/\
bo IntKind.i64 ((↑s6:Int)+(1:Int))/\
∃(cU:Nat),
cU<=p.2.2.1.length/\
p.2.2.1.length - cU<p.2.2.1.length - s6/\
(↑cU:Int)=(↑s6:Int)+(1:Int)/\
List.map (fun(e:gy)=>e.1) (List.take cU p.2.2.1)=y8++y9/\
ay p (y4=y4/\True))/\
(y7=false->
(∃(oF:Nat),
oF<=p.2.2.2.1.length/\
(↑oF:Int)=(0:Int)/\
List.map (fun(e:ly)=>e.1) (List.take oF p.2.2.2.1)=[]/\
ay p (y4=y4/\y8=y8/\True))/\
∀(ja:Nat),
U (decide ((↑ja:Int)<(↑p.2.2.2.1.length:Int))) fun(bH:Bool)=>
U (List.map (fun(e:ly)=>e.1) (List.take ja p.2.2.2.1)) fun(aw:List (List UInt8))=>
U ((List.replicate (1:Nat) []).set (0:Nat) (p.2.2.2.1.getD (↑ja:Int).toNat ([],[])).1) fun(aB:List (List UInt8))=>
ja<=p.2.2.2.1.length->
(bH=true->
aL (↑ja:Int) p.2.2.2.1.length/\
roomFor (aw.length+aB.length) (16:Nat)/\
bo IntKind.i64 ((↑ja:Int)+(1:Int))/\
∃(oj:Nat),
oj<=p.2.2.2.1.length/\
p.2.2.2.1.length - oj<p.2.2.2.1.length - ja/\
(↑oj:Int)=(↑ja:Int)+(1:Int)/\
List.map (fun(e:ly)=>e.1) (List.take oj p.2.2.2.1)=aw++aB/\
ay p (y4=y4/\y8=y8/\True))/\
(bH=false->
y4=List.map (fun(e:mA)=>e.1) p.1/\
y8=List.map (fun(s:gy)=>s.1) p.2.2.1/\aw=List.map (fun(l:ly)=>l.1) p.2.2.2.1/\True)))):=by kernel_rfl
theorem akj (p:ab) (hp:Eo p):ah (aj aA []) Tryz.f152 LO (a152 (p,())) (p,()):=by
 obtain⟨p1,p2,p3⟩:=hp
 rw[v152]
 refine U.mk fun y1 e1=> ?_
 simp only[dp,true_and,and_true,Int.toNat_natCast]
 refine⟨⟨0,by omega,rfl,rfl⟩,fun s=>U.mk fun y3 e3=>U.mk fun y4 e4=>U.mk fun y5 e5=> ?_⟩
 intro hs
 have e5:y5=[(p.1.getD s zE).1]:=e5
 refine⟨fun h=> ?_,fun h=> ?_⟩
 ·have h:=aZ e3 h
  refine⟨⟨by omega,by omega⟩,cT (by rw[e4,e5];simp;omega) (by omega),aY (by omega) (by omega),s+1,by omega,by omega,by omega,?_⟩
  rw[oa _ zE h,e4,e5]
 have a1:=tK e3 h
 refine⟨⟨0,by omega,rfl,rfl⟩,fun t=>U.mk fun y7 e7=>U.mk fun y8 e8=>U.mk fun y9 e9=> ?_⟩
 intro ht
 have e9:y9=[(p.2.2.1.getD t zS).1]:=by rw[e9,e1];rfl
 refine⟨fun h=> ?_,fun h=> ?_⟩
 ·have h:=aZ e7 h
  refine⟨⟨by omega,by omega⟩,cT (by rw[e8,e9];simp;omega) (by omega),aY (by omega) (by omega),t+1,by omega,by omega,by omega,?_⟩
  rw[oa _ zS h,e8,e9]
 have a2:=tK e7 h
 refine⟨⟨0,by omega,rfl,rfl⟩,fun u=>U.mk fun bH eK=>U.mk fun aw dW=>U.mk fun aB gE=> ?_⟩
 intro hu
 have gE:aB=[(p.2.2.2.1.getD u zL).1]:=gE
 refine⟨fun h=> ?_,fun h=> ?_⟩
 ·have h:=aZ eK h
  refine⟨⟨by omega,by omega⟩,cT (by rw[dW,gE];simp;omega) (by omega),aY (by omega) (by omega),u+1,by omega,by omega,by omega,?_⟩
  rw[oa _ zL h,dW,gE]
 have a3:=tK eK h
 rw[e4,e8,dW,a1,a2,a3]
 exact⟨rfl,rfl,rfl⟩
theorem adr:aN Tryz.prog 152 LO:=
 aN.b3 (l:=[]) (A:=a152) aJ trivial Tryz.func152 (by kernel_rfl) (by kernel_rfl) fun x _ hp=>akj x.1 hp
theorem agT (p:ab):ah (aj aA [(224,Qi),(225,Lb),(226,Bq)]) Tryz.f153 LN (Zj (p,())) (p,())=(
U (!rq (1:Int) (60:Int) p.2.2.2.2.1) fun(y1:Bool)=>
U (bif y1 then true else !rq (1:Int) (10:Int) p.2.2.2.2.2.1) fun(y2:Bool)=>
U (bif y2 then true else !rq (1:Int) (4000:Int) p.2.2.2.2.2.2.1) fun(y3:Bool)=>
U (bif bif y3 then true else !rq (1:Int) (20:Int) p.2.2.2.2.2.2.2.1 then true else(↑p.1.length:Int)==(0:Int)) fun(y4:Bool)=>
True/\
(y1=false->True)/\
(y2=false->True)/\
(y3=false->True)/\
(y4=true->false=fArgs p/\True)/\
(y4=false->
(∃(rm:Nat),
(rm<=p.1.length/\fg gJ p.1 rm)/\
(↑rm:Int)=(0:Int)/\
ay p (True))/\
∀(s5:Nat),
U (decide ((↑s5:Int)<(↑p.1.length:Int))) fun(y6:Bool)=>
U (p.1.getD (↑s5:Int).toNat ([],(0:Int),(0:Int))) fun(y7:List UInt8×Int×Int)=>
U (bif bif !kB y7.1 then true else cQ y7.2.1==(0:Int) then true else bif y7.2.1==(4:Int) then y7.2.2 !=(0:Int) else false)
fun(y8:Bool)=>
U (bif y8 then true else bif y7.2.1 !=(4:Int) then !rq (1:Int) (4000:Int) y7.2.2 else false) fun(y9:Bool)=>
s5<=p.1.length/\fg gJ p.1 s5->
(y6=true->
aL (↑s5:Int) p.1.length/\
True/\
((!kB y7.1)=false->True)/\
(y8=false->(y7.2.1 !=(4:Int))=true->True)/\
(y9=true->false=fArgs p/\True)/\
(y9=false->
bo IntKind.i64 ((↑s5:Int)+(1:Int))/\
∃(cU:Nat),
(cU<=p.1.length/\fg gJ p.1 cU)/\
p.1.length - cU<p.1.length - s5/\
(↑cU:Int)=(↑s5:Int)+(1:Int)/\
ay p (True)))/\
(y6=false->
(∃(oF:Nat),
(oF<=p.2.2.1.length/\fg ld p.2.2.1 oF)/\
(↑oF:Int)=(0:Int)/\
ay p (True))/\
∀(ja:Nat),
U (decide ((↑ja:Int)<(↑p.2.2.1.length:Int))) fun(bH:Bool)=>
U (!kB (p.2.2.1.getD (↑ja:Int).toNat ([],((0:Int),(0:Int)),false)).1) fun(aw:Bool)=>
ja<=p.2.2.1.length/\fg ld p.2.2.1 ja->
(bH=true->
aL (↑ja:Int) p.2.2.1.length/\
True/\
(aw=true->false=fArgs p/\True)/\
(aw=false->
bo IntKind.i64 ((↑ja:Int)+(1:Int))/\
∃(fR:Nat),
(fR<=p.2.2.1.length/\fg ld p.2.2.1 fR)/\
p.2.2.1.length - fR<p.2.2.1.length - ja/\
(↑fR:Int)=(↑ja:Int)+(1:Int)/\
ay p (True)))/\
(bH=false->
(∃(iG:Nat),
(iG<=p.2.2.2.1.length/\fg jC p.2.2.2.1 iG)/\
(↑iG:Int)=(0:Int)/\
ay p (True))/\
∀(bM:Nat),
U (decide ((↑bM:Int)<(↑p.2.2.2.1.length:Int))) fun(cL:Bool)=>
U (!kB (p.2.2.2.1.getD (↑bM:Int).toNat ([],[])).1) fun(bC:Bool)=>
bM<=p.2.2.2.1.length/\fg jC p.2.2.2.1 bM->
(cL=true->
aL (↑bM:Int) p.2.2.2.1.length/\
True/\
(bC=true->false=fArgs p/\True)/\
(bC=false->
bo IntKind.i64 ((↑bM:Int)+(1:Int))/\
∃(S9:Nat),
(S9<=p.2.2.2.1.length/\fg jC p.2.2.2.1 S9)/\
p.2.2.2.1.length - S9<p.2.2.2.1.length - bM/\
(↑S9:Int)=(↑bM:Int)+(1:Int)/\
ay p (True)))/\
(cL=false->true=fArgs p/\True))))):=by kernel_rfl
theorem VP:∀n z g l0 f:Bool,(n&&(!z&&(bif g then l0 else f)))= !(bif(bif(bif !n then true else z) then true else(bif g then !l0 else false)) then true else(bif !g then !f else false)):=by decide
theorem aki (p:ab) (hw:pQ p):ah (aj aA [(224,Qi),(225,Lb),(226,Bq)]) Tryz.f153 LN (Zj (p,())) (p,()):=by
 rw[agT]
 refine U.mk fun y1 e1=>U.mk fun y2 e2=>U.mk fun y3 e3=>U.mk fun y4 e4=> ?_
 simp only[dp,true_and,and_true,Int.toNat_natCast]
 have hN:oP p= !y4:=by
  rw[e4,e3,e2,e1,F3 _ 0 0 rfl]
  unfold oP
  have key:∀a b c d e:Bool,(a&&(b&&(c&&(d&& !e))))= !(bif(bif(bif(bif !a then true else !b) then true else !c) then true else !d) then true else e):=by decide
  exact key _ _ _ _ _
 refine⟨fun _=>trivial,fun _=>trivial,fun _=>trivial,fun h=> ?_,fun h=> ?_⟩
 ·unfold fArgs
  rw[hN,h]
  rfl
 have hA:fArgs p=(p.1.all gJ&&(p.2.2.1.all ld&&p.2.2.2.1.all jC)):=by
  unfold fArgs
  rw[hN,h]
  rfl
 rw[hA]
 refine⟨⟨0,⟨by omega,rfl⟩,rfl⟩,fun s=>U.mk fun y6 e6=>U.mk fun y7 e7=>U.mk fun y8 e8=>U.mk fun y9 e9=> ?_⟩
 rintro⟨h1,h2⟩
 have h2:(p.1.take s).all gJ=true:=h2
 have e7:y7=p.1.getD s zE:=e7
 have hE:gJ y7= !y9:=by
  rw[e9,e8,iy,iy]
  unfold gJ
  exact VP _ _ _ _ _
 refine⟨fun h=> ?_,fun h=> ?_⟩
 ·have h:=aZ e6 h
  refine⟨⟨by omega,by omega⟩,fun _=>trivial,fun _ _=>trivial,fun h9=> ?_,fun h9=>⟨dw h hw.1,s+1,⟨by omega,?_⟩,by omega,by omega⟩⟩
  ·rw[mM zE h (by rw[<-e7,hE,h9];rfl)]
   rfl
  ·exact all_succ zE h h2 (by rw[<-e7,hE,h9];rfl)
 rw[jG (bt e6 h) h2,Bool.true_and]
 refine⟨⟨0,⟨by omega,rfl⟩,rfl⟩,fun t=>U.mk fun bH eK=>U.mk fun aw dW=> ?_⟩
 rintro⟨h1,h2⟩
 have h2:(p.2.2.1.take t).all ld=true:=h2
 have dW:ld (p.2.2.1.getD t zS)= !aw:=by rw[dW,Bool.not_not];rfl
 refine⟨fun h=> ?_,fun h=> ?_⟩
 ·have h:=aZ eK h
  refine⟨⟨by omega,by omega⟩,fun h9=> ?_,fun h9=>⟨dw h hw.2.2.1,t+1,⟨by omega,?_⟩,by omega,by omega⟩⟩
  ·rw[mM zS h (by rw[dW,h9];rfl)]
   rfl
  ·exact all_succ zS h h2 (by rw[dW,h9];rfl)
 rw[jG (bt eK h) h2,Bool.true_and]
 refine⟨⟨0,⟨by omega,rfl⟩,rfl⟩,fun u=>U.mk fun cL j5=>U.mk fun bC iJ=> ?_⟩
 rintro⟨h1,h2⟩
 have h2:(p.2.2.2.1.take u).all jC=true:=h2
 have iJ:jC (p.2.2.2.1.getD u zL)= !bC:=by rw[iJ,Bool.not_not];rfl
 refine⟨fun h=> ?_,fun h=> ?_⟩
 ·have h:=aZ j5 h
  refine⟨⟨by omega,by omega⟩,fun h9=> ?_,fun h9=>⟨dw h hw.2.2.2,u+1,⟨by omega,?_⟩,by omega,by omega⟩⟩
  ·rw[mM zL h (by rw[iJ,h9];rfl)]
  ·exact all_succ zL h h2 (by rw[iJ,h9];rfl)
 rw[jG (bt j5 h) h2]
theorem adq:aN Tryz.prog 153 LN:=
 aN.b3 (l:=[(224,Qi),(225,Lb),(226,Bq)]) (A:=Zj) aJ ⟨acG,acF,Rg,trivial⟩ Tryz.func153 (by kernel_rfl) (by kernel_rfl) fun x hw hp=>aki x.1 (lj hw.1)
theorem SF {p:ab} (h:fArgs p=true):oP p=true:=by
 unfold fArgs at h
 rw[Bool.and_eq_true] at h
 exact h.1
theorem agS (p:ab):ah (aj aA [(205,Br),(227,ow),(228,pn)]) Tryz.f155 LL (Zi (p,())) (p,())=(
U (((0:Int),(0:Int)),(0:Int),(0:Int)) fun(y1:(Int×Int)×Int×Int)=>
(∃(dr:Nat),
dr<=p.2.1.length/\
(↑dr:Int)=(0:Int)/\
List.flatMap (fun(j:nm)=>[j.1,j.2]) (List.take dr p.2.1)=[]/\
ay p (True))/\
∀(s2:Nat),
U (decide ((↑s2:Int)<(↑p.2.1.length:Int))) fun(y3:Bool)=>
U (List.flatMap (fun(j:nm)=>[j.1,j.2]) (List.take s2 p.2.1)) fun(y4:List (Int×Int))=>
U (p.2.1.getD (↑s2:Int).toNat y1) fun(y5:(Int×Int)×Int×Int)=>
U (((List.replicate (2:Nat) ((0:Int),(0:Int))).set (0:Nat) y5.1).set (1:Nat) y5.2) fun(y6:List (Int×Int))=>
s2<=p.2.1.length->
(y3=true->
aL (↑s2:Int) p.2.1.length/\
aL (↑s2:Int) p.2.1.length/\
roomFor (y4.length+y6.length) (16:Nat)/\
bo IntKind.i64 ((↑s2:Int)+(1:Int))/\
∃(nD:Nat),
nD<=p.2.1.length/\
p.2.1.length - nD<p.2.1.length - s2/\
(↑nD:Int)=(↑s2:Int)+(1:Int)/\
List.flatMap (fun(j:nm)=>[j.1,j.2]) (List.take nD p.2.1)=y4++y6/\
ay p (True))/\
(y3=false->
(∃(lf:Nat),
(lf<=(bW p).length/\dX (kR p) lf)/\
(↑lf:Int)=(0:Int)/\
ay p (y4=y4/\True))/\
∀(s7:Nat),
U (decide ((↑s7:Int)<(↑y4.length:Int))) fun(y8:Bool)=>
U (y4.getD (↑s7:Int).toNat ((0:Int),(0:Int))) fun(y9:Int×Int)=>
s7<=(bW p).length/\dX (kR p) s7->
(y8=true->
aL (↑s7:Int) y4.length/\
True/\
((!dC p y9)=true->false=bT p/\True)/\
((!dC p y9)=false->
(∃(oF:Nat),
(oF<=(↑s7:Int).toNat/\eb (qF p (↑s7:Int).toNat) oF)/\
(↑oF:Int)=(0:Int)/\
(↑s7:Int)=(↑s7:Int)/\
ay p (y4=y4/\True))/\
∀(ja:Nat),
U (decide ((↑ja:Int)<(↑s7:Int))) fun(bH:Bool)=>
U (y4.getD (↑ja:Int).toNat ((0:Int),(0:Int))) fun(aw:Int×Int)=>
U (aw.1==y9.1&&(aw.2==y9.2&&true)) fun(aB:Bool)=>
ja<=(↑s7:Int).toNat/\eb (qF p (↑s7:Int).toNat) ja->
(bH=true->
aL (↑ja:Int) y4.length/\
aL (↑s7:Int) y4.length/\
(aB=true->false=bT p/\True)/\
(aB=false->
bo IntKind.i64 ((↑ja:Int)+(1:Int))/\
∃(oj:Nat),
(oj<=(↑s7:Int).toNat/\eb (qF p (↑s7:Int).toNat) oj)/\
(↑s7:Int).toNat - oj<(↑s7:Int).toNat - ja/\
(↑oj:Int)=(↑ja:Int)+(1:Int)/\
(↑s7:Int)=(↑s7:Int)/\
ay p (y4=y4/\True)))/\
(bH=false->
bo IntKind.i64 ((↑s7:Int)+(1:Int))/\
∃(oj:Nat),
(oj<=(bW p).length/\dX (kR p) oj)/\
(bW p).length - oj<(bW p).length - s7/\
(↑oj:Int)=(↑s7:Int)+(1:Int)/\
ay p (y4=y4/\True))))/\
(y8=false->
(∃(oF:Nat),
(oF<=p.1.length/\dX (kh p) oF)/\
(↑oF:Int)=(0:Int)/\
ay p (True))/\
∀(ja:Nat),
U (decide ((↑ja:Int)<(↑p.1.length:Int))) fun(bH:Bool)=>
U ((p.1.getD (↑ja:Int).toNat ([],(0:Int),(0:Int))).2.1==(4:Int)) fun(aw:Bool)=>
U (bx p ((↑ja:Int),(0:Int))) fun(aB:ak×Bool)=>
U (bif !aB.2 then true else aK p aB.1.1==(4:Int)) fun(cL:Bool)=>
ja<=p.1.length/\dX (kh p) ja->
(bH=true->
aL (↑ja:Int) p.1.length/\
(aw=true->
True/\
((!aB.2)=false->True)/\
(cL=true->false=bT p/\True)/\
(cL=false->
bo IntKind.i64 ((↑ja:Int)+(1:Int))/\
∃(lg:Nat),
(lg<=p.1.length/\dX (kh p) lg)/\
p.1.length - lg<p.1.length - ja/\
(↑lg:Int)=(↑ja:Int)+(1:Int)/\
ay p (True)))/\
(aw=false->
bo IntKind.i64 ((↑ja:Int)+(1:Int))/\
∃(lg:Nat),
(lg<=p.1.length/\dX (kh p) lg)/\
p.1.length - lg<p.1.length - ja/\
(↑lg:Int)=(↑ja:Int)+(1:Int)/\
ay p (True)))/\
(bH=false->true=bT p/\True)))):=by kernel_rfl
theorem akg (p:ab) (hp:p.2.1.length<=1000) (hw:pQ p):ah (aj aA [(205,Br),(227,ow),(228,pn)]) Tryz.f155 LL (Zi (p,())) (p,()):=by
 have hJ:bT p=(de (kR p) (bW p).length&&de (kh p) p.1.length):=by unfold bT;rfl
 have hlen:∀l:List nm,(l.flatMap fun j=>[j.1,j.2]).length=2*l.length:=fun l=>by
  induction l with
  |nil=>rfl
  |cons x l ih=>rw[List.flatMap_cons,List.length_append,ih,List.length_cons];simp;omega
 have hEl:(bW p).length=2*p.2.1.length:=hlen p.2.1
 rw[agS,hJ]
 refine U.mk fun y1 e1=> ?_
 simp only[dp,true_and,and_true,Int.toNat_natCast]
 refine⟨⟨0,by omega,rfl,rfl⟩,fun s=>U.mk fun y3 e3=>U.mk fun y4 e4=>U.mk fun y5 e5=>U.mk fun y6 e6=> ?_⟩
 intro hs
 have e6:y6=[y5.1,y5.2]:=e6
 have e5:y5=p.2.1.getD s zJ:=by rw[e5,e1];rfl
 refine⟨fun h=> ?_,fun h=> ?_⟩
 ·have h:=aZ e3 h
  refine⟨⟨by omega,by omega⟩,⟨by omega,by omega⟩,cT (by rw[e4,e6,hlen,List.length_take];simp;omega) (by omega),aY (by omega) (by omega),s+1,by omega,by omega,by omega,?_⟩
  rw[p8 _ zJ h,e4,e6,e5]
 have wX:=tK e3 h
 have e4:y4=bW p:=by rw[e4,wX];rfl
 subst e4
 refine⟨⟨0,⟨by omega,rfl⟩,rfl⟩,fun t=>U.mk fun y8 e8=>U.mk fun y9 e9=> ?_⟩
 rintro⟨h1,h2⟩
 have h2:de (kR p) t=true:=h2
 have e9:y9=(bW p).getD t zP:=e9
 refine⟨fun h=> ?_,fun h=> ?_⟩
 ·have h:=aZ e8 h
  refine⟨⟨by omega,by omega⟩,fun hh=> ?_,fun hh=>⟨⟨0,⟨by omega,rfl⟩,rfl⟩,fun u=>U.mk fun bH eK=>U.mk fun aw dW=>U.mk fun aB gE=> ?_⟩⟩
  ·simp only[Bool.not_eq_true'] at hh
   rw[fX (p:=kR p) h (by unfold kR;rw[<-e9,hh];rfl)]
   rfl
  simp only[Bool.not_eq_false'] at hh
  rintro⟨g1,g2⟩
  have g2:cj (qF p t) u=false:=g2
  have gE:qF p t u=aB:=by rw[gE,sH,dW,e9];rfl
  refine⟨fun hu=> ?_,fun hu=> ?_⟩
  ·have hu:=aZ eK hu
   refine⟨⟨by omega,by omega⟩,⟨by omega,by omega⟩,fun kP=> ?_,fun kP=>⟨aY (by omega) (by omega),u+1,⟨by omega,?_⟩,by omega,by omega⟩⟩
   ·have hn:cj (qF p t) t=true:=nR hu (by rw[gE,kP])
    rw[fX (p:=kR p) h (by
     show(dC p _&& !cj (qF p t) t)=false
     rw[hn,Bool.not_true,Bool.and_false])]
    rfl
   ·exact j6 g2 (by rw[gE,kP])
  ·have hu:=bt eK hu
   have:u=t:=by omega
   subst this
   refine⟨aY (by omega) (by omega),u+1,⟨by omega,?_⟩,by omega,by omega⟩
   exact ff h2 (by
    show(dC p _&& !cj (qF p u) u)=true
    rw[<-e9,hh,g2];rfl)
 have hle:=bt e8 h
 have ht:t=(bW p).length:=by omega
 subst ht
 rw[h2,Bool.true_and]
 refine⟨⟨0,⟨by omega,rfl⟩,rfl⟩,fun u=>U.mk fun bH eK=>U.mk fun aw dW=>U.mk fun aB gE=>U.mk fun cL j5=> ?_⟩
 rintro⟨g1,g2⟩
 have g2:de (kh p) u=true:=g2
 have hG:kh p u= !(bif aw then cL else false):=by
  rw[j5,dW,gE]
  unfold kh
  have key:∀a b c:Bool,(bif a then(b&& !c) else true)= !(bif a then(bif !b then true else c) else false):=by decide
  exact key _ _ _
 refine⟨fun h=> ?_,fun h=> ?_⟩
 ·have h:=aZ eK h
  refine⟨⟨by omega,by omega⟩,fun nX=>⟨fun _=>trivial,fun qW=> ?_,fun qW=>⟨dw h hw.1,u+1,⟨by omega,?_⟩,by omega,by omega⟩⟩,fun nX=>⟨dw h hw.1,u+1,⟨by omega,?_⟩,by omega,by omega⟩⟩
  ·exact(fX h (by rw[hG,nX,qW];rfl)).symm
  ·exact ff g2 (by rw[hG,nX,qW];rfl)
  ·exact ff g2 (by rw[hG,nX];rfl)
 have hle:=bt eK h
 have hu:u=p.1.length:=by omega
 subst hu
 exact g2.symm
theorem ado:aN Tryz.prog 155 LL:=
 aN.b3 (l:=[(205,Br),(227,ow),(228,pn)]) (A:=Zi) aJ ⟨Rn,ze,BL,trivial⟩ Tryz.func155 (by kernel_rfl) (by kernel_rfl) fun x hw hp=>akg x.1 hp (lj hw.1)
theorem Em {p:ab} (hj:bT p=true) {x:ak} (h:(bx p x).2=true):dC p (bx p x).1=true:=by
 have hm:=o7 h
 obtain⟨i,hi,he⟩:=List.mem_iff_getElem.1 hm
 unfold bT at hj
 rw[Bool.and_eq_true] at hj
 have:=gx.1 hj.1 i hi
 unfold kR at this
 rw[Bool.and_eq_true,eW zP hi,he] at this
 exact this.1
theorem agR (p:ab):ah (aj aA [(205,Br),(227,ow),(228,pn),(229,yr)]) Tryz.f156 LK (a156 (p,())) (p,())=(
U ([],((0:Int),(0:Int)),false) fun(y1:List UInt8×(Int×Int)×Bool)=>
(∃(dr:Nat),
(dr<=p.2.2.1.length/\dX (lb p) dr)/\
(↑dr:Int)=(0:Int)/\
ay p (True))/\
∀(s2:Nat),
U (decide ((↑s2:Int)<(↑p.2.2.1.length:Int))) fun(y3:Bool)=>
U (p.2.2.1.getD (↑s2:Int).toNat y1).2.1 fun(y4:Int×Int)=>
U (bif !dC p y4 then true else bif aK p y4.1 !=(1:Int) then aK p y4.1 !=(4:Int) else false) fun(y5:Bool)=>
U (bif !(bx p y4).2 then true else aK p (bx p y4).1.1==(4:Int)) fun(y6:Bool)=>
U (bif y6 then true else cc p y4 !=(↑s2:Int)) fun(y7:Bool)=>
s2<=p.2.2.1.length/\dX (lb p) s2->
(y3=true->
aL (↑s2:Int) p.2.2.1.length/\
True/\
True/\
(y5=true->false=dq p/\True)/\
(y5=false->
True/\
((!(bx p y4).2)=false->True)/\
(y6=false->True)/\
(y7=true->false=dq p/\True)/\
(y7=false->
bo IntKind.i64 ((↑s2:Int)+(1:Int))/\
∃(jq:Nat),
(jq<=p.2.2.1.length/\dX (lb p) jq)/\
p.2.2.1.length - jq<p.2.2.1.length - s2/\
(↑jq:Int)=(↑s2:Int)+(1:Int)/\
ay p (True))))/\
(y3=false->
(∃(mQ:Nat),
(mQ<=p.1.length/\dX (jZ p) mQ)/\
(↑mQ:Int)=(0:Int)/\
ay p (True))/\
∀(s8:Nat),
U (decide ((↑s8:Int)<(↑p.1.length:Int))) fun(y9:Bool)=>
U ((p.1.getD (↑s8:Int).toNat ([],(0:Int),(0:Int))).2.1==(4:Int)) fun(bu:Bool)=>
U (cc p ((↑s8:Int),(0:Int))) fun(bH:Int)=>
U (bif bu then decide (bH<(0:Int)) else false) fun(aw:Bool)=>
s8<=p.1.length/\dX (jZ p) s8->
(y9=true->
aL (↑s8:Int) p.1.length/\
(bu=true->True)/\
(aw=true->false=dq p/\True)/\
(aw=false->
bo IntKind.i64 ((↑s8:Int)+(1:Int))/\
∃(fR:Nat),
(fR<=p.1.length/\dX (jZ p) fR)/\
p.1.length - fR<p.1.length - s8/\
(↑fR:Int)=(↑s8:Int)+(1:Int)/\
ay p (True)))/\
(y9=false->true=dq p/\True))):=by kernel_rfl
theorem akf (p:ab) (hw:pQ p):ah (aj aA [(205,Br),(227,ow),(228,pn),(229,yr)]) Tryz.f156 LK (a156 (p,())) (p,()):=by
 have hJ:dq p=(de (lb p) p.2.2.1.length&&de (jZ p) p.1.length):=by unfold dq;rfl
 rw[agR,hJ]
 refine U.mk fun y1 e1=> ?_
 simp only[dp,true_and,and_true,Int.toNat_natCast]
 refine⟨⟨0,⟨by omega,rfl⟩,rfl⟩,fun s=>U.mk fun y3 e3=>U.mk fun y4 e4=>U.mk fun y5 e5=>U.mk fun y6 e6=>U.mk fun y7 e7=> ?_⟩
 rintro⟨h1,h2⟩
 have h2:de (lb p) s=true:=h2
 have e4:y4=(p.2.2.1.getD s zS).2.1:=by rw[e4,e1];rfl
 have hS:lb p s=(!y5&& !y7):=by
  rw[e7,e6,e5,iy,iy,iy]
  unfold lb CB
  rw[<-e4]
  have key:∀a b c d e f:Bool,(a&&((b||c)&&(d&&(!e&&f))))=(!(bif !a then true else(bif !b then !c else false))&& !(bif(bif !d then true else e) then true else !f)):=by decide
  exact key _ _ _ _ _ _
 refine⟨fun h=> ?_,fun h=> ?_⟩
 ·have h:=aZ e3 h
  refine⟨⟨by omega,by omega⟩,fun h5=> ?_,fun h5=>⟨fun _=>trivial,fun _=>trivial,fun h7=> ?_,fun h7=>⟨dw h hw.2.2.1,s+1,⟨by omega,?_⟩,by omega,by omega⟩⟩⟩
  ·rw[fX (p:=lb p) h (by rw[hS,h5];rfl)]
   rfl
  ·rw[fX (p:=lb p) h (by rw[hS,h5,h7];rfl)]
   rfl
  ·exact ff h2 (by rw[hS,h5,h7];rfl)
 have hle:=bt e3 h
 have ht:s=p.2.2.1.length:=by omega
 subst ht
 rw[h2,Bool.true_and]
 refine⟨⟨0,⟨by omega,rfl⟩,rfl⟩,fun u=>U.mk fun y9 e9=>U.mk fun bu dy=>U.mk fun bH eK=>U.mk fun aw dW=> ?_⟩
 rintro⟨g1,g2⟩
 have g2:de (jZ p) u=true:=g2
 have hG:jZ p u= !aw:=by
  rw[dW,dy,CX,eK]
  unfold jZ
  have key:∀a b:Bool,(bif a then b else true)= !(bif a then !b else false):=by decide
  exact key _ _
 refine⟨fun h=> ?_,fun h=> ?_⟩
 ·have h:=aZ e9 h
  refine⟨⟨by omega,by omega⟩,fun _=>trivial,fun nX=> ?_,fun nX=>⟨dw h hw.1,u+1,⟨by omega,?_⟩,by omega,by omega⟩⟩
  ·exact(fX h (by rw[hG,nX];rfl)).symm
  ·exact ff g2 (by rw[hG,nX];rfl)
 have hle:=bt e9 h
 have hu:u=p.1.length:=by omega
 subst hu
 exact g2.symm
theorem adn:aN Tryz.prog 156 LK:=
 aN.b3 (l:=[(205,Br),(227,ow),(228,pn),(229,yr)]) (A:=a156) aJ ⟨Rn,ze,BL,Rf,trivial⟩ Tryz.func156 (by kernel_rfl) (by kernel_rfl) fun x hw hp=>akf x.1 (lj hw.1)
theorem v206 (p:ab) (l:List Int):ah (aj aA [(227,ow),(228,pn)]) Tryz.f206 Lk (a206 (p,l,())) (p,l,())=(
(((↑l.length:Int)==(0:Int))=true->[]=(eD p l).1/\false=(eD p l).2/\True)/\
(((↑l.length:Int)==(0:Int))=false->
(∃(dr:Nat),
(dr<=l.length/\fg (mX p) l dr)/\
(↑dr:Int)=(0:Int)/\
l=l/\
ay p (True))/\
∀(s2:Nat),
U (decide ((↑s2:Int)<(↑l.length:Int))) fun(y3:Bool)=>
U (aK p (l.getD (↑s2:Int).toNat (0:Int)) !=(1:Int)) fun(y4:Bool)=>
s2<=l.length/\fg (mX p) l s2->
(y3=true->
aL (↑s2:Int) l.length/\
True/\
(y4=true->[]=(eD p l).1/\false=(eD p l).2/\True)/\
(y4=false->
bo IntKind.i64 ((↑s2:Int)+(1:Int))/\
∃(gO:Nat),
(gO<=l.length/\fg (mX p) l gO)/\
l.length - gO<l.length - s2/\
(↑gO:Int)=(↑s2:Int)+(1:Int)/\
l=l/\
ay p (True)))/\
(y3=false->
(((↑l.length:Int)==(1:Int))=true->(List.replicate (1:Nat) (0:Int)).set (0:Nat) (0:Int)=(eD p l).1/\true=(eD p l).2/\True)/\
(((↑l.length:Int)==(1:Int))=false->
(∃(rm:Nat),
rm<=(2:Nat)/\
(1:Int) - (↑rm:Int)=(1:Int)/\
vY p l rm=(-1:Int)/\
l=l/\
ay p (True))/\
∀(s5:Nat),
U (decide ((1:Int) - (↑s5:Int)>=(0:Int))) fun(y6:Bool)=>
U (bx p (l.getD (Int.toNat (0:Int)) (0:Int),(1:Int) - (↑s5:Int))) fun(y7:ak×Bool)=>
U ((1:Int) - (↑s5:Int) - (1:Int)) fun(y8:Int)=>
U (decide (vY p l s5<(0:Int))) fun(y9:Bool)=>
U ((1:Int) - vY p l s5) fun(bu:Int)=>
s5<=(2:Nat)->
(y6=true->
aL (0:Int) l.length/\
True/\
(y7.2=true->aL (1:Int) l.length)/\
bo IntKind.i64 y8/\
∃(jI:Nat),
jI<=(2:Nat)/\
(2:Nat) - jI<(2:Nat) - s5/\
(1:Int) - (↑jI:Int)=y8/\
(vY p l jI=
bif bif y7.2 then y7.1.1==l.getD (Int.toNat (1:Int)) (0:Int) else false then(1:Int) - (↑s5:Int) else vY p l s5)/\
l=l/\
ay p (True))/\
(y6=false->
(y9=true->[]=(eD p l).1/\false=(eD p l).2/\True)/\
(y9=false->
bo IntKind.i64 bu/\
(∃(sE:Nat),
(sE<l.length/\(ed p l (fN p l) sE).2.2=true)/\
(↑sE:Int)+(1:Int)=(1:Int)/\
(ed p l (fN p l) sE).2.1=vY p l s5/\
l=l/\
(ed p l (fN p l) sE).1=(List.replicate (1:Nat) (0:Int)).set (0:Nat) bu/\
ay p (True))/\
∀(ki:Nat),
U (ed p l (fN p l) ki) fun(aw:List Int×Int×Bool)=>
U (decide ((↑ki:Int)+(1:Int)<(↑l.length:Int))) fun(aB:Bool)=>
U ((↑ki:Int)+(1:Int) - (1:Int)) fun(cL:Int)=>
U (bx p (l.getD cL.toNat (0:Int),aw.2.1)) fun(bC:ak×Bool)=>
U (bif !bC.2 then true else bC.1.1 !=l.getD ((↑ki:Int)+(1:Int)).toNat (0:Int)) fun(cC:Bool)=>
U ((List.replicate (1:Nat) (0:Int)).set (0:Nat) bC.1.2) fun(cy:List Int)=>
U ((↑ki:Int)+(1:Int)+(1:Int)) fun(dN:Int)=>
ki<l.length/\aw.2.2=true->
(aB=true->
bo IntKind.i64 cL/\
aL cL l.length/\
True/\
((!bC.2)=false->aL ((↑ki:Int)+(1:Int)) l.length)/\
(cC=true->[]=(eD p l).1/\false=(eD p l).2/\True)/\
(cC=false->
roomFor (aw.1.length+cy.length) (8:Nat)/\
bo IntKind.i64 ((1:Int) - bC.1.2)/\
bo IntKind.i64 dN/\
∃(iU:Nat),
(iU<l.length/\(ed p l (fN p l) iU).2.2=true)/\
l.length - iU<l.length - ki/\
(↑iU:Int)+(1:Int)=dN/\
(ed p l (fN p l) iU).2.1=(1:Int) - bC.1.2/\
l=l/\
(ed p l (fN p l) iU).1=aw.1++cy/\
ay p (True)))/\
(aB=false->aw.1=(eD p l).1/\true=(eD p l).2/\True))))))):=by kernel_rfl
theorem xY {p:ab} {l:List Int} {o:Int} {k:Nat} (h:(ed p l o k).2.2=false):∀m,k<=m->(ed p l o m).2.2=false
 |0,hm=>by
  have:k=0:=by omega
  rw[this] at h
  exact h
 |m+1,hm=>by
  by_cases e:k=m+1
  ·rw[<-e];exact h
  ·have ih:=xY h m (by omega)
   show(bif(ed p l o m).2.2&&_ then _ else _:List Int×Int×Bool).2.2=false
   rw[ih]
   rfl
theorem P9 {p:ab} {l:List Int} {o:Int}:∀k,(ed p l o k).1.length<=k+1
 |0=>Nat.le_refl _
 |k+1=>by
  have:=P9 (p:=p) (l:=l) (o:=o) k
  show(bif(ed p l o k).2.2&&_ then _ else _:List Int×Int×Bool).1.length<=_
  cases (ed p l o k).2.2&&((oe p l k (ed p l o k).2.1).2&&(oe p l k (ed p l o k).2.1).1.1==l.getD (k+1) 0) with
  |true=>rw[cond_true,List.length_append];show _+1<=_;omega
  |false=>rw[cond_false];show(ed p l o k).1.length<=_;omega
theorem Q7 (p:ab) (l:List Int) (k:Nat): -1<=vY p l k/\vY p l k<=1:=by
 match k with
 |0=>show -1<=(-1:Int)/\(-1:Int)<=1;exact⟨by decide,by decide⟩
 |1=>show -1<=(bif qK p l 1 then 1 else -1:Int)/\(bif qK p l 1 then 1 else -1:Int)<=1;cases qK p l 1<;>exact⟨by decide,by decide⟩
 |_+2=>show -1<=fN p l/\fN p l<=1;unfold fN;cases qK p l 0<;>cases qK p l 1<;>exact⟨by decide,by decide⟩
theorem ajZ (p:ab) (l:List Int) (hj:bT p=true) (hl:l.length<=1000):ah (aj aA [(227,ow),(228,pn)]) Tryz.f206 Lk (a206 (p,l,())) (p,l,()):=by
 have hE:eD p l=bif decide (l.length=0)|| !l.all (mX p) then([],false) else bif decide (l.length=1) then([0],true) else bif decide (fN p l<0) then([],false) else
  bif(ed p l (fN p l) (l.length - 1)).2.2 then((ed p l (fN p l) (l.length - 1)).1,true) else([],false):=by unfold eD;rfl
 rw[v206,F3 _ 0 0 rfl,F3 _ 1 1 rfl]
 simp only[dp,true_and,and_true,Int.toNat_natCast]
 refine⟨fun h=> ?_,fun h0=>⟨⟨0,⟨by omega,rfl⟩,rfl⟩,fun s=>U.mk fun y3 e3=>U.mk fun y4 e4=> ?_⟩⟩
 ·rw[hE,h]
  exact⟨rfl,rfl⟩
 rintro⟨h1,h2⟩
 have h2:(l.take s).all (mX p)=true:=h2
 have BW:=of_decide_eq_false h0
 have e4:mX p (l.getD s 0)= !y4:=by rw[e4,iy,Bool.not_not];rfl
 refine⟨fun h=> ?_,fun h=> ?_⟩
 ·have h:=aZ e3 h
  refine⟨⟨by omega,by omega⟩,fun h4=> ?_,fun h4=>⟨aY (by omega) (by omega),s+1,⟨by omega,?_⟩,by omega,by omega⟩⟩
  ·rw[hE,mM 0 h (by rw[e4,h4];rfl),h0]
   exact⟨rfl,rfl⟩
  ·exact all_succ 0 h h2 (by rw[e4,h4];rfl)
 have wX:=jG (bt e3 h) h2
 rw[h0,wX] at hE
 refine⟨fun h1=> ?_,fun h1=>⟨⟨0,by omega,rfl,rfl⟩,fun t=>U.mk fun y6 e6=>U.mk fun y7 e7=>U.mk fun y8 e8=>U.mk fun y9 e9=>U.mk fun bu dy=> ?_⟩⟩
 ·rw[hE,h1]
  exact⟨rfl,rfl⟩
 rw[h1] at hE
 have PE:=of_decide_eq_false h1
 intro ht
 have XS:=Q7 p l t
 refine⟨fun h6=> ?_,fun h6=> ?_⟩
 ·rw[e6] at h6
  have h6:=of_decide_eq_true h6
  refine⟨⟨by omega,by omega⟩,fun _=>⟨by omega,by omega⟩,aY (by omega) (by omega),t+1,by omega,by omega,by omega,?_⟩
  have hb:(bif y7.2 then y7.1.1==l.getD (Int.toNat 1) 0 else false)=qK p l (1 - (t:Int)):=by
   rw[e7]
   unfold qK
   have key:∀a b:Bool,(bif a then b else false)=(a&&b):=by decide
   exact key _ _
  rw[hb]
  have hc:t=0\/t=1:=by omega
  rcases hc with rfl|rfl
  ·rfl
  ·show fN p l=_
   unfold fN
   rfl
 ·rw[e6] at h6
  have h6:=of_decide_eq_false h6
  have AW:t=2:=by omega
  subst AW
  have hO:vY p l 2=fN p l:=rfl
  rw[hO] at e9 dy XS
  refine⟨fun h9=> ?_,fun h9=> ?_⟩
  ·rw[hE,<-e9,h9]
   exact⟨rfl,rfl⟩
  rw[<-e9,h9] at hE
  have hE:eD p l=bif(ed p l (fN p l) (l.length - 1)).2.2 then((ed p l (fN p l) (l.length - 1)).1,true) else([],false):=hE
  refine⟨aY (by omega) (by omega),⟨0,⟨by omega,rfl⟩,rfl,rfl,by rw[dy];rfl⟩,fun u=>U.mk fun aw dW=>U.mk fun aB gE=>U.mk fun cL j5=>U.mk fun bC iJ=>U.mk fun cC k7=>U.mk fun cy jF=>U.mk fun dN oh=> ?_⟩
  rintro⟨g1,g2⟩
  have hut:((u:Int)+1).toNat=u+1:=by omega
  have aim:cL.toNat=u:=by omega
  rw[hut] at k7
  rw[aim] at iJ
  have jF:cy=[bC.1.2]:=jF
  have R6:ed p l (fN p l) (u+1)=bif !cC then(aw.1++[bC.1.2],1 - bC.1.2,true) else(aw.1,aw.2.1,false):=by
   have hb:((ed p l (fN p l) u).2.2&&((oe p l u (ed p l (fN p l) u).2.1).2&&(oe p l u (ed p l (fN p l) u).2.1).1.1==l.getD (u+1) 0))= !cC:=by
    rw[k7,iy,iJ,<-dW,g2]
    unfold oe
    have key:∀a b:Bool,(true&&(a&&b))= !(bif !a then true else !b):=by decide
    exact key _ _
   show(bif _ then _ else _)=_
   rw[hb,<-dW,iJ]
   rfl
  refine⟨fun kP=> ?_,fun kP=> ?_⟩
  ·rw[gE] at kP
   have kP:=of_decide_eq_true kP
   refine⟨aY (by omega) (by omega),⟨by omega,by omega⟩,fun _=>⟨by omega,by omega⟩,fun rR=> ?_,fun rR=> ?_⟩
   ·have hf:(ed p l (fN p l) (u+1)).2.2=false:=by rw[R6,rR];rfl
    rw[hE,xY hf (l.length - 1) (by omega)]
    exact⟨rfl,rfl⟩
   ·have Yn:bC.2=true:=by
     rw[rR] at k7
     have:=(su k7.symm).1
     simpa using this
    have he:0<=bC.1.2/\bC.1.2<=3:=by
     rw[iJ] at Yn ⊢
     exact uW (Em hj Yn)
    have hln:=P9 (p:=p) (l:=l) (o:=fN p l) u
    rw[<-dW] at hln
    rw[rR] at R6
    refine⟨cT (by rw[jF];simp;omega) (by omega),aY (by omega) (by omega),aY (by omega) (by omega),u+1,⟨by omega,by rw[R6];rfl⟩,by omega,by omega,?_,?_⟩
    ·rw[R6];rfl
    ·rw[R6,jF];rfl
  ·rw[gE] at kP
   have kP:=of_decide_eq_false kP
   have hu:u=l.length - 1:=by omega
   subst hu
   rw[hE,<-dW,g2]
   exact⟨rfl,rfl⟩
theorem acQ:aN Tryz.prog 206 Lk:=
 aN.b3 (l:=[(227,ow),(228,pn)]) (A:=a206) aJ ⟨ze,BL,trivial⟩ Tryz.func206 (by kernel_rfl) (by kernel_rfl) fun x hw hp=>ajZ x.1 x.2.1 hp.1 hp.2
theorem v157 (p:ab):ah (aj aA [(31,yB),(206,Lk)]) Tryz.f157 LJ (a157 (p,())) (p,())=(
(∃(rn:Nat),
(rn<=p.2.2.2.1.length/\dX (jk p) rn)/\
(↑rn:Int)=(0:Int)/\
kN p rn=[]/\
ay p (True))/\
∀(s1:Nat),
U (decide ((↑s1:Int)<(↑p.2.2.2.1.length:Int))) fun(y2:Bool)=>
U (p.2.2.2.1.getD (↑s1:Int).toNat zL).2 fun(y3:List Int)=>
U (p.2.2.2.1.getD (↑s1:Int).toNat ([],[])).2 fun(y4:List Int)=>
s1<=p.2.2.2.1.length/\dX (jk p) s1->
(y2=true->
aL (↑s1:Int) p.2.2.2.1.length/\
(∃(rm:Nat),
(rm<=y3.length/\dX (ma p (↑s1:Int).toNat) rm)/\
(↑rm:Int)=(0:Int)/\
(↑s1:Int)=(↑s1:Int)/\
y4=y4/\
kN p (↑s1:Int).toNat++List.take rm y3=kN p s1/\
ay p (True))/\
∀(s5:Nat),
U (decide ((↑s5:Int)<(↑y4.length:Int))) fun(y6:Bool)=>
U (kN p (↑s1:Int).toNat++List.take s5 y3) fun(y7:List Int)=>
U (y4.getD (↑s5:Int).toNat (0:Int)) fun(y8:Int)=>
U ((List.replicate (1:Nat) (0:Int)).set (0:Nat) y8) fun(y9:List Int)=>
s5<=y3.length/\dX (ma p (↑s1:Int).toNat) s5->
(y6=true->
aL (↑s5:Int) y4.length/\
True/\
(bN y7 y8=true->false=fO p/\True)/\
(bN y7 y8=false->
aL (↑s5:Int) y4.length/\
roomFor (y7.length+y9.length) (8:Nat)/\
bo IntKind.i64 ((↑s5:Int)+(1:Int))/\
∃(cU:Nat),
(cU<=y3.length/\dX (ma p (↑s1:Int).toNat) cU)/\
y3.length - cU<y3.length - s5/\
(↑cU:Int)=(↑s5:Int)+(1:Int)/\
(↑s1:Int)=(↑s1:Int)/\
y4=y4/\
kN p (↑s1:Int).toNat++List.take cU y3=y7++y9/\
ay p (True)))/\
(y6=false->
(bT p=true/\y4.length<=(1000:Nat))/\
((!(eD p y4).2)=true->false=fO p/\True)/\
((!(eD p y4).2)=false->
bo IntKind.i64 ((↑s1:Int)+(1:Int))/\
∃(cU:Nat),
(cU<=p.2.2.2.1.length/\dX (jk p) cU)/\
p.2.2.2.1.length - cU<p.2.2.2.1.length - s1/\
(↑cU:Int)=(↑s1:Int)+(1:Int)/\
kN p cU=y7/\
ay p (True))))/\
(y2=false->true=fO p/\True)):=by kernel_rfl
theorem O9 {p:ab} (hs:cY p):∀i,(kN p i).length<=i*1000
 |0=>Nat.le_refl _
 |i+1=>by
  have ih:=O9 hs i
  by_cases h:i<p.2.2.2.1.length
  ·have:=hs _ (fJ zL h)
   show((p.2.2.2.1.take (i+1)).flatMap fun l=>l.2).length<=_
   rw[p8 _ zL h,List.length_append]
   show(kN p i).length+_<=_
   omega
  ·have e:kN p (i+1)=kN p i:=by
    unfold kN
    rw[List.take_of_length_le (by omega),List.take_of_length_le (by omega)]
   rw[e]
   omega
theorem ake (p:ab) (hj:bT p=true) (hs:cY p) (hl:p.2.2.2.1.length<=1000):ah (aj aA [(31,yB),(206,Lk)]) Tryz.f157 LJ (a157 (p,())) (p,()):=by
 have hF:fO p=de (jk p) p.2.2.2.1.length:=by unfold fO;rfl
 rw[v157,hF]
 simp only[dp,true_and,and_true,Int.toNat_natCast]
 refine⟨⟨0,⟨by omega,rfl⟩,rfl,rfl⟩,fun s=>U.mk fun y2 e2=>U.mk fun y3 e3=>U.mk fun y4 e4=> ?_⟩
 rintro⟨h1,h2⟩
 have h2:de (jk p) s=true:=h2
 have e4:y4=y3:=by rw[e4,e3];rfl
 subst e4
 refine⟨fun h=> ?_,fun h=> ?_⟩
 ·have h:=aZ e2 h
  have RX:y4.length<=1000:=by rw[e3];exact hs _ (fJ zL h)
  have Ic:=O9 hs s
  refine⟨⟨by omega,by omega⟩,⟨0,⟨by omega,rfl⟩,rfl,by simp⟩,fun t=>U.mk fun y6 e6=>U.mk fun y7 e7=>U.mk fun y8 e8=>U.mk fun y9 e9=> ?_⟩
  rintro⟨g1,g2⟩
  have g2:de (ma p s) t=true:=g2
  have e9:y9=[y8]:=e9
  have hN:ma p s t= !bN y7 y8:=by rw[e7,e8,e3];rfl
  refine⟨fun ht=> ?_,fun ht=> ?_⟩
  ·have ht:=aZ e6 ht
   refine⟨⟨by omega,by omega⟩,fun hm=> ?_,fun hm=>⟨⟨by omega,by omega⟩,cT (by rw[e7,e9,List.length_append,List.length_take];simp;omega) (by omega),aY (by omega) (by omega),t+1,⟨by omega,?_⟩,by omega,by omega,?_⟩⟩
   ·refine(fX h ?_).symm
    unfold jk
    rw[<-e3,fX ht (by rw[hN,hm];rfl)]
    rfl
   ·exact ff g2 (by rw[hN,hm];rfl)
   ·rw[eQ 0 ht,<-List.append_assoc,<-e7,e9,e8]
  ·have hle:=bt e6 ht
   have hte:t=y4.length:=by omega
   have wX:de (ma p s) (p.2.2.2.1.getD s zL).2.length=true:=by rw[<-e3,<-hte];exact g2
   refine⟨⟨hj,RX⟩,fun hb=> ?_,fun hb=>⟨aY (by omega) (by omega),s+1,⟨by omega,?_⟩,by omega,by omega,?_⟩⟩
   ·refine(fX h ?_).symm
    unfold jk
    simp only[Bool.not_eq_true'] at hb
    rw[<-e3,hb,Bool.and_false]
   ·refine ff h2 ?_
    unfold jk
    simp only[Bool.not_eq_false'] at hb
    rw[wX,<-e3,hb]
    rfl
   ·show((p.2.2.2.1.take (s+1)).flatMap fun l=>l.2)=_
    have AW:y4.take t=y4:=List.take_of_length_le hle
    rw[p8 _ zL h,e7,AW,e3]
    rfl
 ·have hle:=bt e2 h
  have:s=p.2.2.2.1.length:=by omega
  subst this
  exact h2.symm
theorem adm:aN Tryz.prog 157 LJ:=
 aN.b3 (l:=[(31,yB),(206,Lk)]) (A:=a157) aJ ⟨OZ,acQ,trivial⟩ Tryz.func157 (by kernel_rfl) (by kernel_rfl) fun x hw hp=>ake x.1 hp.1 hp.2.1 hp.2.2
theorem agQ (p:ab):ah (aj aA [(230,La),(228,pn),(231,Qh)]) Tryz.f158 LI (Zh (p,())) (p,())=(
U (p.2.2.2.2.1+m9 p.2.2.2.2.1 p.2.2.2.2.2.1) fun(y1:Int)=>
U (decide (p.2.2.2.2.2.2.1<y1)) fun(y2:Bool)=>
True/\
bo IntKind.i64 y1/\
(y2=true->false=lu p/\True)/\
(y2=false->
(∃(fB:Nat),
(fB<=p.2.2.1.length/\fg (jU p) p.2.2.1 fB)/\
(↑fB:Int)=(0:Int)/\
ay p (True))/\
∀(s3:Nat),
U (decide ((↑s3:Int)<(↑p.2.2.1.length:Int))) fun(y4:Bool)=>
U (p.2.2.1.getD (↑s3:Int).toNat ([],((0:Int),(0:Int)),false)).2.1.1 fun(y5:Int)=>
U (bif aK p y5==(1:Int) then decide (q7 p y5<p.2.2.2.2.2.2.1) else false) fun(y6:Bool)=>
s3<=p.2.2.1.length/\fg (jU p) p.2.2.1 s3->
(y4=true->
aL (↑s3:Int) p.2.2.1.length/\
True/\
((aK p y5==(1:Int))=true->True)/\
(y6=true->false=lu p/\True)/\
(y6=false->
bo IntKind.i64 ((↑s3:Int)+(1:Int))/\
∃(nD:Nat),
(nD<=p.2.2.1.length/\fg (jU p) p.2.2.1 nD)/\
p.2.2.1.length - nD<p.2.2.1.length - s3/\
(↑nD:Int)=(↑s3:Int)+(1:Int)/\
ay p (True)))/\
(y4=false->
(∃(lf:Nat),
(lf<=p.1.length/\fg (iw p) p.1 lf)/\
(↑lf:Int)=(0:Int)/\
ay p (True))/\
∀(s7:Nat),
U (decide ((↑s7:Int)<(↑p.1.length:Int))) fun(y8:Bool)=>
U (p.1.getD (↑s7:Int).toNat ([],(0:Int),(0:Int))).2 fun(y9:Int×Int)=>
U (bif y9.1 !=(4:Int) then decide (y9.2<p.2.2.2.2.1) else false) fun(bu:Bool)=>
s7<=p.1.length/\fg (iw p) p.1 s7->
(y8=true->
aL (↑s7:Int) p.1.length/\
((y9.1 !=(4:Int))=true->aL (↑s7:Int) p.1.length)/\
(bu=true->false=lu p/\True)/\
(bu=false->
bo IntKind.i64 ((↑s7:Int)+(1:Int))/\
∃(jI:Nat),
(jI<=p.1.length/\fg (iw p) p.1 jI)/\
p.1.length - jI<p.1.length - s7/\
(↑jI:Int)=(↑s7:Int)+(1:Int)/\
ay p (True)))/\
(y8=false->true=lu p/\True)))):=by kernel_rfl
theorem FB {p:ab} (h:oP p=true):(1<=p.2.2.2.2.1/\p.2.2.2.2.1<=60)/\(1<=p.2.2.2.2.2.1/\p.2.2.2.2.2.1<=10)/\(1<=p.2.2.2.2.2.2.1/\p.2.2.2.2.2.2.1<=4000):=by
 unfold oP rq at h
 simp only[Bool.and_eq_true] at h
 obtain⟨⟨h1,h2⟩,⟨h3,h4⟩,⟨h5,h6⟩,_⟩:=h
 exact⟨⟨of_decide_eq_true h1,of_decide_eq_true h2⟩,⟨of_decide_eq_true h3,of_decide_eq_true h4⟩,of_decide_eq_true h5,of_decide_eq_true h6⟩
theorem akd (p:ab) (hn:oP p=true) (hw:pQ p):ah (aj aA [(230,La),(228,pn),(231,Qh)]) Tryz.f158 LI (Zh (p,())) (p,()):=by
 have hL:lu p=(!decide (p.2.2.2.2.2.2.1<p.2.2.2.2.1+m9 p.2.2.2.2.1 p.2.2.2.2.2.1)&&(p.2.2.1.all (jU p)&&p.1.all (iw p))):=by unfold lu;rfl
 obtain⟨n1,n2,n3⟩:=FB hn
 have jD:=Dm p.2.2.2.2.1 p.2.2.2.2.2.1
 rw[agQ,hL]
 refine U.mk fun y1 e1=>U.mk fun y2 e2=> ?_
 rw[<-e1,<-e2]
 simp only[dp,true_and,and_true,Int.toNat_natCast]
 refine⟨aY (by omega) (by omega),fun h=>by rw[h];rfl,fun h=> ?_⟩
 rw[h,Bool.not_false,Bool.true_and]
 refine⟨⟨0,⟨by omega,rfl⟩,rfl⟩,fun s=>U.mk fun y4 e4=>U.mk fun y5 e5=>U.mk fun y6 e6=> ?_⟩
 rintro⟨h1,h2⟩
 have h2:(p.2.2.1.take s).all (jU p)=true:=h2
 have hS:jU p (p.2.2.1.getD s zS)= !y6:=by
  have e5:y5=(p.2.2.1.getD s zS).2.1.1:=e5
  rw[e6]
  unfold jU
  rw[<-e5]
  have key:∀a b:Bool,(!(a&&b))= !(bif a then b else false):=by decide
  exact key _ _
 refine⟨fun h=> ?_,fun h=> ?_⟩
 ·have h:=aZ e4 h
  refine⟨⟨by omega,by omega⟩,fun _=>trivial,fun h6=> ?_,fun h6=>⟨dw h hw.2.2.1,s+1,⟨by omega,?_⟩,by omega,by omega⟩⟩
  ·rw[mM zS h (by rw[hS,h6];rfl)]
   rfl
  ·exact all_succ zS h h2 (by rw[hS,h6];rfl)
 rw[jG (bt e4 h) h2,Bool.true_and]
 refine⟨⟨0,⟨by omega,rfl⟩,rfl⟩,fun u=>U.mk fun y8 e8=>U.mk fun y9 e9=>U.mk fun bu dy=> ?_⟩
 rintro⟨g1,g2⟩
 have g2:(p.1.take u).all (iw p)=true:=g2
 have hS:iw p (p.1.getD u zE)= !bu:=by
  have e9:y9=(p.1.getD u zE).2:=e9
  rw[dy,iy]
  unfold iw
  rw[<-e9]
  have key:∀a b:Bool,(!(!a&&b))= !(bif !a then b else false):=by decide
  exact key _ _
 refine⟨fun h=> ?_,fun h=> ?_⟩
 ·have h:=aZ e8 h
  refine⟨⟨by omega,by omega⟩,fun _=>⟨by omega,by omega⟩,fun h6=> ?_,fun h6=>⟨dw h hw.1,u+1,⟨by omega,?_⟩,by omega,by omega⟩⟩
  ·rw[mM zE h (by rw[hS,h6];rfl)]
  ·exact all_succ zE h g2 (by rw[hS,h6];rfl)
 rw[jG (bt e8 h) g2]
theorem adl:aN Tryz.prog 158 LI:=
 aN.b3 (l:=[(230,La),(228,pn),(231,Qh)]) (A:=Zh) aJ ⟨acE,BL,acD,trivial⟩ Tryz.func158 (by kernel_rfl) (by kernel_rfl) fun x hw hp=>akd x.1 hp (lj hw.1)
theorem ahd (p:ab):ah (aj aA [(152,LO),(153,LN),(154,LM),(155,LL),(156,LK),(157,LJ),(158,LI)]) Tryz.f102 Gb ar (p,())=(
U
(bif bif bif decide ((↑p.1.length:Int)>(40:Int)) then true else decide ((↑p.2.2.1.length:Int)>(24:Int)) then true else decide ((↑p.2.2.2.1.length:Int)>(4:Int)) then
true
else decide ((↑p.2.1.length:Int)>(80:Int)))
fun(y1:Bool)=>
U (dT (List.map (fun(e:mA)=>e.1) p.1)) fun(y2:Bool)=>
U (bif y2 then true else dT (List.map (fun(s:gy)=>s.1) p.2.2.1)) fun(y3:Bool)=>
U (bif y3 then true else dT (List.map (fun(l:ly)=>l.1) p.2.2.2.1)) fun(y4:Bool)=>
(y1=true->(3:Int)=bX p/\True)/\
(y1=false->
Eo p/\
True/\
((!fArgs p)=true->(1:Int)=bX p/\True)/\
((!fArgs p)=false->
True/\
(y2=false->True)/\
(y3=false->True)/\
(y4=true->(4:Int)=bX p/\True)/\
(y4=false->
p.2.1.length<=(1000:Nat)/\
((!bT p)=true->(6:Int)=bX p/\True)/\
((!bT p)=false->
True/\
((!dq p)=true->(7:Int)=bX p/\True)/\
((!dq p)=false->
(bT p=true/\cY p/\p.2.2.2.1.length<=(1000:Nat))/\
((!fO p)=true->(8:Int)=bX p/\True)/\
((!fO p)=false->oP p=true/\((!lu p)=true->(9:Int)=bX p/\True)/\((!lu p)=false->(0:Int)=bX p/\True)))))))):=by kernel_rfl
theorem akC (p:ab) (hp:cY p):ah (aj aA [(152,LO),(153,LN),(154,LM),(155,LL),(156,LK),(157,LJ),(158,LI)]) Tryz.f102 Gb ar (p,()):=by
 rw[ahd]
 refine U.mk fun y1 e1=>U.mk fun y2 e2=>U.mk fun y3 e3=>U.mk fun y4 e4=> ?_
 have hz:lC p= !y1:=by
  rw[e1,wc _ 40 40 rfl,wc _ 24 24 rfl,wc _ 4 4 rfl,wc _ 80 80 rfl]
  unfold lC
  have key:∀a b c d:Bool,(a&&(b&&(c&&d)))= !(bif(bif(bif !a then true else !b) then true else !c) then true else !d):=by decide
  exact key _ _ _ _
 have hC:bX p=bif y1 then 3 else bif !fArgs p then 1 else bif y4 then 4 else
   bif !bT p then 6 else bif !dq p then 7 else bif !fO p then 8 else bif !lu p then 9 else 0:=by
  have h4:(dT (p.1.map fun e=>e.1)||(dT (p.2.2.1.map fun s=>s.1)||dT (p.2.2.2.1.map fun l=>l.1)))=y4:=by
   rw[e4,e3,e2]
   have key:∀a b c:Bool,(a||(b||c))=(bif(bif a then true else b) then true else c):=by decide
   exact key _ _ _
  unfold bX
  rw[hz,Bool.not_not,h4]
 rw[hC]
 refine⟨fun h=>by rw[h];exact⟨rfl,trivial⟩,fun h=> ?_⟩
 have iT:lC p=true:=by rw[hz,h];rfl
 unfold lC at iT
 simp only[Bool.and_eq_true] at iT
 obtain⟨z1,z2,z3,z4⟩:=iT
 have z1:=of_decide_eq_true z1
 have z2:=of_decide_eq_true z2
 have z3:=of_decide_eq_true z3
 have z4:=of_decide_eq_true z4
 rw[h]
 refine⟨⟨by omega,by omega,by omega⟩,trivial,fun ha=>by rw[ha];exact⟨rfl,trivial⟩,fun ha=> ?_⟩
 rw[ha]
 refine⟨trivial,fun _=>trivial,fun _=>trivial,fun h4=>by rw[h4];exact⟨rfl,trivial⟩,fun h4=> ?_⟩
 rw[h4]
 refine⟨by omega,fun hj=>by rw[hj];exact⟨rfl,trivial⟩,fun hj=> ?_⟩
 rw[hj]
 have Nl:bT p=true:=by simpa using hj
 refine⟨trivial,fun hs=>by rw[hs];exact⟨rfl,trivial⟩,fun hs=> ?_⟩
 rw[hs]
 refine⟨⟨Nl,hp,by omega⟩,fun hl=>by rw[hl];exact⟨rfl,trivial⟩,fun hl=> ?_⟩
 rw[hl]
 have ha':fArgs p=true:=by simpa using ha
 refine⟨SF ha',fun hg=>by rw[hg];exact⟨rfl,trivial⟩,fun hg=>by rw[hg];exact⟨rfl,trivial⟩⟩
theorem Xk:aN Tryz.prog 102 Gb:=
 aN.b3 (l:=[(152,LO),(153,LN),(154,LM),(155,LL),(156,LK),(157,LJ),(158,LI)]) (A:=fun _=>ar) aJ ⟨adr,adq,adp,ado,adn,adm,adl,trivial⟩ Tryz.func102 (by kernel_rfl) (by kernel_rfl) fun x hw hp=>akC x.1 hp
theorem ahe (p:ab):ah (aj aA []) Tryz.f101 Qo (Zo (p,())) (p,())=(
U
(bif bif bif decide ((↑p.1.length:Int)>(60:Int)) then true else decide ((↑p.2.1.length:Int)>(120:Int)) then true else decide ((↑p.2.2.1.length:Int)>(60:Int)) then true
else decide ((↑p.2.2.2.1.length:Int)>(20:Int)))
fun(y1:Bool)=>
(y1=true->false=sN p/\True)/\
(y1=false->
(∃(dr:Nat),
(dr<=p.2.2.2.1.length/\fg qZ p.2.2.2.1 dr)/\
(↑dr:Int)=(0:Int)/\
ay p (True))/\
∀(s2:Nat),
U (decide ((↑s2:Int)<(↑p.2.2.2.1.length:Int))) fun(y3:Bool)=>
U (p.2.2.2.1.getD (↑s2:Int).toNat ([],[])) fun(y4:List UInt8×List Int)=>
U (decide ((↑y4.2.length:Int)>(60:Int))) fun(y5:Bool)=>
U (bif y5 then true else decide ((↑y4.1.length:Int)>(100:Int))) fun(y6:Bool)=>
s2<=p.2.2.2.1.length/\fg qZ p.2.2.2.1 s2->
(y3=true->
aL (↑s2:Int) p.2.2.2.1.length/\
(y5=false->aL (↑s2:Int) p.2.2.2.1.length)/\
(y6=true->false=sN p/\True)/\
(y6=false->
bo IntKind.i64 ((↑s2:Int)+(1:Int))/\
∃(nD:Nat),
(nD<=p.2.2.2.1.length/\fg qZ p.2.2.2.1 nD)/\
p.2.2.2.1.length - nD<p.2.2.2.1.length - s2/\
(↑nD:Int)=(↑s2:Int)+(1:Int)/\
ay p (True)))/\
(y3=false->
(∃(lf:Nat),
(lf<=p.1.length/\fg sM p.1 lf)/\
(↑lf:Int)=(0:Int)/\
ay p (True))/\
∀(s7:Nat),
U (decide ((↑s7:Int)<(↑p.1.length:Int))) fun(y8:Bool)=>
U (decide ((↑(p.1.getD (↑s7:Int).toNat ([],(0:Int),(0:Int))).1.length:Int)>(100:Int))) fun(y9:Bool)=>
s7<=p.1.length/\fg sM p.1 s7->
(y8=true->
aL (↑s7:Int) p.1.length/\
(y9=true->false=sN p/\True)/\
(y9=false->
bo IntKind.i64 ((↑s7:Int)+(1:Int))/\
∃(cU:Nat),
(cU<=p.1.length/\fg sM p.1 cU)/\
p.1.length - cU<p.1.length - s7/\
(↑cU:Int)=(↑s7:Int)+(1:Int)/\
ay p (True)))/\
(y8=false->
(∃(oF:Nat),
(oF<=p.2.2.1.length/\fg vL p.2.2.1 oF)/\
(↑oF:Int)=(0:Int)/\
ay p (True))/\
∀(ja:Nat),
U (decide ((↑ja:Int)<(↑p.2.2.1.length:Int))) fun(bH:Bool)=>
U (decide ((↑(p.2.2.1.getD (↑ja:Int).toNat ([],((0:Int),(0:Int)),false)).1.length:Int)>(100:Int))) fun(aw:Bool)=>
ja<=p.2.2.1.length/\fg vL p.2.2.1 ja->
(bH=true->
aL (↑ja:Int) p.2.2.1.length/\
(aw=true->false=sN p/\True)/\
(aw=false->
bo IntKind.i64 ((↑ja:Int)+(1:Int))/\
∃(fR:Nat),
(fR<=p.2.2.1.length/\fg vL p.2.2.1 fR)/\
p.2.2.1.length - fR<p.2.2.1.length - ja/\
(↑fR:Int)=(↑ja:Int)+(1:Int)/\
ay p (True)))/\
(bH=false->true=sN p/\True))))):=by kernel_rfl
theorem akD (p:ab) (hw:pQ p):ah (aj aA []) Tryz.f101 Qo (Zo (p,())) (p,()):=by
 have hF:sN p=(decide (p.1.length<=60)&&(decide (p.2.1.length<=120)&&(decide (p.2.2.1.length<=60)&&(decide (p.2.2.2.1.length<=20)&&(p.2.2.2.1.all qZ&&(p.1.all sM&&p.2.2.1.all vL)))))):=by unfold sN;rfl
 rw[ahe]
 refine U.mk fun y1 e1=> ?_
 rw[wc _ 60 60 rfl,wc _ 120 120 rfl,wc _ 60 60 rfl,wc _ 20 20 rfl] at e1
 have hF:sN p=(!y1&&(p.2.2.2.1.all qZ&&(p.1.all sM&&p.2.2.1.all vL))):=by
  rw[hF,e1]
  have key:∀a b c d e:Bool,(a&&(b&&(c&&(d&&e))))=(!(bif(bif(bif !a then true else !b) then true else !c) then true else !d)&&e):=by decide
  exact key _ _ _ _ _
 rw[hF]
 simp only[dp,true_and,and_true,Int.toNat_natCast]
 refine⟨fun h=>by rw[h];rfl,fun h=> ?_⟩
 rw[h,Bool.not_false,Bool.true_and]
 refine⟨⟨0,⟨by omega,rfl⟩,rfl⟩,fun s=>U.mk fun y3 e3=>U.mk fun y4 e4=>U.mk fun y5 e5=>U.mk fun y6 e6=> ?_⟩
 rintro⟨h1,h2⟩
 have h2:(p.2.2.2.1.take s).all qZ=true:=h2
 have hS:qZ (p.2.2.2.1.getD s zL)= !y6:=by
  have e4:y4=p.2.2.2.1.getD s zL:=e4
  rw[e6,e5,wc _ 60 60 rfl,wc _ 100 100 rfl]
  unfold qZ
  rw[<-e4]
  have key:∀a b:Bool,(a&&b)= !(bif !a then true else !b):=by decide
  exact key _ _
 refine⟨fun h=> ?_,fun h=> ?_⟩
 ·have h:=aZ e3 h
  refine⟨⟨by omega,by omega⟩,fun _=>⟨by omega,by omega⟩,fun h6=> ?_,fun h6=>⟨dw h hw.2.2.2,s+1,⟨by omega,?_⟩,by omega,by omega⟩⟩
  ·rw[mM zL h (by rw[hS,h6];rfl)]
   rfl
  ·exact all_succ zL h h2 (by rw[hS,h6];rfl)
 rw[jG (bt e3 h) h2,Bool.true_and]
 refine⟨⟨0,⟨by omega,rfl⟩,rfl⟩,fun t=>U.mk fun y8 e8=>U.mk fun y9 e9=> ?_⟩
 rintro⟨h1,h2⟩
 have h2:(p.1.take t).all sM=true:=h2
 have hS:sM (p.1.getD t zE)= !y9:=by
  rw[e9,wc _ 100 100 rfl,Bool.not_not]
  rfl
 refine⟨fun h=> ?_,fun h=> ?_⟩
 ·have h:=aZ e8 h
  refine⟨⟨by omega,by omega⟩,fun h6=> ?_,fun h6=>⟨dw h hw.1,t+1,⟨by omega,?_⟩,by omega,by omega⟩⟩
  ·rw[mM zE h (by rw[hS,h6];rfl)]
   rfl
  ·exact all_succ zE h h2 (by rw[hS,h6];rfl)
 rw[jG (bt e8 h) h2,Bool.true_and]
 refine⟨⟨0,⟨by omega,rfl⟩,rfl⟩,fun u=>U.mk fun bH eK=>U.mk fun aw dW=> ?_⟩
 rintro⟨h1,h2⟩
 have h2:(p.2.2.1.take u).all vL=true:=h2
 have hS:vL (p.2.2.1.getD u zS)= !aw:=by
  rw[dW,wc _ 100 100 rfl,Bool.not_not]
  rfl
 refine⟨fun h=> ?_,fun h=> ?_⟩
 ·have h:=aZ eK h
  refine⟨⟨by omega,by omega⟩,fun h6=> ?_,fun h6=>⟨dw h hw.2.2.1,u+1,⟨by omega,?_⟩,by omega,by omega⟩⟩
  ·rw[mM zS h (by rw[hS,h6];rfl)]
  ·exact all_succ zS h h2 (by rw[hS,h6];rfl)
 rw[jG (bt eK h) h2]
theorem adO:aN Tryz.prog 101 Qo:=
 aN.b3 (l:=[]) (A:=Zo) aJ trivial Tryz.func101 (by kernel_rfl) (by kernel_rfl) fun x hw hp=>akD x.1 (lj hw.1)
theorem IF {p:ab} (h:sN p=true):cY p:=by
 unfold sN at h
 simp only[Bool.and_eq_true,List.all_eq_true] at h
 intro l hl
 have:=of_decide_eq_true (h.2.2.2.2.1 l hl).1
 omega
theorem v47 (p:ab):ah (aj aA [(101,Qo),(102,Gb)]) Tryz.f47 c47 ar (p,())=(
True/\(sN p=true->cY p)/\(bif sN p then bX p==(0:Int) else false)=oQ p/\True):=by kernel_rfl
theorem ahI:aN Tryz.prog 47 c47:=
 aN.b3 (l:=[(101,Qo),(102,Gb)]) (A:=fun _=>ar) aJ ⟨adO,Xk,trivial⟩ Tryz.func47 (by kernel_rfl) (by kernel_rfl) fun x hw hp=>by
  obtain⟨p,⟨⟩⟩:=x
  rw[v47]
  refine⟨trivial,fun h=>IF h,?_,trivial⟩
  unfold oQ
  have key:∀a b:Bool,(bif a then b else false)=(a&&b):=by decide
  exact key _ _
abbrev kD:Ty:= .pair I (.pair I I)
abbrev eB:Ty:= .pair I I
abbrev eH:Ty:= .pair I (.pair I (.pair I (.pair (.list kD) (.pair (.list eB) (.pair (.list eB) (.pair (.list I) (.pair (.list I) .bool)))))))
abbrev mN:Ty:= .pair PlanT (.list eH)
abbrev kT:Ty:= .pair I (.pair I (.pair .bool (.list .bool)))
abbrev cu:=Int×Int×Int
abbrev ba:=Int×Int
abbrev af:=Int×Int×Int×List cu×List ba×List ba×List Int×List Int×Bool
abbrev bO:=ab×List af
abbrev cI:=Int×Int×Bool×List Bool
def iC:cu:=(0,0,0)
def zR:af:=(0,0,0,[],[],[],[],[],false)
def ab2:ab:=([],[],[],[],0,0,0,0,false)
def zC:bO:=(ab2,[])
@[irreducible] def cw (r:af):List Int:=r.2.2.2.1.map fun s=>s.1
@[irreducible] def kI (r:af) (e:Int):Bool:=bN (cw r) e
@[irreducible] def fV (l:List ak) (x:ak):Bool:=l.any fun y=>y==x
@[irreducible] def bq (l:List ba) (x:ba):Bool:=l.any fun y=>y==x
@[irreducible] def eO (r:af) (s:cu) (pos stop to:Int):af:=
 (r.1,to,stop,r.2.2.2.1++[s],r.2.2.2.2.1++(bif pos==0 then[] else[(s.1,pos)]),[],[],[],false)
@[irreducible] def qM (p:ab) (rec:af->ak->List Int->List af) (r:af) (x:ak) (met:List Int) (w:Int×Int):List af:=
 bif decide (0<=cc p (x.1,w.1)) then[eO r (x.1,x.2,w.1) w.2 1 (cc p (x.1,w.1))] else
 bif !(bx p (x.1,w.1)).2 then[eO r (x.1,x.2,w.1) w.2 3 (-1)] else
 rec (eO r (x.1,x.2,w.1) w.2 0 (-1)) (bx p (x.1,w.1)).1 met
@[irreducible] def ji (p:ab) (rec:af->ak->List Int->List af) (r:af) (x:ak) (met:List Int) (k:Nat):List af:=
 ((bG p x.1 x.2).take k).flatMap (qM p rec r x met)
@[irreducible] def nG (p:ab) (rec:af->ak->List Int->List af) (r:af) (x:ak) (met:List Int):List af:=
 bif bN met x.1||decide (r.2.2.2.1.length=12) then[] else
 bif aK p x.1==4 then[eO r (x.1,x.2, -1) 0 2 (-1)] else
 ji p rec r x (met++[x.1]) (bG p x.1 x.2).length
def na (p:ab):Nat->af->ak->List Int->List af
 |0,_,_,_=>[]
 |n+1,r,x,met=>nG p (na p n) r x met
def BK (n:Nat) (r:af) (met:List Int):Prop:=(12<r.2.2.2.1.length+n/\r.2.2.2.1.length<=12/\n<=13)/\r.2.2.2.2.1.length<=r.2.2.2.1.length/\met.length<=r.2.2.2.1.length+1
def wI (s:Int):af:=(s,0,0,[],[],[],[],[],false)
@[irreducible] def py (p:ab) (s:Int):List af:=
 bif !(lL p s).2 then[] else bif !(bx p (lL p s).1).2 then[] else na p 13 (wI s) (bx p (lL p s).1).1 [(lL p s).1.1]
@[irreducible] def fP (p:ab) (k:Nat):List af:=(List.range k).flatMap fun(s:Nat)=>py p (s:Int)
def j7 (p:ab) (k:Nat):Bool:=decide (64<(fP p (k+1)).length)
@[irreducible] def cZ (p:ab):List af×Int:=bif cj (j7 p) p.2.2.1.length then([],3) else(fP p p.2.2.1.length,0)
def ra (s:cu):Int:=bif decide (2<=s.2.1) then 0 else 2
@[irreducible] def js (p:ab) (s:cu):List ak:=
 bif aK p s.1==2 then[(s.1,3 - max s.2.1 s.2.2)] else bif aK p s.1==3 then[(s.1,ra s),(s.1,ra s+1)] else[]
@[irreducible] def cF (p:ab) (l:List ak):List ak:=l.filter fun x=>(bx p x).2
@[irreducible] def c8 (p:ab) (r:af) (k:Nat):List ak:=(r.2.2.2.1.take k).flatMap fun s=>cF p (js p s)
@[irreducible] def bE (p:ab) (r:af):List ak:=c8 p r r.2.2.2.1.length
def xn (s:cu):Prop:=(-1<=s.2.1/\s.2.1<=3)/\ -1<=s.2.2/\s.2.2<=3
def qB (r:af):Prop:=r.2.2.2.1.length<=1000/\∀s∈r.2.2.2.1,xn s
abbrev au:=ab×Int×Int×Int×List cu×List ba×List ba×List Int×List Int×Bool×List ak
@[irreducible] def iZ (s:au):af:=(s.2.1,s.2.2.1,s.2.2.2.1,s.2.2.2.2.1,s.2.2.2.2.2.1,s.2.2.2.2.2.2.1,s.2.2.2.2.2.2.2.1,s.2.2.2.2.2.2.2.2.1,s.2.2.2.2.2.2.2.2.2.1)
def An (s:au) (g:List ba):au:=(s.1,s.2.1,s.2.2.1,s.2.2.2.1,s.2.2.2.2.1,s.2.2.2.2.2.1,g,s.2.2.2.2.2.2.2)
def Mr (s:au) (z:List Int):au:=(s.1,s.2.1,s.2.2.1,s.2.2.2.1,s.2.2.2.2.1,s.2.2.2.2.2.1,s.2.2.2.2.2.2.1,z,s.2.2.2.2.2.2.2.2)
def BC (s:au) (z:List Int):au:=(s.1,s.2.1,s.2.2.1,s.2.2.2.1,s.2.2.2.2.1,s.2.2.2.2.2.1,s.2.2.2.2.2.2.1,s.2.2.2.2.2.2.2.1,z,s.2.2.2.2.2.2.2.2.2)
def uA (s:au):au:=(s.1,s.2.1,s.2.2.1,s.2.2.2.1,s.2.2.2.2.1,s.2.2.2.2.2.1,s.2.2.2.2.2.2.1,s.2.2.2.2.2.2.2.1,s.2.2.2.2.2.2.2.2.1,true,s.2.2.2.2.2.2.2.2.2.2)
def eR (s:au) (m:List ak):au:=(s.1,s.2.1,s.2.2.1,s.2.2.2.1,s.2.2.2.2.1,s.2.2.2.2.2.1,s.2.2.2.2.2.2.1,s.2.2.2.2.2.2.2.1,s.2.2.2.2.2.2.2.2.1,s.2.2.2.2.2.2.2.2.2.1,m)
abbrev eP (s:au):List cu:=s.2.2.2.2.1
abbrev cX (s:au):List ba:=s.2.2.2.2.2.1
abbrev aS (s:au):List ba:=s.2.2.2.2.2.2.1
abbrev cP (s:au):List Int:=s.2.2.2.2.2.2.2.1
abbrev cH (s:au):List Int:=s.2.2.2.2.2.2.2.2.1
abbrev ct (s:au):List ak:=s.2.2.2.2.2.2.2.2.2.2
@[irreducible] def bK (s:au) (e:Int):Bool×au:=
 bif bN (cP s) e then(true,s) else bif decide (12<=(cP s).length) then(false,uA s) else(true,Mr s (cP s++[e]))
@[irreducible] def pB (rec:ak->au->au) (e stop:Int) (s:au):au:=bif(bx s.1 (e,stop)).2 then rec (bx s.1 (e,stop)).1 s else s
@[irreducible] def jn (rec:ak->au->au) (y:ak) (s:au):au:=
 bif y.2==0 then(bif(bK s y.1).1 then pB rec y.1 2 (pB rec y.1 1 (bK s y.1).2) else(bK s y.1).2) else
 bif !bq (cX s) (y.1,y.2)&& !bq (aS s) (y.1,y.2) then(bif bq (aS s) (y.1,3 - y.2) then s else An s (aS s++[(y.1,3 - y.2)])) else
 (bif(bK s y.1).1 then pB rec y.1 0 (bK s y.1).2 else(bK s y.1).2)
@[irreducible] def vp (rec:ak->au->au) (y:ak) (s:au):au:=
 bif decide (0<=cc s.1 y)&& !s.1.2.2.2.2.2.2.2.2 then(bif bN (cH s) (cc s.1 y) then s else BC s (cH s++[cc s.1 y])) else
 bif aK s.1 y.1==4 then uA s else bif aK s.1 y.1==2 then jn rec y s else
 (bif(bK s y.1).1 then pB rec y.1 (mw s.1 y.1 y.2 0).1 (bK s y.1).2 else(bK s y.1).2)
@[irreducible] def sT (rec:ak->au->au) (y:ak) (s:au):au:=
 bif kI (iZ s) y.1||fV (ct s) y then s else vp rec y (eR s (ct s++[y]))
def dP:Nat->ak->au->au
 |0,_,s=>s
 |n+1,y,s=>sT (dP n) y s
structure DX (s:au):Prop where
 vF:bT s.1=true
 zo:s.1.2.1.length<=1000
 nodup:(ct s).Nodup
 sub:∀y∈ct s,y∈bW s.1
 guards:(aS s).length<=(ct s).length
 holds:(cH s).length<=(ct s).length
 nu:(cP s).length<=12
 steps:(eP s).length<=1000
def gl (n:Nat) (s:au):Prop:=DX s/\(bW s.1).length<(ct s).length+n
def pg (n:Nat) (y:ak) (s:au):Prop:=gl n s/\y∈bW s.1
def lR (n:Nat) (y:ak) (s:au):Prop:=pg n y s/\(aS s).length<(ct s).length
def s0 (p:ab) (r:af):au:=(p,r.1,r.2.1,r.2.2.1,r.2.2.2.1,r.2.2.2.2.1,[],[],[],false,[])
def bF (p:ab) (r:af):Nat->au
 |0=>s0 p r
 |k+1=>pB (dP 161) ((bE p r).getD k zP).1 ((bE p r).getD k zP).2 (bF p r k)
@[irreducible] def dV (p:ab) (r:af):af:=iZ (bF p r (bE p r).length)
def pc (p:ab) (r:af):Prop:=bX p=0/\qB r/\r.2.2.2.2.1.length<=1000
@[irreducible] def cK (p:ab):bO×Int:=
 bif bX p==0 then(bif(cZ p).2==0 then((p,(cZ p).1.map (dV p)),0) else(zC,(cZ p).2)) else(zC,bX p)
@[irreducible] def bz (p:ab):List af×Bool:=bif oQ p then((cK p).1.2,(cK p).2==0) else([],false)
def Qf:bg where
 args:=[eH]
 out:= .row 3 I
 pre:=fun(x:af×Unit)=>x.1.2.2.2.1.length<=1000000
 fn:=fun(x:af×Unit)=>(cw x.1,())
def Qg:bg where
 args:=[eH,I]
 out:= .data [.bool]
 pre:=fun(x:af×Int×Unit)=>x.1.2.2.2.1.length<=1000000
 fn:=fun(x:af×Int×Unit)=>(kI x.1 x.2.1,())
def K4:bg where
 args:=[.list aO,aO]
 out:= .data [.bool]
 pre:=fun(x:List ak×ak×Unit)=>True
 fn:=fun(x:List ak×ak×Unit)=>(fV x.1 x.2.1,())
def K0:bg where
 args:=[.list eB,eB]
 out:= .data [.bool]
 pre:=fun(x:List ba×ba×Unit)=>True
 fn:=fun(x:List ba×ba×Unit)=>(bq x.1 x.2.1,())
def um (r:af):Prop:=r.2.2.2.1.length<=1000/\r.2.2.2.2.1.length<=1000
def K5:bg where
 args:=[eH,kD,I,I,I]
 out:= .data [eH]
 pre:=fun(x:af×cu×Int×Int×Int×Unit)=>um x.1
 fn:=fun(x:af×cu×Int×Int×Int×Unit)=>(eO x.1 x.2.1 x.2.2.1 x.2.2.2.1 x.2.2.2.2.1,())
def Ga (n:Nat):bg where
 args:=[PlanT,eH,aO,.list I]
 out:= .data [.list eH]
 pre:=fun(x:ab×af×ak×List Int×Unit)=>BK n x.2.1 x.2.2.2.1
 fn:=fun(x:ab×af×ak×List Int×Unit)=>(na x.1 n x.2.1 x.2.2.1 x.2.2.2.1,())
def Qk:bg where
 args:=[PlanT,I]
 out:= .data [.list eH]
 pre:=fun(x:ab×Int×Unit)=>True
 fn:=fun(x:ab×Int×Unit)=>(py x.1 x.2.1,())
def L3:fG where
 args:=[.aG PlanT]
 outs:=[.row 49 eH,.aG I]
 pre:=fun(x:ab×Unit)=>x.1.2.2.1.length<=1000
 fn:=fun(x:ab×Unit)=>((cZ x.1).1,(cZ x.1).2,())
def LH:bg where
 args:=[PlanT,eH]
 out:= .data [.list aO]
 pre:=fun(x:ab×af×Unit)=>qB x.2.1
 fn:=fun(x:ab×af×Unit)=>(bE x.1 x.2.1,())
abbrev DW:eU:= .cells true (.pair (.aG PlanT) (.pair (.aG I) (.pair (.aG I) (.pair (.aG I) (.pair (.row 76 kD) (.pair (.row 90 eB) (.pair (.row 90 eB) (.pair (.row 3 I) (.pair (.row 3 I) (.pair (.aG .bool) (.row 156 aO)))))))))))
def DB:fG where
 args:=[DW,.aG I]
 outs:=[.aG .bool]
 pre:=fun(x:au×Int×Unit)=>(cP x.1).length<=1000
 fn:=fun(x:au×Int×Unit)=>((bK x.1 x.2.1).1,())
 fS:=fun(x:au×Int×Unit)=>((bK x.1 x.2.1).2,x.2)
def I9 (n:Nat):fG where
 args:=[DW,.aG aO]
 outs:=[]
 pre:=fun(x:au×ak×Unit)=>pg n x.2.1 x.1
 fn:=fun _=>()
 fS:=fun(x:au×ak×Unit)=>(dP n x.2.1 x.1,x.2)
def w7 (n:Nat):fG where
 args:=[DW,.aG I,.aG I]
 outs:=[]
 pre:=fun(x:au×Int×Int×Unit)=>gl n x.1
 fn:=fun _=>()
 fS:=fun(x:au×Int×Int×Unit)=>(pB (dP n) x.2.1 x.2.2.1 x.1,x.2)
def K3 (n:Nat):fG where
 args:=[DW,.aG aO]
 outs:=[]
 pre:=fun(x:au×ak×Unit)=>lR n x.2.1 x.1
 fn:=fun _=>()
 fS:=fun(x:au×ak×Unit)=>(jn (dP n) x.2.1 x.1,x.2)
def pO:ab:=(
 [([87],4,0),([65],1,20),([80],2,10),([66],1,20),([67],1,30),([69],4,0)],
 [((0,0),(1,0)),((1,1),(2,0)),((2,1),(3,0)),((3,1),(5,0)),((2,2),(4,0))],
 [([119],(0,0),false),([97],(1,1),false),([101],(5,0),false),([98],(3,0),false),([99],(4,0),false)],
 [],10,5,15,2,false)
def YL:bg where
 args:=[]
 out:= .data [PlanT]
 pre:=fun(x:Unit)=>True
 fn:=fun(x:Unit)=>(pO,())
def L2:bg where
 args:=[PlanT,eH]
 out:= .data [eH]
 pre:=fun(x:ab×af×Unit)=>pc x.1 x.2.1
 fn:=fun(x:ab×af×Unit)=>(dV x.1 x.2.1,())
def YK:bg where
 args:=[PlanT]
 out:= .data [mN,I]
 pre:=fun(x:ab×Unit)=>cY x.1
 fn:=fun(x:ab×Unit)=>((cK x.1).1,(cK x.1).2,())
def NU:bg where
 args:=[PlanT]
 out:= .data [.list eH,.bool]
 pre:=fun(x:ab×Unit)=>True
 fn:=fun(x:ab×Unit)=>((bz x.1).1,(bz x.1).2,())
def a77 (x:af×Unit):eA:=bh [(3,fun _=>mS x.1.2.2.2.1.length 4 3 1000 3 I (fun k=>(x.1.2.2.2.1.take k).map fun s=>s.1) [1] [1])]
def Y6 (x:List ak×ak×Unit):eA:=bh [(2,fun _=>dH x.1.length (kM (fun y=>y==x.2.1) x.1) 5 [0,3] [3])]
def Y4 (x:List ba×ba×Unit):eA:=bh [(2,fun _=>dH x.1.length (kM (fun y=>y==x.2.1) x.1) 5 [0,3] [3])]
def Zn (x:ab×Unit):eA:=bh [(3,fun _=>{
 σ:=Nat
 ok:=fun k=>k<=x.1.2.2.1.length/\eb (j7 x.1) k
 mu:=fun k=>x.1.2.2.1.length - k
 sl:=fun k=>[(5,.one (.aG I (k:Int))),(4,.one (.row eH 1000))]
 bl:=fun k=>[(1000,.row false 49 eH (fP x.1 k))]
 keep:=[1]
 cv:=[1]})]
def a160 (x:ab×af×Unit):eA:=bh [(3,fun _=>mS x.2.1.2.2.2.1.length 6 5 1000 156 aO (fun k=>c8 x.1 x.2.1 k) [2,3] [2,3]),
 (16,fun S=>{
 σ:=Nat
 ok:=fun j=>j<=(js x.1 (x.2.1.2.2.2.1.getD (da S 6).toNat iC)).length
 mu:=fun j=>(js x.1 (x.2.1.2.2.2.1.getD (da S 6).toNat iC)).length - j
 sl:=fun j=>[(10,.one (.aG I (j:Int))),(5,.one (.row aO 1001)),(8,.one (.row aO 1002))]
 bl:=fun j=>[(1001,.row false 156 aO (c8 x.1 x.2.1 (da S 6).toNat++cF x.1 ((js x.1 (x.2.1.2.2.2.1.getD (da S 6).toNat iC)).take j))),(1002,.row false 156 aO (js x.1 (x.2.1.2.2.2.1.getD (da S 6).toNat iC)))]
 keep:=[2,3,6]
 cv:=[2,3]})] [29,43,12,75]
def a232 (n:Nat) (x:ab×af×ak×List Int×Unit):eA:=bh [(9,fun _=>{
 σ:=Nat
 ok:=fun k=>k<=(bG x.1 x.2.2.1.1 x.2.2.1.2).length
 mu:=fun k=>(bG x.1 x.2.2.1.1 x.2.2.1.2).length - k
 sl:=fun k=>[(11,.one (.aG I (k:Int))),(9,.one (.row eH 1000)),(3,.one (.row I 1001))]
 bl:=fun k=>[(1000,.row false 49 eH (ji x.1 (na x.1 n) x.2.1 x.2.2.1 (x.2.2.2.1++[x.2.2.1.1]) k)),(1001,.row true 3 I (x.2.2.2.1++[x.2.2.1.1]))]
 keep:=[4,5,6,10]
 cv:=[4,5,6]})]
def UG (s:au):List (Nat×c7):=
 [(1000,.cells [.aG (.list Cn) s.1.1,.aG (.list Cm) s.1.2.1,.aG (.list xa) s.1.2.2.1,.aG (.list yd) s.1.2.2.2.1,.aG I s.1.2.2.2.2.1,.aG I s.1.2.2.2.2.2.1,.aG I s.1.2.2.2.2.2.2.1,.aG I s.1.2.2.2.2.2.2.2.1,.aG .bool s.1.2.2.2.2.2.2.2.2,
  .aG I s.2.1,.aG I s.2.2.1,.aG I s.2.2.2.1,.row kD 1001,.row eB 1002,.row eB 1003,.row I 1004,.row I 1005,.aG .bool s.2.2.2.2.2.2.2.2.2.1,.row aO 1006]),
  (1001,.row false 76 kD (eP s)),(1002,.row false 90 eB (cX s)),(1003,.row false 90 eB (aS s)),(1004,.row false 3 I (cP s)),(1005,.row false 3 I (cH s)),(1006,.row false 156 aO (ct s))]
def Zm (x:ab×af×Unit):eA:=bh [(5,fun _=>{
 σ:=Nat
 ok:=fun k=>k<=(bE x.1 x.2.1).length
 mu:=fun k=>(bE x.1 x.2.1).length - k
 sl:=fun k=>[(7,.one (.aG I (k:Int))),(5,.one (.ptr 1000 0))]
 bl:=fun k=>UG (bF x.1 x.2.1 k)
 keep:=[4,6]
 cv:=[4]})]
def a48 (x:ab×Unit):eA:=bh [(8,fun _=>{
 σ:=Nat
 ok:=fun k=>k<=(cZ x.1).1.length
 mu:=fun k=>(cZ x.1).1.length - k
 sl:=fun k=>[(7,.one (.aG I (k:Int))),(5,.one (.row eH 1000))]
 bl:=fun k=>[(1000,.row false 49 eH (((cZ x.1).1.take k).map (dV x.1)++(cZ x.1).1.drop k))]
 keep:=[1,2]
 cv:=[1,2]})]
theorem v77 (r:af):ah (aj aA []) Tryz.f77 Qf (a77 (r,())) (r,())=(
(∃(rn:Nat),
rn<=r.2.2.2.1.length/\
(↑rn:Int)=(0:Int)/\
List.map (fun(s:cu)=>s.1) (List.take rn r.2.2.2.1)=[]/\
ay r (True))/\
∀(s1:Nat),
U (decide ((↑s1:Int)<(↑r.2.2.2.1.length:Int))) fun(y2:Bool)=>
U (List.map (fun(s:cu)=>s.1) (List.take s1 r.2.2.2.1)) fun(y3:List Int)=>
U ((List.replicate (1:Nat) (0:Int)).set (0:Nat) (r.2.2.2.1.getD (↑s1:Int).toNat ((0:Int),(0:Int),(0:Int))).1) fun(y4:List Int)=>
s1<=r.2.2.2.1.length->
(y2=true->
aL (↑s1:Int) r.2.2.2.1.length/\
roomFor (y3.length+y4.length) (8:Nat)/\
bo IntKind.i64 ((↑s1:Int)+(1:Int))/\
∃(gO:Nat),
gO<=r.2.2.2.1.length/\
r.2.2.2.1.length - gO<r.2.2.2.1.length - s1/\
(↑gO:Int)=(↑s1:Int)+(1:Int)/\
List.map (fun(s:cu)=>s.1) (List.take gO r.2.2.2.1)=y3++y4/\
ay r (True))/\
(y2=false->y3=cw r/\True)):=by kernel_rfl
theorem b77 (r:af) (hl:r.2.2.2.1.length<=1000000):ah (aj aA []) Tryz.f77 Qf (a77 (r,())) (r,()):=by
 rw[v77]
 simp only[dp,true_and,and_true,Int.toNat_natCast]
 refine⟨⟨0,by omega,rfl,rfl⟩,fun s=>U.mk fun y2 e2=>U.mk fun y3 e3=>U.mk fun y4 e4=> ?_⟩
 intro hs
 have e4:y4=[(r.2.2.2.1.getD s iC).1]:=e4
 refine⟨fun h=> ?_,fun h=> ?_⟩
 ·have h:=aZ e2 h
  refine⟨⟨by omega,by omega⟩,cT (by rw[e3,e4];simp;omega) (by omega),aY (by omega) (by omega),s+1,by omega,by omega,by omega,?_⟩
  rw[oa _ iC h,e3,e4]
 ·rw[e3,tK e2 h]
  unfold cw
  rfl
theorem abo:aN Tryz.prog 77 Qf:=
 aN.b3 (l:=[]) (A:=a77) aJ trivial Tryz.func77 (by kernel_rfl) (by kernel_rfl) fun x _ hp=>b77 x.1 hp
theorem aga (r:af) (e:Int):ah (aj aA [(77,Qf),(31,yB)]) Tryz.f255 Qg ar (r,e,())=(
r.2.2.2.1.length<=(1000000:Nat)/\True/\bN (cw r) e=kI r e/\True):=by kernel_rfl
theorem acv:aN Tryz.prog 255 Qg:=
 aN.b3 (l:=[(77,Qf),(31,yB)]) (A:=fun _=>ar) aJ ⟨abo,OZ,trivial⟩ Tryz.func255 (by kernel_rfl) (by kernel_rfl) fun x _ hp=>by
  obtain⟨r,e,⟨⟩⟩:=x
  rw[aga]
  refine⟨hp,trivial,?_,trivial⟩
  unfold kI
  rfl
theorem af9 (l:List (Int×Int)) (x:Int×Int):ah (aj aA []) Tryz.f256 K4 (Y6 (l,x,())) (l,x,())=(
(∃(dr:Nat),(dr<=l.length/\kM (fun(y:ak)=>y==x) l dr)/\(↑dr:Int)=(0:Int)/\l=l/\x.1=x.1/\x.2=x.2/\True)/\
∀(s2:Nat),
U (decide ((↑s2:Int)<(↑l.length:Int))) fun(y3:Bool)=>
U (l.getD (↑s2:Int).toNat ((0:Int),(0:Int))) fun(y4:Int×Int)=>
U (y4.1==x.1&&(y4.2==x.2&&true)) fun(y5:Bool)=>
s2<=l.length/\kM (fun(y:ak)=>y==x) l s2->
(y3=true->
aL (↑s2:Int) l.length/\
(y5=true->true=fV l x/\True)/\
(y5=false->
bo IntKind.i64 ((↑s2:Int)+(1:Int))/\
∃(eV:Nat),
(eV<=l.length/\kM (fun(y:ak)=>y==x) l eV)/\
l.length - eV<l.length - s2/\(↑eV:Int)=(↑s2:Int)+(1:Int)/\l=l/\x.1=x.1/\x.2=x.2/\True))/\
(y3=false->false=fV l x/\True)):=by kernel_rfl
theorem ajI (l:List ak) (x:ak) (hw:l.length<=aM):ah (aj aA []) Tryz.f256 K4 (Y6 (l,x,())) (l,x,()):=by
 rw[af9]
 simp only[true_and,and_true,Int.toNat_natCast]
 refine⟨⟨0,⟨by omega,rfl⟩,rfl⟩,fun s=>U.mk fun y3 e3=>U.mk fun y4 e4=>U.mk fun y5 e5=> ?_⟩
 rintro⟨h1,h2⟩
 have h2:(l.take s).any (fun y=>y==x)=false:=h2
 have e5:y5=(y4==x):=by rw[e5];exact sH _ _
 refine⟨fun hs=> ?_,fun hs=> ?_⟩
 ·have hs:=aZ e3 hs
  refine⟨⟨by omega,by omega⟩,fun h=> ?_,fun h=>⟨dw hs hw,s+1,⟨by omega,?_⟩,by omega,by omega⟩⟩
  ·unfold fV
   exact(nZ (p:=fun y=>y==x) (0,0) hs (by rw[<-h,e5,e4])).symm
  ·exact any_succ (p:=fun y=>y==x) (0,0) hs h2 (by rw[<-h,e5,e4])
 ·unfold fV
  exact(lU (bt e3 hs) h2).symm
theorem acu:aN Tryz.prog 256 K4:=
 aN.b3 (l:=[]) (A:=Y6) aJ trivial Tryz.func256 (by kernel_rfl) (by kernel_rfl) fun x hw _=>ajI x.1 x.2.1 hw.1.1
theorem af4 (l:List (Int×Int)) (x:Int×Int):ah (aj aA []) Tryz.f270 K0 (Y4 (l,x,())) (l,x,())=(
(∃(dr:Nat),(dr<=l.length/\kM (fun(y:ba)=>y==x) l dr)/\(↑dr:Int)=(0:Int)/\l=l/\x.1=x.1/\x.2=x.2/\True)/\
∀(s2:Nat),
U (decide ((↑s2:Int)<(↑l.length:Int))) fun(y3:Bool)=>
U (l.getD (↑s2:Int).toNat ((0:Int),(0:Int))) fun(y4:Int×Int)=>
U (y4.1==x.1&&(y4.2==x.2&&true)) fun(y5:Bool)=>
s2<=l.length/\kM (fun(y:ba)=>y==x) l s2->
(y3=true->
aL (↑s2:Int) l.length/\
(y5=true->true=bq l x/\True)/\
(y5=false->
bo IntKind.i64 ((↑s2:Int)+(1:Int))/\
∃(eV:Nat),
(eV<=l.length/\kM (fun(y:ba)=>y==x) l eV)/\
l.length - eV<l.length - s2/\(↑eV:Int)=(↑s2:Int)+(1:Int)/\l=l/\x.1=x.1/\x.2=x.2/\True))/\
(y3=false->false=bq l x/\True)):=by kernel_rfl
theorem ajE (l:List ba) (x:ba) (hw:l.length<=aM):ah (aj aA []) Tryz.f270 K0 (Y4 (l,x,())) (l,x,()):=by
 rw[af4]
 simp only[true_and,and_true,Int.toNat_natCast]
 refine⟨⟨0,⟨by omega,rfl⟩,rfl⟩,fun s=>U.mk fun y3 e3=>U.mk fun y4 e4=>U.mk fun y5 e5=> ?_⟩
 rintro⟨h1,h2⟩
 have h2:(l.take s).any (fun y=>y==x)=false:=h2
 have e5:y5=(y4==x):=by rw[e5];exact sH _ _
 refine⟨fun hs=> ?_,fun hs=> ?_⟩
 ·have hs:=aZ e3 hs
  refine⟨⟨by omega,by omega⟩,fun h=> ?_,fun h=>⟨dw hs hw,s+1,⟨by omega,?_⟩,by omega,by omega⟩⟩
  ·unfold bq
   exact(nZ (p:=fun y=>y==x) (0,0) hs (by rw[<-h,e5,e4])).symm
  ·exact any_succ (p:=fun y=>y==x) (0,0) hs h2 (by rw[<-h,e5,e4])
 ·unfold bq
  exact(lU (bt e3 hs) h2).symm
theorem acq:aN Tryz.prog 270 K0:=
 aN.b3 (l:=[]) (A:=Y4) aJ trivial Tryz.func270 (by kernel_rfl) (by kernel_rfl) fun x hw _=>ajE x.1 x.2.1 hw.1.1
theorem agc (r:af) (s:Int×Int×Int) (pos:Int) (stop:Int) (to:Int):ah (aj aA []) Tryz.f253 K5 ar (r,s,pos,stop,to,())=(
U (List.replicate (0:Nat) ((0:Int),(0:Int),(0:Int))) fun(y5:List (Int×Int×Int))=>
U (y5++r.2.2.2.1) fun(y6:List (Int×Int×Int))=>
U ((List.replicate (1:Nat) ((0:Int),(0:Int),(0:Int))).set (0:Nat) s) fun(y7:List (Int×Int×Int))=>
U (List.replicate (0:Nat) ((0:Int),(0:Int))++r.2.2.2.2.1) fun(y8:List (Int×Int))=>
U ((List.replicate (1:Nat) ((0:Int),(0:Int))).set (0:Nat) (s.1,pos)) fun(y9:List (Int×Int))=>
U ([],[],[],false) fun(bu:List (Int×Int)×List Int×List Int×Bool)=>
U (eO r s pos stop to) fun(bH:af)=>
roomFor (y5.length+r.2.2.2.1.length) (24:Nat)/\
roomFor (y6.length+y7.length) (24:Nat)/\
roomFor ((List.replicate (0:Nat) ((0:Int),(0:Int))).length+r.2.2.2.2.1.length) (16:Nat)/\
((pos !=(0:Int))=true->roomFor (y8.length+y9.length) (16:Nat)/\(r.1,to,stop,y6++y7,y8++y9,bu)=bH/\True)/\
((pos !=(0:Int))=false->(r.1,to,stop,y6++y7,y8,bu)=bH/\True)):=by kernel_rfl
theorem ajJ (r:af) (s:cu) (pos stop to:Int) (hp:um r):ah (aj aA []) Tryz.f253 K5 ar (r,s,pos,stop,to,()):=by
 obtain⟨h1,h2⟩:=hp
 rw[agc]
 refine U.mk fun y5 e5=>U.mk fun y6 e6=>U.mk fun y7 e7=>U.mk fun y8 e8=>U.mk fun y9 e9=>U.mk fun bu dy=>U.mk fun bH eK=> ?_
 have e5:y5=[]:=e5
 subst e5
 have e6:y6=r.2.2.2.1:=e6
 have e7:y7=[s]:=e7
 have e8:y8=r.2.2.2.2.1:=e8
 have e9:y9=[(s.1,pos)]:=e9
 have hW:bH=(r.1,to,stop,r.2.2.2.1++[s],r.2.2.2.2.1++(bif pos==0 then[] else[(s.1,pos)]),[],[],[],false):=by rw[eK];unfold eO;rfl
 refine⟨cT (by simp;omega) (by omega),cT (by rw[e6,e7];simp;omega) (by omega),cT (by simp;omega) (by omega),fun h=>⟨cT (by rw[e8,e9];simp;omega) (by omega),?_,trivial⟩,fun h=>⟨?_,trivial⟩⟩
 ·have:(pos==0)=false:=by rw[iy] at h;simpa using h
  rw[hW,this,e6,e7,e8,e9,dy]
  rfl
 ·have:(pos==0)=true:=by rw[iy] at h;simpa using h
  rw[hW,this,e6,e7,e8,dy]
  simp
theorem acw:aN Tryz.prog 253 K5:=
 aN.b3 (l:=[]) (A:=fun _=>ar) aJ trivial Tryz.func253 (by kernel_rfl) (by kernel_rfl) fun x _ hp=>ajJ x.1 x.2.1 x.2.2.1 x.2.2.2.1 x.2.2.2.2.1 hp
theorem jR (r:af) (s:cu) (pos stop to:Int):(eO r s pos stop to).2.2.2.1=r.2.2.2.1++[s]:=by unfold eO;rfl
theorem yH (r:af) (s:cu) (pos stop to:Int):(eO r s pos stop to).2.2.2.2.1.length<=r.2.2.2.2.1.length+1:=by
 unfold eO
 show(r.2.2.2.2.1++(bif pos==0 then[] else[(s.1,pos)])).length<=_
 cases pos==0<;>simp
theorem G4 {p:ab} {rec:af->ak->List Int->List af} {r:af} {x:ak} {met:List Int} {k:Nat} (h:k<(bG p x.1 x.2).length):
  ji p rec r x met (k+1)=ji p rec r x met k++qM p rec r x met ((bG p x.1 x.2).getD k (0,0)):=by
 unfold ji
 exact p8 _ (0,0) h
theorem G3 {p:ab} {rec:af->ak->List Int->List af} {r:af} {x:ak} {met:List Int}:ji p rec r x met 0=[]:=by
 unfold ji
 rfl
theorem Wr {p:ab} {rec:af->ak->List Int->List af} {B:Nat} (hB:1<=B) (ph:∀r x met,(rec r x met).length<=B) (r:af) (x:ak) (met:List Int) (w:Int×Int):(qM p rec r x met w).length<=B:=by
 unfold qM
 cases decide (0<=cc p (x.1,w.1))<;>cases !(bx p (x.1,w.1)).2
 ·exact ph _ _ _
 ·exact hB
 ·exact hB
 ·exact hB
theorem D7 {p:ab} {rec:af->ak->List Int->List af} {B:Nat} (hB:1<=B) (ph:∀r x met,(rec r x met).length<=B) (r:af) (x:ak) (met:List Int):∀k,k<=(bG p x.1 x.2).length->(ji p rec r x met k).length<=k*B
 |0,_=>by rw[G3];simp
 |k+1,h=>by
  rw[G4 (by omega),List.length_append,Nat.succ_mul]
  have h1:=D7 (p:=p) hB ph r x met k (by omega)
  have h2:=Wr (p:=p) hB ph r x met ((bG p x.1 x.2).getD k (0,0))
  omega
theorem GD (p:ab):∀(n:Nat) (r:af) (x:ak) (met:List Int),(na p n r x met).length<=2 ^ n
 |0,_,_,_=>by show 0<=_;omega
 |n+1,r,x,met=>by
  have h1:1<=2 ^ n:=Nat.one_le_two_pow
  have hw:=D7 (p:=p) h1 (GD p n) r x (met++[x.1]) (bG p x.1 x.2).length (Nat.le_refl _)
  have ho:=Aq p x.1 x.2
  have hm:(bG p x.1 x.2).length*2 ^ n<=2*2 ^ n:=Nat.mul_le_mul_right _ ho
  have hp:2 ^ (n+1)=2*2 ^ n:=by rw[Nat.pow_succ,Nat.mul_comm]
  show(nG p (na p n) r x met).length<=_
  unfold nG
  cases bN met x.1||decide (r.2.2.2.1.length=12)<;>cases aK p x.1==4
  ·rw[cond_false,cond_false];omega
  ·rw[cond_false,cond_true];show 1<=_;omega
  ·rw[cond_true];show 0<=_;omega
  ·rw[cond_true];show 0<=_;omega
theorem v232 (n:Nat) (p:ab) (r:af) (x:Int×Int) (met:List Int):ah (aj aA [(31,yB),(207,yu),(253,K5),(254,F9),(229,yr),(227,ow),(232,Ga n)]) Tryz.f232 (Ga (n+1)) (a232 n (p,r,x,met,())) (p,r,x,met,())=(
U (bif bN met x.1 then true else(↑r.2.2.2.1.length:Int)==(12:Int)) fun(y4:Bool)=>
U (na p (n+(1:Nat)) r x met) fun(y5:List af)=>
U ((List.replicate (1:Nat) (0:Int)).set (0:Nat) x.1) fun(y6:List Int)=>
U (aK p x.1==(4:Int)) fun(y7:Bool)=>
U (List.replicate (1:Nat) ((0:Int),(0:Int),(0:Int),[],[],[],[],[],false))
fun(y8:List (af))=>
U (bG p x.1 x.2) fun(y9:List (Int×Int))=>
U (met++[x.1]) fun(bu:List Int)=>
True/\
(y4=true->[]=y5/\True)/\
(y4=false->
roomFor ((List.replicate (0:Nat) (0:Int)).length+met.length) (8:Nat)/\
roomFor ((List.replicate (0:Nat) (0:Int)++met).length+y6.length) (8:Nat)/\
True/\
(y7=true->um r/\y8.set (0:Nat) (eO r (x.1,x.2,(-1:Int)) (0:Int) (2:Int) (-1:Int))=y5/\True)/\
(y7=false->
True/\
(∃(sE:Nat),
sE<=y9.length/\
(↑sE:Int)=(0:Int)/\
y9=y9/\
ji p (na p n) r x bu sE=[]/\
bu=List.replicate (0:Nat) (0:Int)++met++y6/\
ay p (ay r (x.1=x.1/\x.2=x.2/\True)))/\
∀(ki:Nat),
U (decide ((↑ki:Int)<(↑y9.length:Int))) fun(aw:Bool)=>
U (y9.getD (↑ki:Int).toNat ((0:Int),(0:Int))) fun(aB:Int×Int)=>
U (cc p (x.1,aB.1)) fun(cL:Int)=>
U (ji p (na p n) r x bu ki) fun(bC:List af)=>
U (x.1,x.2,aB.1) fun(cC:Int×Int×Int)=>
U (y8.set (0:Nat) (eO r cC aB.2 (1:Int) cL))
fun(cy:List (af))=>
U (bx p (x.1,aB.1)) fun(dN:ak×Bool)=>
U (y8.set (0:Nat) (eO r cC aB.2 (3:Int) (-1:Int)))
fun(fw:List (af))=>
U (eO r cC aB.2 (0:Int) (-1:Int)) fun(du:af)=>
U (na p n du dN.1 bu) fun(eL:List af)=>
ki<=y9.length->
(aw=true->
aL (↑ki:Int) y9.length/\
aL (↑ki:Int) y9.length/\
True/\
(decide (cL>=(0:Int))=true->
aL (↑ki:Int) y9.length/\
um r/\
roomFor (bC.length+cy.length) (152:Nat)/\
bo IntKind.i64 ((↑ki:Int)+(1:Int))/\
∃(nv:Nat),
nv<=y9.length/\
y9.length - nv<y9.length - ki/\
(↑nv:Int)=(↑ki:Int)+(1:Int)/\
y9=y9/\
ji p (na p n) r x bu nv=bC++cy/\
bu=bu/\
ay p (ay r (x.1=x.1/\x.2=x.2/\True)))/\
(decide (cL>=(0:Int))=false->
True/\
((!dN.2)=true->
aL (↑ki:Int) y9.length/\
um r/\
roomFor (bC.length+fw.length) (152:Nat)/\
bo IntKind.i64 ((↑ki:Int)+(1:Int))/\
∃(nv:Nat),
nv<=y9.length/\
y9.length - nv<y9.length - ki/\
(↑nv:Int)=(↑ki:Int)+(1:Int)/\
y9=y9/\
ji p (na p n) r x bu nv=bC++fw/\
bu=bu/\
ay p (r.1=r.1/\
r.2.1=r.2.1/\
r.2.2.1=r.2.2.1/\
r.2.2.2.1=r.2.2.2.1/\
r.2.2.2.2.1=r.2.2.2.2.1/\
r.2.2.2.2.2.1=r.2.2.2.2.2.1/\
r.2.2.2.2.2.2.1=r.2.2.2.2.2.2.1/\
r.2.2.2.2.2.2.2.1=
r.2.2.2.2.2.2.2.1/\
r.2.2.2.2.2.2.2.2=
r.2.2.2.2.2.2.2.2/\
x.1=x.1/\x.2=x.2/\True))/\
((!dN.2)=false->
aL (↑ki:Int) y9.length/\
um r/\
BK n du bu/\
roomFor (bC.length+eL.length) (152:Nat)/\
bo IntKind.i64 ((↑ki:Int)+(1:Int))/\
∃(nv:Nat),
nv<=y9.length/\
y9.length - nv<y9.length - ki/\
(↑nv:Int)=(↑ki:Int)+(1:Int)/\
y9=y9/\
ji p (na p n) r x bu nv=bC++eL/\
bu=bu/\
ay p (r.1=r.1/\
r.2.1=r.2.1/\
r.2.2.1=r.2.2.1/\
r.2.2.2.1=r.2.2.2.1/\
r.2.2.2.2.1=r.2.2.2.2.1/\
r.2.2.2.2.2.1=r.2.2.2.2.2.1/\
r.2.2.2.2.2.2.1=r.2.2.2.2.2.2.1/\
r.2.2.2.2.2.2.2.1=
r.2.2.2.2.2.2.2.1/\
r.2.2.2.2.2.2.2.2=
r.2.2.2.2.2.2.2.2/\
x.1=x.1/\x.2=x.2/\True))))/\
(aw=false->bC=y5/\True)))):=by kernel_rfl
theorem ajQ (n:Nat) (p:ab) (r:af) (x:ak) (met:List Int) (hp:BK (n+1) r met):ah (aj aA [(31,yB),(207,yu),(253,K5),(254,F9),(229,yr),(227,ow),(232,Ga n)]) Tryz.f232 (Ga (n+1)) (a232 n (p,r,x,met,())) (p,r,x,met,()):=by
 obtain⟨⟨p1,p2,p3⟩,p4,p5⟩:=hp
 have RT:um r:=⟨by omega,by omega⟩
 have h2n:2 ^ n<=2 ^ 12:=Nat.pow_le_pow_right (by omega) (by omega)
 have aob:2 ^ 12=4096:=by decide
 have h1n:1<=2 ^ n:=Nat.one_le_two_pow
 rw[v232]
 refine U.mk fun y4 e4=>U.mk fun y5 e5=>U.mk fun y6 e6=>U.mk fun y7 e7=>U.mk fun y8 e8=>U.mk fun y9 e9=>U.mk fun bu dy=> ?_
 have e6:y6=[x.1]:=e6
 rw[F3 _ 12 12 rfl] at e4
 have hS:y5=bif y4 then[] else bif y7 then[eO r (x.1,x.2, -1) 0 2 (-1)] else ji p (na p n) r x bu (bG p x.1 x.2).length:=by
  rw[e5,e4,e7,dy]
  show nG p (na p n) r x met=_
  unfold nG
  have key:∀a b:Bool,(a||b)=(bif a then true else b):=by decide
  rw[key]
 simp only[dp,true_and,and_true,Int.toNat_natCast]
 refine⟨fun h=>by rw[hS,h];rfl,fun h4=>⟨cT (by simp;omega) (by omega),cT (by rw[e6];simp;omega) (by omega),fun h7=>⟨RT,by rw[hS,h4,h7,e8];rfl⟩,fun h7=>⟨⟨0,by omega,rfl,G3,by rw[dy,e6];rfl⟩,fun s=>U.mk fun aw dW=>U.mk fun aB gE=>U.mk fun cL j5=>U.mk fun bC iJ=>U.mk fun cC k7=>U.mk fun cy jF=>U.mk fun dN oh=>U.mk fun fw mH=>U.mk fun du og=>U.mk fun eL rr=> ?_⟩⟩⟩
 have XT:=Aq p x.1 x.2
 rw[<-e9] at XT
 intro hs
 have Ve:=D7 (p:=p) h1n (GD p n) r x bu s (by rw[<-e9];exact hs)
 rw[<-iJ] at Ve
 have hsm:s*2 ^ n<=2*4096:=Nat.mul_le_mul (by omega) (by omega)
 have gE:aB=(bG p x.1 x.2).getD s (0,0):=by rw[gE,e9]
 have ail:qM p (na p n) r x bu aB=bif decide (0<=cL) then[eO r cC aB.2 1 cL] else bif !dN.2 then[eO r cC aB.2 3 (-1)] else na p n du dN.1 bu:=by
  rw[og,oh,k7,j5]
  unfold qM
  rfl
 rw[e8] at jF mH
 have jF:cy=[eO r cC aB.2 1 cL]:=jF
 have mH:fw=[eO r cC aB.2 3 (-1)]:=mH
 refine⟨fun h=> ?_,fun h=> ?_⟩
 ·have h:=aZ dW h
  have nJ:aL (s:Int) y9.length:=⟨by omega,by omega⟩
  have rP:=G4 (rec:=na p n) (r:=r) (met:=bu) (k:=s) (by rw[<-e9];exact h)
  rw[<-gE,ail,<-iJ] at rP
  refine⟨nJ,nJ,fun qW=> ?_,fun qW=>⟨fun zG=> ?_,fun zG=> ?_⟩⟩
  ·refine⟨nJ,RT,cT (by rw[jF];simp;omega) (by omega),aY (by omega) (by omega),s+1,by omega,by omega,by omega,?_⟩
   have qW:decide (0<=cL)=true:=qW
   rw[rP,qW,jF]
   rfl
  ·refine⟨nJ,RT,cT (by rw[mH];simp;omega) (by omega),aY (by omega) (by omega),s+1,by omega,by omega,by omega,?_⟩
   have qW:decide (0<=cL)=false:=qW
   rw[rP,qW,zG,mH]
   rfl
  ·have an2:eL.length<=2 ^ n:=by rw[rr];exact GD p n _ _ _
   have jD:du.2.2.2.1.length=r.2.2.2.1.length+1:=by rw[og,jR];simp
   have hnd:du.2.2.2.2.1.length<=r.2.2.2.2.1.length+1:=by rw[og];exact yH _ _ _ _ _
   have kz:r.2.2.2.1.length≠12:=by
    rw[e4] at h4
    exact of_decide_eq_false (su h4).2
   have lp:bu.length=met.length+1:=by rw[dy];simp
   refine⟨nJ,RT,⟨⟨by omega,by omega,by omega⟩,by omega,by omega⟩,cT (by omega) (by omega),aY (by omega) (by omega),s+1,by omega,by omega,by omega,?_⟩
   have qW:decide (0<=cL)=false:=qW
   rw[rP,qW,zG,rr]
   rfl
 ·have hle:=bt dW h
  have:s=(bG p x.1 x.2).length:=by rw[<-e9];omega
  rw[hS,h4,h7,iJ,this]
  rfl
theorem OX {r:af} {met:List Int}:¬BK 0 r met:=fun hp=>by
 obtain⟨⟨p1,p2,p3⟩,_⟩:=hp
 omega
theorem W9:∀n:Nat,aN Tryz.prog 232 (Ga n)
 |0=>{fn:=⟨Tryz.f232,_,Tryz.func232,by kernel_rfl,rfl⟩,calls:=fun F w x vs hF hx hp=>absurd hp OX}
 |n+1=>aN.b3 (l:=[(31,yB),(207,yu),(253,K5),(254,F9),(229,yr),(227,ow),(232,Ga n)]) (A:=a232 n) aJ ⟨OZ,Rj,acw,W5,Rf,ze,W9 n,trivial⟩ Tryz.func232 (by kernel_rfl) (by kernel_rfl) fun x _ hp=>ajQ n x.1 x.2.1 x.2.2.1 x.2.2.2.1 hp
theorem v159 (p:ab) (s:Int):ah (aj aA [(213,TN),(227,ow),(232,Ga 13)]) Tryz.f159 Qk ar (p,s,())=(
U (bx p (lL p s).1) fun(y2:ak×Bool)=>
U (s,(0:Int),(0:Int),[],[],[],[],[],false) fun(y3:af)=>
U ((List.replicate (1:Nat) (0:Int)).set (0:Nat) (lL p s).1.1) fun(y4:List Int)=>
True/\
((!(lL p s).2)=true->[]=py p s/\True)/\
((!(lL p s).2)=false->True/\((!y2.2)=true->[]=py p s/\True)/\((!y2.2)=false->BK (13:Nat) y3 y4/\na p (13:Nat) y3 y2.1 y4=py p s/\True))):=by kernel_rfl
theorem Ti (s e:Int):BK 13 (wI s) [e]:=
 ⟨⟨show 12<0+13 by omega,show 0<=12 by omega,by omega⟩,show 0<=0 by omega,show 1<=0+1 by omega⟩
theorem adk:aN Tryz.prog 159 Qk:=
 aN.b3 (l:=[(213,TN),(227,ow),(232,Ga 13)]) (A:=fun _=>ar) aJ ⟨acP,ze,W9 13,trivial⟩ Tryz.func159 (by kernel_rfl) (by kernel_rfl) fun x _ hp=>by
  obtain⟨p,s,⟨⟩⟩:=x
  rw[v159]
  refine U.mk fun y2 e2=>U.mk fun y3 e3=>U.mk fun y4 e4=>⟨trivial,fun h=>⟨?_,trivial⟩,fun h=>⟨trivial,fun h2=>⟨?_,trivial⟩,fun h2=>⟨by rw[e3,e4];exact Ti _ _,?_,trivial⟩⟩⟩
  ·unfold py
   rw[h]
   rfl
  ·unfold py
   rw[h,<-e2,h2]
   rfl
  ·unfold py
   rw[h,<-e2,h2,e3,e4]
   rfl
theorem CK (p:ab) (s:Int):(py p s).length<=8192:=by
 unfold py
 have h:=GD p 13 (wI s) (bx p (lL p s).1).1 [(lL p s).1.1]
 have e:2 ^ 13=8192:=by decide
 rw[e] at h
 cases !(lL p s).2<;>cases !(bx p (lL p s).1).2
 ·exact h
 ·exact Nat.zero_le _
 ·exact Nat.zero_le _
 ·exact Nat.zero_le _
theorem tF (p:ab) (k:Nat):fP p (k+1)=fP p k++py p (k:Int):=by
 unfold fP
 rw[List.range_succ,List.flatMap_append]
 simp
theorem Aa {p:ab} {k:Nat} (h:cj (j7 p) k=false):(fP p k).length<=64:=by
 cases k with
 |zero=>unfold fP;simp
 |succ k=>
  have:=iX.1 h k (by omega)
  have:=of_decide_eq_false this
  omega
theorem ahc (p:ab):bS (aj aA [(159,Qk)]) Tryz.f103 L3 (Zn (p,())) (p,())=(
(∃(rn:Nat),
(rn<=p.2.2.1.length/\eb (j7 p) rn)/\
(↑rn:Int)=(0:Int)/\
fP p rn=[]/\
ay p (True))/\
∀(s1:Nat),
U (decide ((↑s1:Int)<(↑p.2.2.1.length:Int))) fun(y2:Bool)=>
U (fP p s1++py p (↑s1:Int)) fun(y3:List (af))=>
U (decide ((↑y3.length:Int)>(64:Int))) fun(y4:Bool)=>
s1<=p.2.2.1.length/\eb (j7 p) s1->
(y2=true->
True/\
roomFor ((fP p s1).length+(py p (↑s1:Int)).length) (152:Nat)/\
(y4=true->[]=(cZ p).1/\(3:Int)=(cZ p).2/\True)/\
(y4=false->
bo IntKind.i64 ((↑s1:Int)+(1:Int))/\
∃(gO:Nat),
(gO<=p.2.2.1.length/\eb (j7 p) gO)/\
p.2.2.1.length - gO<p.2.2.1.length - s1/\
(↑gO:Int)=(↑s1:Int)+(1:Int)/\
fP p gO=y3/\
ay p (True)))/\
(y2=false->fP p s1=(cZ p).1/\(0:Int)=(cZ p).2/\True)):=by kernel_rfl
theorem akB (p:ab) (hl:p.2.2.1.length<=1000):bS (aj aA [(159,Qk)]) Tryz.f103 L3 (Zn (p,())) (p,()):=by
 have hA:cZ p=bif cj (j7 p) p.2.2.1.length then([],3) else(fP p p.2.2.1.length,0):=by unfold cZ;rfl
 rw[ahc]
 simp only[dp,true_and,and_true,Int.toNat_natCast]
 refine⟨⟨0,⟨by omega,rfl⟩,rfl,by unfold fP;rfl⟩,fun s=>U.mk fun y2 e2=>U.mk fun y3 e3=>U.mk fun y4 e4=> ?_⟩
 rintro⟨h1,h2⟩
 have h2:cj (j7 p) s=false:=h2
 have zy:=Aa h2
 have XT:=CK p s
 have e3:y3=fP p (s+1):=by rw[tF];exact e3
 have e4:j7 p s=y4:=by
  rw[e4,wc _ 64 64 rfl,e3]
  unfold j7
  by_cases h:(fP p (s+1)).length<=64
  ·rw[decide_eq_true h,decide_eq_false (by omega)];rfl
  ·rw[decide_eq_false h,decide_eq_true (by omega)];rfl
 refine⟨fun h=> ?_,fun h=> ?_⟩
 ·have h:=aZ e2 h
  refine⟨cT (by omega) (by omega),fun h4=> ?_,fun h4=>⟨aY (by omega) (by omega),s+1,⟨by omega,?_⟩,by omega,by omega,e3.symm⟩⟩
  ·rw[hA,nR h (by rw[e4,h4])]
   exact⟨rfl,rfl⟩
  ·exact j6 h2 (by rw[e4,h4])
 ·have hle:=bt e2 h
  have:s=p.2.2.1.length:=by omega
  subst this
  rw[hA,h2]
  exact⟨rfl,rfl⟩
theorem adN:fq Tryz.prog 103 L3:=
 fq.b3 (l:=[(159,Qk)]) (A:=Zn) aJ ⟨adk,trivial⟩ Tryz.func103 (by kernel_rfl) (by kernel_rfl) fun x _ hp=>akB x.1 hp
theorem zb {p:ab} {l:List ak} {s:Nat} (h:s<l.length):cF p (l.take (s+1))=cF p (l.take s)++(bif(bx p (l.getD s (0,0))).2 then[l.getD s (0,0)] else[]):=by
 unfold cF
 rw[eQ (0,0) h,List.filter_append]
 congr 1
theorem uG {p:ab} {r:af} {s:Nat} (h:s<r.2.2.2.1.length):c8 p r (s+1)=c8 p r s++cF p (js p (r.2.2.2.1.getD s iC)):=by
 unfold c8
 exact p8 _ iC h
theorem vW (p:ab) (s:cu):(js p s).length<=2:=by
 unfold js
 cases aK p s.1==2<;>cases aK p s.1==3<;>simp
theorem vV (p:ab) (l:List ak):(cF p l).length<=l.length:=by
 unfold cF
 exact List.length_filter_le _ _
theorem pC (p:ab) (r:af):∀k,k<=r.2.2.2.1.length->(c8 p r k).length<=2*k
 |0,_=>by unfold c8;simp
 |k+1,h=>by
  rw[uG (by omega),List.length_append]
  have h1:=pC p r k (by omega)
  have h2:=vV p (js p (r.2.2.2.1.getD k iC))
  have h3:=vW p (r.2.2.2.1.getD k iC)
  omega
theorem v160 (p:ab) (r:af):ah (aj aA [(207,yu),(227,ow)]) Tryz.f160 LH (a160 (p,r,())) (p,r,())=(
(∃(dr:Nat),
dr<=r.2.2.2.1.length/\
(↑dr:Int)=(0:Int)/\
c8 p r dr=[]/\
ay p (ay r (True)))/\
∀(s2:Nat),
U (decide ((↑s2:Int)<(↑r.2.2.2.1.length:Int))) fun(y3:Bool)=>
U (r.2.2.2.1.getD (↑s2:Int).toNat ((0:Int),(0:Int),(0:Int))) fun(y4:Int×Int×Int)=>
U (aK p y4.1==(2:Int)) fun(y5:Bool)=>
U ((3:Int) - max y4.2.1 y4.2.2) fun(y6:Int)=>
U ((List.replicate (1:Nat) ((0:Int),(0:Int))).set (0:Nat) (y4.1,y6)) fun(y7:List (Int×Int))=>
U (js p (r.2.2.2.1.getD (↑s2:Int).toNat iC)) fun(y8:List ak)=>
U (c8 p r (↑s2:Int).toNat) fun(y9:List ak)=>
U (aK p y4.1==(3:Int)) fun(bu:Bool)=>
U (bif decide (y4.2.1>=(2:Int)) then(0:Int) else(2:Int)) fun(bH:Int)=>
U (((List.replicate (2:Nat) ((0:Int),(0:Int))).set (0:Nat) (y4.1,bH)).set (1:Nat) (y4.1,bH+(1:Int))) fun(aw:List (Int×Int))=>
s2<=r.2.2.2.1.length->
(y3=true->
aL (↑s2:Int) r.2.2.2.1.length/\
True/\
(y5=true->
bo IntKind.i64 y6/\
roomFor y7.length (16:Nat)/\
(∃(iG:Nat),
iG<=y8.length/\
(↑iG:Int)=(0:Int)/\
(↑s2:Int)=(↑s2:Int)/\
y9++cF p (List.take iG y8)=c8 p r s2/\
y8=y7/\
ay p (ay r (True)))/\
∀(bM:Nat),
U (decide ((↑bM:Int)<(↑y8.length:Int))) fun(cL:Bool)=>
U (y8.getD (↑bM:Int).toNat ((0:Int),(0:Int))) fun(bC:Int×Int)=>
U (y9++cF p (List.take bM y8)) fun(cC:List ak)=>
U ((List.replicate (1:Nat) ((0:Int),(0:Int))).set (0:Nat) bC) fun(cy:List (Int×Int))=>
bM<=y8.length->
(cL=true->
aL (↑bM:Int) y8.length/\
True/\
((bx p bC).2=true->
aL (↑bM:Int) y8.length/\
roomFor (cC.length+cy.length) (16:Nat)/\
bo IntKind.i64 ((↑bM:Int)+(1:Int))/\
∃(db:Nat),
db<=y8.length/\
y8.length - db<y8.length - bM/\
(↑db:Int)=(↑bM:Int)+(1:Int)/\
(↑s2:Int)=(↑s2:Int)/\
y9++cF p (List.take db y8)=cC++cy/\
y8=y8/\
ay p (ay r (True)))/\
((bx p bC).2=false->
bo IntKind.i64 ((↑bM:Int)+(1:Int))/\
∃(db:Nat),
db<=y8.length/\
y8.length - db<y8.length - bM/\
(↑db:Int)=(↑bM:Int)+(1:Int)/\
(↑s2:Int)=(↑s2:Int)/\
y9++cF p (List.take db y8)=cC/\
y8=y8/\
ay p (ay r (True))))/\
(cL=false->
bo IntKind.i64 ((↑s2:Int)+(1:Int))/\
∃(db:Nat),
db<=r.2.2.2.1.length/\
r.2.2.2.1.length - db<r.2.2.2.1.length - s2/\
(↑db:Int)=(↑s2:Int)+(1:Int)/\
c8 p r db=cC/\
ay p (ay r (True))))/\
(y5=false->
(bu=true->
bo IntKind.i64 (bH+(1:Int))/\
roomFor aw.length (16:Nat)/\
(∃(iG:Nat),
iG<=y8.length/\
(↑iG:Int)=(0:Int)/\
(↑s2:Int)=(↑s2:Int)/\
y9++cF p (List.take iG y8)=c8 p r s2/\
y8=aw/\
ay p (ay r (True)))/\
∀(bM:Nat),
U (decide ((↑bM:Int)<(↑y8.length:Int))) fun(cL:Bool)=>
U (y8.getD (↑bM:Int).toNat ((0:Int),(0:Int))) fun(bC:Int×Int)=>
U (y9++cF p (List.take bM y8)) fun(cC:List ak)=>
U ((List.replicate (1:Nat) ((0:Int),(0:Int))).set (0:Nat) bC) fun(cy:List (Int×Int))=>
bM<=y8.length->
(cL=true->
aL (↑bM:Int) y8.length/\
True/\
((bx p bC).2=true->
aL (↑bM:Int) y8.length/\
roomFor (cC.length+cy.length) (16:Nat)/\
bo IntKind.i64 ((↑bM:Int)+(1:Int))/\
∃(db:Nat),
db<=y8.length/\
y8.length - db<y8.length - bM/\
(↑db:Int)=(↑bM:Int)+(1:Int)/\
(↑s2:Int)=(↑s2:Int)/\
y9++cF p (List.take db y8)=cC++cy/\
y8=y8/\
ay p (ay r (True)))/\
((bx p bC).2=false->
bo IntKind.i64 ((↑bM:Int)+(1:Int))/\
∃(db:Nat),
db<=y8.length/\
y8.length - db<y8.length - bM/\
(↑db:Int)=(↑bM:Int)+(1:Int)/\
(↑s2:Int)=(↑s2:Int)/\
y9++cF p (List.take db y8)=cC/\
y8=y8/\
ay p (ay r (True))))/\
(cL=false->
bo IntKind.i64 ((↑s2:Int)+(1:Int))/\
∃(db:Nat),
db<=r.2.2.2.1.length/\
r.2.2.2.1.length - db<r.2.2.2.1.length - s2/\
(↑db:Int)=(↑s2:Int)+(1:Int)/\
c8 p r db=cC/\
ay p (ay r (True))))/\
(bu=false->
(∃(iG:Nat),
iG<=y8.length/\
(↑iG:Int)=(0:Int)/\
(↑s2:Int)=(↑s2:Int)/\
y9++cF p (List.take iG y8)=c8 p r s2/\
y8=[]/\
ay p (ay r (True)))/\
∀(bM:Nat),
U (decide ((↑bM:Int)<(↑y8.length:Int))) fun(cL:Bool)=>
U (y8.getD (↑bM:Int).toNat ((0:Int),(0:Int))) fun(bC:Int×Int)=>
U (y9++cF p (List.take bM y8)) fun(cC:List ak)=>
U ((List.replicate (1:Nat) ((0:Int),(0:Int))).set (0:Nat) bC) fun(cy:List (Int×Int))=>
bM<=y8.length->
(cL=true->
aL (↑bM:Int) y8.length/\
True/\
((bx p bC).2=true->
aL (↑bM:Int) y8.length/\
roomFor (cC.length+cy.length) (16:Nat)/\
bo IntKind.i64 ((↑bM:Int)+(1:Int))/\
∃(db:Nat),
db<=y8.length/\
y8.length - db<y8.length - bM/\
(↑db:Int)=(↑bM:Int)+(1:Int)/\
(↑s2:Int)=(↑s2:Int)/\
y9++cF p (List.take db y8)=cC++cy/\
y8=y8/\
ay p (ay r (True)))/\
((bx p bC).2=false->
bo IntKind.i64 ((↑bM:Int)+(1:Int))/\
∃(db:Nat),
db<=y8.length/\
y8.length - db<y8.length - bM/\
(↑db:Int)=(↑bM:Int)+(1:Int)/\
(↑s2:Int)=(↑s2:Int)/\
y9++cF p (List.take db y8)=cC/\
y8=y8/\
ay p (ay r (True))))/\
(cL=false->
bo IntKind.i64 ((↑s2:Int)+(1:Int))/\
∃(db:Nat),
db<=r.2.2.2.1.length/\
r.2.2.2.1.length - db<r.2.2.2.1.length - s2/\
(↑db:Int)=(↑s2:Int)+(1:Int)/\
c8 p r db=cC/\
ay p (ay r (True))))))/\
(y3=false->c8 p r s2=bE p r/\True)):=by kernel_rfl
theorem xB {p:ab} {r:af} {s j:Nat} {y8 y9 cC:List ak} {cL:Bool} {bC:ak} {cy:List ak} (hl:r.2.2.2.1.length<=1000) (hs:s<r.2.2.2.1.length)
  (e8:y8=js p (r.2.2.2.1.getD s iC)) (e9:y9=c8 p r s) (hj:j<=y8.length)
  (j5:cL=decide ((j:Int)<(y8.length:Int))) (iJ:bC=y8.getD j (0,0)) (k7:cC=y9++cF p (y8.take j)) (jF:cy=[bC]):
  (cL=true->aL (j:Int) y8.length/\
   ((bx p bC).2=true->aL (j:Int) y8.length/\roomFor (cC.length+cy.length) 16/\bo IntKind.i64 ((j:Int)+1)/\
    ∃s',s'<=y8.length/\y8.length - s'<y8.length - j/\(s':Int)=(j:Int)+1/\y9++cF p (y8.take s')=cC++cy)/\
   ((bx p bC).2=false->bo IntKind.i64 ((j:Int)+1)/\
    ∃s',s'<=y8.length/\y8.length - s'<y8.length - j/\(s':Int)=(j:Int)+1/\y9++cF p (y8.take s')=cC))/\
  (cL=false->bo IntKind.i64 ((s:Int)+1)/\∃s',s'<=r.2.2.2.1.length/\r.2.2.2.1.length - s'<r.2.2.2.1.length - s/\(s':Int)=(s:Int)+1/\c8 p r s'=cC):=by
 have hl8:y8.length<=2:=by rw[e8];exact vW _ _
 have hl9:y9.length<=2*s:=by rw[e9];exact pC p r s (by omega)
 have an5:cC.length<=4000:=by
  have:=vV p (y8.take j)
  rw[List.length_take] at this
  rw[k7,List.length_append]
  omega
 refine⟨fun h=> ?_,fun h=> ?_⟩
 ·have h:=aZ j5 h
  have rP:=zb (p:=p) h
  rw[<-iJ] at rP
  refine⟨⟨by omega,by omega⟩,fun hn=>⟨⟨by omega,by omega⟩,cT (by rw[jF];simp;omega) (by omega),aY (by omega) (by omega),j+1,by omega,by omega,by omega,?_⟩,fun hn=>⟨aY (by omega) (by omega),j+1,by omega,by omega,by omega,?_⟩⟩
  ·rw[rP,hn,k7,jF,List.append_assoc]
   rfl
  ·rw[rP,hn,k7,cond_false,List.append_nil]
 ·refine⟨aY (by omega) (by omega),s+1,by omega,by omega,by omega,?_⟩
  rw[uG hs,<-e8,<-e9,k7,tK j5 h]
theorem akc (p:ab) (r:af) (hp:qB r):ah (aj aA [(207,yu),(227,ow)]) Tryz.f160 LH (a160 (p,r,())) (p,r,()):=by
 obtain⟨hl,jD⟩:=hp
 rw[v160]
 simp only[dp,true_and,and_true,Int.toNat_natCast]
 refine⟨⟨0,by omega,rfl,by unfold c8;rfl⟩,fun s=>U.mk fun y3 e3=>U.mk fun y4 e4=>U.mk fun y5 e5=>U.mk fun y6 e6=>U.mk fun y7 e7=>U.mk fun y8 e8=>U.mk fun y9 e9=>U.mk fun bu dy=>U.mk fun bH eK=>U.mk fun aw dW=> ?_⟩
 intro hs
 have e4:y4=r.2.2.2.1.getD s iC:=e4
 have hP:y8=bif y5 then[(y4.1,3 - max y4.2.1 y4.2.2)] else bif bu then[(y4.1,ra y4),(y4.1,ra y4+1)] else[]:=by
  rw[e8,<-e4,e5,dy]
  unfold js
  rfl
 refine⟨fun h=> ?_,fun h=> ?_⟩
 ·have h:=aZ e3 h
  obtain⟨⟨q1,q2⟩,q3,q4⟩:=jD y4 (by rw[e4];exact fJ iC h)
  have e7:y7=[(y4.1,y6)]:=e7
  have dW:aw=[(y4.1,bH),(y4.1,bH+1)]:=dW
  have eK:bH=ra y4:=eK
  have hc:ra y4=0\/ra y4=2:=by
   unfold ra
   cases decide (2<=y4.2.1)
   ·exact .inr rfl
   ·exact .inl rfl
  have h0:y9++cF p (List.take 0 y8)=c8 p r s:=by
   rw[e9]
   unfold cF
   simp
  refine⟨⟨by omega,by omega⟩,fun h5=>⟨aY (by omega) (by omega),cT (by rw[e7];simp) (by omega),⟨0,by omega,rfl,h0,by rw[hP,h5,e7,e6];rfl⟩,fun j=>U.mk fun cL j5=>U.mk fun bC iJ=>U.mk fun cC k7=>U.mk fun cy jF=>fun hj=>xB hl h e8 e9 hj j5 iJ k7 jF⟩,fun h5=>⟨fun lp=>⟨aY (by omega) (by omega),cT (by rw[dW];simp) (by omega),⟨0,by omega,rfl,h0,by rw[hP,h5,lp,dW,eK];rfl⟩,fun j=>U.mk fun cL j5=>U.mk fun bC iJ=>U.mk fun cC k7=>U.mk fun cy jF=>fun hj=>xB hl h e8 e9 hj j5 iJ k7 jF⟩,fun lp=>⟨⟨0,by omega,rfl,h0,by rw[hP,h5,lp];rfl⟩,fun j=>U.mk fun cL j5=>U.mk fun bC iJ=>U.mk fun cC k7=>U.mk fun cy jF=>fun hj=>xB hl h e8 e9 hj j5 iJ k7 jF⟩⟩⟩
 ·have hle:=bt e3 h
  have:s=r.2.2.2.1.length:=by omega
  subst this
  unfold bE
  rfl
theorem adj:aN Tryz.prog 160 LH:=
 aN.b3 (l:=[(207,yu),(227,ow)]) (A:=a160) aJ ⟨Rj,ze,trivial⟩ Tryz.func160 (by kernel_rfl) (by kernel_rfl) fun x _ hp=>akc x.1 x.2.1 hp
theorem yz {a b:au} (h:a=b):a.1=b.1/\a.2.1=b.2.1/\a.2.2.1=b.2.2.1/\a.2.2.2.1=b.2.2.2.1/\a.2.2.2.2.1=b.2.2.2.2.1/\a.2.2.2.2.2.1=b.2.2.2.2.2.1/\a.2.2.2.2.2.2.1=b.2.2.2.2.2.2.1/\
  a.2.2.2.2.2.2.2.1=b.2.2.2.2.2.2.2.1/\a.2.2.2.2.2.2.2.2.1=b.2.2.2.2.2.2.2.2.1/\a.2.2.2.2.2.2.2.2.2.1=b.2.2.2.2.2.2.2.2.2.1/\a.2.2.2.2.2.2.2.2.2.2=b.2.2.2.2.2.2.2.2.2.2/\True:=by
 subst h
 exact⟨rfl,rfl,rfl,rfl,rfl,rfl,rfl,rfl,rfl,rfl,rfl,trivial⟩
theorem pZ {α:Type} [BEq α] [LawfulBEq α]:∀{l m:List α},l.Nodup->(∀x∈l,x∈m)->l.length<=m.length
 |[],_,_,_=>Nat.zero_le _
 |x::l,m,hn,hs=>by
  obtain⟨h1,h2⟩:=List.nodup_cons.1 hn
  have hx:=hs x (by simp)
  have ih:=pZ (m:=m.erase x) h2 fun y hy=>by
   have Nc:=hs y (List.mem_cons_of_mem _ hy)
   have kz:y≠x:=fun e=>h1 (e▸hy)
   exact(List.mem_erase_of_ne kz).2 Nc
  have hl:=List.length_erase_of_mem hx
  have vG:0<m.length:=List.length_pos_of_mem hx
  rw[List.length_cons]
  omega
structure lz (s s':au):Prop where
 inv:DX s'
 qJ:s'.1=s.1
 met:(ct s).length<=(ct s').length
theorem lz.refl {s:au} (h:DX s):lz s s:=⟨h,rfl,Nat.le_refl _⟩
theorem lz.trans {a b c:au} (h:lz a b) (k:lz b c):lz a c:=⟨k.inv,k.qJ.trans h.qJ,Nat.le_trans h.met k.met⟩
theorem lz.gl {s s':au} {n:Nat} (h:lz s s') (k:gl n s):gl n s':=⟨h.inv,by rw[h.qJ];have:=k.2;have:=h.met;omega⟩
theorem z7 {s:au} (h:DX s):lz s (uA s):=⟨⟨h.vF,h.zo,h.nodup,h.sub,h.guards,h.holds,h.nu,h.steps⟩,rfl,Nat.le_refl _⟩
theorem nt {s:au} (h:DX s) (e:Int):lz s (bK s e).2/\ct (bK s e).2=ct s:=by
 unfold bK
 cases bN (cP s) e with
 |true=>exact⟨.refl h,rfl⟩
 |false=>
  cases hd:decide (12<=(cP s).length) with
  |true=>exact⟨z7 h,rfl⟩
  |false=>
   have hd:=of_decide_eq_false hd
   refine⟨⟨⟨h.vF,h.zo,h.nodup,h.sub,h.guards,h.holds,?_,h.steps⟩,rfl,Nat.le_refl _⟩,rfl⟩
   show(cP s++[e]).length<=12
   rw[List.length_append]
   show(cP s).length+1<=12
   omega
theorem qh {rec:ak->au->au} {n:Nat} (ph:∀y s,pg n y s->lz s (rec y s)) (e stop:Int) {s:au} (h:gl n s):lz s (pB rec e stop s):=by
 unfold pB
 cases hn:(bx s.1 (e,stop)).2 with
 |true=>exact ph _ _ ⟨h,o7 hn⟩
 |false=>exact .refl h.1
theorem JC {rec:ak->au->au} {n:Nat} (ph:∀y s,pg n y s->lz s (rec y s)) {y:ak} {s:au} (h:lR n y s):lz s (jn rec y s):=by
 obtain⟨⟨h1,h2⟩,h3⟩:=h
 obtain⟨hz,_⟩:=nt h1.1 y.1
 unfold jn
 cases y.2==0 with
 |true=>
  cases (bK s y.1).1 with
  |true=>
   have k1:=qh ph y.1 1 (hz.gl h1)
   have k2:=qh ph y.1 2 (k1.gl (hz.gl h1))
   exact hz.trans (k1.trans k2)
  |false=>exact hz
 |false=>
  cases !bq (cX s) (y.1,y.2)&& !bq (aS s) (y.1,y.2) with
  |true=>
   cases bq (aS s) (y.1,3 - y.2) with
   |true=>exact .refl h1.1
   |false=>
    refine⟨⟨h1.1.vF,h1.1.zo,h1.1.nodup,h1.1.sub,?_,h1.1.holds,h1.1.nu,h1.1.steps⟩,rfl,Nat.le_refl _⟩
    show(aS s++[(y.1,3 - y.2)]).length<=(ct s).length
    rw[List.length_append]
    show(aS s).length+1<=_
    omega
  |false=>
   cases (bK s y.1).1 with
   |true=>exact hz.trans (qh ph y.1 0 (hz.gl h1))
   |false=>exact hz
theorem Rw {rec:ak->au->au} {n:Nat} (ph:∀y s,pg n y s->lz s (rec y s)) {y:ak} {s:au} (h:lR n y s) (hh:(cH s).length<(ct s).length):lz s (vp rec y s):=by
 have h1:=h.1.1
 obtain⟨hz,_⟩:=nt h1.1 y.1
 unfold vp
 cases decide (0<=cc s.1 y)&& !s.1.2.2.2.2.2.2.2.2 with
 |true=>
  cases bN (cH s) (cc s.1 y) with
  |true=>exact .refl h1.1
  |false=>
   refine⟨⟨h1.1.vF,h1.1.zo,h1.1.nodup,h1.1.sub,h1.1.guards,?_,h1.1.nu,h1.1.steps⟩,rfl,Nat.le_refl _⟩
   show(cH s++[cc s.1 y]).length<=(ct s).length
   rw[List.length_append]
   show(cH s).length+1<=_
   omega
 |false=>
  cases aK s.1 y.1==4 with
  |true=>exact z7 h1.1
  |false=>
   cases aK s.1 y.1==2 with
   |true=>exact JC ph h
   |false=>
    cases (bK s y.1).1 with
    |true=>exact hz.trans (qh ph _ _ (hz.gl h1))
    |false=>exact hz
theorem wQ {s:au} {n:Nat} {y:ak} (h:pg (n+1) y s) (hy:fV (ct s) y=false):
  lR n y (eR s (ct s++[y]))/\(cH (eR s (ct s++[y]))).length<(ct (eR s (ct s++[y]))).length/\lz s (eR s (ct s++[y])):=by
 obtain⟨⟨h1,h2⟩,h3⟩:=h
 have hl:(ct (eR s (ct s++[y]))).length=(ct s).length+1:=by
  show(ct s++[y]).length=_
  rw[List.length_append]
  rfl
 have Tt:y∉ct s:=fun hm=>by
  unfold fV at hy
  have:=List.any_eq_false.1 hy y hm
  simp at this
 have inv:DX (eR s (ct s++[y])):=by
  refine⟨h1.vF,h1.zo,?_,?_,?_,?_,h1.nu,h1.steps⟩
  ·show(ct s++[y]).Nodup
   rw[List.nodup_append]
   refine⟨h1.nodup,by simp,fun a ha b hb=> ?_⟩
   have:b=y:=by simpa using hb
   subst this
   exact fun e=>Tt (e▸ha)
  ·intro z hz
   have hz:z∈ct s++[y]:=hz
   rcases List.mem_append.1 hz with hz|hz
   ·exact h1.sub z hz
   ·have:z=y:=by simpa using hz
    rw[this];exact h3
  ·rw[hl];have:=h1.guards;show(aS s).length<=_;omega
  ·rw[hl];have:=h1.holds;show(cH s).length<=_;omega
 refine⟨⟨⟨⟨inv,?_⟩,h3⟩,?_⟩,?_,⟨inv,rfl,by rw[hl];omega⟩⟩
 ·rw[hl];show(bW s.1).length<_;omega
 ·rw[hl];have:=h1.guards;show(aS s).length<_;omega
 ·rw[hl];have:=h1.holds;show(cH s).length<_;omega
theorem x7 {y:ak} {s:au}:¬pg 0 y s:=fun h=>by
 have:=pZ h.1.1.nodup h.1.1.sub
 have:=h.1.2
 omega
theorem sP:∀(n:Nat) (y:ak) (s:au),pg n y s->lz s (dP n y s)
 |0,y,s,h=>absurd h x7
 |n+1,y,s,h=>by
  show lz s (sT (dP n) y s)
  unfold sT
  cases hb:kI (iZ s) y.1||fV (ct s) y with
  |true=>exact .refl h.1.1
  |false=>
   rw[Bool.or_eq_false_iff] at hb
   obtain⟨k1,k2,k3⟩:=wQ h hb.2
   exact k3.trans (Rw (sP n) k1 k2)
theorem af6 (s:au) (e:Int):bS (aj aA [(31,yB)]) Tryz.f259 DB ar (s,e,())=(
U (bN s.2.2.2.2.2.2.2.1 e) fun(y2:Bool)=>
U (bK s e).2.2.2 fun(y3:Int×Int×List (Int×Int×Int)×List (Int×Int)×List (Int×Int)×List Int×List Int×Bool×List (Int×Int))=>
U (decide ((↑s.2.2.2.2.2.2.2.1.length:Int)>=(12:Int))) fun(y4:Bool)=>
U ((List.replicate (1:Nat) (0:Int)).set (0:Nat) e) fun(y5:List Int)=>
True/\
(y2=true->
true=(bK s e).1/\
s.1=(bK s e).2.1/\
s.2.1=(bK s e).2.2.1/\
s.2.2.1=y3.1/\
s.2.2.2.1=y3.2.1/\
s.2.2.2.2.1=y3.2.2.1/\
s.2.2.2.2.2.1=y3.2.2.2.1/\
s.2.2.2.2.2.2.1=y3.2.2.2.2.1/\
s.2.2.2.2.2.2.2.1=y3.2.2.2.2.2.1/\
s.2.2.2.2.2.2.2.2.1=y3.2.2.2.2.2.2.1/\
s.2.2.2.2.2.2.2.2.2.1=y3.2.2.2.2.2.2.2.1/\
s.2.2.2.2.2.2.2.2.2.2=y3.2.2.2.2.2.2.2.2/\True)/\
(y2=false->
(y4=true->
false=(bK s e).1/\
s.1=(bK s e).2.1/\
s.2.1=(bK s e).2.2.1/\
s.2.2.1=y3.1/\
s.2.2.2.1=y3.2.1/\
s.2.2.2.2.1=y3.2.2.1/\
s.2.2.2.2.2.1=y3.2.2.2.1/\
s.2.2.2.2.2.2.1=y3.2.2.2.2.1/\
s.2.2.2.2.2.2.2.1=y3.2.2.2.2.2.1/\
s.2.2.2.2.2.2.2.2.1=y3.2.2.2.2.2.2.1/\
true=y3.2.2.2.2.2.2.2.1/\s.2.2.2.2.2.2.2.2.2.2=y3.2.2.2.2.2.2.2.2/\True)/\
(y4=false->
roomFor (s.2.2.2.2.2.2.2.1.length+y5.length) (8:Nat)/\
true=(bK s e).1/\
s.1=(bK s e).2.1/\
s.2.1=(bK s e).2.2.1/\
s.2.2.1=y3.1/\
s.2.2.2.1=y3.2.1/\
s.2.2.2.2.1=y3.2.2.1/\
s.2.2.2.2.2.1=y3.2.2.2.1/\
s.2.2.2.2.2.2.1=y3.2.2.2.2.1/\
s.2.2.2.2.2.2.2.1++y5=y3.2.2.2.2.2.1/\
s.2.2.2.2.2.2.2.2.1=y3.2.2.2.2.2.2.1/\
s.2.2.2.2.2.2.2.2.2.1=y3.2.2.2.2.2.2.2.1/\
s.2.2.2.2.2.2.2.2.2.2=y3.2.2.2.2.2.2.2.2/\True))):=by kernel_rfl
theorem ajF (s:au) (e:Int) (hz:(cP s).length<=1000):bS (aj aA [(31,yB)]) Tryz.f259 DB ar (s,e,()):=by
 have hz:s.2.2.2.2.2.2.2.1.length<=1000:=hz
 rw[af6]
 refine U.mk fun y2 e2=>U.mk fun y3 e3=>U.mk fun y4 e4=>U.mk fun y5 e5=> ?_
 have e5:y5=[e]:=e5
 rw[Sd _ 12 12 rfl] at e4
 subst e3
 have hZ:bK s e=bif y2 then(true,s) else bif y4 then(false,uA s) else(true,Mr s (cP s++[e])):=by
  rw[e2,e4]
  unfold bK
  rfl
 refine⟨trivial,fun h=>⟨by rw[hZ,h];rfl,yz (by rw[hZ,h];rfl)⟩,fun h=>⟨fun h4=>⟨by rw[hZ,h,h4];rfl,yz (a:=uA s) (by rw[hZ,h,h4];rfl)⟩,fun h4=>⟨cT (by rw[e5];simp;omega) (by omega),by rw[hZ,h,h4];rfl,?_⟩⟩⟩
 rw[e5]
 exact yz (a:=Mr s (cP s++[e])) (by rw[hZ,h,h4];rfl)
theorem W4:fq Tryz.prog 259 DB:=
 fq.b3 (l:=[(31,yB)]) (A:=fun _=>ar) aJ ⟨OZ,trivial⟩ Tryz.func259 (by kernel_rfl) (by kernel_rfl) fun x _ hp=>ajF x.1 x.2.1 hp
theorem agP (n:Nat) (s:au) (e:Int) (stop:Int):bS (aj aA [(227,ow),(233,I9 n)]) Tryz.f161 (w7 n) ar (s,e,stop,())=(
U (bx s.1 (e,stop)) fun(y3:ak×Bool)=>
U (pB (dP n) e stop s) fun(y4:au)=>
U (dP n y3.1 s).2 fun(y5:Int×Int×Int×List (Int×Int×Int)×List (Int×Int)×List (Int×Int)×List Int×List Int×Bool×List (Int×Int))=>
True/\
(y3.2=true->
pg n y3.1 s/\
(dP n y3.1 s).1=y4.1/\
y5.1=y4.2.1/\
y5.2.1=y4.2.2.1/\
y5.2.2.1=y4.2.2.2.1/\
y5.2.2.2.1=y4.2.2.2.2.1/\
y5.2.2.2.2.1=y4.2.2.2.2.2.1/\
y5.2.2.2.2.2.1=y4.2.2.2.2.2.2.1/\
y5.2.2.2.2.2.2.1=y4.2.2.2.2.2.2.2.1/\
y5.2.2.2.2.2.2.2.1=y4.2.2.2.2.2.2.2.2.1/\
y5.2.2.2.2.2.2.2.2.1=y4.2.2.2.2.2.2.2.2.2.1/\
y5.2.2.2.2.2.2.2.2.2=y4.2.2.2.2.2.2.2.2.2.2/\True)/\
(y3.2=false->
s.1=y4.1/\
s.2.1=y4.2.1/\
s.2.2.1=y4.2.2.1/\
s.2.2.2.1=y4.2.2.2.1/\
s.2.2.2.2.1=y4.2.2.2.2.1/\
s.2.2.2.2.2.1=y4.2.2.2.2.2.1/\
s.2.2.2.2.2.2.1=y4.2.2.2.2.2.2.1/\
s.2.2.2.2.2.2.2.1=y4.2.2.2.2.2.2.2.1/\
s.2.2.2.2.2.2.2.2.1=y4.2.2.2.2.2.2.2.2.1/\
s.2.2.2.2.2.2.2.2.2.1=y4.2.2.2.2.2.2.2.2.2.1/\
s.2.2.2.2.2.2.2.2.2.2=y4.2.2.2.2.2.2.2.2.2.2/\True)):=by kernel_rfl
theorem abS (n:Nat) (s:au) (e stop:Int) (hp:gl n s):bS (aj aA [(227,ow),(233,I9 n)]) Tryz.f161 (w7 n) ar (s,e,stop,()):=by
 rw[agP]
 refine U.mk fun y3 e3=>U.mk fun y4 e4=>U.mk fun y5 e5=> ?_
 subst e5
 have hS:y4=bif y3.2 then dP n y3.1 s else s:=by
  rw[e4,e3]
  unfold pB
  rfl
 refine⟨trivial,fun h=>⟨⟨hp,by rw[e3] at h ⊢;exact o7 h⟩,yz (by rw[hS,h];rfl)⟩,fun h=>yz (by rw[hS,h];rfl)⟩
theorem af8 (n:Nat) (s:au) (y:Int×Int):bS (aj aA [(259,DB),(270,K0),(161,w7 n)]) Tryz.f257 (K3 n) ar (s,y,())=(
U (pB (dP n) y.1 (1:Int) (bK s y.1).2) fun(y2:au)=>
U (pB (dP n) y.1 (2:Int) y2) fun(y3:au)=>
U (jn (dP n) y s).1
fun(y4:ab)=>
U (jn (dP n) y s).2 fun(y5:Int×Int×Int×List (Int×Int×Int)×List (Int×Int)×List (Int×Int)×List Int×List Int×Bool×List (Int×Int))=>
U (bK s y.1).2.2 fun(y6:Int×Int×Int×List (Int×Int×Int)×List (Int×Int)×List (Int×Int)×List Int×List Int×Bool×List (Int×Int))=>
U (!bq s.2.2.2.2.2.1 y) fun(y7:Bool)=>
U (bif y7 then !bq s.2.2.2.2.2.2.1 y else false) fun(y8:Bool)=>
U (y.1,(3:Int) - y.2) fun(y9:Int×Int)=>
U (!bq s.2.2.2.2.2.2.1 y9) fun(bu:Bool)=>
U ((List.replicate (1:Nat) ((0:Int),(0:Int))).set (0:Nat) y9) fun(bH:List (Int×Int))=>
U (pB (dP n) y.1 (0:Int) (bK s y.1).2) fun(aw:au)=>
((y.2==(0:Int))=true->
(cP s).length<=(1000:Nat)/\
((bK s y.1).1=true->
gl n (bK s y.1).2/\
gl n y2/\
y3.1=y4/\
y3.2.1=y5.1/\
y3.2.2.1=y5.2.1/\
y3.2.2.2.1=y5.2.2.1/\
y3.2.2.2.2.1=y5.2.2.2.1/\
y3.2.2.2.2.2.1=y5.2.2.2.2.1/\
y3.2.2.2.2.2.2.1=y5.2.2.2.2.2.1/\
y3.2.2.2.2.2.2.2.1=y5.2.2.2.2.2.2.1/\
y3.2.2.2.2.2.2.2.2.1=y5.2.2.2.2.2.2.2.1/\
y3.2.2.2.2.2.2.2.2.2.1=y5.2.2.2.2.2.2.2.2.1/\
y3.2.2.2.2.2.2.2.2.2.2=y5.2.2.2.2.2.2.2.2.2/\True)/\
((bK s y.1).1=false->
(bK s y.1).2.1=y4/\
y6.1=y5.1/\
y6.2.1=y5.2.1/\
y6.2.2.1=y5.2.2.1/\
y6.2.2.2.1=y5.2.2.2.1/\
y6.2.2.2.2.1=y5.2.2.2.2.1/\
y6.2.2.2.2.2.1=y5.2.2.2.2.2.1/\
y6.2.2.2.2.2.2.1=y5.2.2.2.2.2.2.1/\
y6.2.2.2.2.2.2.2.1=y5.2.2.2.2.2.2.2.1/\
y6.2.2.2.2.2.2.2.2.1=y5.2.2.2.2.2.2.2.2.1/\
y6.2.2.2.2.2.2.2.2.2=y5.2.2.2.2.2.2.2.2.2/\True))/\
((y.2==(0:Int))=false->
bo IntKind.i64 ((3:Int) - y.2)/\
True/\
(y7=true->True)/\
(y8=true->
True/\
(bu=true->
roomFor (s.2.2.2.2.2.2.1.length+bH.length) (16:Nat)/\
s.1=y4/\
s.2.1=y5.1/\
s.2.2.1=y5.2.1/\
s.2.2.2.1=y5.2.2.1/\
s.2.2.2.2.1=y5.2.2.2.1/\
s.2.2.2.2.2.1=y5.2.2.2.2.1/\
s.2.2.2.2.2.2.1++bH=y5.2.2.2.2.2.1/\
s.2.2.2.2.2.2.2.1=y5.2.2.2.2.2.2.1/\
s.2.2.2.2.2.2.2.2.1=y5.2.2.2.2.2.2.2.1/\
s.2.2.2.2.2.2.2.2.2.1=y5.2.2.2.2.2.2.2.2.1/\
s.2.2.2.2.2.2.2.2.2.2=y5.2.2.2.2.2.2.2.2.2/\True)/\
(bu=false->
s.1=y4/\
s.2.1=y5.1/\
s.2.2.1=y5.2.1/\
s.2.2.2.1=y5.2.2.1/\
s.2.2.2.2.1=y5.2.2.2.1/\
s.2.2.2.2.2.1=y5.2.2.2.2.1/\
s.2.2.2.2.2.2.1=y5.2.2.2.2.2.1/\
s.2.2.2.2.2.2.2.1=y5.2.2.2.2.2.2.1/\
s.2.2.2.2.2.2.2.2.1=y5.2.2.2.2.2.2.2.1/\
s.2.2.2.2.2.2.2.2.2.1=y5.2.2.2.2.2.2.2.2.1/\
s.2.2.2.2.2.2.2.2.2.2=y5.2.2.2.2.2.2.2.2.2/\True))/\
(y8=false->
(cP s).length<=(1000:Nat)/\
((bK s y.1).1=true->
gl n (bK s y.1).2/\
aw.1=y4/\
aw.2.1=y5.1/\
aw.2.2.1=y5.2.1/\
aw.2.2.2.1=y5.2.2.1/\
aw.2.2.2.2.1=y5.2.2.2.1/\
aw.2.2.2.2.2.1=y5.2.2.2.2.1/\
aw.2.2.2.2.2.2.1=y5.2.2.2.2.2.1/\
aw.2.2.2.2.2.2.2.1=y5.2.2.2.2.2.2.1/\
aw.2.2.2.2.2.2.2.2.1=y5.2.2.2.2.2.2.2.1/\
aw.2.2.2.2.2.2.2.2.2.1=y5.2.2.2.2.2.2.2.2.1/\
aw.2.2.2.2.2.2.2.2.2.2=y5.2.2.2.2.2.2.2.2.2/\True)/\
((bK s y.1).1=false->
(bK s y.1).2.1=y4/\
y6.1=y5.1/\
y6.2.1=y5.2.1/\
y6.2.2.1=y5.2.2.1/\
y6.2.2.2.1=y5.2.2.2.1/\
y6.2.2.2.2.1=y5.2.2.2.2.1/\
y6.2.2.2.2.2.1=y5.2.2.2.2.2.1/\
y6.2.2.2.2.2.2.1=y5.2.2.2.2.2.2.1/\
y6.2.2.2.2.2.2.2.1=y5.2.2.2.2.2.2.2.1/\
y6.2.2.2.2.2.2.2.2.1=y5.2.2.2.2.2.2.2.2.1/\
y6.2.2.2.2.2.2.2.2.2=y5.2.2.2.2.2.2.2.2.2/\True)))):=by kernel_rfl
theorem UM {s:au} (h:DX s) {y:ak} (hy:y∈bW s.1):0<=y.2/\y.2<=3:=by
 obtain⟨i,hi,he⟩:=List.mem_iff_getElem.1 hy
 have hj:=h.vF
 unfold bT at hj
 rw[Bool.and_eq_true] at hj
 have:=gx.1 hj.1 i hi
 unfold kR at this
 rw[Bool.and_eq_true,eW zP hi,he] at this
 exact uW this.1
theorem Ed (s:au) (h:DX s):(ct s).length<=2000:=by
 have:=pZ h.nodup h.sub
 have hlen:∀l:List nm,(l.flatMap fun j=>[j.1,j.2]).length=2*l.length:=fun l=>by
  induction l with
  |nil=>rfl
  |cons x l ih=>rw[List.flatMap_cons,List.length_append,ih,List.length_cons];simp;omega
 have he:(bW s.1).length=2*s.1.2.1.length:=hlen s.1.2.1
 have:=h.zo
 omega
theorem ajH (n:Nat) (s:au) (y:ak) (hp:lR n y s):bS (aj aA [(259,DB),(270,K0),(161,w7 n)]) Tryz.f257 (K3 n) ar (s,y,()):=by
 have h1:=hp.1.1
 have hm:=Ed s h1.1
 have KK:=UM h1.1 hp.1.2
 obtain⟨hz,_⟩:=nt h1.1 y.1
 have Ps:(cP s).length<=1000:=by have:=h1.1.nu;omega
 have PJ:s.2.2.2.2.2.2.1.length<=2000:=by
  have:=h1.1.guards
  show(aS s).length<=2000
  omega
 rw[af8]
 refine U.mk fun y2 e2=>U.mk fun y3 e3=>U.mk fun y4 e4=>U.mk fun y5 e5=>U.mk fun y6 e6=>U.mk fun y7 e7=>U.mk fun y8 e8=>U.mk fun y9 e9=>U.mk fun bu dy=>U.mk fun bH eK=>U.mk fun aw dW=> ?_
 subst e4 e5 e6
 have eK:bH=[y9]:=eK
 have hS:jn (dP n) y s=bif y.2==0 then(bif(bK s y.1).1 then y3 else(bK s y.1).2) else
   bif y8 then(bif !bu then s else An s (aS s++[y9])) else(bif(bK s y.1).1 then aw else(bK s y.1).2):=by
  rw[e3,e2,dW,e8,e7,dy,e9,Bool.not_not]
  have key:∀a b:Bool,(bif a then b else false)=(a&&b):=by decide
  rw[key]
  unfold jn
  rfl
 refine⟨fun h=>⟨Ps,fun hf=>⟨hz.gl h1,?_,yz (by rw[hS,h,hf];rfl)⟩,fun hf=>yz (a:=(bK s y.1).2) (by rw[hS,h,hf];rfl)⟩,fun h=>⟨aY (by omega) (by omega),trivial,fun _=>trivial,fun h8=>⟨trivial,fun lp=>⟨cT (by rw[eK];simp;omega) (by omega),?_⟩,fun lp=>yz (by rw[hS,h,h8,lp];rfl)⟩,fun h8=>⟨Ps,fun hf=>⟨hz.gl h1,yz (by rw[hS,h,h8,hf];rfl)⟩,fun hf=>yz (a:=(bK s y.1).2) (by rw[hS,h,h8,hf];rfl)⟩⟩⟩
 ·rw[e2]
  exact(qh (sP n) y.1 1 (hz.gl h1)).gl (hz.gl h1)
 ·rw[eK]
  exact yz (a:=An s (aS s++[y9])) (by rw[hS,h,h8,lp];rfl)
theorem v233 (n:Nat) (s:au) (y:Int×Int):bS (aj aA [(255,Qg),(256,K4),(229,yr),(31,yB),(207,yu),(257,K3 n),(258,K2),(259,DB),(161,w7 n)]) Tryz.f233 (I9 (n+1)) ar (s,y,())=(
U
(kI
(s.2.1,s.2.2.1,s.2.2.2.1,s.2.2.2.2.1,s.2.2.2.2.2.1,s.2.2.2.2.2.2.1,s.2.2.2.2.2.2.2.1,
s.2.2.2.2.2.2.2.2.1,s.2.2.2.2.2.2.2.2.2.1)
y.1)
fun(y2:Bool)=>
U (bif y2 then true else fV s.2.2.2.2.2.2.2.2.2.2 y) fun(y3:Bool)=>
U (dP (n+(1:Nat)) y s) fun(y4:au)=>
U ((List.replicate (1:Nat) ((0:Int),(0:Int))).set (0:Nat) y) fun(y5:List (Int×Int))=>
U (bif decide (cc s.1 y>=(0:Int)) then !s.1.2.2.2.2.2.2.2.2 else false) fun(y6:Bool)=>
U (!bN s.2.2.2.2.2.2.2.2.1 (cc s.1 y)) fun(y7:Bool)=>
U ((List.replicate (1:Nat) (0:Int)).set (0:Nat) (cc s.1 y)) fun(y8:List Int)=>
U (s.2.2.2.2.2.2.2.2.2.2++y5) fun(y9:List (Int×Int))=>
U (aK s.1 y.1==(4:Int)) fun(bu:Bool)=>
U (aK s.1 y.1==(2:Int)) fun(bH:Bool)=>
U
(s.1,s.2.1,s.2.2.1,s.2.2.2.1,s.2.2.2.2.1,s.2.2.2.2.2.1,s.2.2.2.2.2.2.1,s.2.2.2.2.2.2.2.1,
s.2.2.2.2.2.2.2.2.1,s.2.2.2.2.2.2.2.2.2.1,y9)
fun
(aw:
au)=>
U (jn (dP n) y aw).2 fun(aB:Int×Int×Int×List (Int×Int×Int)×List (Int×Int)×List (Int×Int)×List Int×List Int×Bool×List (Int×Int))=>
U (pB (dP n) y.1 (mw s.1 y.1 y.2 (0:Int)).1 (bK aw y.1).2) fun(cL:au)=>
U (bK aw y.1).2.2 fun(bC:Int×Int×Int×List (Int×Int×Int)×List (Int×Int)×List (Int×Int)×List Int×List Int×Bool×List (Int×Int))=>
s.2.2.2.2.1.length<=(1000000:Nat)/\
(y2=false->True)/\
(y3=true->
s.1=y4.1/\
s.2.1=y4.2.1/\
s.2.2.1=y4.2.2.1/\
s.2.2.2.1=y4.2.2.2.1/\
s.2.2.2.2.1=y4.2.2.2.2.1/\
s.2.2.2.2.2.1=y4.2.2.2.2.2.1/\
s.2.2.2.2.2.2.1=y4.2.2.2.2.2.2.1/\
s.2.2.2.2.2.2.2.1=y4.2.2.2.2.2.2.2.1/\
s.2.2.2.2.2.2.2.2.1=y4.2.2.2.2.2.2.2.2.1/\
s.2.2.2.2.2.2.2.2.2.1=y4.2.2.2.2.2.2.2.2.2.1/\
s.2.2.2.2.2.2.2.2.2.2=y4.2.2.2.2.2.2.2.2.2.2/\True)/\
(y3=false->
roomFor (s.2.2.2.2.2.2.2.2.2.2.length+y5.length) (16:Nat)/\
True/\
(y6=true->
True/\
(y7=true->
roomFor (s.2.2.2.2.2.2.2.2.1.length+y8.length) (8:Nat)/\
s.1=y4.1/\
s.2.1=y4.2.1/\
s.2.2.1=y4.2.2.1/\
s.2.2.2.1=y4.2.2.2.1/\
s.2.2.2.2.1=y4.2.2.2.2.1/\
s.2.2.2.2.2.1=y4.2.2.2.2.2.1/\
s.2.2.2.2.2.2.1=y4.2.2.2.2.2.2.1/\
s.2.2.2.2.2.2.2.1=y4.2.2.2.2.2.2.2.1/\
s.2.2.2.2.2.2.2.2.1++y8=y4.2.2.2.2.2.2.2.2.1/\
s.2.2.2.2.2.2.2.2.2.1=y4.2.2.2.2.2.2.2.2.2.1/\
y9=y4.2.2.2.2.2.2.2.2.2.2/\True)/\
(y7=false->
s.1=y4.1/\
s.2.1=y4.2.1/\
s.2.2.1=y4.2.2.1/\
s.2.2.2.1=y4.2.2.2.1/\
s.2.2.2.2.1=y4.2.2.2.2.1/\
s.2.2.2.2.2.1=y4.2.2.2.2.2.1/\
s.2.2.2.2.2.2.1=y4.2.2.2.2.2.2.1/\
s.2.2.2.2.2.2.2.1=y4.2.2.2.2.2.2.2.1/\
s.2.2.2.2.2.2.2.2.1=y4.2.2.2.2.2.2.2.2.1/\
s.2.2.2.2.2.2.2.2.2.1=y4.2.2.2.2.2.2.2.2.2.1/\
y9=y4.2.2.2.2.2.2.2.2.2.2/\True))/\
(y6=false->
True/\
(bu=true->
s.1=y4.1/\
s.2.1=y4.2.1/\
s.2.2.1=y4.2.2.1/\
s.2.2.2.1=y4.2.2.2.1/\
s.2.2.2.2.1=y4.2.2.2.2.1/\
s.2.2.2.2.2.1=y4.2.2.2.2.2.1/\
s.2.2.2.2.2.2.1=y4.2.2.2.2.2.2.1/\
s.2.2.2.2.2.2.2.1=y4.2.2.2.2.2.2.2.1/\
s.2.2.2.2.2.2.2.2.1=y4.2.2.2.2.2.2.2.2.1/\
true=y4.2.2.2.2.2.2.2.2.2.1/\y9=y4.2.2.2.2.2.2.2.2.2.2/\True)/\
(bu=false->
(bH=true->
lR n y aw/\
(jn (dP n) y aw).1=y4.1/\
aB.1=y4.2.1/\
aB.2.1=y4.2.2.1/\
aB.2.2.1=y4.2.2.2.1/\
aB.2.2.2.1=y4.2.2.2.2.1/\
aB.2.2.2.2.1=y4.2.2.2.2.2.1/\
aB.2.2.2.2.2.1=y4.2.2.2.2.2.2.1/\
aB.2.2.2.2.2.2.1=y4.2.2.2.2.2.2.2.1/\
aB.2.2.2.2.2.2.2.1=y4.2.2.2.2.2.2.2.2.1/\
aB.2.2.2.2.2.2.2.2.1=y4.2.2.2.2.2.2.2.2.2.1/\
aB.2.2.2.2.2.2.2.2.2=y4.2.2.2.2.2.2.2.2.2.2/\True)/\
(bH=false->
True/\
(cP aw).length<=(1000:Nat)/\
((bK aw y.1).1=true->
gl n (bK aw y.1).2/\
cL.1=y4.1/\
cL.2.1=y4.2.1/\
cL.2.2.1=y4.2.2.1/\
cL.2.2.2.1=y4.2.2.2.1/\
cL.2.2.2.2.1=y4.2.2.2.2.1/\
cL.2.2.2.2.2.1=y4.2.2.2.2.2.1/\
cL.2.2.2.2.2.2.1=y4.2.2.2.2.2.2.1/\
cL.2.2.2.2.2.2.2.1=y4.2.2.2.2.2.2.2.1/\
cL.2.2.2.2.2.2.2.2.1=y4.2.2.2.2.2.2.2.2.1/\
cL.2.2.2.2.2.2.2.2.2.1=y4.2.2.2.2.2.2.2.2.2.1/\
cL.2.2.2.2.2.2.2.2.2.2=y4.2.2.2.2.2.2.2.2.2.2/\True)/\
((bK aw y.1).1=false->
(bK aw y.1).2.1=y4.1/\
bC.1=y4.2.1/\
bC.2.1=y4.2.2.1/\
bC.2.2.1=y4.2.2.2.1/\
bC.2.2.2.1=y4.2.2.2.2.1/\
bC.2.2.2.2.1=y4.2.2.2.2.2.1/\
bC.2.2.2.2.2.1=y4.2.2.2.2.2.2.1/\
bC.2.2.2.2.2.2.1=y4.2.2.2.2.2.2.2.1/\
bC.2.2.2.2.2.2.2.1=y4.2.2.2.2.2.2.2.2.1/\
bC.2.2.2.2.2.2.2.2.1=y4.2.2.2.2.2.2.2.2.2.1/\
bC.2.2.2.2.2.2.2.2.2=y4.2.2.2.2.2.2.2.2.2.2/\True)))))):=by kernel_rfl
theorem ajP (n:Nat) (s:au) (y:ak) (hp:pg (n+1) y s):bS (aj aA [(255,Qg),(256,K4),(229,yr),(31,yB),(207,yu),(257,K3 n),(258,K2),(259,DB),(161,w7 n)]) Tryz.f233 (I9 (n+1)) ar (s,y,()):=by
 have h1:=hp.1
 have hm:=Ed s h1.1
 have jD:s.2.2.2.2.1.length<=1000:=h1.1.steps
 have hhl:s.2.2.2.2.2.2.2.2.1.length<=2000:=by
  have:=h1.1.holds
  show(cH s).length<=2000
  omega
 have Ic:s.2.2.2.2.2.2.2.2.2.2.length<=2000:=hm
 rw[v233]
 refine U.mk fun y2 e2=>U.mk fun y3 e3=>U.mk fun y4 e4=>U.mk fun y5 e5=>U.mk fun y6 e6=>U.mk fun y7 e7=>U.mk fun y8 e8=>U.mk fun y9 e9=>U.mk fun bu dy=>U.mk fun bH eK=>U.mk fun aw dW=>U.mk fun aB gE=>U.mk fun cL j5=>U.mk fun bC iJ=> ?_
 subst gE iJ
 have e5:y5=[y]:=e5
 have e8:y8=[cc s.1 y]:=e8
 have dW:aw=eR s (ct s++[y]):=by rw[dW,e9,e5];rfl
 have e9:y9=ct s++[y]:=by rw[e9,e5]
 have e2:y2=kI (iZ s) y.1:=by rw[e2];unfold iZ;rfl
 have hS:y4=bif y3 then s else vp (dP n) y aw:=by
  rw[e4,e3,e2,dW]
  show sT (dP n) y s=_
  unfold sT
  have key:∀a b:Bool,(a||b)=(bif a then true else b):=by decide
  rw[key]
 have hN:vp (dP n) y aw=bif y6 then(bif !y7 then aw else BC aw (cH s++[cc s.1 y])) else
   bif bu then uA aw else bif bH then jn (dP n) y aw else(bif(bK aw y.1).1 then cL else(bK aw y.1).2):=by
  rw[j5,e6,e7,dy,eK,dW,Bool.not_not]
  have key:∀a b:Bool,(bif a then b else false)=(a&&b):=by decide
  rw[key]
  unfold vp
  rfl
 refine⟨by omega,fun _=>trivial,fun h=>yz (by rw[hS,h];rfl),fun h=> ?_⟩
 have hfp:fV (ct s) y=false:=by
  rw[h] at e3
  exact(su e3.symm).2
 obtain⟨k1,k2,k3⟩:=wQ hp hfp
 rw[<-dW] at k1 k2 k3
 rw[h,cond_false,hN] at hS
 obtain⟨hz,_⟩:=nt k1.1.1.1 y.1
 have Ps:(cP aw).length<=1000:=by have:=k1.1.1.1.nu;omega
 refine⟨cT (by rw[e5];simp;omega) (by omega),trivial,fun h6=>⟨trivial,fun h7=>⟨cT (by rw[e8];simp;omega) (by omega),?_⟩,fun h7=> ?_⟩,fun h6=>⟨trivial,fun lp=> ?_,fun lp=>⟨fun mG=>⟨k1,yz (by rw[hS,h6,lp,mG];rfl)⟩,fun mG=>⟨trivial,Ps,fun hf=>⟨hz.gl k1.1.1,yz (by rw[hS,h6,lp,mG,hf];rfl)⟩,fun hf=>yz (a:=(bK aw y.1).2) (by rw[hS,h6,lp,mG,hf];rfl)⟩⟩⟩⟩
 ·rw[e8,e9]
  exact yz (a:=BC (eR s (ct s++[y])) (cH s++[cc s.1 y])) (by rw[hS,h6,h7,dW];rfl)
 ·rw[e9]
  exact yz (a:=eR s (ct s++[y])) (by rw[hS,h6,h7,dW];rfl)
 ·rw[e9]
  exact yz (a:=uA (eR s (ct s++[y]))) (by rw[hS,h6,lp,dW];rfl)
theorem W8:∀n:Nat,fq Tryz.prog 233 (I9 n)
 |0=>{fn:=⟨Tryz.f233,_,Tryz.func233,by kernel_rfl,rfl⟩,Z4:=by decide,WZ:=by decide,calls:=fun F w x vs pl h1 h2 h3 h4 h5 hp h6=>absurd hp x7}
 |n+1=>by
  have k26:fq Tryz.prog 161 (w7 n):=fq.b3 (l:=[(227,ow),(233,I9 n)]) (A:=fun _=>ar) aJ ⟨ze,W8 n,trivial⟩ Tryz.func161 (by kernel_rfl) (by kernel_rfl) fun x _ hp=>abS n x.1 x.2.1 x.2.2.1 hp
  have k46:fq Tryz.prog 257 (K3 n):=fq.b3 (l:=[(259,DB),(270,K0),(161,w7 n)]) (A:=fun _=>ar) aJ ⟨W4,acq,k26,trivial⟩ Tryz.func257 (by kernel_rfl) (by kernel_rfl) fun x _ hp=>ajH n x.1 x.2.1 hp
  exact fq.b3 (l:=[(255,Qg),(256,K4),(229,yr),(31,yB),(207,yu),(257,K3 n),(258,K2),(259,DB),(161,w7 n)]) (A:=fun _=>ar) aJ ⟨acv,acu,Rf,OZ,Rj,k46,acs,W4,k26,trivial⟩ Tryz.func233 (by kernel_rfl) (by kernel_rfl) fun x _ hp=>ajP n x.1 x.2.1 hp
theorem adi (n:Nat):fq Tryz.prog 161 (w7 n):=
 fq.b3 (l:=[(227,ow),(233,I9 n)]) (A:=fun _=>ar) aJ ⟨ze,W8 n,trivial⟩ Tryz.func161 (by kernel_rfl) (by kernel_rfl) fun x _ hp=>abS n x.1 x.2.1 x.2.2.1 hp
theorem x8 {p:ab} (h:bX p=0):lC p=true/\bT p=true:=by
 unfold bX at h
 cases h1:lC p with
 |false=>rw[h1] at h;have h:(3:Int)=0:=h;exact absurd h (by decide)
 |true=>
  rw[h1] at h
  cases h2:fArgs p with
  |false=>rw[h2] at h;have h:(1:Int)=0:=h;exact absurd h (by decide)
  |true=>
   rw[h2] at h
   cases h3:(dT (p.1.map fun e=>e.1)||(dT (p.2.2.1.map fun s=>s.1)||dT (p.2.2.2.1.map fun l=>l.1))) with
   |true=>rw[h3] at h;have h:(4:Int)=0:=h;exact absurd h (by decide)
   |false=>
    rw[h3] at h
    cases h4:bT p with
    |false=>rw[h4] at h;have h:(6:Int)=0:=h;exact absurd h (by decide)
    |true=>exact⟨rfl,rfl⟩
theorem xu {p:ab} (h:lC p=true):p.1.length<=40/\p.2.2.1.length<=24/\p.2.2.2.1.length<=4/\p.2.1.length<=80:=by
 unfold lC at h
 simp only[Bool.and_eq_true] at h
 exact⟨of_decide_eq_true h.1,of_decide_eq_true h.2.1,of_decide_eq_true h.2.2.1,of_decide_eq_true h.2.2.2⟩
theorem VN (p:ab):(bW p).length=2*p.2.1.length:=by
 have hlen:∀l:List nm,(l.flatMap fun j=>[j.1,j.2]).length=2*l.length:=fun l=>by
  induction l with
  |nil=>rfl
  |cons x l ih=>rw[List.flatMap_cons,List.length_append,ih,List.length_cons];simp;omega
 exact hlen p.2.1
theorem wZ {p:ab} {r:af} (h:pc p r):∀k,gl 161 (bF p r k)/\(bF p r k).1=p
 |0=>by
  obtain⟨h1,⟨h2,_⟩,_⟩:=h
  obtain⟨h3,h4⟩:=x8 h1
  obtain⟨_,_,_,h5⟩:=xu h3
  have:=VN p
  refine⟨⟨⟨h4,?_,List.nodup_nil,(fun y hy=>by cases hy),Nat.zero_le _,Nat.zero_le _,Nat.zero_le _,h2⟩,?_⟩,rfl⟩
  ·show p.2.1.length<=1000
   omega
  ·show(bW p).length<0+161
   omega
 |k+1=>by
  obtain⟨ih1,ih2⟩:=wZ h k
  have hk:=qh (sP 161) ((bE p r).getD k zP).1 ((bE p r).getD k zP).2 ih1
  exact⟨hk.gl ih1,hk.qJ.trans ih2⟩
theorem ahb (p:ab) (r:af):ah (aj aA [(160,LH),(161,w7 161)]) Tryz.f104 L2 (Zm (p,r,())) (p,r,())=(
U (List.replicate (0:Nat) ((0:Int),(0:Int),(0:Int))) fun(y2:List (Int×Int×Int))=>
roomFor (y2.length+r.2.2.2.1.length) (24:Nat)/\
roomFor ((List.replicate (0:Nat) ((0:Int),(0:Int))).length+r.2.2.2.2.1.length) (16:Nat)/\
qB r/\
(∃(fB:Nat),
fB<=(bE p r).length/\
(↑fB:Int)=(0:Int)/\
bE p r=bE p r/\
(bF p r fB).1.1=p.1/\
(bF p r fB).1.2.1=p.2.1/\
(bF p r fB).1.2.2.1=p.2.2.1/\
(bF p r fB).1.2.2.2.1=p.2.2.2.1/\
(bF p r fB).1.2.2.2.2.1=p.2.2.2.2.1/\
(bF p r fB).1.2.2.2.2.2.1=p.2.2.2.2.2.1/\
(bF p r fB).1.2.2.2.2.2.2.1=p.2.2.2.2.2.2.1/\
(bF p r fB).1.2.2.2.2.2.2.2.1=p.2.2.2.2.2.2.2.1/\
(bF p r fB).1.2.2.2.2.2.2.2.2=p.2.2.2.2.2.2.2.2/\
(bF p r fB).2.1=r.1/\
(bF p r fB).2.2.1=r.2.1/\
(bF p r fB).2.2.2.1=r.2.2.1/\
(bF p r fB).2.2.2.2.2.2.2.2.2.1=false/\
eP (bF p r fB)=y2++r.2.2.2.1/\
cX (bF p r fB)=List.replicate (0:Nat) ((0:Int),(0:Int))++r.2.2.2.2.1/\
aS (bF p r fB)=[]/\
cP (bF p r fB)=[]/\
cH (bF p r fB)=[]/\
ct (bF p r fB)=[]/\(0:Int)=(0:Int)/\(0:Int)=(0:Int)/\(0:Int)=(0:Int)/\false=false/\True)/\
∀(s3:Nat),
U (decide ((↑s3:Int)<(↑(bE p r).length:Int))) fun(y4:Bool)=>
U (bF p r s3).2.1 fun(y5:Int)=>
U (bF p r s3).2.2 fun(y6:Int×Int×List cu×List ba×List ba×List Int×List Int×Bool×List ak)=>
U
((bF p r s3).1,y5,y6.1,y6.2.1,eP (bF p r s3),cX (bF p r s3),aS (bF p r s3),cP (bF p r s3),cH (bF p r s3),
y6.2.2.2.2.2.2.2.1,ct (bF p r s3))
fun
(y7:
au)=>
U ((bE p r).getD (↑s3:Int).toNat ((0:Int),(0:Int))) fun(y8:Int×Int)=>
U (pB (dP (161:Nat)) y8.1 y8.2 y7) fun(y9:au)=>
s3<=(bE p r).length->
(y4=true->
aL (↑s3:Int) (bE p r).length/\
aL (↑s3:Int) (bE p r).length/\
gl (161:Nat) y7/\
bo IntKind.i64 ((↑s3:Int)+(1:Int))/\
∃(cU:Nat),
cU<=(bE p r).length/\
(bE p r).length - cU<(bE p r).length - s3/\
(↑cU:Int)=(↑s3:Int)+(1:Int)/\
bE p r=bE p r/\
(bF p r cU).1.1=y9.1.1/\
(bF p r cU).1.2.1=y9.1.2.1/\
(bF p r cU).1.2.2.1=y9.1.2.2.1/\
(bF p r cU).1.2.2.2.1=y9.1.2.2.2.1/\
(bF p r cU).1.2.2.2.2.1=y9.1.2.2.2.2.1/\
(bF p r cU).1.2.2.2.2.2.1=y9.1.2.2.2.2.2.1/\
(bF p r cU).1.2.2.2.2.2.2.1=y9.1.2.2.2.2.2.2.1/\
(bF p r cU).1.2.2.2.2.2.2.2.1=y9.1.2.2.2.2.2.2.2.1/\
(bF p r cU).1.2.2.2.2.2.2.2.2=y9.1.2.2.2.2.2.2.2.2/\
(bF p r cU).2.1=y9.2.1/\
(bF p r cU).2.2.1=y9.2.2.1/\
(bF p r cU).2.2.2.1=y9.2.2.2.1/\
(bF p r cU).2.2.2.2.2.2.2.2.2.1=y9.2.2.2.2.2.2.2.2.2.1/\
eP (bF p r cU)=y9.2.2.2.2.1/\
cX (bF p r cU)=y9.2.2.2.2.2.1/\
aS (bF p r cU)=y9.2.2.2.2.2.2.1/\
cP (bF p r cU)=y9.2.2.2.2.2.2.2.1/\
cH (bF p r cU)=y9.2.2.2.2.2.2.2.2.1/\
ct (bF p r cU)=y9.2.2.2.2.2.2.2.2.2.2/\
(0:Int)=(0:Int)/\(0:Int)=(0:Int)/\(0:Int)=(0:Int)/\false=false/\True)/\
(y4=false->
(y5,y6.1,y6.2.1,eP (bF p r s3),cX (bF p r s3),aS (bF p r s3),cP (bF p r s3),cH (bF p r s3),
y6.2.2.2.2.2.2.2.1)=
dV p r/\
True)):=by kernel_rfl
theorem akA (p:ab) (r:af) (hp:pc p r):ah (aj aA [(160,LH),(161,w7 161)]) Tryz.f104 L2 (Zm (p,r,())) (p,r,()):=by
 have nW:(bE p r).length<=2000:=by
  have h:=pC p r r.2.2.2.1.length (Nat.le_refl _)
  have h2:=hp.2.1.1
  unfold bE
  omega
 obtain⟨h1,h2,h3⟩:=hp
 rw[ahb]
 refine U.mk fun y2 e2=> ?_
 have e2:y2=[]:=e2
 refine⟨cT (by rw[e2];simp;have:=h2.1;omega) (by omega),cT (by simp;omega) (by omega),h2,⟨0,by omega,rfl,rfl,rfl,rfl,rfl,rfl,rfl,rfl,rfl,rfl,rfl,rfl,rfl,rfl,rfl,by rw[e2];rfl,rfl,rfl,rfl,rfl,rfl,rfl,rfl,rfl,rfl,trivial⟩,fun s=>U.mk fun y4 e4=>U.mk fun y5 e5=>U.mk fun y6 e6=>U.mk fun y7 e7=>U.mk fun y8 e8=>U.mk fun y9 e9=> ?_⟩
 intro hs
 have e7:y7=bF p r s:=by rw[e7,e6,e5]
 have e8:y8=(bE p r).getD s zP:=by rw[e8,Int.toNat_natCast];rfl
 refine⟨fun h=> ?_,fun h=> ?_⟩
 ·have h:=aZ e4 h
  have e9:bF p r (s+1)=y9:=by rw[e9,e8,e7];rfl
  subst e9
  refine⟨⟨by omega,by omega⟩,⟨by omega,by omega⟩,by rw[e7];exact(wZ ⟨h1,h2,h3⟩ s).1,aY (by omega) (by omega),s+1,by omega,by omega,by omega,rfl,rfl,rfl,rfl,rfl,rfl,rfl,rfl,rfl,rfl,rfl,rfl,rfl,rfl,rfl,rfl,rfl,rfl,rfl,rfl,rfl,rfl,rfl,rfl,trivial⟩
 ·have hle:=bt e4 h
  have:s=(bE p r).length:=by omega
  subst this
  subst e6 e5
  refine⟨?_,trivial⟩
  unfold dV iZ
  rfl
theorem adM:aN Tryz.prog 104 L2:=
 aN.b3 (l:=[(160,LH),(161,w7 161)]) (A:=Zm) aJ ⟨adj,adi 161,trivial⟩ Tryz.func104 (by kernel_rfl) (by kernel_rfl) fun x _ hp=>akA x.1 x.2.1 hp
def Mt (r:af):Prop:=(∀s∈r.2.2.2.1,xn s)/\r.2.2.2.1.length<=13/\r.2.2.2.2.1.length<=13
theorem OU {p:ab} {e i:Int} (hi:dC p (e,i)=true) {w:Int×Int} (hw:w∈bG p e i): -1<=w.1/\w.1<=3:=by
 have KK:=uW hi
 have KK:0<=i/\i<=3:=KK
 have hfa:=(xQ hi).2
 have hfa:0<=i/\i<cQ (aK p e):=hfa
 unfold bG at hw
 rw[hi] at hw
 cases h1:aK p e==1 with
 |true=>
  rw[h1] at hw
  have hw:w=(1 - i,0):=by simpa using hw
  have hk:aK p e=1:=eq_of_beq h1
  have he:cQ (aK p e)=2:=by rw[hk];unfold cQ;rfl
  rw[hw]
  show -1<=1 - i/\1 - i<=3
  omega
 |false=>
  rw[h1] at hw
  cases h3:aK p e==3 with
  |true=>
   rw[h3] at hw
   have hw:w=(tD i,0):=by simpa using hw
   rw[hw]
   show -1<=tD i/\tD i<=3
   unfold tD
   cases i==0<;>cases i==1<;>cases i==2<;>simp
  |false=>
   rw[h3] at hw
   cases h2:aK p e==2 with
   |false=>rw[h2] at hw;cases hw
   |true=>
    rw[h2] at hw
    cases h0:i==0 with
    |true=>
     rw[h0] at hw
     have hw:w=(1,1)\/w=(2,2):=by simpa using hw
     rcases hw with rfl|rfl
     ·show(-1:Int)<=1/\(1:Int)<=3;decide
     ·show(-1:Int)<=2/\(2:Int)<=3;decide
    |false=>
     rw[h0] at hw
     have hw:w=(0,i):=by simpa using hw
     rw[hw]
     show(-1:Int)<=0/\(0:Int)<=3;decide
theorem Cu {r:af} {s:cu} {pos stop to:Int} (h:∀q∈r.2.2.2.1,xn q) (hs:xn s) (hl:r.2.2.2.1.length<=12) (hn:r.2.2.2.2.1.length<=r.2.2.2.1.length):Mt (eO r s pos stop to):=by
 refine⟨fun q hq=> ?_,?_,?_⟩
 ·rw[jR] at hq
  rcases List.mem_append.1 hq with hq|hq
  ·exact h q hq
  ·have:q=s:=by simpa using hq
   rw[this];exact hs
 ·rw[jR,List.length_append];show _+1<=13;omega
 ·have:=yH r s pos stop to
  omega
theorem WY {p:ab} (hj:bT p=true):∀(n:Nat) (r:af) (x:ak) (met:List Int),BK n r met->(∀q∈r.2.2.2.1,xn q)->(0<=x.2/\x.2<=3)->∀q∈na p n r x met,Mt q
 |0,r,x,met,hp,_,_,q,hq=>absurd hp OX
 |n+1,r,x,met,hp,jD,hx,q,hq=>by
  obtain⟨⟨p1,p2,p3⟩,p4,p5⟩:=hp
  have hq:q∈nG p (na p n) r x met:=hq
  unfold nG at hq
  cases h1:bN met x.1||decide (r.2.2.2.1.length=12) with
  |true=>rw[h1] at hq;cases hq
  |false=>
   rw[h1] at hq
   have kz:r.2.2.2.1.length≠12:=of_decide_eq_false (Bool.or_eq_false_iff.1 h1).2
   cases h2:aK p x.1==4 with
   |true=>
    rw[h2] at hq
    have hq:q=eO r (x.1,x.2, -1) 0 2 (-1):=by simpa using hq
    rw[hq]
    exact Cu jD ⟨⟨by show -1<=x.2;omega,hx.2⟩,by show(-1:Int)<= -1;decide,by show(-1:Int)<=3;decide⟩ p2 p4
   |false=>
    rw[h2] at hq
    have hq:q∈ji p (na p n) r x (met++[x.1]) (bG p x.1 x.2).length:=hq
    unfold ji at hq
    rw[List.take_length] at hq
    obtain⟨w,hw,hq⟩:=List.mem_flatMap.1 hq
    have hh:dC p (x.1,x.2)=true:=by
     cases hh:dC p (x.1,x.2) with
     |true=>rfl
     |false=>
      unfold bG at hw
      rw[hh] at hw
      cases hw
    have hwr:=OU hh hw
    have hs:xn (x.1,x.2,w.1):=⟨⟨by show -1<=x.2;omega,hx.2⟩,hwr⟩
    unfold qM at hq
    cases h3:decide (0<=cc p (x.1,w.1)) with
    |true=>
     rw[h3] at hq
     have hq:q=eO r (x.1,x.2,w.1) w.2 1 (cc p (x.1,w.1)):=by simpa using hq
     rw[hq]
     exact Cu jD hs p2 p4
    |false=>
     rw[h3] at hq
     cases h4:(bx p (x.1,w.1)).2 with
     |false=>
      rw[h4] at hq
      have hq:q=eO r (x.1,x.2,w.1) w.2 3 (-1):=by simpa using hq
      rw[hq]
      exact Cu jD hs p2 p4
     |true=>
      rw[h4] at hq
      have hq:q∈na p n (eO r (x.1,x.2,w.1) w.2 0 (-1)) (bx p (x.1,w.1)).1 (met++[x.1]):=hq
      have hwk:=Cu (pos:=w.2) (stop:=0) (to:= -1) jD hs p2 p4
      have hl:(eO r (x.1,x.2,w.1) w.2 0 (-1)).2.2.2.1.length=r.2.2.2.1.length+1:=by rw[jR];simp
      have hn:=yH r (x.1,x.2,w.1) w.2 0 (-1)
      refine WY hj n _ _ _ ⟨⟨by omega,by omega,by omega⟩,by omega,by simp;omega⟩ hwk.1 (uW (Em hj h4)) q hq
theorem GX {p:ab} (hj:bT p=true):∀q∈(cZ p).1,Mt q:=by
 intro q hq
 unfold cZ at hq
 cases h:cj (j7 p) p.2.2.1.length with
 |true=>rw[h] at hq;cases hq
 |false=>
  rw[h] at hq
  have hq:q∈fP p p.2.2.1.length:=hq
  unfold fP at hq
  obtain⟨s,_,hq⟩:=List.mem_flatMap.1 hq
  unfold py at hq
  cases h1:(lL p (s:Int)).2 with
  |false=>rw[h1] at hq;cases hq
  |true=>
   rw[h1] at hq
   cases h2:(bx p (lL p (s:Int)).1).2 with
   |false=>rw[h2] at hq;cases hq
   |true=>
    rw[h2] at hq
    exact WY hj 13 _ _ _ (Ti _ _) (fun q hq=>(by cases hq)) (uW (Em hj h2)) q hq
theorem DT (p:ab):(cZ p).1.length<=64:=by
 unfold cZ
 cases h:cj (j7 p) p.2.2.1.length with
 |true=>exact Nat.zero_le _
 |false=>exact Aa h
theorem v48 (p:ab):ah (aj aA [(102,Gb),(103,L3),(104,L2)]) Tryz.f48 YK (a48 (p,())) (p,())=(
U ((0:Int),(0:Int),(0:Int),[],[],[],[],[],false) fun(y1:af)=>
cY p/\
((bX p !=(0:Int))=true->(([],[],[],[],(0:Int),(0:Int),(0:Int),(0:Int),false),[])=(cK p).1/\bX p=(cK p).2/\True)/\
((bX p !=(0:Int))=false->
p.2.2.1.length<=(1000:Nat)/\
(((cZ p).2 !=(0:Int))=true->(([],[],[],[],(0:Int),(0:Int),(0:Int),(0:Int),false),[])=(cK p).1/\(cZ p).2=(cK p).2/\True)/\
(((cZ p).2 !=(0:Int))=false->
(∃(dr:Nat),
dr<=(cZ p).1.length/\
(↑dr:Int)=(0:Int)/\
List.map (dV p) (List.take dr (cZ p).1)++List.drop dr (cZ p).1=(cZ p).1/\
ay p ((0:Int)=(0:Int)/\(0:Int)=(0:Int)/\(0:Int)=(0:Int)/\(0:Int)=(0:Int)/\false=false/\True))/\
∀(s2:Nat),
U (List.map (dV p) (List.take s2 (cZ p).1)++List.drop s2 (cZ p).1) fun(y3:List af)=>
U (decide ((↑s2:Int)<(↑y3.length:Int))) fun(y4:Bool)=>
U (y3.getD (↑s2:Int).toNat y1) fun(y5:af)=>
s2<=(cZ p).1.length->
(y4=true->
aL (↑s2:Int) y3.length/\
pc p y5/\
aL (↑s2:Int) y3.length/\
bo IntKind.i64 ((↑s2:Int)+(1:Int))/\
∃(eV:Nat),
eV<=(cZ p).1.length/\
(cZ p).1.length - eV<(cZ p).1.length - s2/\
(↑eV:Int)=(↑s2:Int)+(1:Int)/\
List.map (dV p) (List.take eV (cZ p).1)++List.drop eV (cZ p).1=y3.set (↑s2:Int).toNat (dV p y5)/\
ay p ((0:Int)=(0:Int)/\(0:Int)=(0:Int)/\(0:Int)=(0:Int)/\(0:Int)=(0:Int)/\false=false/\True))/\
(y4=false->(p,y3)=(cK p).1/\(0:Int)=(cK p).2/\True)))):=by kernel_rfl
theorem b48 (p:ab) (hp:cY p):ah (aj aA [(102,Gb),(103,L3),(104,L2)]) Tryz.f48 YK (a48 (p,())) (p,()):=by
 have hB:cK p=bif bX p==0 then(bif(cZ p).2==0 then((p,(cZ p).1.map (dV p)),0) else(zC,(cZ p).2)) else(zC,bX p):=by unfold cK;rfl
 have EH:=DT p
 rw[v48,iy,iy]
 refine U.mk fun y1 e1=> ?_
 simp only[dp,true_and,and_true,Int.toNat_natCast]
 refine⟨hp,fun h=> ?_,fun h=> ?_⟩
 ·have h:(bX p==0)=false:=by simpa using h
  rw[hB,h]
  exact⟨rfl,rfl⟩
 have h:(bX p==0)=true:=by simpa using h
 have hc:bX p=0:=eq_of_beq h
 rw[h] at hB
 obtain⟨h3,h4⟩:=x8 hc
 obtain⟨_,h5,_,_⟩:=xu h3
 refine⟨by omega,fun h2=> ?_,fun h2=> ?_⟩
 ·have h2:((cZ p).2==0)=false:=by simpa using h2
  rw[hB,h2]
  exact⟨rfl,rfl⟩
 have h2:((cZ p).2==0)=true:=by simpa using h2
 rw[h2] at hB
 refine⟨⟨0,by omega,rfl,rfl⟩,fun s=>U.mk fun y3 e3=>U.mk fun y4 e4=>U.mk fun y5 e5=> ?_⟩
 intro hs
 have hl3:y3.length=(cZ p).1.length:=by
  rw[e3,List.length_append,List.length_map,List.length_take,List.length_drop]
  omega
 refine⟨fun h=> ?_,fun h=> ?_⟩
 ·have h:=aZ e4 h
  have dQ:s<(cZ p).1.length:=by omega
  have Ic:(List.map (dV p) (List.take s (cZ p).1)).length=s:=by rw[List.length_map,List.length_take];omega
  have hd:(cZ p).1.drop s=(cZ p).1.getD s zR::(cZ p).1.drop (s+1):=by
   rw[eW zR dQ]
   exact List.drop_eq_getElem_cons dQ
  have e5:y5=(cZ p).1.getD s zR:=by
   rw[e5,e3,hd,List.getD_eq_getElem?_getD,List.getElem?_append_right (by omega),Ic,Nat.sub_self]
   rfl
  have mY:=GX h4 y5 (by rw[e5];exact fJ zR dQ)
  refine⟨⟨by omega,by omega⟩,⟨hc,⟨by have:=mY.2.1;omega,mY.1⟩,by have:=mY.2.2;omega⟩,⟨by omega,by omega⟩,aY (by omega) (by omega),s+1,by omega,by omega,by omega,?_⟩
  rw[e3,hd,List.set_append_right _ _ (by omega),Ic,Nat.sub_self,List.set_cons_zero,oa _ zR dQ,List.append_assoc,e5]
  rfl
 ·have hle:=bt e4 h
  have:s=(cZ p).1.length:=by omega
  subst this
  rw[hB,e3,List.take_length,List.drop_length,List.append_nil]
  exact⟨rfl,rfl⟩
theorem ahH:aN Tryz.prog 48 YK:=
 aN.b3 (l:=[(102,Gb),(103,L3),(104,L2)]) (A:=a48) aJ ⟨Xk,adN,adM,trivial⟩ Tryz.func48 (by kernel_rfl) (by kernel_rfl) fun x _ hp=>b48 x.1 hp
theorem v13 (p:ab):ah (aj aA [(47,c47),(48,YK)]) Tryz.f13 NU ar (p,())=(
True/\
((!oQ p)=true->[]=(bz p).1/\false=(bz p).2/\True)/\
((!oQ p)=false->cY p/\(cK p).1.2=(bz p).1/\((cK p).2==(0:Int))=(bz p).2/\True)):=by kernel_rfl
theorem Vy {p:ab} (h:oQ p=true):sN p=true:=by
 unfold oQ at h
 rw[Bool.and_eq_true] at h
 exact h.1
theorem Xf:aN Tryz.prog 13 NU:=
 aN.b3 (l:=[(47,c47),(48,YK)]) (A:=fun _=>ar) aJ ⟨ahI,ahH,trivial⟩ Tryz.func13 (by kernel_rfl) (by kernel_rfl) fun x _ hp=>by
  obtain⟨p,⟨⟩⟩:=x
  rw[v13]
  refine⟨trivial,fun h=> ?_,fun h=>⟨?_,?_⟩⟩
  ·unfold bz
   have h:oQ p=false:=by simpa using h
   rw[h]
   exact⟨rfl,rfl,trivial⟩
  ·have h:oQ p=true:=by simpa using h
   exact IF (Vy h)
  ·unfold bz
   have h:oQ p=true:=by simpa using h
   rw[h]
   exact⟨rfl,rfl,trivial⟩
theorem v45:ah (aj aA [(100,TY)]) Tryz.f45 YL ar (())=(
True/\
True/\
True/\
True/\
True/\
(((((((List.replicate (6:Nat) ([],(0:Int),(0:Int))).set (0:Nat) ([(87:UInt8)],(4:Int),(0:Int))).set (1:Nat) ([(65:UInt8)],(1:Int),(20:Int))).set (2:Nat)
([(80:UInt8)],(2:Int),(10:Int))).set
(3:Nat) ([(66:UInt8)],(1:Int),(20:Int))).set
(4:Nat) ([(67:UInt8)],(1:Int),(30:Int))).set
(5:Nat) ([(69:UInt8)],(4:Int),(0:Int)),
(((((List.replicate (5:Nat) (((0:Int),(0:Int)),(0:Int),(0:Int))).set (0:Nat) (((0:Int),(0:Int)),(1:Int),(0:Int))).set (1:Nat)
(((1:Int),(1:Int)),(2:Int),(0:Int))).set
(2:Nat) (((2:Int),(1:Int)),(3:Int),(0:Int))).set
(3:Nat) (((3:Int),(1:Int)),(5:Int),(0:Int))).set
(4:Nat) (((2:Int),(2:Int)),(4:Int),(0:Int)),
(((((List.replicate (5:Nat) ([],((0:Int),(0:Int)),false)).set (0:Nat) ([(119:UInt8)],((0:Int),(0:Int)),false)).set (1:Nat)
([(97:UInt8)],((1:Int),(1:Int)),false)).set
(2:Nat) ([(101:UInt8)],((5:Int),(0:Int)),false)).set
(3:Nat) ([(98:UInt8)],((3:Int),(0:Int)),false)).set
(4:Nat) ([(99:UInt8)],((4:Int),(0:Int)),false),
[],(10:Int),(5:Int),(15:Int),(2:Int),false)=
pO/\
True):=by kernel_rfl
theorem ahK:aN Tryz.prog 45 YL:=
 aN.b3 (l:=[(100,TY)]) (A:=fun _=>ar) aJ ⟨adP,trivial⟩ Tryz.func45 (by kernel_rfl) (by kernel_rfl) fun x _ hp=>by
  obtain⟨⟩:=x
  rw[v45]
  exact⟨trivial,trivial,trivial,trivial,trivial,rfl,trivial⟩
abbrev Js:Ty:= .map aO aO
abbrev afz:Ty:= .map aO I
abbrev afB:Ty:= .map I (.pair I I)
abbrev afA:Ty:= .map I I
abbrev jx:Ty:= .pair PlanT (.pair Js (.pair afz (.pair afB afA)))
abbrev bk:=ab×List (ak×ak)×List (ak×Int)×List (Int×Int×Int)×List (Int×Int)
abbrev abh:Ty:= .lN 172 (.pair (.ref PlanT) .unit)
abbrev abg:Ty:= .lN 173 (.pair (.ref PlanT) .unit)
abbrev abf:Ty:= .lN 174 (.pair (.ref PlanT) .unit)
def IG (n:Int):Bool:=(decide (97<=n)&&decide (n<=122))||(decide (65<=n)&&decide (n<=90))
def yq:bg where
 args:=[I]
 out:= .data [I]
 pre:=fun(x:Int×Unit)=>True
 fn:=fun(x:Int×Unit)=>(cQ x.1,())
def K7:bg where
 args:=[I,I]
 out:= .data [I]
 pre:=fun(x:Int×Int×Unit)=>True
 fn:=fun(x:Int×Int×Unit)=>(m9 x.1 x.2.1,())
def DD:bg where
 args:=[PlanT,aO]
 out:= .data [.bool]
 pre:=fun(x:ab×ak×Unit)=>True
 fn:=fun(x:ab×ak×Unit)=>(dC x.1 x.2.1,())
def K1:bg where
 args:=[.int .u8]
 out:= .data [.bool]
 pre:=fun(x:Int×Unit)=>True
 fn:=fun(x:Int×Unit)=>(IG x.1,())
def K9:bg where
 args:=[.str]
 out:= .data [.bool]
 pre:=fun(x:n4×Unit)=>True
 fn:=fun(x:n4×Unit)=>(kB x.1,())
def LF:bg where
 args:=[PlanT]
 out:= .data [.bool]
 pre:=fun(x:ab×Unit)=>True
 fn:=fun(x:ab×Unit)=>(fArgs x.1,())
def LD:bg where
 args:=[I,.ref PlanT]
 out:= .data [.str]
 pre:=fun(x:Int×ab×Unit)=>aL x.1 x.2.1.1.length
 fn:=fun(x:Int×ab×Unit)=>((x.2.1.1.getD x.1.toNat zE).1,())
def LC:bg where
 args:=[I,.ref PlanT]
 out:= .data [.str]
 pre:=fun(x:Int×ab×Unit)=>aL x.1 x.2.1.2.2.1.length
 fn:=fun(x:Int×ab×Unit)=>((x.2.1.2.2.1.getD x.1.toNat zS).1,())
def LB:bg where
 args:=[I,.ref PlanT]
 out:= .data [.str]
 pre:=fun(x:Int×ab×Unit)=>aL x.1 x.2.1.2.2.2.1.length
 fn:=fun(x:Int×ab×Unit)=>((x.2.1.2.2.2.1.getD x.1.toNat zL).1,())
def fE (p:ab):List n4:=p.1.map fun e=>e.1
def eZ (p:ab):List n4:=p.2.2.1.map fun e=>e.1
def eN (p:ab):List n4:=p.2.2.2.1.map fun e=>e.1
def ue:bg where
 args:=[I,abh]
 out:= .data [.bool]
 pre:=fun(x:Int×(ab×Unit)×Unit)=>x.1=(x.2.1.1.1.length:Int)
 fn:=fun(x:Int×(ab×Unit)×Unit)=>(dT (fE x.2.1.1),())
def ud:bg where
 args:=[I,abg]
 out:= .data [.bool]
 pre:=fun(x:Int×(ab×Unit)×Unit)=>x.1=(x.2.1.1.2.2.1.length:Int)
 fn:=fun(x:Int×(ab×Unit)×Unit)=>(dT (eZ x.2.1.1),())
def uc:bg where
 args:=[I,abf]
 out:= .data [.bool]
 pre:=fun(x:Int×(ab×Unit)×Unit)=>x.1=(x.2.1.1.2.2.2.1.length:Int)
 fn:=fun(x:Int×(ab×Unit)×Unit)=>(dT (eN x.2.1.1),())
@[irreducible] def dU (p:ab):List (ak×ak):=p.2.1.flatMap fun j=>[(j.1,j.2),(j.2,j.1)]
@[irreducible] def nc (p:ab):List (ak×ak):=bif bT p then dU p else[]
def Lz:bg where
 args:=[PlanT]
 out:= .data [Js,.bool]
 pre:=fun(x:ab×Unit)=>True
 fn:=fun(x:ab×Unit)=>(nc x.1,bT x.1,())
def Ly:bg where
 args:=[PlanT,Js]
 out:= .data [.bool]
 pre:=fun(x:ab×List (ak×ak)×Unit)=>bT x.1=true/\x.2.1=dU x.1
 fn:=fun(x:ab×List (ak×ak)×Unit)=>(dq x.1,())
def m6 (m:List (ak×ak)) (l:List Int) (out:Int):Nat->Option Int
 |0=>some out
 |k+1=>match m6 m l out k with
  |none=>none
  |some o=>match aW aO m (l.getD k 0,o) with
   |none=>none
   |some q=>bif q.1==l.getD (k+1) 0 then some (1 - q.2) else none
def o3 (m:List (ak×ak)) (l:List Int) (e:Int):Bool:=match aW aO m (l.getD 0 0,e) with
 |none=>false
 |some q=>q.1==l.getD 1 0
def jt (m:List (ak×ak)) (l:List Int):Int:=bif o3 m l 0 then 0 else bif o3 m l 1 then 1 else -1
@[irreducible] def zN (m:List (ak×ak)) (l:List Int):Bool:=
 bif decide (l.length<2) then true else bif decide (jt m l<0) then false else(m6 m l (jt m l) (l.length - 1)).isSome
def xr (m:List (ak×ak)):Prop:=∀x∈m,0<=x.2.2/\x.2.2<=3
def K8:bg where
 args:=[.list I,Js]
 out:= .data [.bool]
 pre:=fun(x:List Int×List (ak×ak)×Unit)=>xr x.2.1
 fn:=fun(x:List Int×List (ak×ak)×Unit)=>(zN x.2.1 x.1,())
def Lx:bg where
 args:=[PlanT,Js]
 out:= .data [.bool]
 pre:=fun(x:ab×List (ak×ak)×Unit)=>bT x.1=true/\x.2.1=dU x.1
 fn:=fun(x:ab×List (ak×ak)×Unit)=>(fO x.1,())
def Lw:bg where
 args:=[PlanT]
 out:= .data [.bool]
 pre:=fun(x:ab×Unit)=>oP x.1=true/\dq x.1=true
 fn:=fun(x:ab×Unit)=>(lu x.1,())
def L1:bg where
 args:=[PlanT]
 out:= .data [I]
 pre:=fun(x:ab×Unit)=>True
 fn:=fun(x:ab×Unit)=>(bX x.1,())
def uO (n:Nat) (ok:Nat->Prop) (slot id:Nat) (a b:Ty) (m:Nat->List (a.den×b.den)) (keep cv:List Nat):LA where
 σ:=Nat
 ok:=fun k=>k<=n/\ok k
 mu:=fun k=>n - k
 sl:=fun k=>[(slot,.one (.aG I (k:Int)))]
 bl:=fun k=>[(id,.map false a b (m k) none)]
 keep:=keep
 cv:=cv
def Y7 (x:Int×Int×Unit):eA:=bh [(5,fun _=>{
 σ:=Nat
 ok:=fun k=>k<=60/\eb (gR x.1 x.2.1) k
 mu:=fun k=>60 - k
 sl:=fun k=>[(0,.one (.aG I (x.1 - x.2.1*((k:Int)+1)))),(5,.one (.aG I (ka x.1 x.2.1 k)))]
 bl:=fun _=>[]
 keep:=[1]
 cv:=[]})]
def Nx (p:Nat->Prop) (k:Nat):Prop:=1<=k/\p k
def a234 (x:n4×Unit):eA:=bh [(4,fun _=>dH x.1.length (Nx (dX (jv x.1))) 3 [0] [])]
def Zg (x:ab×Unit):eA:=bh [(4,fun _=>dH x.1.1.length (fg gJ x.1.1) 56 [1,54,55] [1]),
 (15,fun _=>dH x.1.2.2.1.length (fg ld x.1.2.2.1) 91 [1,89,90] [1]),
 (21,fun _=>dH x.1.2.2.2.1.length (fg jC x.1.2.2.2.1) 103 [101,102] [])]
def gY (l:List n4) (k:Nat):List (n4×Bool):=(l.take k).map fun s=>(s,true)
def o5 (l:List n4) (k:Nat):Prop:=eb (fun i=>cj (jz l i) i) k
def Bx (l:List n4):LA:=uO l.length (o5 l) 9 7 .str .bool (gY l) [1,5,8] []
def E9 (x:Int×(ab×Unit)×Unit):eA:=bh [(3,fun _=>Bx (fE x.2.1.1))]
def E6 (x:Int×(ab×Unit)×Unit):eA:=bh [(3,fun _=>Bx (eZ x.2.1.1))]
def E4 (x:Int×(ab×Unit)×Unit):eA:=bh [(3,fun _=>Bx (eN x.2.1.1))]
def bY (p:ab) (k:Nat):List (ak×ak):=(p.2.1.take k).flatMap fun j=>[(j.1,j.2),(j.2,j.1)]
def xZ (p:ab) (k:Nat):Prop:=de (kR p) (2*k)=true
def a175 (x:ab×Unit):eA:=bh [(3,fun _=>uO x.1.2.1.length (xZ x.1) 19 15 aO aO (bY x.1) [1,4,17,18] [1]),
 (12,fun _=>dH x.1.1.length (dX (kh x.1)) 76 [1,4,74,75] [1,15])]
def lO (p:ab) (k:Nat):List (ak×Bool):=(p.2.2.1.take k).map fun s=>(s.2.1,true)
def Zf (x:ab×List (ak×ak)×Unit):eA:=bh [(3,fun _=>uO x.1.2.2.1.length (dX (lb x.1)) 17 13 aO .bool (lO x.1) [1,2,5,15,16] [2]),
 (16,fun _=>dH x.1.1.length (dX (jZ x.1)) 72 [5,70,71] [13])]
def BJ (m:List (ak×ak)) (l:List Int):Nat->Int
 |0=> -1
 |1=>bif o3 m l 1 then 1 else -1
 |_=>jt m l
def Y8 (x:List Int×List (ak×ak)×Unit):eA:=bh [(5,fun _=>{
  σ:=Nat
  ok:=fun k=>k<=2
  mu:=fun k=>2 - k
  sl:=fun k=>[(6,.one (.aG I (1 - (k:Int)))),(5,.one (.aG I (BJ x.2.1 x.1 k)))]
  bl:=fun _=>[]
  keep:=[0,1]
  cv:=[]}),
 (13,fun _=>{
  σ:=Nat×Int
  ok:=fun s=>s.1<x.1.length/\m6 x.2.1 x.1 (jt x.2.1 x.1) s.1=some s.2
  mu:=fun s=>x.1.length - s.1
  sl:=fun s=>[(9,.one (.aG I ((s.1:Int)+1))),(5,.one (.aG I s.2))]
  bl:=fun _=>[]
  keep:=[0,1]
  cv:=[]})]
def uK (p:ab) (i k:Nat):List (Int×Bool):=(kN p i++(p.2.2.2.1.getD i zL).2.take k).map fun e=>(e,true)
def GL (p:ab) (i k:Nat):Prop:=dX (ma p i) k/\fg (mX p) (p.2.2.2.1.getD i zL).2 k
def Ze (x:ab×List (ak×ak)×Unit):eA:=bh [(3,fun _=>uO x.1.2.2.2.1.length (dX (jk x.1)) 14 10 I .bool (fun k=>uK x.1 k 0) [1,2,5,12,13] [2]),
 (8,fun S=>uO (x.1.2.2.2.1.getD (da S 14).toNat zL).2.length (GL x.1 (da S 14).toNat) 25 10 I .bool (uK x.1 (da S 14).toNat) [1,2,5,7,12,13,14,23,24] [2,7])]
def Zd (x:ab×Unit):eA:=bh [(4,fun _=>dH x.1.2.2.1.length (fg (jU x.1) x.1.2.2.1) 22 [1,20,21] [1]),
 (11,fun _=>dH x.1.1.length (fg (iw x.1) x.1.1) 47 [1,45,46] [1])]
theorem pD:Ty.isKey aO=true:=rfl
theorem tw:Ty.isKey I=true:=rfl
theorem ZZ:Ty.isKey .str=true:=rfl
theorem FL (a b:ak):Ty.jc aO a b=(a==b):=rfl
theorem Pk (a b:Int):Ty.jc I a b=(a==b):=rfl
theorem gZ (a:Ty) {β:Type}:∀(m:List (a.den×β)) (k:a.den),(aW a m k).isSome=m.any fun x=>a.jc k x.1
 |[],k=>by simp[aW]
 |x::m,k=>by
  simp only[aW,List.any_cons,<-gZ a m k]
  cases a.jc k x.1<;>rfl
theorem p6 {α:Type} (a:Ty) (f:α->a.den):∀(xs:List α) (k:a.den),(aW a (xs.map fun x=>(f x,true)) k).getD false=xs.any fun x=>a.jc k (f x)
 |[],k=>by simp[aW]
 |x::m,k=>by
  simp only[List.map_cons,aW,List.any_cons,<-p6 a f m k]
  cases a.jc k (f x)<;>rfl
theorem n9 {a:Ty} (ha:a.isKey=true) {β:Type} {m:List (a.den×β)} {k:a.den} (h:(aW a m k).isSome=false) (v:β):df a m k v=m++[(k,v)]:=by
 rcases uJ ha m k with ⟨_,h2,_⟩|⟨v0,h1,_⟩
 ·exact h2 v
 ·rw[h1] at h;cases h
theorem qt {α:Type} [BEq α] (d:α) (q:α->Bool) (xs:List α):∀(n:Nat),n<=xs.length->cj (fun i=>q (xs.getD i d)) n=(xs.take n).any q
 |0,_=>by simp[cj]
 |n+1,h=>by
  show(cj (fun i=>q (xs.getD i d)) n||q (xs.getD n d))=_
  rw[qt d q xs n (by omega),eQ d (by omega),List.any_append]
  simp
theorem fI {α:Type} [BEq α] [LawfulBEq α] (a b:α):(a==b)=(b==a):=by
 by_cases h:a=b
 ·subst h;rfl
 ·rw[beq_eq_false_iff_ne.2 h,beq_eq_false_iff_ne.2 (Ne.symm h)]
theorem QV (l:List n4) (s:Nat) (hs:s<=l.length) (y:n4):(aW .str (gY l s) y).getD false=cj (fun k=>l.getD k []==y) s:=by
 unfold gY
 rw[p6 .str (fun s:n4=>s),qt [] (fun x=>x==y) l s hs]
 congr 1
 funext x
 exact fI y x
theorem UE (l:List n4) (s:Nat) (hs:s<l.length) (h:(aW .str (gY l s) (l.getD s [])).getD false=false):df .str (gY l s) (l.getD s []) true=gY l (s+1):=by
 have h1:(aW .str (gY l s) (l.getD s [])).isSome=false:=by
  unfold gY at h ⊢
  rw[p6 .str (fun s:n4=>s)] at h
  rw[gZ,List.any_map]
  exact h
 rw[n9 ZZ h1]
 unfold gY
 rw[oa _ [] hs]
theorem mU (p:ab) (x:ak):aW aO (dU p) x=bif(bx p x).2 then some (bx p x).1 else none:=by
 unfold dU bx
 generalize p.2.1=l
 induction l with
 |nil=>simp[aW,xF]
 |cons j l ih=>
  simp only[List.flatMap_cons,List.cons_append,List.nil_append,aW,List.find?_cons,FL]
  rw[fI x j.1,fI x j.2]
  cases h1:(j.1==x) with
  |true=>simp[xF,h1]
  |false=>
   cases h2:(j.2==x) with
   |true=>simp[xF,h1]
   |false=>simpa using ih
theorem Sm (p:ab) (k:Nat) (hk:k<=p.2.1.length):(bW p).take (2*k)=(p.2.1.take k).flatMap fun j=>[j.1,j.2]:=by
 unfold bW
 generalize p.2.1=l at hk ⊢
 induction l generalizing k with
 |nil=>simp
 |cons j l ih=>
  cases k with
  |zero=>simp
  |succ k=>
   rw[show 2*(k+1)=2*k+1+1 by omega]
   simp only[List.flatMap_cons,List.cons_append,List.nil_append,List.take_succ_cons]
   rw[ih k (by simpa using hk)]
theorem mz (p:ab):(bW p).length=2*p.2.1.length:=by
 unfold bW
 generalize p.2.1=l
 induction l with
 |nil=>rfl
 |cons j l ih=>simp only[List.flatMap_cons,List.length_append,ih,List.length_cons,List.length_nil];omega
theorem EN (p:ab) (k:Nat) (hk:k<p.2.1.length):(bW p).getD (2*k) zP=(p.2.1.getD k zJ).1/\(bW p).getD (2*k+1) zP=(p.2.1.getD k zJ).2:=by
 unfold bW
 generalize p.2.1=l at hk ⊢
 induction l generalizing k with
 |nil=>simp at hk
 |cons j l ih=>
  cases k with
  |zero=>simp
  |succ k=>
   rw[show 2*(k+1)=2*k+1+1 by omega]
   simp only[List.flatMap_cons,List.cons_append,List.nil_append,List.getD_cons_succ]
   exact ih k (by simpa using hk)
theorem HI (p:ab) (k:Nat) (hk:k<=p.2.1.length) (x:ak):(aW aO (bY p k) x).isSome=cj (fun i=>(bW p).getD i zP==x) (2*k):=by
 rw[qt zP (fun y=>y==x) (bW p) (2*k) (by rw[mz];omega),Sm p k hk,gZ]
 unfold bY
 generalize p.2.1.take k=l
 induction l with
 |nil=>rfl
 |cons j l ih=>
  simp only[FL] at ih
  simp only[List.flatMap_cons,List.cons_append,List.nil_append,List.any_cons,FL,ih]
  rw[fI x j.1,fI x j.2]
theorem FD (p:ab) (k:Nat) (hk:p.2.1.length<=k):bY p k=dU p:=by
 unfold bY dU
 rw[List.take_of_length_le hk]
theorem uR (p:ab):bT p=(de (kR p) (bW p).length&&de (kh p) p.1.length):=by unfold bT;rfl
theorem xM {p:ab} (h:bT p=true) {j:nm} (hj:j∈p.2.1):dC p j.1=true/\dC p j.2=true:=by
 rw[uR,Bool.and_eq_true] at h
 have h1:=gx.1 h.1
 obtain⟨k,hk,rfl⟩:=List.mem_iff_getElem.1 hj
 have e:=EN p k hk
 rw[eW zJ hk] at e
 have a:=h1 (2*k) (by rw[mz];omega)
 have b:=h1 (2*k+1) (by rw[mz];omega)
 unfold kR at a b
 rw[e.1,Bool.and_eq_true] at a
 rw[e.2,Bool.and_eq_true] at b
 exact⟨a.1,b.1⟩
theorem xE {p:ab} (h:bT p=true) {x q:ak} (hq:aW aO (dU p) x=some q):dC p q=true:=by
 have hm:=fM pD hq
 unfold dU at hm
 obtain⟨j,hj,hm⟩:=List.mem_flatMap.1 hm
 obtain⟨h1,h2⟩:=xM h hj
 simp only[List.mem_cons,Prod.mk.injEq,List.not_mem_nil,or_false] at hm
 rcases hm with ⟨_,rfl⟩|⟨_,rfl⟩
 ·exact h2
 ·exact h1
theorem me {p:ab} {x:ak} (h:dC p x=true):0<=x.1/\x.1<p.1.length/\0<=x.2/\x.2<=3/\aK p x.1=(p.1.getD x.1.toNat zE).2.1:=by
 unfold dC at h
 simp only[Bool.and_eq_true,decide_eq_true_eq] at h
 obtain⟨h1,h2,h3,h4⟩:=h
 have hE:cQ (aK p x.1)<=4:=by
  unfold cQ
  generalize aK p x.1=k
  cases k==1<;>cases k==2<;>cases k==3<;>cases k==4<;>decide
 refine⟨h1,h2,h3,by omega,?_⟩
 unfold aK
 rw[decide_eq_false (by omega),decide_eq_false (by omega)]
 rfl
theorem CP {p:ab} (h:bT p=true):xr (dU p):=fun x hx=>by
 unfold dU at hx
 obtain⟨j,hj,hm⟩:=List.mem_flatMap.1 hx
 obtain⟨h1,h2⟩:=xM h hj
 simp only[List.mem_cons,List.not_mem_nil,or_false] at hm
 rcases hm with rfl|rfl
 ·have:=me h2;exact⟨this.2.2.1,this.2.2.2.1⟩
 ·have:=me h1;exact⟨this.2.2.1,this.2.2.2.1⟩
theorem Kj (p:ab) (i:Nat) (hi:i<p.2.2.1.length):(cc p (p.2.2.1.getD i zS).2.1==(i:Int))= !cj (fF p (p.2.2.1.getD i zS).2.1) i:=by
 unfold cc
 have hr:fF p (p.2.2.1.getD i zS).2.1 i=true:=by unfold fF;simp
 show(wa (gI (fF p (p.2.2.1.getD i zS).2.1) p.2.2.1.length)==(i:Int))=_
 cases h:cj (fF p (p.2.2.1.getD i zS).2.1) i with
 |false=>
  rw[sL hi h hr]
  simp[wa]
 |true=>
  rw[Bool.not_true,beq_eq_false_iff_ne]
  intro e
  cases hf:gI (fF p (p.2.2.1.getD i zS).2.1) p.2.2.1.length with
  |none=>rw[hf] at e;simp[wa] at e
  |some j=>
   rw[hf] at e
   have e:(j:Int)=i:=by simpa [wa] using e
   have e:j=i:=by omega
   subst e
   unfold gI at hf
   rw[List.find?_range_eq_some] at hf
   have:cj (fF p (p.2.2.1.getD j zS).2.1) j=false:=iX.2 fun k hk=>by simpa using hf.2.2 k hk
   rw[this] at h;cases h
theorem L9 (p:ab) (k:Nat) (hk:k<=p.2.2.1.length) (x:ak):(aW aO (lO p k) x).getD false=cj (fF p x) k:=by
 unfold lO
 rw[p6 aO (fun s:gy=>s.2.1)]
 have:=qt zS (fun s:gy=>s.2.1==x) p.2.2.1 k hk
 show _=cj (fun i=>(p.2.2.1.getD i zS).2.1==x) k
 rw[this]
 congr 1
 funext s
 exact fI x s.2.1
theorem YW (p:ab) (k:Nat) (hk:k<p.2.2.1.length) (h:(aW aO (lO p k) (p.2.2.1.getD k zS).2.1).getD false=false):df aO (lO p k) (p.2.2.1.getD k zS).2.1 true=lO p (k+1):=by
 have h1:(aW aO (lO p k) (p.2.2.1.getD k zS).2.1).isSome=false:=by
  unfold lO at h ⊢
  rw[p6 aO (fun s:gy=>s.2.1)] at h
  rw[gZ,List.any_map]
  exact h
 rw[n9 pD h1]
 unfold lO
 rw[oa _ zS hk]
theorem Q2 (p:ab) (x:ak):decide (0<=cc p x)=cj (fF p x) p.2.2.1.length:=by
 unfold cc
 show decide (0<=wa (gI (fF p x) p.2.2.1.length))=_
 cases hf:gI (fF p x) p.2.2.1.length with
 |none=>
  have:cj (fF p x) p.2.2.1.length=false:=iX.2 fun k hk=>by
   unfold gI at hf
   rw[List.find?_eq_none] at hf
   simpa using hf k (List.mem_range.2 hk)
  rw[this];rfl
 |some j=>
  obtain⟨h1,h2⟩:=Bo hf
  rw[nR h1 h2]
  simp[wa]
theorem BI (p:ab) (l:List Int) (e:Int):o3 (dU p) l e=qK p l e:=by
 unfold o3 qK
 rw[mU]
 cases (bx p (l.getD 0 0,e)).2<;>rfl
theorem OW (p:ab) (l:List Int):jt (dU p) l=fN p l:=by
 unfold jt fN
 rw[BI,BI]
theorem KO (p:ab) (l:List Int) (out:Int):∀k,m6 (dU p) l out k=bif(ed p l out k).2.2 then some (ed p l out k).2.1 else none
 |0=>rfl
 |k+1=>by
  simp only[m6,ed,KO p l out k]
  cases h:(ed p l out k).2.2 with
  |false=>rfl
  |true=>
   simp only[cond_true,mU,oe,Bool.true_and]
   cases h2:(bx p (l.getD k 0,(ed p l out k).2.1)).2 with
   |false=>rfl
   |true=>
    simp only[cond_true,Bool.true_and]
    cases (bx p (l.getD k 0,(ed p l out k).2.1)).1.1==l.getD (k+1) 0<;>rfl
theorem OH (p:ab) (l:List Int) (h0:l.length≠0) (ht:l.all (fun e=>aK p e==1)=true):zN (dU p) l=(eD p l).2:=by
 unfold zN eD
 rw[decide_eq_false h0,ht,OW,KO]
 simp only[Bool.not_true,Bool.or_self,cond_false]
 by_cases h1:l.length=1
 ·rw[decide_eq_true h1,decide_eq_true (by omega)];rfl
 ·rw[decide_eq_false h1,decide_eq_false (by omega)]
  simp only[cond_false]
  cases decide (fN p l<0) with
  |true=>rfl
  |false=>
   simp only[cond_false]
   cases (ed p l (fN p l) (l.length - 1)).2.2<;>rfl
end YtjnappfomhkeeaaGreat
end Go.Proofs
end
