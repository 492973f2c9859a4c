/-
  A function's own verification condition over owned data, and that it gives the contract; What a reading of the arguments tells: the data that lie in memory; A function that hands over a struct with a row of its own: its result as data that lead only into memory that the call has made; The types of the seat, and that the table is right; Contracts of the reference's plans (chapters 1 to 6), as far as they are reached; Annotations of the reference's plans; Plain facts about numbers, rows and counting, for the proofs of written-out conditions; The reference's plans, small functions: written out and proved; The reference's check of plans: written out and proved; Contracts of the reference's roads and flanks (chapters 7 to 11), as far as they are reached; Annotations of the reference's roads and flanks; The reference's roads: written out and proved; The reference's flanks and charts: written out and proved; Contracts of the program's plans and nets (layers 2 and 4), as far as they are reached; Annotations of the program's plans.
-/
import Derived.Test.YtjnappfomhkeeaaGreatM2
import Derived.WideShapes
import Derived.ChangeSame
import Derived.Test.YtjnappfomhkeeaaGreatProg
import Derived.KernelRfl
import Derived.IntWalk

section
set_option linter.unusedVariables false
set_option linter.unusedSimpArgs false
namespace Go.Vc
open Go
variable {P:Program} {X:Ctx} {w0:World} {foot:gF} {base:Mem} {S T:St} {E:Env} {a:Act} {w:World} {ctx:c8}
def slotsOf:List SV→Nat→List (Nat×(c8×SV))
 |[],_=>[]
 |s::ss,i=>(i,[],s)::slotsOf ss (i+1)
def ly:Nat:=1000000
def oS0 (fn:Func) (c:fq) (x:(cX c.args).den):St:=
 let r:=cK (cX c.args) x ly
 {sl:=slotsOf (Xq c.al (SO c.args r.1) r.2.2.1) 0,bl:=r.2.1,used:=r.2.2.1.ids,n:=fn.ntmps,oA:=r.2.2.1.ids}
def Fk:(o:eQ)→o.den→o.den→List Prop
 | .pair a b,x,y=>Fk a x.1 y.1++Fk b x.2 y.2
 | .cells _ o,x,y=>Fk o x y
 | .iz _ o,x,y=>Fk o x y
 | .gone o,x,y=>Fk o x y
 | .map a b,x,y=>[List.Perm (α:=a.den×b.den) x y]
 | .unit,_,_=>[]
 |_,x,y=>[x=y]
theorem pW:∀{o:eQ} {x y:o.den},(∀p∈Fk o x y,p)→o.DK x y
 | .pair a b,x,y,h=>by
  have h1:=pW (o:=a) (x:=x.1) (y:=y.1) fun p hp=>h p (List.mem_append_left _ hp)
  have h2:=pW (o:=b) (x:=x.2) (y:=y.2) fun p hp=>h p (List.mem_append_right _ hp)
  exact⟨h1,h2⟩
 | .cells _ o,x,y,h=>pW (o:=o) h
 | .iz _ o,x,y,h=>pW (o:=o) h
 | .gone o,x,y,h=>pW (o:=o) h
 | .unit,_,_,_=>trivial
 | .aC t,x,y,h=>h _ (List.mem_singleton.2 rfl)
 | .row e t,x,y,h=>h _ (List.mem_singleton.2 rfl)
 | .map _ _,x,y,h=>h _ (List.mem_singleton.2 rfl)
def Mo:Option Nat→Option Nat→Bool
 |none,none=>true
 |some m,some n=>Nat.beq m n
 |_,_=>false
def vQ:eQ→Bool→IT→IT→Bool
 | .row _ _,top,.row a,.row b=> !top||Mo a b
 | .row _ _,top,_,_=> !top
 | .map _ _,top,.row a,.row b=> !top||Mo a b
 | .map _ _,top,_,_=> !top
 | .cells fx o,top,.cells m t,.cells m' t'=> !(fx||top)||(Nat.beq m m'&&vQ o false t t')
 | .iz _ o,_,t,t'=>vQ o false t t'
 | .pair a b,_,.pair p q,.pair p' q'=>vQ a false p p'&&vQ b false q q'
 |_,_,_,_=>true
theorem zD:∀{t:IT} {p q:PT},nt E t p→nt E t q→p=q
 | .nil,.nil,.nil,_,_=>rfl
 | .row none,.row p,.row q,h,k=>by rw[show p=_ from h,show q=_ from k]
 | .row (some n),.row p,.row q,h,k=>by
  have h:E.place n=some p:=h
  have k:E.place n=some q:=k
  rw[h] at k
  cases k
  rfl
 | .cells n t,.cells p q,.cells p' q',h,k=>by
  have h1:=h.1
  rw[k.1] at h1
  cases h1
  rw[zD h.2 k.2]
 | .pair a b,.pair p q,.pair p' q',h,k=>by rw[zD h.1 k.1,zD h.2 k.2]
theorem O9:∀{o:eQ} {top:Bool} {t t':IT} {p p':PT},vQ o top t t'=true→nt E t p→nt E t' p'→Jf o top p p':=by
 intro o
 induction o with
 |row e ty=>
  intro top t t' p p' h hp dj Pj
  subst Pj
  cases t with
  |row a=>
   cases t' with
   |row b=>
    have yZ:a=b:=by
     simp only[vQ,Bool.not_true,Bool.false_or] at h
     cases a<;>cases b<;>simp[Mo] at h ⊢
     exact h
    subst yZ
    exact zD dj hp
   |nil=>cases h
   |cells _ _=>cases h
   |pair _ _=>cases h
  |nil=>cases h
  |cells _ _=>cases h
  |pair _ _=>cases h
 |map a' b'=>
  intro top t t' p p' h hp dj Pj
  subst Pj
  cases t with
  |row a=>
   cases t' with
   |row b=>
    have yZ:a=b:=by
     simp only[vQ,Bool.not_true,Bool.false_or] at h
     cases a<;>cases b<;>simp[Mo] at h ⊢
     exact h
    subst yZ
    exact zD dj hp
   |nil=>cases h
   |cells _ _=>cases h
   |pair _ _=>cases h
  |nil=>cases h
  |cells _ _=>cases h
  |pair _ _=>cases h
 |cells fx o ih=>
  intro top t t' p p' h hp dj
  cases p with
  |cells q0 q=>
   cases p' with
   |cells q0' q'=>
    intro Pj
    cases t with
    |cells m u=>
     cases t' with
     |cells m' u'=>
      simp only[vQ,Pj,Bool.not_true,Bool.false_or,Bool.and_eq_true] at h
      have hm:=Nat.eq_of_beq_eq_true h.1
      subst hm
      have h1:=hp.1
      rw[dj.1] at h1
      cases h1
      exact⟨rfl,ih h.2 hp.2 dj.2⟩
     |nil=>cases dj
     |row b=>cases b<;>cases dj
     |pair _ _=>cases dj
    |nil=>cases hp
    |row b=>cases b<;>cases hp
    |pair _ _=>cases hp
   |nil=>trivial
   |row _=>trivial
   |pair _ _=>trivial
  |nil=>trivial
  |row _=>trivial
  |pair _ _=>trivial
 |iz k o ih=>
  intro top t t' p p' h hp dj
  have:=ih h hp dj
  cases p<;>cases p'<;>exact this
 |pair a b Xt Xs=>
  intro top t t' p p' h hp dj
  cases p with
  |pair p q=>
   cases p' with
   |pair p' q'=>
    cases t with
    |pair u v=>
     cases t' with
     |pair u' v'=>
      simp only[vQ,Bool.and_eq_true] at h
      exact⟨Xt h.1 hp.1 dj.1,Xs h.2 hp.2 dj.2⟩
     |nil=>cases dj
     |row b=>cases b<;>cases dj
     |cells _ _=>cases dj
    |nil=>cases hp
    |row b=>cases b<;>cases hp
    |cells _ _=>cases hp
   |nil=>trivial
   |row _=>trivial
   |cells _ _=>trivial
  |nil=>trivial
  |row _=>trivial
  |cells _ _=>trivial
 |aC t=>intro top t t' p p' _ _ _;trivial
 |unit=>intro top t t' p p' _ _ _;cases p<;>cases p'<;>trivial
 |gone o _=>intro top t t' p p' _ _ _;trivial
def Gz:(os:List eQ)→List C→IT→(cX os).den→RM (List Prop×hY×IT)
 |[],_,_,_=> .ret ([],[],.nil)
 |o::os,cs,it,y=>(match it with
  | .pair s t=>do
   let q ←Gz os (cs.drop o.size) t y.2
   match o.kept with
   |true=>(do
    let r ←mE o (cs.take o.size)
    cR (vQ o true s r.2.2&&o5 r.2.1 q.2.1)
    return (Fk o r.1 y.1++q.1,r.2.1++q.2.1,.pair r.2.2 q.2.2))
   |false=> .ret (q.1,q.2.1,.pair .nil q.2.2)
  |_=> .fail)
def Gn (X:Ctx):List ResultVar→RM (List SV)
 |[]=> .ret []
 |r::rs=>do
  let s ←OE X r
  let ss ←Gn X rs
  return (s::ss)
def QZ (X:Ctx) (rs:List ResultVar) (c:fq) (x:(cX c.args).den):RM (List Prop):=do
 let ss ←Gn X rs
 let cs ←wc c.outs ss
 let r ←mE (cX c.outs) cs
 let i:=cK (cX c.args) x ly
 let k ←Gz c.args i.1 i.2.2.1 (c.fO x)
 let ids:=k.2.2.ids++r.2.2.ids
 cR (o5 k.2.1 r.2.1&&(Cw ids&&zA (k.2.1++r.2.1) ids))
 return (Fk (cX c.outs) r.1 (c.fn x)++k.1)
def UK (X:Ctx) (rs:List ResultVar) (c:fq) (x:(cX c.args).den):Ex→St→Prop
 | .exit _,_=>False
 |_,S=>match(QZ X rs c x).run S [] with
  |some ps=>uT ps True
  |none=>False
@[irreducible] def bN (X:Ctx) (fn:Func) (c:fq) (A:eC) (x:(cX c.args).den):Prop:=
 match fn.body with
 |some code=>vc X A code (oS0 fn c x) (UK X fn.results.toList c x)
 |none=>False
def Rk (fn:Func) (c:fq):Bool:=Nat.ble (c.args.length+NO c.al) fn.ntmps&&(fn.body.isSome&&((cX c.args).ok&&((cX c.outs).ok&&Nat.beq fn.results.toList.length c.outs.length)))
theorem LV:∀{os:List eQ},(cX os).ok=true→∀o∈os,o.ok=true
 |[],_,o,ho=>by cases ho
 |o'::os,h,o,ho=>by
  simp only[cX,eQ.ok,Bool.and_eq_true] at h
  rcases List.mem_cons.1 ho with rfl|ho
  ·exact h.1
  ·exact LV h.2 o ho
theorem xf:∀{ss:List SV} {vs:List Value} {i:Nat},gy E ss vs→∀n tags v,find (slotsOf ss i) n=some (tags,v)→tags=[]∧i≤n∧n<i+vs.length∧ft E v (vs.getD (n - i) undef)
 |[],vs,i,h,n,tags,v,hf=>by cases hf
 |s::ss,vs,i,h,n,tags,v,hf=>by
  obtain⟨u,us,rfl,k1,k2⟩:=h
  unfold slotsOf at hf
  by_cases e:i=n
  ·subst e
   have:some (([]:c8),s)=some (tags,v):=by simpa [find] using hf
   cases this
   exact⟨rfl,Nat.le_refl _,by simp,by simpa using k1⟩
  ·rw[ei e] at hf
   obtain⟨h1,h2,h3,h4⟩:=xf k2 n tags v hf
   refine⟨h1,by omega,by simp only[List.length_cons];omega,?_⟩
   have:n - i=(n - (i+1))+1:=by omega
   rw[this]
   simpa using h4
def placeOf (bd:List (Nat×Place)) (n:Nat):Option Place:=find bd n
theorem OO {fn:Func} {c:fq} {x:(cX c.args).den} {F:Mem} {vs:List Value} {pl:PT} (mT:(cX c.args).ok=true) (hlen:c.args.length+NO c.al≤fn.ntmps) (hF:∀b o,F b=some o→w.heap[b]? =some o)
  (hx:lz F w (cX c.args) x (gb vs) pl) (hs:Shape c.args vs) (Pq:lv pl.list) (BF:∀p∈pl.list,p.nil=false→F p.bc=none) (C2:Zu c.al pl):
  nt ⟨F,placeOf (cV (cK (cX c.args) x ly).2.2.1 pl)⟩ (cK (cX c.args) x ly).2.2.1 pl∧
  ep w ⟨nJ pl.list,placeOf (cV (cK (cX c.args) x ly).2.2.1 pl)⟩ F (oS0 fn c x) ⟨F,placeOf (cV (cK (cX c.args) x ly).2.2.1 pl)⟩ {tmps:=(AX c.al vs pl).toArray++Array.replicate (fn.ntmps - (AX c.al vs pl).toArray.size) undef,defers:=[]} w:=by
 obtain⟨h1,h2,h3,h4⟩:=me (cX c.args) x ly
 have yY:=fV (x:=x) (n:=ly) hx
 obtain⟨O5,Td⟩:=nK yY
 have nd:((cV (cK (cX c.args) x ly).2.2.1 pl).map (·.1)).Nodup:=by rw[O5];exact h3
 have place:∀i p,(i,p)∈cV (cK (cX c.args) x ly).2.2.1 pl→placeOf (cV (cK (cX c.args) x ly).2.2.1 pl) i=some p:=fun i p hm=>vy nd hm
 have mU:nt ⟨F,placeOf (cV (cK (cX c.args) x ly).2.2.1 pl)⟩ (cK (cX c.args) x ly).2.2.1 pl:=rQ yY place
 obtain⟨mA,pH⟩:=gD (E:=⟨F,placeOf (cV (cK (cX c.args) x ly).2.2.1 pl)⟩) (n:=ly) rfl mT hx mU
 have XE:=zK mA hs
 have abp:=hs.length
 have yd:gy ⟨F,placeOf (cV (cK (cX c.args) x ly).2.2.1 pl)⟩ (Xq c.al (SO c.args (cK (cX c.args) x ly).1) (cK (cX c.args) x ly).2.2.1) (AX c.al vs pl):=by
  cases hc:c.al with
  |none=>exact XE
  |some a=>
   obtain⟨pos,path⟩:=a
   rw[hc] at C2
   obtain⟨p,hp,o3⟩:=C2
   obtain⟨n,hn⟩:=xi yY hp
   obtain⟨p',k1,k2⟩:=yv mU hn
   rw[hp] at k1
   cases k1
   unfold Xq AX
   simp only[hp,hn]
   exact XE.ins ⟨p,k2,o3,rfl⟩
 have MY:(AX c.al vs pl).length=c.args.length+NO c.al:=by
  cases hc:c.al with
  |none=>exact abp
  |some a=>
   obtain⟨pos,path⟩:=a
   rw[hc] at C2
   obtain⟨p,hp,o3⟩:=C2
   unfold AX NO
   simp only[hp]
   rw[AY,abp]
 clear XE
 have bnd:∀i p,placeOf (cV (cK (cX c.args) x ly).2.2.1 pl) i=some p→(i,p)∈cV (cK (cX c.args) x ly).2.2.1 pl:=fun i p h=>Ad h
 have inL:∀i p,placeOf (cV (cK (cX c.args) x ly).2.2.1 pl) i=some p→p∈pl.list∧i∈(cK (cX c.args) x ly).2.2.1.ids:=fun i p h=>by
  have hm:=bnd i p h
  exact⟨by rw[←Td];exact List.mem_map_of_mem (f:=(·.2)) hm,by rw[←O5];exact List.mem_map_of_mem (f:=(·.1)) hm⟩
 refine⟨mU,{keep:= .refl _ _,mW:=hF,src:=fun b o hb=> .inl hb,ck:=fun i B hf=> ?_,own:=fun i B p hf hp hn=> ?_,inj:=fun i j B D p q hf eh hp hq hn dk kS=> ?_,used:=fun i p hp=>(inL i p hp).2,gZ:=fun n tags v hf ht=> ?_,size:= ?_,defers:=rfl,pins:=fun n p hp=>⟨(inL n p hp).2,hp⟩,dX:=fun n tags v hf ht=> ?_}⟩
 ·obtain⟨p,e1,e2,_⟩:=pH i B (Ad hf)
  exact⟨p,e1,e2⟩
 ·obtain⟨hm,_⟩:=inL i p hp
  exact⟨.inr ⟨p,hm,hn,rfl⟩,fun _=>BF p hm hn⟩
 ·refine lv.apart (l:=cV (cK (cX c.args) x ly).2.2.1 pl) (by rw[Td];exact Pq) (bnd i p hp) (bnd j q hq) kS hn dk
 ·obtain⟨g1,g2,g3,g4⟩:=xf yd n tags v hf
  rw[Nat.sub_zero] at g4
  generalize AX c.al vs pl=ws at *
  have hn:n<ws.length:=by omega
  have:(ws.toArray++Array.replicate (fn.ntmps - ws.toArray.size) undef).getD n undef=ws.getD n undef:=by
   rw[Array.getD_eq_getD_getElem?,Array.getElem?_append_left (by simpa using hn)]
   simp[List.getD_eq_getElem?_getD]
  show ft _ v ((ws.toArray++Array.replicate (fn.ntmps - ws.toArray.size) undef).getD n undef)
  rw[this]
  exact g4
 ·generalize AX c.al vs pl=ws at *
  show(ws.toArray++Array.replicate (fn.ntmps - ws.toArray.size) undef).size=fn.ntmps
  simp
  omega
 ·obtain⟨g1,_⟩:=xf yd n tags v hf
  subst g1
  exact absurd (fun t ht=>by cases ht) ht
theorem Fc (hT:dt P X.ay) (h:ep w0 foot base S E a w):∀{rs:List ResultVar} {ss:List SV},(Gn X rs).run S []=some ss→∃vs,(rs.mapM (rd a.tmps)).run P w= .ok vs w∧gy E ss vs
 |[],ss,hr=>by cases hr;exact⟨[],rfl,rfl⟩
 |r::rs,ss,hr=>by
  unfold Gn at hr
  obtain⟨s,h1,hr⟩:=RM.run_bind' hr
  obtain⟨ZQ,h2,hr⟩:=RM.run_bind' hr
  cases RM.run_pure' hr
  obtain⟨v,g1,g2⟩:=yA hT h h1
  obtain⟨vs,k1,k2⟩:=Fc hT h h2
  exact⟨v::vs,by simp[List.mapM_cons,g1,k1],v,vs,rfl,g2,k2⟩
theorem u5.of:∀{os:List eQ} {cs:List C} {it0:IT} {y:(cX os).den} {ps:List Prop} {fr:hY} {it:IT} {vs:List Value} {pl:PT},
  (Gz os cs it0 y).run S ctx=some (ps,fr,it)→
  (kP S.bl fr∧(∀n∈it.ids,∃B,find S.bl n=some B∧B.mut=true))∧
  ((∀p∈ps,p)→b5 E cs vs→nt E it0 pl→fm S.bl E w fr→(∀n∈it.ids,∀B,find S.bl n=some B→∃p,E.place n=some p∧fX E w p B)→∃gH,nt E it gH∧u5 E.F w os y vs pl gH)
 |[],cs,it0,y,ps,fr,it,vs,pl,hr=>by
  cases hr
  exact⟨⟨.nil,fun n hn=>(by cases hn)⟩,fun _ _ _ _ _=>⟨.nil,trivial,rfl⟩⟩
 |o::os,cs,it0,y,ps,fr,it,vs,pl,hr=>by
  unfold Gz at hr
  split at hr
  ·rename_i s t
   obtain⟨⟨qs,g,u⟩,h1,hr⟩:=RM.run_bind' hr
   obtain⟨⟨k1,k2⟩,k3⟩:=u5.of (vs:=vs.drop o.size) (pl:=match pl with | .pair _ q=>q|_=> .nil) h1
   split at hr
   ·rename_i hk
    obtain⟨⟨z,f,v⟩,h2,hr⟩:=RM.run_bind' hr
    obtain⟨_,h3,hr⟩:=RM.run_bind' hr
    cases RM.run_pure' hr
    have hg:=bQ h3
    simp only[Bool.and_eq_true] at hg
    obtain⟨c1,c2,c3⟩:=lO h2
    refine⟨⟨c1.append k1 hg.2,fun n hn=> ?_⟩,fun hp mA mU hf hb=> ?_⟩
    ·simp only[IT.ids,List.mem_append] at hn
     rcases hn with hn|hn
     ·exact c2 n hn
     ·exact k2 n hn
    ·cases pl with
     |pair p q=>
      obtain⟨q',m1,m2⟩:=k3 (fun p dj=>hp p (List.mem_append_right _ dj)) (mA.drop _) mU.2 hf.right fun n hn=>hb n (by simp[IT.ids,hn])
      obtain⟨p',n1,n2⟩:=c3 E w _ (mA.take o.size) hf.left fun n hn=>hb n (by simp[IT.ids,hn])
      have hz:o.DK z y.1:=pW fun p dj=>hp p (List.mem_append_left _ dj)
      refine⟨.pair p' q',⟨n1,m1⟩,p,q,p',q',rfl,rfl,m2,?_⟩
      rw[hk]
      exact⟨n2.HJ hz,O9 hg.1 mU.1 n1⟩
     |nil=>cases mU
     |row _=>cases mU
     |cells _ _=>cases mU
   ·rename_i hk
    cases hr
    refine⟨⟨k1,fun n hn=> ?_⟩,fun hp mA mU hf hb=> ?_⟩
    ·simp only[IT.ids,List.nil_append] at hn
     exact k2 n hn
    ·cases pl with
     |pair p q=>
      obtain⟨q',m1,m2⟩:=k3 hp (mA.drop _) mU.2 hf fun n hn=>hb n (by simp[IT.ids,hn])
      refine⟨.pair .nil q',⟨trivial,m1⟩,p,q,.nil,q',rfl,rfl,m2,?_⟩
      rw[hk]
     |nil=>cases mU
     |row _=>cases mU
     |cells _ _=>cases mU
  ·cases hr
theorem ew.of (hT:dt P X.ay) (hK:∀f dy,X.dy f=some dy→mr P f dy) {f:Nat} {fn:Func} {c:fq} {A:(cX c.args).den→eC} (hf:P.funcs[f]? =some fn) (hn:(fn.name=="runtime.NumGoroutine")=false)
  (ho:Rk fn c=true) (hv:∀x,(cX c.args).wf x→c.pre x→bN X fn c (A x) x):ew P f c:=by
 simp only[Rk,Bool.and_eq_true] at ho
 obtain⟨hlen,BD,XL,ah7,Tj⟩:=ho
 have hlen:=Nat.le_of_ble_eq_true hlen
 have Tj:=Nat.eq_of_beq_eq_true Tj
 refine⟨?_,LV XL,ah7,fun F w x vs pl hF hx hs Pq BF od C2=> ?_⟩
 ·obtain⟨code,hb⟩:=Option.isSome_iff_exists.1 BD
  exact⟨fn,code,hf,hn,hb⟩
 ·have h:=hv x hx.wf od
  unfold bN at h
  cases hb:fn.body with
  |none=>rw[hb] at h;cases h
  |some code=>
   rw[hb] at h
   obtain⟨aiK,aiH⟩:=OO (fn:=fn) XL hlen hF hx hs Pq BF C2
   refine calls_of_wp hf hb ?_
   refine wp_mono (oP hT hK h aiH) fun e a w' hp=> ?_
   have done:∀S E,(match(QZ X fn.results.toList c x).run S [] with |some ps=>uT ps True|none=>False)→ep w ⟨nJ pl.list,placeOf (cV (cK (cX c.args) x ly).2.2.1 pl)⟩ F S E a w'→a.defers=[]∧∃v,(results fn a.tmps).run P w'= .ok v w'∧
     ∃v' F' A9 gH qs,Ending.returned v= .returned v'∧F.le F'∧(∀b o,F' b=some o→w'.heap[b]? =some o)∧(∀b o,F' b=some o→F b=some o∨w.heap.size≤b∨nJ pl.list b)∧
     sD (nJ pl.list) w w'∧Qh c.outs v' A9∧Shape c.outs A9∧lz F' w' (cX c.outs) (c.fn x) (gb A9) qs∧u5 F' w' c.args (c.fO x) (gb vs) pl gH∧
     lv (gH.list++qs.list)∧∀p∈gH.list++qs.list,p.nil=false→(nJ pl.list p.bc∨w.heap.size≤p.bc)∧F' p.bc=none:=fun S E hq hR=>by
    split at hq
    ·rename_i ps AA
     have hq:=(iR hq).1
     unfold QZ at AA
     obtain⟨ss,h1,AA⟩:=RM.run_bind' AA
     obtain⟨cs,h2,AA⟩:=RM.run_bind' AA
     obtain⟨⟨y,fr,it⟩,h3,AA⟩:=RM.run_bind' AA
     obtain⟨⟨ks,fk,ik⟩,h4,AA⟩:=RM.run_bind' AA
     obtain⟨_,h5,AA⟩:=RM.run_bind' AA
     cases RM.run_pure' AA
     have hg:=bQ h5
     simp only[Bool.and_eq_true] at hg
     obtain⟨PA,hnd,nD⟩:=hg
     have hnd:=xn hnd
     have nD:=vZ nD
     obtain⟨A9,r1,r2⟩:=Fc hT hR h1
     obtain⟨d1,d2,d3⟩:=lO h3
     obtain⟨⟨e1,e2⟩,_⟩:=u5.of (E:=E) (w:=w') (vs:=[]) (pl:= .nil) h4
     have H4:=e1.append d1 PA
     obtain⟨E1,l1,q1,f1,za⟩:=hR.toHRel.cA H4
     have hfz:=fm.qg H4 za
     have XW:∀n∈(IT.pair ik it).ids,∃B,find S.bl n=some B∧B.mut=true:=fun n hn=>by
      simp only[IT.ids,List.mem_append] at hn
      rcases hn with hn|hn
      ·exact e2 n hn
      ·exact d2 n hn
     have uK:∀n∈(IT.pair ik it).ids,find (cA (fk++fr) S.bl) n=find S.bl n:=fun n hn=>ig (nD n hn)
     have hFw:∀b o,F b=some o→w'.heap[b]? =some o:=fun b o hb=>by
      rw[za.keep.block b (dw (hF b o hb)) fun h=> ?_]
      ·exact hF b o hb
      ·obtain⟨p,hp,o3,hpb⟩:=h
       rw[←hpb,BF p hp o3] at hb
       cases hb
     have j1:F.le (fb F E1.F):=fun b o hb=>by unfold fb;rw[hb]
     have j2:E1.F.le (fb F E1.F):=fun b o hb=>by
      unfold fb
      split
      ·rename_i o' rE
       rw[←hFw b o' rE,za.mW b o hb]
      ·exact hb
     have j3:∀b o,fb F E1.F b=some o→w'.heap[b]? =some o:=fun b o hb=>by
      unfold fb at hb
      split at hb
      ·rename_i o' rE;cases hb;exact hFw b _ rE
      ·exact za.mW b o hb
     have j4:∀b o,fb F E1.F b=some o→F b=some o∨w.heap.size≤b∨nJ pl.list b:=fun b o hb=>by
      unfold fb at hb
      split at hb
      ·rename_i o' rE;cases hb;exact .inl rE
      ·exact za.src b o hb
     have lJ:E1.le ⟨fb F E1.F,E1.place⟩:=⟨j2,fun _ _ h=>h⟩
     have oF:∀n∈(IT.pair ik it).ids,∀B,find S.bl n=some B→∃p,E1.place n=some p∧fX ⟨fb F E1.F,E1.place⟩ w' p B:=fun n hn B hB=>by
      obtain⟨p,g1,g2⟩:=za.ck n B (by rw[uK n hn];exact hB)
      exact⟨p,g1,g2.mono lJ⟩
     have abx:fm S.bl ⟨fb F E1.F,E1.place⟩ w' (fk++fr):=fun q hq=>by
      obtain⟨p,g1,g2⟩:=hfz q hq
      exact⟨p,g1,g2.mono lJ⟩
     have nd0:((cV (cK (cX c.args) x ly).2.2.1 pl).map (·.1)).Nodup:=by
      rw[(nK (fV hx)).1]
      exact(me (cX c.args) x ly).2.2.1
     have XI:nt ⟨fb F E1.F,E1.place⟩ (cK (cX c.args) x ly).2.2.1 pl:=by
      refine rQ (fV hx) fun i p hm=> ?_
      show E1.place i=some p
      rw[q1]
      exact(hR.pins i p (vy nd0 hm)).2
     have aiD:b5 ⟨fb F E1.F,E1.place⟩ (cK (cX c.args) x ly).1 (gb vs):=by
      have:=(gD (E:=⟨F,placeOf (cV (cK (cX c.args) x ly).2.2.1 pl)⟩) (n:=ly) rfl XL hx aiK).1
      exact this.mono ⟨j1,fun i p hp=>by show E1.place i=some p;rw[q1];exact(hR.pins i p hp).2⟩
     obtain⟨aiC,abr⟩:=w9 h2 r2
     obtain⟨qs,m1,m2⟩:=d3 ⟨fb F E1.F,E1.place⟩ w' (gb A9) (aiC.mono ((show E.le E1 from l1).trans lJ)) abx.right fun n hn=>oF n (by simp[IT.ids,hn])
     have hy:(cX c.outs).DK y (c.fn x):=pW fun p hp=>hq p (List.mem_append_left _ hp)
     obtain⟨_,e3⟩:=u5.of (E:=⟨fb F E1.F,E1.place⟩) (w:=w') (vs:=gb vs) (pl:=pl) h4
     obtain⟨gH,n1,n2⟩:=e3 (fun p hp=>hq p (List.mem_append_right _ hp)) aiD XI abx.left fun n hn=>oF n (by simp[IT.ids,hn])
     have Pz:nt ⟨fb F E1.F,E1.place⟩ (.pair ik it) (.pair gH qs):=⟨n1,m1⟩
     obtain⟨g1,g2⟩:=sE Pz hnd fun i hi j hj kS p r hp hr o3 XG=>by
      obtain⟨B,hB,_⟩:=XW i hi
      obtain⟨D,hD,_⟩:=XW j hj
      exact za.inj i j B D p r (by rw[uK i hi];exact hB) (by rw[uK j hj];exact hD) hp hr o3 XG kS
     refine⟨hR.defers,_,xk r1,_,fb F E1.F,A9,gH,qs,rfl,j1,j3,j4,za.keep,?_,abr,m2.HJ hy,n2,g1,fun p hp o3=> ?_⟩
     ·unfold Qh
      have hl:=abr.length
      split
      ·rename_i o heq
       rw[heq] at hl
       obtain⟨v,hv⟩:=List.length_eq_one_iff.1 hl
       subst hv
       rfl
      ·rename_i jS
       rw[dif_neg]
       intro nR
       rw[nR] at hl
       obtain⟨o,ho⟩:=List.length_eq_one_iff.1 hl.symm
       exact jS o ho
     ·rcases g2 p hp with h|⟨i,hi,h⟩
      ·rw[h] at o3;cases o3
      ·obtain⟨B,hB,hm⟩:=XW i hi
       have ho:=za.own i B p (by rw[uK i hi];exact hB) h o3
       refine⟨ho.1.symm,?_⟩
       unfold fb
       split
       ·rename_i o' rE
        rcases ho.1 with nR|⟨p',dj,Kr,hpb⟩
        ·have:=dw (hF _ _ rE);omega
        ·rw[←hpb,BF p' dj Kr] at rE;cases rE
       ·exact ho.2 hm
    ·cases hq
   cases e with
   |normal=>obtain⟨S,E,hq,hR⟩:=hp;exact done S E hq hR
   |ret=>obtain⟨S,E,hq,hR⟩:=hp;exact done S E hq hR
   |exit id=>obtain⟨S,E,hq,hR⟩:=hp;cases hq
   |goto l=>cases hp
   |panic ch=>cases hp
   |outgrown=>cases hp
structure AC where
 dy:SK
 ok:Program→Nat→Prop
 sound:∀P f,ok P f→mr P f dy
instance:Coe bh AC:=⟨fun c=>⟨c.dy,fun P f=>aM P f c,fun P f h=>h.dy⟩⟩
instance:Coe fq AC:=⟨fun c=>⟨c.dy,fun P f=>ew P f c,fun P f h=>h.dy⟩⟩
def Nz:List SV→Nat
 |[]=>0
 | .one (.aC (.lD k _) _)::_=>k+1
 |_::l=>Nz l
def keyed:List (Nat×AC)→Nat→Bool
 |[],_=>false
 |(m,_)::l,n=>match Nat.beq (m % 10000) n with
  |true=>true
  |false=>keyed l n
def Sl (l:List (Nat×AC)) (f:Nat):Option SK:=
 match keyed l f with
 |true=>some {run:=fun vs d=>match find l (f+10000*Nz vs) with
  |some c=>c.dy.run vs d
  |none=> .fail}
 |false=>none
def ah (ay:List TI) (l:List (Nat×AC)) (wraps:List Nat:=[]) (clos:List (Nat×Ty):=[]) (mclos:List Nat:=[]):Ctx:={ay:=ay,dy:=Sl l,wraps:=wraps,clos:=clos,mclos:=mclos}
def AG (P:Program):List (Nat×AC)→Prop
 |[]=>True
 |(f,c)::l=>c.ok P (f % 10000)∧AG P l
theorem AG.find:∀{l:List (Nat×AC)},AG P l→∀{k c},Vc.find l k=some c→c.ok P (k % 10000)
 |[],_,k,c,h=>by cases h
 |(m,c')::l,hl,k,c,h=>by
  unfold Vc.find at h
  split at h
  ·rename_i hb
   have:=Nat.eq_of_beq_eq_true hb
   subst this
   cases h
   exact hl.1
  ·exact AG.find hl.2 h
theorem AG.keyed:∀{l:List (Nat×AC)},AG P l→∀{f},Vc.keyed l f=true→∃c:AC,c.ok P f
 |[],_,f,h=>by cases h
 |(m,c')::l,hl,f,h=>by
  unfold Vc.keyed at h
  split at h
  ·rename_i hb
   have:=Nat.eq_of_beq_eq_true hb
   exact⟨c',this▸hl.1⟩
  ·exact AG.keyed hl.2 h
theorem AG.small:∀{l:List (Nat×AC)} {f:Nat},Vc.keyed l f=true→f<10000
 |[],f,h=>by cases h
 |(m,c')::l,f,h=>by
  unfold Vc.keyed at h
  split at h
  ·rename_i hb
   have:=Nat.eq_of_beq_eq_true hb
   omega
  ·exact AG.small h
theorem AG.dy {l:List (Nat×AC)} (hl:AG P l) (f:Nat) (dy:SK) (h:Sl l f=some dy):mr P f dy:=by
 unfold Sl at h
 split at h
 ·rename_i hk
  cases h
  obtain⟨c0,hc0⟩:=hl.keyed hk
  have hf:=AG.small hk
  refine⟨(c0.sound P f hc0).fn,fun w0 foot base S ctx E w args vs d r hR hv hr cq hn=> ?_⟩
  simp only at hr
  split at hr
  ·rename_i c hc
   have:=hl.find hc
   rw[show(f+10000*Nz args) % 10000=f by omega] at this
   exact(c.sound P f this).calls w0 foot base S ctx E w args vs d r hR hv hr cq hn
  ·cases hr
 ·cases h
theorem aM.bZ {ay:List TI} {l:List (Nat×AC)} {wraps:List Nat} {clos:List (Nat×Ty)} {mclos:List Nat} (hT:dt P ay) (hK:AG P l) {f:Nat} {fn:Func} {c:bh} {A:jI c.args→eC} (hf:P.funcs[f]? =some fn) (hn:(fn.name=="runtime.NumGoroutine")=false)
  (ho:Tt fn c=true) (hv:∀x,QB c.args x→c.pre x→ai (ah ay l wraps clos mclos) fn c (A x) x):aM P f c:=
 aM.of (X:=ah ay l wraps clos mclos) (A:=A) hT (AG.dy hK) hf hn ⟨ho,hv⟩
theorem ew.bZ {ay:List TI} {l:List (Nat×AC)} {wraps:List Nat} {clos:List (Nat×Ty)} {mclos:List Nat} (hT:dt P ay) (hK:AG P l) {f:Nat} {fn:Func} {c:fq} {A:(cX c.args).den→eC} (hf:P.funcs[f]? =some fn) (hn:(fn.name=="runtime.NumGoroutine")=false)
  (ho:Rk fn c=true) (hv:∀x,(cX c.args).wf x→c.pre x→bN (ah ay l wraps clos mclos) fn c (A x) x):ew P f c:=
 ew.of (X:=ah ay l wraps clos mclos) (A:=A) hT (AG.dy hK) hf hn ho hv
def aq:eC:={loop:=fun _=>none,split:=fun _=>false}
def abk:List (Nat×(St→LA))→Nat→Option (St→LA)
 |[],_=>none
 |(m,a)::l,n=>match Nat.beq m n with
  |true=>some a
  |false=>abk l n
def bj (l:List (Nat×(St→LA))) (split:List Nat:=[]):eC:={loop:=abk l,split:=has split}
theorem aM.Ja {f:Nat} {args:List Ty} {e:Nat} {t:Ty} {pre:jI args→Prop} {fn:jI args→jI [.list t]} (ht:t.iu=true) (h:aM P f {args:=args,out:= .row e t,pre:=pre,fn:=fn}):
  aM P f {args:=args,out:= .fresh [.list t],pre:=pre,fn:=fn} where
 fn:=h.fn
 calls F w x vs hF hx od:=by
  refine(h.calls F w x vs hF hx od).mono fun en w' hp=> ?_
  obtain⟨v,F',h1,h2,h3,h4,h5,p,h6,h7,h8⟩:=hp
  have h7:fX ⟨F',fun _=>none⟩ w' p (.row false e t (fn x).1):=h7
  rcases h7 with ⟨hn,RH,hl⟩|⟨hn,h0,⟨g1,g2⟩,us,g3,g4,g5,g6⟩
  ·refine⟨v,F',h1,h2,h3,h4,h5,?_⟩
   rcases h8 with ⟨_,hv,_⟩|⟨dk,_⟩
   ·have hr:dh (fun _=>none) (.list t) (fn x).1 [v]:=by
     rw[hv,RH]
     exact⟨none,0,rfl,Nat.le_refl _,by simp[aK],fun _=>rfl,fun p hp=>by cases hp⟩
    exact⟨fun _=>none,fun b o hb=>(by cases hb),fun b o hb=>(by cases hb),hr⟩
   ·rw[hn] at dk;cases dk
  ·obtain⟨k1,k2⟩:=h6 hn
   have hle:F'.le (fun b=>if b=p.bc then some (.cells us e (0,0)) else F' b):=fun b o hb=>by
    simp only
    split
    ·rename_i gI;subst gI;rw[k2] at hb;cases hb
    ·exact hb
   have hG:Mem.le (fun b=>if b=p.bc then some (.cells us e (0,0)) else none) (fun b=>if b=p.bc then some (.cells us e (0,0)) else F' b):=fun b o hb=>by
    simp only at hb ⊢
    split at hb
    ·rename_i gI;rw[if_pos gI];exact hb
    ·cases hb
   refine⟨v,fun b=>if b=p.bc then some (.cells us e (0,0)) else F' b,h1,h2.trans hle,fun b o hb=> ?_,fun b o hb=> ?_,h5,fun b=>if b=p.bc then some (.cells us e (0,0)) else none,hG,fun b o hb=> ?_,?_⟩
   ·simp only at hb
    split at hb
    ·rename_i gI;subst gI;cases hb;exact g3
    ·exact h3 b o hb
   ·simp only at hb
    split at hb
    ·rename_i gI;subst gI;exact .inr k1
    ·exact h4 b o hb
   ·simp only at hb
    split at hb
    ·rename_i gI;rw[gI];exact k1
    ·cases hb
   ·have hB:fX ⟨fun b=>if b=p.bc then some (.cells us e (0,0)) else none,fun _=>none⟩ w' p (.row true e t (fn x).1):= .inr ⟨hn,h0,⟨g1,g2⟩,us,g3,g4,fun _=>by simp,fun i y hy=>by
     obtain⟨ws,m1,m2⟩:=g6 i y hy
     exact⟨ws,m1.iu ht,m2⟩⟩
    have:=Cp (lo:=0) (len:=(fn x).1.length) hB (by omega) (v:=v) (by
     rcases h8 with ⟨dk,_⟩|⟨_,hv,_⟩
     ·rw[hn] at dk;cases dk
     ·exact .inr ⟨hn,_,by rw[hv,g1];rfl,.inr (by simp)⟩)
    rw[Eg] at this
    exact this
theorem aM.asData {f:Nat} {args:List Ty} {e:Nat} {t:Ty} {pre:jI args→Prop} {fn:jI args→jI [.list t]} (h:aM P f {args:=args,out:= .row e t,pre:=pre,fn:=fn}):
  aM P f {args:=args,out:= .data [.list t],pre:=pre,fn:=fn} where
 fn:=h.fn
 calls F w x vs hF hx od:=by
  refine(h.calls F w x vs hF hx od).mono fun en w' hp=> ?_
  obtain⟨v,F',h1,h2,h3,h4,h5,p,h6,h7,h8⟩:=hp
  have h7:fX ⟨F',fun _=>none⟩ w' p (.row false e t (fn x).1):=h7
  rcases h7 with ⟨hn,RH,hl⟩|⟨hn,h0,⟨g1,g2⟩,us,g3,g4,g5,g6⟩
  ·refine⟨v,F',h1,h2,h3,h4,h5,?_⟩
   rcases h8 with ⟨_,hv,_⟩|⟨dk,_⟩
   ·have hr:dh F' (.list t) (fn x).1 [v]:=by
     rw[hv,RH]
     exact⟨none,0,rfl,Nat.le_refl _,by simp[aK],fun _=>rfl,fun p hp=>by cases hp⟩
    exact hr
   ·rw[hn] at dk;cases dk
  ·obtain⟨k1,k2⟩:=h6 hn
   have hle:F'.le (fun b=>if b=p.bc then some (.cells us e (0,0)) else F' b):=fun b o hb=>by
    simp only
    split
    ·rename_i gI;subst gI;rw[k2] at hb;cases hb
    ·exact hb
   refine⟨v,fun b=>if b=p.bc then some (.cells us e (0,0)) else F' b,h1,h2.trans hle,fun b o hb=> ?_,fun b o hb=> ?_,h5,?_⟩
   ·simp only at hb
    split at hb
    ·rename_i gI;subst gI;cases hb;exact g3
    ·exact h3 b o hb
   ·simp only at hb
    split at hb
    ·rename_i gI;subst gI;exact .inr k1
    ·exact h4 b o hb
   ·have hB:fX ⟨fun b=>if b=p.bc then some (.cells us e (0,0)) else F' b,fun _=>none⟩ w' p (.row true e t (fn x).1):= .inr ⟨hn,h0,⟨g1,g2⟩,us,g3,g4,fun _=>by simp,fun i y hy=>by
     obtain⟨ws,m1,m2⟩:=g6 i y hy
     exact⟨ws,m1.mono hle,m2⟩⟩
    have:=Cp (lo:=0) (len:=(fn x).1.length) hB (by omega) (v:=v) (by
     rcases h8 with ⟨dk,_⟩|⟨_,hv,_⟩
     ·rw[hn] at dk;cases dk
     ·exact .inr ⟨hn,_,by rw[hv,g1];rfl,.inr (by simp)⟩)
    rw[Eg] at this
    exact this
end Go.Vc
end

section
set_option linter.unusedVariables false
set_option linter.unusedSimpArgs false
namespace Go.Vc
open Go Go.WideShapes
variable {P:Program} {w:World}
def oa (P:Program):Ty→(Nat→Bool)×(List Field→Nat→Bool)
 | .int k=>(fun t=>match P.underlying t with
  |some (.int j)=>pE j k
  |_=>false,fun _ _=>false)
 | .bool=>(fun t=>match P.underlying t with
  |some .bool=>true
  |_=>false,fun _ _=>false)
 | .str=>(fun t=>match P.underlying t with
  |some .string=>true
  |_=>false,fun _ _=>false)
 | .list a=>(fun t=>match P.underlying t with
  |some (.slice e)=>(oa P a).1 e&&(Nat.beq (P.cellsOf e) a.size&&Nat.blt 0 a.size)
  |_=>false,fun _ _=>false)
 | .unit=>(fun _=>false,fun fs _=>fs.isEmpty)
 | .ref _| .ptr _| .lD _ _| .map _ _=>(fun _=>false,fun _ _=>false)
 | .pair a b=>
  let PI:List Field→Nat→Bool:=fun fs off=>match fs with
   |[]=>false
   |[f]=>Nat.beq f.offset off&&(Nat.beq (P.cellsOf f.type) a.size&&((oa P a).1 f.type&&(oa P b).2 [] (off+a.size)))
   |[f,g]=>Nat.beq f.offset off&&(Nat.beq (P.cellsOf f.type) a.size&&((oa P a).1 f.type&&(Nat.beq g.offset (off+a.size)&&(Nat.beq (P.cellsOf g.type) b.size&&(oa P b).1 g.type))))
   |f::fs=>Nat.beq f.offset off&&(Nat.beq (P.cellsOf f.type) a.size&&((oa P a).1 f.type&&(oa P b).2 fs (off+a.size)))
  (fun t=>match P.underlying t with
   |some (.struct fs)=>Nat.beq (P.cellsOf t) (a.size+b.size)&&PI fs.toList 0
   |_=>false,PI)
def sI (w:World):Mem:=fun b=>w.heap[b]?
theorem KI {a:Addr} {u:Value} (h:w.cell? a=some u):a.spot=none∧(sI w).cell a.block a.off u:=by
 unfold World.cell? at h
 split at h
 ·rename_i c e m hb
  split at h
  ·cases h
  ·rename_i hs
   exact⟨by simpa using hs,c,e,m,hb,h⟩
 ·cases h
theorem mapM_some {α β:Type} {f:α→Option β}:∀{l:List α} {r:List β},l.mapM f=some r→r.length=l.length∧∀(i:Nat) (x:α),l[i]? =some x→∃y,r[i]? =some y∧f x=some y
 |[],r,h=>by
  simp at h
  subst h
  exact⟨rfl,fun i x hx=>by simp at hx⟩
 |a::l,r,h=>by
  rw[List.mapM_cons] at h
  cases hf:f a with
  |none=>rw[hf] at h;cases h
  |some b=>
   rw[hf] at h
   cases hm:l.mapM f with
   |none=>simp[hm] at h
   |some bs=>
    simp[hm] at h
    subst h
    obtain⟨h1,h2⟩:=mapM_some hm
    refine⟨by simp[h1],fun i x hx=> ?_⟩
    cases i with
    |zero=>simp at hx;subst hx;exact⟨b,rfl,hf⟩
    |succ i=>exact h2 i x (by simpa using hx)
theorem FR {a:Addr} {n:Nat} {us:List Value} (h:w.cells? 0 a n=some us):us.length=n∧∀(j:Nat) (u:Value),us[j]? =some u→w.cell? (a.add j)=some u:=by
 unfold World.cells? at h
 rw[if_pos (Nat.zero_le _)] at h
 obtain⟨h1,h2⟩:=mapM_some h
 refine⟨by simpa using h1,fun j u hu=> ?_⟩
 have hj:j<n:=by
  have:=(List.getElem?_eq_some_iff.1 hu).1
  rw[h1] at this
  simpa using this
 obtain⟨y,k1,k2⟩:=h2 j j (by simp[hj])
 rw[hu] at k1
 cases k1
 exact k2
theorem O1 {α:Type} {Q:Nat→α→Prop}:∀(n:Nat),(∀i,i<n→∃x,Q i x)→∃xs:List α,xs.length=n∧∀(i:Nat) (x:α),xs[i]? =some x→Q i x
 |0,_=>⟨[],rfl,fun i x h=>by simp at h⟩
 |n+1,h=>by
  obtain⟨xs,h1,h2⟩:=O1 n fun i hi=>h i (by omega)
  obtain⟨x,hx⟩:=h n (Nat.lt_succ_self n)
  refine⟨xs++[x],by simp[h1],fun i y hy=> ?_⟩
  by_cases hi:i<n
  ·rw[List.getElem?_append_left (by omega)] at hy
   exact h2 i y hy
  ·rw[List.getElem?_append_right (by omega)] at hy
   have:i - xs.length=0:=by
    have:=(List.getElem?_eq_some_iff.1 hy).1
    simp at this
    omega
   rw[this] at hy
   simp at hy
   subst hy
   have:i=n:=by omega
   rw[this]
   exact hx
section
variable {H:Type} {enc:TypeId×Value→H} {sp:Nat→Bool} {held:Bool} {t fuel:Nat} {cs:List Value} {d:DataW H} {ps:List MemPlace}
theorem trod_int {k:IntKind} (hu:P.underlying t=some (.int k)) (h:DataW.trod enc P w 0 sp held fuel t cs=some (d,ps)):∃n:Int,cs=[.int k n]∧bq k n:=by
 cases fuel with
 |zero=>cases h
 |succ fuel=>
  rcases cs with _|⟨v,_|⟨v2,cs⟩⟩
  ·simp[DataW.trod,hu] at h
  ·cases v<;>simp[DataW.trod,hu] at h
   obtain⟨⟨rfl,h1⟩,_⟩:=h
   simp only[Lit.wf,Bool.and_eq_true,decide_eq_true_eq] at h1
   exact⟨_,rfl,h1⟩
  ·simp[DataW.trod,hu] at h
theorem trod_bool (hu:P.underlying t=some .bool) (h:DataW.trod enc P w 0 sp held fuel t cs=some (d,ps)):∃b:Bool,cs=[.bool b]:=by
 cases fuel with
 |zero=>cases h
 |succ fuel=>
  rcases cs with _|⟨v,_|⟨v2,cs⟩⟩
  ·simp[DataW.trod,hu] at h
  ·cases v<;>simp[DataW.trod,hu] at h
   exact⟨_,rfl⟩
  ·simp[DataW.trod,hu] at h
theorem Um (hu:P.underlying t=some .string) (h:DataW.trod enc P w 0 sp held fuel t cs=some (d,ps)):∃s:ByteArray,cs=[.string s]∧s.size≤maxLen:=by
 cases fuel with
 |zero=>cases h
 |succ fuel=>
  rcases cs with _|⟨v,_|⟨v2,cs⟩⟩
  ·simp[DataW.trod,hu] at h
  ·cases v<;>simp[DataW.trod,hu] at h
   exact⟨_,rfl,h.1⟩
  ·simp[DataW.trod,hu] at h
theorem trod_slice {e:Nat} (hu:P.underlying t=some (.slice e)) (h:DataW.trod enc P w 0 sp held (fuel+1) t cs=some (d,ps)):
  cs=[.slice none 0 0]∨∃a len cap,cs=[.slice (some a) len cap]∧len≤cap∧cap≤maxLen∧
   ∀i,i<len→∃us d' ps',w.cells? 0 (a.add (i*P.cellsOf e)) (P.cellsOf e)=some us∧DataW.trod enc P w 0 sp held fuel e us=some (d',ps'):=by
 rcases cs with _|⟨v,_|⟨v2,cs⟩⟩
 ·simp[DataW.trod,hu] at h
 ·cases v with
  |slice a len cap=>
   cases a with
   |none=>
    unfold DataW.trod at h
    simp only[hu] at h
    split at h<;>simp_all
   |some a=>
    unfold DataW.trod at h
    simp only[hu] at h
    split at h
    ·rename_i hc
     refine .inr ⟨a,len,cap,rfl,hc.2.1,hc.2.2,fun i hi=> ?_⟩
     rw[Option.bind_eq_some_iff] at h
     obtain⟨elems,h1,_⟩:=h
     obtain⟨_,h2⟩:=mapM_some h1
     obtain⟨y,_,h3⟩:=h2 i i (by simp[hi])
     rw[Option.bind_eq_some_iff] at h3
     obtain⟨us,h4,h5⟩:=h3
     exact⟨us,y.1,y.2,h4,h5⟩
    ·cases h
  |_=>simp[DataW.trod,hu] at h
 ·simp[DataW.trod,hu] at h
theorem trod_struct {fs:Array Field} (hu:P.underlying t=some (.struct fs)) (h:DataW.trod enc P w 0 sp held (fuel+1) t cs=some (d,ps)):
  cs.length=P.cellsOf t∧∃xs,fs.toList.mapM (fun f=>DataW.trod enc P w 0 sp held fuel f.type ((cs.drop f.offset).take (P.cellsOf f.type)))=some xs:=by
 unfold DataW.trod at h
 simp only[hu] at h
 split at h
 ·rename_i hc
  refine⟨hc,?_⟩
  rw[Option.map_eq_some_iff] at h
  obtain⟨xs,h1,_⟩:=h
  exact⟨xs,h1⟩
 ·cases h
end
theorem qW {f:Field} {fs:List Field} {fuel:Nat} {cs:List Value} {H:Type} {enc:TypeId×Value→H} {sp:Nat→Bool} {held:Bool} {xs:List (DataW H×List MemPlace)}
  (h:(f::fs).mapM (fun f=>DataW.trod enc P w 0 sp held fuel f.type ((cs.drop f.offset).take (P.cellsOf f.type)))=some xs):
  (∃y,DataW.trod enc P w 0 sp held fuel f.type ((cs.drop f.offset).take (P.cellsOf f.type))=some y)∧∃ys,fs.mapM (fun f=>DataW.trod enc P w 0 sp held fuel f.type ((cs.drop f.offset).take (P.cellsOf f.type)))=some ys:=by
 rw[List.mapM_cons] at h
 cases hf:DataW.trod enc P w 0 sp held fuel f.type ((cs.drop f.offset).take (P.cellsOf f.type)) with
 |none=>rw[hf] at h;cases h
 |some b=>
  rw[hf] at h
  refine⟨⟨b,rfl⟩,?_⟩
  cases hm:fs.mapM (fun f=>DataW.trod enc P w 0 sp held fuel f.type ((cs.drop f.offset).take (P.cellsOf f.type))) with
  |none=>simp[hm] at h
  |some bs=>exact⟨bs,rfl⟩
theorem DG (x:Addr) (n:Nat):(x.add n).off=x.off+n∧(x.add n).block=x.block:=by
 unfold Addr.add
 split<;>simp_all
theorem add_zero' (x:Addr):(x.add 0)=x:=by simp[Addr.add]
theorem tq {H:Type} {enc:TypeId×Value→H} {sp:Nat→Bool} {held:Bool}:∀{ty:Ty},
  (∀{t fuel:Nat} {cs:List Value} {d:DataW H} {ps:List MemPlace},(oa P ty).1 t=true→DataW.trod enc P w 0 sp held fuel t cs=some (d,ps)→∃x,dh (sI w) ty x cs)∧
  (∀{fs:List Field} {off fuel:Nat} {cs:List Value} {xs:List (DataW H×List MemPlace)},(oa P ty).2 fs off=true→cs.length=off+ty.size→
   fs.mapM (fun f=>DataW.trod enc P w 0 sp held fuel f.type ((cs.drop f.offset).take (P.cellsOf f.type)))=some xs→∃x,dh (sI w) ty x (cs.drop off))
 | .int k=>by
  refine⟨fun {t fuel cs d ps} ht h=> ?_,fun h=>by cases h⟩
  simp only[oa] at ht
  split at ht
  ·rename_i j hu
   have:=qj ht
   subst this
   obtain⟨n,rfl,hn⟩:=trod_int hu h
   exact⟨n,rfl,hn⟩
  ·cases ht
 | .ref _=>⟨fun {t fuel cs d ps} ht h=>(by cases ht),fun h=>by cases h⟩
 | .ptr _=>⟨fun {t fuel cs d ps} ht h=>(by cases ht),fun h=>by cases h⟩
 | .lD _ _=>⟨fun {t fuel cs d ps} ht h=>(by cases ht),fun h=>by cases h⟩
 | .map _ _=>⟨fun {t fuel cs d ps} ht h=>(by cases ht),fun h=>by cases h⟩
 | .bool=>by
  refine⟨fun {t fuel cs d ps} ht h=> ?_,fun h=>by cases h⟩
  simp only[oa] at ht
  split at ht
  ·rename_i hu
   obtain⟨b,rfl⟩:=trod_bool hu h
   exact⟨b,rfl⟩
  ·cases ht
 | .str=>by
  refine⟨fun {t fuel cs d ps} ht h=> ?_,fun h=>by cases h⟩
  simp only[oa] at ht
  split at ht
  ·rename_i hu
   obtain⟨s,rfl,hs⟩:=Um hu h
   refine⟨s.data.toList,rfl,?_⟩
   have:s.data.toList.length=s.size:=rfl
   show s.data.toList.length≤_
   rw[this]
   exact hs
  ·cases ht
 | .list a=>by
  refine⟨fun {t fuel cs d ps} ht h=> ?_,fun h=>by cases h⟩
  simp only[oa] at ht
  split at ht
  ·rename_i e hu
   simp only[Bool.and_eq_true] at ht
   obtain⟨h1,h2,h3⟩:=ht
   have h2:=Nat.eq_of_beq_eq_true h2
   have h3:0<a.size:=Nat.lt_of_lt_of_le (Nat.zero_lt_one) (Nat.le_of_ble_eq_true h3)
   cases fuel with
   |zero=>cases h
   |succ fuel=>
    rcases trod_slice hu h with rfl|⟨ad,len,cap,rfl,RR,hcm,M9⟩
    ·exact⟨[],none,0,rfl,Nat.le_refl _,Nat.zero_le _,fun _=>rfl,fun p hp=>by cases hp⟩
    ·obtain⟨xs,hl,HS⟩:=O1 (Q:=fun i x=>ad.spot=none∧∃us:List Value,dh (sI w) a x us∧us.length=a.size∧∀(j:Nat) u,us[j]? =some u→(sI w).cell ad.block (ad.off+(i*a.size+j)) u) len fun i hi=>by
      obtain⟨us,d',ps',k1,k2⟩:=M9 i hi
      rw[h2] at k1
      obtain⟨q1,q2⟩:=FR k1
      obtain⟨x,hx⟩:=tq.1 h1 k2
      have qS:∀(j:Nat) u,us[j]? =some u→(sI w).cell ad.block (ad.off+(i*a.size+j)) u:=fun j u hu=>by
       obtain⟨_,g2⟩:=KI (q2 j u hu)
       rw[(DG _ _).1,(DG _ _).1,(DG _ _).2,(DG _ _).2,Nat.add_assoc] at g2
       exact g2
      have ad1:ad.spot=none:=by
       obtain⟨ZN,_,_,k1,_⟩:=M9 0 (by omega)
       rw[h2,Nat.zero_mul,add_zero'] at k1
       obtain⟨q1,q2⟩:=FR k1
       have h0:0<ZN.length:=by omega
       have:=(KI (q2 0 ZN[0] (List.getElem?_eq_getElem h0))).1
       rwa [add_zero'] at this
      exact⟨x,ad1,us,hx,q1,qS⟩
     refine⟨xs,some ad,cap,?_,?_,hcm,fun h=>(by cases h),fun p hp i x hx=> ?_⟩
     ·show _=[Value.slice (some ad) xs.length cap]
      rw[hl]
     ·show xs.length≤cap
      omega
     ·cases hp
      exact HS i x hx
  ·cases ht
 | .unit=>by
  refine⟨fun h=>(by cases h),fun {fs off fuel cs xs} hf hl h=>⟨(),?_⟩⟩
  have hl:cs.length=off:=hl
  show cs.drop off=[]
  rw[List.drop_eq_nil_of_le (by omega)]
 | .pair a b=>by
  have PI:∀{fs:List Field} {off fuel:Nat} {cs:List Value} {xs:List (DataW H×List MemPlace)},(oa P (.pair a b)).2 fs off=true→cs.length=off+(Ty.pair a b).size→
   fs.mapM (fun f=>DataW.trod enc P w 0 sp held fuel f.type ((cs.drop f.offset).take (P.cellsOf f.type)))=some xs→∃x,dh (sI w) (.pair a b) x (cs.drop off):=fun {fs off fuel cs xs} hf hl h=>by
   have hl:cs.length=off+(a.size+b.size):=hl
   have aal:cs.drop off=(cs.drop off).take a.size++cs.drop (off+a.size):=by
    rw[←List.drop_drop,List.take_append_drop]
   have one:∀{f:Field} {fs:List Field} {xs:List (DataW H×List MemPlace)},Nat.beq f.offset off=true→Nat.beq (P.cellsOf f.type) a.size=true→(oa P a).1 f.type=true→
     (f::fs).mapM (fun f=>DataW.trod enc P w 0 sp held fuel f.type ((cs.drop f.offset).take (P.cellsOf f.type)))=some xs→(∃y,dh (sI w) b y (cs.drop (off+a.size)))→∃x,dh (sI w) (.pair a b) x (cs.drop off):=fun {f fs xs} e1 e2 e3 h hb=>by
    obtain⟨⟨⟨d,ps⟩,h1⟩,_⟩:=qW h
    rw[Nat.eq_of_beq_eq_true e1,Nat.eq_of_beq_eq_true e2] at h1
    obtain⟨x,hx⟩:=tq.1 e3 h1
    obtain⟨y,hy⟩:=hb
    exact⟨(x,y),_,_,aal,hx,hy⟩
   simp only[oa] at hf
   split at hf
   ·cases hf
   ·rename_i f
    simp only[Bool.and_eq_true] at hf
    obtain⟨e1,e2,e3,e4⟩:=hf
    refine one e1 e2 e3 h ?_
    obtain⟨_,ys,Gc⟩:=qW h
    exact tq.2 e4 (by omega) Gc
   ·rename_i f g
    simp only[Bool.and_eq_true] at hf
    obtain⟨e1,e2,e3,e4,e5,e6⟩:=hf
    refine one e1 e2 e3 h ?_
    obtain⟨_,ys,Gc⟩:=qW h
    obtain⟨⟨⟨d,ps⟩,h1⟩,_⟩:=qW Gc
    rw[Nat.eq_of_beq_eq_true e4,Nat.eq_of_beq_eq_true e5] at h1
    obtain⟨y,hy⟩:=tq.1 e6 h1
    rw[List.take_of_length_le (by simp;omega)] at hy
    exact⟨y,hy⟩
   ·rename_i f fs _ _
    simp only[Bool.and_eq_true] at hf
    obtain⟨e1,e2,e3,e4⟩:=hf
    refine one e1 e2 e3 h ?_
    obtain⟨_,ys,Gc⟩:=qW h
    exact tq.2 e4 (by omega) Gc
  refine⟨fun {t fuel cs d ps} ht h=> ?_,PI⟩
  have ht0:=ht
  simp only[oa] at ht0
  split at ht0
  ·rename_i fs hu
   have hb:=(Bool.and_eq_true _ _▸ht0:_∧_)
   have iX:=Nat.eq_of_beq_eq_true hb.1
   cases fuel with
   |zero=>cases h
   |succ fuel=>
    obtain⟨hl,xs,HS⟩:=trod_struct hu h
    obtain⟨x,hx⟩:=PI (fs:=fs.toList) (off:=0) (by simp only[oa];exact hb.2) (by rw[hl,iX];simp[Ty.size]) HS
    exact⟨x,by simpa using hx⟩
  ·cases ht0
theorem val_rep {H:Type} {enc:TypeId×Value→H} {sp:Nat→Bool} {held:Bool} {ty:Ty} {t base:Nat} {r:Reach} {v:Value} {d:DataW H} {ps:List MemPlace} (ht:(oa P ty).1 t=true) (hk:Value.okWide P w r base t v)
  (h:DataW.Trod enc P w 0 sp held t v d ps):∃x,nr (sI w) ty x v:=by
 obtain⟨fuel,h⟩:=h
 obtain⟨x,hx⟩:=tq.1 ht h
 refine⟨x,?_⟩
 unfold nr
 cases ty with
 |int k=>
  simp only[oa] at ht
  split at ht
  ·rename_i hu;obtain⟨n,rfl⟩:=okWide_int hu hk;exact hx
  ·cases ht
 |bool=>
  simp only[oa] at ht
  split at ht
  ·rename_i hu;obtain⟨n,rfl⟩:=okWide_bool hu hk;exact hx
  ·cases ht
 |str=>
  simp only[oa] at ht
  split at ht
  ·rename_i hu;obtain⟨n,rfl⟩:=okWide_string hu hk;exact hx
  ·cases ht
 |list a=>
  simp only[oa] at ht
  split at ht
  ·rename_i e hu;obtain⟨a,len,cap,rfl⟩:=okWide_slice hu hk;exact hx
  ·cases ht
 |unit=>cases ht
 |ref _=>cases ht
 |ptr _=>cases ht
 |lD _ _=>cases ht
 |map _ _=>cases ht
 |pair a b=>
  simp only[oa] at ht
  split at ht
  ·rename_i fs hu
   simp only[Value.okWide,hu] at hk
   obtain⟨cs,rfl,_⟩:=hk
   exact⟨cs,rfl,hx⟩
  ·cases ht
end Go.Vc
end

section
set_option linter.unusedVariables false
set_option linter.unusedSimpArgs false
namespace Go.Vc
open Go
variable {P:Program} {w:World}
theorem vb {F:Mem} {t:Ty} {x:t.den} {v:Value} (h:nr F t x v):dh F t x v.cells.toList∧(match(eQ.aC t).isAgg with
  |true=>∃ws,v= .agg ws∧ws.size=(eQ.aC t).size
  |false=>v.cells= #[v]∧(eQ.aC t).size=1):=by
 unfold nr at h
 cases hb:t.isAgg with
 |true=>
  rw[hb] at h
  obtain⟨ws,rfl,h⟩:=h
  have hl:=h.length
  refine⟨h,?_⟩
  show(match t.isAgg with |true=>_|false=>_)
  rw[hb]
  exact⟨ws,rfl,by show ws.size=t.size;simpa using hl⟩
 |false=>
  rw[hb] at h
  have h:dh F t x [v]:=h
  have h1:=(gG (E:=⟨F,fun _=>none⟩) h).oB v (List.mem_singleton.2 rfl)
  have h2:=Value.BP h1
  have hl:=h.length
  refine⟨by rw[h2];exact h,?_⟩
  show(match t.isAgg with |true=>_|false=>_)
  rw[hb]
  exact⟨h2,hl.symm⟩
theorem ew.Ja {f:Nat} {t1 t2 t3 t4 u:Ty} {e:Nat} {t:Ty} {pre:jI [t1,t2,t3,t4]→Prop} {fn:jI [t1,t2,t3,t4]→jI [.pair (.list t) u]} (ht:t.iu=true) (hu:u.iu=true)
  (h:ew P f {args:=[.aC t1,.aC t2,.aC t3,.aC t4],outs:=[.pair (.row e t) (.aC u)],pre:=pre,fn:=fn,fO:=fun x=>x}):
  aM P f {args:=[t1,t2,t3,t4],out:= .fresh [.pair (.list t) u],pre:=pre,fn:=fn} where
 fn:=h.fn
 calls F w x vs hF hx od:=by
  obtain⟨v1,vs1,rfl,h1,v2,vs2,rfl,h2,v3,vs3,rfl,h3,v4,vs4,rfl,h4,rfl⟩:=hx
  obtain⟨r1,s1⟩:=vb h1
  obtain⟨r2,s2⟩:=vb h2
  obtain⟨r3,s3⟩:=vb h3
  obtain⟨r4,s4⟩:=vb h4
  have hO:lz F w (cX [.aC t1,.aC t2,.aC t3,.aC t4]) x (gb [v1,v2,v3,v4]) (.pair .nil (.pair .nil (.pair .nil (.pair .nil .nil)))):=
   ⟨_,_,_,_,rfl,rfl,⟨rfl,r1⟩,_,_,_,_,rfl,rfl,⟨rfl,r2⟩,_,_,_,_,rfl,rfl,⟨rfl,r3⟩,_,_,_,_,rfl,rfl,⟨rfl,r4⟩,rfl,rfl⟩
  have hS:Shape [.aC t1,.aC t2,.aC t3,.aC t4] [v1,v2,v3,v4]:=⟨v1,_,rfl,s1,v2,_,rfl,s2,v3,_,rfl,s3,v4,_,rfl,s4,rfl⟩
  refine(h.calls F w x [v1,v2,v3,v4] _ hF hO hS (by simp[PT.list,lv]) (fun p hp=>by simp[PT.list] at hp) od trivial).mono fun en w' hp=> ?_
  obtain⟨v,F',A9,gH,qs,e1,l1,f1,src,keep,ov,sh,ag1,kr,nd,own⟩:=hp
  have ov:A9=[v]:=ov
  subst ov
  obtain⟨v',F7,e2,hv,rfl⟩:=sh
  cases e2
  obtain⟨ws,hv,iX⟩:=hv
  subst hv
  obtain⟨us,ws2,q1,q2,e3,rfl,⟨us3,Wh,q3,q4,rfl,rfl,⟨p,v3',rfl,rfl,CW,hB⟩,rfl,aeq⟩,rfl,rfl⟩:=ag1
  have e3:ws.toList=[v3']++Wh:=by
   have:gb [Value.agg ws]=ws.toList:=by simp[gb,Value.cells]
   rw[this] at e3
   rw[e3];simp
  have hk:sD (fun _=>False) w w':=⟨keep.os,keep.tape,keep.output,keep.size,fun k hk _=>keep.block k hk fun⟨q,hq,_⟩=>by simp[PT.list] at hq⟩
  have aa7:∀b o,F' b=some o→F b=some o∨w.heap.size≤b:=fun b o hb=>by
   rcases src b o hb with h|h|⟨q,hq,_⟩
   ·exact .inl h
   ·exact .inr h
   ·simp[PT.list] at hq
  have Yf:∀G:Mem,dh G u (fn x).1.2 Wh:=fun G=>dh.iu hu aeq
  rcases hB with ⟨hn,HS,hl⟩|⟨hn,g0,⟨g1,g2⟩,cs,g3,g4,_,g6⟩
  ·rcases CW with ⟨_,hvv,_⟩|⟨dk,_⟩
   ·refine⟨_,F',e1,l1,f1,aa7,hk,fun _=>none,fun b o hb=>(by cases hb),fun b o hb=>(by cases hb),?_⟩
    refine⟨ws,rfl,[v3'],Wh,e3,?_,Yf _⟩
    have HS:(fn x).1.1=[]:=HS
    rw[hvv,HS]
    exact⟨none,0,rfl,Nat.le_refl _,by simp[aK],fun _=>rfl,fun p hp=>by cases hp⟩
   ·rw[hn] at dk;cases dk
  ·rcases CW with ⟨dk,_⟩|⟨_,hvv,AE,Vg⟩
   ·rw[hn] at dk;cases dk
   ·have rm:=own p (by simp[PT.list]) hn
    have ql:w.heap.size≤p.bc:=by
     rcases rm.1 with ⟨q,hq,_⟩|h
     ·simp[PT.list] at hq
     ·exact h
    have hle:F'.le (fun b=>if b=p.bc then some (.cells cs e (0,0)) else F' b):=fun b o hb=>by
     simp only
     split
     ·rename_i gI;subst gI;rw[rm.2] at hb;cases hb
     ·exact hb
    have hG:Mem.le (fun b=>if b=p.bc then some (.cells cs e (0,0)) else none) (fun b=>if b=p.bc then some (.cells cs e (0,0)) else F' b):=fun b o hb=>by
     simp only at hb ⊢
     split at hb
     ·rename_i gI;rw[if_pos gI];exact hb
     ·cases hb
    refine⟨_,_,e1,l1.trans hle,fun b o hb=> ?_,fun b o hb=> ?_,hk,_,hG,fun b o hb=> ?_,ws,rfl,[v3'],Wh,e3,?_,Yf _⟩
    ·split at hb
     ·rename_i gI;subst gI;cases hb;exact g3
     ·exact f1 b o hb
    ·split at hb
     ·rename_i gI;subst gI;exact .inr ql
     ·exact aa7 b o hb
    ·split at hb
     ·rename_i gI;subst gI;exact ql
     ·cases hb
    ·rw[hvv]
     have g1:(fn x).1.1.length=p.len:=g1
     refine⟨some ⟨p.bc,0,none⟩,p.cap,by rw[g1],by rw[g1];exact g2,Vg,(fun h=>by cases h),fun q hq i y hy=> ?_⟩
     cases hq
     obtain⟨us,k1,k2,k3⟩:=g6 i y hy
     refine⟨rfl,us,dh.iu ht k1,k2,fun j z hz=>⟨cs,e,(0,0),if_pos rfl,?_⟩⟩
     rw[Nat.zero_add]
     exact k3 j z hz
end Go.Vc
end

section
set_option maxRecDepth 100000
namespace Go.Proofs
open Go.Vc
namespace YtjnappfomhkeeaaGreat
def b3:Go.Value:= .int .i64 (0)
def cC:Go.Value:= .slice none 0 0
def mI:Go.Value:= .bool false
abbrev ag:Ty:= .int .i64
def pU:Go.Value:= .pointer none
def ay:List TI:=[
 ⟨2,.int .i64,1,8,b3,some ag,false⟩,
⟨3,.int .i64,1,8,b3,some ag,false⟩,
⟨4,.bool,1,1,mI,some .bool,false⟩,
⟨5,(.int .u8),1,1,(.int .u8 (0)),some (.int .u8),false⟩,
⟨6,(.int .u8),1,1,(.int .u8 (0)),some (.int .u8),false⟩,
⟨7,(.struct [(0,1,2),(1,1,3),(2,1,4),(3,1,6)]),4,24,(.agg #[b3,b3,mI,(.int .u8 (0))]),some (.pair ag (.pair ag (.pair .bool (.int .u8)))),true⟩,
⟨8,(.struct [(0,1,2),(1,1,3),(2,1,4),(3,1,6)]),4,24,(.agg #[b3,b3,mI,(.int .u8 (0))]),some (.pair ag (.pair ag (.pair .bool (.int .u8)))),true⟩,
⟨9,.str,1,16,(.string ⟨⟨[]⟩⟩),some .str,false⟩,
⟨10,.str,1,16,(.string ⟨⟨[]⟩⟩),some .str,false⟩,
⟨11,.str,1,16,(.string ⟨⟨[]⟩⟩),some .str,false⟩,
⟨12,(.int .u64),1,8,(.int .u64 (0)),some (.int .u64),false⟩,
⟨13,(.struct [(0,1,9),(1,1,12)]),2,24,(.agg #[(.string ⟨⟨[]⟩⟩),(.int .u64 (0))]),some (.pair .str (.int .u64)),false⟩,
⟨14,(.struct [(0,1,9),(1,1,12)]),2,24,(.agg #[(.string ⟨⟨[]⟩⟩),(.int .u64 (0))]),some (.pair .str (.int .u64)),false⟩,
⟨15,.vM,1,8,pU,none,false⟩,
⟨16,.vM,1,8,pU,none,false⟩,
⟨17,.vM,1,8,pU,none,false⟩,
⟨18,(.struct [(0,1,17)]),1,8,(.agg #[pU]),none,false⟩,
⟨19,(.struct [(0,1,17)]),1,8,(.agg #[pU]),none,false⟩,
⟨21,(.int .i32),1,4,(.int .i32 (0)),some (.int .i32),false⟩,
⟨22,(.slice 81),1,24,cC,some (.list (.pair .str (.pair ag ag))),false⟩,
⟨23,(.slice 158),1,24,cC,some (.list (.pair (.pair ag ag) (.pair ag ag))),false⟩,
⟨24,(.slice 161),1,24,cC,some (.list (.pair .str (.pair (.pair ag ag) .bool))),false⟩,
⟨25,(.slice 174),1,24,cC,some (.list (.pair .str (.list ag))),false⟩,
⟨26,(.struct [(0,1,22),(1,1,23),(2,1,24),(3,1,25),(4,1,3),(5,1,3),(6,1,3),(7,1,3),(8,1,4)]),9,136,(.agg #[cC,cC,cC,cC,b3,b3,b3,b3,mI]),some (.pair (.list (.pair .str (.pair ag ag))) (.pair (.list (.pair (.pair ag ag) (.pair ag ag))) (.pair (.list (.pair .str (.pair (.pair ag ag) .bool))) (.pair (.list (.pair .str (.list ag))) (.pair ag (.pair ag (.pair ag (.pair ag .bool)))))))),true⟩,
⟨27,(.struct [(0,1,22),(1,1,23),(2,1,24),(3,1,25),(4,1,3),(5,1,3),(6,1,3),(7,1,3),(8,1,4)]),9,136,(.agg #[cC,cC,cC,cC,b3,b3,b3,b3,mI]),some (.pair (.list (.pair .str (.pair ag ag))) (.pair (.list (.pair (.pair ag ag) (.pair ag ag))) (.pair (.list (.pair .str (.pair (.pair ag ag) .bool))) (.pair (.list (.pair .str (.list ag))) (.pair ag (.pair ag (.pair ag (.pair ag .bool)))))))),true⟩,
⟨29,(.slice 49),1,24,cC,some (.list (.pair ag (.pair ag (.pair ag (.pair (.list (.pair ag (.pair ag ag))) (.pair (.list (.pair ag ag)) (.pair (.list (.pair ag ag)) (.pair (.list ag) (.pair (.list ag) .bool))))))))),false⟩,
⟨32,(.struct [(0,9,27),(9,1,29)]),10,160,(.agg #[cC,cC,cC,cC,b3,b3,b3,b3,mI,cC]),some (.pair (.pair (.list (.pair .str (.pair ag ag))) (.pair (.list (.pair (.pair ag ag) (.pair ag ag))) (.pair (.list (.pair .str (.pair (.pair ag ag) .bool))) (.pair (.list (.pair .str (.list ag))) (.pair ag (.pair ag (.pair ag (.pair ag .bool)))))))) (.list (.pair ag (.pair ag (.pair ag (.pair (.list (.pair ag (.pair ag ag))) (.pair (.list (.pair ag ag)) (.pair (.list (.pair ag ag)) (.pair (.list ag) (.pair (.list ag) .bool)))))))))),true⟩,
⟨33,(.struct [(0,9,27),(9,1,29)]),10,160,(.agg #[cC,cC,cC,cC,b3,b3,b3,b3,mI,cC]),some (.pair (.pair (.list (.pair .str (.pair ag ag))) (.pair (.list (.pair (.pair ag ag) (.pair ag ag))) (.pair (.list (.pair .str (.pair (.pair ag ag) .bool))) (.pair (.list (.pair .str (.list ag))) (.pair ag (.pair ag (.pair ag (.pair ag .bool)))))))) (.list (.pair ag (.pair ag (.pair ag (.pair (.list (.pair ag (.pair ag ag))) (.pair (.list (.pair ag ag)) (.pair (.list (.pair ag ag)) (.pair (.list ag) (.pair (.list ag) .bool)))))))))),true⟩,
⟨34,.vM,1,8,pU,none,false⟩,
⟨35,.int .i64,1,8,b3,some ag,false⟩,
⟨40,(.slice 73),1,24,cC,some (.list (.pair ag (.pair ag (.pair .bool (.list .bool))))),false⟩,
⟨42,(.slice 3),1,24,cC,some (.list ag),false⟩,
⟨44,.vM,1,8,pU,some (.ptr (.pair ag (.pair (.map ag (.list ag)) (.pair (.map ag (.list ag)) (.pair (.map ag (.list (.pair ag ag))) (.map ag (.list (.pair ag ag)))))))),false⟩,
⟨46,(.slice 76),1,24,cC,some (.list (.pair ag (.pair ag ag))),false⟩,
⟨47,(.slice 90),1,24,cC,some (.list (.pair ag ag)),false⟩,
⟨48,(.struct [(0,1,3),(1,1,3),(2,1,3),(3,1,46),(4,1,47),(5,1,47),(6,1,42),(7,1,42),(8,1,4)]),9,152,(.agg #[b3,b3,b3,cC,cC,cC,cC,cC,mI]),some (.pair ag (.pair ag (.pair ag (.pair (.list (.pair ag (.pair ag ag))) (.pair (.list (.pair ag ag)) (.pair (.list (.pair ag ag)) (.pair (.list ag) (.pair (.list ag) .bool)))))))),true⟩,
⟨49,(.struct [(0,1,3),(1,1,3),(2,1,3),(3,1,46),(4,1,47),(5,1,47),(6,1,42),(7,1,42),(8,1,4)]),9,152,(.agg #[b3,b3,b3,cC,cC,cC,cC,cC,mI]),some (.pair ag (.pair ag (.pair ag (.pair (.list (.pair ag (.pair ag ag))) (.pair (.list (.pair ag ag)) (.pair (.list (.pair ag ag)) (.pair (.list ag) (.pair (.list ag) .bool)))))))),true⟩,
⟨53,(.slice 70),1,24,cC,some (.list (.pair ag (.pair (.list .bool) (.pair (.list ag) (.pair (.list (.int .u8)) (.pair (.list ag) (.list ag))))))),false⟩,
⟨56,.vM,1,8,pU,some (.ptr (.pair (.pair (.pair (.list (.pair .str (.pair ag ag))) (.pair (.list (.pair (.pair ag ag) (.pair ag ag))) (.pair (.list (.pair .str (.pair (.pair ag ag) .bool))) (.pair (.list (.pair .str (.list ag))) (.pair ag (.pair ag (.pair ag (.pair ag .bool)))))))) (.list (.pair ag (.pair ag (.pair ag (.pair (.list (.pair ag (.pair ag ag))) (.pair (.list (.pair ag ag)) (.pair (.list (.pair ag ag)) (.pair (.list ag) (.pair (.list ag) .bool)))))))))) (.pair (.list (.pair ag (.pair ag (.pair .bool (.list .bool))))) (.pair (.ptr (.pair ag (.list (.pair ag (.pair (.list ag) (.pair (.list ag) (.pair (.list (.pair ag ag)) (.list (.pair ag ag))))))))) (.pair (.list ag) (.list ag)))))),false⟩,
⟨59,(.slice 35),1,24,cC,some (.list ag),false⟩,
⟨60,(.struct [(0,1,42),(1,1,42),(2,1,59)]),3,72,(.agg #[cC,cC,cC]),some (.pair (.list ag) (.pair (.list ag) (.list ag))),true⟩,
⟨61,(.struct [(0,1,42),(1,1,42),(2,1,59)]),3,72,(.agg #[cC,cC,cC]),some (.pair (.list ag) (.pair (.list ag) (.list ag))),true⟩,
⟨64,(.slice 4),1,24,cC,some (.list .bool),false⟩,
⟨65,(.struct [(0,1,64),(1,1,42),(2,1,64),(3,1,64)]),4,96,(.agg #[cC,cC,cC,cC]),some (.pair (.list .bool) (.pair (.list ag) (.pair (.list .bool) (.list .bool)))),true⟩,
⟨66,(.struct [(0,1,64),(1,1,42),(2,1,64),(3,1,64)]),4,96,(.agg #[cC,cC,cC,cC]),some (.pair (.list .bool) (.pair (.list ag) (.pair (.list .bool) (.list .bool)))),true⟩,
⟨68,(.slice 5),1,24,cC,some (.list (.int .u8)),false⟩,
⟨69,(.struct [(0,1,3),(1,1,64),(2,1,42),(3,1,68),(4,1,42),(5,1,42)]),6,128,(.agg #[b3,cC,cC,cC,cC,cC]),some (.pair ag (.pair (.list .bool) (.pair (.list ag) (.pair (.list (.int .u8)) (.pair (.list ag) (.list ag)))))),true⟩,
⟨70,(.struct [(0,1,3),(1,1,64),(2,1,42),(3,1,68),(4,1,42),(5,1,42)]),6,128,(.agg #[b3,cC,cC,cC,cC,cC]),some (.pair ag (.pair (.list .bool) (.pair (.list ag) (.pair (.list (.int .u8)) (.pair (.list ag) (.list ag)))))),true⟩,
⟨72,(.struct [(0,1,3),(1,1,3),(2,1,4),(3,1,64)]),4,48,(.agg #[b3,b3,mI,cC]),some (.pair ag (.pair ag (.pair .bool (.list .bool)))),true⟩,
⟨73,(.struct [(0,1,3),(1,1,3),(2,1,4),(3,1,64)]),4,48,(.agg #[b3,b3,mI,cC]),some (.pair ag (.pair ag (.pair .bool (.list .bool)))),true⟩,
⟨75,(.struct [(0,1,3),(1,1,3),(2,1,3)]),3,24,(.agg #[b3,b3,b3]),some (.pair ag (.pair ag ag)),true⟩,
⟨76,(.struct [(0,1,3),(1,1,3),(2,1,3)]),3,24,(.agg #[b3,b3,b3]),some (.pair ag (.pair ag ag)),true⟩,
⟨80,(.struct [(0,1,9),(1,1,3),(2,1,3)]),3,32,(.agg #[(.string ⟨⟨[]⟩⟩),b3,b3]),some (.pair .str (.pair ag ag)),true⟩,
⟨81,(.struct [(0,1,9),(1,1,3),(2,1,3)]),3,32,(.agg #[(.string ⟨⟨[]⟩⟩),b3,b3]),some (.pair .str (.pair ag ag)),true⟩,
⟨89,(.struct [(0,1,3),(1,1,3)]),2,16,(.agg #[b3,b3]),some (.pair ag ag),true⟩,
⟨90,(.struct [(0,1,3),(1,1,3)]),2,16,(.agg #[b3,b3]),some (.pair ag ag),true⟩,
⟨102,.vM,1,8,pU,some (.ptr (.pair (.pair (.list (.pair .str (.pair ag ag))) (.pair (.list (.pair (.pair ag ag) (.pair ag ag))) (.pair (.list (.pair .str (.pair (.pair ag ag) .bool))) (.pair (.list (.pair .str (.list ag))) (.pair ag (.pair ag (.pair ag (.pair ag .bool)))))))) (.pair (.map (.pair ag ag) (.pair ag ag)) (.pair (.map (.pair ag ag) ag) (.pair (.map ag (.pair ag ag)) (.map ag ag)))))),false⟩,
⟨107,.vM,1,8,pU,some (.ptr (.pair (.ptr (.pair (.pair (.list (.pair .str (.pair ag ag))) (.pair (.list (.pair (.pair ag ag) (.pair ag ag))) (.pair (.list (.pair .str (.pair (.pair ag ag) .bool))) (.pair (.list (.pair .str (.list ag))) (.pair ag (.pair ag (.pair ag (.pair ag .bool)))))))) (.pair (.map (.pair ag ag) (.pair ag ag)) (.pair (.map (.pair ag ag) ag) (.pair (.map ag (.pair ag ag)) (.map ag ag)))))) (.map (.pair ag ag) .bool))),false⟩,
⟨109,(.struct [(0,10,33),(10,1,40),(11,1,44),(12,1,107),(13,1,42)]),14,224,(.agg #[cC,cC,cC,cC,b3,b3,b3,b3,mI,cC,cC,pU,pU,cC]),none,true⟩,
⟨110,(.struct [(0,10,33),(10,1,40),(11,1,44),(12,1,107),(13,1,42)]),14,224,(.agg #[cC,cC,cC,cC,b3,b3,b3,b3,mI,cC,cC,pU,pU,cC]),none,true⟩,
⟨116,(.map 3 42),1,8,(.map none),some (.map ag (.list ag)),false⟩,
⟨117,(.map 3 47),1,8,(.map none),some (.map ag (.list (.pair ag ag))),false⟩,
⟨118,(.struct [(0,1,3),(1,1,116),(2,1,116),(3,1,117),(4,1,117)]),5,40,(.agg #[b3,(.map none),(.map none),(.map none),(.map none)]),some (.pair ag (.pair (.map ag (.list ag)) (.pair (.map ag (.list ag)) (.pair (.map ag (.list (.pair ag ag))) (.map ag (.list (.pair ag ag))))))),true⟩,
⟨119,(.struct [(0,1,3),(1,1,116),(2,1,116),(3,1,117),(4,1,117)]),5,40,(.agg #[b3,(.map none),(.map none),(.map none),(.map none)]),some (.pair ag (.pair (.map ag (.list ag)) (.pair (.map ag (.list ag)) (.pair (.map ag (.list (.pair ag ag))) (.map ag (.list (.pair ag ag))))))),true⟩,
⟨125,(.map 3 4),1,8,(.map none),some (.map ag .bool),false⟩,
⟨128,(.struct [(0,1,64),(1,1,4),(2,1,4),(3,1,4),(4,1,4),(5,1,4),(6,1,4)]),7,32,(.agg #[cC,mI,mI,mI,mI,mI,mI]),some (.pair (.list .bool) (.pair .bool (.pair .bool (.pair .bool (.pair .bool (.pair .bool .bool)))))),true⟩,
⟨129,(.struct [(0,1,64),(1,1,4),(2,1,4),(3,1,4),(4,1,4),(5,1,4),(6,1,4)]),7,32,(.agg #[cC,mI,mI,mI,mI,mI,mI]),some (.pair (.list .bool) (.pair .bool (.pair .bool (.pair .bool (.pair .bool (.pair .bool .bool)))))),true⟩,
⟨144,.vM,1,8,pU,some (.ptr (.pair ag (.list (.pair ag (.pair (.list ag) (.pair (.list ag) (.pair (.list (.pair ag ag)) (.list (.pair ag ag))))))))),false⟩,
⟨145,(.struct [(0,10,33),(10,1,40),(11,1,144),(12,1,42),(13,1,42)]),14,240,(.agg #[cC,cC,cC,cC,b3,b3,b3,b3,mI,cC,cC,pU,cC,cC]),some (.pair (.pair (.pair (.list (.pair .str (.pair ag ag))) (.pair (.list (.pair (.pair ag ag) (.pair ag ag))) (.pair (.list (.pair .str (.pair (.pair ag ag) .bool))) (.pair (.list (.pair .str (.list ag))) (.pair ag (.pair ag (.pair ag (.pair ag .bool)))))))) (.list (.pair ag (.pair ag (.pair ag (.pair (.list (.pair ag (.pair ag ag))) (.pair (.list (.pair ag ag)) (.pair (.list (.pair ag ag)) (.pair (.list ag) (.pair (.list ag) .bool)))))))))) (.pair (.list (.pair ag (.pair ag (.pair .bool (.list .bool))))) (.pair (.ptr (.pair ag (.list (.pair ag (.pair (.list ag) (.pair (.list ag) (.pair (.list (.pair ag ag)) (.list (.pair ag ag))))))))) (.pair (.list ag) (.list ag))))),true⟩,
⟨146,(.struct [(0,10,33),(10,1,40),(11,1,144),(12,1,42),(13,1,42)]),14,240,(.agg #[cC,cC,cC,cC,b3,b3,b3,b3,mI,cC,cC,pU,cC,cC]),some (.pair (.pair (.pair (.list (.pair .str (.pair ag ag))) (.pair (.list (.pair (.pair ag ag) (.pair ag ag))) (.pair (.list (.pair .str (.pair (.pair ag ag) .bool))) (.pair (.list (.pair .str (.list ag))) (.pair ag (.pair ag (.pair ag (.pair ag .bool)))))))) (.list (.pair ag (.pair ag (.pair ag (.pair (.list (.pair ag (.pair ag ag))) (.pair (.list (.pair ag ag)) (.pair (.list (.pair ag ag)) (.pair (.list ag) (.pair (.list ag) .bool)))))))))) (.pair (.list (.pair ag (.pair ag (.pair .bool (.list .bool))))) (.pair (.ptr (.pair ag (.list (.pair ag (.pair (.list ag) (.pair (.list ag) (.pair (.list (.pair ag ag)) (.list (.pair ag ag))))))))) (.pair (.list ag) (.list ag))))),true⟩,
⟨155,(.struct [(0,1,3),(1,1,3)]),2,16,(.agg #[b3,b3]),some (.pair ag ag),true⟩,
⟨156,(.struct [(0,1,3),(1,1,3)]),2,16,(.agg #[b3,b3]),some (.pair ag ag),true⟩,
⟨157,(.struct [(0,2,156),(2,2,156)]),4,32,(.agg #[b3,b3,b3,b3]),some (.pair (.pair ag ag) (.pair ag ag)),true⟩,
⟨158,(.struct [(0,2,156),(2,2,156)]),4,32,(.agg #[b3,b3,b3,b3]),some (.pair (.pair ag ag) (.pair ag ag)),true⟩,
⟨160,(.struct [(0,1,9),(1,2,156),(3,1,4)]),4,40,(.agg #[(.string ⟨⟨[]⟩⟩),b3,b3,mI]),some (.pair .str (.pair (.pair ag ag) .bool)),true⟩,
⟨161,(.struct [(0,1,9),(1,2,156),(3,1,4)]),4,40,(.agg #[(.string ⟨⟨[]⟩⟩),b3,b3,mI]),some (.pair .str (.pair (.pair ag ag) .bool)),true⟩,
⟨167,(.map 156 156),1,8,(.map none),some (.map (.pair ag ag) (.pair ag ag)),false⟩,
⟨168,(.map 156 3),1,8,(.map none),some (.map (.pair ag ag) ag),false⟩,
⟨169,(.map 3 176),1,8,(.map none),some (.map ag (.pair ag ag)),false⟩,
⟨170,(.map 3 3),1,8,(.map none),some (.map ag ag),false⟩,
⟨171,(.struct [(0,9,27),(9,1,167),(10,1,168),(11,1,169),(12,1,170)]),13,168,(.agg #[cC,cC,cC,cC,b3,b3,b3,b3,mI,(.map none),(.map none),(.map none),(.map none)]),some (.pair (.pair (.list (.pair .str (.pair ag ag))) (.pair (.list (.pair (.pair ag ag) (.pair ag ag))) (.pair (.list (.pair .str (.pair (.pair ag ag) .bool))) (.pair (.list (.pair .str (.list ag))) (.pair ag (.pair ag (.pair ag (.pair ag .bool)))))))) (.pair (.map (.pair ag ag) (.pair ag ag)) (.pair (.map (.pair ag ag) ag) (.pair (.map ag (.pair ag ag)) (.map ag ag))))),true⟩,
⟨172,(.struct [(0,9,27),(9,1,167),(10,1,168),(11,1,169),(12,1,170)]),13,168,(.agg #[cC,cC,cC,cC,b3,b3,b3,b3,mI,(.map none),(.map none),(.map none),(.map none)]),some (.pair (.pair (.list (.pair .str (.pair ag ag))) (.pair (.list (.pair (.pair ag ag) (.pair ag ag))) (.pair (.list (.pair .str (.pair (.pair ag ag) .bool))) (.pair (.list (.pair .str (.list ag))) (.pair ag (.pair ag (.pair ag (.pair ag .bool)))))))) (.pair (.map (.pair ag ag) (.pair ag ag)) (.pair (.map (.pair ag ag) ag) (.pair (.map ag (.pair ag ag)) (.map ag ag))))),true⟩,
⟨173,(.struct [(0,1,9),(1,1,42)]),2,40,(.agg #[(.string ⟨⟨[]⟩⟩),cC]),some (.pair .str (.list ag)),true⟩,
⟨174,(.struct [(0,1,9),(1,1,42)]),2,40,(.agg #[(.string ⟨⟨[]⟩⟩),cC]),some (.pair .str (.list ag)),true⟩,
⟨176,(.array 2 3),2,16,(.agg #[b3,b3]),some (.pair ag ag),false⟩,
⟨177,(.map 195 4),1,8,(.map none),some (.map (.pair ag ag) .bool),false⟩,
⟨178,(.struct [(0,1,102),(1,1,177)]),2,16,(.agg #[pU,(.map none)]),some (.pair (.ptr (.pair (.pair (.list (.pair .str (.pair ag ag))) (.pair (.list (.pair (.pair ag ag) (.pair ag ag))) (.pair (.list (.pair .str (.pair (.pair ag ag) .bool))) (.pair (.list (.pair .str (.list ag))) (.pair ag (.pair ag (.pair ag (.pair ag .bool)))))))) (.pair (.map (.pair ag ag) (.pair ag ag)) (.pair (.map (.pair ag ag) ag) (.pair (.map ag (.pair ag ag)) (.map ag ag)))))) (.map (.pair ag ag) .bool)),true⟩,
⟨179,(.struct [(0,1,102),(1,1,177)]),2,16,(.agg #[pU,(.map none)]),some (.pair (.ptr (.pair (.pair (.list (.pair .str (.pair ag ag))) (.pair (.list (.pair (.pair ag ag) (.pair ag ag))) (.pair (.list (.pair .str (.pair (.pair ag ag) .bool))) (.pair (.list (.pair .str (.list ag))) (.pair ag (.pair ag (.pair ag (.pair ag .bool)))))))) (.pair (.map (.pair ag ag) (.pair ag ag)) (.pair (.map (.pair ag ag) ag) (.pair (.map ag (.pair ag ag)) (.map ag ag)))))) (.map (.pair ag ag) .bool)),true⟩,
⟨184,(.int .u64),1,8,(.int .u64 (0)),some (.int .u64),false⟩,
⟨192,(.slice 195),1,24,cC,some (.list (.pair ag ag)),false⟩,
⟨194,(.struct [(0,1,3),(1,1,3)]),2,16,(.agg #[b3,b3]),some (.pair ag ag),true⟩,
⟨195,(.struct [(0,1,3),(1,1,3)]),2,16,(.agg #[b3,b3]),some (.pair ag ag),true⟩,
⟨196,(.array 24 3),24,192,(.agg #[b3,b3,b3,b3,b3,b3,b3,b3,b3,b3,b3,b3,b3,b3,b3,b3,b3,b3,b3,b3,b3,b3,b3,b3]),none,false⟩,
⟨197,(.array 24 3),24,192,(.agg #[b3,b3,b3,b3,b3,b3,b3,b3,b3,b3,b3,b3,b3,b3,b3,b3,b3,b3,b3,b3,b3,b3,b3,b3]),none,false⟩,
⟨203,(.struct [(0,1,64),(1,1,4),(2,1,4),(3,1,4),(4,1,4),(5,1,4),(6,1,4)]),7,32,(.agg #[cC,mI,mI,mI,mI,mI,mI]),some (.pair (.list .bool) (.pair .bool (.pair .bool (.pair .bool (.pair .bool (.pair .bool .bool)))))),true⟩,
⟨208,(.struct [(0,1,3),(1,1,42),(2,1,42),(3,1,47),(4,1,47)]),5,104,(.agg #[b3,cC,cC,cC,cC]),some (.pair ag (.pair (.list ag) (.pair (.list ag) (.pair (.list (.pair ag ag)) (.list (.pair ag ag)))))),true⟩,
⟨209,(.struct [(0,1,3),(1,1,42),(2,1,42),(3,1,47),(4,1,47)]),5,104,(.agg #[b3,cC,cC,cC,cC]),some (.pair ag (.pair (.list ag) (.pair (.list ag) (.pair (.list (.pair ag ag)) (.list (.pair ag ag)))))),true⟩,
⟨211,(.slice 209),1,24,cC,some (.list (.pair ag (.pair (.list ag) (.pair (.list ag) (.pair (.list (.pair ag ag)) (.list (.pair ag ag))))))),false⟩,
⟨212,(.struct [(0,1,3),(1,1,211)]),2,32,(.agg #[b3,cC]),some (.pair ag (.list (.pair ag (.pair (.list ag) (.pair (.list ag) (.pair (.list (.pair ag ag)) (.list (.pair ag ag)))))))),true⟩,
⟨213,(.struct [(0,1,3),(1,1,211)]),2,32,(.agg #[b3,cC]),some (.pair ag (.list (.pair ag (.pair (.list ag) (.pair (.list ag) (.pair (.list (.pair ag ag)) (.list (.pair ag ag)))))))),true⟩,
⟨214,(.slice 216),1,24,cC,some (.list (.pair ag ag)),false⟩,
⟨216,(.struct [(0,1,3),(1,1,3)]),2,16,(.agg #[b3,b3]),some (.pair ag ag),true⟩,
⟨220,(.map 156 4),1,8,(.map none),some (.map (.pair ag ag) .bool),false⟩,
⟨221,(.slice 156),1,24,cC,some (.list (.pair ag ag)),false⟩,
⟨228,.vM,1,8,pU,some (.ptr (.pair ag (.pair ag (.pair ag (.pair (.list (.pair ag (.pair ag ag))) (.pair (.list (.pair ag ag)) (.pair (.list (.pair ag ag)) (.pair (.list ag) (.pair (.list ag) .bool))))))))),false⟩,
⟨232,(.slice 9),1,24,cC,some (.list .str),false⟩,
⟨237,.vM,1,8,pU,some (.ptr (.pair (.pair (.list (.pair .str (.pair ag ag))) (.pair (.list (.pair (.pair ag ag) (.pair ag ag))) (.pair (.list (.pair .str (.pair (.pair ag ag) .bool))) (.pair (.list (.pair .str (.list ag))) (.pair ag (.pair ag (.pair ag (.pair ag .bool)))))))) (.pair (.pair ag (.pair ag (.pair ag (.pair (.list (.pair ag (.pair ag ag))) (.pair (.list (.pair ag ag)) (.pair (.list (.pair ag ag)) (.pair (.list ag) (.pair (.list ag) .bool)))))))) (.list (.pair ag ag))))),false⟩,
⟨238,(.struct [(0,9,27),(9,9,49),(18,1,221)]),19,312,(.agg #[cC,cC,cC,cC,b3,b3,b3,b3,mI,b3,b3,b3,cC,cC,cC,cC,cC,mI,cC]),some (.pair (.pair (.list (.pair .str (.pair ag ag))) (.pair (.list (.pair (.pair ag ag) (.pair ag ag))) (.pair (.list (.pair .str (.pair (.pair ag ag) .bool))) (.pair (.list (.pair .str (.list ag))) (.pair ag (.pair ag (.pair ag (.pair ag .bool)))))))) (.pair (.pair ag (.pair ag (.pair ag (.pair (.list (.pair ag (.pair ag ag))) (.pair (.list (.pair ag ag)) (.pair (.list (.pair ag ag)) (.pair (.list ag) (.pair (.list ag) .bool)))))))) (.list (.pair ag ag)))),true⟩,
⟨239,(.struct [(0,9,27),(9,9,49),(18,1,221)]),19,312,(.agg #[cC,cC,cC,cC,b3,b3,b3,b3,mI,b3,b3,b3,cC,cC,cC,cC,cC,mI,cC]),some (.pair (.pair (.list (.pair .str (.pair ag ag))) (.pair (.list (.pair (.pair ag ag) (.pair ag ag))) (.pair (.list (.pair .str (.pair (.pair ag ag) .bool))) (.pair (.list (.pair .str (.list ag))) (.pair ag (.pair ag (.pair ag (.pair ag .bool)))))))) (.pair (.pair ag (.pair ag (.pair ag (.pair (.list (.pair ag (.pair ag ag))) (.pair (.list (.pair ag ag)) (.pair (.list (.pair ag ag)) (.pair (.list ag) (.pair (.list ag) .bool)))))))) (.list (.pair ag ag)))),true⟩,
⟨257,.int .i64,1,8,b3,some ag,false⟩,
⟨264,(.int .u32),1,4,(.int .u32 (0)),some (.int .u32),false⟩,
⟨266,(.int .u64),1,8,(.int .u64 (0)),some (.int .u64),false⟩,
⟨269,(.slice 47),1,24,cC,some (.list (.list (.pair ag ag))),false⟩,
⟨283,.vM,1,8,pU,some (.ptr (.pair ag (.pair (.list (.pair ag (.pair ag ag))) (.pair (.list ag) (.list (.list (.pair ag ag))))))),false⟩,
⟨284,(.slice 289),1,24,cC,some (.list (.list (.pair ag ag))),false⟩,
⟨285,(.struct [(0,1,3),(1,1,46),(2,1,42),(3,1,284)]),4,80,(.agg #[b3,cC,cC,cC]),some (.pair ag (.pair (.list (.pair ag (.pair ag ag))) (.pair (.list ag) (.list (.list (.pair ag ag)))))),true⟩,
⟨286,(.struct [(0,1,3),(1,1,46),(2,1,42),(3,1,284)]),4,80,(.agg #[b3,cC,cC,cC]),some (.pair ag (.pair (.list (.pair ag (.pair ag ag))) (.pair (.list ag) (.list (.list (.pair ag ag)))))),true⟩,
⟨289,(.slice 291),1,24,cC,some (.list (.pair ag ag)),false⟩,
⟨290,(.struct [(0,1,3),(1,1,3)]),2,16,(.agg #[b3,b3]),some (.pair ag ag),true⟩,
⟨291,(.struct [(0,1,3),(1,1,3)]),2,16,(.agg #[b3,b3]),some (.pair ag ag),true⟩,
⟨302,(.map 9 4),1,8,(.map none),some (.map .str .bool),false⟩,
⟨304,(.int .u64),1,8,(.int .u64 (0)),some (.int .u64),false⟩,
⟨308,.vM,1,8,pU,some (.ptr ag),false⟩,
⟨322,.vM,1,8,pU,some (.ptr (.int .u64)),false⟩,
⟨329,(.array 4 3),4,32,(.agg #[b3,b3,b3,b3]),some (.pair ag (.pair ag (.pair ag ag))),false⟩,
⟨330,(.array 3 3),3,24,(.agg #[b3,b3,b3]),some (.pair ag (.pair ag ag)),false⟩,
⟨335,(.struct [(0,1,17),(1,1,17),(2,1,17),(3,1,9)]),4,40,(.agg #[pU,pU,pU,(.string ⟨⟨[]⟩⟩)]),none,false⟩,
⟨336,(.struct [(0,1,17),(1,1,17),(2,1,17),(3,1,9)]),4,40,(.agg #[pU,pU,pU,(.string ⟨⟨[]⟩⟩)]),none,false⟩,
⟨337,(.array 0 16),0,0,(.agg #[]),none,false⟩,
⟨338,(.struct [(0,0,337)]),0,0,(.agg #[]),none,false⟩,
⟨339,(.struct [(0,0,337)]),0,0,(.agg #[]),none,false⟩,
⟨340,(.int .u8),1,1,(.int .u8 (0)),some (.int .u8),false⟩,
⟨341,(.int .u8),1,1,(.int .u8 (0)),some (.int .u8),false⟩,
⟨343,.vM,1,8,pU,some (.ptr (.int .u8)),false⟩,
⟨344,(.int .i32),1,4,(.int .i32 (0)),some (.int .i32),false⟩,
⟨345,(.int .i32),1,4,(.int .i32 (0)),some (.int .i32),false⟩]
theorem aH:dt Tryz.prog ay where
 Wu:=by kernel_rfl
 infos:=by kernel_rfl
 eqs:=by kernel_rfl
 mixed:=by kernel_rfl
end YtjnappfomhkeeaaGreat
end Go.Proofs
end

section
set_option maxRecDepth 100000
set_option linter.unusedVariables false
set_option linter.unusedSimpArgs false
set_option maxHeartbeats 2000000
namespace Go.Proofs
open Go Go.Vc
namespace YtjnappfomhkeeaaGreat
abbrev I:=Ty.int .i64
abbrev B5:Ty:= .pair .str (.pair I I)
abbrev aL:Ty:= .pair I I
abbrev B4:Ty:= .pair aL aL
abbrev wW:Ty:= .pair .str (.pair aL .bool)
abbrev xP:Ty:= .pair .str (.list I)
abbrev PlanT:Ty:= .pair (.list B5) (.pair (.list B4) (.pair (.list wW) (.pair (.list xP) (.pair I (.pair I (.pair I (.pair I .bool)))))))
abbrev F0:Ty:= .pair I I
abbrev nS:=List UInt8
abbrev mq:=nS×Int×Int
abbrev ak:=Int×Int
abbrev nf:=ak×ak
abbrev gw:=nS×ak×Bool
abbrev ll:=nS×List Int
abbrev ab:=List mq×List nf×List gw×List ll×Int×Int×Int×Int×Bool
def zE:mq:=([],0,0)
def zP:ak:=(0,0)
def zJ:nf:=((0,0),(0,0))
def zS:gw:=([],(0,0),false)
def zL:ll:=([],[])
def db (p:Nat→Bool):Nat→Bool
 |0=>true
 |k+1=>db p k&&p k
def cd (p:Nat→Bool):Nat→Bool
 |0=>false
 |k+1=>cd p k||p k
def gA (p:Nat→Bool) (n:Nat):Option Nat:=(List.range n).find? p
def vR (o:Option Nat):Int:=match o with |some i=>(i:Int)|none=> -1
def rh (lo hi n:Int):Bool:=decide (lo≤n)&&decide (n≤hi)
@[irreducible] def cO (k:Int):Int:=bif k==1 then 2 else bif k==2 then 3 else bif k==3 then 4 else bif k==4 then 1 else 0
@[irreducible] def aI (p:ab) (e:Int):Int:=bif decide (e<0)||decide ((p.1.length:Int)≤e) then 0 else(p.1.getD e.toNat zE).2.1
@[irreducible] def qY (p:ab) (e:Int):Int:=bif decide (e<0)||decide ((p.1.length:Int)≤e) then 0 else(p.1.getD e.toNat zE).2.2
@[irreducible] def dx (p:ab) (x:ak):Bool:=decide (0≤x.1)&&(decide (x.1<(p.1.length:Int))&&(decide (0≤x.2)&&decide (x.2<cO (aI p x.1))))
def xp (o:Option nf) (x:ak):ak×Bool:=match o with
 |some j=>(bif j.1==x then j.2 else j.1,true)
 |none=>((0,0),false)
@[irreducible] def bu (p:ab) (x:ak):ak×Bool:=xp (p.2.1.find? fun j=>j.1==x||j.2==x) x
@[irreducible] def b8 (p:ab) (x:ak):Int:=vR (gA (fun i=>(p.2.2.1.getD i zS).2.1==x) p.2.2.1.length)
@[irreducible] def bG (l:List Int) (n:Int):Bool:=l.any fun y=>y==n
def j5 (v b:Int):Nat→Int
 |0=>0
 |k+1=>j5 v b k+(v - b*((k:Int)+1))
def qv (v b:Int):Nat:=(gA (fun k=>decide (v - b*((k:Int)+1)≤0)) 100).getD 0
@[irreducible] def mY (v b:Int):Int:=bif rh 0 60 v&&rh 1 10 b then j5 v b (qv v b) else 0
def uR (c:UInt8):Bool:=(decide (97≤c.toNat)&&decide (c.toNat≤122))||(decide (65≤c.toNat)&&decide (c.toNat≤90))
def Nt (c:UInt8):Bool:=decide (48≤c.toNat)&&decide (c.toNat≤57)
def jm (s:nS) (i:Nat):Bool:=uR (s.getD i 0)||(!(i==0)&&Nt (s.getD i 0))
@[irreducible] def kq (s:nS):Bool:=db (jm s) s.length&&(decide (1≤s.length)&&decide (s.length≤8))
@[irreducible] def lB (p:ab) (s:Int):ak×Bool:=bif decide (s<0)||decide ((p.2.2.1.length:Int)≤s) then((0,0),false) else((p.2.2.1.getD s.toNat zS).2.1,true)
def tk (i:Int):Int:=bif i==0 then 1 else bif i==1 then 0 else bif i==2 then 3 else 2
@[irreducible] def bF (p:ab) (e i:Int):List (Int×Int):=
 bif !dx p (e,i) then[] else bif aI p e==1 then[(1 - i,0)] else bif aI p e==3 then[(tk i,0)] else bif aI p e==2 then(bif i==0 then[(1,1),(2,2)] else[(0,i)]) else[]
def GV (o:Option (Int×Int)):Int×Bool:=match o with
 |some w=>(w.1,true)
 |none=>(0,false)
@[irreducible] def cw (p:ab) (e i pos:Int):Int×Bool:=GV ((bF p e i).find? fun w=>w.2==0||w.2==pos)
def FD (o:Option Nat):Int×Bool:=match o with
 |some i=>((i:Int),true)
 |none=>(0,false)
@[irreducible] def mi (p:ab) (e out pos:Int):Int×Bool:=FD (gA (fun i=>(cw p e (i:Int) pos).2&&(cw p e (i:Int) pos).1==out) (cO (aI p e)).toNat)
@[irreducible] def dR (l:List nS):Bool:=cd (fun i=>cd (fun k=>l.getD i []==l.getD k []) i) l.length
@[irreducible] def gB (e:mq):Bool:=kq e.1&&(!(cO e.2.1==0)&&(bif e.2.1==4 then e.2.2==0 else rh 1 4000 e.2.2))
@[irreducible] def oH (p:ab):Bool:=rh 1 60 p.2.2.2.2.1&&(rh 1 10 p.2.2.2.2.2.1&&(rh 1 4000 p.2.2.2.2.2.2.1&&(rh 1 20 p.2.2.2.2.2.2.2.1&& !decide (p.1.length=0))))
@[irreducible] def fArgs (p:ab):Bool:=oH p&&(p.1.all gB&&((p.2.2.1.all fun s=>kq s.1)&&p.2.2.2.1.all fun l=>kq l.1))
def bT (p:ab):List ak:=p.2.1.flatMap fun j=>[j.1,j.2]
def kM (p:ab) (i:Nat):Bool:=dx p ((bT p).getD i zP)&& !cd (fun k=>(bT p).getD k zP==(bT p).getD i zP) i
def ka (p:ab) (i:Nat):Bool:=bif(p.1.getD i zE).2.1==4 then(bu p ((i:Int),0)).2&& !(aI p (bu p ((i:Int),0)).1.1==4) else true
@[irreducible] def bR (p:ab):Bool:=db (kM p) (bT p).length&&db (ka p) p.1.length
def Cj (p:ab) (x:ak) (i:Int):Bool:=dx p x&&((aI p x.1==1||aI p x.1==4)&&((bu p x).2&&(!(aI p (bu p x).1.1==4)&&b8 p x==i)))
def kX (p:ab) (i:Nat):Bool:=Cj p (p.2.2.1.getD i zS).2.1 (i:Int)
def jT (p:ab) (i:Nat):Bool:=bif(p.1.getD i zE).2.1==4 then decide (0≤b8 p ((i:Int),0)) else true
@[irreducible] def dm (p:ab):Bool:=db (kX p) p.2.2.1.length&&db (jT p) p.1.length
def qH (p:ab) (l:List Int) (e:Int):Bool:=(bu p (l.getD 0 0,e)).2&&(bu p (l.getD 0 0,e)).1.1==l.getD 1 0
def fJ (p:ab) (l:List Int):Int:=bif qH p l 0 then 0 else bif qH p l 1 then 1 else -1
def n9 (p:ab) (l:List Int) (k:Nat) (out:Int):ak×Bool:=bu p (l.getD k 0,out)
def ed (p:ab) (l:List Int) (out:Int):Nat→List Int×Int×Bool
 |0=>([1 - out],out,true)
 |k+1=>bif(ed p l out k).2.2&&((n9 p l k (ed p l out k).2.1).2&&(n9 p l k (ed p l out k).2.1).1.1==l.getD (k+1) 0) then
   ((ed p l out k).1++[(n9 p l k (ed p l out k).2.1).1.2],1 - (n9 p l k (ed p l out k).2.1).1.2,true)
  else((ed p l out k).1,(ed p l out k).2.1,false)
@[irreducible] def eB (p:ab) (l:List Int):List Int×Bool:=
 bif decide (l.length=0)|| !l.all (fun e=>aI p e==1) then([],false) else bif decide (l.length=1) then([0],true) else bif decide (fJ p l<0) then([],false) else
  bif(ed p l (fJ p l) (l.length - 1)).2.2 then((ed p l (fJ p l) (l.length - 1)).1,true) else([],false)
def kJ (p:ab) (i:Nat):List Int:=(p.2.2.2.1.take i).flatMap fun l=>l.2
def lR (p:ab) (i k:Nat):Bool:= !bG (kJ p i++(p.2.2.2.1.getD i zL).2.take k) ((p.2.2.2.1.getD i zL).2.getD k 0)
def jd (p:ab) (i:Nat):Bool:=db (lR p i) (p.2.2.2.1.getD i zL).2.length&&(eB p (p.2.2.2.1.getD i zL).2).2
@[irreducible] def fK (p:ab):Bool:=db (jd p) p.2.2.2.1.length
def jM (p:ab) (s:gw):Bool:= !(aI p s.2.1.1==1&&decide (qY p s.2.1.1<p.2.2.2.2.2.2.1))
def ij (p:ab) (e:mq):Bool:= !(!(e.2.1==4)&&decide (e.2.2<p.2.2.2.2.1))
@[irreducible] def lh (p:ab):Bool:= !decide (p.2.2.2.2.2.2.1<p.2.2.2.2.1+mY p.2.2.2.2.1 p.2.2.2.2.2.1)&&(p.2.2.1.all (jM p)&&p.1.all (ij p))
@[irreducible] def lq (p:ab):Bool:=decide (p.1.length≤40)&&(decide (p.2.2.1.length≤24)&&(decide (p.2.2.2.1.length≤4)&&decide (p.2.1.length≤80)))
@[irreducible] def bV (p:ab):Int:=
 bif !lq p then 3 else bif !fArgs p then 1 else bif dR (p.1.map fun e=>e.1)||(dR (p.2.2.1.map fun s=>s.1)||dR (p.2.2.2.1.map fun l=>l.1)) then 4 else
 bif !bR p then 6 else bif !dm p then 7 else bif !fK p then 8 else bif !lh p then 9 else 0
@[irreducible] def sw (p:ab):Bool:=decide (p.1.length≤60)&&(decide (p.2.1.length≤120)&&(decide (p.2.2.1.length≤60)&&(decide (p.2.2.2.1.length≤20)&&
 ((p.2.2.2.1.all fun l=>decide (l.2.length≤60)&&decide (l.1.length≤100))&&((p.1.all fun e=>decide (e.1.length≤100))&&p.2.2.1.all fun s=>decide (s.1.length≤100))))))
@[irreducible] def oI (p:ab):Bool:=sw p&&bV p==0
def cS (p:ab):Prop:=∀l∈p.2.2.2.1,l.2.length≤1000
def aE {A B C D E F G H J:Type} (p:A×B×C×D×E×F×G×H×J) (R:Prop):Prop:=
 p.fst=p.fst∧p.snd.fst=p.snd.fst∧p.snd.snd.fst=p.snd.snd.fst∧p.snd.snd.snd.fst=p.snd.snd.snd.fst∧p.snd.snd.snd.snd.fst=p.snd.snd.snd.snd.fst∧p.snd.snd.snd.snd.snd.fst=p.snd.snd.snd.snd.snd.fst∧
 p.snd.snd.snd.snd.snd.snd.fst=p.snd.snd.snd.snd.snd.snd.fst∧p.snd.snd.snd.snd.snd.snd.snd.fst=p.snd.snd.snd.snd.snd.snd.snd.fst∧p.snd.snd.snd.snd.snd.snd.snd.snd=p.snd.snd.snd.snd.snd.snd.snd.snd∧R
theorem dz {A B C D E F G H J:Type} (p:A×B×C×D×E×F×G×H×J) (R:Prop):aE p R=R:=by
 unfold aE
 simp only[true_and]
def VX:bh where
 args:=[.list I,.list I]
 out:= .data [.bool]
 pre:=fun(x:List Int×List Int×Unit)=>True
 fn:=fun(x:List Int×List Int×Unit)=>(x.1==x.2.1,())
def TR:bh where
 args:=[I,I,I,I]
 out:= .data [B4]
 pre:=fun(x:Int×Int×Int×Int×Unit)=>True
 fn:=fun(x:Int×Int×Int×Int×Unit)=>(((x.1,x.2.1),(x.2.2.1,x.2.2.2.1)),())
def P5:bh where
 args:=[I,I,I]
 out:= .data [.bool]
 pre:=fun(x:Int×Int×Int×Unit)=>True
 fn:=fun(x:Int×Int×Int×Unit)=>(rh x.2.1 x.2.2.1 x.1,())
def KX:bh where
 args:=[.str]
 out:= .data [.bool]
 pre:=fun(x:nS×Unit)=>True
 fn:=fun(x:nS×Unit)=>(kq x.1,())
def A3:bh where
 args:=[I]
 out:= .data [I]
 pre:=fun(x:Int×Unit)=>True
 fn:=fun(x:Int×Unit)=>(cO x.1,())
def A4:bh where
 args:=[PlanT,aL]
 out:= .data [.bool]
 pre:=fun(x:ab×ak×Unit)=>True
 fn:=fun(x:ab×ak×Unit)=>(dx x.1 x.2.1,())
def oj:bh where
 args:=[PlanT,aL]
 out:= .data [aL,.bool]
 pre:=fun(x:ab×ak×Unit)=>True
 fn:=fun(x:ab×ak×Unit)=>((bu x.1 x.2.1).1,(bu x.1 x.2.1).2,())
def pg:bh where
 args:=[PlanT,I]
 out:= .data [I]
 pre:=fun(x:ab×Int×Unit)=>True
 fn:=fun(x:ab×Int×Unit)=>(aI x.1 x.2.1,())
def ya:bh:=pg
def x9:bh where
 args:=[PlanT,aL]
 out:= .data [I]
 pre:=fun(x:ab×ak×Unit)=>True
 fn:=fun(x:ab×ak×Unit)=>(b8 x.1 x.2.1,())
def wR:bh where
 args:=[.list I,I]
 out:= .data [.bool]
 pre:=fun(x:List Int×Int×Unit)=>True
 fn:=fun(x:List Int×Int×Unit)=>(bG x.1 x.2.1,())
def KW:bh where
 args:=[I,I]
 out:= .data [I]
 pre:=fun(x:Int×Int×Unit)=>True
 fn:=fun(x:Int×Int×Unit)=>(mY x.1 x.2.1,())
def P4:bh where
 args:=[PlanT,I]
 out:= .data [I]
 pre:=fun(x:ab×Int×Unit)=>True
 fn:=fun(x:ab×Int×Unit)=>(qY x.1 x.2.1,())
def TF:bh where
 args:=[PlanT,I]
 out:= .data [aL,.bool]
 pre:=fun(x:ab×Int×Unit)=>True
 fn:=fun(x:ab×Int×Unit)=>((lB x.1 x.2.1).1,(lB x.1 x.2.1).2,())
def FT:bh where
 args:=[PlanT,I,I]
 out:= .data [.list F0]
 pre:=fun(x:ab×Int×Int×Unit)=>True
 fn:=fun(x:ab×Int×Int×Unit)=>(bF x.1 x.2.1 x.2.2.1,())
def KK:bh where
 args:=[PlanT,I,I,I]
 out:= .data [I,.bool]
 pre:=fun(x:ab×Int×Int×Int×Unit)=>True
 fn:=fun(x:ab×Int×Int×Int×Unit)=>((cw x.1 x.2.1 x.2.2.1 x.2.2.2.1).1,(cw x.1 x.2.1 x.2.2.1 x.2.2.2.1).2,())
def KO:bh where
 args:=[PlanT,I,I,I]
 out:= .data [I,.bool]
 pre:=fun(x:ab×Int×Int×Int×Unit)=>True
 fn:=fun(x:ab×Int×Int×Int×Unit)=>((mi x.1 x.2.1 x.2.2.1 x.2.2.2.1).1,(mi x.1 x.2.1 x.2.2.1 x.2.2.2.1).2,())
def Lw:bh where
 args:=[.list .str]
 out:= .data [.bool]
 pre:=fun(x:List nS×Unit)=>True
 fn:=fun(x:List nS×Unit)=>(dR x.1,())
def D9 (p:ab):Prop:=p.1.length≤1000∧p.2.2.1.length≤1000∧p.2.2.2.1.length≤1000
def Ly:bh where
 args:=[PlanT]
 out:= .data [.list .str,.list .str,.list .str]
 pre:=fun(x:ab×Unit)=>D9 x.1
 fn:=fun(x:ab×Unit)=>(x.1.1.map (fun e=>e.1),x.1.2.2.1.map (fun s=>s.1),x.1.2.2.2.1.map (fun l=>l.1),())
def Lx:bh where
 args:=[PlanT]
 out:= .data [.bool]
 pre:=fun(x:ab×Unit)=>True
 fn:=fun(x:ab×Unit)=>(fArgs x.1,())
def Lv:bh where
 args:=[PlanT]
 out:= .data [.bool]
 pre:=fun(x:ab×Unit)=>x.1.2.1.length≤1000
 fn:=fun(x:ab×Unit)=>(bR x.1,())
def Lu:bh where
 args:=[PlanT]
 out:= .data [.bool]
 pre:=fun(x:ab×Unit)=>True
 fn:=fun(x:ab×Unit)=>(dm x.1,())
def K6:bh where
 args:=[PlanT,.list I]
 out:= .data [.list I,.bool]
 pre:=fun(x:ab×List Int×Unit)=>bR x.1=true∧x.2.1.length≤1000
 fn:=fun(x:ab×List Int×Unit)=>((eB x.1 x.2.1).1,(eB x.1 x.2.1).2,())
def Lt:bh where
 args:=[PlanT]
 out:= .data [.bool]
 pre:=fun(x:ab×Unit)=>bR x.1=true∧cS x.1∧x.1.2.2.2.1.length≤1000
 fn:=fun(x:ab×Unit)=>(fK x.1,())
def Ls:bh where
 args:=[PlanT]
 out:= .data [.bool]
 pre:=fun(x:ab×Unit)=>oH x.1=true
 fn:=fun(x:ab×Unit)=>(lh x.1,())
def FV:bh where
 args:=[PlanT]
 out:= .data [I]
 pre:=fun(x:ab×Unit)=>cS x.1
 fn:=fun(x:ab×Unit)=>(bV x.1,())
def Qb:bh where
 args:=[PlanT]
 out:= .data [.bool]
 pre:=fun(x:ab×Unit)=>True
 fn:=fun(x:ab×Unit)=>(sw x.1,())
def c47:bh where
 args:=[PlanT]
 out:= .data [.bool]
 pre:=fun(x:ab×Unit)=>True
 fn:=fun(x:ab×Unit)=>(oI x.1,())
def dE (n:Nat) (ok:Nat→Prop) (slot:Nat) (keep cy:List Nat):LA where
 σ:=Nat
 ok:=fun k=>k≤n∧ok k
 mu:=fun k=>n - k
 sl:=fun k=>[(slot,.one (.aC I (k:Int)))]
 bl:=fun _=>[]
 keep:=keep
 cy:=cy
def mN (n:Nat) (slot row id e:Nat) (t:Ty) (xs:Nat→List t.den) (keep cy:List Nat):LA where
 σ:=Nat
 ok:=fun k=>k≤n
 mu:=fun k=>n - k
 sl:=fun k=>[(slot,.one (.aC I (k:Int))),(row,.one (.row t id))]
 bl:=fun k=>[(id,.row false e t (xs k))]
 keep:=keep
 cy:=cy
def fe {α:Type} (p:α→Bool) (xs:List α) (k:Nat):Prop:=(xs.take k).all p=true
def dV (p:Nat→Bool) (k:Nat):Prop:=db p k=true
def dZ (p:Nat→Bool) (k:Nat):Prop:=cd p k=false
def kI {α:Type} (p:α→Bool) (xs:List α) (k:Nat):Prop:=(xs.take k).any p=false
def n6 {α:Type} (xs ys:List α) (k:Nat):Prop:=xs.length=ys.length∧xs.take k=ys.take k
def dC (S:St) (n:Nat):Int:=
 match find S.sl n with
 |some (_,.one (.aC (.int _) x))=>Ty.I x
 |_=>0
def a37 (x:List Int×List Int×Unit):eC:=bj [(4,fun _=>dE x.1.length (n6 x.1 x.2.1) 5 [0,1] [])]
def YX (x:nS×Unit):eC:=bj [(2,fun _=>dE x.1.length (dV (jm x.1)) 3 [0] [])]
def tc (x:ak) (j:nf):Bool:=j.1==x||j.2==x
def a227 (x:ab×ak×Unit):eC:=bj [(2,fun _=>dE x.1.2.1.length (kI (tc x.2.1) x.1.2.1) 6 [2,3,4] [2,3,4])]
def fB (p:ab) (x:ak) (i:Nat):Bool:=(p.2.2.1.getD i zS).2.1==x
def a229 (x:ab×ak×Unit):eC:=bj [(2,fun _=>dE x.1.2.2.1.length (dZ (fB x.1 x.2.1)) 5 [2,3] [2,3])]
def a31 (x:List Int×Int×Unit):eC:=bj [(2,fun _=>dE x.1.length (kI (fun y=>y==x.2.1) x.1) 5 [0,1] [])]
def gK (v b:Int) (k:Nat):Bool:=decide (v - b*((k:Int)+1)≤0)
def YW (x:Int×Int×Unit):eC:=bj [(5,fun _=>{
 σ:=Nat
 ok:=fun k=>k≤60∧dZ (gK x.1 x.2.1) k
 mu:=fun k=>60 - k
 sl:=fun k=>[(0,.one (.aC I (x.1 - x.2.1*((k:Int)+1)))),(5,.one (.aC I (j5 x.1 x.2.1 k)))]
 bl:=fun _=>[]
 keep:=[1]
 cy:=[]})]
def jf (pos:Int) (w:Int×Int):Bool:=w.2==0||w.2==pos
def YQ (x:ab×Int×Int×Int×Unit):eC:=bj [(3,fun _=>dE (bF x.1 x.2.1 x.2.2.1).length (kI (jf x.2.2.2.1) (bF x.1 x.2.1 x.2.2.1)) 11 [3,10] [])]
def te (p:ab) (e out pos:Int) (i:Nat):Bool:=(cw p e (i:Int) pos).2&&(cw p e (i:Int) pos).1==out
def YS (x:ab×Int×Int×Int×Unit):eC:=bj [(2,fun _=>dE (cO (aI x.1 x.2.1)).toNat (dZ (te x.1 x.2.1 x.2.2.1 x.2.2.2.1)) 10 [1,2,3,4] [4])]
def jq (l:List nS) (i k:Nat):Bool:=l.getD i []==l.getD k []
def a154 (x:List nS×Unit):eC:=bj [(2,fun _=>dE x.1.length (dZ (fun i=>cd (jq x.1 i) i)) 3 [0] []),
 (5,fun S=>dE (dC S 3).toNat (dZ (jq x.1 (dC S 3).toNat)) 4 [0,3] [])]
def a152 (x:ab×Unit):eC:=bj [(3,fun _=>mN x.1.1.length 8 5 1000 9 .str (fun k=>(x.1.1.take k).map fun e=>e.1) [1,6,7] [1]),
 (7,fun _=>mN x.1.2.2.1.length 9 6 1001 9 .str (fun k=>(x.1.2.2.1.take k).map fun e=>e.1) [1,5,7] [1,1000]),
 (11,fun _=>mN x.1.2.2.2.1.length 10 7 1002 9 .str (fun k=>(x.1.2.2.2.1.take k).map fun e=>e.1) [1,5,6] [1,1000,1001])]
def kY (s:gw):Bool:=kq s.1
def jt (l:ll):Bool:=kq l.1
def Y6 (x:ab×Unit):eC:=bj [(4,fun _=>dE x.1.1.length (fe gB x.1.1) 3 [1] [1]),
 (10,fun _=>dE x.1.2.2.1.length (fe kY x.1.2.2.1) 5 [1] [1]),
 (15,fun _=>dE x.1.2.2.2.1.length (fe jt x.1.2.2.2.1) 6 [1] [1])]
def qB (p:ab) (i k:Nat):Bool:=(bT p).getD k zP==(bT p).getD i zP
def Y5 (x:ab×Unit):eC:=bj [(3,fun _=>mN x.1.2.1.length 4 3 1000 156 aL (fun k=>(x.1.2.1.take k).flatMap fun j=>[j.1,j.2]) [1] [1]),
 (7,fun _=>dE (bT x.1).length (dV (kM x.1)) 5 [1,3] [1,1000]),
 (12,fun S=>dE (dC S 5).toNat (dZ (qB x.1 (dC S 5).toNat)) 6 [1,3,5] [1,1000]),
 (17,fun _=>dE x.1.1.length (dV (ka x.1)) 7 [1] [1])]
def a156 (x:ab×Unit):eC:=bj [(2,fun _=>dE x.1.2.2.1.length (dV (kX x.1)) 3 [1] [1]),
 (12,fun _=>dE x.1.1.length (dV (jT x.1)) 8 [1] [1])]
def mS (p:ab) (e:Int):Bool:=aI p e==1
def vN (p:ab) (l:List Int):Nat→Int
 |0=> -1
 |1=>bif qH p l 1 then 1 else -1
 |_=>fJ p l
def a206 (x:ab×List Int×Unit):eC:=bj [(4,fun _=>dE x.2.1.length (fe (mS x.1) x.2.1) 6 [1,2] [2]),
 (12,fun _=>{
  σ:=Nat
  ok:=fun k=>k≤2
  mu:=fun k=>2 - k
  sl:=fun k=>[(8,.one (.aC I (1 - (k:Int)))),(7,.one (.aC I (vN x.1 x.2.1 k)))]
  bl:=fun _=>[]
  keep:=[1,2]
  cy:=[2]}),
 (21,fun _=>{
  σ:=Nat
  ok:=fun k=>k<x.2.1.length∧(ed x.1 x.2.1 (fJ x.1 x.2.1) k).2.2=true
  mu:=fun k=>x.2.1.length - k
  sl:=fun k=>[(12,.one (.aC I ((k:Int)+1))),(7,.one (.aC I (ed x.1 x.2.1 (fJ x.1 x.2.1) k).2.1)),(11,.one (.row I 1000))]
  bl:=fun k=>[(1000,.row false 3 I (ed x.1 x.2.1 (fJ x.1 x.2.1) k).1)]
  keep:=[1,2]
  cy:=[2]})]
def a157 (x:ab×Unit):eC:=bj [(3,fun _=>{
  σ:=Nat
  ok:=fun k=>k≤x.1.2.2.2.1.length∧dV (jd x.1) k
  mu:=fun k=>x.1.2.2.2.1.length - k
  sl:=fun k=>[(4,.one (.aC I (k:Int))),(3,.one (.row I 1000))]
  bl:=fun k=>[(1000,.row false 3 I (kJ x.1 k))]
  keep:=[1]
  cy:=[1]}),
 (7,fun S=>{
  σ:=Nat
  ok:=fun k=>k≤(x.1.2.2.2.1.getD (dC S 4).toNat zL).2.length∧dV (lR x.1 (dC S 4).toNat) k
  mu:=fun k=>(x.1.2.2.2.1.getD (dC S 4).toNat zL).2.length - k
  sl:=fun k=>[(6,.one (.aC I (k:Int))),(3,.one (.row I 1001))]
  bl:=fun k=>[(1001,.row false 3 I (kJ x.1 (dC S 4).toNat++(x.1.2.2.2.1.getD (dC S 4).toNat zL).2.take k))]
  keep:=[1,4,5]
  cy:=[1]})]
def Y4 (x:ab×Unit):eC:=bj [(4,fun _=>dE x.1.2.2.1.length (fe (jM x.1) x.1.2.2.1) 3 [1] [1]),
 (10,fun _=>dE x.1.1.length (fe (ij x.1) x.1.1) 5 [1] [1])]
def qX (l:ll):Bool:=decide (l.2.length≤60)&&decide (l.1.length≤100)
def su (e:mq):Bool:=decide (e.1.length≤100)
def vz (e:gw):Bool:=decide (e.1.length≤100)
def Zb (x:ab×Unit):eC:=bj [(4,fun _=>dE x.1.2.2.2.1.length (fe qX x.1.2.2.2.1) 3 [1] [1]),
 (9,fun _=>dE x.1.1.length (fe su x.1.1) 4 [1] [1]),
 (14,fun _=>dE x.1.2.2.1.length (fe vz x.1.2.2.1) 5 [1] [1])]
theorem Ab {n:Int} (h1: -9223372036854775808≤n) (h2:n≤9223372036854775807):bq .i64 n:=by
 show IntKind.min .i64≤n∧n≤IntKind.max .i64
 have e1:IntKind.min .i64= -9223372036854775808:=by decide
 have e2:IntKind.max .i64=9223372036854775807:=by decide
 omega
theorem bg {n:Int} (h1: -1000000000000≤n) (h2:n≤1000000000000):bq .i64 n:=Ab (by omega) (by omega)
theorem dr {s n:Nat} (h:s<n) (hn:n≤aK):bq .i64 ((s:Int)+1):=by
 have:aK=9223372036854775807:=rfl
 exact Ab (by omega) (by omega)
theorem c6 {n b:Nat} (h:n≤2000000000) (hb:b≤1000):roomFor n b:=by
 unfold roomFor
 have:n*(b+1)≤2000000000*1001:=Nat.mul_le_mul h (by omega)
 omega
theorem R5 (a:Nat) (n:Int) (k:Nat) (e:n=(k:Int)):decide ((a:Int)≥n)=decide (k≤a):=by
 rw[e]
 by_cases h:k≤a
 ·rw[decide_eq_true h,decide_eq_true (by omega)]
 ·rw[decide_eq_false h,decide_eq_false (by omega)]
theorem leN (a:Nat) (n:Int) (k:Nat) (e:n=(k:Int)):decide ((a:Int)≤n)=decide (a≤k):=by
 rw[e]
 by_cases h:a≤k
 ·rw[decide_eq_true h,decide_eq_true (by omega)]
 ·rw[decide_eq_false h,decide_eq_false (by omega)]
theorem ltN (a:Nat) (n:Int) (k:Nat) (e:n=(k:Int)):decide ((a:Int)<n)= !decide (k≤a):=by
 rw[e]
 by_cases h:k≤a
 ·rw[decide_eq_true h,decide_eq_false (by omega)];rfl
 ·rw[decide_eq_false h,decide_eq_true (by omega)];rfl
theorem vT (a:Nat) (n:Int) (k:Nat) (e:n=(k:Int)):decide ((a:Int)>n)= !decide (a≤k):=by
 rw[e]
 by_cases h:a≤k
 ·rw[decide_eq_true h,decide_eq_false (by omega)];rfl
 ·rw[decide_eq_false h,decide_eq_true (by omega)];rfl
theorem eqN (a:Nat) (n:Int) (k:Nat) (e:n=(k:Int)):((a:Int)==n)=(a==k):=by
 rw[e]
 by_cases h:a=k
 ·subst h;rw[beq_self_eq_true,beq_self_eq_true]
 ·rw[beq_eq_false_iff_ne.2 h,beq_eq_false_iff_ne.2 (by omega)]
theorem FM (a:Nat) (n:Int) (k:Nat) (e:n=(k:Int)):((a:Int)==n)=decide (a=k):=by
 rw[eqN a n k e]
 by_cases h:a=k
 ·subst h;rw[beq_self_eq_true,decide_eq_true rfl]
 ·rw[decide_eq_false h,beq_eq_false_iff_ne.2 h]
theorem Ga (a n:Int):decide (a<n)= !decide (n≤a):=by
 by_cases h:n≤a
 ·rw[decide_eq_true h,decide_eq_false (by omega)];rfl
 ·rw[decide_eq_false h,decide_eq_true (by omega)];rfl
theorem Ng (a n:Int):decide (a>n)= !decide (a≤n):=by
 by_cases h:a≤n
 ·rw[decide_eq_true h,decide_eq_false (by omega)];rfl
 ·rw[decide_eq_false h,decide_eq_true (by omega)];rfl
theorem xC (a n:Int):decide (a≥n)=decide (n≤a):=rfl
theorem iH (a b:Int):(a !=b)= !(a==b):=rfl
theorem ba {a b:Nat} {y:Bool} (e:y=decide ((a:Int)<(b:Int))) (h:y=true):a<b:=by
 rw[e] at h
 have:=of_decide_eq_true h
 omega
theorem br {a b:Nat} {y:Bool} (e:y=decide ((a:Int)<(b:Int))) (h:y=false):b≤a:=by
 rw[e] at h
 have:=of_decide_eq_false h
 omega
theorem vF {a b:Bool} (h:(bif a then true else b)=false):a=false∧b=false:=by
 cases a
 ·exact⟨rfl,h⟩
 ·cases h
theorem sk (a b:ak):(a.1==b.1&&(a.2==b.2&&true))=(a==b):=by
 rw[Bool.and_true]
 rfl
theorem gv {p:Nat→Bool}:∀{n:Nat},db p n=true↔∀i,i<n→p i=true
 |0=>⟨fun _ i hi=>by omega,fun _=>rfl⟩
 |n+1=>by
  show(db p n&&p n)=true↔_
  rw[Bool.and_eq_true,gv (n:=n)]
  exact⟨fun h i hi=>by
   by_cases e:i=n
   ·rw[e];exact h.2
   ·exact h.1 i (by omega),fun h=>⟨fun i hi=>h i (by omega),h n (by omega)⟩⟩
theorem iS {p:Nat→Bool}:∀{n:Nat},cd p n=false↔∀i,i<n→p i=false
 |0=>⟨fun _ i hi=>by omega,fun _=>rfl⟩
 |n+1=>by
  show(cd p n||p n)=false↔_
  rw[Bool.or_eq_false_iff,iS (n:=n)]
  exact⟨fun h i hi=>by
   by_cases e:i=n
   ·rw[e];exact h.2
   ·exact h.1 i (by omega),fun h=>⟨fun i hi=>h i (by omega),h n (by omega)⟩⟩
theorem fc {p:Nat→Bool} {k:Nat} (h:db p k=true) (h1:p k=true):db p (k+1)=true:=by
 show(db p k&&p k)=true
 rw[h,h1];rfl
theorem jV {p:Nat→Bool} {k:Nat} (h:cd p k=false) (h1:p k=false):cd p (k+1)=false:=by
 show(cd p k||p k)=false
 rw[h,h1];rfl
theorem fT {p:Nat→Bool} {n k:Nat} (hk:k<n) (h:p k=false):db p n=false:=by
 cases hc:db p n with
 |false=>rfl
 |true=>rw[gv.1 hc k hk] at h;cases h
theorem nL {p:Nat→Bool} {n k:Nat} (hk:k<n) (h:p k=true):cd p n=true:=by
 cases hc:cd p n with
 |true=>rfl
 |false=>rw[iS.1 hc k hk] at h;cases h
theorem sr {p:Nat→Bool} {n k:Nat} (hk:k<n) (h0:cd p k=false) (h:p k=true):gA p n=some k:=by
 unfold gA
 rw[List.find?_range_eq_some]
 refine⟨h,by simpa using hk,fun j hj=> ?_⟩
 rw[iS.1 h0 j hj]
 rfl
theorem A2 {p:Nat→Bool} {n:Nat} (h0:cd p n=false):gA p n=none:=by
 unfold gA
 rw[List.find?_eq_none]
 intro x hx
 rw[iS.1 h0 x (List.mem_range.1 hx)]
 simp
theorem A1 {p:Nat→Bool} {n k:Nat} (h:gA p n=some k):k<n∧p k=true:=by
 unfold gA at h
 exact⟨List.mem_range.1 (List.mem_of_find?_eq_some h),List.find?_some h⟩
theorem eA {α:Type} {xs:List α} {s:Nat} (d:α) (h:s<xs.length):xs.getD s d=xs[s]:=by simp[List.getD_eq_getElem?_getD,h]
theorem fw {α:Type} {l:List α} {s:Nat} (d:α) (h:s<l.length):l.getD s d∈l:=by rw[eA d h];exact List.getElem_mem h
theorem eM {α:Type} {xs:List α} {s:Nat} (d:α) (h:s<xs.length):xs.take (s+1)=xs.take s++[xs.getD s d]:=by
 rw[List.take_succ_eq_append_getElem h,eA d h]
theorem any_succ {α:Type} {p:α→Bool} {xs:List α} {s:Nat} (d:α) (h:s<xs.length) (h0:(xs.take s).any p=false) (h1:p (xs.getD s d)=false):(xs.take (s+1)).any p=false:=by
 rw[eM d h,List.any_append,h0]
 simp only[List.any_cons,List.any_nil,Bool.or_false,Bool.false_or]
 exact h1
theorem n4 {α:Type} {p:α→Bool} {l:List α} {s:Nat} (h:l.length≤s) (h0:(l.take s).any p=false):l.any p=false:=by
 rw[List.take_of_length_le h] at h0
 exact h0
theorem pK {α:Type} {p:α→Bool} {l:List α} {s:Nat} (d:α) (h:s<l.length) (h1:p (l.getD s d)=true):l.any p=true:=
 List.any_eq_true.2 ⟨_,fw d h,h1⟩
theorem all_succ {α:Type} {p:α→Bool} {l:List α} {s:Nat} (d:α) (h:s<l.length) (h0:(l.take s).all p=true) (h1:p (l.getD s d)=true):(l.take (s+1)).all p=true:=by
 rw[eM d h,List.all_append,h0]
 simpa using h1
theorem mG {α:Type} {p:α→Bool} {l:List α} {s:Nat} (d:α) (h:s<l.length) (h1:p (l.getD s d)=false):l.all p=false:=by
 cases hc:l.all p with
 |false=>rfl
 |true=>
  have:=List.all_eq_true.1 hc (l.getD s d) (fw d h)
  rw[this] at h1
  cases h1
theorem jx {α:Type} {p:α→Bool} {l:List α} {s:Nat} (h:l.length≤s) (h0:(l.take s).all p=true):l.all p=true:=by
 rw[List.take_of_length_le h] at h0
 exact h0
theorem C6 {α:Type} {p:α→Bool} {xs:List α} {s:Nat} (d:α) (h:s<xs.length) (h0:(xs.take s).any p=false) (h1:p (xs.getD s d)=true):xs.find? p=some (xs.getD s d):=by
 rw[eA d h] at h1 ⊢
 rw[List.find?_eq_some_iff_getElem]
 refine⟨h1,s,h,rfl,fun j hj=> ?_⟩
 have:=List.any_eq_false.1 h0 xs[j] (by rw[List.mem_take_iff_getElem];exact⟨j,by omega,rfl⟩)
 simpa using this
theorem xE {α:Type} {p:α→Bool} {xs:List α} {s:Nat} (h:xs.length≤s) (h0:(xs.take s).any p=false):xs.find? p=none:=by
 rw[List.take_of_length_le h] at h0
 rw[List.find?_eq_none]
 intro x hx hp
 have:=List.any_eq_false.1 h0 x hx
 exact this hp
theorem Mx {α:Type} [BEq α] [LawfulBEq α] {xs ys:List α} {y:Bool} (e:y=((xs.length:Int) !=(ys.length:Int))) (h:y=true):false=(xs==ys):=by
 rw[e] at h
 symm
 rw[beq_eq_false_iff_ne]
 rintro rfl
 simp at h
theorem Eu {α:Type} {xs ys:List α} {y:Bool} (e:y=((xs.length:Int) !=(ys.length:Int))) (h:y=false):xs.length=ys.length:=by
 rw[e] at h
 have:(xs.length:Int)=ys.length:=by simpa using h
 omega
theorem Be {α:Type} {xs ys:List α} {s:Nat} (d:α) (hl:xs.length=ys.length) (h:xs.take s=ys.take s) (hs:s<xs.length) (e:xs.getD s d=ys.getD s d):xs.take (s+1)=ys.take (s+1):=by
 rw[eM d hs,eM d (hl▸hs),h,e]
theorem Bf {α:Type} [BEq α] [LawfulBEq α] {xs ys:List α} {s:Nat} (hl:xs.length=ys.length) (h:xs.take s=ys.take s) (hs:xs.length≤s):true=(xs==ys):=by
 rw[List.take_of_length_le hs,List.take_of_length_le (hl▸hs)] at h
 simp[h]
theorem D1 {α:Type} [BEq α] [LawfulBEq α] {xs ys:List α} {s:Nat} (d:α) (e:xs.getD s d≠ys.getD s d):false=(xs==ys):=by
 symm
 rw[beq_eq_false_iff_ne]
 rintro rfl
 exact e rfl
theorem pZ {α β:Type} (f:α→List β) {l:List α} {s:Nat} (d:α) (h:s<l.length):(l.take (s+1)).flatMap f=(l.take s).flatMap f++f (l.getD s d):=by
 rw[eM d h,List.flatMap_append]
 simp
theorem nW {α β:Type} (f:α→β) {l:List α} {s:Nat} (d:α) (h:s<l.length):(l.take (s+1)).map f=(l.take s).map f++[f (l.getD s d)]:=by
 rw[eM d h,List.map_append]
 rfl
theorem tu {α:Type} {l:List α} {s:Nat} {y:Bool} (e:y=decide ((s:Int)<(l.length:Int))) (h:y=false):l.take s=l:=
 List.take_of_length_le (br e h)
def pO (p:ab):Prop:=p.1.length≤aK∧p.2.1.length≤aK∧p.2.2.1.length≤aK∧p.2.2.2.1.length≤aK
theorem k7 {p:ab} (h:PlanT.wf p):pO p:=⟨h.1.1,h.2.1.1,h.2.2.1.1,h.2.2.2.1.1⟩
theorem v37 (a:List Int) (b:List Int):ai (ah ay []) Tryz.f37 VX (a37 (a,b,())) (a,b,())=(
U ((↑a.length:Int) !=(↑b.length:Int)) fun(y2:Bool)=>
(y2=true→false=(a==b)∧True)∧
(y2=false→
(∃(fD:Nat),(fD≤a.length∧n6 a b fD)∧(↑fD:Int)=(0:Int)∧a=a∧b=b∧True)∧
∀(s3:Nat),
U (decide ((↑s3:Int)<(↑a.length:Int))) fun(y4:Bool)=>
U (a.getD (↑s3:Int).toNat (0:Int) !=b.getD (↑s3:Int).toNat (0:Int)) fun(y5:Bool)=>
s3≤a.length∧n6 a b s3→
(y4=true→
aQ (↑s3:Int) a.length∧
aQ (↑s3:Int) b.length∧
(y5=true→false=(a==b)∧True)∧
(y5=false→
bq IntKind.i64 ((↑s3:Int)+(1:Int))∧
∃(eR:Nat),(eR≤a.length∧n6 a b eR)∧a.length - eR<a.length - s3∧(↑eR:Int)=(↑s3:Int)+(1:Int)∧a=a∧b=b∧True))∧
(y4=false→true=(a==b)∧True))):=by kernel_rfl
theorem b37 (a:List Int) (b:List Int) (hw:a.length≤aK):ai (ah ay []) Tryz.f37 VX (a37 (a,b,())) (a,b,()):=by
 rw[v37]
 refine U.mk fun y2 e2=> ?_
 simp only[true_and,and_true,Int.toNat_natCast]
 refine⟨Mx e2,fun h=> ?_⟩
 have h:=Eu e2 h
 refine⟨⟨0,⟨by omega,h,rfl⟩,rfl⟩,fun s=>U.mk fun y4 e4=>U.mk fun y5 e5=> ?_⟩
 rintro⟨h1,h2,h3⟩
 refine⟨fun hs=> ?_,fun hs=> ?_⟩
 ·have hs:=ba e4 hs
  refine⟨⟨by omega,by omega⟩,⟨by omega,by omega⟩,fun e=> ?_,fun e=>⟨dr hs hw,s+1,⟨by omega,h,?_⟩,by omega,by omega⟩⟩
  ·exact D1 (s:=s) 0 (by rw[e5] at e;simpa using e)
  ·exact Be 0 h h3 hs (by rw[e5] at e;simpa using e)
 ·exact Bf h h3 (br e4 hs)
theorem aht:aM Tryz.prog 37 VX:=
 aM.bZ (l:=[]) (A:=a37) aH trivial Tryz.func37 (by kernel_rfl) (by kernel_rfl) fun x hw _=>b37 x.1 x.2.1 hw.1.1
theorem agU (a:Int) (x:Int) (b:Int) (y:Int):ai (ah ay []) Tryz.f100 TR aq (a,x,b,y,())=(
U ((a,x),b,y) fun(y4:(Int×Int)×Int×Int)=>y4=y4∧True):=by kernel_rfl
theorem adB:aM Tryz.prog 100 TR:=
 aM.bZ (l:=[]) (A:=fun _=>aq) aH trivial Tryz.func100 (by kernel_rfl) (by kernel_rfl) fun x _ hp=>by
  obtain⟨a,x,b,y,⟨⟩⟩:=x
  rw[agU]
  exact U.mk fun y4 e4=>⟨rfl,trivial⟩
theorem af2 (n:Int) (lo:Int) (hi:Int):ai (ah ay []) Tryz.f224 P5 aq (n,lo,hi,())=(
(bif decide (n≥lo) then decide (n≤hi) else false)=rh lo hi n∧True):=by kernel_rfl
theorem acp:aM Tryz.prog 224 P5:=
 aM.bZ (l:=[]) (A:=fun _=>aq) aH trivial Tryz.func224 (by kernel_rfl) (by kernel_rfl) fun x _ hp=>by
  obtain⟨n,lo,hi,⟨⟩⟩:=x
  rw[af2]
  refine⟨?_,trivial⟩
  have key:∀a b:Bool,(bif a then b else false)=(a&&b):=by decide
  exact key _ _
theorem af1 (s:List UInt8):ai (ah ay []) Tryz.f225 KX (YX (s,())) (s,())=(
(∃(py:Nat),(py≤s.length∧dV (jm s) py)∧(↑py:Int)=(0:Int)∧s=s∧True)∧
∀(s1:Nat),
U (decide ((↑s1:Int)<(↑s.length:Int))) fun(y2:Bool)=>
U
(bif
!bif bif decide ((↑(s.getD (↑s1:Int).toNat (0:UInt8)).toNat:Int)≥(97:Int)) then decide ((↑(s.getD (↑s1:Int).toNat (0:UInt8)).toNat:Int)≤(122:Int)) else false then true
else bif decide ((↑(s.getD (↑s1:Int).toNat (0:UInt8)).toNat:Int)≥(65:Int)) then decide ((↑(s.getD (↑s1:Int).toNat (0:UInt8)).toNat:Int)≤(90:Int)) else false then
bif bif(↑s1:Int)==(0:Int) then true else decide ((↑(s.getD (↑s1:Int).toNat (0:UInt8)).toNat:Int)<(48:Int)) then true
else decide ((↑(s.getD (↑s1:Int).toNat (0:UInt8)).toNat:Int)>(57:Int))
else false)
fun(y3:Bool)=>
s1≤s.length∧dV (jm s) s1→
(y2=true→
aQ (↑s1:Int) s.length∧
(y3=true→false=kq s∧True)∧
(y3=false→
bq IntKind.i64 ((↑s1:Int)+(1:Int))∧
∃(Oq:Nat),(Oq≤s.length∧dV (jm s) Oq)∧s.length - Oq<s.length - s1∧(↑Oq:Int)=(↑s1:Int)+(1:Int)∧s=s∧True))∧
(y2=false→(bif decide ((↑s.length:Int)≥(1:Int)) then decide ((↑s.length:Int)≤(8:Int)) else false)=kq s∧True)):=by kernel_rfl
theorem ajx (s:nS) (hw:s.length≤aK):ai (ah ay []) Tryz.f225 KX (YX (s,())) (s,()):=by
 rw[af1]
 simp only[true_and,and_true,Int.toNat_natCast]
 refine⟨⟨0,⟨by omega,rfl⟩,rfl⟩,fun i=>U.mk fun y2 e2=>U.mk fun y3 e3=> ?_⟩
 rintro⟨h1,h2⟩
 have hc:jm s i= !y3:=by
  rw[R5 _ 97 97 rfl,leN _ 122 122 rfl,R5 _ 65 65 rfl,leN _ 90 90 rfl,eqN _ 0 0 rfl,ltN _ 48 48 rfl,vT _ 57 57 rfl] at e3
  rw[e3]
  unfold jm uR Nt
  have key:∀a b c d z e f:Bool,(((a&&b)||(c&&d))||(!z&&(e&&f)))= !(bif !(bif(bif a then b else false) then true else(bif c then d else false)) then(bif(bif z then true else !e) then true else !f) else false):=by decide
  exact key _ _ _ _ _ _ _
 refine⟨fun hs=> ?_,fun hs=> ?_⟩
 ·have hs:=ba e2 hs
  refine⟨⟨by omega,by omega⟩,fun e=> ?_,fun e=>⟨dr hs hw,i+1,⟨by omega,?_⟩,by omega,by omega⟩⟩
  ·unfold kq
   rw[fT hs (by rw[hc,e];rfl)]
   rfl
  ·exact fc h2 (by rw[hc,e];rfl)
 ·have hs:=br e2 hs
  have:i=s.length:=by omega
  subst this
  have h2:db (jm s) s.length=true:=h2
  unfold kq
  rw[h2,R5 _ 1 1 rfl,leN _ 8 8 rfl]
  have key:∀a b:Bool,(bif a then b else false)=(true&&(a&&b)):=by decide
  exact key _ _
theorem aco:aM Tryz.prog 225 KX:=
 aM.bZ (l:=[]) (A:=YX) aH trivial Tryz.func225 (by kernel_rfl) (by kernel_rfl) fun x hw _=>ajx x.1 hw.1
theorem v226 (k:Int):ai (ah ay []) Tryz.f226 A3 aq (k,())=(
((k==(1:Int))=true→(2:Int)=cO k∧True)∧
((k==(1:Int))=false→
((k==(2:Int))=true→(3:Int)=cO k∧True)∧
((k==(2:Int))=false→
((k==(3:Int))=true→(4:Int)=cO k∧True)∧
((k==(3:Int))=false→((k==(4:Int))=true→(1:Int)=cO k∧True)∧((k==(4:Int))=false→(0:Int)=cO k∧True))))):=by kernel_rfl
theorem Q4:aM Tryz.prog 226 A3:=
 aM.bZ (l:=[]) (A:=fun _=>aq) aH trivial Tryz.func226 (by kernel_rfl) (by kernel_rfl) fun x _ hp=>by
  obtain⟨k,⟨⟩⟩:=x
  rw[v226]
  unfold cO
  cases k==1<;>cases k==2<;>cases k==3<;>cases k==4<;>simp
theorem FO (k:Int):0≤cO k∧cO k≤4:=by
 unfold cO
 cases k==1<;>cases k==2<;>cases k==3<;>cases k==4<;>simp
theorem v228 (p:ab) (e:Int):ai (ah ay []) Tryz.f228 pg aq (p,e,())=(
U (bif decide (e<(0:Int)) then true else decide (e≥(↑p.1.length:Int))) fun(y2:Bool)=>
(y2=true→(0:Int)=aI p e∧True)∧(y2=false→aQ e p.1.length∧(p.1.getD e.toNat ([],(0:Int),(0:Int))).2.1=aI p e∧True)):=by kernel_rfl
theorem UW {p:ab} {e:Int} (h:(decide (e<0)||decide ((p.1.length:Int)≤e))=true):aI p e=0:=by
 unfold aI
 rw[h]
 rfl
theorem O4 {p:ab} {e:Int} (h0:0≤e) (h1:e<p.1.length):aI p e=(p.1.getD e.toNat zE).2.1:=by
 unfold aI
 rw[decide_eq_false (by omega),decide_eq_false (by omega)]
 rfl
theorem Bo:aM Tryz.prog 228 pg:=
 aM.bZ (l:=[]) (A:=fun _=>aq) aH trivial Tryz.func228 (by kernel_rfl) (by kernel_rfl) fun x _ hp=>by
  obtain⟨p,e,⟨⟩⟩:=x
  rw[v228]
  refine U.mk fun y2 e2=>⟨fun h=>⟨?_,trivial⟩,fun h=> ?_⟩
  ·refine(UW ?_).symm
   rw[←h,e2,xC]
   have key:∀a b:Bool,(a||b)=(bif a then true else b):=by decide
   exact key _ _
  ·rw[h] at e2
   obtain⟨h1,h2⟩:=vF e2.symm
   have h1:=of_decide_eq_false h1
   have h2:=of_decide_eq_false h2
   exact⟨⟨by omega,by omega⟩,(O4 (by omega) (by omega)).symm,trivial⟩
theorem aga (p:ab) (e:Int):ai (ah ay [(228,pg)]) Tryz.f207 ya aq (p,e,())=(
True∧aI p e=aI p e∧True):=by kernel_rfl
theorem Q7:aM Tryz.prog 207 ya:=
 aM.bZ (l:=[(228,pg)]) (A:=fun _=>aq) aH ⟨Bo,trivial⟩ Tryz.func207 (by kernel_rfl) (by kernel_rfl) fun x _ hp=>by
  obtain⟨p,e,⟨⟩⟩:=x
  rw[aga]
  exact⟨trivial,rfl,trivial⟩
theorem afZ (p:ab) (e:Int):ai (ah ay []) Tryz.f231 P4 aq (p,e,())=(
U (bif decide (e<(0:Int)) then true else decide (e≥(↑p.1.length:Int))) fun(y2:Bool)=>
(y2=true→(0:Int)=qY p e∧True)∧(y2=false→aQ e p.1.length∧(p.1.getD e.toNat ([],(0:Int),(0:Int))).2.2=qY p e∧True)):=by kernel_rfl
theorem acm:aM Tryz.prog 231 P4:=
 aM.bZ (l:=[]) (A:=fun _=>aq) aH trivial Tryz.func231 (by kernel_rfl) (by kernel_rfl) fun x _ hp=>by
  obtain⟨p,e,⟨⟩⟩:=x
  rw[afZ]
  refine U.mk fun y2 e2=>⟨fun h=>⟨?_,trivial⟩,fun h=> ?_⟩
  ·unfold qY
   have:(decide (e<0)||decide ((p.1.length:Int)≤e))=true:=by
    rw[←h,e2,xC]
    have key:∀a b:Bool,(a||b)=(bif a then true else b):=by decide
    exact key _ _
   rw[this]
   rfl
  ·rw[h] at e2
   obtain⟨h1,h2⟩:=vF e2.symm
   have nR:=of_decide_eq_false h1
   have ze:=of_decide_eq_false h2
   refine⟨⟨by omega,by omega⟩,?_,trivial⟩
   unfold qY
   rw[decide_eq_false (by omega),decide_eq_false (by omega)]
   rfl
theorem af9 (p:ab) (s:Int):ai (ah ay []) Tryz.f213 TF aq (p,s,())=(
U (bif decide (s<(0:Int)) then true else decide (s≥(↑p.2.2.1.length:Int))) fun(y2:Bool)=>
(y2=true→((0:Int),(0:Int))=(lB p s).1∧false=(lB p s).2∧True)∧
(y2=false→aQ s p.2.2.1.length∧(p.2.2.1.getD s.toNat ([],((0:Int),(0:Int)),false)).2.1=(lB p s).1∧true=(lB p s).2∧True)):=by kernel_rfl
theorem acz:aM Tryz.prog 213 TF:=
 aM.bZ (l:=[]) (A:=fun _=>aq) aH trivial Tryz.func213 (by kernel_rfl) (by kernel_rfl) fun x _ hp=>by
  obtain⟨p,e,⟨⟩⟩:=x
  rw[af9]
  refine U.mk fun y2 e2=>⟨fun h=> ?_,fun h=> ?_⟩
  ·have:(decide (e<0)||decide ((p.2.2.1.length:Int)≤e))=true:=by
    rw[←h,e2,xC]
    have key:∀a b:Bool,(a||b)=(bif a then true else b):=by decide
    exact key _ _
   unfold lB
   rw[this]
   exact⟨rfl,rfl,trivial⟩
  ·rw[h] at e2
   obtain⟨h1,h2⟩:=vF e2.symm
   have nR:=of_decide_eq_false h1
   have ze:=of_decide_eq_false h2
   refine⟨⟨by omega,by omega⟩,?_⟩
   unfold lB
   rw[decide_eq_false (by omega),decide_eq_false (by omega)]
   exact⟨rfl,rfl,trivial⟩
theorem agb (p:ab) (x:Int×Int):ai (ah ay [(226,A3)]) Tryz.f205 A4 aq (p,x,())=(
U (bif bif decide (x.1≥(0:Int)) then decide (x.1<(↑p.1.length:Int)) else false then decide (x.2≥(0:Int)) else false) fun(y2:Bool)=>
U (cO (p.1.getD x.1.toNat ([],(0:Int),(0:Int))).2.1) fun(y3:Int)=>
(y2=true→aQ x.1 p.1.length)∧(y2=true→True)∧(bif y2 then decide (x.2<y3) else false)=dx p x∧True):=by kernel_rfl
theorem Rb:aM Tryz.prog 205 A4:=
 aM.bZ (l:=[(226,A3)]) (A:=fun _=>aq) aH ⟨Q4,trivial⟩ Tryz.func205 (by kernel_rfl) (by kernel_rfl) fun x _ hp=>by
  obtain⟨p,x,⟨⟩⟩:=x
  rw[agb]
  refine U.mk fun y2 e2=>U.mk fun y3 e3=> ?_
  rw[xC,xC] at e2
  cases h0:decide (0≤x.1) with
  |false=>
   rw[h0] at e2
   refine⟨(fun h=>by rw[e2] at h;cases h),fun _=>trivial,?_,trivial⟩
   rw[e2]
   unfold dx
   rw[h0]
   rfl
  |true=>
   cases h1:decide (x.1<(p.1.length:Int)) with
   |false=>
    rw[h0,h1] at e2
    refine⟨(fun h=>by rw[e2] at h;cases h),fun _=>trivial,?_,trivial⟩
    rw[e2]
    unfold dx
    rw[h0,h1]
    rfl
   |true=>
    have h0':=of_decide_eq_true h0
    have nR:=of_decide_eq_true h1
    refine⟨fun h=>⟨h0',nR⟩,fun _=>trivial,?_,trivial⟩
    have e3:y3=cO (aI p x.1):=by rw[e3,O4 h0' nR];rfl
    rw[e2,h0,h1,e3]
    unfold dx
    rw[h0,h1]
    have key:∀a b:Bool,(bif(bif(bif true then true else false) then a else false) then b else false)=(true&&(true&&(a&&b))):=by decide
    exact key _ _
theorem xB {p:ab} {x:ak} (h:dx p x=true):(0≤x.1∧x.1<p.1.length)∧0≤x.2∧x.2<cO (aI p x.1):=by
 unfold dx at h
 simp only[Bool.and_eq_true] at h
 exact⟨⟨of_decide_eq_true h.1,of_decide_eq_true h.2.1⟩,of_decide_eq_true h.2.2.1,of_decide_eq_true h.2.2.2⟩
theorem uL {p:ab} {x:ak} (h:dx p x=true):0≤x.2∧x.2≤3:=by
 have h1:=(xB h).2
 have h2:=FO (aI p x.1)
 omega
theorem v227 (p:ab) (x:Int×Int):ai (ah ay []) Tryz.f227 oj (a227 (p,x,())) (p,x,())=(
U (((0:Int),(0:Int)),(0:Int),(0:Int)) fun(y2:(Int×Int)×Int×Int)=>
(∃(fD:Nat),
(fD≤p.2.1.length∧kI (tc x) p.2.1 fD)∧
(↑fD:Int)=(0:Int)∧
aE p (x.1=x.1∧x.2=x.2∧(0:Int)=(0:Int)∧(0:Int)=(0:Int)∧True))∧
∀(s3:Nat),
U (decide ((↑s3:Int)<(↑p.2.1.length:Int))) fun(y4:Bool)=>
U (p.2.1.getD (↑s3:Int).toNat y2) fun(y5:(Int×Int)×Int×Int)=>
U (y5.1.1==x.1&&(y5.1.2==x.2&&true)) fun(y6:Bool)=>
U (y5.2.1==x.1&&(y5.2.2==x.2&&true)) fun(y7:Bool)=>
s3≤p.2.1.length∧kI (tc x) p.2.1 s3→
(y4=true→
aQ (↑s3:Int) p.2.1.length∧
(y6=true→aQ (↑s3:Int) p.2.1.length∧y5.2=(bu p x).1∧true=(bu p x).2∧True)∧
(y6=false→
aQ (↑s3:Int) p.2.1.length∧
(y7=true→aQ (↑s3:Int) p.2.1.length∧y5.1=(bu p x).1∧true=(bu p x).2∧True)∧
(y7=false→
bq IntKind.i64 ((↑s3:Int)+(1:Int))∧
∃(kf:Nat),
(kf≤p.2.1.length∧kI (tc x) p.2.1 kf)∧
p.2.1.length - kf<p.2.1.length - s3∧
(↑kf:Int)=(↑s3:Int)+(1:Int)∧
aE p (x.1=x.1∧x.2=x.2∧(0:Int)=(0:Int)∧(0:Int)=(0:Int)∧True))))∧
(y4=false→((0:Int),(0:Int))=(bu p x).1∧false=(bu p x).2∧True)):=by kernel_rfl
theorem ajw (p:ab) (x:ak) (hw:pO p):ai (ah ay []) Tryz.f227 oj (a227 (p,x,())) (p,x,()):=by
 rw[v227]
 refine U.mk fun y2 e2=> ?_
 simp only[dz,true_and,and_true,Int.toNat_natCast]
 refine⟨⟨0,⟨by omega,rfl⟩,rfl⟩,fun s=>U.mk fun y4 e4=>U.mk fun y5 e5=>U.mk fun y6 e6=>U.mk fun y7 e7=> ?_⟩
 rintro⟨h1,h2⟩
 have h2:(p.2.1.take s).any (tc x)=false:=h2
 have e6:y6=(y5.1==x):=by rw[e6];exact sk _ _
 have e7:y7=(y5.2==x):=by rw[e7];exact sk _ _
 have hj:tc x y5=(y6||y7):=by rw[e6,e7];rfl
 refine⟨fun hs=> ?_,fun hs=> ?_⟩
 ·have hs:=ba e4 hs
  have oE:aQ (s:Int) p.2.1.length:=⟨by omega,by omega⟩
  have hf:tc x y5=true→bu p x=(bif y5.1==x then y5.2 else y5.1,true):=fun h=>by
   have hf:p.2.1.find? (tc x)=some y5:=by
    rw[e5] at h ⊢
    exact C6 y2 hs h2 h
   unfold bu
   exact congrArg (fun o=>xp o x) hf
  refine⟨oE,fun h6=>⟨oE,?_⟩,fun h6=>⟨oE,fun h7=>⟨oE,?_⟩,fun h7=>⟨dr hs hw.2.1,s+1,⟨by omega,?_⟩,by omega,by omega⟩⟩⟩
  ·rw[hf (by rw[hj,h6];rfl),←e6,h6]
   exact⟨rfl,rfl⟩
  ·rw[hf (by rw[hj,h6,h7];rfl),←e6,h6]
   exact⟨rfl,rfl⟩
  ·exact any_succ y2 hs h2 (by rw[←e5,hj,h6,h7];rfl)
 ·have hf:p.2.1.find? (tc x)=none:=xE (br e4 hs) h2
  have:bu p x=((0,0),false):=by
   unfold bu
   exact congrArg (fun o=>xp o x) hf
  rw[this]
  exact⟨rfl,rfl⟩
theorem yJ:aM Tryz.prog 227 oj:=
 aM.bZ (l:=[]) (A:=a227) aH trivial Tryz.func227 (by kernel_rfl) (by kernel_rfl) fun x hw _=>ajw x.1 x.2.1 (k7 hw.1)
theorem o0 {p:ab} {x:ak} (h:(bu p x).2=true):(bu p x).1∈bT p:=by
 unfold bu at h ⊢
 cases hf:p.2.1.find? (fun j=>j.1==x||j.2==x) with
 |none=>rw[hf] at h;cases h
 |some j=>
  have hm:=List.mem_of_find?_eq_some hf
  unfold bT
  rw[List.mem_flatMap]
  refine⟨j,hm,?_⟩
  show(bif j.1==x then j.2 else j.1)∈[j.1,j.2]
  cases j.1==x<;>simp
theorem v229 (p:ab) (x:Int×Int):ai (ah ay []) Tryz.f229 x9 (a229 (p,x,())) (p,x,())=(
(∃(dp:Nat),
(dp≤p.2.2.1.length∧dZ (fB p x) dp)∧
(↑dp:Int)=(0:Int)∧
aE p (x.1=x.1∧x.2=x.2∧True))∧
∀(s2:Nat),
U (decide ((↑s2:Int)<(↑p.2.2.1.length:Int))) fun(y3:Bool)=>
U (p.2.2.1.getD (↑s2:Int).toNat ([],((0:Int),(0:Int)),false)).2.1 fun(y4:Int×Int)=>
U (y4.1==x.1&&(y4.2==x.2&&true)) fun(y5:Bool)=>
s2≤p.2.2.1.length∧dZ (fB p x) s2→
(y3=true→
aQ (↑s2:Int) p.2.2.1.length∧
(y5=true→(↑s2:Int)=b8 p x∧True)∧
(y5=false→
bq IntKind.i64 ((↑s2:Int)+(1:Int))∧
∃(eR:Nat),
(eR≤p.2.2.1.length∧dZ (fB p x) eR)∧
p.2.2.1.length - eR<p.2.2.1.length - s2∧
(↑eR:Int)=(↑s2:Int)+(1:Int)∧
aE p (x.1=x.1∧x.2=x.2∧True)))∧
(y3=false→(-1:Int)=b8 p x∧True)):=by kernel_rfl
theorem ajv (p:ab) (x:ak) (hw:pO p):ai (ah ay []) Tryz.f229 x9 (a229 (p,x,())) (p,x,()):=by
 rw[v229]
 simp only[dz,true_and,and_true,Int.toNat_natCast]
 refine⟨⟨0,⟨by omega,rfl⟩,rfl⟩,fun s=>U.mk fun y3 e3=>U.mk fun y4 e4=>U.mk fun y5 e5=> ?_⟩
 rintro⟨h1,h2⟩
 have h2:cd (fB p x) s=false:=h2
 have e5:fB p x s=y5:=by rw[e5,sk,e4];rfl
 refine⟨fun hs=> ?_,fun hs=> ?_⟩
 ·have hs:=ba e3 hs
  refine⟨⟨by omega,by omega⟩,fun h=> ?_,fun h=>⟨dr hs hw.2.2.1,s+1,⟨by omega,?_⟩,by omega,by omega⟩⟩
  ·unfold b8
   exact(congrArg vR (sr (p:=fB p x) hs h2 (by rw[e5,h]))).symm
  ·exact jV h2 (by rw[e5,h])
 ·have hs:=br e3 hs
  have:s=p.2.2.1.length:=by omega
  subst this
  unfold b8
  exact(congrArg vR (A2 (p:=fB p x) h2)).symm
theorem Q3:aM Tryz.prog 229 x9:=
 aM.bZ (l:=[]) (A:=a229) aH trivial Tryz.func229 (by kernel_rfl) (by kernel_rfl) fun x hw _=>ajv x.1 x.2.1 (k7 hw.1)
theorem v31 (l:List Int) (n:Int):ai (ah ay []) Tryz.f31 wR (a31 (l,n,())) (l,n,())=(
(∃(dp:Nat),(dp≤l.length∧kI (fun(y:Int)=>y==n) l dp)∧(↑dp:Int)=(0:Int)∧l=l∧n=n∧True)∧
∀(s2:Nat),
U (decide ((↑s2:Int)<(↑l.length:Int))) fun(y3:Bool)=>
U (l.getD (↑s2:Int).toNat (0:Int)==n) fun(y4:Bool)=>
s2≤l.length∧kI (fun(y:Int)=>y==n) l s2→
(y3=true→
aQ (↑s2:Int) l.length∧
(y4=true→true=bG l n∧True)∧
(y4=false→
bq IntKind.i64 ((↑s2:Int)+(1:Int))∧
∃(fQ:Nat),(fQ≤l.length∧kI (fun(y:Int)=>y==n) l fQ)∧l.length - fQ<l.length - s2∧(↑fQ:Int)=(↑s2:Int)+(1:Int)∧l=l∧n=n∧True))∧
(y3=false→false=bG l n∧True)):=by kernel_rfl
theorem b31 (l:List Int) (n:Int) (hw:l.length≤aK):ai (ah ay []) Tryz.f31 wR (a31 (l,n,())) (l,n,()):=by
 rw[v31]
 simp only[true_and,and_true,Int.toNat_natCast]
 refine⟨⟨0,⟨by omega,rfl⟩,rfl⟩,fun s=>U.mk fun y3 e3=>U.mk fun y4 e4=> ?_⟩
 rintro⟨h1,h2⟩
 have h2:(l.take s).any (fun y=>y==n)=false:=h2
 refine⟨fun hs=> ?_,fun hs=> ?_⟩
 ·have hs:=ba e3 hs
  refine⟨⟨by omega,by omega⟩,fun h=> ?_,fun h=>⟨dr hs hw,s+1,⟨by omega,?_⟩,by omega,by omega⟩⟩
  ·unfold bG
   exact(pK (p:=fun y=>y==n) 0 hs (by rw[←h,e4])).symm
  ·exact any_succ (p:=fun y=>y==n) 0 hs h2 (by rw[←h,e4])
 ·unfold bG
  exact(n4 (br e3 hs) h2).symm
theorem Kd:aM Tryz.prog 31 wR:=
 aM.bZ (l:=[]) (A:=a31) aH trivial Tryz.func31 (by kernel_rfl) (by kernel_rfl) fun x hw _=>b31 x.1 x.2.1 hw.1.1
theorem af0 (v:Int) (b:Int):ai (ah ay []) Tryz.f230 KW (YW (v,b,())) (v,b,())=(
U (bif bif bif decide (v<(0:Int)) then true else decide (v>(60:Int)) then true else decide (b<(1:Int)) then true else decide (b>(10:Int))) fun(y2:Bool)=>
(y2=true→(0:Int)=mY v b∧True)∧
(y2=false→
bq IntKind.i64 (v - b)∧
(∃(fD:Nat),(fD≤(60:Nat)∧dZ (gK v b) fD)∧v - b*((↑fD:Int)+(1:Int))=v - b∧j5 v b fD=(0:Int)∧b=b∧True)∧
∀(s3:Nat),
U (v - b*((↑s3:Int)+(1:Int))) fun(y4:Int)=>
U (j5 v b s3+y4) fun(y5:Int)=>
s3≤(60:Nat)∧dZ (gK v b) s3→
(decide (y4>(0:Int))=true→
bq IntKind.i64 y5∧
bq IntKind.i64 (y4 - b)∧
∃(eR:Nat),
(eR≤(60:Nat)∧dZ (gK v b) eR)∧(60:Nat) - eR<(60:Nat) - s3∧v - b*((↑eR:Int)+(1:Int))=y4 - b∧j5 v b eR=y5∧b=b∧True)∧
(decide (y4>(0:Int))=false→j5 v b s3=mY v b∧True))):=by kernel_rfl
theorem yq {v b:Int} (hb:1≤b) (k:Nat):b*((k:Int)+1)≥(k:Int)+1:=by
 have:=Int.mul_le_mul_of_nonneg_right hb (show(0:Int)≤(k:Int)+1 by omega)
 rw[Int.one_mul] at this
 exact this
theorem vd {v b:Int} (hv:0≤v∧v≤60) (hb:1≤b):∀k,cd (gK v b) k=false→0≤j5 v b k∧j5 v b k≤60*(k:Int)
 |0,_=>by show(0:Int)≤0∧(0:Int)≤60*((0:Nat):Int);omega
 |k+1,h=>by
  have h':(cd (gK v b) k||gK v b k)=false:=h
  rw[Bool.or_eq_false_iff] at h'
  obtain⟨i1,i2⟩:=vd hv hb k h'.1
  have h2:=of_decide_eq_false h'.2
  have h3:=yq (v:=v) hb k
  show 0≤j5 v b k+(v - b*((k:Int)+1))∧j5 v b k+(v - b*((k:Int)+1))≤60*((k+1:Nat):Int)
  generalize b*((k:Int)+1)=q at *
  omega
theorem aju (v:Int) (b:Int):ai (ah ay []) Tryz.f230 KW (YW (v,b,())) (v,b,()):=by
 rw[af0]
 refine U.mk fun y2 e2=> ?_
 simp only[true_and,and_true,Int.toNat_natCast]
 have e2:y2= !(rh 0 60 v&&rh 1 10 b):=by
  rw[e2,Ga,Ng,Ga,Ng]
  unfold rh
  have key:∀a b c d:Bool,(bif(bif(bif !a then true else !b) then true else !c) then true else !d)= !((a&&b)&&(c&&d)):=by decide
  exact key _ _ _ _
 refine⟨fun h=> ?_,fun h=> ?_⟩
 ·rw[e2] at h
  simp only[Bool.not_eq_true'] at h
  unfold mY
  rw[h]
  rfl
 rw[e2] at h
 simp only[Bool.not_eq_false'] at h
 have hS:mY v b=j5 v b (qv v b):=by
  unfold mY
  rw[h]
  rfl
 rw[Bool.and_eq_true] at h
 unfold rh at h
 rw[Bool.and_eq_true,Bool.and_eq_true] at h
 obtain⟨⟨h1,h2⟩,h3,h4⟩:=h
 have h1:=of_decide_eq_true h1
 have h2:=of_decide_eq_true h2
 have h3:=of_decide_eq_true h3
 have h4:=of_decide_eq_true h4
 refine⟨bg (by omega) (by omega),⟨0,⟨by omega,rfl⟩,by simp,rfl⟩,fun s=>U.mk fun y4 e4=>U.mk fun y5 e5=> ?_⟩
 rintro⟨g1,g2⟩
 have g2:cd (gK v b) s=false:=g2
 have hr:=vd ⟨h1,h2⟩ h3 s g2
 have hq:=yq (v:=v) h3 s
 refine⟨fun h=> ?_,fun h=> ?_⟩
 ·have h:=of_decide_eq_true h
  refine⟨bg (by omega) (by omega),bg (by omega) (by omega),s+1,⟨by omega,?_⟩,by omega,?_,?_⟩
  ·exact jV g2 (decide_eq_false (by omega))
  ·have:((s+1:Nat):Int)=(s:Int)+1:=by omega
   rw[this,e4,Int.mul_add b ((s:Int)+1) 1,Int.mul_one]
   omega
  ·rw[e5,e4]
   rfl
 ·have h:=of_decide_eq_false h
  have:qv v b=s:=by
   unfold qv
   have:=sr (p:=gK v b) (n:=100) (k:=s) (by omega) g2 (decide_eq_true (by omega))
   exact congrArg (fun o=>Option.getD o 0) this
  rw[hS,this]
theorem acn:aM Tryz.prog 230 KW:=
 aM.bZ (l:=[]) (A:=YW) aH trivial Tryz.func230 (by kernel_rfl) (by kernel_rfl) fun x hw _=>aju x.1 x.2.1
theorem C8 (v b:Int):0≤mY v b∧mY v b≤10000:=by
 unfold mY
 cases h:(rh 0 60 v&&rh 1 10 b) with
 |false=>exact⟨Int.le_refl 0,show(0:Int)≤10000 by decide⟩
 |true=>
  rw[Bool.and_eq_true] at h
  unfold rh at h
  rw[Bool.and_eq_true,Bool.and_eq_true] at h
  obtain⟨⟨h1,h2⟩,h3,h4⟩:=h
  have h1:=of_decide_eq_true h1
  have h2:=of_decide_eq_true h2
  have h3:=of_decide_eq_true h3
  show 0≤j5 v b (qv v b)∧j5 v b (qv v b)≤10000
  have hk:qv v b≤99∧cd (gK v b) (qv v b)=false:=by
   unfold qv
   cases hf:gA (fun k=>decide (v - b*((k:Int)+1)≤0)) 100 with
   |none=>exact⟨by decide,rfl⟩
   |some k=>
    have h5:=(A1 hf).1
    refine⟨by show k≤99;omega,?_⟩
    show cd (gK v b) k=false
    rw[iS]
    intro i hi
    unfold gA at hf
    rw[List.find?_range_eq_some] at hf
    have:=hf.2.2 i hi
    simp only[Bool.not_eq_true'] at this
    exact this
  have:=vd ⟨h1,h2⟩ h3 _ hk.2
  omega
theorem afQ (p:ab) (e:Int) (i:Int):ai (ah ay [(205,A4),(228,pg)]) Tryz.f254 FT aq (p,e,i,())=(
U (!dx p (e,i)) fun(y3:Bool)=>
True∧
(y3=true→[]=bF p e i∧True)∧
(y3=false→
True∧
((aI p e==(1:Int))=true→bq IntKind.i64 ((1:Int) - i)∧(List.replicate (1:Nat) ((0:Int),(0:Int))).set (0:Nat) ((1:Int) - i,(0:Int))=bF p e i∧True)∧
((aI p e==(1:Int))=false→
((aI p e==(3:Int))=true→(List.replicate (1:Nat) ((0:Int),(0:Int))).set (0:Nat) (bitsOf BinOp.xor IntKind.i64 i (1:Int),(0:Int))=bF p e i∧True)∧
((aI p e==(3:Int))=false→
((aI p e==(2:Int))=true→
((i==(0:Int))=true→((List.replicate (2:Nat) ((0:Int),(0:Int))).set (0:Nat) ((1:Int),(1:Int))).set (1:Nat) ((2:Int),(2:Int))=bF p e i∧True)∧
((i==(0:Int))=false→(List.replicate (1:Nat) ((0:Int),(0:Int))).set (0:Nat) ((0:Int),i)=bF p e i∧True))∧
((aI p e==(2:Int))=false→[]=bF p e i∧True))))):=by kernel_rfl
theorem Qw {i:Int} (he:0≤i∧i≤3):bitsOf BinOp.xor IntKind.i64 i 1=tk i:=by
 have hc:i=0∨i=1∨i=2∨i=3:=by omega
 rcases hc with rfl|rfl|rfl|rfl<;>decide
theorem WV:aM Tryz.prog 254 FT:=
 aM.bZ (l:=[(205,A4),(228,pg)]) (A:=fun _=>aq) aH ⟨Rb,Bo,trivial⟩ Tryz.func254 (by kernel_rfl) (by kernel_rfl) fun x _ hp=>by
  obtain⟨p,e,i,⟨⟩⟩:=x
  rw[afQ]
  refine U.mk fun y3 e3=>⟨trivial,fun h=>⟨?_,trivial⟩,fun h=> ?_⟩
  ·unfold bF
   rw[←e3,h]
   rfl
  rw[e3] at h
  have hh:dx p (e,i)=true:=by simpa using h
  have he:=uL hh
  have he:0≤i∧i≤3:=he
  refine⟨trivial,fun h1=>⟨bg (by omega) (by omega),?_,trivial⟩,fun h1=>⟨fun h3=>⟨?_,trivial⟩,fun h3=>⟨fun h2=>⟨fun h0=>⟨?_,trivial⟩,fun h0=>⟨?_,trivial⟩⟩,fun h2=>⟨?_,trivial⟩⟩⟩⟩
  ·unfold bF
   rw[h,h1]
   rfl
  ·unfold bF
   rw[h,h1,h3]
   rw[Qw he]
   rfl
  ·unfold bF
   rw[h,h1,h3,h2,h0]
   rfl
  ·unfold bF
   rw[h,h1,h3,h2,h0]
   rfl
  ·unfold bF
   rw[h,h1,h3,h2]
   rfl
theorem zV (p:ab) (e i:Int):(bF p e i).length≤2:=by
 unfold bF
 cases !dx p (e,i)<;>cases aI p e==1<;>cases aI p e==3<;>cases aI p e==2<;>cases i==0<;>simp
theorem afI (p:ab) (e:Int) (i:Int) (pos:Int):ai (ah ay [(254,FT)]) Tryz.f271 KK (YQ (p,e,i,pos,())) (p,e,i,pos,())=(
U (cw p e i pos).1 fun(y4:Int)=>
U (cw p e i pos).2 fun(y5:Bool)=>
True∧
(∃(lx:Nat),(lx≤(bF p e i).length∧kI (jf pos) (bF p e i) lx)∧(↑lx:Int)=(0:Int)∧pos=pos∧bF p e i=bF p e i∧True)∧
∀(s6:Nat),
U (decide ((↑s6:Int)<(↑(bF p e i).length:Int))) fun(y7:Bool)=>
U ((bF p e i).getD (↑s6:Int).toNat ((0:Int),(0:Int))) fun(y8:Int×Int)=>
U (bif y8.2==(0:Int) then true else y8.2==pos) fun(y9:Bool)=>
s6≤(bF p e i).length∧kI (jf pos) (bF p e i) s6→
(y7=true→
aQ (↑s6:Int) (bF p e i).length∧
((y8.2==(0:Int))=false→aQ (↑s6:Int) (bF p e i).length)∧
(y9=true→aQ (↑s6:Int) (bF p e i).length∧y8.1=y4∧true=y5∧True)∧
(y9=false→
bq IntKind.i64 ((↑s6:Int)+(1:Int))∧
∃(cU:Nat),
(cU≤(bF p e i).length∧kI (jf pos) (bF p e i) cU)∧
(bF p e i).length - cU<(bF p e i).length - s6∧(↑cU:Int)=(↑s6:Int)+(1:Int)∧pos=pos∧bF p e i=bF p e i∧True))∧
(y7=false→(0:Int)=y4∧false=y5∧True)):=by kernel_rfl
theorem ajg (p:ab) (e:Int) (i:Int) (pos:Int):ai (ah ay [(254,FT)]) Tryz.f271 KK (YQ (p,e,i,pos,())) (p,e,i,pos,()):=by
 have hl:=zV p e i
 rw[afI]
 refine U.mk fun y4 e4=>U.mk fun y5 e5=> ?_
 simp only[true_and,and_true,Int.toNat_natCast]
 refine⟨⟨0,⟨by omega,rfl⟩,rfl⟩,fun s=>U.mk fun y7 e7=>U.mk fun y8 e8=>U.mk fun y9 e9=> ?_⟩
 rintro⟨h1,h2⟩
 have h2:((bF p e i).take s).any (jf pos)=false:=h2
 have e9:jf pos y8=y9:=by
  rw[e9]
  unfold jf
  have key:∀a b:Bool,(a||b)=(bif a then true else b):=by decide
  exact key _ _
 refine⟨fun hs=> ?_,fun hs=> ?_⟩
 ·have hs:=ba e7 hs
  have oE:aQ (s:Int) (bF p e i).length:=⟨by omega,by omega⟩
  refine⟨oE,fun _=>oE,fun h=>⟨oE,?_⟩,fun h=>⟨bg (by omega) (by omega),s+1,⟨by omega,?_⟩,by omega,by omega⟩⟩
  ·have hf:(bF p e i).find? (jf pos)=some y8:=by
    rw[e8]
    exact C6 (0,0) hs h2 (by rw[←e8,e9,h])
   have:cw p e i pos=(y8.1,true):=by
    unfold cw
    exact congrArg GV hf
   rw[e4,e5,this]
   exact⟨rfl,rfl⟩
  ·exact any_succ (0,0) hs h2 (by rw[←e8,e9,h])
 ·have hf:(bF p e i).find? (jf pos)=none:=xE (br e7 hs) h2
  have:cw p e i pos=(0,false):=by
   unfold cw
   exact congrArg GV hf
  rw[e4,e5,this]
  exact⟨rfl,rfl⟩
theorem ab7:aM Tryz.prog 271 KK:=
 aM.bZ (l:=[(254,FT)]) (A:=YQ) aH ⟨WV,trivial⟩ Tryz.func271 (by kernel_rfl) (by kernel_rfl) fun x _ _=>ajg x.1 x.2.1 x.2.2.1 x.2.2.2.1
theorem afM (p:ab) (e:Int) (out:Int) (pos:Int):ai (ah ay [(228,pg),(226,A3),(271,KK)]) Tryz.f258 KO (YS (p,e,out,pos,())) (p,e,out,pos,())=(
U (mi p e out pos).1 fun(y4:Int)=>
U (mi p e out pos).2 fun(y5:Bool)=>
(∃(lx:Nat),
(lx≤(cO (aI p e)).toNat∧dZ (te p e out pos) lx)∧
(↑lx:Int)=(0:Int)∧
e=e∧
out=out∧
pos=pos∧
aE p (True))∧
∀(s6:Nat),
U (decide ((↑s6:Int)<cO (aI p e))) fun(y7:Bool)=>
U (cw p e (↑s6:Int) pos) fun(y8:Int×Bool)=>
U (bif y8.2 then y8.1==out else false) fun(y9:Bool)=>
s6≤(cO (aI p e)).toNat∧dZ (te p e out pos) s6→
True∧
True∧
(y7=true→
True∧
(y9=true→(↑s6:Int)=y4∧true=y5∧True)∧
(y9=false→
bq IntKind.i64 ((↑s6:Int)+(1:Int))∧
∃(cU:Nat),
(cU≤(cO (aI p e)).toNat∧dZ (te p e out pos) cU)∧
(cO (aI p e)).toNat - cU<(cO (aI p e)).toNat - s6∧
(↑cU:Int)=(↑s6:Int)+(1:Int)∧
e=e∧
out=out∧
pos=pos∧
aE p (True)))∧
(y7=false→(0:Int)=y4∧false=y5∧True)):=by kernel_rfl
theorem ajj (p:ab) (e:Int) (out:Int) (pos:Int):ai (ah ay [(228,pg),(226,A3),(271,KK)]) Tryz.f258 KO (YS (p,e,out,pos,())) (p,e,out,pos,()):=by
 have hr:=FO (aI p e)
 rw[afM]
 refine U.mk fun y4 e4=>U.mk fun y5 e5=> ?_
 simp only[dz,true_and,and_true,Int.toNat_natCast]
 refine⟨⟨0,⟨by omega,rfl⟩,rfl⟩,fun s=>U.mk fun y7 e7=>U.mk fun y8 e8=>U.mk fun y9 e9=> ?_⟩
 rintro⟨h1,h2⟩
 have h2:cd (te p e out pos) s=false:=h2
 have e9:te p e out pos s=y9:=by
  rw[e9,e8]
  unfold te
  have key:∀a b:Bool,(a&&b)=(bif a then b else false):=by decide
  exact key _ _
 refine⟨fun hs=> ?_,fun hs=> ?_⟩
 ·rw[e7] at hs
  have hs:=of_decide_eq_true hs
  have hs:s<(cO (aI p e)).toNat:=by omega
  refine⟨fun h=> ?_,fun h=>⟨bg (by omega) (by omega),s+1,⟨by omega,?_⟩,by omega,by omega⟩⟩
  ·have:mi p e out pos=((s:Int),true):=by
    unfold mi
    exact congrArg FD (sr (p:=te p e out pos) hs h2 (by rw[e9,h]))
   rw[e4,e5,this]
   exact⟨rfl,rfl⟩
  ·exact jV h2 (by rw[e9,h])
 ·rw[e7] at hs
  have hs:=of_decide_eq_false hs
  have:s=(cO (aI p e)).toNat:=by omega
  subst this
  have:mi p e out pos=(0,false):=by
   unfold mi
   exact congrArg FD (A2 (p:=te p e out pos) h2)
  rw[e4,e5,this]
  exact⟨rfl,rfl⟩
theorem aca:aM Tryz.prog 258 KO:=
 aM.bZ (l:=[(228,pg),(226,A3),(271,KK)]) (A:=YS) aH ⟨Bo,Q4,ab7,trivial⟩ Tryz.func258 (by kernel_rfl) (by kernel_rfl) fun x _ _=>ajj x.1 x.2.1 x.2.2.1 x.2.2.2.1
theorem v154 (l:List (List UInt8)):ai (ah ay []) Tryz.f154 Lw (a154 (l,())) (l,())=(
(∃(py:Nat),(py≤l.length∧dZ (fun(i:Nat)=>cd (jq l i) i) py)∧(↑py:Int)=(0:Int)∧l=l∧True)∧
∀(s1:Nat),
U (decide ((↑s1:Int)<(↑l.length:Int))) fun(y2:Bool)=>
s1≤l.length∧dZ (fun(i:Nat)=>cd (jq l i) i) s1→
(y2=true→
(∃(fD:Nat),(fD≤(↑s1:Int).toNat∧dZ (jq l (↑s1:Int).toNat) fD)∧(↑fD:Int)=(0:Int)∧l=l∧(↑s1:Int)=(↑s1:Int)∧True)∧
∀(s3:Nat),
U (decide ((↑s3:Int)<(↑s1:Int))) fun(y4:Bool)=>
U (l.getD (↑s1:Int).toNat []==l.getD (↑s3:Int).toNat []) fun(y5:Bool)=>
s3≤(↑s1:Int).toNat∧dZ (jq l (↑s1:Int).toNat) s3→
(y4=true→
aQ (↑s1:Int) l.length∧
aQ (↑s3:Int) l.length∧
(y5=true→true=dR l∧True)∧
(y5=false→
bq IntKind.i64 ((↑s3:Int)+(1:Int))∧
∃(eR:Nat),
(eR≤(↑s1:Int).toNat∧dZ (jq l (↑s1:Int).toNat) eR)∧
(↑s1:Int).toNat - eR<(↑s1:Int).toNat - s3∧(↑eR:Int)=(↑s3:Int)+(1:Int)∧l=l∧(↑s1:Int)=(↑s1:Int)∧True))∧
(y4=false→
bq IntKind.i64 ((↑s1:Int)+(1:Int))∧
∃(eR:Nat),
(eR≤l.length∧dZ (fun(i:Nat)=>cd (jq l i) i) eR)∧l.length - eR<l.length - s1∧(↑eR:Int)=(↑s1:Int)+(1:Int)∧l=l∧True))∧
(y2=false→false=dR l∧True)):=by kernel_rfl
theorem ajU (l:List nS) (hw:l.length≤aK):ai (ah ay []) Tryz.f154 Lw (a154 (l,())) (l,()):=by
 rw[v154]
 simp only[true_and,and_true,Int.toNat_natCast]
 refine⟨⟨0,⟨by omega,rfl⟩,rfl⟩,fun s=>U.mk fun y2 e2=> ?_⟩
 rintro⟨h1,h2⟩
 have h2:cd (fun i=>cd (jq l i) i) s=false:=h2
 refine⟨fun hs=> ?_,fun hs=> ?_⟩
 ·have hs:=ba e2 hs
  refine⟨⟨0,⟨by omega,rfl⟩,rfl⟩,fun t=>U.mk fun y4 e4=>U.mk fun y5 e5=> ?_⟩
  rintro⟨g1,g2⟩
  have g2:cd (jq l s) t=false:=g2
  refine⟨fun ht=> ?_,fun ht=> ?_⟩
  ·have ht:=ba e4 ht
   refine⟨⟨by omega,by omega⟩,⟨by omega,by omega⟩,fun h=> ?_,fun h=>⟨dr (n:=l.length) (by omega) hw,t+1,⟨by omega,?_⟩,by omega,by omega⟩⟩
   ·unfold dR
    exact(nL (p:=fun i=>cd (jq l i) i) hs (nL ht (by rw[←h,e5];rfl))).symm
   ·exact jV g2 (by rw[←h,e5];rfl)
  ·have ht:=br e4 ht
   have:t=s:=by omega
   subst this
   refine⟨dr hs hw,t+1,⟨by omega,?_⟩,by omega,by omega⟩
   exact jV (p:=fun i=>cd (jq l i) i) h2 g2
 ·have hs:=br e2 hs
  have:s=l.length:=by omega
  subst this
  unfold dR
  exact h2.symm
theorem ac7:aM Tryz.prog 154 Lw:=
 aM.bZ (l:=[]) (A:=a154) aH trivial Tryz.func154 (by kernel_rfl) (by kernel_rfl) fun x hw _=>ajU x.1 hw.1.1
theorem v152 (p:ab):ai (ah ay []) Tryz.f152 Ly (a152 (p,())) (p,())=(
U ([],((0:Int),(0:Int)),false) fun(y1:List UInt8×(Int×Int)×Bool)=>
(∃(dp:Nat),
dp≤p.1.length∧
(↑dp:Int)=(0:Int)∧
List.map (fun(e:mq)=>e.1) (List.take dp p.1)=[]∧
aE p (True))∧
∀(s2:Nat),
U (decide ((↑s2:Int)<(↑p.1.length:Int))) fun(y3:Bool)=>
U (List.map (fun(e:mq)=>e.1) (List.take s2 p.1)) fun(y4:List (List UInt8))=>
U ((List.replicate (1:Nat) []).set (0:Nat) (p.1.getD (↑s2:Int).toNat ([],(0:Int),(0:Int))).1) fun(y5:List (List UInt8))=>
s2≤p.1.length→
(y3=true→
aQ (↑s2:Int) p.1.length∧
roomFor (y4.length+y5.length) (16:Nat)∧
bq IntKind.i64 ((↑s2:Int)+(1:Int))∧
∃(eR:Nat),
eR≤p.1.length∧
p.1.length - eR<p.1.length - s2∧
(↑eR:Int)=(↑s2:Int)+(1:Int)∧
List.map (fun(e:mq)=>e.1) (List.take eR p.1)=y4++y5∧
aE p (True))∧
(y3=false→
(∃(lx:Nat),
lx≤p.2.2.1.length∧
(↑lx:Int)=(0:Int)∧
List.map (fun(e:gw)=>e.1) (List.take lx p.2.2.1)=[]∧
aE p (y4=y4∧True))∧
∀(s6:Nat),
U (decide ((↑s6:Int)<(↑p.2.2.1.length:Int))) fun(y7:Bool)=>
U (List.map (fun(e:gw)=>e.1) (List.take s6 p.2.2.1)) fun(y8:List (List UInt8))=>
U ((List.replicate (1:Nat) []).set (0:Nat) (p.2.2.1.getD (↑s6:Int).toNat y1).1) fun(y9:List (List UInt8))=>
s6≤p.2.2.1.length→
(y7=true→
aQ (↑s6:Int) p.2.2.1.length∧
roomFor (y8.length+y9.length) (16:Nat)∧
bq IntKind.i64 ((↑s6:Int)+(1:Int))∧
∃(cU:Nat),
cU≤p.2.2.1.length∧
p.2.2.1.length - cU<p.2.2.1.length - s6∧
(↑cU:Int)=(↑s6:Int)+(1:Int)∧
List.map (fun(e:gw)=>e.1) (List.take cU p.2.2.1)=y8++y9∧
aE p (y4=y4∧True))∧
(y7=false→
(∃(ox:Nat),
ox≤p.2.2.2.1.length∧
(↑ox:Int)=(0:Int)∧
List.map (fun(e:ll)=>e.1) (List.take ox p.2.2.2.1)=[]∧
aE p (y4=y4∧y8=y8∧True))∧
∀(iU:Nat),
U (decide ((↑iU:Int)<(↑p.2.2.2.1.length:Int))) fun(bI:Bool)=>
U (List.map (fun(e:ll)=>e.1) (List.take iU p.2.2.2.1)) fun(aw:List (List UInt8))=>
U ((List.replicate (1:Nat) []).set (0:Nat) (p.2.2.2.1.getD (↑iU:Int).toNat ([],[])).1) fun(cb:List (List UInt8))=>
iU≤p.2.2.2.1.length→
(bI=true→
aQ (↑iU:Int) p.2.2.2.1.length∧
roomFor (aw.length+cb.length) (16:Nat)∧
bq IntKind.i64 ((↑iU:Int)+(1:Int))∧
∃(ob:Nat),
ob≤p.2.2.2.1.length∧
p.2.2.2.1.length - ob<p.2.2.2.1.length - iU∧
(↑ob:Int)=(↑iU:Int)+(1:Int)∧
List.map (fun(e:ll)=>e.1) (List.take ob p.2.2.2.1)=aw++cb∧
aE p (y4=y4∧y8=y8∧True))∧
(bI=false→
y4=List.map (fun(e:mq)=>e.1) p.1∧
y8=List.map (fun(s:gw)=>s.1) p.2.2.1∧aw=List.map (fun(l:ll)=>l.1) p.2.2.2.1∧True)))):=by kernel_rfl
theorem ajW (p:ab) (hp:D9 p):ai (ah ay []) Tryz.f152 Ly (a152 (p,())) (p,()):=by
 obtain⟨p1,p2,p3⟩:=hp
 rw[v152]
 refine U.mk fun y1 e1=> ?_
 simp only[dz,true_and,and_true,Int.toNat_natCast]
 refine⟨⟨0,by omega,rfl,rfl⟩,fun s=>U.mk fun y3 e3=>U.mk fun y4 e4=>U.mk fun y5 e5=> ?_⟩
 intro hs
 have e5:y5=[(p.1.getD s zE).1]:=e5
 refine⟨fun h=> ?_,fun h=> ?_⟩
 ·have h:=ba e3 h
  refine⟨⟨by omega,by omega⟩,c6 (by rw[e4,e5];simp;omega) (by omega),bg (by omega) (by omega),s+1,by omega,by omega,by omega,?_⟩
  rw[nW _ zE h,e4,e5]
 have a1:=tu e3 h
 refine⟨⟨0,by omega,rfl,rfl⟩,fun t=>U.mk fun y7 e7=>U.mk fun y8 e8=>U.mk fun y9 e9=> ?_⟩
 intro ht
 have e9:y9=[(p.2.2.1.getD t zS).1]:=by rw[e9,e1];rfl
 refine⟨fun h=> ?_,fun h=> ?_⟩
 ·have h:=ba e7 h
  refine⟨⟨by omega,by omega⟩,c6 (by rw[e8,e9];simp;omega) (by omega),bg (by omega) (by omega),t+1,by omega,by omega,by omega,?_⟩
  rw[nW _ zS h,e8,e9]
 have a2:=tu e7 h
 refine⟨⟨0,by omega,rfl,rfl⟩,fun u=>U.mk fun bI eH=>U.mk fun aw dM=>U.mk fun cb hX=> ?_⟩
 intro hu
 have hX:cb=[(p.2.2.2.1.getD u zL).1]:=hX
 refine⟨fun h=> ?_,fun h=> ?_⟩
 ·have h:=ba eH h
  refine⟨⟨by omega,by omega⟩,c6 (by rw[dM,hX];simp;omega) (by omega),bg (by omega) (by omega),u+1,by omega,by omega,by omega,?_⟩
  rw[nW _ zL h,dM,hX]
 have a3:=tu eH h
 rw[e4,e8,dM,a1,a2,a3]
 exact⟨rfl,rfl,rfl⟩
theorem ac9:aM Tryz.prog 152 Ly:=
 aM.bZ (l:=[]) (A:=a152) aH trivial Tryz.func152 (by kernel_rfl) (by kernel_rfl) fun x _ hp=>ajW x.1 hp
theorem agy (p:ab):ai (ah ay [(224,P5),(225,KX),(226,A3)]) Tryz.f153 Lx (Y6 (p,())) (p,())=(
U (!rh (1:Int) (60:Int) p.2.2.2.2.1) fun(y1:Bool)=>
U (bif y1 then true else !rh (1:Int) (10:Int) p.2.2.2.2.2.1) fun(y2:Bool)=>
U (bif y2 then true else !rh (1:Int) (4000:Int) p.2.2.2.2.2.2.1) fun(y3:Bool)=>
U (bif bif y3 then true else !rh (1:Int) (20:Int) p.2.2.2.2.2.2.2.1 then true else(↑p.1.length:Int)==(0:Int)) fun(y4:Bool)=>
True∧
(y1=false→True)∧
(y2=false→True)∧
(y3=false→True)∧
(y4=true→false=fArgs p∧True)∧
(y4=false→
(∃(sW:Nat),
(sW≤p.1.length∧fe gB p.1 sW)∧
(↑sW:Int)=(0:Int)∧
aE p (True))∧
∀(s5:Nat),
U (decide ((↑s5:Int)<(↑p.1.length:Int))) fun(y6:Bool)=>
U (p.1.getD (↑s5:Int).toNat ([],(0:Int),(0:Int))) fun(y7:List UInt8×Int×Int)=>
U (bif bif !kq y7.1 then true else cO y7.2.1==(0:Int) then true else bif y7.2.1==(4:Int) then y7.2.2 !=(0:Int) else false)
fun(y8:Bool)=>
U (bif y8 then true else bif y7.2.1 !=(4:Int) then !rh (1:Int) (4000:Int) y7.2.2 else false) fun(y9:Bool)=>
s5≤p.1.length∧fe gB p.1 s5→
(y6=true→
aQ (↑s5:Int) p.1.length∧
True∧
((!kq y7.1)=false→True)∧
(y8=false→(y7.2.1 !=(4:Int))=true→True)∧
(y9=true→false=fArgs p∧True)∧
(y9=false→
bq IntKind.i64 ((↑s5:Int)+(1:Int))∧
∃(cU:Nat),
(cU≤p.1.length∧fe gB p.1 cU)∧
p.1.length - cU<p.1.length - s5∧
(↑cU:Int)=(↑s5:Int)+(1:Int)∧
aE p (True)))∧
(y6=false→
(∃(ox:Nat),
(ox≤p.2.2.1.length∧fe kY p.2.2.1 ox)∧
(↑ox:Int)=(0:Int)∧
aE p (True))∧
∀(iU:Nat),
U (decide ((↑iU:Int)<(↑p.2.2.1.length:Int))) fun(bI:Bool)=>
U (!kq (p.2.2.1.getD (↑iU:Int).toNat ([],((0:Int),(0:Int)),false)).1) fun(aw:Bool)=>
iU≤p.2.2.1.length∧fe kY p.2.2.1 iU→
(bI=true→
aQ (↑iU:Int) p.2.2.1.length∧
True∧
(aw=true→false=fArgs p∧True)∧
(aw=false→
bq IntKind.i64 ((↑iU:Int)+(1:Int))∧
∃(fN:Nat),
(fN≤p.2.2.1.length∧fe kY p.2.2.1 fN)∧
p.2.2.1.length - fN<p.2.2.1.length - iU∧
(↑fN:Int)=(↑iU:Int)+(1:Int)∧
aE p (True)))∧
(bI=false→
(∃(iy:Nat),
(iy≤p.2.2.2.1.length∧fe jt p.2.2.2.1 iy)∧
(↑iy:Int)=(0:Int)∧
aE p (True))∧
∀(bM:Nat),
U (decide ((↑bM:Int)<(↑p.2.2.2.1.length:Int))) fun(cW:Bool)=>
U (!kq (p.2.2.2.1.getD (↑bM:Int).toNat ([],[])).1) fun(bz:Bool)=>
bM≤p.2.2.2.1.length∧fe jt p.2.2.2.1 bM→
(cW=true→
aQ (↑bM:Int) p.2.2.2.1.length∧
True∧
(bz=true→false=fArgs p∧True)∧
(bz=false→
bq IntKind.i64 ((↑bM:Int)+(1:Int))∧
∃(SU:Nat),
(SU≤p.2.2.2.1.length∧fe jt p.2.2.2.1 SU)∧
p.2.2.2.1.length - SU<p.2.2.2.1.length - bM∧
(↑SU:Int)=(↑bM:Int)+(1:Int)∧
aE p (True)))∧
(cW=false→true=fArgs p∧True))))):=by kernel_rfl
theorem VH:∀n z g l0 f:Bool,(n&&(!z&&(bif g then l0 else f)))= !(bif(bif(bif !n then true else z) then true else(bif g then !l0 else false)) then true else(bif !g then !f else false)):=by decide
theorem ajV (p:ab) (hw:pO p):ai (ah ay [(224,P5),(225,KX),(226,A3)]) Tryz.f153 Lx (Y6 (p,())) (p,()):=by
 rw[agy]
 refine U.mk fun y1 e1=>U.mk fun y2 e2=>U.mk fun y3 e3=>U.mk fun y4 e4=> ?_
 simp only[dz,true_and,and_true,Int.toNat_natCast]
 have hN:oH p= !y4:=by
  rw[e4,e3,e2,e1,FM _ 0 0 rfl]
  unfold oH
  have key:∀a b c d e:Bool,(a&&(b&&(c&&(d&& !e))))= !(bif(bif(bif(bif !a then true else !b) then true else !c) then true else !d) then true else e):=by decide
  exact key _ _ _ _ _
 refine⟨fun _=>trivial,fun _=>trivial,fun _=>trivial,fun h=> ?_,fun h=> ?_⟩
 ·unfold fArgs
  rw[hN,h]
  rfl
 have hA:fArgs p=(p.1.all gB&&(p.2.2.1.all kY&&p.2.2.2.1.all jt)):=by
  unfold fArgs
  rw[hN,h]
  rfl
 rw[hA]
 refine⟨⟨0,⟨by omega,rfl⟩,rfl⟩,fun s=>U.mk fun y6 e6=>U.mk fun y7 e7=>U.mk fun y8 e8=>U.mk fun y9 e9=> ?_⟩
 rintro⟨h1,h2⟩
 have h2:(p.1.take s).all gB=true:=h2
 have e7:y7=p.1.getD s zE:=e7
 have hE:gB y7= !y9:=by
  rw[e9,e8,iH,iH]
  unfold gB
  exact VH _ _ _ _ _
 refine⟨fun h=> ?_,fun h=> ?_⟩
 ·have h:=ba e6 h
  refine⟨⟨by omega,by omega⟩,fun _=>trivial,fun _ _=>trivial,fun h9=> ?_,fun h9=>⟨dr h hw.1,s+1,⟨by omega,?_⟩,by omega,by omega⟩⟩
  ·rw[mG zE h (by rw[←e7,hE,h9];rfl)]
   rfl
  ·exact all_succ zE h h2 (by rw[←e7,hE,h9];rfl)
 rw[jx (br e6 h) h2,Bool.true_and]
 refine⟨⟨0,⟨by omega,rfl⟩,rfl⟩,fun t=>U.mk fun bI eH=>U.mk fun aw dM=> ?_⟩
 rintro⟨h1,h2⟩
 have h2:(p.2.2.1.take t).all kY=true:=h2
 have dM:kY (p.2.2.1.getD t zS)= !aw:=by rw[dM,Bool.not_not];rfl
 refine⟨fun h=> ?_,fun h=> ?_⟩
 ·have h:=ba eH h
  refine⟨⟨by omega,by omega⟩,fun h9=> ?_,fun h9=>⟨dr h hw.2.2.1,t+1,⟨by omega,?_⟩,by omega,by omega⟩⟩
  ·rw[mG zS h (by rw[dM,h9];rfl)]
   rfl
  ·exact all_succ zS h h2 (by rw[dM,h9];rfl)
 rw[jx (br eH h) h2,Bool.true_and]
 refine⟨⟨0,⟨by omega,rfl⟩,rfl⟩,fun u=>U.mk fun cW jG=>U.mk fun bz gJ=> ?_⟩
 rintro⟨h1,h2⟩
 have h2:(p.2.2.2.1.take u).all jt=true:=h2
 have gJ:jt (p.2.2.2.1.getD u zL)= !bz:=by rw[gJ,Bool.not_not];rfl
 refine⟨fun h=> ?_,fun h=> ?_⟩
 ·have h:=ba jG h
  refine⟨⟨by omega,by omega⟩,fun h9=> ?_,fun h9=>⟨dr h hw.2.2.2,u+1,⟨by omega,?_⟩,by omega,by omega⟩⟩
  ·rw[mG zL h (by rw[gJ,h9];rfl)]
  ·exact all_succ zL h h2 (by rw[gJ,h9];rfl)
 rw[jx (br jG h) h2]
theorem ac8:aM Tryz.prog 153 Lx:=
 aM.bZ (l:=[(224,P5),(225,KX),(226,A3)]) (A:=Y6) aH ⟨acp,aco,Q4,trivial⟩ Tryz.func153 (by kernel_rfl) (by kernel_rfl) fun x hw hp=>ajV x.1 (k7 hw.1)
theorem Su {p:ab} (h:fArgs p=true):oH p=true:=by
 unfold fArgs at h
 rw[Bool.and_eq_true] at h
 exact h.1
theorem agx (p:ab):ai (ah ay [(205,A4),(227,oj),(228,pg)]) Tryz.f155 Lv (Y5 (p,())) (p,())=(
U (((0:Int),(0:Int)),(0:Int),(0:Int)) fun(y1:(Int×Int)×Int×Int)=>
(∃(dp:Nat),
dp≤p.2.1.length∧
(↑dp:Int)=(0:Int)∧
List.flatMap (fun(j:nf)=>[j.1,j.2]) (List.take dp p.2.1)=[]∧
aE p (True))∧
∀(s2:Nat),
U (decide ((↑s2:Int)<(↑p.2.1.length:Int))) fun(y3:Bool)=>
U (List.flatMap (fun(j:nf)=>[j.1,j.2]) (List.take s2 p.2.1)) fun(y4:List (Int×Int))=>
U (p.2.1.getD (↑s2:Int).toNat y1) fun(y5:(Int×Int)×Int×Int)=>
U (((List.replicate (2:Nat) ((0:Int),(0:Int))).set (0:Nat) y5.1).set (1:Nat) y5.2) fun(y6:List (Int×Int))=>
s2≤p.2.1.length→
(y3=true→
aQ (↑s2:Int) p.2.1.length∧
aQ (↑s2:Int) p.2.1.length∧
roomFor (y4.length+y6.length) (16:Nat)∧
bq IntKind.i64 ((↑s2:Int)+(1:Int))∧
∃(nv:Nat),
nv≤p.2.1.length∧
p.2.1.length - nv<p.2.1.length - s2∧
(↑nv:Int)=(↑s2:Int)+(1:Int)∧
List.flatMap (fun(j:nf)=>[j.1,j.2]) (List.take nv p.2.1)=y4++y6∧
aE p (True))∧
(y3=false→
(∃(kZ:Nat),
(kZ≤(bT p).length∧dV (kM p) kZ)∧
(↑kZ:Int)=(0:Int)∧
aE p (y4=y4∧True))∧
∀(s7:Nat),
U (decide ((↑s7:Int)<(↑y4.length:Int))) fun(y8:Bool)=>
U (y4.getD (↑s7:Int).toNat ((0:Int),(0:Int))) fun(y9:Int×Int)=>
s7≤(bT p).length∧dV (kM p) s7→
(y8=true→
aQ (↑s7:Int) y4.length∧
True∧
((!dx p y9)=true→false=bR p∧True)∧
((!dx p y9)=false→
(∃(ox:Nat),
(ox≤(↑s7:Int).toNat∧dZ (qB p (↑s7:Int).toNat) ox)∧
(↑ox:Int)=(0:Int)∧
(↑s7:Int)=(↑s7:Int)∧
aE p (y4=y4∧True))∧
∀(iU:Nat),
U (decide ((↑iU:Int)<(↑s7:Int))) fun(bI:Bool)=>
U (y4.getD (↑iU:Int).toNat ((0:Int),(0:Int))) fun(aw:Int×Int)=>
U (aw.1==y9.1&&(aw.2==y9.2&&true)) fun(cb:Bool)=>
iU≤(↑s7:Int).toNat∧dZ (qB p (↑s7:Int).toNat) iU→
(bI=true→
aQ (↑iU:Int) y4.length∧
aQ (↑s7:Int) y4.length∧
(cb=true→false=bR p∧True)∧
(cb=false→
bq IntKind.i64 ((↑iU:Int)+(1:Int))∧
∃(ob:Nat),
(ob≤(↑s7:Int).toNat∧dZ (qB p (↑s7:Int).toNat) ob)∧
(↑s7:Int).toNat - ob<(↑s7:Int).toNat - iU∧
(↑ob:Int)=(↑iU:Int)+(1:Int)∧
(↑s7:Int)=(↑s7:Int)∧
aE p (y4=y4∧True)))∧
(bI=false→
bq IntKind.i64 ((↑s7:Int)+(1:Int))∧
∃(ob:Nat),
(ob≤(bT p).length∧dV (kM p) ob)∧
(bT p).length - ob<(bT p).length - s7∧
(↑ob:Int)=(↑s7:Int)+(1:Int)∧
aE p (y4=y4∧True))))∧
(y8=false→
(∃(ox:Nat),
(ox≤p.1.length∧dV (ka p) ox)∧
(↑ox:Int)=(0:Int)∧
aE p (True))∧
∀(iU:Nat),
U (decide ((↑iU:Int)<(↑p.1.length:Int))) fun(bI:Bool)=>
U ((p.1.getD (↑iU:Int).toNat ([],(0:Int),(0:Int))).2.1==(4:Int)) fun(aw:Bool)=>
U (bu p ((↑iU:Int),(0:Int))) fun(cb:ak×Bool)=>
U (bif !cb.2 then true else aI p cb.1.1==(4:Int)) fun(cW:Bool)=>
iU≤p.1.length∧dV (ka p) iU→
(bI=true→
aQ (↑iU:Int) p.1.length∧
(aw=true→
True∧
((!cb.2)=false→True)∧
(cW=true→false=bR p∧True)∧
(cW=false→
bq IntKind.i64 ((↑iU:Int)+(1:Int))∧
∃(k6:Nat),
(k6≤p.1.length∧dV (ka p) k6)∧
p.1.length - k6<p.1.length - iU∧
(↑k6:Int)=(↑iU:Int)+(1:Int)∧
aE p (True)))∧
(aw=false→
bq IntKind.i64 ((↑iU:Int)+(1:Int))∧
∃(k6:Nat),
(k6≤p.1.length∧dV (ka p) k6)∧
p.1.length - k6<p.1.length - iU∧
(↑k6:Int)=(↑iU:Int)+(1:Int)∧
aE p (True)))∧
(bI=false→true=bR p∧True)))):=by kernel_rfl
theorem ajT (p:ab) (hp:p.2.1.length≤1000) (hw:pO p):ai (ah ay [(205,A4),(227,oj),(228,pg)]) Tryz.f155 Lv (Y5 (p,())) (p,()):=by
 have hJ:bR p=(db (kM p) (bT p).length&&db (ka p) p.1.length):=by unfold bR;rfl
 have hlen:∀l:List nf,(l.flatMap fun j=>[j.1,j.2]).length=2*l.length:=fun l=>by
  induction l with
  |nil=>rfl
  |cons x l ih=>rw[List.flatMap_cons,List.length_append,ih,List.length_cons];simp;omega
 have hEl:(bT p).length=2*p.2.1.length:=hlen p.2.1
 rw[agx,hJ]
 refine U.mk fun y1 e1=> ?_
 simp only[dz,true_and,and_true,Int.toNat_natCast]
 refine⟨⟨0,by omega,rfl,rfl⟩,fun s=>U.mk fun y3 e3=>U.mk fun y4 e4=>U.mk fun y5 e5=>U.mk fun y6 e6=> ?_⟩
 intro hs
 have e6:y6=[y5.1,y5.2]:=e6
 have e5:y5=p.2.1.getD s zJ:=by rw[e5,e1];rfl
 refine⟨fun h=> ?_,fun h=> ?_⟩
 ·have h:=ba e3 h
  refine⟨⟨by omega,by omega⟩,⟨by omega,by omega⟩,c6 (by rw[e4,e6,hlen,List.length_take];simp;omega) (by omega),bg (by omega) (by omega),s+1,by omega,by omega,by omega,?_⟩
  rw[pZ _ zJ h,e4,e6,e5]
 have wJ:=tu e3 h
 have e4:y4=bT p:=by rw[e4,wJ];rfl
 subst e4
 refine⟨⟨0,⟨by omega,rfl⟩,rfl⟩,fun t=>U.mk fun y8 e8=>U.mk fun y9 e9=> ?_⟩
 rintro⟨h1,h2⟩
 have h2:db (kM p) t=true:=h2
 have e9:y9=(bT p).getD t zP:=e9
 refine⟨fun h=> ?_,fun h=> ?_⟩
 ·have h:=ba e8 h
  refine⟨⟨by omega,by omega⟩,fun hh=> ?_,fun hh=>⟨⟨0,⟨by omega,rfl⟩,rfl⟩,fun u=>U.mk fun bI eH=>U.mk fun aw dM=>U.mk fun cb hX=> ?_⟩⟩
  ·simp only[Bool.not_eq_true'] at hh
   rw[fT (p:=kM p) h (by unfold kM;rw[←e9,hh];rfl)]
   rfl
  simp only[Bool.not_eq_false'] at hh
  rintro⟨g1,g2⟩
  have g2:cd (qB p t) u=false:=g2
  have hX:qB p t u=cb:=by rw[hX,sk,dM,e9];rfl
  refine⟨fun hu=> ?_,fun hu=> ?_⟩
  ·have hu:=ba eH hu
   refine⟨⟨by omega,by omega⟩,⟨by omega,by omega⟩,fun mg=> ?_,fun mg=>⟨bg (by omega) (by omega),u+1,⟨by omega,?_⟩,by omega,by omega⟩⟩
   ·have hn:cd (qB p t) t=true:=nL hu (by rw[hX,mg])
    rw[fT (p:=kM p) h (by
     show(dx p _&& !cd (qB p t) t)=false
     rw[hn,Bool.not_true,Bool.and_false])]
    rfl
   ·exact jV g2 (by rw[hX,mg])
  ·have hu:=br eH hu
   have:u=t:=by omega
   subst this
   refine⟨bg (by omega) (by omega),u+1,⟨by omega,?_⟩,by omega,by omega⟩
   exact fc h2 (by
    show(dx p _&& !cd (qB p u) u)=true
    rw[←e9,hh,g2];rfl)
 have hle:=br e8 h
 have ht:t=(bT p).length:=by omega
 subst ht
 rw[h2,Bool.true_and]
 refine⟨⟨0,⟨by omega,rfl⟩,rfl⟩,fun u=>U.mk fun bI eH=>U.mk fun aw dM=>U.mk fun cb hX=>U.mk fun cW jG=> ?_⟩
 rintro⟨g1,g2⟩
 have g2:db (ka p) u=true:=g2
 have hG:ka p u= !(bif aw then cW else false):=by
  rw[jG,dM,hX]
  unfold ka
  have key:∀a b c:Bool,(bif a then(b&& !c) else true)= !(bif a then(bif !b then true else c) else false):=by decide
  exact key _ _ _
 refine⟨fun h=> ?_,fun h=> ?_⟩
 ·have h:=ba eH h
  refine⟨⟨by omega,by omega⟩,fun mB=>⟨fun _=>trivial,fun qU=> ?_,fun qU=>⟨dr h hw.1,u+1,⟨by omega,?_⟩,by omega,by omega⟩⟩,fun mB=>⟨dr h hw.1,u+1,⟨by omega,?_⟩,by omega,by omega⟩⟩
  ·exact(fT h (by rw[hG,mB,qU];rfl)).symm
  ·exact fc g2 (by rw[hG,mB,qU];rfl)
  ·exact fc g2 (by rw[hG,mB];rfl)
 have hle:=br eH h
 have hu:u=p.1.length:=by omega
 subst hu
 exact g2.symm
theorem ac6:aM Tryz.prog 155 Lv:=
 aM.bZ (l:=[(205,A4),(227,oj),(228,pg)]) (A:=Y5) aH ⟨Rb,yJ,Bo,trivial⟩ Tryz.func155 (by kernel_rfl) (by kernel_rfl) fun x hw hp=>ajT x.1 hp (k7 hw.1)
theorem D7 {p:ab} (hj:bR p=true) {x:ak} (h:(bu p x).2=true):dx p (bu p x).1=true:=by
 have hm:=o0 h
 obtain⟨i,hi,he⟩:=List.mem_iff_getElem.1 hm
 unfold bR at hj
 rw[Bool.and_eq_true] at hj
 have:=gv.1 hj.1 i hi
 unfold kM at this
 rw[Bool.and_eq_true,eA zP hi,he] at this
 exact this.1
theorem agw (p:ab):ai (ah ay [(205,A4),(227,oj),(228,pg),(229,x9)]) Tryz.f156 Lu (a156 (p,())) (p,())=(
U ([],((0:Int),(0:Int)),false) fun(y1:List UInt8×(Int×Int)×Bool)=>
(∃(dp:Nat),
(dp≤p.2.2.1.length∧dV (kX p) dp)∧
(↑dp:Int)=(0:Int)∧
aE p (True))∧
∀(s2:Nat),
U (decide ((↑s2:Int)<(↑p.2.2.1.length:Int))) fun(y3:Bool)=>
U (p.2.2.1.getD (↑s2:Int).toNat y1).2.1 fun(y4:Int×Int)=>
U (bif !dx p y4 then true else bif aI p y4.1 !=(1:Int) then aI p y4.1 !=(4:Int) else false) fun(y5:Bool)=>
U (bif !(bu p y4).2 then true else aI p (bu p y4).1.1==(4:Int)) fun(y6:Bool)=>
U (bif y6 then true else b8 p y4 !=(↑s2:Int)) fun(y7:Bool)=>
s2≤p.2.2.1.length∧dV (kX p) s2→
(y3=true→
aQ (↑s2:Int) p.2.2.1.length∧
True∧
True∧
(y5=true→false=dm p∧True)∧
(y5=false→
True∧
((!(bu p y4).2)=false→True)∧
(y6=false→True)∧
(y7=true→false=dm p∧True)∧
(y7=false→
bq IntKind.i64 ((↑s2:Int)+(1:Int))∧
∃(kf:Nat),
(kf≤p.2.2.1.length∧dV (kX p) kf)∧
p.2.2.1.length - kf<p.2.2.1.length - s2∧
(↑kf:Int)=(↑s2:Int)+(1:Int)∧
aE p (True))))∧
(y3=false→
(∃(mL:Nat),
(mL≤p.1.length∧dV (jT p) mL)∧
(↑mL:Int)=(0:Int)∧
aE p (True))∧
∀(s8:Nat),
U (decide ((↑s8:Int)<(↑p.1.length:Int))) fun(y9:Bool)=>
U ((p.1.getD (↑s8:Int).toNat ([],(0:Int),(0:Int))).2.1==(4:Int)) fun(bp:Bool)=>
U (b8 p ((↑s8:Int),(0:Int))) fun(bI:Int)=>
U (bif bp then decide (bI<(0:Int)) else false) fun(aw:Bool)=>
s8≤p.1.length∧dV (jT p) s8→
(y9=true→
aQ (↑s8:Int) p.1.length∧
(bp=true→True)∧
(aw=true→false=dm p∧True)∧
(aw=false→
bq IntKind.i64 ((↑s8:Int)+(1:Int))∧
∃(fN:Nat),
(fN≤p.1.length∧dV (jT p) fN)∧
p.1.length - fN<p.1.length - s8∧
(↑fN:Int)=(↑s8:Int)+(1:Int)∧
aE p (True)))∧
(y9=false→true=dm p∧True))):=by kernel_rfl
theorem ajS (p:ab) (hw:pO p):ai (ah ay [(205,A4),(227,oj),(228,pg),(229,x9)]) Tryz.f156 Lu (a156 (p,())) (p,()):=by
 have hJ:dm p=(db (kX p) p.2.2.1.length&&db (jT p) p.1.length):=by unfold dm;rfl
 rw[agw,hJ]
 refine U.mk fun y1 e1=> ?_
 simp only[dz,true_and,and_true,Int.toNat_natCast]
 refine⟨⟨0,⟨by omega,rfl⟩,rfl⟩,fun s=>U.mk fun y3 e3=>U.mk fun y4 e4=>U.mk fun y5 e5=>U.mk fun y6 e6=>U.mk fun y7 e7=> ?_⟩
 rintro⟨h1,h2⟩
 have h2:db (kX p) s=true:=h2
 have e4:y4=(p.2.2.1.getD s zS).2.1:=by rw[e4,e1];rfl
 have hS:kX p s=(!y5&& !y7):=by
  rw[e7,e6,e5,iH,iH,iH]
  unfold kX Cj
  rw[←e4]
  have key:∀a b c d e f:Bool,(a&&((b||c)&&(d&&(!e&&f))))=(!(bif !a then true else(bif !b then !c else false))&& !(bif(bif !d then true else e) then true else !f)):=by decide
  exact key _ _ _ _ _ _
 refine⟨fun h=> ?_,fun h=> ?_⟩
 ·have h:=ba e3 h
  refine⟨⟨by omega,by omega⟩,fun h5=> ?_,fun h5=>⟨fun _=>trivial,fun _=>trivial,fun h7=> ?_,fun h7=>⟨dr h hw.2.2.1,s+1,⟨by omega,?_⟩,by omega,by omega⟩⟩⟩
  ·rw[fT (p:=kX p) h (by rw[hS,h5];rfl)]
   rfl
  ·rw[fT (p:=kX p) h (by rw[hS,h5,h7];rfl)]
   rfl
  ·exact fc h2 (by rw[hS,h5,h7];rfl)
 have hle:=br e3 h
 have ht:s=p.2.2.1.length:=by omega
 subst ht
 rw[h2,Bool.true_and]
 refine⟨⟨0,⟨by omega,rfl⟩,rfl⟩,fun u=>U.mk fun y9 e9=>U.mk fun bp du=>U.mk fun bI eH=>U.mk fun aw dM=> ?_⟩
 rintro⟨g1,g2⟩
 have g2:db (jT p) u=true:=g2
 have hG:jT p u= !aw:=by
  rw[dM,du,Ga,eH]
  unfold jT
  have key:∀a b:Bool,(bif a then b else true)= !(bif a then !b else false):=by decide
  exact key _ _
 refine⟨fun h=> ?_,fun h=> ?_⟩
 ·have h:=ba e9 h
  refine⟨⟨by omega,by omega⟩,fun _=>trivial,fun mB=> ?_,fun mB=>⟨dr h hw.1,u+1,⟨by omega,?_⟩,by omega,by omega⟩⟩
  ·exact(fT h (by rw[hG,mB];rfl)).symm
  ·exact fc g2 (by rw[hG,mB];rfl)
 have hle:=br e9 h
 have hu:u=p.1.length:=by omega
 subst hu
 exact g2.symm
theorem ac5:aM Tryz.prog 156 Lu:=
 aM.bZ (l:=[(205,A4),(227,oj),(228,pg),(229,x9)]) (A:=a156) aH ⟨Rb,yJ,Bo,Q3,trivial⟩ Tryz.func156 (by kernel_rfl) (by kernel_rfl) fun x hw hp=>ajS x.1 (k7 hw.1)
theorem v206 (p:ab) (l:List Int):ai (ah ay [(227,oj),(228,pg)]) Tryz.f206 K6 (a206 (p,l,())) (p,l,())=(
(((↑l.length:Int)==(0:Int))=true→[]=(eB p l).1∧false=(eB p l).2∧True)∧
(((↑l.length:Int)==(0:Int))=false→
(∃(dp:Nat),
(dp≤l.length∧fe (mS p) l dp)∧
(↑dp:Int)=(0:Int)∧
l=l∧
aE p (True))∧
∀(s2:Nat),
U (decide ((↑s2:Int)<(↑l.length:Int))) fun(y3:Bool)=>
U (aI p (l.getD (↑s2:Int).toNat (0:Int)) !=(1:Int)) fun(y4:Bool)=>
s2≤l.length∧fe (mS p) l s2→
(y3=true→
aQ (↑s2:Int) l.length∧
True∧
(y4=true→[]=(eB p l).1∧false=(eB p l).2∧True)∧
(y4=false→
bq IntKind.i64 ((↑s2:Int)+(1:Int))∧
∃(fQ:Nat),
(fQ≤l.length∧fe (mS p) l fQ)∧
l.length - fQ<l.length - s2∧
(↑fQ:Int)=(↑s2:Int)+(1:Int)∧
l=l∧
aE p (True)))∧
(y3=false→
(((↑l.length:Int)==(1:Int))=true→(List.replicate (1:Nat) (0:Int)).set (0:Nat) (0:Int)=(eB p l).1∧true=(eB p l).2∧True)∧
(((↑l.length:Int)==(1:Int))=false→
(∃(sW:Nat),
sW≤(2:Nat)∧
(1:Int) - (↑sW:Int)=(1:Int)∧
vN p l sW=(-1:Int)∧
l=l∧
aE p (True))∧
∀(s5:Nat),
U (decide ((1:Int) - (↑s5:Int)≥(0:Int))) fun(y6:Bool)=>
U (bu p (l.getD (Int.toNat (0:Int)) (0:Int),(1:Int) - (↑s5:Int))) fun(y7:ak×Bool)=>
U ((1:Int) - (↑s5:Int) - (1:Int)) fun(y8:Int)=>
U (decide (vN p l s5<(0:Int))) fun(y9:Bool)=>
U ((1:Int) - vN p l s5) fun(bp:Int)=>
s5≤(2:Nat)→
(y6=true→
aQ (0:Int) l.length∧
True∧
(y7.2=true→aQ (1:Int) l.length)∧
bq IntKind.i64 y8∧
∃(jy:Nat),
jy≤(2:Nat)∧
(2:Nat) - jy<(2:Nat) - s5∧
(1:Int) - (↑jy:Int)=y8∧
(vN p l jy=
bif bif y7.2 then y7.1.1==l.getD (Int.toNat (1:Int)) (0:Int) else false then(1:Int) - (↑s5:Int) else vN p l s5)∧
l=l∧
aE p (True))∧
(y6=false→
(y9=true→[]=(eB p l).1∧false=(eB p l).2∧True)∧
(y9=false→
bq IntKind.i64 bp∧
(∃(sf:Nat),
(sf<l.length∧(ed p l (fJ p l) sf).2.2=true)∧
(↑sf:Int)+(1:Int)=(1:Int)∧
(ed p l (fJ p l) sf).2.1=vN p l s5∧
l=l∧
(ed p l (fJ p l) sf).1=(List.replicate (1:Nat) (0:Int)).set (0:Nat) bp∧
aE p (True))∧
∀(kd:Nat),
U (ed p l (fJ p l) kd) fun(aw:List Int×Int×Bool)=>
U (decide ((↑kd:Int)+(1:Int)<(↑l.length:Int))) fun(cb:Bool)=>
U ((↑kd:Int)+(1:Int) - (1:Int)) fun(cW:Int)=>
U (bu p (l.getD cW.toNat (0:Int),aw.2.1)) fun(bz:ak×Bool)=>
U (bif !bz.2 then true else bz.1.1 !=l.getD ((↑kd:Int)+(1:Int)).toNat (0:Int)) fun(cT:Bool)=>
U ((List.replicate (1:Nat) (0:Int)).set (0:Nat) bz.1.2) fun(cF:List Int)=>
U ((↑kd:Int)+(1:Int)+(1:Int)) fun(dI:Int)=>
kd<l.length∧aw.2.2=true→
(cb=true→
bq IntKind.i64 cW∧
aQ cW l.length∧
True∧
((!bz.2)=false→aQ ((↑kd:Int)+(1:Int)) l.length)∧
(cT=true→[]=(eB p l).1∧false=(eB p l).2∧True)∧
(cT=false→
roomFor (aw.1.length+cF.length) (8:Nat)∧
bq IntKind.i64 ((1:Int) - bz.1.2)∧
bq IntKind.i64 dI∧
∃(iP:Nat),
(iP<l.length∧(ed p l (fJ p l) iP).2.2=true)∧
l.length - iP<l.length - kd∧
(↑iP:Int)+(1:Int)=dI∧
(ed p l (fJ p l) iP).2.1=(1:Int) - bz.1.2∧
l=l∧
(ed p l (fJ p l) iP).1=aw.1++cF∧
aE p (True)))∧
(cb=false→aw.1=(eB p l).1∧true=(eB p l).2∧True))))))):=by kernel_rfl
theorem xH {p:ab} {l:List Int} {o:Int} {k:Nat} (h:(ed p l o k).2.2=false):∀m,k≤m→(ed p l o m).2.2=false
 |0,hm=>by
  have:k=0:=by omega
  rw[this] at h
  exact h
 |m+1,hm=>by
  by_cases e:k=m+1
  ·rw[←e];exact h
  ·have ih:=xH h m (by omega)
   show(bif(ed p l o m).2.2&&_ then _ else _:List Int×Int×Bool).2.2=false
   rw[ih]
   rfl
theorem PU {p:ab} {l:List Int} {o:Int}:∀k,(ed p l o k).1.length≤k+1
 |0=>Nat.le_refl _
 |k+1=>by
  have:=PU (p:=p) (l:=l) (o:=o) k
  show(bif(ed p l o k).2.2&&_ then _ else _:List Int×Int×Bool).1.length≤_
  cases (ed p l o k).2.2&&((n9 p l k (ed p l o k).2.1).2&&(n9 p l k (ed p l o k).2.1).1.1==l.getD (k+1) 0) with
  |true=>rw[cond_true,List.length_append];show _+1≤_;omega
  |false=>rw[cond_false];show(ed p l o k).1.length≤_;omega
theorem QW (p:ab) (l:List Int) (k:Nat): -1≤vN p l k∧vN p l k≤1:=by
 match k with
 |0=>show -1≤(-1:Int)∧(-1:Int)≤1;exact⟨by decide,by decide⟩
 |1=>show -1≤(bif qH p l 1 then 1 else -1:Int)∧(bif qH p l 1 then 1 else -1:Int)≤1;cases qH p l 1<;>exact⟨by decide,by decide⟩
 |_+2=>show -1≤fJ p l∧fJ p l≤1;unfold fJ;cases qH p l 0<;>cases qH p l 1<;>exact⟨by decide,by decide⟩
theorem ajC (p:ab) (l:List Int) (hj:bR p=true) (hl:l.length≤1000):ai (ah ay [(227,oj),(228,pg)]) Tryz.f206 K6 (a206 (p,l,())) (p,l,()):=by
 have hE:eB p l=bif decide (l.length=0)|| !l.all (mS p) then([],false) else bif decide (l.length=1) then([0],true) else bif decide (fJ p l<0) then([],false) else
  bif(ed p l (fJ p l) (l.length - 1)).2.2 then((ed p l (fJ p l) (l.length - 1)).1,true) else([],false):=by unfold eB;rfl
 rw[v206,FM _ 0 0 rfl,FM _ 1 1 rfl]
 simp only[dz,true_and,and_true,Int.toNat_natCast]
 refine⟨fun h=> ?_,fun h0=>⟨⟨0,⟨by omega,rfl⟩,rfl⟩,fun s=>U.mk fun y3 e3=>U.mk fun y4 e4=> ?_⟩⟩
 ·rw[hE,h]
  exact⟨rfl,rfl⟩
 rintro⟨h1,h2⟩
 have h2:(l.take s).all (mS p)=true:=h2
 have CY:=of_decide_eq_false h0
 have e4:mS p (l.getD s 0)= !y4:=by rw[e4,iH,Bool.not_not];rfl
 refine⟨fun h=> ?_,fun h=> ?_⟩
 ·have h:=ba e3 h
  refine⟨⟨by omega,by omega⟩,fun h4=> ?_,fun h4=>⟨bg (by omega) (by omega),s+1,⟨by omega,?_⟩,by omega,by omega⟩⟩
  ·rw[hE,mG 0 h (by rw[e4,h4];rfl),h0]
   exact⟨rfl,rfl⟩
  ·exact all_succ 0 h h2 (by rw[e4,h4];rfl)
 have wJ:=jx (br e3 h) h2
 rw[h0,wJ] at hE
 refine⟨fun h1=> ?_,fun h1=>⟨⟨0,by omega,rfl,rfl⟩,fun t=>U.mk fun y6 e6=>U.mk fun y7 e7=>U.mk fun y8 e8=>U.mk fun y9 e9=>U.mk fun bp du=> ?_⟩⟩
 ·rw[hE,h1]
  exact⟨rfl,rfl⟩
 rw[h1] at hE
 have Pr:=of_decide_eq_false h1
 intro ht
 have XJ:=QW p l t
 refine⟨fun h6=> ?_,fun h6=> ?_⟩
 ·rw[e6] at h6
  have h6:=of_decide_eq_true h6
  refine⟨⟨by omega,by omega⟩,fun _=>⟨by omega,by omega⟩,bg (by omega) (by omega),t+1,by omega,by omega,by omega,?_⟩
  have hb:(bif y7.2 then y7.1.1==l.getD (Int.toNat 1) 0 else false)=qH p l (1 - (t:Int)):=by
   rw[e7]
   unfold qH
   have key:∀a b:Bool,(bif a then b else false)=(a&&b):=by decide
   exact key _ _
  rw[hb]
  have hc:t=0∨t=1:=by omega
  rcases hc with rfl|rfl
  ·rfl
  ·show fJ p l=_
   unfold fJ
   rfl
 ·rw[e6] at h6
  have h6:=of_decide_eq_false h6
  have Az:t=2:=by omega
  subst Az
  have hO:vN p l 2=fJ p l:=rfl
  rw[hO] at e9 du XJ
  refine⟨fun h9=> ?_,fun h9=> ?_⟩
  ·rw[hE,←e9,h9]
   exact⟨rfl,rfl⟩
  rw[←e9,h9] at hE
  have hE:eB p l=bif(ed p l (fJ p l) (l.length - 1)).2.2 then((ed p l (fJ p l) (l.length - 1)).1,true) else([],false):=hE
  refine⟨bg (by omega) (by omega),⟨0,⟨by omega,rfl⟩,rfl,rfl,by rw[du];rfl⟩,fun u=>U.mk fun aw dM=>U.mk fun cb hX=>U.mk fun cW jG=>U.mk fun bz gJ=>U.mk fun cT kT=>U.mk fun cF iN=>U.mk fun dI m8=> ?_⟩
  rintro⟨g1,g2⟩
  have hut:((u:Int)+1).toNat=u+1:=by omega
  have ah1:cW.toNat=u:=by omega
  rw[hut] at kT
  rw[ah1] at gJ
  have iN:cF=[bz.1.2]:=iN
  have RW:ed p l (fJ p l) (u+1)=bif !cT then(aw.1++[bz.1.2],1 - bz.1.2,true) else(aw.1,aw.2.1,false):=by
   have hb:((ed p l (fJ p l) u).2.2&&((n9 p l u (ed p l (fJ p l) u).2.1).2&&(n9 p l u (ed p l (fJ p l) u).2.1).1.1==l.getD (u+1) 0))= !cT:=by
    rw[kT,iH,gJ,←dM,g2]
    unfold n9
    have key:∀a b:Bool,(true&&(a&&b))= !(bif !a then true else !b):=by decide
    exact key _ _
   show(bif _ then _ else _)=_
   rw[hb,←dM,gJ]
   rfl
  refine⟨fun mg=> ?_,fun mg=> ?_⟩
  ·rw[hX] at mg
   have mg:=of_decide_eq_true mg
   refine⟨bg (by omega) (by omega),⟨by omega,by omega⟩,fun _=>⟨by omega,by omega⟩,fun sK=> ?_,fun sK=> ?_⟩
   ·have hf:(ed p l (fJ p l) (u+1)).2.2=false:=by rw[RW,sK];rfl
    rw[hE,xH hf (l.length - 1) (by omega)]
    exact⟨rfl,rfl⟩
   ·have Ya:bz.2=true:=by
     rw[sK] at kT
     have:=(vF kT.symm).1
     simpa using this
    have he:0≤bz.1.2∧bz.1.2≤3:=by
     rw[gJ] at Ya ⊢
     exact uL (D7 hj Ya)
    have hln:=PU (p:=p) (l:=l) (o:=fJ p l) u
    rw[←dM] at hln
    rw[sK] at RW
    refine⟨c6 (by rw[iN];simp;omega) (by omega),bg (by omega) (by omega),bg (by omega) (by omega),u+1,⟨by omega,by rw[RW];rfl⟩,by omega,by omega,?_,?_⟩
    ·rw[RW];rfl
    ·rw[RW,iN];rfl
  ·rw[hX] at mg
   have mg:=of_decide_eq_false mg
   have hu:u=l.length - 1:=by omega
   subst hu
   rw[hE,←dM,g2]
   exact⟨rfl,rfl⟩
theorem acA:aM Tryz.prog 206 K6:=
 aM.bZ (l:=[(227,oj),(228,pg)]) (A:=a206) aH ⟨yJ,Bo,trivial⟩ Tryz.func206 (by kernel_rfl) (by kernel_rfl) fun x hw hp=>ajC x.1 x.2.1 hp.1 hp.2
theorem v157 (p:ab):ai (ah ay [(31,wR),(206,K6)]) Tryz.f157 Lt (a157 (p,())) (p,())=(
(∃(py:Nat),
(py≤p.2.2.2.1.length∧dV (jd p) py)∧
(↑py:Int)=(0:Int)∧
kJ p py=[]∧
aE p (True))∧
∀(s1:Nat),
U (decide ((↑s1:Int)<(↑p.2.2.2.1.length:Int))) fun(y2:Bool)=>
U (p.2.2.2.1.getD (↑s1:Int).toNat zL).2 fun(y3:List Int)=>
U (p.2.2.2.1.getD (↑s1:Int).toNat ([],[])).2 fun(y4:List Int)=>
s1≤p.2.2.2.1.length∧dV (jd p) s1→
(y2=true→
aQ (↑s1:Int) p.2.2.2.1.length∧
(∃(sW:Nat),
(sW≤y3.length∧dV (lR p (↑s1:Int).toNat) sW)∧
(↑sW:Int)=(0:Int)∧
(↑s1:Int)=(↑s1:Int)∧
y4=y4∧
kJ p (↑s1:Int).toNat++List.take sW y3=kJ p s1∧
aE p (True))∧
∀(s5:Nat),
U (decide ((↑s5:Int)<(↑y4.length:Int))) fun(y6:Bool)=>
U (kJ p (↑s1:Int).toNat++List.take s5 y3) fun(y7:List Int)=>
U (y4.getD (↑s5:Int).toNat (0:Int)) fun(y8:Int)=>
U ((List.replicate (1:Nat) (0:Int)).set (0:Nat) y8) fun(y9:List Int)=>
s5≤y3.length∧dV (lR p (↑s1:Int).toNat) s5→
(y6=true→
aQ (↑s5:Int) y4.length∧
True∧
(bG y7 y8=true→false=fK p∧True)∧
(bG y7 y8=false→
aQ (↑s5:Int) y4.length∧
roomFor (y7.length+y9.length) (8:Nat)∧
bq IntKind.i64 ((↑s5:Int)+(1:Int))∧
∃(cU:Nat),
(cU≤y3.length∧dV (lR p (↑s1:Int).toNat) cU)∧
y3.length - cU<y3.length - s5∧
(↑cU:Int)=(↑s5:Int)+(1:Int)∧
(↑s1:Int)=(↑s1:Int)∧
y4=y4∧
kJ p (↑s1:Int).toNat++List.take cU y3=y7++y9∧
aE p (True)))∧
(y6=false→
(bR p=true∧y4.length≤(1000:Nat))∧
((!(eB p y4).2)=true→false=fK p∧True)∧
((!(eB p y4).2)=false→
bq IntKind.i64 ((↑s1:Int)+(1:Int))∧
∃(cU:Nat),
(cU≤p.2.2.2.1.length∧dV (jd p) cU)∧
p.2.2.2.1.length - cU<p.2.2.2.1.length - s1∧
(↑cU:Int)=(↑s1:Int)+(1:Int)∧
kJ p cU=y7∧
aE p (True))))∧
(y2=false→true=fK p∧True)):=by kernel_rfl
theorem OW {p:ab} (hs:cS p):∀i,(kJ p i).length≤i*1000
 |0=>Nat.le_refl _
 |i+1=>by
  have ih:=OW hs i
  by_cases h:i<p.2.2.2.1.length
  ·have:=hs _ (fw zL h)
   show((p.2.2.2.1.take (i+1)).flatMap fun l=>l.2).length≤_
   rw[pZ _ zL h,List.length_append]
   show(kJ p i).length+_≤_
   omega
  ·have e:kJ p (i+1)=kJ p i:=by
    unfold kJ
    rw[List.take_of_length_le (by omega),List.take_of_length_le (by omega)]
   rw[e]
   omega
theorem ajR (p:ab) (hj:bR p=true) (hs:cS p) (hl:p.2.2.2.1.length≤1000):ai (ah ay [(31,wR),(206,K6)]) Tryz.f157 Lt (a157 (p,())) (p,()):=by
 have hF:fK p=db (jd p) p.2.2.2.1.length:=by unfold fK;rfl
 rw[v157,hF]
 simp only[dz,true_and,and_true,Int.toNat_natCast]
 refine⟨⟨0,⟨by omega,rfl⟩,rfl,rfl⟩,fun s=>U.mk fun y2 e2=>U.mk fun y3 e3=>U.mk fun y4 e4=> ?_⟩
 rintro⟨h1,h2⟩
 have h2:db (jd p) s=true:=h2
 have e4:y4=y3:=by rw[e4,e3];rfl
 subst e4
 refine⟨fun h=> ?_,fun h=> ?_⟩
 ·have h:=ba e2 h
  have RN:y4.length≤1000:=by rw[e3];exact hs _ (fw zL h)
  have HZ:=OW hs s
  refine⟨⟨by omega,by omega⟩,⟨0,⟨by omega,rfl⟩,rfl,by simp⟩,fun t=>U.mk fun y6 e6=>U.mk fun y7 e7=>U.mk fun y8 e8=>U.mk fun y9 e9=> ?_⟩
  rintro⟨g1,g2⟩
  have g2:db (lR p s) t=true:=g2
  have e9:y9=[y8]:=e9
  have hN:lR p s t= !bG y7 y8:=by rw[e7,e8,e3];rfl
  refine⟨fun ht=> ?_,fun ht=> ?_⟩
  ·have ht:=ba e6 ht
   refine⟨⟨by omega,by omega⟩,fun hm=> ?_,fun hm=>⟨⟨by omega,by omega⟩,c6 (by rw[e7,e9,List.length_append,List.length_take];simp;omega) (by omega),bg (by omega) (by omega),t+1,⟨by omega,?_⟩,by omega,by omega,?_⟩⟩
   ·refine(fT h ?_).symm
    unfold jd
    rw[←e3,fT ht (by rw[hN,hm];rfl)]
    rfl
   ·exact fc g2 (by rw[hN,hm];rfl)
   ·rw[eM 0 ht,←List.append_assoc,←e7,e9,e8]
  ·have hle:=br e6 ht
   have hte:t=y4.length:=by omega
   have wJ:db (lR p s) (p.2.2.2.1.getD s zL).2.length=true:=by rw[←e3,←hte];exact g2
   refine⟨⟨hj,RN⟩,fun hb=> ?_,fun hb=>⟨bg (by omega) (by omega),s+1,⟨by omega,?_⟩,by omega,by omega,?_⟩⟩
   ·refine(fT h ?_).symm
    unfold jd
    simp only[Bool.not_eq_true'] at hb
    rw[←e3,hb,Bool.and_false]
   ·refine fc h2 ?_
    unfold jd
    simp only[Bool.not_eq_false'] at hb
    rw[wJ,←e3,hb]
    rfl
   ·show((p.2.2.2.1.take (s+1)).flatMap fun l=>l.2)=_
    have Az:y4.take t=y4:=List.take_of_length_le hle
    rw[pZ _ zL h,e7,Az,e3]
    rfl
 ·have hle:=br e2 h
  have:s=p.2.2.2.1.length:=by omega
  subst this
  exact h2.symm
theorem ac4:aM Tryz.prog 157 Lt:=
 aM.bZ (l:=[(31,wR),(206,K6)]) (A:=a157) aH ⟨Kd,acA,trivial⟩ Tryz.func157 (by kernel_rfl) (by kernel_rfl) fun x hw hp=>ajR x.1 hp.1 hp.2.1 hp.2.2
theorem agv (p:ab):ai (ah ay [(230,KW),(228,pg),(231,P4)]) Tryz.f158 Ls (Y4 (p,())) (p,())=(
U (p.2.2.2.2.1+mY p.2.2.2.2.1 p.2.2.2.2.2.1) fun(y1:Int)=>
U (decide (p.2.2.2.2.2.2.1<y1)) fun(y2:Bool)=>
True∧
bq IntKind.i64 y1∧
(y2=true→false=lh p∧True)∧
(y2=false→
(∃(fD:Nat),
(fD≤p.2.2.1.length∧fe (jM p) p.2.2.1 fD)∧
(↑fD:Int)=(0:Int)∧
aE p (True))∧
∀(s3:Nat),
U (decide ((↑s3:Int)<(↑p.2.2.1.length:Int))) fun(y4:Bool)=>
U (p.2.2.1.getD (↑s3:Int).toNat ([],((0:Int),(0:Int)),false)).2.1.1 fun(y5:Int)=>
U (bif aI p y5==(1:Int) then decide (qY p y5<p.2.2.2.2.2.2.1) else false) fun(y6:Bool)=>
s3≤p.2.2.1.length∧fe (jM p) p.2.2.1 s3→
(y4=true→
aQ (↑s3:Int) p.2.2.1.length∧
True∧
((aI p y5==(1:Int))=true→True)∧
(y6=true→false=lh p∧True)∧
(y6=false→
bq IntKind.i64 ((↑s3:Int)+(1:Int))∧
∃(nv:Nat),
(nv≤p.2.2.1.length∧fe (jM p) p.2.2.1 nv)∧
p.2.2.1.length - nv<p.2.2.1.length - s3∧
(↑nv:Int)=(↑s3:Int)+(1:Int)∧
aE p (True)))∧
(y4=false→
(∃(kZ:Nat),
(kZ≤p.1.length∧fe (ij p) p.1 kZ)∧
(↑kZ:Int)=(0:Int)∧
aE p (True))∧
∀(s7:Nat),
U (decide ((↑s7:Int)<(↑p.1.length:Int))) fun(y8:Bool)=>
U (p.1.getD (↑s7:Int).toNat ([],(0:Int),(0:Int))).2 fun(y9:Int×Int)=>
U (bif y9.1 !=(4:Int) then decide (y9.2<p.2.2.2.2.1) else false) fun(bp:Bool)=>
s7≤p.1.length∧fe (ij p) p.1 s7→
(y8=true→
aQ (↑s7:Int) p.1.length∧
((y9.1 !=(4:Int))=true→aQ (↑s7:Int) p.1.length)∧
(bp=true→false=lh p∧True)∧
(bp=false→
bq IntKind.i64 ((↑s7:Int)+(1:Int))∧
∃(jy:Nat),
(jy≤p.1.length∧fe (ij p) p.1 jy)∧
p.1.length - jy<p.1.length - s7∧
(↑jy:Int)=(↑s7:Int)+(1:Int)∧
aE p (True)))∧
(y8=false→true=lh p∧True)))):=by kernel_rfl
theorem Fl {p:ab} (h:oH p=true):(1≤p.2.2.2.2.1∧p.2.2.2.2.1≤60)∧(1≤p.2.2.2.2.2.1∧p.2.2.2.2.2.1≤10)∧(1≤p.2.2.2.2.2.2.1∧p.2.2.2.2.2.2.1≤4000):=by
 unfold oH rh at h
 simp only[Bool.and_eq_true] at h
 obtain⟨⟨h1,h2⟩,⟨h3,h4⟩,⟨h5,h6⟩,_⟩:=h
 exact⟨⟨of_decide_eq_true h1,of_decide_eq_true h2⟩,⟨of_decide_eq_true h3,of_decide_eq_true h4⟩,of_decide_eq_true h5,of_decide_eq_true h6⟩
theorem ajQ (p:ab) (hn:oH p=true) (hw:pO p):ai (ah ay [(230,KW),(228,pg),(231,P4)]) Tryz.f158 Ls (Y4 (p,())) (p,()):=by
 have hL:lh p=(!decide (p.2.2.2.2.2.2.1<p.2.2.2.2.1+mY p.2.2.2.2.1 p.2.2.2.2.2.1)&&(p.2.2.1.all (jM p)&&p.1.all (ij p))):=by unfold lh;rfl
 obtain⟨n1,n2,n3⟩:=Fl hn
 have ju:=C8 p.2.2.2.2.1 p.2.2.2.2.2.1
 rw[agv,hL]
 refine U.mk fun y1 e1=>U.mk fun y2 e2=> ?_
 rw[←e1,←e2]
 simp only[dz,true_and,and_true,Int.toNat_natCast]
 refine⟨bg (by omega) (by omega),fun h=>by rw[h];rfl,fun h=> ?_⟩
 rw[h,Bool.not_false,Bool.true_and]
 refine⟨⟨0,⟨by omega,rfl⟩,rfl⟩,fun s=>U.mk fun y4 e4=>U.mk fun y5 e5=>U.mk fun y6 e6=> ?_⟩
 rintro⟨h1,h2⟩
 have h2:(p.2.2.1.take s).all (jM p)=true:=h2
 have hS:jM p (p.2.2.1.getD s zS)= !y6:=by
  have e5:y5=(p.2.2.1.getD s zS).2.1.1:=e5
  rw[e6]
  unfold jM
  rw[←e5]
  have key:∀a b:Bool,(!(a&&b))= !(bif a then b else false):=by decide
  exact key _ _
 refine⟨fun h=> ?_,fun h=> ?_⟩
 ·have h:=ba e4 h
  refine⟨⟨by omega,by omega⟩,fun _=>trivial,fun h6=> ?_,fun h6=>⟨dr h hw.2.2.1,s+1,⟨by omega,?_⟩,by omega,by omega⟩⟩
  ·rw[mG zS h (by rw[hS,h6];rfl)]
   rfl
  ·exact all_succ zS h h2 (by rw[hS,h6];rfl)
 rw[jx (br e4 h) h2,Bool.true_and]
 refine⟨⟨0,⟨by omega,rfl⟩,rfl⟩,fun u=>U.mk fun y8 e8=>U.mk fun y9 e9=>U.mk fun bp du=> ?_⟩
 rintro⟨g1,g2⟩
 have g2:(p.1.take u).all (ij p)=true:=g2
 have hS:ij p (p.1.getD u zE)= !bp:=by
  have e9:y9=(p.1.getD u zE).2:=e9
  rw[du,iH]
  unfold ij
  rw[←e9]
  have key:∀a b:Bool,(!(!a&&b))= !(bif !a then b else false):=by decide
  exact key _ _
 refine⟨fun h=> ?_,fun h=> ?_⟩
 ·have h:=ba e8 h
  refine⟨⟨by omega,by omega⟩,fun _=>⟨by omega,by omega⟩,fun h6=> ?_,fun h6=>⟨dr h hw.1,u+1,⟨by omega,?_⟩,by omega,by omega⟩⟩
  ·rw[mG zE h (by rw[hS,h6];rfl)]
  ·exact all_succ zE h g2 (by rw[hS,h6];rfl)
 rw[jx (br e8 h) g2]
theorem ac3:aM Tryz.prog 158 Ls:=
 aM.bZ (l:=[(230,KW),(228,pg),(231,P4)]) (A:=Y4) aH ⟨acn,Bo,acm,trivial⟩ Tryz.func158 (by kernel_rfl) (by kernel_rfl) fun x hw hp=>ajQ x.1 hp (k7 hw.1)
theorem agS (p:ab):ai (ah ay [(152,Ly),(153,Lx),(154,Lw),(155,Lv),(156,Lu),(157,Lt),(158,Ls)]) Tryz.f102 FV aq (p,())=(
U
(bif bif bif decide ((↑p.1.length:Int)>(40:Int)) then true else decide ((↑p.2.2.1.length:Int)>(24:Int)) then true else decide ((↑p.2.2.2.1.length:Int)>(4:Int)) then
true
else decide ((↑p.2.1.length:Int)>(80:Int)))
fun(y1:Bool)=>
U (dR (List.map (fun(e:mq)=>e.1) p.1)) fun(y2:Bool)=>
U (bif y2 then true else dR (List.map (fun(s:gw)=>s.1) p.2.2.1)) fun(y3:Bool)=>
U (bif y3 then true else dR (List.map (fun(l:ll)=>l.1) p.2.2.2.1)) fun(y4:Bool)=>
(y1=true→(3:Int)=bV p∧True)∧
(y1=false→
D9 p∧
True∧
((!fArgs p)=true→(1:Int)=bV p∧True)∧
((!fArgs p)=false→
True∧
(y2=false→True)∧
(y3=false→True)∧
(y4=true→(4:Int)=bV p∧True)∧
(y4=false→
p.2.1.length≤(1000:Nat)∧
((!bR p)=true→(6:Int)=bV p∧True)∧
((!bR p)=false→
True∧
((!dm p)=true→(7:Int)=bV p∧True)∧
((!dm p)=false→
(bR p=true∧cS p∧p.2.2.2.1.length≤(1000:Nat))∧
((!fK p)=true→(8:Int)=bV p∧True)∧
((!fK p)=false→oH p=true∧((!lh p)=true→(9:Int)=bV p∧True)∧((!lh p)=false→(0:Int)=bV p∧True)))))))):=by kernel_rfl
theorem akf (p:ab) (hp:cS p):ai (ah ay [(152,Ly),(153,Lx),(154,Lw),(155,Lv),(156,Lu),(157,Lt),(158,Ls)]) Tryz.f102 FV aq (p,()):=by
 rw[agS]
 refine U.mk fun y1 e1=>U.mk fun y2 e2=>U.mk fun y3 e3=>U.mk fun y4 e4=> ?_
 have hz:lq p= !y1:=by
  rw[e1,vT _ 40 40 rfl,vT _ 24 24 rfl,vT _ 4 4 rfl,vT _ 80 80 rfl]
  unfold lq
  have key:∀a b c d:Bool,(a&&(b&&(c&&d)))= !(bif(bif(bif !a then true else !b) then true else !c) then true else !d):=by decide
  exact key _ _ _ _
 have hC:bV p=bif y1 then 3 else bif !fArgs p then 1 else bif y4 then 4 else
   bif !bR p then 6 else bif !dm p then 7 else bif !fK p then 8 else bif !lh p then 9 else 0:=by
  have h4:(dR (p.1.map fun e=>e.1)||(dR (p.2.2.1.map fun s=>s.1)||dR (p.2.2.2.1.map fun l=>l.1)))=y4:=by
   rw[e4,e3,e2]
   have key:∀a b c:Bool,(a||(b||c))=(bif(bif a then true else b) then true else c):=by decide
   exact key _ _ _
  unfold bV
  rw[hz,Bool.not_not,h4]
 rw[hC]
 refine⟨fun h=>by rw[h];exact⟨rfl,trivial⟩,fun h=> ?_⟩
 have iX:lq p=true:=by rw[hz,h];rfl
 unfold lq at iX
 simp only[Bool.and_eq_true] at iX
 obtain⟨z1,z2,z3,z4⟩:=iX
 have z1:=of_decide_eq_true z1
 have z2:=of_decide_eq_true z2
 have z3:=of_decide_eq_true z3
 have z4:=of_decide_eq_true z4
 rw[h]
 refine⟨⟨by omega,by omega,by omega⟩,trivial,fun ha=>by rw[ha];exact⟨rfl,trivial⟩,fun ha=> ?_⟩
 rw[ha]
 refine⟨trivial,fun _=>trivial,fun _=>trivial,fun h4=>by rw[h4];exact⟨rfl,trivial⟩,fun h4=> ?_⟩
 rw[h4]
 refine⟨by omega,fun hj=>by rw[hj];exact⟨rfl,trivial⟩,fun hj=> ?_⟩
 rw[hj]
 have M6:bR p=true:=by simpa using hj
 refine⟨trivial,fun hs=>by rw[hs];exact⟨rfl,trivial⟩,fun hs=> ?_⟩
 rw[hs]
 refine⟨⟨M6,hp,by omega⟩,fun hl=>by rw[hl];exact⟨rfl,trivial⟩,fun hl=> ?_⟩
 rw[hl]
 have ha':fArgs p=true:=by simpa using ha
 refine⟨Su ha',fun hg=>by rw[hg];exact⟨rfl,trivial⟩,fun hg=>by rw[hg];exact⟨rfl,trivial⟩⟩
theorem W9:aM Tryz.prog 102 FV:=
 aM.bZ (l:=[(152,Ly),(153,Lx),(154,Lw),(155,Lv),(156,Lu),(157,Lt),(158,Ls)]) (A:=fun _=>aq) aH ⟨ac9,ac8,ac7,ac6,ac5,ac4,ac3,trivial⟩ Tryz.func102 (by kernel_rfl) (by kernel_rfl) fun x hw hp=>akf x.1 hp
theorem agT (p:ab):ai (ah ay []) Tryz.f101 Qb (Zb (p,())) (p,())=(
U
(bif bif bif decide ((↑p.1.length:Int)>(60:Int)) then true else decide ((↑p.2.1.length:Int)>(120:Int)) then true else decide ((↑p.2.2.1.length:Int)>(60:Int)) then true
else decide ((↑p.2.2.2.1.length:Int)>(20:Int)))
fun(y1:Bool)=>
(y1=true→false=sw p∧True)∧
(y1=false→
(∃(dp:Nat),
(dp≤p.2.2.2.1.length∧fe qX p.2.2.2.1 dp)∧
(↑dp:Int)=(0:Int)∧
aE p (True))∧
∀(s2:Nat),
U (decide ((↑s2:Int)<(↑p.2.2.2.1.length:Int))) fun(y3:Bool)=>
U (p.2.2.2.1.getD (↑s2:Int).toNat ([],[])) fun(y4:List UInt8×List Int)=>
U (decide ((↑y4.2.length:Int)>(60:Int))) fun(y5:Bool)=>
U (bif y5 then true else decide ((↑y4.1.length:Int)>(100:Int))) fun(y6:Bool)=>
s2≤p.2.2.2.1.length∧fe qX p.2.2.2.1 s2→
(y3=true→
aQ (↑s2:Int) p.2.2.2.1.length∧
(y5=false→aQ (↑s2:Int) p.2.2.2.1.length)∧
(y6=true→false=sw p∧True)∧
(y6=false→
bq IntKind.i64 ((↑s2:Int)+(1:Int))∧
∃(nv:Nat),
(nv≤p.2.2.2.1.length∧fe qX p.2.2.2.1 nv)∧
p.2.2.2.1.length - nv<p.2.2.2.1.length - s2∧
(↑nv:Int)=(↑s2:Int)+(1:Int)∧
aE p (True)))∧
(y3=false→
(∃(kZ:Nat),
(kZ≤p.1.length∧fe su p.1 kZ)∧
(↑kZ:Int)=(0:Int)∧
aE p (True))∧
∀(s7:Nat),
U (decide ((↑s7:Int)<(↑p.1.length:Int))) fun(y8:Bool)=>
U (decide ((↑(p.1.getD (↑s7:Int).toNat ([],(0:Int),(0:Int))).1.length:Int)>(100:Int))) fun(y9:Bool)=>
s7≤p.1.length∧fe su p.1 s7→
(y8=true→
aQ (↑s7:Int) p.1.length∧
(y9=true→false=sw p∧True)∧
(y9=false→
bq IntKind.i64 ((↑s7:Int)+(1:Int))∧
∃(cU:Nat),
(cU≤p.1.length∧fe su p.1 cU)∧
p.1.length - cU<p.1.length - s7∧
(↑cU:Int)=(↑s7:Int)+(1:Int)∧
aE p (True)))∧
(y8=false→
(∃(ox:Nat),
(ox≤p.2.2.1.length∧fe vz p.2.2.1 ox)∧
(↑ox:Int)=(0:Int)∧
aE p (True))∧
∀(iU:Nat),
U (decide ((↑iU:Int)<(↑p.2.2.1.length:Int))) fun(bI:Bool)=>
U (decide ((↑(p.2.2.1.getD (↑iU:Int).toNat ([],((0:Int),(0:Int)),false)).1.length:Int)>(100:Int))) fun(aw:Bool)=>
iU≤p.2.2.1.length∧fe vz p.2.2.1 iU→
(bI=true→
aQ (↑iU:Int) p.2.2.1.length∧
(aw=true→false=sw p∧True)∧
(aw=false→
bq IntKind.i64 ((↑iU:Int)+(1:Int))∧
∃(fN:Nat),
(fN≤p.2.2.1.length∧fe vz p.2.2.1 fN)∧
p.2.2.1.length - fN<p.2.2.1.length - iU∧
(↑fN:Int)=(↑iU:Int)+(1:Int)∧
aE p (True)))∧
(bI=false→true=sw p∧True))))):=by kernel_rfl
theorem akg (p:ab) (hw:pO p):ai (ah ay []) Tryz.f101 Qb (Zb (p,())) (p,()):=by
 have hF:sw p=(decide (p.1.length≤60)&&(decide (p.2.1.length≤120)&&(decide (p.2.2.1.length≤60)&&(decide (p.2.2.2.1.length≤20)&&(p.2.2.2.1.all qX&&(p.1.all su&&p.2.2.1.all vz)))))):=by unfold sw;rfl
 rw[agT]
 refine U.mk fun y1 e1=> ?_
 rw[vT _ 60 60 rfl,vT _ 120 120 rfl,vT _ 60 60 rfl,vT _ 20 20 rfl] at e1
 have hF:sw p=(!y1&&(p.2.2.2.1.all qX&&(p.1.all su&&p.2.2.1.all vz))):=by
  rw[hF,e1]
  have key:∀a b c d e:Bool,(a&&(b&&(c&&(d&&e))))=(!(bif(bif(bif !a then true else !b) then true else !c) then true else !d)&&e):=by decide
  exact key _ _ _ _ _
 rw[hF]
 simp only[dz,true_and,and_true,Int.toNat_natCast]
 refine⟨fun h=>by rw[h];rfl,fun h=> ?_⟩
 rw[h,Bool.not_false,Bool.true_and]
 refine⟨⟨0,⟨by omega,rfl⟩,rfl⟩,fun s=>U.mk fun y3 e3=>U.mk fun y4 e4=>U.mk fun y5 e5=>U.mk fun y6 e6=> ?_⟩
 rintro⟨h1,h2⟩
 have h2:(p.2.2.2.1.take s).all qX=true:=h2
 have hS:qX (p.2.2.2.1.getD s zL)= !y6:=by
  have e4:y4=p.2.2.2.1.getD s zL:=e4
  rw[e6,e5,vT _ 60 60 rfl,vT _ 100 100 rfl]
  unfold qX
  rw[←e4]
  have key:∀a b:Bool,(a&&b)= !(bif !a then true else !b):=by decide
  exact key _ _
 refine⟨fun h=> ?_,fun h=> ?_⟩
 ·have h:=ba e3 h
  refine⟨⟨by omega,by omega⟩,fun _=>⟨by omega,by omega⟩,fun h6=> ?_,fun h6=>⟨dr h hw.2.2.2,s+1,⟨by omega,?_⟩,by omega,by omega⟩⟩
  ·rw[mG zL h (by rw[hS,h6];rfl)]
   rfl
  ·exact all_succ zL h h2 (by rw[hS,h6];rfl)
 rw[jx (br e3 h) h2,Bool.true_and]
 refine⟨⟨0,⟨by omega,rfl⟩,rfl⟩,fun t=>U.mk fun y8 e8=>U.mk fun y9 e9=> ?_⟩
 rintro⟨h1,h2⟩
 have h2:(p.1.take t).all su=true:=h2
 have hS:su (p.1.getD t zE)= !y9:=by
  rw[e9,vT _ 100 100 rfl,Bool.not_not]
  rfl
 refine⟨fun h=> ?_,fun h=> ?_⟩
 ·have h:=ba e8 h
  refine⟨⟨by omega,by omega⟩,fun h6=> ?_,fun h6=>⟨dr h hw.1,t+1,⟨by omega,?_⟩,by omega,by omega⟩⟩
  ·rw[mG zE h (by rw[hS,h6];rfl)]
   rfl
  ·exact all_succ zE h h2 (by rw[hS,h6];rfl)
 rw[jx (br e8 h) h2,Bool.true_and]
 refine⟨⟨0,⟨by omega,rfl⟩,rfl⟩,fun u=>U.mk fun bI eH=>U.mk fun aw dM=> ?_⟩
 rintro⟨h1,h2⟩
 have h2:(p.2.2.1.take u).all vz=true:=h2
 have hS:vz (p.2.2.1.getD u zS)= !aw:=by
  rw[dM,vT _ 100 100 rfl,Bool.not_not]
  rfl
 refine⟨fun h=> ?_,fun h=> ?_⟩
 ·have h:=ba eH h
  refine⟨⟨by omega,by omega⟩,fun h6=> ?_,fun h6=>⟨dr h hw.2.2.1,u+1,⟨by omega,?_⟩,by omega,by omega⟩⟩
  ·rw[mG zS h (by rw[hS,h6];rfl)]
  ·exact all_succ zS h h2 (by rw[hS,h6];rfl)
 rw[jx (br eH h) h2]
theorem adA:aM Tryz.prog 101 Qb:=
 aM.bZ (l:=[]) (A:=Zb) aH trivial Tryz.func101 (by kernel_rfl) (by kernel_rfl) fun x hw hp=>akg x.1 (k7 hw.1)
theorem It {p:ab} (h:sw p=true):cS p:=by
 unfold sw at h
 simp only[Bool.and_eq_true,List.all_eq_true] at h
 intro l hl
 have:=of_decide_eq_true (h.2.2.2.2.1 l hl).1
 omega
theorem v47 (p:ab):ai (ah ay [(101,Qb),(102,FV)]) Tryz.f47 c47 aq (p,())=(
True∧(sw p=true→cS p)∧(bif sw p then bV p==(0:Int) else false)=oI p∧True):=by kernel_rfl
theorem ahp:aM Tryz.prog 47 c47:=
 aM.bZ (l:=[(101,Qb),(102,FV)]) (A:=fun _=>aq) aH ⟨adA,W9,trivial⟩ Tryz.func47 (by kernel_rfl) (by kernel_rfl) fun x hw hp=>by
  obtain⟨p,⟨⟩⟩:=x
  rw[v47]
  refine⟨trivial,fun h=>It h,?_,trivial⟩
  unfold oI
  have key:∀a b:Bool,(bif a then b else false)=(a&&b):=by decide
  exact key _ _
abbrev kz:Ty:= .pair I (.pair I I)
abbrev ek:Ty:= .pair I I
abbrev eP:Ty:= .pair I (.pair I (.pair I (.pair (.list kz) (.pair (.list ek) (.pair (.list ek) (.pair (.list I) (.pair (.list I) .bool)))))))
abbrev mH:Ty:= .pair PlanT (.list eP)
abbrev ml:Ty:= .pair I (.pair I (.pair .bool (.list .bool)))
abbrev cv:=Int×Int×Int
abbrev aY:=Int×Int
abbrev af:=Int×Int×Int×List cv×List aY×List aY×List Int×List Int×Bool
abbrev bP:=ab×List af
abbrev cM:=Int×Int×Bool×List Bool
def iq:cv:=(0,0,0)
def zR:af:=(0,0,0,[],[],[],[],[],false)
def abL:ab:=([],[],[],[],0,0,0,0,false)
def zC:bP:=(abL,[])
@[irreducible] def cm (r:af):List Int:=r.2.2.2.1.map fun s=>s.1
@[irreducible] def kD (r:af) (e:Int):Bool:=bG (cm r) e
@[irreducible] def fS (l:List ak) (x:ak):Bool:=l.any fun y=>y==x
@[irreducible] def bn (l:List aY) (x:aY):Bool:=l.any fun y=>y==x
@[irreducible] def eK (r:af) (s:cv) (pos stop to:Int):af:=
 (r.1,to,stop,r.2.2.2.1++[s],r.2.2.2.2.1++(bif pos==0 then[] else[(s.1,pos)]),[],[],[],false)
@[irreducible] def qJ (p:ab) (rec:af→ak→List Int→List af) (r:af) (x:ak) (met:List Int) (w:Int×Int):List af:=
 bif decide (0≤b8 p (x.1,w.1)) then[eK r (x.1,x.2,w.1) w.2 1 (b8 p (x.1,w.1))] else
 bif !(bu p (x.1,w.1)).2 then[eK r (x.1,x.2,w.1) w.2 3 (-1)] else
 rec (eK r (x.1,x.2,w.1) w.2 0 (-1)) (bu p (x.1,w.1)).1 met
@[irreducible] def jc (p:ab) (rec:af→ak→List Int→List af) (r:af) (x:ak) (met:List Int) (k:Nat):List af:=
 ((bF p x.1 x.2).take k).flatMap (qJ p rec r x met)
@[irreducible] def nA (p:ab) (rec:af→ak→List Int→List af) (r:af) (x:ak) (met:List Int):List af:=
 bif bG met x.1||decide (r.2.2.2.1.length=12) then[] else
 bif aI p x.1==4 then[eK r (x.1,x.2, -1) 0 2 (-1)] else
 jc p rec r x (met++[x.1]) (bF p x.1 x.2).length
def mZ (p:ab):Nat→af→ak→List Int→List af
 |0,_,_,_=>[]
 |n+1,r,x,met=>nA p (mZ p n) r x met
def Bn (n:Nat) (r:af) (met:List Int):Prop:=(12<r.2.2.2.1.length+n∧r.2.2.2.1.length≤12∧n≤13)∧r.2.2.2.2.1.length≤r.2.2.2.1.length∧met.length≤r.2.2.2.1.length+1
def wo (s:Int):af:=(s,0,0,[],[],[],[],[],false)
@[irreducible] def pr (p:ab) (s:Int):List af:=
 bif !(lB p s).2 then[] else bif !(bu p (lB p s).1).2 then[] else mZ p 13 (wo s) (bu p (lB p s).1).1 [(lB p s).1.1]
@[irreducible] def fL (p:ab) (k:Nat):List af:=(List.range k).flatMap fun(s:Nat)=>pr p (s:Int)
def jW (p:ab) (k:Nat):Bool:=decide (64<(fL p (k+1)).length)
@[irreducible] def cZ (p:ab):List af×Int:=bif cd (jW p) p.2.2.1.length then([],3) else(fL p p.2.2.1.length,0)
def q6 (s:cv):Int:=bif decide (2≤s.2.1) then 0 else 2
@[irreducible] def jk (p:ab) (s:cv):List ak:=
 bif aI p s.1==2 then[(s.1,3 - max s.2.1 s.2.2)] else bif aI p s.1==3 then[(s.1,q6 s),(s.1,q6 s+1)] else[]
@[irreducible] def cB (p:ab) (l:List ak):List ak:=l.filter fun x=>(bu p x).2
@[irreducible] def c7 (p:ab) (r:af) (k:Nat):List ak:=(r.2.2.2.1.take k).flatMap fun s=>cB p (jk p s)
@[irreducible] def bA (p:ab) (r:af):List ak:=c7 p r r.2.2.2.1.length
def xa (s:cv):Prop:=(-1≤s.2.1∧s.2.1≤3)∧ -1≤s.2.2∧s.2.2≤3
def qw (r:af):Prop:=r.2.2.2.1.length≤1000∧∀s∈r.2.2.2.1,xa s
abbrev au:=ab×Int×Int×Int×List cv×List aY×List aY×List Int×List Int×Bool×List ak
@[irreducible] def iT (s:au):af:=(s.2.1,s.2.2.1,s.2.2.2.1,s.2.2.2.2.1,s.2.2.2.2.2.1,s.2.2.2.2.2.2.1,s.2.2.2.2.2.2.2.1,s.2.2.2.2.2.2.2.2.1,s.2.2.2.2.2.2.2.2.2.1)
def zO (s:au) (g:List aY):au:=(s.1,s.2.1,s.2.2.1,s.2.2.2.1,s.2.2.2.2.1,s.2.2.2.2.2.1,g,s.2.2.2.2.2.2.2)
def Mc (s:au) (z:List Int):au:=(s.1,s.2.1,s.2.2.1,s.2.2.2.1,s.2.2.2.2.1,s.2.2.2.2.2.1,s.2.2.2.2.2.2.1,z,s.2.2.2.2.2.2.2.2)
def Bg (s:au) (z:List Int):au:=(s.1,s.2.1,s.2.2.1,s.2.2.2.1,s.2.2.2.2.1,s.2.2.2.2.2.1,s.2.2.2.2.2.2.1,s.2.2.2.2.2.2.2.1,z,s.2.2.2.2.2.2.2.2.2)
def ui (s:au):au:=(s.1,s.2.1,s.2.2.1,s.2.2.2.1,s.2.2.2.2.1,s.2.2.2.2.2.1,s.2.2.2.2.2.2.1,s.2.2.2.2.2.2.2.1,s.2.2.2.2.2.2.2.2.1,true,s.2.2.2.2.2.2.2.2.2.2)
def eN (s:au) (m:List ak):au:=(s.1,s.2.1,s.2.2.1,s.2.2.2.1,s.2.2.2.2.1,s.2.2.2.2.2.1,s.2.2.2.2.2.2.1,s.2.2.2.2.2.2.2.1,s.2.2.2.2.2.2.2.2.1,s.2.2.2.2.2.2.2.2.2.1,m)
abbrev eL (s:au):List cv:=s.2.2.2.2.1
abbrev cY (s:au):List aY:=s.2.2.2.2.2.1
abbrev aP (s:au):List aY:=s.2.2.2.2.2.2.1
abbrev cL (s:au):List Int:=s.2.2.2.2.2.2.2.1
abbrev cD (s:au):List Int:=s.2.2.2.2.2.2.2.2.1
abbrev cr (s:au):List ak:=s.2.2.2.2.2.2.2.2.2.2
@[irreducible] def bL (s:au) (e:Int):Bool×au:=
 bif bG (cL s) e then(true,s) else bif decide (12≤(cL s).length) then(false,ui s) else(true,Mc s (cL s++[e]))
@[irreducible] def px (rec:ak→au→au) (e stop:Int) (s:au):au:=bif(bu s.1 (e,stop)).2 then rec (bu s.1 (e,stop)).1 s else s
@[irreducible] def jg (rec:ak→au→au) (y:ak) (s:au):au:=
 bif y.2==0 then(bif(bL s y.1).1 then px rec y.1 2 (px rec y.1 1 (bL s y.1).2) else(bL s y.1).2) else
 bif !bn (cY s) (y.1,y.2)&& !bn (aP s) (y.1,y.2) then(bif bn (aP s) (y.1,3 - y.2) then s else zO s (aP s++[(y.1,3 - y.2)])) else
 (bif(bL s y.1).1 then px rec y.1 0 (bL s y.1).2 else(bL s y.1).2)
@[irreducible] def vf (rec:ak→au→au) (y:ak) (s:au):au:=
 bif decide (0≤b8 s.1 y)&& !s.1.2.2.2.2.2.2.2.2 then(bif bG (cD s) (b8 s.1 y) then s else Bg s (cD s++[b8 s.1 y])) else
 bif aI s.1 y.1==4 then ui s else bif aI s.1 y.1==2 then jg rec y s else
 (bif(bL s y.1).1 then px rec y.1 (mi s.1 y.1 y.2 0).1 (bL s y.1).2 else(bL s y.1).2)
@[irreducible] def sG (rec:ak→au→au) (y:ak) (s:au):au:=
 bif kD (iT s) y.1||fS (cr s) y then s else vf rec y (eN s (cr s++[y]))
def dQ:Nat→ak→au→au
 |0,_,s=>s
 |n+1,y,s=>sG (dQ n) y s
structure DJ (s:au):Prop where
 vt:bR s.1=true
 yT:s.1.2.1.length≤1000
 nodup:(cr s).Nodup
 sub:∀y∈cr s,y∈bT s.1
 guards:(aP s).length≤(cr s).length
 holds:(cD s).length≤(cr s).length
 nk:(cL s).length≤12
 steps:(eL s).length≤1000
def gk (n:Nat) (s:au):Prop:=DJ s∧(bT s.1).length<(cr s).length+n
def pc (n:Nat) (y:ak) (s:au):Prop:=gk n s∧y∈bT s.1
def lH (n:Nat) (y:ak) (s:au):Prop:=pc n y s∧(aP s).length<(cr s).length
def s0 (p:ab) (r:af):au:=(p,r.1,r.2.1,r.2.2.1,r.2.2.2.1,r.2.2.2.2.1,[],[],[],false,[])
def bE (p:ab) (r:af):Nat→au
 |0=>s0 p r
 |k+1=>px (dQ 161) ((bA p r).getD k zP).1 ((bA p r).getD k zP).2 (bE p r k)
@[irreducible] def dT (p:ab) (r:af):af:=iT (bE p r (bA p r).length)
def o6 (p:ab) (r:af):Prop:=bV p=0∧qw r∧r.2.2.2.2.1.length≤1000
@[irreducible] def cx (p:ab):bP×Int:=
 bif bV p==0 then(bif(cZ p).2==0 then((p,(cZ p).1.map (dT p)),0) else(zC,(cZ p).2)) else(zC,bV p)
@[irreducible] def ct (p:ab):List af×Bool:=bif oI p then((cx p).1.2,(cx p).2==0) else([],false)
def Yq:bh where
 args:=[eP]
 out:= .row 3 I
 pre:=fun(x:af×Unit)=>x.1.2.2.2.1.length≤1000000
 fn:=fun(x:af×Unit)=>(cm x.1,())
def P3:bh where
 args:=[eP,I]
 out:= .data [.bool]
 pre:=fun(x:af×Int×Unit)=>x.1.2.2.2.1.length≤1000000
 fn:=fun(x:af×Int×Unit)=>(kD x.1 x.2.1,())
def KQ:bh where
 args:=[.list aL,aL]
 out:= .data [.bool]
 pre:=fun(x:List ak×ak×Unit)=>True
 fn:=fun(x:List ak×ak×Unit)=>(fS x.1 x.2.1,())
def KM:bh where
 args:=[.list ek,ek]
 out:= .data [.bool]
 pre:=fun(x:List aY×aY×Unit)=>True
 fn:=fun(x:List aY×aY×Unit)=>(bn x.1 x.2.1,())
def tY (r:af):Prop:=r.2.2.2.1.length≤1000∧r.2.2.2.2.1.length≤1000
def KR:bh where
 args:=[eP,kz,I,I,I]
 out:= .data [eP]
 pre:=fun(x:af×cv×Int×Int×Int×Unit)=>tY x.1
 fn:=fun(x:af×cv×Int×Int×Int×Unit)=>(eK x.1 x.2.1 x.2.2.1 x.2.2.2.1 x.2.2.2.2.1,())
def FU (n:Nat):bh where
 args:=[PlanT,eP,aL,.list I]
 out:= .data [.list eP]
 pre:=fun(x:ab×af×ak×List Int×Unit)=>Bn n x.2.1 x.2.2.2.1
 fn:=fun(x:ab×af×ak×List Int×Unit)=>(mZ x.1 n x.2.1 x.2.2.1 x.2.2.2.1,())
def P7:bh where
 args:=[PlanT,I]
 out:= .data [.list eP]
 pre:=fun(x:ab×Int×Unit)=>True
 fn:=fun(x:ab×Int×Unit)=>(pr x.1 x.2.1,())
def LO:fq where
 args:=[.aC PlanT]
 outs:=[.row 49 eP,.aC I]
 pre:=fun(x:ab×Unit)=>x.1.2.2.1.length≤1000
 fn:=fun(x:ab×Unit)=>((cZ x.1).1,(cZ x.1).2,())
def Lr:bh where
 args:=[PlanT,eP]
 out:= .data [.list aL]
 pre:=fun(x:ab×af×Unit)=>qw x.2.1
 fn:=fun(x:ab×af×Unit)=>(bA x.1 x.2.1,())
abbrev DI:eQ:= .cells true (.pair (.aC PlanT) (.pair (.aC I) (.pair (.aC I) (.pair (.aC I) (.pair (.row 76 kz) (.pair (.row 90 ek) (.pair (.row 90 ek) (.pair (.row 3 I) (.pair (.row 3 I) (.pair (.aC .bool) (.row 156 aL)))))))))))
def Dn:fq where
 args:=[DI,.aC I]
 outs:=[.aC .bool]
 pre:=fun(x:au×Int×Unit)=>(cL x.1).length≤1000
 fn:=fun(x:au×Int×Unit)=>((bL x.1 x.2.1).1,())
 fO:=fun(x:au×Int×Unit)=>((bL x.1 x.2.1).2,x.2)
def IS (n:Nat):fq where
 args:=[DI,.aC aL]
 outs:=[]
 pre:=fun(x:au×ak×Unit)=>pc n x.2.1 x.1
 fn:=fun _=>()
 fO:=fun(x:au×ak×Unit)=>(dQ n x.2.1 x.1,x.2)
def wT (n:Nat):fq where
 args:=[DI,.aC I,.aC I]
 outs:=[]
 pre:=fun(x:au×Int×Int×Unit)=>gk n x.1
 fn:=fun _=>()
 fO:=fun(x:au×Int×Int×Unit)=>(px (dQ n) x.2.1 x.2.2.1 x.1,x.2)
def KP (n:Nat):fq where
 args:=[DI,.aC aL]
 outs:=[]
 pre:=fun(x:au×ak×Unit)=>lH n x.2.1 x.1
 fn:=fun _=>()
 fO:=fun(x:au×ak×Unit)=>(jg (dQ n) x.2.1 x.1,x.2)
def pM:ab:=(
 [([87],4,0),([65],1,20),([80],2,10),([66],1,20),([67],1,30),([69],4,0)],
 [((0,0),(1,0)),((1,1),(2,0)),((2,1),(3,0)),((3,1),(5,0)),((2,2),(4,0))],
 [([119],(0,0),false),([97],(1,1),false),([101],(5,0),false),([98],(3,0),false),([99],(4,0),false)],
 [],10,5,15,2,false)
def Yx:bh where
 args:=[]
 out:= .data [PlanT]
 pre:=fun(x:Unit)=>True
 fn:=fun(x:Unit)=>(pM,())
def LN:bh where
 args:=[PlanT,eP]
 out:= .data [eP]
 pre:=fun(x:ab×af×Unit)=>o6 x.1 x.2.1
 fn:=fun(x:ab×af×Unit)=>(dT x.1 x.2.1,())
def Yw:bh where
 args:=[PlanT]
 out:= .data [mH,I]
 pre:=fun(x:ab×Unit)=>cS x.1
 fn:=fun(x:ab×Unit)=>((cx x.1).1,(cx x.1).2,())
def V0:bh where
 args:=[PlanT]
 out:= .data [.list eP,.bool]
 pre:=fun(x:ab×Unit)=>True
 fn:=fun(x:ab×Unit)=>((ct x.1).1,(ct x.1).2,())
def a77 (x:af×Unit):eC:=bj [(3,fun _=>mN x.1.2.2.2.1.length 4 3 1000 3 I (fun k=>(x.1.2.2.2.1.take k).map fun s=>s.1) [1] [1])]
def YT (x:List ak×ak×Unit):eC:=bj [(2,fun _=>dE x.1.length (kI (fun y=>y==x.2.1) x.1) 5 [0,3] [3])]
def YR (x:List aY×aY×Unit):eC:=bj [(2,fun _=>dE x.1.length (kI (fun y=>y==x.2.1) x.1) 5 [0,3] [3])]
def Za (x:ab×Unit):eC:=bj [(3,fun _=>{
 σ:=Nat
 ok:=fun k=>k≤x.1.2.2.1.length∧dZ (jW x.1) k
 mu:=fun k=>x.1.2.2.1.length - k
 sl:=fun k=>[(5,.one (.aC I (k:Int))),(4,.one (.row eP 1000))]
 bl:=fun k=>[(1000,.row false 49 eP (fL x.1 k))]
 keep:=[1]
 cy:=[1]})]
def a160 (x:ab×af×Unit):eC:=bj [(3,fun _=>mN x.2.1.2.2.2.1.length 6 5 1000 156 aL (fun k=>c7 x.1 x.2.1 k) [2,3] [2,3]),
 (16,fun S=>{
 σ:=Nat
 ok:=fun j=>j≤(jk x.1 (x.2.1.2.2.2.1.getD (dC S 6).toNat iq)).length
 mu:=fun j=>(jk x.1 (x.2.1.2.2.2.1.getD (dC S 6).toNat iq)).length - j
 sl:=fun j=>[(10,.one (.aC I (j:Int))),(5,.one (.row aL 1001)),(8,.one (.row aL 1002))]
 bl:=fun j=>[(1001,.row false 156 aL (c7 x.1 x.2.1 (dC S 6).toNat++cB x.1 ((jk x.1 (x.2.1.2.2.2.1.getD (dC S 6).toNat iq)).take j))),(1002,.row false 156 aL (jk x.1 (x.2.1.2.2.2.1.getD (dC S 6).toNat iq)))]
 keep:=[2,3,6]
 cy:=[2,3]})] [29,43,12,75]
def a232 (n:Nat) (x:ab×af×ak×List Int×Unit):eC:=bj [(9,fun _=>{
 σ:=Nat
 ok:=fun k=>k≤(bF x.1 x.2.2.1.1 x.2.2.1.2).length
 mu:=fun k=>(bF x.1 x.2.2.1.1 x.2.2.1.2).length - k
 sl:=fun k=>[(11,.one (.aC I (k:Int))),(9,.one (.row eP 1000)),(3,.one (.row I 1001))]
 bl:=fun k=>[(1000,.row false 49 eP (jc x.1 (mZ x.1 n) x.2.1 x.2.2.1 (x.2.2.2.1++[x.2.2.1.1]) k)),(1001,.row true 3 I (x.2.2.2.1++[x.2.2.1.1]))]
 keep:=[4,5,6,10]
 cy:=[4,5,6]})]
def Uv (s:au):List (Nat×c5):=
 [(1000,.cells [.aC (.list B5) s.1.1,.aC (.list B4) s.1.2.1,.aC (.list wW) s.1.2.2.1,.aC (.list xP) s.1.2.2.2.1,.aC I s.1.2.2.2.2.1,.aC I s.1.2.2.2.2.2.1,.aC I s.1.2.2.2.2.2.2.1,.aC I s.1.2.2.2.2.2.2.2.1,.aC .bool s.1.2.2.2.2.2.2.2.2,
  .aC I s.2.1,.aC I s.2.2.1,.aC I s.2.2.2.1,.row kz 1001,.row ek 1002,.row ek 1003,.row I 1004,.row I 1005,.aC .bool s.2.2.2.2.2.2.2.2.2.1,.row aL 1006]),
  (1001,.row false 76 kz (eL s)),(1002,.row false 90 ek (cY s)),(1003,.row false 90 ek (aP s)),(1004,.row false 3 I (cL s)),(1005,.row false 3 I (cD s)),(1006,.row false 156 aL (cr s))]
def Y9 (x:ab×af×Unit):eC:=bj [(5,fun _=>{
 σ:=Nat
 ok:=fun k=>k≤(bA x.1 x.2.1).length
 mu:=fun k=>(bA x.1 x.2.1).length - k
 sl:=fun k=>[(7,.one (.aC I (k:Int))),(5,.one (.ptr 1000 0))]
 bl:=fun k=>Uv (bE x.1 x.2.1 k)
 keep:=[4,6]
 cy:=[4]})]
def a48 (x:ab×Unit):eC:=bj [(8,fun _=>{
 σ:=Nat
 ok:=fun k=>k≤(cZ x.1).1.length
 mu:=fun k=>(cZ x.1).1.length - k
 sl:=fun k=>[(7,.one (.aC I (k:Int))),(5,.one (.row eP 1000))]
 bl:=fun k=>[(1000,.row false 49 eP (((cZ x.1).1.take k).map (dT x.1)++(cZ x.1).1.drop k))]
 keep:=[1,2]
 cy:=[1,2]})]
theorem v77 (r:af):ai (ah ay []) Tryz.f77 Yq (a77 (r,())) (r,())=(
(∃(py:Nat),
py≤r.2.2.2.1.length∧
(↑py:Int)=(0:Int)∧
List.map (fun(s:cv)=>s.1) (List.take py r.2.2.2.1)=[]∧
aE r (True))∧
∀(s1:Nat),
U (decide ((↑s1:Int)<(↑r.2.2.2.1.length:Int))) fun(y2:Bool)=>
U (List.map (fun(s:cv)=>s.1) (List.take s1 r.2.2.2.1)) fun(y3:List Int)=>
U ((List.replicate (1:Nat) (0:Int)).set (0:Nat) (r.2.2.2.1.getD (↑s1:Int).toNat ((0:Int),(0:Int),(0:Int))).1) fun(y4:List Int)=>
s1≤r.2.2.2.1.length→
(y2=true→
aQ (↑s1:Int) r.2.2.2.1.length∧
roomFor (y3.length+y4.length) (8:Nat)∧
bq IntKind.i64 ((↑s1:Int)+(1:Int))∧
∃(fQ:Nat),
fQ≤r.2.2.2.1.length∧
r.2.2.2.1.length - fQ<r.2.2.2.1.length - s1∧
(↑fQ:Int)=(↑s1:Int)+(1:Int)∧
List.map (fun(s:cv)=>s.1) (List.take fQ r.2.2.2.1)=y3++y4∧
aE r (True))∧
(y2=false→y3=cm r∧True)):=by kernel_rfl
theorem b77 (r:af) (hl:r.2.2.2.1.length≤1000000):ai (ah ay []) Tryz.f77 Yq (a77 (r,())) (r,()):=by
 rw[v77]
 simp only[dz,true_and,and_true,Int.toNat_natCast]
 refine⟨⟨0,by omega,rfl,rfl⟩,fun s=>U.mk fun y2 e2=>U.mk fun y3 e3=>U.mk fun y4 e4=> ?_⟩
 intro hs
 have e4:y4=[(r.2.2.2.1.getD s iq).1]:=e4
 refine⟨fun h=> ?_,fun h=> ?_⟩
 ·have h:=ba e2 h
  refine⟨⟨by omega,by omega⟩,c6 (by rw[e3,e4];simp;omega) (by omega),bg (by omega) (by omega),s+1,by omega,by omega,by omega,?_⟩
  rw[nW _ iq h,e3,e4]
 ·rw[e3,tu e2 h]
  unfold cm
  rfl
theorem ag5:aM Tryz.prog 77 Yq:=
 aM.bZ (l:=[]) (A:=a77) aH trivial Tryz.func77 (by kernel_rfl) (by kernel_rfl) fun x _ hp=>b77 x.1 hp
theorem afP (r:af) (e:Int):ai (ah ay [(77,Yq),(31,wR)]) Tryz.f255 P3 aq (r,e,())=(
r.2.2.2.1.length≤(1000000:Nat)∧True∧bG (cm r) e=kD r e∧True):=by kernel_rfl
theorem acd:aM Tryz.prog 255 P3:=
 aM.bZ (l:=[(77,Yq),(31,wR)]) (A:=fun _=>aq) aH ⟨ag5,Kd,trivial⟩ Tryz.func255 (by kernel_rfl) (by kernel_rfl) fun x _ hp=>by
  obtain⟨r,e,⟨⟩⟩:=x
  rw[afP]
  refine⟨hp,trivial,?_,trivial⟩
  unfold kD
  rfl
theorem afO (l:List (Int×Int)) (x:Int×Int):ai (ah ay []) Tryz.f256 KQ (YT (l,x,())) (l,x,())=(
(∃(dp:Nat),(dp≤l.length∧kI (fun(y:ak)=>y==x) l dp)∧(↑dp:Int)=(0:Int)∧l=l∧x.1=x.1∧x.2=x.2∧True)∧
∀(s2:Nat),
U (decide ((↑s2:Int)<(↑l.length:Int))) fun(y3:Bool)=>
U (l.getD (↑s2:Int).toNat ((0:Int),(0:Int))) fun(y4:Int×Int)=>
U (y4.1==x.1&&(y4.2==x.2&&true)) fun(y5:Bool)=>
s2≤l.length∧kI (fun(y:ak)=>y==x) l s2→
(y3=true→
aQ (↑s2:Int) l.length∧
(y5=true→true=fS l x∧True)∧
(y5=false→
bq IntKind.i64 ((↑s2:Int)+(1:Int))∧
∃(eR:Nat),
(eR≤l.length∧kI (fun(y:ak)=>y==x) l eR)∧
l.length - eR<l.length - s2∧(↑eR:Int)=(↑s2:Int)+(1:Int)∧l=l∧x.1=x.1∧x.2=x.2∧True))∧
(y3=false→false=fS l x∧True)):=by kernel_rfl
theorem ajl (l:List ak) (x:ak) (hw:l.length≤aK):ai (ah ay []) Tryz.f256 KQ (YT (l,x,())) (l,x,()):=by
 rw[afO]
 simp only[true_and,and_true,Int.toNat_natCast]
 refine⟨⟨0,⟨by omega,rfl⟩,rfl⟩,fun s=>U.mk fun y3 e3=>U.mk fun y4 e4=>U.mk fun y5 e5=> ?_⟩
 rintro⟨h1,h2⟩
 have h2:(l.take s).any (fun y=>y==x)=false:=h2
 have e5:y5=(y4==x):=by rw[e5];exact sk _ _
 refine⟨fun hs=> ?_,fun hs=> ?_⟩
 ·have hs:=ba e3 hs
  refine⟨⟨by omega,by omega⟩,fun h=> ?_,fun h=>⟨dr hs hw,s+1,⟨by omega,?_⟩,by omega,by omega⟩⟩
  ·unfold fS
   exact(pK (p:=fun y=>y==x) (0,0) hs (by rw[←h,e5,e4])).symm
  ·exact any_succ (p:=fun y=>y==x) (0,0) hs h2 (by rw[←h,e5,e4])
 ·unfold fS
  exact(n4 (br e3 hs) h2).symm
theorem acb:aM Tryz.prog 256 KQ:=
 aM.bZ (l:=[]) (A:=YT) aH trivial Tryz.func256 (by kernel_rfl) (by kernel_rfl) fun x hw _=>ajl x.1 x.2.1 hw.1.1
theorem afJ (l:List (Int×Int)) (x:Int×Int):ai (ah ay []) Tryz.f270 KM (YR (l,x,())) (l,x,())=(
(∃(dp:Nat),(dp≤l.length∧kI (fun(y:aY)=>y==x) l dp)∧(↑dp:Int)=(0:Int)∧l=l∧x.1=x.1∧x.2=x.2∧True)∧
∀(s2:Nat),
U (decide ((↑s2:Int)<(↑l.length:Int))) fun(y3:Bool)=>
U (l.getD (↑s2:Int).toNat ((0:Int),(0:Int))) fun(y4:Int×Int)=>
U (y4.1==x.1&&(y4.2==x.2&&true)) fun(y5:Bool)=>
s2≤l.length∧kI (fun(y:aY)=>y==x) l s2→
(y3=true→
aQ (↑s2:Int) l.length∧
(y5=true→true=bn l x∧True)∧
(y5=false→
bq IntKind.i64 ((↑s2:Int)+(1:Int))∧
∃(eR:Nat),
(eR≤l.length∧kI (fun(y:aY)=>y==x) l eR)∧
l.length - eR<l.length - s2∧(↑eR:Int)=(↑s2:Int)+(1:Int)∧l=l∧x.1=x.1∧x.2=x.2∧True))∧
(y3=false→false=bn l x∧True)):=by kernel_rfl
theorem ajh (l:List aY) (x:aY) (hw:l.length≤aK):ai (ah ay []) Tryz.f270 KM (YR (l,x,())) (l,x,()):=by
 rw[afJ]
 simp only[true_and,and_true,Int.toNat_natCast]
 refine⟨⟨0,⟨by omega,rfl⟩,rfl⟩,fun s=>U.mk fun y3 e3=>U.mk fun y4 e4=>U.mk fun y5 e5=> ?_⟩
 rintro⟨h1,h2⟩
 have h2:(l.take s).any (fun y=>y==x)=false:=h2
 have e5:y5=(y4==x):=by rw[e5];exact sk _ _
 refine⟨fun hs=> ?_,fun hs=> ?_⟩
 ·have hs:=ba e3 hs
  refine⟨⟨by omega,by omega⟩,fun h=> ?_,fun h=>⟨dr hs hw,s+1,⟨by omega,?_⟩,by omega,by omega⟩⟩
  ·unfold bn
   exact(pK (p:=fun y=>y==x) (0,0) hs (by rw[←h,e5,e4])).symm
  ·exact any_succ (p:=fun y=>y==x) (0,0) hs h2 (by rw[←h,e5,e4])
 ·unfold bn
  exact(n4 (br e3 hs) h2).symm
theorem ab8:aM Tryz.prog 270 KM:=
 aM.bZ (l:=[]) (A:=YR) aH trivial Tryz.func270 (by kernel_rfl) (by kernel_rfl) fun x hw _=>ajh x.1 x.2.1 hw.1.1
theorem afR (r:af) (s:Int×Int×Int) (pos:Int) (stop:Int) (to:Int):ai (ah ay []) Tryz.f253 KR aq (r,s,pos,stop,to,())=(
U (List.replicate (0:Nat) ((0:Int),(0:Int),(0:Int))) fun(y5:List (Int×Int×Int))=>
U (y5++r.2.2.2.1) fun(y6:List (Int×Int×Int))=>
U ((List.replicate (1:Nat) ((0:Int),(0:Int),(0:Int))).set (0:Nat) s) fun(y7:List (Int×Int×Int))=>
U (List.replicate (0:Nat) ((0:Int),(0:Int))++r.2.2.2.2.1) fun(y8:List (Int×Int))=>
U ((List.replicate (1:Nat) ((0:Int),(0:Int))).set (0:Nat) (s.1,pos)) fun(y9:List (Int×Int))=>
U ([],[],[],false) fun(bp:List (Int×Int)×List Int×List Int×Bool)=>
U (eK r s pos stop to) fun(bI:af)=>
roomFor (y5.length+r.2.2.2.1.length) (24:Nat)∧
roomFor (y6.length+y7.length) (24:Nat)∧
roomFor ((List.replicate (0:Nat) ((0:Int),(0:Int))).length+r.2.2.2.2.1.length) (16:Nat)∧
((pos !=(0:Int))=true→roomFor (y8.length+y9.length) (16:Nat)∧(r.1,to,stop,y6++y7,y8++y9,bp)=bI∧True)∧
((pos !=(0:Int))=false→(r.1,to,stop,y6++y7,y8,bp)=bI∧True)):=by kernel_rfl
theorem ajm (r:af) (s:cv) (pos stop to:Int) (hp:tY r):ai (ah ay []) Tryz.f253 KR aq (r,s,pos,stop,to,()):=by
 obtain⟨h1,h2⟩:=hp
 rw[afR]
 refine U.mk fun y5 e5=>U.mk fun y6 e6=>U.mk fun y7 e7=>U.mk fun y8 e8=>U.mk fun y9 e9=>U.mk fun bp du=>U.mk fun bI eH=> ?_
 have e5:y5=[]:=e5
 subst e5
 have e6:y6=r.2.2.2.1:=e6
 have e7:y7=[s]:=e7
 have e8:y8=r.2.2.2.2.1:=e8
 have e9:y9=[(s.1,pos)]:=e9
 have hW:bI=(r.1,to,stop,r.2.2.2.1++[s],r.2.2.2.2.1++(bif pos==0 then[] else[(s.1,pos)]),[],[],[],false):=by rw[eH];unfold eK;rfl
 refine⟨c6 (by simp;omega) (by omega),c6 (by rw[e6,e7];simp;omega) (by omega),c6 (by simp;omega) (by omega),fun h=>⟨c6 (by rw[e8,e9];simp;omega) (by omega),?_,trivial⟩,fun h=>⟨?_,trivial⟩⟩
 ·have:(pos==0)=false:=by rw[iH] at h;simpa using h
  rw[hW,this,e6,e7,e8,e9,du]
  rfl
 ·have:(pos==0)=true:=by rw[iH] at h;simpa using h
  rw[hW,this,e6,e7,e8,du]
  simp
theorem ace:aM Tryz.prog 253 KR:=
 aM.bZ (l:=[]) (A:=fun _=>aq) aH trivial Tryz.func253 (by kernel_rfl) (by kernel_rfl) fun x _ hp=>ajm x.1 x.2.1 x.2.2.1 x.2.2.2.1 x.2.2.2.2.1 hp
theorem jJ (r:af) (s:cv) (pos stop to:Int):(eK r s pos stop to).2.2.2.1=r.2.2.2.1++[s]:=by unfold eK;rfl
theorem yo (r:af) (s:cv) (pos stop to:Int):(eK r s pos stop to).2.2.2.2.1.length≤r.2.2.2.2.1.length+1:=by
 unfold eK
 show(r.2.2.2.2.1++(bif pos==0 then[] else[(s.1,pos)])).length≤_
 cases pos==0<;>simp
theorem GR {p:ab} {rec:af→ak→List Int→List af} {r:af} {x:ak} {met:List Int} {k:Nat} (h:k<(bF p x.1 x.2).length):
  jc p rec r x met (k+1)=jc p rec r x met k++qJ p rec r x met ((bF p x.1 x.2).getD k (0,0)):=by
 unfold jc
 exact pZ _ (0,0) h
theorem GQ {p:ab} {rec:af→ak→List Int→List af} {r:af} {x:ak} {met:List Int}:jc p rec r x met 0=[]:=by
 unfold jc
 rfl
theorem Wi {p:ab} {rec:af→ak→List Int→List af} {B:Nat} (hB:1≤B) (pe:∀r x met,(rec r x met).length≤B) (r:af) (x:ak) (met:List Int) (w:Int×Int):(qJ p rec r x met w).length≤B:=by
 unfold qJ
 cases decide (0≤b8 p (x.1,w.1))<;>cases !(bu p (x.1,w.1)).2
 ·exact pe _ _ _
 ·exact hB
 ·exact hB
 ·exact hB
theorem DS {p:ab} {rec:af→ak→List Int→List af} {B:Nat} (hB:1≤B) (pe:∀r x met,(rec r x met).length≤B) (r:af) (x:ak) (met:List Int):∀k,k≤(bF p x.1 x.2).length→(jc p rec r x met k).length≤k*B
 |0,_=>by rw[GQ];simp
 |k+1,h=>by
  rw[GR (by omega),List.length_append,Nat.succ_mul]
  have h1:=DS (p:=p) hB pe r x met k (by omega)
  have h2:=Wi (p:=p) hB pe r x met ((bF p x.1 x.2).getD k (0,0))
  omega
theorem Gp (p:ab):∀(n:Nat) (r:af) (x:ak) (met:List Int),(mZ p n r x met).length≤2 ^ n
 |0,_,_,_=>by show 0≤_;omega
 |n+1,r,x,met=>by
  have h1:1≤2 ^ n:=Nat.one_le_two_pow
  have hw:=DS (p:=p) h1 (Gp p n) r x (met++[x.1]) (bF p x.1 x.2).length (Nat.le_refl _)
  have ho:=zV p x.1 x.2
  have hm:(bF p x.1 x.2).length*2 ^ n≤2*2 ^ n:=Nat.mul_le_mul_right _ ho
  have hp:2 ^ (n+1)=2*2 ^ n:=by rw[Nat.pow_succ,Nat.mul_comm]
  show(nA p (mZ p n) r x met).length≤_
  unfold nA
  cases bG met x.1||decide (r.2.2.2.1.length=12)<;>cases aI p x.1==4
  ·rw[cond_false,cond_false];omega
  ·rw[cond_false,cond_true];show 1≤_;omega
  ·rw[cond_true];show 0≤_;omega
  ·rw[cond_true];show 0≤_;omega
theorem v232 (n:Nat) (p:ab) (r:af) (x:Int×Int) (met:List Int):ai (ah ay [(31,wR),(207,ya),(253,KR),(254,FT),(229,x9),(227,oj),(232,FU n)]) Tryz.f232 (FU (n+1)) (a232 n (p,r,x,met,())) (p,r,x,met,())=(
U (bif bG met x.1 then true else(↑r.2.2.2.1.length:Int)==(12:Int)) fun(y4:Bool)=>
U (mZ p (n+(1:Nat)) r x met) fun(y5:List af)=>
U ((List.replicate (1:Nat) (0:Int)).set (0:Nat) x.1) fun(y6:List Int)=>
U (aI p x.1==(4:Int)) fun(y7:Bool)=>
U (List.replicate (1:Nat) ((0:Int),(0:Int),(0:Int),[],[],[],[],[],false))
fun(y8:List (af))=>
U (bF p x.1 x.2) fun(y9:List (Int×Int))=>
U (met++[x.1]) fun(bp:List Int)=>
True∧
(y4=true→[]=y5∧True)∧
(y4=false→
roomFor ((List.replicate (0:Nat) (0:Int)).length+met.length) (8:Nat)∧
roomFor ((List.replicate (0:Nat) (0:Int)++met).length+y6.length) (8:Nat)∧
True∧
(y7=true→tY r∧y8.set (0:Nat) (eK r (x.1,x.2,(-1:Int)) (0:Int) (2:Int) (-1:Int))=y5∧True)∧
(y7=false→
True∧
(∃(sf:Nat),
sf≤y9.length∧
(↑sf:Int)=(0:Int)∧
y9=y9∧
jc p (mZ p n) r x bp sf=[]∧
bp=List.replicate (0:Nat) (0:Int)++met++y6∧
aE p (aE r (x.1=x.1∧x.2=x.2∧True)))∧
∀(kd:Nat),
U (decide ((↑kd:Int)<(↑y9.length:Int))) fun(aw:Bool)=>
U (y9.getD (↑kd:Int).toNat ((0:Int),(0:Int))) fun(cb:Int×Int)=>
U (b8 p (x.1,cb.1)) fun(cW:Int)=>
U (jc p (mZ p n) r x bp kd) fun(bz:List af)=>
U (x.1,x.2,cb.1) fun(cT:Int×Int×Int)=>
U (y8.set (0:Nat) (eK r cT cb.2 (1:Int) cW))
fun(cF:List (af))=>
U (bu p (x.1,cb.1)) fun(dI:ak×Bool)=>
U (y8.set (0:Nat) (eK r cT cb.2 (3:Int) (-1:Int)))
fun(fC:List (af))=>
U (eK r cT cb.2 (0:Int) (-1:Int)) fun(dJ:af)=>
U (mZ p n dJ dI.1 bp) fun(fo:List af)=>
kd≤y9.length→
(aw=true→
aQ (↑kd:Int) y9.length∧
aQ (↑kd:Int) y9.length∧
True∧
(decide (cW≥(0:Int))=true→
aQ (↑kd:Int) y9.length∧
tY r∧
roomFor (bz.length+cF.length) (152:Nat)∧
bq IntKind.i64 ((↑kd:Int)+(1:Int))∧
∃(nm:Nat),
nm≤y9.length∧
y9.length - nm<y9.length - kd∧
(↑nm:Int)=(↑kd:Int)+(1:Int)∧
y9=y9∧
jc p (mZ p n) r x bp nm=bz++cF∧
bp=bp∧
aE p (aE r (x.1=x.1∧x.2=x.2∧True)))∧
(decide (cW≥(0:Int))=false→
True∧
((!dI.2)=true→
aQ (↑kd:Int) y9.length∧
tY r∧
roomFor (bz.length+fC.length) (152:Nat)∧
bq IntKind.i64 ((↑kd:Int)+(1:Int))∧
∃(nm:Nat),
nm≤y9.length∧
y9.length - nm<y9.length - kd∧
(↑nm:Int)=(↑kd:Int)+(1:Int)∧
y9=y9∧
jc p (mZ p n) r x bp nm=bz++fC∧
bp=bp∧
aE p (r.1=r.1∧
r.2.1=r.2.1∧
r.2.2.1=r.2.2.1∧
r.2.2.2.1=r.2.2.2.1∧
r.2.2.2.2.1=r.2.2.2.2.1∧
r.2.2.2.2.2.1=r.2.2.2.2.2.1∧
r.2.2.2.2.2.2.1=r.2.2.2.2.2.2.1∧
r.2.2.2.2.2.2.2.1=
r.2.2.2.2.2.2.2.1∧
r.2.2.2.2.2.2.2.2=
r.2.2.2.2.2.2.2.2∧
x.1=x.1∧x.2=x.2∧True))∧
((!dI.2)=false→
aQ (↑kd:Int) y9.length∧
tY r∧
Bn n dJ bp∧
roomFor (bz.length+fo.length) (152:Nat)∧
bq IntKind.i64 ((↑kd:Int)+(1:Int))∧
∃(nm:Nat),
nm≤y9.length∧
y9.length - nm<y9.length - kd∧
(↑nm:Int)=(↑kd:Int)+(1:Int)∧
y9=y9∧
jc p (mZ p n) r x bp nm=bz++fo∧
bp=bp∧
aE p (r.1=r.1∧
r.2.1=r.2.1∧
r.2.2.1=r.2.2.1∧
r.2.2.2.1=r.2.2.2.1∧
r.2.2.2.2.1=r.2.2.2.2.1∧
r.2.2.2.2.2.1=r.2.2.2.2.2.1∧
r.2.2.2.2.2.2.1=r.2.2.2.2.2.2.1∧
r.2.2.2.2.2.2.2.1=
r.2.2.2.2.2.2.2.1∧
r.2.2.2.2.2.2.2.2=
r.2.2.2.2.2.2.2.2∧
x.1=x.1∧x.2=x.2∧True))))∧
(aw=false→bz=y5∧True)))):=by kernel_rfl
theorem ajt (n:Nat) (p:ab) (r:af) (x:ak) (met:List Int) (hp:Bn (n+1) r met):ai (ah ay [(31,wR),(207,ya),(253,KR),(254,FT),(229,x9),(227,oj),(232,FU n)]) Tryz.f232 (FU (n+1)) (a232 n (p,r,x,met,())) (p,r,x,met,()):=by
 obtain⟨⟨p1,p2,p3⟩,p4,p5⟩:=hp
 have RI:tY r:=⟨by omega,by omega⟩
 have h2n:2 ^ n≤2 ^ 12:=Nat.pow_le_pow_right (by omega) (by omega)
 have anL:2 ^ 12=4096:=by decide
 have h1n:1≤2 ^ n:=Nat.one_le_two_pow
 rw[v232]
 refine U.mk fun y4 e4=>U.mk fun y5 e5=>U.mk fun y6 e6=>U.mk fun y7 e7=>U.mk fun y8 e8=>U.mk fun y9 e9=>U.mk fun bp du=> ?_
 have e6:y6=[x.1]:=e6
 rw[FM _ 12 12 rfl] at e4
 have hS:y5=bif y4 then[] else bif y7 then[eK r (x.1,x.2, -1) 0 2 (-1)] else jc p (mZ p n) r x bp (bF p x.1 x.2).length:=by
  rw[e5,e4,e7,du]
  show nA p (mZ p n) r x met=_
  unfold nA
  have key:∀a b:Bool,(a||b)=(bif a then true else b):=by decide
  rw[key]
 simp only[dz,true_and,and_true,Int.toNat_natCast]
 refine⟨fun h=>by rw[hS,h];rfl,fun h4=>⟨c6 (by simp;omega) (by omega),c6 (by rw[e6];simp;omega) (by omega),fun h7=>⟨RI,by rw[hS,h4,h7,e8];rfl⟩,fun h7=>⟨⟨0,by omega,rfl,GQ,by rw[du,e6];rfl⟩,fun s=>U.mk fun aw dM=>U.mk fun cb hX=>U.mk fun cW jG=>U.mk fun bz gJ=>U.mk fun cT kT=>U.mk fun cF iN=>U.mk fun dI m8=>U.mk fun fC nH=>U.mk fun dJ pb=>U.mk fun fo qZ=> ?_⟩⟩⟩
 have XK:=zV p x.1 x.2
 rw[←e9] at XK
 intro hs
 have U4:=DS (p:=p) h1n (Gp p n) r x bp s (by rw[←e9];exact hs)
 rw[←gJ] at U4
 have hsm:s*2 ^ n≤2*4096:=Nat.mul_le_mul (by omega) (by omega)
 have hX:cb=(bF p x.1 x.2).getD s (0,0):=by rw[hX,e9]
 have ah0:qJ p (mZ p n) r x bp cb=bif decide (0≤cW) then[eK r cT cb.2 1 cW] else bif !dI.2 then[eK r cT cb.2 3 (-1)] else mZ p n dJ dI.1 bp:=by
  rw[pb,m8,kT,jG]
  unfold qJ
  rfl
 rw[e8] at iN nH
 have iN:cF=[eK r cT cb.2 1 cW]:=iN
 have nH:fC=[eK r cT cb.2 3 (-1)]:=nH
 refine⟨fun h=> ?_,fun h=> ?_⟩
 ·have h:=ba dM h
  have oE:aQ (s:Int) y9.length:=⟨by omega,by omega⟩
  have rD:=GR (rec:=mZ p n) (r:=r) (met:=bp) (k:=s) (by rw[←e9];exact h)
  rw[←hX,ah0,←gJ] at rD
  refine⟨oE,oE,fun qU=> ?_,fun qU=>⟨fun zf=> ?_,fun zf=> ?_⟩⟩
  ·refine⟨oE,RI,c6 (by rw[iN];simp;omega) (by omega),bg (by omega) (by omega),s+1,by omega,by omega,by omega,?_⟩
   have qU:decide (0≤cW)=true:=qU
   rw[rD,qU,iN]
   rfl
  ·refine⟨oE,RI,c6 (by rw[nH];simp;omega) (by omega),bg (by omega) (by omega),s+1,by omega,by omega,by omega,?_⟩
   have qU:decide (0≤cW)=false:=qU
   rw[rD,qU,zf,nH]
   rfl
  ·have anC:fo.length≤2 ^ n:=by rw[qZ];exact Gp p n _ _ _
   have ju:dJ.2.2.2.1.length=r.2.2.2.1.length+1:=by rw[pb,jJ];simp
   have hnd:dJ.2.2.2.2.1.length≤r.2.2.2.2.1.length+1:=by rw[pb];exact yo _ _ _ _ _
   have jS:r.2.2.2.1.length≠12:=by
    rw[e4] at h4
    exact of_decide_eq_false (vF h4).2
   have jF:bp.length=met.length+1:=by rw[du];simp
   refine⟨oE,RI,⟨⟨by omega,by omega,by omega⟩,by omega,by omega⟩,c6 (by omega) (by omega),bg (by omega) (by omega),s+1,by omega,by omega,by omega,?_⟩
   have qU:decide (0≤cW)=false:=qU
   rw[rD,qU,zf,qZ]
   rfl
 ·have hle:=br dM h
  have:s=(bF p x.1 x.2).length:=by rw[←e9];omega
  rw[hS,h4,h7,gJ,this]
  rfl
theorem OL {r:af} {met:List Int}:¬Bn 0 r met:=fun hp=>by
 obtain⟨⟨p1,p2,p3⟩,_⟩:=hp
 omega
theorem WZ:∀n:Nat,aM Tryz.prog 232 (FU n)
 |0=>{fn:=⟨Tryz.f232,_,Tryz.func232,by kernel_rfl,rfl⟩,calls:=fun F w x vs hF hx hp=>absurd hp OL}
 |n+1=>aM.bZ (l:=[(31,wR),(207,ya),(253,KR),(254,FT),(229,x9),(227,oj),(232,FU n)]) (A:=a232 n) aH ⟨Kd,Q7,ace,WV,Q3,yJ,WZ n,trivial⟩ Tryz.func232 (by kernel_rfl) (by kernel_rfl) fun x _ hp=>ajt n x.1 x.2.1 x.2.2.1 x.2.2.2.1 hp
theorem v159 (p:ab) (s:Int):ai (ah ay [(213,TF),(227,oj),(232,FU 13)]) Tryz.f159 P7 aq (p,s,())=(
U (bu p (lB p s).1) fun(y2:ak×Bool)=>
U (s,(0:Int),(0:Int),[],[],[],[],[],false) fun(y3:af)=>
U ((List.replicate (1:Nat) (0:Int)).set (0:Nat) (lB p s).1.1) fun(y4:List Int)=>
True∧
((!(lB p s).2)=true→[]=pr p s∧True)∧
((!(lB p s).2)=false→True∧((!y2.2)=true→[]=pr p s∧True)∧((!y2.2)=false→Bn (13:Nat) y3 y4∧mZ p (13:Nat) y3 y2.1 y4=pr p s∧True))):=by kernel_rfl
theorem S8 (s e:Int):Bn 13 (wo s) [e]:=
 ⟨⟨show 12<0+13 by omega,show 0≤12 by omega,by omega⟩,show 0≤0 by omega,show 1≤0+1 by omega⟩
theorem ac2:aM Tryz.prog 159 P7:=
 aM.bZ (l:=[(213,TF),(227,oj),(232,FU 13)]) (A:=fun _=>aq) aH ⟨acz,yJ,WZ 13,trivial⟩ Tryz.func159 (by kernel_rfl) (by kernel_rfl) fun x _ hp=>by
  obtain⟨p,s,⟨⟩⟩:=x
  rw[v159]
  refine U.mk fun y2 e2=>U.mk fun y3 e3=>U.mk fun y4 e4=>⟨trivial,fun h=>⟨?_,trivial⟩,fun h=>⟨trivial,fun h2=>⟨?_,trivial⟩,fun h2=>⟨by rw[e3,e4];exact S8 _ _,?_,trivial⟩⟩⟩
  ·unfold pr
   rw[h]
   rfl
  ·unfold pr
   rw[h,←e2,h2]
   rfl
  ·unfold pr
   rw[h,←e2,h2,e3,e4]
   rfl
theorem Cv (p:ab) (s:Int):(pr p s).length≤8192:=by
 unfold pr
 have h:=Gp p 13 (wo s) (bu p (lB p s).1).1 [(lB p s).1.1]
 have e:2 ^ 13=8192:=by decide
 rw[e] at h
 cases !(lB p s).2<;>cases !(bu p (lB p s).1).2
 ·exact h
 ·exact Nat.zero_le _
 ·exact Nat.zero_le _
 ·exact Nat.zero_le _
theorem tm (p:ab) (k:Nat):fL p (k+1)=fL p k++pr p (k:Int):=by
 unfold fL
 rw[List.range_succ,List.flatMap_append]
 simp
theorem zz {p:ab} {k:Nat} (h:cd (jW p) k=false):(fL p k).length≤64:=by
 cases k with
 |zero=>unfold fL;simp
 |succ k=>
  have:=iS.1 h k (by omega)
  have:=of_decide_eq_false this
  omega
theorem agR (p:ab):bN (ah ay [(159,P7)]) Tryz.f103 LO (Za (p,())) (p,())=(
(∃(py:Nat),
(py≤p.2.2.1.length∧dZ (jW p) py)∧
(↑py:Int)=(0:Int)∧
fL p py=[]∧
aE p (True))∧
∀(s1:Nat),
U (decide ((↑s1:Int)<(↑p.2.2.1.length:Int))) fun(y2:Bool)=>
U (fL p s1++pr p (↑s1:Int)) fun(y3:List (af))=>
U (decide ((↑y3.length:Int)>(64:Int))) fun(y4:Bool)=>
s1≤p.2.2.1.length∧dZ (jW p) s1→
(y2=true→
True∧
roomFor ((fL p s1).length+(pr p (↑s1:Int)).length) (152:Nat)∧
(y4=true→[]=(cZ p).1∧(3:Int)=(cZ p).2∧True)∧
(y4=false→
bq IntKind.i64 ((↑s1:Int)+(1:Int))∧
∃(fQ:Nat),
(fQ≤p.2.2.1.length∧dZ (jW p) fQ)∧
p.2.2.1.length - fQ<p.2.2.1.length - s1∧
(↑fQ:Int)=(↑s1:Int)+(1:Int)∧
fL p fQ=y3∧
aE p (True)))∧
(y2=false→fL p s1=(cZ p).1∧(0:Int)=(cZ p).2∧True)):=by kernel_rfl
theorem ake (p:ab) (hl:p.2.2.1.length≤1000):bN (ah ay [(159,P7)]) Tryz.f103 LO (Za (p,())) (p,()):=by
 have hA:cZ p=bif cd (jW p) p.2.2.1.length then([],3) else(fL p p.2.2.1.length,0):=by unfold cZ;rfl
 rw[agR]
 simp only[dz,true_and,and_true,Int.toNat_natCast]
 refine⟨⟨0,⟨by omega,rfl⟩,rfl,by unfold fL;rfl⟩,fun s=>U.mk fun y2 e2=>U.mk fun y3 e3=>U.mk fun y4 e4=> ?_⟩
 rintro⟨h1,h2⟩
 have h2:cd (jW p) s=false:=h2
 have AB:=zz h2
 have XK:=Cv p s
 have e3:y3=fL p (s+1):=by rw[tm];exact e3
 have e4:jW p s=y4:=by
  rw[e4,vT _ 64 64 rfl,e3]
  unfold jW
  by_cases h:(fL p (s+1)).length≤64
  ·rw[decide_eq_true h,decide_eq_false (by omega)];rfl
  ·rw[decide_eq_false h,decide_eq_true (by omega)];rfl
 refine⟨fun h=> ?_,fun h=> ?_⟩
 ·have h:=ba e2 h
  refine⟨c6 (by omega) (by omega),fun h4=> ?_,fun h4=>⟨bg (by omega) (by omega),s+1,⟨by omega,?_⟩,by omega,by omega,e3.symm⟩⟩
  ·rw[hA,nL h (by rw[e4,h4])]
   exact⟨rfl,rfl⟩
  ·exact jV h2 (by rw[e4,h4])
 ·have hle:=br e2 h
  have:s=p.2.2.1.length:=by omega
  subst this
  rw[hA,h2]
  exact⟨rfl,rfl⟩
theorem adz:ew Tryz.prog 103 LO:=
 ew.bZ (l:=[(159,P7)]) (A:=Za) aH ⟨ac2,trivial⟩ Tryz.func103 (by kernel_rfl) (by kernel_rfl) fun x _ hp=>ake x.1 hp
theorem yG {p:ab} {l:List ak} {s:Nat} (h:s<l.length):cB p (l.take (s+1))=cB p (l.take s)++(bif(bu p (l.getD s (0,0))).2 then[l.getD s (0,0)] else[]):=by
 unfold cB
 rw[eM (0,0) h,List.filter_append]
 congr 1
theorem ur {p:ab} {r:af} {s:Nat} (h:s<r.2.2.2.1.length):c7 p r (s+1)=c7 p r s++cB p (jk p (r.2.2.2.1.getD s iq)):=by
 unfold c7
 exact pZ _ iq h
theorem vL (p:ab) (s:cv):(jk p s).length≤2:=by
 unfold jk
 cases aI p s.1==2<;>cases aI p s.1==3<;>simp
theorem vK (p:ab) (l:List ak):(cB p l).length≤l.length:=by
 unfold cB
 exact List.length_filter_le _ _
theorem pA (p:ab) (r:af):∀k,k≤r.2.2.2.1.length→(c7 p r k).length≤2*k
 |0,_=>by unfold c7;simp
 |k+1,h=>by
  rw[ur (by omega),List.length_append]
  have h1:=pA p r k (by omega)
  have h2:=vK p (jk p (r.2.2.2.1.getD k iq))
  have h3:=vL p (r.2.2.2.1.getD k iq)
  omega
theorem v160 (p:ab) (r:af):ai (ah ay [(207,ya),(227,oj)]) Tryz.f160 Lr (a160 (p,r,())) (p,r,())=(
(∃(dp:Nat),
dp≤r.2.2.2.1.length∧
(↑dp:Int)=(0:Int)∧
c7 p r dp=[]∧
aE p (aE r (True)))∧
∀(s2:Nat),
U (decide ((↑s2:Int)<(↑r.2.2.2.1.length:Int))) fun(y3:Bool)=>
U (r.2.2.2.1.getD (↑s2:Int).toNat ((0:Int),(0:Int),(0:Int))) fun(y4:Int×Int×Int)=>
U (aI p y4.1==(2:Int)) fun(y5:Bool)=>
U ((3:Int) - max y4.2.1 y4.2.2) fun(y6:Int)=>
U ((List.replicate (1:Nat) ((0:Int),(0:Int))).set (0:Nat) (y4.1,y6)) fun(y7:List (Int×Int))=>
U (jk p (r.2.2.2.1.getD (↑s2:Int).toNat iq)) fun(y8:List ak)=>
U (c7 p r (↑s2:Int).toNat) fun(y9:List ak)=>
U (aI p y4.1==(3:Int)) fun(bp:Bool)=>
U (bif decide (y4.2.1≥(2:Int)) then(0:Int) else(2:Int)) fun(bI:Int)=>
U (((List.replicate (2:Nat) ((0:Int),(0:Int))).set (0:Nat) (y4.1,bI)).set (1:Nat) (y4.1,bI+(1:Int))) fun(aw:List (Int×Int))=>
s2≤r.2.2.2.1.length→
(y3=true→
aQ (↑s2:Int) r.2.2.2.1.length∧
True∧
(y5=true→
bq IntKind.i64 y6∧
roomFor y7.length (16:Nat)∧
(∃(iy:Nat),
iy≤y8.length∧
(↑iy:Int)=(0:Int)∧
(↑s2:Int)=(↑s2:Int)∧
y9++cB p (List.take iy y8)=c7 p r s2∧
y8=y7∧
aE p (aE r (True)))∧
∀(bM:Nat),
U (decide ((↑bM:Int)<(↑y8.length:Int))) fun(cW:Bool)=>
U (y8.getD (↑bM:Int).toNat ((0:Int),(0:Int))) fun(bz:Int×Int)=>
U (y9++cB p (List.take bM y8)) fun(cT:List ak)=>
U ((List.replicate (1:Nat) ((0:Int),(0:Int))).set (0:Nat) bz) fun(cF:List (Int×Int))=>
bM≤y8.length→
(cW=true→
aQ (↑bM:Int) y8.length∧
True∧
((bu p bz).2=true→
aQ (↑bM:Int) y8.length∧
roomFor (cT.length+cF.length) (16:Nat)∧
bq IntKind.i64 ((↑bM:Int)+(1:Int))∧
∃(eO:Nat),
eO≤y8.length∧
y8.length - eO<y8.length - bM∧
(↑eO:Int)=(↑bM:Int)+(1:Int)∧
(↑s2:Int)=(↑s2:Int)∧
y9++cB p (List.take eO y8)=cT++cF∧
y8=y8∧
aE p (aE r (True)))∧
((bu p bz).2=false→
bq IntKind.i64 ((↑bM:Int)+(1:Int))∧
∃(eO:Nat),
eO≤y8.length∧
y8.length - eO<y8.length - bM∧
(↑eO:Int)=(↑bM:Int)+(1:Int)∧
(↑s2:Int)=(↑s2:Int)∧
y9++cB p (List.take eO y8)=cT∧
y8=y8∧
aE p (aE r (True))))∧
(cW=false→
bq IntKind.i64 ((↑s2:Int)+(1:Int))∧
∃(eO:Nat),
eO≤r.2.2.2.1.length∧
r.2.2.2.1.length - eO<r.2.2.2.1.length - s2∧
(↑eO:Int)=(↑s2:Int)+(1:Int)∧
c7 p r eO=cT∧
aE p (aE r (True))))∧
(y5=false→
(bp=true→
bq IntKind.i64 (bI+(1:Int))∧
roomFor aw.length (16:Nat)∧
(∃(iy:Nat),
iy≤y8.length∧
(↑iy:Int)=(0:Int)∧
(↑s2:Int)=(↑s2:Int)∧
y9++cB p (List.take iy y8)=c7 p r s2∧
y8=aw∧
aE p (aE r (True)))∧
∀(bM:Nat),
U (decide ((↑bM:Int)<(↑y8.length:Int))) fun(cW:Bool)=>
U (y8.getD (↑bM:Int).toNat ((0:Int),(0:Int))) fun(bz:Int×Int)=>
U (y9++cB p (List.take bM y8)) fun(cT:List ak)=>
U ((List.replicate (1:Nat) ((0:Int),(0:Int))).set (0:Nat) bz) fun(cF:List (Int×Int))=>
bM≤y8.length→
(cW=true→
aQ (↑bM:Int) y8.length∧
True∧
((bu p bz).2=true→
aQ (↑bM:Int) y8.length∧
roomFor (cT.length+cF.length) (16:Nat)∧
bq IntKind.i64 ((↑bM:Int)+(1:Int))∧
∃(eO:Nat),
eO≤y8.length∧
y8.length - eO<y8.length - bM∧
(↑eO:Int)=(↑bM:Int)+(1:Int)∧
(↑s2:Int)=(↑s2:Int)∧
y9++cB p (List.take eO y8)=cT++cF∧
y8=y8∧
aE p (aE r (True)))∧
((bu p bz).2=false→
bq IntKind.i64 ((↑bM:Int)+(1:Int))∧
∃(eO:Nat),
eO≤y8.length∧
y8.length - eO<y8.length - bM∧
(↑eO:Int)=(↑bM:Int)+(1:Int)∧
(↑s2:Int)=(↑s2:Int)∧
y9++cB p (List.take eO y8)=cT∧
y8=y8∧
aE p (aE r (True))))∧
(cW=false→
bq IntKind.i64 ((↑s2:Int)+(1:Int))∧
∃(eO:Nat),
eO≤r.2.2.2.1.length∧
r.2.2.2.1.length - eO<r.2.2.2.1.length - s2∧
(↑eO:Int)=(↑s2:Int)+(1:Int)∧
c7 p r eO=cT∧
aE p (aE r (True))))∧
(bp=false→
(∃(iy:Nat),
iy≤y8.length∧
(↑iy:Int)=(0:Int)∧
(↑s2:Int)=(↑s2:Int)∧
y9++cB p (List.take iy y8)=c7 p r s2∧
y8=[]∧
aE p (aE r (True)))∧
∀(bM:Nat),
U (decide ((↑bM:Int)<(↑y8.length:Int))) fun(cW:Bool)=>
U (y8.getD (↑bM:Int).toNat ((0:Int),(0:Int))) fun(bz:Int×Int)=>
U (y9++cB p (List.take bM y8)) fun(cT:List ak)=>
U ((List.replicate (1:Nat) ((0:Int),(0:Int))).set (0:Nat) bz) fun(cF:List (Int×Int))=>
bM≤y8.length→
(cW=true→
aQ (↑bM:Int) y8.length∧
True∧
((bu p bz).2=true→
aQ (↑bM:Int) y8.length∧
roomFor (cT.length+cF.length) (16:Nat)∧
bq IntKind.i64 ((↑bM:Int)+(1:Int))∧
∃(eO:Nat),
eO≤y8.length∧
y8.length - eO<y8.length - bM∧
(↑eO:Int)=(↑bM:Int)+(1:Int)∧
(↑s2:Int)=(↑s2:Int)∧
y9++cB p (List.take eO y8)=cT++cF∧
y8=y8∧
aE p (aE r (True)))∧
((bu p bz).2=false→
bq IntKind.i64 ((↑bM:Int)+(1:Int))∧
∃(eO:Nat),
eO≤y8.length∧
y8.length - eO<y8.length - bM∧
(↑eO:Int)=(↑bM:Int)+(1:Int)∧
(↑s2:Int)=(↑s2:Int)∧
y9++cB p (List.take eO y8)=cT∧
y8=y8∧
aE p (aE r (True))))∧
(cW=false→
bq IntKind.i64 ((↑s2:Int)+(1:Int))∧
∃(eO:Nat),
eO≤r.2.2.2.1.length∧
r.2.2.2.1.length - eO<r.2.2.2.1.length - s2∧
(↑eO:Int)=(↑s2:Int)+(1:Int)∧
c7 p r eO=cT∧
aE p (aE r (True))))))∧
(y3=false→c7 p r s2=bA p r∧True)):=by kernel_rfl
theorem xl {p:ab} {r:af} {s j:Nat} {y8 y9 cT:List ak} {cW:Bool} {bz:ak} {cF:List ak} (hl:r.2.2.2.1.length≤1000) (hs:s<r.2.2.2.1.length)
  (e8:y8=jk p (r.2.2.2.1.getD s iq)) (e9:y9=c7 p r s) (hj:j≤y8.length)
  (jG:cW=decide ((j:Int)<(y8.length:Int))) (gJ:bz=y8.getD j (0,0)) (kT:cT=y9++cB p (y8.take j)) (iN:cF=[bz]):
  (cW=true→aQ (j:Int) y8.length∧
   ((bu p bz).2=true→aQ (j:Int) y8.length∧roomFor (cT.length+cF.length) 16∧bq IntKind.i64 ((j:Int)+1)∧
    ∃s',s'≤y8.length∧y8.length - s'<y8.length - j∧(s':Int)=(j:Int)+1∧y9++cB p (y8.take s')=cT++cF)∧
   ((bu p bz).2=false→bq IntKind.i64 ((j:Int)+1)∧
    ∃s',s'≤y8.length∧y8.length - s'<y8.length - j∧(s':Int)=(j:Int)+1∧y9++cB p (y8.take s')=cT))∧
  (cW=false→bq IntKind.i64 ((s:Int)+1)∧∃s',s'≤r.2.2.2.1.length∧r.2.2.2.1.length - s'<r.2.2.2.1.length - s∧(s':Int)=(s:Int)+1∧c7 p r s'=cT):=by
 have hl8:y8.length≤2:=by rw[e8];exact vL _ _
 have hl9:y9.length≤2*s:=by rw[e9];exact pA p r s (by omega)
 have anF:cT.length≤4000:=by
  have:=vK p (y8.take j)
  rw[List.length_take] at this
  rw[kT,List.length_append]
  omega
 refine⟨fun h=> ?_,fun h=> ?_⟩
 ·have h:=ba jG h
  have rD:=yG (p:=p) h
  rw[←gJ] at rD
  refine⟨⟨by omega,by omega⟩,fun hn=>⟨⟨by omega,by omega⟩,c6 (by rw[iN];simp;omega) (by omega),bg (by omega) (by omega),j+1,by omega,by omega,by omega,?_⟩,fun hn=>⟨bg (by omega) (by omega),j+1,by omega,by omega,by omega,?_⟩⟩
  ·rw[rD,hn,kT,iN,List.append_assoc]
   rfl
  ·rw[rD,hn,kT,cond_false,List.append_nil]
 ·refine⟨bg (by omega) (by omega),s+1,by omega,by omega,by omega,?_⟩
  rw[ur hs,←e8,←e9,kT,tu jG h]
theorem ajP (p:ab) (r:af) (hp:qw r):ai (ah ay [(207,ya),(227,oj)]) Tryz.f160 Lr (a160 (p,r,())) (p,r,()):=by
 obtain⟨hl,ju⟩:=hp
 rw[v160]
 simp only[dz,true_and,and_true,Int.toNat_natCast]
 refine⟨⟨0,by omega,rfl,by unfold c7;rfl⟩,fun s=>U.mk fun y3 e3=>U.mk fun y4 e4=>U.mk fun y5 e5=>U.mk fun y6 e6=>U.mk fun y7 e7=>U.mk fun y8 e8=>U.mk fun y9 e9=>U.mk fun bp du=>U.mk fun bI eH=>U.mk fun aw dM=> ?_⟩
 intro hs
 have e4:y4=r.2.2.2.1.getD s iq:=e4
 have hP:y8=bif y5 then[(y4.1,3 - max y4.2.1 y4.2.2)] else bif bp then[(y4.1,q6 y4),(y4.1,q6 y4+1)] else[]:=by
  rw[e8,←e4,e5,du]
  unfold jk
  rfl
 refine⟨fun h=> ?_,fun h=> ?_⟩
 ·have h:=ba e3 h
  obtain⟨⟨q1,q2⟩,q3,q4⟩:=ju y4 (by rw[e4];exact fw iq h)
  have e7:y7=[(y4.1,y6)]:=e7
  have dM:aw=[(y4.1,bI),(y4.1,bI+1)]:=dM
  have eH:bI=q6 y4:=eH
  have hc:q6 y4=0∨q6 y4=2:=by
   unfold q6
   cases decide (2≤y4.2.1)
   ·exact .inr rfl
   ·exact .inl rfl
  have h0:y9++cB p (List.take 0 y8)=c7 p r s:=by
   rw[e9]
   unfold cB
   simp
  refine⟨⟨by omega,by omega⟩,fun h5=>⟨bg (by omega) (by omega),c6 (by rw[e7];simp) (by omega),⟨0,by omega,rfl,h0,by rw[hP,h5,e7,e6];rfl⟩,fun j=>U.mk fun cW jG=>U.mk fun bz gJ=>U.mk fun cT kT=>U.mk fun cF iN=>fun hj=>xl hl h e8 e9 hj jG gJ kT iN⟩,fun h5=>⟨fun jF=>⟨bg (by omega) (by omega),c6 (by rw[dM];simp) (by omega),⟨0,by omega,rfl,h0,by rw[hP,h5,jF,dM,eH];rfl⟩,fun j=>U.mk fun cW jG=>U.mk fun bz gJ=>U.mk fun cT kT=>U.mk fun cF iN=>fun hj=>xl hl h e8 e9 hj jG gJ kT iN⟩,fun jF=>⟨⟨0,by omega,rfl,h0,by rw[hP,h5,jF];rfl⟩,fun j=>U.mk fun cW jG=>U.mk fun bz gJ=>U.mk fun cT kT=>U.mk fun cF iN=>fun hj=>xl hl h e8 e9 hj jG gJ kT iN⟩⟩⟩
 ·have hle:=br e3 h
  have:s=r.2.2.2.1.length:=by omega
  subst this
  unfold bA
  rfl
theorem ac1:aM Tryz.prog 160 Lr:=
 aM.bZ (l:=[(207,ya),(227,oj)]) (A:=a160) aH ⟨Q7,yJ,trivial⟩ Tryz.func160 (by kernel_rfl) (by kernel_rfl) fun x _ hp=>ajP x.1 x.2.1 hp
theorem yg {a b:au} (h:a=b):a.1=b.1∧a.2.1=b.2.1∧a.2.2.1=b.2.2.1∧a.2.2.2.1=b.2.2.2.1∧a.2.2.2.2.1=b.2.2.2.2.1∧a.2.2.2.2.2.1=b.2.2.2.2.2.1∧a.2.2.2.2.2.2.1=b.2.2.2.2.2.2.1∧
  a.2.2.2.2.2.2.2.1=b.2.2.2.2.2.2.2.1∧a.2.2.2.2.2.2.2.2.1=b.2.2.2.2.2.2.2.2.1∧a.2.2.2.2.2.2.2.2.2.1=b.2.2.2.2.2.2.2.2.2.1∧a.2.2.2.2.2.2.2.2.2.2=b.2.2.2.2.2.2.2.2.2.2∧True:=by
 subst h
 exact⟨rfl,rfl,rfl,rfl,rfl,rfl,rfl,rfl,rfl,rfl,rfl,trivial⟩
theorem pX {α:Type} [BEq α] [LawfulBEq α]:∀{l m:List α},l.Nodup→(∀x∈l,x∈m)→l.length≤m.length
 |[],_,_,_=>Nat.zero_le _
 |x::l,m,hn,hs=>by
  obtain⟨h1,h2⟩:=List.nodup_cons.1 hn
  have hx:=hs x (by simp)
  have ih:=pX (m:=m.erase x) h2 fun y hy=>by
   have MX:=hs y (List.mem_cons_of_mem _ hy)
   have jS:y≠x:=fun e=>h1 (e▸hy)
   exact(List.mem_erase_of_ne jS).2 MX
  have hl:=List.length_erase_of_mem hx
  have vu:0<m.length:=List.length_pos_of_mem hx
  rw[List.length_cons]
  omega
structure ln (s s':au):Prop where
 inv:DJ s'
 qG:s'.1=s.1
 met:(cr s).length≤(cr s').length
theorem ln.refl {s:au} (h:DJ s):ln s s:=⟨h,rfl,Nat.le_refl _⟩
theorem ln.trans {a b c:au} (h:ln a b) (k:ln b c):ln a c:=⟨k.inv,k.qG.trans h.qG,Nat.le_trans h.met k.met⟩
theorem ln.gk {s s':au} {n:Nat} (h:ln s s') (k:gk n s):gk n s':=⟨h.inv,by rw[h.qG];have:=k.2;have:=h.met;omega⟩
theorem zw {s:au} (h:DJ s):ln s (ui s):=⟨⟨h.vt,h.yT,h.nodup,h.sub,h.guards,h.holds,h.nk,h.steps⟩,rfl,Nat.le_refl _⟩
theorem nj {s:au} (h:DJ s) (e:Int):ln s (bL s e).2∧cr (bL s e).2=cr s:=by
 unfold bL
 cases bG (cL s) e with
 |true=>exact⟨.refl h,rfl⟩
 |false=>
  cases hd:decide (12≤(cL s).length) with
  |true=>exact⟨zw h,rfl⟩
  |false=>
   have hd:=of_decide_eq_false hd
   refine⟨⟨⟨h.vt,h.yT,h.nodup,h.sub,h.guards,h.holds,?_,h.steps⟩,rfl,Nat.le_refl _⟩,rfl⟩
   show(cL s++[e]).length≤12
   rw[List.length_append]
   show(cL s).length+1≤12
   omega
theorem qf {rec:ak→au→au} {n:Nat} (pe:∀y s,pc n y s→ln s (rec y s)) (e stop:Int) {s:au} (h:gk n s):ln s (px rec e stop s):=by
 unfold px
 cases hn:(bu s.1 (e,stop)).2 with
 |true=>exact pe _ _ ⟨h,o0 hn⟩
 |false=>exact .refl h.1
theorem Jr {rec:ak→au→au} {n:Nat} (pe:∀y s,pc n y s→ln s (rec y s)) {y:ak} {s:au} (h:lH n y s):ln s (jg rec y s):=by
 obtain⟨⟨h1,h2⟩,h3⟩:=h
 obtain⟨hz,_⟩:=nj h1.1 y.1
 unfold jg
 cases y.2==0 with
 |true=>
  cases (bL s y.1).1 with
  |true=>
   have k1:=qf pe y.1 1 (hz.gk h1)
   have k2:=qf pe y.1 2 (k1.gk (hz.gk h1))
   exact hz.trans (k1.trans k2)
  |false=>exact hz
 |false=>
  cases !bn (cY s) (y.1,y.2)&& !bn (aP s) (y.1,y.2) with
  |true=>
   cases bn (aP s) (y.1,3 - y.2) with
   |true=>exact .refl h1.1
   |false=>
    refine⟨⟨h1.1.vt,h1.1.yT,h1.1.nodup,h1.1.sub,?_,h1.1.holds,h1.1.nk,h1.1.steps⟩,rfl,Nat.le_refl _⟩
    show(aP s++[(y.1,3 - y.2)]).length≤(cr s).length
    rw[List.length_append]
    show(aP s).length+1≤_
    omega
  |false=>
   cases (bL s y.1).1 with
   |true=>exact hz.trans (qf pe y.1 0 (hz.gk h1))
   |false=>exact hz
theorem Rl {rec:ak→au→au} {n:Nat} (pe:∀y s,pc n y s→ln s (rec y s)) {y:ak} {s:au} (h:lH n y s) (hh:(cD s).length<(cr s).length):ln s (vf rec y s):=by
 have h1:=h.1.1
 obtain⟨hz,_⟩:=nj h1.1 y.1
 unfold vf
 cases decide (0≤b8 s.1 y)&& !s.1.2.2.2.2.2.2.2.2 with
 |true=>
  cases bG (cD s) (b8 s.1 y) with
  |true=>exact .refl h1.1
  |false=>
   refine⟨⟨h1.1.vt,h1.1.yT,h1.1.nodup,h1.1.sub,h1.1.guards,?_,h1.1.nk,h1.1.steps⟩,rfl,Nat.le_refl _⟩
   show(cD s++[b8 s.1 y]).length≤(cr s).length
   rw[List.length_append]
   show(cD s).length+1≤_
   omega
 |false=>
  cases aI s.1 y.1==4 with
  |true=>exact zw h1.1
  |false=>
   cases aI s.1 y.1==2 with
   |true=>exact Jr pe h
   |false=>
    cases (bL s y.1).1 with
    |true=>exact hz.trans (qf pe _ _ (hz.gk h1))
    |false=>exact hz
theorem wA {s:au} {n:Nat} {y:ak} (h:pc (n+1) y s) (hy:fS (cr s) y=false):
  lH n y (eN s (cr s++[y]))∧(cD (eN s (cr s++[y]))).length<(cr (eN s (cr s++[y]))).length∧ln s (eN s (cr s++[y])):=by
 obtain⟨⟨h1,h2⟩,h3⟩:=h
 have hl:(cr (eN s (cr s++[y]))).length=(cr s).length+1:=by
  show(cr s++[y]).length=_
  rw[List.length_append]
  rfl
 have Tl:y∉cr s:=fun hm=>by
  unfold fS at hy
  have:=List.any_eq_false.1 hy y hm
  simp at this
 have inv:DJ (eN s (cr s++[y])):=by
  refine⟨h1.vt,h1.yT,?_,?_,?_,?_,h1.nk,h1.steps⟩
  ·show(cr s++[y]).Nodup
   rw[List.nodup_append]
   refine⟨h1.nodup,by simp,fun a ha b hb=> ?_⟩
   have:b=y:=by simpa using hb
   subst this
   exact fun e=>Tl (e▸ha)
  ·intro z hz
   have hz:z∈cr s++[y]:=hz
   rcases List.mem_append.1 hz with hz|hz
   ·exact h1.sub z hz
   ·have:z=y:=by simpa using hz
    rw[this];exact h3
  ·rw[hl];have:=h1.guards;show(aP s).length≤_;omega
  ·rw[hl];have:=h1.holds;show(cD s).length≤_;omega
 refine⟨⟨⟨⟨inv,?_⟩,h3⟩,?_⟩,?_,⟨inv,rfl,by rw[hl];omega⟩⟩
 ·rw[hl];show(bT s.1).length<_;omega
 ·rw[hl];have:=h1.guards;show(aP s).length<_;omega
 ·rw[hl];have:=h1.holds;show(cD s).length<_;omega
theorem xL {y:ak} {s:au}:¬pc 0 y s:=fun h=>by
 have:=pX h.1.1.nodup h.1.1.sub
 have:=h.1.2
 omega
theorem sC:∀(n:Nat) (y:ak) (s:au),pc n y s→ln s (dQ n y s)
 |0,y,s,h=>absurd h xL
 |n+1,y,s,h=>by
  show ln s (sG (dQ n) y s)
  unfold sG
  cases hb:kD (iT s) y.1||fS (cr s) y with
  |true=>exact .refl h.1.1
  |false=>
   rw[Bool.or_eq_false_iff] at hb
   obtain⟨k1,k2,k3⟩:=wA h hb.2
   exact k3.trans (Rl (sC n) k1 k2)
theorem afL (s:au) (e:Int):bN (ah ay [(31,wR)]) Tryz.f259 Dn aq (s,e,())=(
U (bG s.2.2.2.2.2.2.2.1 e) fun(y2:Bool)=>
U (bL s e).2.2.2 fun(y3:Int×Int×List (Int×Int×Int)×List (Int×Int)×List (Int×Int)×List Int×List Int×Bool×List (Int×Int))=>
U (decide ((↑s.2.2.2.2.2.2.2.1.length:Int)≥(12:Int))) fun(y4:Bool)=>
U ((List.replicate (1:Nat) (0:Int)).set (0:Nat) e) fun(y5:List Int)=>
True∧
(y2=true→
true=(bL s e).1∧
s.1=(bL s e).2.1∧
s.2.1=(bL s e).2.2.1∧
s.2.2.1=y3.1∧
s.2.2.2.1=y3.2.1∧
s.2.2.2.2.1=y3.2.2.1∧
s.2.2.2.2.2.1=y3.2.2.2.1∧
s.2.2.2.2.2.2.1=y3.2.2.2.2.1∧
s.2.2.2.2.2.2.2.1=y3.2.2.2.2.2.1∧
s.2.2.2.2.2.2.2.2.1=y3.2.2.2.2.2.2.1∧
s.2.2.2.2.2.2.2.2.2.1=y3.2.2.2.2.2.2.2.1∧
s.2.2.2.2.2.2.2.2.2.2=y3.2.2.2.2.2.2.2.2∧True)∧
(y2=false→
(y4=true→
false=(bL s e).1∧
s.1=(bL s e).2.1∧
s.2.1=(bL s e).2.2.1∧
s.2.2.1=y3.1∧
s.2.2.2.1=y3.2.1∧
s.2.2.2.2.1=y3.2.2.1∧
s.2.2.2.2.2.1=y3.2.2.2.1∧
s.2.2.2.2.2.2.1=y3.2.2.2.2.1∧
s.2.2.2.2.2.2.2.1=y3.2.2.2.2.2.1∧
s.2.2.2.2.2.2.2.2.1=y3.2.2.2.2.2.2.1∧
true=y3.2.2.2.2.2.2.2.1∧s.2.2.2.2.2.2.2.2.2.2=y3.2.2.2.2.2.2.2.2∧True)∧
(y4=false→
roomFor (s.2.2.2.2.2.2.2.1.length+y5.length) (8:Nat)∧
true=(bL s e).1∧
s.1=(bL s e).2.1∧
s.2.1=(bL s e).2.2.1∧
s.2.2.1=y3.1∧
s.2.2.2.1=y3.2.1∧
s.2.2.2.2.1=y3.2.2.1∧
s.2.2.2.2.2.1=y3.2.2.2.1∧
s.2.2.2.2.2.2.1=y3.2.2.2.2.1∧
s.2.2.2.2.2.2.2.1++y5=y3.2.2.2.2.2.1∧
s.2.2.2.2.2.2.2.2.1=y3.2.2.2.2.2.2.1∧
s.2.2.2.2.2.2.2.2.2.1=y3.2.2.2.2.2.2.2.1∧
s.2.2.2.2.2.2.2.2.2.2=y3.2.2.2.2.2.2.2.2∧True))):=by kernel_rfl
theorem aji (s:au) (e:Int) (hz:(cL s).length≤1000):bN (ah ay [(31,wR)]) Tryz.f259 Dn aq (s,e,()):=by
 have hz:s.2.2.2.2.2.2.2.1.length≤1000:=hz
 rw[afL]
 refine U.mk fun y2 e2=>U.mk fun y3 e3=>U.mk fun y4 e4=>U.mk fun y5 e5=> ?_
 have e5:y5=[e]:=e5
 rw[R5 _ 12 12 rfl] at e4
 subst e3
 have hZ:bL s e=bif y2 then(true,s) else bif y4 then(false,ui s) else(true,Mc s (cL s++[e])):=by
  rw[e2,e4]
  unfold bL
  rfl
 refine⟨trivial,fun h=>⟨by rw[hZ,h];rfl,yg (by rw[hZ,h];rfl)⟩,fun h=>⟨fun h4=>⟨by rw[hZ,h,h4];rfl,yg (a:=ui s) (by rw[hZ,h,h4];rfl)⟩,fun h4=>⟨c6 (by rw[e5];simp;omega) (by omega),by rw[hZ,h,h4];rfl,?_⟩⟩⟩
 rw[e5]
 exact yg (a:=Mc s (cL s++[e])) (by rw[hZ,h,h4];rfl)
theorem WU:ew Tryz.prog 259 Dn:=
 ew.bZ (l:=[(31,wR)]) (A:=fun _=>aq) aH ⟨Kd,trivial⟩ Tryz.func259 (by kernel_rfl) (by kernel_rfl) fun x _ hp=>aji x.1 x.2.1 hp
theorem agu (n:Nat) (s:au) (e:Int) (stop:Int):bN (ah ay [(227,oj),(233,IS n)]) Tryz.f161 (wT n) aq (s,e,stop,())=(
U (bu s.1 (e,stop)) fun(y3:ak×Bool)=>
U (px (dQ n) e stop s) fun(y4:au)=>
U (dQ n y3.1 s).2 fun(y5:Int×Int×Int×List (Int×Int×Int)×List (Int×Int)×List (Int×Int)×List Int×List Int×Bool×List (Int×Int))=>
True∧
(y3.2=true→
pc n y3.1 s∧
(dQ n y3.1 s).1=y4.1∧
y5.1=y4.2.1∧
y5.2.1=y4.2.2.1∧
y5.2.2.1=y4.2.2.2.1∧
y5.2.2.2.1=y4.2.2.2.2.1∧
y5.2.2.2.2.1=y4.2.2.2.2.2.1∧
y5.2.2.2.2.2.1=y4.2.2.2.2.2.2.1∧
y5.2.2.2.2.2.2.1=y4.2.2.2.2.2.2.2.1∧
y5.2.2.2.2.2.2.2.1=y4.2.2.2.2.2.2.2.2.1∧
y5.2.2.2.2.2.2.2.2.1=y4.2.2.2.2.2.2.2.2.2.1∧
y5.2.2.2.2.2.2.2.2.2=y4.2.2.2.2.2.2.2.2.2.2∧True)∧
(y3.2=false→
s.1=y4.1∧
s.2.1=y4.2.1∧
s.2.2.1=y4.2.2.1∧
s.2.2.2.1=y4.2.2.2.1∧
s.2.2.2.2.1=y4.2.2.2.2.1∧
s.2.2.2.2.2.1=y4.2.2.2.2.2.1∧
s.2.2.2.2.2.2.1=y4.2.2.2.2.2.2.1∧
s.2.2.2.2.2.2.2.1=y4.2.2.2.2.2.2.2.1∧
s.2.2.2.2.2.2.2.2.1=y4.2.2.2.2.2.2.2.2.1∧
s.2.2.2.2.2.2.2.2.2.1=y4.2.2.2.2.2.2.2.2.2.1∧
s.2.2.2.2.2.2.2.2.2.2=y4.2.2.2.2.2.2.2.2.2.2∧True)):=by kernel_rfl
theorem abF (n:Nat) (s:au) (e stop:Int) (hp:gk n s):bN (ah ay [(227,oj),(233,IS n)]) Tryz.f161 (wT n) aq (s,e,stop,()):=by
 rw[agu]
 refine U.mk fun y3 e3=>U.mk fun y4 e4=>U.mk fun y5 e5=> ?_
 subst e5
 have hS:y4=bif y3.2 then dQ n y3.1 s else s:=by
  rw[e4,e3]
  unfold px
  rfl
 refine⟨trivial,fun h=>⟨⟨hp,by rw[e3] at h ⊢;exact o0 h⟩,yg (by rw[hS,h];rfl)⟩,fun h=>yg (by rw[hS,h];rfl)⟩
theorem afN (n:Nat) (s:au) (y:Int×Int):bN (ah ay [(259,Dn),(270,KM),(161,wT n)]) Tryz.f257 (KP n) aq (s,y,())=(
U (px (dQ n) y.1 (1:Int) (bL s y.1).2) fun(y2:au)=>
U (px (dQ n) y.1 (2:Int) y2) fun(y3:au)=>
U (jg (dQ n) y s).1
fun(y4:ab)=>
U (jg (dQ n) y s).2 fun(y5:Int×Int×Int×List (Int×Int×Int)×List (Int×Int)×List (Int×Int)×List Int×List Int×Bool×List (Int×Int))=>
U (bL s y.1).2.2 fun(y6:Int×Int×Int×List (Int×Int×Int)×List (Int×Int)×List (Int×Int)×List Int×List Int×Bool×List (Int×Int))=>
U (!bn s.2.2.2.2.2.1 y) fun(y7:Bool)=>
U (bif y7 then !bn s.2.2.2.2.2.2.1 y else false) fun(y8:Bool)=>
U (y.1,(3:Int) - y.2) fun(y9:Int×Int)=>
U (!bn s.2.2.2.2.2.2.1 y9) fun(bp:Bool)=>
U ((List.replicate (1:Nat) ((0:Int),(0:Int))).set (0:Nat) y9) fun(bI:List (Int×Int))=>
U (px (dQ n) y.1 (0:Int) (bL s y.1).2) fun(aw:au)=>
((y.2==(0:Int))=true→
(cL s).length≤(1000:Nat)∧
((bL s y.1).1=true→
gk n (bL s y.1).2∧
gk n y2∧
y3.1=y4∧
y3.2.1=y5.1∧
y3.2.2.1=y5.2.1∧
y3.2.2.2.1=y5.2.2.1∧
y3.2.2.2.2.1=y5.2.2.2.1∧
y3.2.2.2.2.2.1=y5.2.2.2.2.1∧
y3.2.2.2.2.2.2.1=y5.2.2.2.2.2.1∧
y3.2.2.2.2.2.2.2.1=y5.2.2.2.2.2.2.1∧
y3.2.2.2.2.2.2.2.2.1=y5.2.2.2.2.2.2.2.1∧
y3.2.2.2.2.2.2.2.2.2.1=y5.2.2.2.2.2.2.2.2.1∧
y3.2.2.2.2.2.2.2.2.2.2=y5.2.2.2.2.2.2.2.2.2∧True)∧
((bL s y.1).1=false→
(bL s y.1).2.1=y4∧
y6.1=y5.1∧
y6.2.1=y5.2.1∧
y6.2.2.1=y5.2.2.1∧
y6.2.2.2.1=y5.2.2.2.1∧
y6.2.2.2.2.1=y5.2.2.2.2.1∧
y6.2.2.2.2.2.1=y5.2.2.2.2.2.1∧
y6.2.2.2.2.2.2.1=y5.2.2.2.2.2.2.1∧
y6.2.2.2.2.2.2.2.1=y5.2.2.2.2.2.2.2.1∧
y6.2.2.2.2.2.2.2.2.1=y5.2.2.2.2.2.2.2.2.1∧
y6.2.2.2.2.2.2.2.2.2=y5.2.2.2.2.2.2.2.2.2∧True))∧
((y.2==(0:Int))=false→
bq IntKind.i64 ((3:Int) - y.2)∧
True∧
(y7=true→True)∧
(y8=true→
True∧
(bp=true→
roomFor (s.2.2.2.2.2.2.1.length+bI.length) (16:Nat)∧
s.1=y4∧
s.2.1=y5.1∧
s.2.2.1=y5.2.1∧
s.2.2.2.1=y5.2.2.1∧
s.2.2.2.2.1=y5.2.2.2.1∧
s.2.2.2.2.2.1=y5.2.2.2.2.1∧
s.2.2.2.2.2.2.1++bI=y5.2.2.2.2.2.1∧
s.2.2.2.2.2.2.2.1=y5.2.2.2.2.2.2.1∧
s.2.2.2.2.2.2.2.2.1=y5.2.2.2.2.2.2.2.1∧
s.2.2.2.2.2.2.2.2.2.1=y5.2.2.2.2.2.2.2.2.1∧
s.2.2.2.2.2.2.2.2.2.2=y5.2.2.2.2.2.2.2.2.2∧True)∧
(bp=false→
s.1=y4∧
s.2.1=y5.1∧
s.2.2.1=y5.2.1∧
s.2.2.2.1=y5.2.2.1∧
s.2.2.2.2.1=y5.2.2.2.1∧
s.2.2.2.2.2.1=y5.2.2.2.2.1∧
s.2.2.2.2.2.2.1=y5.2.2.2.2.2.1∧
s.2.2.2.2.2.2.2.1=y5.2.2.2.2.2.2.1∧
s.2.2.2.2.2.2.2.2.1=y5.2.2.2.2.2.2.2.1∧
s.2.2.2.2.2.2.2.2.2.1=y5.2.2.2.2.2.2.2.2.1∧
s.2.2.2.2.2.2.2.2.2.2=y5.2.2.2.2.2.2.2.2.2∧True))∧
(y8=false→
(cL s).length≤(1000:Nat)∧
((bL s y.1).1=true→
gk n (bL s y.1).2∧
aw.1=y4∧
aw.2.1=y5.1∧
aw.2.2.1=y5.2.1∧
aw.2.2.2.1=y5.2.2.1∧
aw.2.2.2.2.1=y5.2.2.2.1∧
aw.2.2.2.2.2.1=y5.2.2.2.2.1∧
aw.2.2.2.2.2.2.1=y5.2.2.2.2.2.1∧
aw.2.2.2.2.2.2.2.1=y5.2.2.2.2.2.2.1∧
aw.2.2.2.2.2.2.2.2.1=y5.2.2.2.2.2.2.2.1∧
aw.2.2.2.2.2.2.2.2.2.1=y5.2.2.2.2.2.2.2.2.1∧
aw.2.2.2.2.2.2.2.2.2.2=y5.2.2.2.2.2.2.2.2.2∧True)∧
((bL s y.1).1=false→
(bL s y.1).2.1=y4∧
y6.1=y5.1∧
y6.2.1=y5.2.1∧
y6.2.2.1=y5.2.2.1∧
y6.2.2.2.1=y5.2.2.2.1∧
y6.2.2.2.2.1=y5.2.2.2.2.1∧
y6.2.2.2.2.2.1=y5.2.2.2.2.2.1∧
y6.2.2.2.2.2.2.1=y5.2.2.2.2.2.2.1∧
y6.2.2.2.2.2.2.2.1=y5.2.2.2.2.2.2.2.1∧
y6.2.2.2.2.2.2.2.2.1=y5.2.2.2.2.2.2.2.2.1∧
y6.2.2.2.2.2.2.2.2.2=y5.2.2.2.2.2.2.2.2.2∧True)))):=by kernel_rfl
theorem UB {s:au} (h:DJ s) {y:ak} (hy:y∈bT s.1):0≤y.2∧y.2≤3:=by
 obtain⟨i,hi,he⟩:=List.mem_iff_getElem.1 hy
 have hj:=h.vt
 unfold bR at hj
 rw[Bool.and_eq_true] at hj
 have:=gv.1 hj.1 i hi
 unfold kM at this
 rw[Bool.and_eq_true,eA zP hi,he] at this
 exact uL this.1
theorem DX (s:au) (h:DJ s):(cr s).length≤2000:=by
 have:=pX h.nodup h.sub
 have hlen:∀l:List nf,(l.flatMap fun j=>[j.1,j.2]).length=2*l.length:=fun l=>by
  induction l with
  |nil=>rfl
  |cons x l ih=>rw[List.flatMap_cons,List.length_append,ih,List.length_cons];simp;omega
 have he:(bT s.1).length=2*s.1.2.1.length:=hlen s.1.2.1
 have:=h.yT
 omega
theorem ajk (n:Nat) (s:au) (y:ak) (hp:lH n y s):bN (ah ay [(259,Dn),(270,KM),(161,wT n)]) Tryz.f257 (KP n) aq (s,y,()):=by
 have h1:=hp.1.1
 have hm:=DX s h1.1
 have Kt:=UB h1.1 hp.1.2
 obtain⟨hz,_⟩:=nj h1.1 y.1
 have HR:(cL s).length≤1000:=by have:=h1.1.nk;omega
 have Pv:s.2.2.2.2.2.2.1.length≤2000:=by
  have:=h1.1.guards
  show(aP s).length≤2000
  omega
 rw[afN]
 refine U.mk fun y2 e2=>U.mk fun y3 e3=>U.mk fun y4 e4=>U.mk fun y5 e5=>U.mk fun y6 e6=>U.mk fun y7 e7=>U.mk fun y8 e8=>U.mk fun y9 e9=>U.mk fun bp du=>U.mk fun bI eH=>U.mk fun aw dM=> ?_
 subst e4 e5 e6
 have eH:bI=[y9]:=eH
 have hS:jg (dQ n) y s=bif y.2==0 then(bif(bL s y.1).1 then y3 else(bL s y.1).2) else
   bif y8 then(bif !bp then s else zO s (aP s++[y9])) else(bif(bL s y.1).1 then aw else(bL s y.1).2):=by
  rw[e3,e2,dM,e8,e7,du,e9,Bool.not_not]
  have key:∀a b:Bool,(bif a then b else false)=(a&&b):=by decide
  rw[key]
  unfold jg
  rfl
 refine⟨fun h=>⟨HR,fun hf=>⟨hz.gk h1,?_,yg (by rw[hS,h,hf];rfl)⟩,fun hf=>yg (a:=(bL s y.1).2) (by rw[hS,h,hf];rfl)⟩,fun h=>⟨bg (by omega) (by omega),trivial,fun _=>trivial,fun h8=>⟨trivial,fun jF=>⟨c6 (by rw[eH];simp;omega) (by omega),?_⟩,fun jF=>yg (by rw[hS,h,h8,jF];rfl)⟩,fun h8=>⟨HR,fun hf=>⟨hz.gk h1,yg (by rw[hS,h,h8,hf];rfl)⟩,fun hf=>yg (a:=(bL s y.1).2) (by rw[hS,h,h8,hf];rfl)⟩⟩⟩
 ·rw[e2]
  exact(qf (sC n) y.1 1 (hz.gk h1)).gk (hz.gk h1)
 ·rw[eH]
  exact yg (a:=zO s (aP s++[y9])) (by rw[hS,h,h8,jF];rfl)
theorem v233 (n:Nat) (s:au) (y:Int×Int):bN (ah ay [(255,P3),(256,KQ),(229,x9),(31,wR),(207,ya),(257,KP n),(258,KO),(259,Dn),(161,wT n)]) Tryz.f233 (IS (n+1)) aq (s,y,())=(
U
(kD
(s.2.1,s.2.2.1,s.2.2.2.1,s.2.2.2.2.1,s.2.2.2.2.2.1,s.2.2.2.2.2.2.1,s.2.2.2.2.2.2.2.1,
s.2.2.2.2.2.2.2.2.1,s.2.2.2.2.2.2.2.2.2.1)
y.1)
fun(y2:Bool)=>
U (bif y2 then true else fS s.2.2.2.2.2.2.2.2.2.2 y) fun(y3:Bool)=>
U (dQ (n+(1:Nat)) y s) fun(y4:au)=>
U ((List.replicate (1:Nat) ((0:Int),(0:Int))).set (0:Nat) y) fun(y5:List (Int×Int))=>
U (bif decide (b8 s.1 y≥(0:Int)) then !s.1.2.2.2.2.2.2.2.2 else false) fun(y6:Bool)=>
U (!bG s.2.2.2.2.2.2.2.2.1 (b8 s.1 y)) fun(y7:Bool)=>
U ((List.replicate (1:Nat) (0:Int)).set (0:Nat) (b8 s.1 y)) fun(y8:List Int)=>
U (s.2.2.2.2.2.2.2.2.2.2++y5) fun(y9:List (Int×Int))=>
U (aI s.1 y.1==(4:Int)) fun(bp:Bool)=>
U (aI s.1 y.1==(2:Int)) fun(bI:Bool)=>
U
(s.1,s.2.1,s.2.2.1,s.2.2.2.1,s.2.2.2.2.1,s.2.2.2.2.2.1,s.2.2.2.2.2.2.1,s.2.2.2.2.2.2.2.1,
s.2.2.2.2.2.2.2.2.1,s.2.2.2.2.2.2.2.2.2.1,y9)
fun
(aw:
au)=>
U (jg (dQ n) y aw).2 fun(cb:Int×Int×Int×List (Int×Int×Int)×List (Int×Int)×List (Int×Int)×List Int×List Int×Bool×List (Int×Int))=>
U (px (dQ n) y.1 (mi s.1 y.1 y.2 (0:Int)).1 (bL aw y.1).2) fun(cW:au)=>
U (bL aw y.1).2.2 fun(bz:Int×Int×Int×List (Int×Int×Int)×List (Int×Int)×List (Int×Int)×List Int×List Int×Bool×List (Int×Int))=>
s.2.2.2.2.1.length≤(1000000:Nat)∧
(y2=false→True)∧
(y3=true→
s.1=y4.1∧
s.2.1=y4.2.1∧
s.2.2.1=y4.2.2.1∧
s.2.2.2.1=y4.2.2.2.1∧
s.2.2.2.2.1=y4.2.2.2.2.1∧
s.2.2.2.2.2.1=y4.2.2.2.2.2.1∧
s.2.2.2.2.2.2.1=y4.2.2.2.2.2.2.1∧
s.2.2.2.2.2.2.2.1=y4.2.2.2.2.2.2.2.1∧
s.2.2.2.2.2.2.2.2.1=y4.2.2.2.2.2.2.2.2.1∧
s.2.2.2.2.2.2.2.2.2.1=y4.2.2.2.2.2.2.2.2.2.1∧
s.2.2.2.2.2.2.2.2.2.2=y4.2.2.2.2.2.2.2.2.2.2∧True)∧
(y3=false→
roomFor (s.2.2.2.2.2.2.2.2.2.2.length+y5.length) (16:Nat)∧
True∧
(y6=true→
True∧
(y7=true→
roomFor (s.2.2.2.2.2.2.2.2.1.length+y8.length) (8:Nat)∧
s.1=y4.1∧
s.2.1=y4.2.1∧
s.2.2.1=y4.2.2.1∧
s.2.2.2.1=y4.2.2.2.1∧
s.2.2.2.2.1=y4.2.2.2.2.1∧
s.2.2.2.2.2.1=y4.2.2.2.2.2.1∧
s.2.2.2.2.2.2.1=y4.2.2.2.2.2.2.1∧
s.2.2.2.2.2.2.2.1=y4.2.2.2.2.2.2.2.1∧
s.2.2.2.2.2.2.2.2.1++y8=y4.2.2.2.2.2.2.2.2.1∧
s.2.2.2.2.2.2.2.2.2.1=y4.2.2.2.2.2.2.2.2.2.1∧
y9=y4.2.2.2.2.2.2.2.2.2.2∧True)∧
(y7=false→
s.1=y4.1∧
s.2.1=y4.2.1∧
s.2.2.1=y4.2.2.1∧
s.2.2.2.1=y4.2.2.2.1∧
s.2.2.2.2.1=y4.2.2.2.2.1∧
s.2.2.2.2.2.1=y4.2.2.2.2.2.1∧
s.2.2.2.2.2.2.1=y4.2.2.2.2.2.2.1∧
s.2.2.2.2.2.2.2.1=y4.2.2.2.2.2.2.2.1∧
s.2.2.2.2.2.2.2.2.1=y4.2.2.2.2.2.2.2.2.1∧
s.2.2.2.2.2.2.2.2.2.1=y4.2.2.2.2.2.2.2.2.2.1∧
y9=y4.2.2.2.2.2.2.2.2.2.2∧True))∧
(y6=false→
True∧
(bp=true→
s.1=y4.1∧
s.2.1=y4.2.1∧
s.2.2.1=y4.2.2.1∧
s.2.2.2.1=y4.2.2.2.1∧
s.2.2.2.2.1=y4.2.2.2.2.1∧
s.2.2.2.2.2.1=y4.2.2.2.2.2.1∧
s.2.2.2.2.2.2.1=y4.2.2.2.2.2.2.1∧
s.2.2.2.2.2.2.2.1=y4.2.2.2.2.2.2.2.1∧
s.2.2.2.2.2.2.2.2.1=y4.2.2.2.2.2.2.2.2.1∧
true=y4.2.2.2.2.2.2.2.2.2.1∧y9=y4.2.2.2.2.2.2.2.2.2.2∧True)∧
(bp=false→
(bI=true→
lH n y aw∧
(jg (dQ n) y aw).1=y4.1∧
cb.1=y4.2.1∧
cb.2.1=y4.2.2.1∧
cb.2.2.1=y4.2.2.2.1∧
cb.2.2.2.1=y4.2.2.2.2.1∧
cb.2.2.2.2.1=y4.2.2.2.2.2.1∧
cb.2.2.2.2.2.1=y4.2.2.2.2.2.2.1∧
cb.2.2.2.2.2.2.1=y4.2.2.2.2.2.2.2.1∧
cb.2.2.2.2.2.2.2.1=y4.2.2.2.2.2.2.2.2.1∧
cb.2.2.2.2.2.2.2.2.1=y4.2.2.2.2.2.2.2.2.2.1∧
cb.2.2.2.2.2.2.2.2.2=y4.2.2.2.2.2.2.2.2.2.2∧True)∧
(bI=false→
True∧
(cL aw).length≤(1000:Nat)∧
((bL aw y.1).1=true→
gk n (bL aw y.1).2∧
cW.1=y4.1∧
cW.2.1=y4.2.1∧
cW.2.2.1=y4.2.2.1∧
cW.2.2.2.1=y4.2.2.2.1∧
cW.2.2.2.2.1=y4.2.2.2.2.1∧
cW.2.2.2.2.2.1=y4.2.2.2.2.2.1∧
cW.2.2.2.2.2.2.1=y4.2.2.2.2.2.2.1∧
cW.2.2.2.2.2.2.2.1=y4.2.2.2.2.2.2.2.1∧
cW.2.2.2.2.2.2.2.2.1=y4.2.2.2.2.2.2.2.2.1∧
cW.2.2.2.2.2.2.2.2.2.1=y4.2.2.2.2.2.2.2.2.2.1∧
cW.2.2.2.2.2.2.2.2.2.2=y4.2.2.2.2.2.2.2.2.2.2∧True)∧
((bL aw y.1).1=false→
(bL aw y.1).2.1=y4.1∧
bz.1=y4.2.1∧
bz.2.1=y4.2.2.1∧
bz.2.2.1=y4.2.2.2.1∧
bz.2.2.2.1=y4.2.2.2.2.1∧
bz.2.2.2.2.1=y4.2.2.2.2.2.1∧
bz.2.2.2.2.2.1=y4.2.2.2.2.2.2.1∧
bz.2.2.2.2.2.2.1=y4.2.2.2.2.2.2.2.1∧
bz.2.2.2.2.2.2.2.1=y4.2.2.2.2.2.2.2.2.1∧
bz.2.2.2.2.2.2.2.2.1=y4.2.2.2.2.2.2.2.2.2.1∧
bz.2.2.2.2.2.2.2.2.2=y4.2.2.2.2.2.2.2.2.2.2∧True)))))):=by kernel_rfl
theorem ajs (n:Nat) (s:au) (y:ak) (hp:pc (n+1) y s):bN (ah ay [(255,P3),(256,KQ),(229,x9),(31,wR),(207,ya),(257,KP n),(258,KO),(259,Dn),(161,wT n)]) Tryz.f233 (IS (n+1)) aq (s,y,()):=by
 have h1:=hp.1
 have hm:=DX s h1.1
 have ju:s.2.2.2.2.1.length≤1000:=h1.1.steps
 have hhl:s.2.2.2.2.2.2.2.2.1.length≤2000:=by
  have:=h1.1.holds
  show(cD s).length≤2000
  omega
 have HZ:s.2.2.2.2.2.2.2.2.2.2.length≤2000:=hm
 rw[v233]
 refine U.mk fun y2 e2=>U.mk fun y3 e3=>U.mk fun y4 e4=>U.mk fun y5 e5=>U.mk fun y6 e6=>U.mk fun y7 e7=>U.mk fun y8 e8=>U.mk fun y9 e9=>U.mk fun bp du=>U.mk fun bI eH=>U.mk fun aw dM=>U.mk fun cb hX=>U.mk fun cW jG=>U.mk fun bz gJ=> ?_
 subst hX gJ
 have e5:y5=[y]:=e5
 have e8:y8=[b8 s.1 y]:=e8
 have dM:aw=eN s (cr s++[y]):=by rw[dM,e9,e5];rfl
 have e9:y9=cr s++[y]:=by rw[e9,e5]
 have e2:y2=kD (iT s) y.1:=by rw[e2];unfold iT;rfl
 have hS:y4=bif y3 then s else vf (dQ n) y aw:=by
  rw[e4,e3,e2,dM]
  show sG (dQ n) y s=_
  unfold sG
  have key:∀a b:Bool,(a||b)=(bif a then true else b):=by decide
  rw[key]
 have hN:vf (dQ n) y aw=bif y6 then(bif !y7 then aw else Bg aw (cD s++[b8 s.1 y])) else
   bif bp then ui aw else bif bI then jg (dQ n) y aw else(bif(bL aw y.1).1 then cW else(bL aw y.1).2):=by
  rw[jG,e6,e7,du,eH,dM,Bool.not_not]
  have key:∀a b:Bool,(bif a then b else false)=(a&&b):=by decide
  rw[key]
  unfold vf
  rfl
 refine⟨by omega,fun _=>trivial,fun h=>yg (by rw[hS,h];rfl),fun h=> ?_⟩
 have hfp:fS (cr s) y=false:=by
  rw[h] at e3
  exact(vF e3.symm).2
 obtain⟨k1,k2,k3⟩:=wA hp hfp
 rw[←dM] at k1 k2 k3
 rw[h,cond_false,hN] at hS
 obtain⟨hz,_⟩:=nj k1.1.1.1 y.1
 have HR:(cL aw).length≤1000:=by have:=k1.1.1.1.nk;omega
 refine⟨c6 (by rw[e5];simp;omega) (by omega),trivial,fun h6=>⟨trivial,fun h7=>⟨c6 (by rw[e8];simp;omega) (by omega),?_⟩,fun h7=> ?_⟩,fun h6=>⟨trivial,fun jF=> ?_,fun jF=>⟨fun mC=>⟨k1,yg (by rw[hS,h6,jF,mC];rfl)⟩,fun mC=>⟨trivial,HR,fun hf=>⟨hz.gk k1.1.1,yg (by rw[hS,h6,jF,mC,hf];rfl)⟩,fun hf=>yg (a:=(bL aw y.1).2) (by rw[hS,h6,jF,mC,hf];rfl)⟩⟩⟩⟩
 ·rw[e8,e9]
  exact yg (a:=Bg (eN s (cr s++[y])) (cD s++[b8 s.1 y])) (by rw[hS,h6,h7,dM];rfl)
 ·rw[e9]
  exact yg (a:=eN s (cr s++[y])) (by rw[hS,h6,h7,dM];rfl)
 ·rw[e9]
  exact yg (a:=ui (eN s (cr s++[y]))) (by rw[hS,h6,jF,dM];rfl)
theorem WY:∀n:Nat,ew Tryz.prog 233 (IS n)
 |0=>{fn:=⟨Tryz.f233,_,Tryz.func233,by kernel_rfl,rfl⟩,WN:=by decide,UL:=by decide,calls:=fun F w x vs pl h1 h2 h3 h4 h5 hp h6=>absurd hp xL}
 |n+1=>by
  have k26:ew Tryz.prog 161 (wT n):=ew.bZ (l:=[(227,oj),(233,IS n)]) (A:=fun _=>aq) aH ⟨yJ,WY n,trivial⟩ Tryz.func161 (by kernel_rfl) (by kernel_rfl) fun x _ hp=>abF n x.1 x.2.1 x.2.2.1 hp
  have k46:ew Tryz.prog 257 (KP n):=ew.bZ (l:=[(259,Dn),(270,KM),(161,wT n)]) (A:=fun _=>aq) aH ⟨WU,ab8,k26,trivial⟩ Tryz.func257 (by kernel_rfl) (by kernel_rfl) fun x _ hp=>ajk n x.1 x.2.1 hp
  exact ew.bZ (l:=[(255,P3),(256,KQ),(229,x9),(31,wR),(207,ya),(257,KP n),(258,KO),(259,Dn),(161,wT n)]) (A:=fun _=>aq) aH ⟨acd,acb,Q3,Kd,Q7,k46,aca,WU,k26,trivial⟩ Tryz.func233 (by kernel_rfl) (by kernel_rfl) fun x _ hp=>ajs n x.1 x.2.1 hp
theorem ac0 (n:Nat):ew Tryz.prog 161 (wT n):=
 ew.bZ (l:=[(227,oj),(233,IS n)]) (A:=fun _=>aq) aH ⟨yJ,WY n,trivial⟩ Tryz.func161 (by kernel_rfl) (by kernel_rfl) fun x _ hp=>abF n x.1 x.2.1 x.2.2.1 hp
theorem xM {p:ab} (h:bV p=0):lq p=true∧bR p=true:=by
 unfold bV at h
 cases h1:lq p with
 |false=>rw[h1] at h;have h:(3:Int)=0:=h;exact absurd h (by decide)
 |true=>
  rw[h1] at h
  cases h2:fArgs p with
  |false=>rw[h2] at h;have h:(1:Int)=0:=h;exact absurd h (by decide)
  |true=>
   rw[h2] at h
   cases h3:(dR (p.1.map fun e=>e.1)||(dR (p.2.2.1.map fun s=>s.1)||dR (p.2.2.2.1.map fun l=>l.1))) with
   |true=>rw[h3] at h;have h:(4:Int)=0:=h;exact absurd h (by decide)
   |false=>
    rw[h3] at h
    cases h4:bR p with
    |false=>rw[h4] at h;have h:(6:Int)=0:=h;exact absurd h (by decide)
    |true=>exact⟨rfl,rfl⟩
theorem xg {p:ab} (h:lq p=true):p.1.length≤40∧p.2.2.1.length≤24∧p.2.2.2.1.length≤4∧p.2.1.length≤80:=by
 unfold lq at h
 simp only[Bool.and_eq_true] at h
 exact⟨of_decide_eq_true h.1,of_decide_eq_true h.2.1,of_decide_eq_true h.2.2.1,of_decide_eq_true h.2.2.2⟩
theorem VF (p:ab):(bT p).length=2*p.2.1.length:=by
 have hlen:∀l:List nf,(l.flatMap fun j=>[j.1,j.2]).length=2*l.length:=fun l=>by
  induction l with
  |nil=>rfl
  |cons x l ih=>rw[List.flatMap_cons,List.length_append,ih,List.length_cons];simp;omega
 exact hlen p.2.1
theorem wM {p:ab} {r:af} (h:o6 p r):∀k,gk 161 (bE p r k)∧(bE p r k).1=p
 |0=>by
  obtain⟨h1,⟨h2,_⟩,_⟩:=h
  obtain⟨h3,h4⟩:=xM h1
  obtain⟨_,_,_,h5⟩:=xg h3
  have:=VF p
  refine⟨⟨⟨h4,?_,List.nodup_nil,(fun y hy=>by cases hy),Nat.zero_le _,Nat.zero_le _,Nat.zero_le _,h2⟩,?_⟩,rfl⟩
  ·show p.2.1.length≤1000
   omega
  ·show(bT p).length<0+161
   omega
 |k+1=>by
  obtain⟨ih1,ih2⟩:=wM h k
  have hk:=qf (sC 161) ((bA p r).getD k zP).1 ((bA p r).getD k zP).2 ih1
  exact⟨hk.gk ih1,hk.qG.trans ih2⟩
theorem agQ (p:ab) (r:af):ai (ah ay [(160,Lr),(161,wT 161)]) Tryz.f104 LN (Y9 (p,r,())) (p,r,())=(
U (List.replicate (0:Nat) ((0:Int),(0:Int),(0:Int))) fun(y2:List (Int×Int×Int))=>
roomFor (y2.length+r.2.2.2.1.length) (24:Nat)∧
roomFor ((List.replicate (0:Nat) ((0:Int),(0:Int))).length+r.2.2.2.2.1.length) (16:Nat)∧
qw r∧
(∃(fD:Nat),
fD≤(bA p r).length∧
(↑fD:Int)=(0:Int)∧
bA p r=bA p r∧
(bE p r fD).1.1=p.1∧
(bE p r fD).1.2.1=p.2.1∧
(bE p r fD).1.2.2.1=p.2.2.1∧
(bE p r fD).1.2.2.2.1=p.2.2.2.1∧
(bE p r fD).1.2.2.2.2.1=p.2.2.2.2.1∧
(bE p r fD).1.2.2.2.2.2.1=p.2.2.2.2.2.1∧
(bE p r fD).1.2.2.2.2.2.2.1=p.2.2.2.2.2.2.1∧
(bE p r fD).1.2.2.2.2.2.2.2.1=p.2.2.2.2.2.2.2.1∧
(bE p r fD).1.2.2.2.2.2.2.2.2=p.2.2.2.2.2.2.2.2∧
(bE p r fD).2.1=r.1∧
(bE p r fD).2.2.1=r.2.1∧
(bE p r fD).2.2.2.1=r.2.2.1∧
(bE p r fD).2.2.2.2.2.2.2.2.2.1=false∧
eL (bE p r fD)=y2++r.2.2.2.1∧
cY (bE p r fD)=List.replicate (0:Nat) ((0:Int),(0:Int))++r.2.2.2.2.1∧
aP (bE p r fD)=[]∧
cL (bE p r fD)=[]∧
cD (bE p r fD)=[]∧
cr (bE p r fD)=[]∧(0:Int)=(0:Int)∧(0:Int)=(0:Int)∧(0:Int)=(0:Int)∧false=false∧True)∧
∀(s3:Nat),
U (decide ((↑s3:Int)<(↑(bA p r).length:Int))) fun(y4:Bool)=>
U (bE p r s3).2.1 fun(y5:Int)=>
U (bE p r s3).2.2 fun(y6:Int×Int×List cv×List aY×List aY×List Int×List Int×Bool×List ak)=>
U
((bE p r s3).1,y5,y6.1,y6.2.1,eL (bE p r s3),cY (bE p r s3),aP (bE p r s3),cL (bE p r s3),cD (bE p r s3),
y6.2.2.2.2.2.2.2.1,cr (bE p r s3))
fun
(y7:
au)=>
U ((bA p r).getD (↑s3:Int).toNat ((0:Int),(0:Int))) fun(y8:Int×Int)=>
U (px (dQ (161:Nat)) y8.1 y8.2 y7) fun(y9:au)=>
s3≤(bA p r).length→
(y4=true→
aQ (↑s3:Int) (bA p r).length∧
aQ (↑s3:Int) (bA p r).length∧
gk (161:Nat) y7∧
bq IntKind.i64 ((↑s3:Int)+(1:Int))∧
∃(cU:Nat),
cU≤(bA p r).length∧
(bA p r).length - cU<(bA p r).length - s3∧
(↑cU:Int)=(↑s3:Int)+(1:Int)∧
bA p r=bA p r∧
(bE p r cU).1.1=y9.1.1∧
(bE p r cU).1.2.1=y9.1.2.1∧
(bE p r cU).1.2.2.1=y9.1.2.2.1∧
(bE p r cU).1.2.2.2.1=y9.1.2.2.2.1∧
(bE p r cU).1.2.2.2.2.1=y9.1.2.2.2.2.1∧
(bE p r cU).1.2.2.2.2.2.1=y9.1.2.2.2.2.2.1∧
(bE p r cU).1.2.2.2.2.2.2.1=y9.1.2.2.2.2.2.2.1∧
(bE p r cU).1.2.2.2.2.2.2.2.1=y9.1.2.2.2.2.2.2.2.1∧
(bE p r cU).1.2.2.2.2.2.2.2.2=y9.1.2.2.2.2.2.2.2.2∧
(bE p r cU).2.1=y9.2.1∧
(bE p r cU).2.2.1=y9.2.2.1∧
(bE p r cU).2.2.2.1=y9.2.2.2.1∧
(bE p r cU).2.2.2.2.2.2.2.2.2.1=y9.2.2.2.2.2.2.2.2.2.1∧
eL (bE p r cU)=y9.2.2.2.2.1∧
cY (bE p r cU)=y9.2.2.2.2.2.1∧
aP (bE p r cU)=y9.2.2.2.2.2.2.1∧
cL (bE p r cU)=y9.2.2.2.2.2.2.2.1∧
cD (bE p r cU)=y9.2.2.2.2.2.2.2.2.1∧
cr (bE p r cU)=y9.2.2.2.2.2.2.2.2.2.2∧
(0:Int)=(0:Int)∧(0:Int)=(0:Int)∧(0:Int)=(0:Int)∧false=false∧True)∧
(y4=false→
(y5,y6.1,y6.2.1,eL (bE p r s3),cY (bE p r s3),aP (bE p r s3),cL (bE p r s3),cD (bE p r s3),
y6.2.2.2.2.2.2.2.1)=
dT p r∧
True)):=by kernel_rfl
theorem akd (p:ab) (r:af) (hp:o6 p r):ai (ah ay [(160,Lr),(161,wT 161)]) Tryz.f104 LN (Y9 (p,r,())) (p,r,()):=by
 have nQ:(bA p r).length≤2000:=by
  have h:=pA p r r.2.2.2.1.length (Nat.le_refl _)
  have h2:=hp.2.1.1
  unfold bA
  omega
 obtain⟨h1,h2,h3⟩:=hp
 rw[agQ]
 refine U.mk fun y2 e2=> ?_
 have e2:y2=[]:=e2
 refine⟨c6 (by rw[e2];simp;have:=h2.1;omega) (by omega),c6 (by simp;omega) (by omega),h2,⟨0,by omega,rfl,rfl,rfl,rfl,rfl,rfl,rfl,rfl,rfl,rfl,rfl,rfl,rfl,rfl,rfl,by rw[e2];rfl,rfl,rfl,rfl,rfl,rfl,rfl,rfl,rfl,rfl,trivial⟩,fun s=>U.mk fun y4 e4=>U.mk fun y5 e5=>U.mk fun y6 e6=>U.mk fun y7 e7=>U.mk fun y8 e8=>U.mk fun y9 e9=> ?_⟩
 intro hs
 have e7:y7=bE p r s:=by rw[e7,e6,e5]
 have e8:y8=(bA p r).getD s zP:=by rw[e8,Int.toNat_natCast];rfl
 refine⟨fun h=> ?_,fun h=> ?_⟩
 ·have h:=ba e4 h
  have e9:bE p r (s+1)=y9:=by rw[e9,e8,e7];rfl
  subst e9
  refine⟨⟨by omega,by omega⟩,⟨by omega,by omega⟩,by rw[e7];exact(wM ⟨h1,h2,h3⟩ s).1,bg (by omega) (by omega),s+1,by omega,by omega,by omega,rfl,rfl,rfl,rfl,rfl,rfl,rfl,rfl,rfl,rfl,rfl,rfl,rfl,rfl,rfl,rfl,rfl,rfl,rfl,rfl,rfl,rfl,rfl,rfl,trivial⟩
 ·have hle:=br e4 h
  have:s=(bA p r).length:=by omega
  subst this
  subst e6 e5
  refine⟨?_,trivial⟩
  unfold dT iT
  rfl
theorem ady:aM Tryz.prog 104 LN:=
 aM.bZ (l:=[(160,Lr),(161,wT 161)]) (A:=Y9) aH ⟨ac1,ac0 161,trivial⟩ Tryz.func104 (by kernel_rfl) (by kernel_rfl) fun x _ hp=>akd x.1 x.2.1 hp
def Me (r:af):Prop:=(∀s∈r.2.2.2.1,xa s)∧r.2.2.2.1.length≤13∧r.2.2.2.2.1.length≤13
theorem OI {p:ab} {e i:Int} (hi:dx p (e,i)=true) {w:Int×Int} (hw:w∈bF p e i): -1≤w.1∧w.1≤3:=by
 have Kt:=uL hi
 have Kt:0≤i∧i≤3:=Kt
 have hfa:=(xB hi).2
 have hfa:0≤i∧i<cO (aI p e):=hfa
 unfold bF at hw
 rw[hi] at hw
 cases h1:aI p e==1 with
 |true=>
  rw[h1] at hw
  have hw:w=(1 - i,0):=by simpa using hw
  have hk:aI p e=1:=eq_of_beq h1
  have he:cO (aI p e)=2:=by rw[hk];unfold cO;rfl
  rw[hw]
  show -1≤1 - i∧1 - i≤3
  omega
 |false=>
  rw[h1] at hw
  cases h3:aI p e==3 with
  |true=>
   rw[h3] at hw
   have hw:w=(tk i,0):=by simpa using hw
   rw[hw]
   show -1≤tk i∧tk i≤3
   unfold tk
   cases i==0<;>cases i==1<;>cases i==2<;>simp
  |false=>
   rw[h3] at hw
   cases h2:aI p e==2 with
   |false=>rw[h2] at hw;cases hw
   |true=>
    rw[h2] at hw
    cases h0:i==0 with
    |true=>
     rw[h0] at hw
     have hw:w=(1,1)∨w=(2,2):=by simpa using hw
     rcases hw with rfl|rfl
     ·show(-1:Int)≤1∧(1:Int)≤3;decide
     ·show(-1:Int)≤2∧(2:Int)≤3;decide
    |false=>
     rw[h0] at hw
     have hw:w=(0,i):=by simpa using hw
     rw[hw]
     show(-1:Int)≤0∧(0:Int)≤3;decide
theorem Cd {r:af} {s:cv} {pos stop to:Int} (h:∀q∈r.2.2.2.1,xa q) (hs:xa s) (hl:r.2.2.2.1.length≤12) (hn:r.2.2.2.2.1.length≤r.2.2.2.1.length):Me (eK r s pos stop to):=by
 refine⟨fun q hq=> ?_,?_,?_⟩
 ·rw[jJ] at hq
  rcases List.mem_append.1 hq with hq|hq
  ·exact h q hq
  ·have:q=s:=by simpa using hq
   rw[this];exact hs
 ·rw[jJ,List.length_append];show _+1≤13;omega
 ·have:=yo r s pos stop to
  omega
theorem WM {p:ab} (hj:bR p=true):∀(n:Nat) (r:af) (x:ak) (met:List Int),Bn n r met→(∀q∈r.2.2.2.1,xa q)→(0≤x.2∧x.2≤3)→∀q∈mZ p n r x met,Me q
 |0,r,x,met,hp,_,_,q,hq=>absurd hp OL
 |n+1,r,x,met,hp,ju,hx,q,hq=>by
  obtain⟨⟨p1,p2,p3⟩,p4,p5⟩:=hp
  have hq:q∈nA p (mZ p n) r x met:=hq
  unfold nA at hq
  cases h1:bG met x.1||decide (r.2.2.2.1.length=12) with
  |true=>rw[h1] at hq;cases hq
  |false=>
   rw[h1] at hq
   have jS:r.2.2.2.1.length≠12:=of_decide_eq_false (Bool.or_eq_false_iff.1 h1).2
   cases h2:aI p x.1==4 with
   |true=>
    rw[h2] at hq
    have hq:q=eK r (x.1,x.2, -1) 0 2 (-1):=by simpa using hq
    rw[hq]
    exact Cd ju ⟨⟨by show -1≤x.2;omega,hx.2⟩,by show(-1:Int)≤ -1;decide,by show(-1:Int)≤3;decide⟩ p2 p4
   |false=>
    rw[h2] at hq
    have hq:q∈jc p (mZ p n) r x (met++[x.1]) (bF p x.1 x.2).length:=hq
    unfold jc at hq
    rw[List.take_length] at hq
    obtain⟨w,hw,hq⟩:=List.mem_flatMap.1 hq
    have hh:dx p (x.1,x.2)=true:=by
     cases hh:dx p (x.1,x.2) with
     |true=>rfl
     |false=>
      unfold bF at hw
      rw[hh] at hw
      cases hw
    have hwr:=OI hh hw
    have hs:xa (x.1,x.2,w.1):=⟨⟨by show -1≤x.2;omega,hx.2⟩,hwr⟩
    unfold qJ at hq
    cases h3:decide (0≤b8 p (x.1,w.1)) with
    |true=>
     rw[h3] at hq
     have hq:q=eK r (x.1,x.2,w.1) w.2 1 (b8 p (x.1,w.1)):=by simpa using hq
     rw[hq]
     exact Cd ju hs p2 p4
    |false=>
     rw[h3] at hq
     cases h4:(bu p (x.1,w.1)).2 with
     |false=>
      rw[h4] at hq
      have hq:q=eK r (x.1,x.2,w.1) w.2 3 (-1):=by simpa using hq
      rw[hq]
      exact Cd ju hs p2 p4
     |true=>
      rw[h4] at hq
      have hq:q∈mZ p n (eK r (x.1,x.2,w.1) w.2 0 (-1)) (bu p (x.1,w.1)).1 (met++[x.1]):=hq
      have hwk:=Cd (pos:=w.2) (stop:=0) (to:= -1) ju hs p2 p4
      have hl:(eK r (x.1,x.2,w.1) w.2 0 (-1)).2.2.2.1.length=r.2.2.2.1.length+1:=by rw[jJ];simp
      have hn:=yo r (x.1,x.2,w.1) w.2 0 (-1)
      refine WM hj n _ _ _ ⟨⟨by omega,by omega,by omega⟩,by omega,by simp;omega⟩ hwk.1 (uL (D7 hj h4)) q hq
theorem GK {p:ab} (hj:bR p=true):∀q∈(cZ p).1,Me q:=by
 intro q hq
 unfold cZ at hq
 cases h:cd (jW p) p.2.2.1.length with
 |true=>rw[h] at hq;cases hq
 |false=>
  rw[h] at hq
  have hq:q∈fL p p.2.2.1.length:=hq
  unfold fL at hq
  obtain⟨s,_,hq⟩:=List.mem_flatMap.1 hq
  unfold pr at hq
  cases h1:(lB p (s:Int)).2 with
  |false=>rw[h1] at hq;cases hq
  |true=>
   rw[h1] at hq
   cases h2:(bu p (lB p (s:Int)).1).2 with
   |false=>rw[h2] at hq;cases hq
   |true=>
    rw[h2] at hq
    exact WM hj 13 _ _ _ (S8 _ _) (fun q hq=>(by cases hq)) (uL (D7 hj h2)) q hq
theorem DF (p:ab):(cZ p).1.length≤64:=by
 unfold cZ
 cases h:cd (jW p) p.2.2.1.length with
 |true=>exact Nat.zero_le _
 |false=>exact zz h
theorem v48 (p:ab):ai (ah ay [(102,FV),(103,LO),(104,LN)]) Tryz.f48 Yw (a48 (p,())) (p,())=(
U ((0:Int),(0:Int),(0:Int),[],[],[],[],[],false) fun(y1:af)=>
cS p∧
((bV p !=(0:Int))=true→(([],[],[],[],(0:Int),(0:Int),(0:Int),(0:Int),false),[])=(cx p).1∧bV p=(cx p).2∧True)∧
((bV p !=(0:Int))=false→
p.2.2.1.length≤(1000:Nat)∧
(((cZ p).2 !=(0:Int))=true→(([],[],[],[],(0:Int),(0:Int),(0:Int),(0:Int),false),[])=(cx p).1∧(cZ p).2=(cx p).2∧True)∧
(((cZ p).2 !=(0:Int))=false→
(∃(dp:Nat),
dp≤(cZ p).1.length∧
(↑dp:Int)=(0:Int)∧
List.map (dT p) (List.take dp (cZ p).1)++List.drop dp (cZ p).1=(cZ p).1∧
aE p ((0:Int)=(0:Int)∧(0:Int)=(0:Int)∧(0:Int)=(0:Int)∧(0:Int)=(0:Int)∧false=false∧True))∧
∀(s2:Nat),
U (List.map (dT p) (List.take s2 (cZ p).1)++List.drop s2 (cZ p).1) fun(y3:List af)=>
U (decide ((↑s2:Int)<(↑y3.length:Int))) fun(y4:Bool)=>
U (y3.getD (↑s2:Int).toNat y1) fun(y5:af)=>
s2≤(cZ p).1.length→
(y4=true→
aQ (↑s2:Int) y3.length∧
o6 p y5∧
aQ (↑s2:Int) y3.length∧
bq IntKind.i64 ((↑s2:Int)+(1:Int))∧
∃(eR:Nat),
eR≤(cZ p).1.length∧
(cZ p).1.length - eR<(cZ p).1.length - s2∧
(↑eR:Int)=(↑s2:Int)+(1:Int)∧
List.map (dT p) (List.take eR (cZ p).1)++List.drop eR (cZ p).1=y3.set (↑s2:Int).toNat (dT p y5)∧
aE p ((0:Int)=(0:Int)∧(0:Int)=(0:Int)∧(0:Int)=(0:Int)∧(0:Int)=(0:Int)∧false=false∧True))∧
(y4=false→(p,y3)=(cx p).1∧(0:Int)=(cx p).2∧True)))):=by kernel_rfl
theorem b48 (p:ab) (hp:cS p):ai (ah ay [(102,FV),(103,LO),(104,LN)]) Tryz.f48 Yw (a48 (p,())) (p,()):=by
 have hB:cx p=bif bV p==0 then(bif(cZ p).2==0 then((p,(cZ p).1.map (dT p)),0) else(zC,(cZ p).2)) else(zC,bV p):=by unfold cx;rfl
 have C2:=DF p
 rw[v48,iH,iH]
 refine U.mk fun y1 e1=> ?_
 simp only[dz,true_and,and_true,Int.toNat_natCast]
 refine⟨hp,fun h=> ?_,fun h=> ?_⟩
 ·have h:(bV p==0)=false:=by simpa using h
  rw[hB,h]
  exact⟨rfl,rfl⟩
 have h:(bV p==0)=true:=by simpa using h
 have hc:bV p=0:=eq_of_beq h
 rw[h] at hB
 obtain⟨h3,h4⟩:=xM hc
 obtain⟨_,h5,_,_⟩:=xg h3
 refine⟨by omega,fun h2=> ?_,fun h2=> ?_⟩
 ·have h2:((cZ p).2==0)=false:=by simpa using h2
  rw[hB,h2]
  exact⟨rfl,rfl⟩
 have h2:((cZ p).2==0)=true:=by simpa using h2
 rw[h2] at hB
 refine⟨⟨0,by omega,rfl,rfl⟩,fun s=>U.mk fun y3 e3=>U.mk fun y4 e4=>U.mk fun y5 e5=> ?_⟩
 intro hs
 have hl3:y3.length=(cZ p).1.length:=by
  rw[e3,List.length_append,List.length_map,List.length_take,List.length_drop]
  omega
 refine⟨fun h=> ?_,fun h=> ?_⟩
 ·have h:=ba e4 h
  have dK:s<(cZ p).1.length:=by omega
  have HZ:(List.map (dT p) (List.take s (cZ p).1)).length=s:=by rw[List.length_map,List.length_take];omega
  have hd:(cZ p).1.drop s=(cZ p).1.getD s zR::(cZ p).1.drop (s+1):=by
   rw[eA zR dK]
   exact List.drop_eq_getElem_cons dK
  have e5:y5=(cZ p).1.getD s zR:=by
   rw[e5,e3,hd,List.getD_eq_getElem?_getD,List.getElem?_append_right (by omega),HZ,Nat.sub_self]
   rfl
  have mT:=GK h4 y5 (by rw[e5];exact fw zR dK)
  refine⟨⟨by omega,by omega⟩,⟨hc,⟨by have:=mT.2.1;omega,mT.1⟩,by have:=mT.2.2;omega⟩,⟨by omega,by omega⟩,bg (by omega) (by omega),s+1,by omega,by omega,by omega,?_⟩
  rw[e3,hd,List.set_append_right _ _ (by omega),HZ,Nat.sub_self,List.set_cons_zero,nW _ zR dK,List.append_assoc,e5]
  rfl
 ·have hle:=br e4 h
  have:s=(cZ p).1.length:=by omega
  subst this
  rw[hB,e3,List.take_length,List.drop_length,List.append_nil]
  exact⟨rfl,rfl⟩
theorem aho:aM Tryz.prog 48 Yw:=
 aM.bZ (l:=[(102,FV),(103,LO),(104,LN)]) (A:=a48) aH ⟨W9,adz,ady,trivial⟩ Tryz.func48 (by kernel_rfl) (by kernel_rfl) fun x _ hp=>b48 x.1 hp
theorem v13 (p:ab):ai (ah ay [(47,c47),(48,Yw)]) Tryz.f13 V0 aq (p,())=(
True∧
((!oI p)=true→[]=(ct p).1∧false=(ct p).2∧True)∧
((!oI p)=false→cS p∧(cx p).1.2=(ct p).1∧((cx p).2==(0:Int))=(ct p).2∧True)):=by kernel_rfl
theorem Vr {p:ab} (h:oI p=true):sw p=true:=by
 unfold oI at h
 rw[Bool.and_eq_true] at h
 exact h.1
theorem abi:aM Tryz.prog 13 V0:=
 aM.bZ (l:=[(47,c47),(48,Yw)]) (A:=fun _=>aq) aH ⟨ahp,aho,trivial⟩ Tryz.func13 (by kernel_rfl) (by kernel_rfl) fun x _ hp=>by
  obtain⟨p,⟨⟩⟩:=x
  rw[v13]
  refine⟨trivial,fun h=> ?_,fun h=>⟨?_,?_⟩⟩
  ·unfold ct
   have h:oI p=false:=by simpa using h
   rw[h]
   exact⟨rfl,rfl,trivial⟩
  ·have h:oI p=true:=by simpa using h
   exact It (Vr h)
  ·unfold ct
   have h:oI p=true:=by simpa using h
   rw[h]
   exact⟨rfl,rfl,trivial⟩
theorem v45:ai (ah ay [(100,TR)]) Tryz.f45 Yx aq (())=(
True∧
True∧
True∧
True∧
True∧
(((((((List.replicate (6:Nat) ([],(0:Int),(0:Int))).set (0:Nat) ([(87:UInt8)],(4:Int),(0:Int))).set (1:Nat) ([(65:UInt8)],(1:Int),(20:Int))).set (2:Nat)
([(80:UInt8)],(2:Int),(10:Int))).set
(3:Nat) ([(66:UInt8)],(1:Int),(20:Int))).set
(4:Nat) ([(67:UInt8)],(1:Int),(30:Int))).set
(5:Nat) ([(69:UInt8)],(4:Int),(0:Int)),
(((((List.replicate (5:Nat) (((0:Int),(0:Int)),(0:Int),(0:Int))).set (0:Nat) (((0:Int),(0:Int)),(1:Int),(0:Int))).set (1:Nat)
(((1:Int),(1:Int)),(2:Int),(0:Int))).set
(2:Nat) (((2:Int),(1:Int)),(3:Int),(0:Int))).set
(3:Nat) (((3:Int),(1:Int)),(5:Int),(0:Int))).set
(4:Nat) (((2:Int),(2:Int)),(4:Int),(0:Int)),
(((((List.replicate (5:Nat) ([],((0:Int),(0:Int)),false)).set (0:Nat) ([(119:UInt8)],((0:Int),(0:Int)),false)).set (1:Nat)
([(97:UInt8)],((1:Int),(1:Int)),false)).set
(2:Nat) ([(101:UInt8)],((5:Int),(0:Int)),false)).set
(3:Nat) ([(98:UInt8)],((3:Int),(0:Int)),false)).set
(4:Nat) ([(99:UInt8)],((4:Int),(0:Int)),false),
[],(10:Int),(5:Int),(15:Int),(2:Int),false)=
pM∧
True):=by kernel_rfl
theorem ahr:aM Tryz.prog 45 Yx:=
 aM.bZ (l:=[(100,TR)]) (A:=fun _=>aq) aH ⟨adB,trivial⟩ Tryz.func45 (by kernel_rfl) (by kernel_rfl) fun x _ hp=>by
  obtain⟨⟩:=x
  rw[v45]
  exact⟨trivial,trivial,trivial,trivial,trivial,rfl,trivial⟩
abbrev Jh:Ty:= .map aL aL
abbrev afe:Ty:= .map aL I
abbrev afg:Ty:= .map I (.pair I I)
abbrev aff:Ty:= .map I I
abbrev jn:Ty:= .pair PlanT (.pair Jh (.pair afe (.pair afg aff)))
abbrev aX:=ab×List (ak×ak)×List (ak×Int)×List (Int×Int×Int)×List (Int×Int)
abbrev aa4:Ty:= .lD 172 (.pair (.ref PlanT) .unit)
abbrev aa3:Ty:= .lD 173 (.pair (.ref PlanT) .unit)
abbrev aa2:Ty:= .lD 174 (.pair (.ref PlanT) .unit)
def Iv (n:Int):Bool:=(decide (97≤n)&&decide (n≤122))||(decide (65≤n)&&decide (n≤90))
def x8:bh where
 args:=[I]
 out:= .data [I]
 pre:=fun(x:Int×Unit)=>True
 fn:=fun(x:Int×Unit)=>(cO x.1,())
def KT:bh where
 args:=[I,I]
 out:= .data [I]
 pre:=fun(x:Int×Int×Unit)=>True
 fn:=fun(x:Int×Int×Unit)=>(mY x.1 x.2.1,())
def Dr:bh where
 args:=[PlanT,aL]
 out:= .data [.bool]
 pre:=fun(x:ab×ak×Unit)=>True
 fn:=fun(x:ab×ak×Unit)=>(dx x.1 x.2.1,())
def KN:bh where
 args:=[.int .u8]
 out:= .data [.bool]
 pre:=fun(x:Int×Unit)=>True
 fn:=fun(x:Int×Unit)=>(Iv x.1,())
def KV:bh where
 args:=[.str]
 out:= .data [.bool]
 pre:=fun(x:nS×Unit)=>True
 fn:=fun(x:nS×Unit)=>(kq x.1,())
def Lp:bh where
 args:=[PlanT]
 out:= .data [.bool]
 pre:=fun(x:ab×Unit)=>True
 fn:=fun(x:ab×Unit)=>(fArgs x.1,())
def Lo:bh where
 args:=[I,.ref PlanT]
 out:= .data [.str]
 pre:=fun(x:Int×ab×Unit)=>aQ x.1 x.2.1.1.length
 fn:=fun(x:Int×ab×Unit)=>((x.2.1.1.getD x.1.toNat zE).1,())
def Ln:bh where
 args:=[I,.ref PlanT]
 out:= .data [.str]
 pre:=fun(x:Int×ab×Unit)=>aQ x.1 x.2.1.2.2.1.length
 fn:=fun(x:Int×ab×Unit)=>((x.2.1.2.2.1.getD x.1.toNat zS).1,())
def Lm:bh where
 args:=[I,.ref PlanT]
 out:= .data [.str]
 pre:=fun(x:Int×ab×Unit)=>aQ x.1 x.2.1.2.2.2.1.length
 fn:=fun(x:Int×ab×Unit)=>((x.2.1.2.2.2.1.getD x.1.toNat zL).1,())
def fz (p:ab):List nS:=p.1.map fun e=>e.1
def eY (p:ab):List nS:=p.2.2.1.map fun e=>e.1
def eJ (p:ab):List nS:=p.2.2.2.1.map fun e=>e.1
def tR:bh where
 args:=[I,aa4]
 out:= .data [.bool]
 pre:=fun(x:Int×(ab×Unit)×Unit)=>x.1=(x.2.1.1.1.length:Int)
 fn:=fun(x:Int×(ab×Unit)×Unit)=>(dR (fz x.2.1.1),())
def tQ:bh where
 args:=[I,aa3]
 out:= .data [.bool]
 pre:=fun(x:Int×(ab×Unit)×Unit)=>x.1=(x.2.1.1.2.2.1.length:Int)
 fn:=fun(x:Int×(ab×Unit)×Unit)=>(dR (eY x.2.1.1),())
def tP:bh where
 args:=[I,aa2]
 out:= .data [.bool]
 pre:=fun(x:Int×(ab×Unit)×Unit)=>x.1=(x.2.1.1.2.2.2.1.length:Int)
 fn:=fun(x:Int×(ab×Unit)×Unit)=>(dR (eJ x.2.1.1),())
@[irreducible] def dS (p:ab):List (ak×ak):=p.2.1.flatMap fun j=>[(j.1,j.2),(j.2,j.1)]
@[irreducible] def m6 (p:ab):List (ak×ak):=bif bR p then dS p else[]
def Ll:bh where
 args:=[PlanT]
 out:= .data [Jh,.bool]
 pre:=fun(x:ab×Unit)=>True
 fn:=fun(x:ab×Unit)=>(m6 x.1,bR x.1,())
def Lk:bh where
 args:=[PlanT,Jh]
 out:= .data [.bool]
 pre:=fun(x:ab×List (ak×ak)×Unit)=>bR x.1=true∧x.2.1=dS x.1
 fn:=fun(x:ab×List (ak×ak)×Unit)=>(dm x.1,())
def mV (m:List (ak×ak)) (l:List Int) (out:Int):Nat→Option Int
 |0=>some out
 |k+1=>match mV m l out k with
  |none=>none
  |some o=>match aT aL m (l.getD k 0,o) with
   |none=>none
   |some q=>bif q.1==l.getD (k+1) 0 then some (1 - q.2) else none
def oW (m:List (ak×ak)) (l:List Int) (e:Int):Bool:=match aT aL m (l.getD 0 0,e) with
 |none=>false
 |some q=>q.1==l.getD 1 0
def jl (m:List (ak×ak)) (l:List Int):Int:=bif oW m l 0 then 0 else bif oW m l 1 then 1 else -1
@[irreducible] def zk (m:List (ak×ak)) (l:List Int):Bool:=
 bif decide (l.length<2) then true else bif decide (jl m l<0) then false else(mV m l (jl m l) (l.length - 1)).isSome
def xe (m:List (ak×ak)):Prop:=∀x∈m,0≤x.2.2∧x.2.2≤3
def KU:bh where
 args:=[.list I,Jh]
 out:= .data [.bool]
 pre:=fun(x:List Int×List (ak×ak)×Unit)=>xe x.2.1
 fn:=fun(x:List Int×List (ak×ak)×Unit)=>(zk x.2.1 x.1,())
def Lj:bh where
 args:=[PlanT,Jh]
 out:= .data [.bool]
 pre:=fun(x:ab×List (ak×ak)×Unit)=>bR x.1=true∧x.2.1=dS x.1
 fn:=fun(x:ab×List (ak×ak)×Unit)=>(fK x.1,())
def Li:bh where
 args:=[PlanT]
 out:= .data [.bool]
 pre:=fun(x:ab×Unit)=>oH x.1=true∧dm x.1=true
 fn:=fun(x:ab×Unit)=>(lh x.1,())
def LM:bh where
 args:=[PlanT]
 out:= .data [I]
 pre:=fun(x:ab×Unit)=>True
 fn:=fun(x:ab×Unit)=>(bV x.1,())
def uC (n:Nat) (ok:Nat→Prop) (slot id:Nat) (a b:Ty) (m:Nat→List (a.den×b.den)) (keep cy:List Nat):LA where
 σ:=Nat
 ok:=fun k=>k≤n∧ok k
 mu:=fun k=>n - k
 sl:=fun k=>[(slot,.one (.aC I (k:Int)))]
 bl:=fun k=>[(id,.map false a b (m k) none)]
 keep:=keep
 cy:=cy
def YU (x:Int×Int×Unit):eC:=bj [(5,fun _=>{
 σ:=Nat
 ok:=fun k=>k≤60∧dZ (gK x.1 x.2.1) k
 mu:=fun k=>60 - k
 sl:=fun k=>[(0,.one (.aC I (x.1 - x.2.1*((k:Int)+1)))),(5,.one (.aC I (j5 x.1 x.2.1 k)))]
 bl:=fun _=>[]
 keep:=[1]
 cy:=[]})]
def Nj (p:Nat→Prop) (k:Nat):Prop:=1≤k∧p k
def a234 (x:nS×Unit):eC:=bj [(4,fun _=>dE x.1.length (Nj (dV (jm x.1))) 3 [0] [])]
def Y3 (x:ab×Unit):eC:=bj [(4,fun _=>dE x.1.1.length (fe gB x.1.1) 56 [1,54,55] [1]),
 (15,fun _=>dE x.1.2.2.1.length (fe kY x.1.2.2.1) 91 [1,89,90] [1]),
 (21,fun _=>dE x.1.2.2.2.1.length (fe jt x.1.2.2.2.1) 103 [101,102] [])]
def gT (l:List nS) (k:Nat):List (nS×Bool):=(l.take k).map fun s=>(s,true)
def oY (l:List nS) (k:Nat):Prop:=dZ (fun i=>cd (jq l i) i) k
def Bb (l:List nS):LA:=uC l.length (oY l) 9 7 .str .bool (gT l) [1,5,8] []
def EL (x:Int×(ab×Unit)×Unit):eC:=bj [(3,fun _=>Bb (fz x.2.1.1))]
def EK (x:Int×(ab×Unit)×Unit):eC:=bj [(3,fun _=>Bb (eY x.2.1.1))]
def EJ (x:Int×(ab×Unit)×Unit):eC:=bj [(3,fun _=>Bb (eJ x.2.1.1))]
def bW (p:ab) (k:Nat):List (ak×ak):=(p.2.1.take k).flatMap fun j=>[(j.1,j.2),(j.2,j.1)]
def xI (p:ab) (k:Nat):Prop:=db (kM p) (2*k)=true
def a175 (x:ab×Unit):eC:=bj [(3,fun _=>uC x.1.2.1.length (xI x.1) 19 15 aL aL (bW x.1) [1,4,17,18] [1]),
 (12,fun _=>dE x.1.1.length (dV (ka x.1)) 76 [1,4,74,75] [1,15])]
def lE (p:ab) (k:Nat):List (ak×Bool):=(p.2.2.1.take k).map fun s=>(s.2.1,true)
def Y2 (x:ab×List (ak×ak)×Unit):eC:=bj [(3,fun _=>uC x.1.2.2.1.length (dV (kX x.1)) 17 13 aL .bool (lE x.1) [1,2,5,15,16] [2]),
 (16,fun _=>dE x.1.1.length (dV (jT x.1)) 72 [5,70,71] [13])]
def Bm (m:List (ak×ak)) (l:List Int):Nat→Int
 |0=> -1
 |1=>bif oW m l 1 then 1 else -1
 |_=>jl m l
def YV (x:List Int×List (ak×ak)×Unit):eC:=bj [(5,fun _=>{
  σ:=Nat
  ok:=fun k=>k≤2
  mu:=fun k=>2 - k
  sl:=fun k=>[(6,.one (.aC I (1 - (k:Int)))),(5,.one (.aC I (Bm x.2.1 x.1 k)))]
  bl:=fun _=>[]
  keep:=[0,1]
  cy:=[]}),
 (13,fun _=>{
  σ:=Nat×Int
  ok:=fun s=>s.1<x.1.length∧mV x.2.1 x.1 (jl x.2.1 x.1) s.1=some s.2
  mu:=fun s=>x.1.length - s.1
  sl:=fun s=>[(9,.one (.aC I ((s.1:Int)+1))),(5,.one (.aC I s.2))]
  bl:=fun _=>[]
  keep:=[0,1]
  cy:=[]})]
def uy (p:ab) (i k:Nat):List (Int×Bool):=(kJ p i++(p.2.2.2.1.getD i zL).2.take k).map fun e=>(e,true)
def Gw (p:ab) (i k:Nat):Prop:=dV (lR p i) k∧fe (mS p) (p.2.2.2.1.getD i zL).2 k
def Y1 (x:ab×List (ak×ak)×Unit):eC:=bj [(3,fun _=>uC x.1.2.2.2.1.length (dV (jd x.1)) 14 10 I .bool (fun k=>uy x.1 k 0) [1,2,5,12,13] [2]),
 (8,fun S=>uC (x.1.2.2.2.1.getD (dC S 14).toNat zL).2.length (Gw x.1 (dC S 14).toNat) 25 10 I .bool (uy x.1 (dC S 14).toNat) [1,2,5,7,12,13,14,23,24] [2,7])]
def Y0 (x:ab×Unit):eC:=bj [(4,fun _=>dE x.1.2.2.1.length (fe (jM x.1) x.1.2.2.1) 22 [1,20,21] [1]),
 (11,fun _=>dE x.1.1.length (fe (ij x.1) x.1.1) 47 [1,45,46] [1])]
end YtjnappfomhkeeaaGreat
end Go.Proofs
end
